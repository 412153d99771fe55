/-
  TextBack.
-/
import Derived.Test.YtnbiofcfphpikaaTxW
namespace Go.Proofs.Ytnbiofcfphpikaa
open Go.RowKit

/-- What leaves the space's blocks alone, and other blocks beside. -/
theorem SpA.move {w wr w' : World} {R R' G : Nat → Prop} {sp N : Nat} {M : Mp} {held : List Int} {n F : Nat} (h : SpA w wr R sp N M held n F) (hk : Keeps G wr w') (hG : ∀ k, G k → k < wr.heap.size → R k ∧ w.heap.size ≤ k)
    (hR : ∀ k, R' k → (R k ∨ wr.heap.size ≤ k) ∧ k < w'.heap.size) : SpA w w' R' sp N M held n F := by
  have h' := h.other hk hG
  obtain ⟨B, hv, H, h1, h2, h3, h4, h5, h6⟩ := h
  have hfp : ∀ k, B.fp k → k < wr.heap.size := fun k hk => h1.heap.fp_lt hk
  have hhv : ∀ k, hv.ownBlock = some k → k < wr.heap.size := fun k hk => Own.lt h1.ints k hk
  have hsp := h1.spLt
  refine ⟨B, hv, H, h1.other hk (fun k hf hg => (h6 k (hG k hg (hfp k hf)).1).1 hf) (fun hg => (h6 sp (hG sp hg hsp).1).2.1 rfl) (fun k he hg => (h6 k (hG k hg (hhv k he)).1).2.2.1 he) (fun k hk' hg => ?_), h2, h3, h4, h5, fun k hk' => ?_⟩
  · have := h1.keeps.size
    have := (hG k hg (by omega)).2
    omega
  · have hr := hR k hk'
    rcases hr.1 with hr1 | hr1
    · have := h6 k hr1
      exact ⟨this.1, this.2.1, this.2.2.1, hr.2⟩
    · exact ⟨fun hf => by have := hfp k hf; omega, by omega, fun he => by have := hhv k he; omega, hr.2⟩

/-- The words gathered so far are what is held. -/
structure Tb (w wr : World) (sp : Nat) (v : Value) (xs : Nat → ByteArray) (M : Mp) (l : List Nat) (j : Nat) : Prop where
  sp : SpA w wr (fun k => v.ownBlock = some k) sp 1024 M (ofNats l) 0 (1 + 3 * j)
  ints : Ints wr v (ofNats l)
  fresh : ∀ g, v.ownBlock = some g → w.heap.size ≤ g
  len : l.length = j
  tx : ∀ i, i < j → TxW M (l.getD i 0) (xs i)
def TbS (w wr : World) (sp : Nat) (v : Value) (xs : Nat → ByteArray) (j : Nat) : Prop := ∃ M l, Tb w wr sp v xs M l j
theorem ofNats_snoc (l : List Nat) (x : Nat) : ofNats (l ++ [x]) = ofNats l ++ [(x : Int)] := by unfold ofNats; simp
/-- Behind New, Hold and append. -/
theorem Tb.next {w wr wa wc : World} {sp : Nat} {v : Value} {xs : Nat → ByteArray} {M M' : Mp} {l : List Nat} {j x : Nat} {o : Obj} {g cap : Nat} (h : Tb w wr sp v xs M l j)
    (h1 : Keeps (fun k => ¬ v.ownBlock = some k) wr wa) (h2 : SpA w wa (fun k => v.ownBlock = some k) sp 1024 M' (ofNats l ++ [(x : Int)]) 0 (1 + 3 * j + 3))
    (hM : ∀ c, M c ≠ none → M' c = M c) (hx : TxW M' x (xs j))
    (hO : Own wc 3 (.slice (some ⟨g, 0, none⟩) (l.length + 1) cap) (l.length + 1) (setf (fun i => .int .i64 ((ofNats l).getD i 0)) l.length (.int .i64 (x : Int))))
    (hK : Keeps (fun b => v.ownBlock = some b) (wa.alloc o) wc) (hg : v.ownBlock = some g ∨ g = (wa.alloc o).heap.size) : Tb w wc sp (.slice (some ⟨g, 0, none⟩) (l.length + 1) cap) xs M' (l ++ [x]) (j + 1) := by
  have hsz : (wa.alloc o).heap.size = wa.heap.size + 1 := by simp
  have hgc : g < wc.heap.size := Own.lt hO g rfl
  have hws := h2.keeps.size
  have e1 : (ofNats l).length = l.length := ofNats_length l
  refine ⟨?_, ?_, ?_, by simp [h.len], ?_⟩
  · rw [ofNats_snoc, show 1 + 3 * (j + 1) = 1 + 3 * j + 3 by omega]
    refine (h2.alloc o).move hK (fun k hk hlt => ⟨hk, h.fresh k hk⟩) (fun k hk => ?_)
    simp [Value.ownBlock] at hk
    subst hk
    refine ⟨?_, hgc⟩
    rcases hg with e | e
    · exact .inl e
    · exact .inr (by omega)
  · rw [ofNats_snoc]
    refine Ints.snoc ?_
    rw [e1]
    exact hO
  · intro k hk
    simp [Value.ownBlock] at hk
    subst hk
    rcases hg with e | e
    · exact h.fresh g e
    · omega
  · intro i hi
    have hll := h.len
    by_cases e : i = j
    · subst e
      rw [List.getD_eq_getElem?_getD, List.getElem?_append_right (by omega), show i - l.length = 0 by omega]
      exact hx
    · rw [List.getD_eq_getElem?_getD, List.getElem?_append_left (by omega), ← List.getD_eq_getElem?_getD]
      exact (h.tx i (by omega)).other hM

theorem wrap_byte {b : Nat} (h : b < 256) : wrap64 (b : Int) = (b : Int) := by unfold wrap64; omega
theorem and255 (x : Int) : bits .and .i64 x 255 = x % 256 := by
  have := bits_and_mask (x := x) 8 (by omega)
  simpa using this

set_option maxRecDepth 100000 in
set_option maxHeartbeats 4000000 in
theorem textBack_calls (w : World) (a : Option Addr) (len cap : Nat) (xs : Nat → ByteArray) (hlen : len ≤ 50) (hA : Arg w a len (fun i => .string (xs i))) (hsz : ∀ i, i < len → (xs i).size ≤ maxLen) :
    Calls Try.prog 7 #[.slice a len cap] w fun e w' => e = .returned (.bool true) ∧ Keeps (fun _ => False) w w' := by
  have HAN := Lib.hid (anchor13_calls w)
  have HNW := Lib.hid (fun w => sNew w 65536 (by omega) (by omega))
  have d1 : decide ((50 : Int) < (len : Int)) = false := decide_eq_false (by omega)
  have HAR := Lib.hid hA
  have HSZ := Lib.hid hsz
  obtain ⟨i0, hi, hz0, hz1, hz2⟩ := info_parts Try.info_int
  clear hA hsz
  go_enter Try.func7, Try.ntmps7
  go_wp2_with fail
  refine HAN.out.mono ?_
  rintro e w0 ⟨rfl, hk0⟩
  have HK0 := Lib.hid hk0
  clear hk0
  go_wp2_with fail
  refine (HNW.out w0).mono ?_
  rintro e w1 ⟨sp, rfl, h1⟩
  have HST : Hid (TbS w0 w1 sp (.slice none 0 0) xs 0) := ⟨_, [], h1.out.sub (fun k hk => by simp [Value.ownBlock] at hk), Ints.nil _, fun g hg => by simp [Value.ownBlock] at hg, rfl, fun i hi => by omega⟩
  clear h1 HNW HAN
  go_wp2
  obtain ⟨wo, rfl⟩ : ∃ wo : World, wo = w1 := ⟨_, rfl⟩
  go_loopw [4, 26] (fun vs i wr => ∃ v, v = vs ∧ ∃ j : Nat, j ≤ len ∧ i = .int .i64 j ∧ Hid (TbS w0 wr sp v xs j)) (fun _ i _ => len - (intOf i).toNat)
  case atStart => exact ⟨_, rfl, 0, Nat.zero_le _, rfl, HST.out⟩
  case round =>
    clear HST
    obtain ⟨v, rfl, j, hj, rfl, hD⟩ := hrel
    by_cases hlt : j < len
    · have dl : decide (j < len) = true := decide_eq_true hlt
      obtain ⟨M, l, hT⟩ := hD.out
      obtain ⟨ab, ao, rfl, hcell⟩ := (HAR.out.keep (HK0.out.trans hT.sp.keeps (fun _ _ h => h))).get hlt
      have hsj := HSZ.out j hlt
      unfold maxLen at hsj
      by_cases hbig : 1000 < (xs j).size
      · have d2 : decide ((1000 : Int) < ((xs j).size : Int)) = true := decide_eq_true (by omega)
        have HKF := Lib.hid (HK0.out.trans hT.sp.keeps (fun _ _ h => h))
        generalize xs j = s at *
        clear hT hD
        go_wp2
        go_ret
        exact ⟨rfl, HKF.out⟩
      · have d2 : decide ((1000 : Int) < ((xs j).size : Int)) = false := decide_eq_false (by omega)
        have H1 := Lib.hid (tNewW hT.sp (xs j) (by omega) 3 (by unfold HS.spansOf; split <;> omega) (by omega))
        have HX : Hid (∀ (wa wc : World) (M' : Mp) (x : Nat) (o : Obj) (g cap : Nat), Keeps (fun k => ¬ v.ownBlock = some k) wr wa → SpA w0 wa (fun k => v.ownBlock = some k) sp 1024 M' (ofNats l ++ [(x : Int)]) 0 (1 + 3 * j + 3) → (∀ c, M c ≠ none → M' c = M c) → TxW M' x (xs j) →
            Own wc 3 (.slice (some ⟨g, 0, none⟩) (l.length + 1) cap) (l.length + 1) (setf (fun i => .int .i64 ((ofNats l).getD i 0)) l.length (.int .i64 (x : Int))) → Keeps (fun b => v.ownBlock = some b) (wa.alloc o) wc → (v.ownBlock = some g ∨ g = (wa.alloc o).heap.size) → TbS w0 wc sp (.slice (some ⟨g, 0, none⟩) (l.length + 1) cap) xs (j + 1)) :=
          fun wa wc M' x o g cap h1 h2 h3 h4 h5 h6 h7 => ⟨_, _, hT.next h1 h2 h3 h4 h5 h6 h7⟩
        have HOW : Hid (Own wr 3 v l.length (fun i => .int .i64 ((ofNats l).getD i 0))) := by
          have := hT.ints
          unfold Ints at this
          rw [ofNats_length] at this
          exact this
        have hll : l.length ≤ 60 := by have := hT.len; omega
        have HHL : Hid ((ofNats l).length ≤ 10000000) := by show _ ≤ _; rw [ofNats_length]; omega
        have hzero : (xs j).size = 0 ∨ 0 < (xs j).size := by omega
        have HSJ : Hid ((xs j).size ≤ 1000) := by show _ ≤ _; omega
        generalize hs : xs j = s at *
        clear hs hT hD
        have HN0 : Hid (M 0 = none ∨ True) := .inr trivial
        rcases hzero with h0 | h0
        · obtain rfl := empty_of_size h0
          have e1 := empty_toList
          have e2 : ByteArray.empty.toList.isEmpty = true := by rw [e1]; rfl
          have es : ByteArray.empty.size = 0 := rfl
          clear d2 h0 hbig hsj
          go_wp2_with fail
          refine H1.out.mono ?_
          rintro e w2 ⟨x, rfl, hx1, hx2, h2⟩
          have hxz : x = 0 := by
            obtain ⟨M', hS', -, hT', -⟩ := h2.out
            exact (hT'.zero hS'.no0).1 rfl
          subst hxz
          obtain ⟨M', hS', hK', hT', hM', -⟩ := h2.out
          have H2 := Lib.hid (sHold hS' ((0 : Nat) : Int) (wf_addr (by omega)) HHL.out)
          have HT' := Lib.hid hT'
          have HM' := Lib.hid hM'
          have HK' := Lib.hid hK'
          clear h2 hS' hT' hM' hK' hx1 hx2 H1
          go_wp2_with fail
          refine H2.out.mono ?_
          rintro e w3 ⟨rfl, h3⟩
          have HK3 := Lib.hid (HK'.out.trans h3.out.2 (fun _ _ h => h))
          have HO3 := Lib.hid (HOW.out.keep HK3.out (fun k hk hn => hn hk))
          have HS3 := Lib.hid h3.out.1
          clear h3 H2 HK' hcell
          go_wp2_with (at_builtin; refine wpList_app1 _ rfl _ _ 22 rfl 3 i0 (.int .i64 0) 8 Try.underlying_ints hi hz0 hz1 hz2 rfl (by decide) _ l.length _ rfl (HO3.out.alloc _) _ 1 (.int .i64 ((0 : Nat) : Int)) rfl (by first | exact World.cell?_alloc_new _ _ _ 0 | exact cell_newD _ _ _ _) rfl (by omega) ?_; intro g cap w4 hO4 hK4 hg4)
          have HY := Lib.hid (HX.out _ _ _ _ _ _ _ HK3.out HS3.out HM'.out HT'.out hO4 hK4 hg4)
          clear hO4 hK4 hg4 HX HO3 HS3 HK3 HOW
          go_wp2
          go_roundw
          case rel => exact ⟨_, rfl, j + 1, by omega, by go_num, HY⟩
          case measure => simp [intOf]; omega
        · have e1 := toList_ne h0
          have e2 := toList_ne' h0
          clear hbig hsj
          go_wp2_with fail
          refine H1.out.mono ?_
          rintro e w2 ⟨x, rfl, hx1, hx2, h2⟩
          have hxz : x ≠ 0 := by
            obtain ⟨M', hS', -, hT', -⟩ := h2.out
            exact ((hT'.zero hS'.no0).2 h0).2
          have b0 : ((x : Int) == 0) = false := by simp; omega
          have b2 : ((x : Int) % 2 == 0) = true := by simp; omega
          have b3 : ((x : Int) % 2 != 0) = false := by simp; omega
          obtain ⟨M', hS', hK', hT', hM', -⟩ := h2.out
          have H2 := Lib.hid (sHold hS' (x : Int) (wf_addr hx1) HHL.out)
          have HT' := Lib.hid hT'
          have HM' := Lib.hid hM'
          have HK' := Lib.hid hK'
          clear h2 hS' hT' hM' hK' hx1 hx2 H1 h0 hxz
          go_wp2_with fail
          refine H2.out.mono ?_
          rintro e w3 ⟨rfl, h3⟩
          have HK3 := Lib.hid (HK'.out.trans h3.out.2 (fun _ _ h => h))
          have HO3 := Lib.hid (HOW.out.keep HK3.out (fun k hk hn => hn hk))
          have HS3 := Lib.hid h3.out.1
          clear h3 H2 HK' hcell
          go_wp2_with (at_builtin; refine wpList_app1 _ rfl _ _ 22 rfl 3 i0 (.int .i64 0) 8 Try.underlying_ints hi hz0 hz1 hz2 rfl (by decide) _ l.length _ rfl (HO3.out.alloc _) _ 1 (.int .i64 (x : Int)) rfl (by first | exact World.cell?_alloc_new _ _ _ 0 | exact cell_newD _ _ _ _) rfl (by omega) ?_; intro g cap w4 hO4 hK4 hg4)
          have HY := Lib.hid (HX.out _ _ _ _ _ _ _ HK3.out HS3.out HM'.out HT'.out hO4 hK4 hg4)
          clear hO4 hK4 hg4 HX HO3 HS3 HK3 HOW
          go_wp2
          go_roundw
          case rel => exact ⟨_, rfl, j + 1, by omega, by go_num, HY⟩
          case measure => simp [intOf]; omega
    · obtain rfl : j = len := by omega
      have dl : decide (j < j) = false := by simp
      obtain ⟨M, l, hT⟩ := hD.out
      have hll := hT.len
      have HTX : Hid (∀ i, i < j → TxW M (l.getD i 0) (xs i)) := hT.tx
      have HSP : Hid (∀ wx, Keeps (fun _ => False) wr wx → SpA w0 wx (fun k => v.ownBlock = some k) sp 1024 M (ofNats l) 0 (1 + 3 * j) ∧ Keeps (fun _ => False) w0 wx) := fun wx hk => ⟨hT.sp.other0 hk, hT.sp.keeps.trans hk (fun _ _ h => h)⟩
      have HIN : Hid (∀ wx, Keeps (fun _ => False) wr wx → Ints wx v (ofNats l)) := fun wx hk => hT.ints.keep hk (fun _ _ h => h)
      have HL : Hid (∀ i, i < j → (ofNats l).getD i 0 = ((l.getD i 0 : Nat) : Int)) := by
        intro i hi
        unfold ofNats
        simp [List.getD_eq_getElem?_getD, show i < l.length by omega]
      have HLL : Hid ((ofNats l).length = j) := by show _ = _; rw [ofNats_length, hll]
      have HKR : Hid (Keeps (fun _ => False) wr wr) := Keeps.refl _ _
      clear hT hD hll
      go_wp2
      obtain ⟨wo2, rfl⟩ : ∃ wo : World, wo = wr := ⟨_, rfl⟩
      go_loopw [63] (fun i wx => ∃ t : Nat, t ≤ j ∧ i = .int .i64 t ∧ Hid (Keeps (fun _ => False) wo2 wx)) (fun i _ => j - (intOf i).toNat)
      case atStart => exact ⟨0, Nat.zero_le _, rfl, HKR.out⟩
      case round =>
        obtain ⟨t, ht, rfl, hK⟩ := hrel
        by_cases hlt2 : t < j
        · have dt : decide (t < j) = true := decide_eq_true hlt2
          have hsp := HSP.out wr hK.out
          obtain ⟨ab, ao, rfl, hcell⟩ := (HAR.out.keep (HK0.out.trans hsp.2 (fun _ _ h => h))).get hlt2
          obtain ⟨g, cp, rfl, hcap, -, hcells, -⟩ := (HIN.out wr hK.out).some_shape (by rw [HLL.out]; omega)
          rw [HLL.out] at hcells hcap
          have hcellT := hcells t hlt2
          rw [HL.out t hlt2] at hcellT
          have hx := HTX.out t hlt2
          have hsz := HSZ.out t hlt2
          unfold maxLen at hsz
          have hF0 : M 0 = none := hsp.1.no0
          have hzz := hx.zero hF0
          have H1 := Lib.hid (tBytesW hsp.1 hx none 0 0)
          have HX := Lib.hid hx
          have HCW : Hid (∀ wx, Keeps (fun _ => False) wr wx → wx.cell? ⟨g, t, none⟩ = some (.int .i64 ((l.getD t 0 : Nat) : Int))) := fun wx hk => hk.cell0 hcellT
          have HSP2 : Hid (∀ wx, Keeps (fun _ => False) wr wx → SpA w0 wx (fun k => (Value.slice (some ⟨g, 0, none⟩) j cp).ownBlock = some k) sp 1024 M (ofNats l) 0 (1 + 3 * j) ∧ Keeps (fun _ => False) wo2 wx) := fun wx hk => ⟨hsp.1.other0 hk, hK.out.trans hk (fun _ _ h => h)⟩
          have hhl : (Value.slice (some ⟨g, 0, none⟩) (ofNats l).length cp) = .slice (some ⟨g, 0, none⟩) j cp := by rw [HLL.out]
          have HIN2 := HIN
          rw [hhl] at *
          clear hsp hcells hK hhl
          have hzero : (xs t).size = 0 ∨ 0 < (xs t).size := by omega
          generalize xs t = s at *
          generalize l.getD t 0 = x at *
          rcases hzero with h0 | h0
          · obtain rfl := empty_of_size h0
            have e1 := empty_toList
            have e2 : ByteArray.empty.toList.isEmpty = true := by rw [e1]; rfl
            obtain rfl := hzz.1 rfl
            clear hzz hx
            go_wp2_with fail
            refine H1.out.mono ?_
            rintro e w2 ⟨rfl, hk2⟩
            have HK2 := Lib.hid ((HSP2.out _ hk2).2)
            clear hk2 hcellT hcell
            go_wp2
            go_roundw
            case rel => exact ⟨t + 1, by omega, by go_num, HK2⟩
            case measure => simp [intOf]; omega
          · have e1 := toList_ne h0
            have e2 := toList_ne' h0
            have hx0 := (hzz.2 h0).2
            rcases HX.out with ⟨hbad, _⟩ | ⟨b, hb, hT⟩
            · omega
            have hss := hT.ss
            have hle := hT.le
            obtain ⟨nw, hn⟩ : ∃ nw : Nat, nw = (s.size + 7) / 8 := ⟨_, rfl⟩
            have hn2 : ((s.size : Int) + 7) / 8 = (nw : Int) := by omega
            have hbs : bs (some b) = (nw : Int) + 1 := by show (b.s : Int) = _; omega
            have hbk : bk (some b) = 1 := hT.kk
            have hbm : bm (some b) = 0 := hT.mm
            have H2 : Hid (∀ wx, Keeps (fun _ => False) wr wx → Calls Try.prog 27 #[.pointer (some ⟨sp, 0, none⟩), .int .i64 x] wx fun e w' => e = .returned (.tuple #[.int .i64 1, .int .i64 ((nw : Int) + 1), .int .i64 0]) ∧ ∃ q, w' = wx.drewN q) := by
              intro wx hk
              have := sHead (HSP2.out wx hk).1 (x : Int)
              rwa [look_nat, hb, hbk, hbs, hbm] at this
            have H3 : Hid (∀ wx, Keeps (fun _ => False) wr wx → Calls Try.prog 29 #[.pointer (some ⟨sp, 0, none⟩), .int .i64 x, .int .i64 0] wx fun e w' => e = .returned (.int .i64 s.size) ∧ ∃ q, w' = wx.drewN q) := by
              intro wx hk
              have := sGet (HSP2.out wx hk).1 (x : Int) 0
              have e0 : mget M (x : Int) 0 = (s.size : Int) := (mget_at hb 0 rfl (by omega)).trans hT.w0
              rwa [e0] at this
            have H4 : Hid (∀ (k : Nat) wx, k < nw → Keeps (fun _ => False) wr wx → Calls Try.prog 29 #[.pointer (some ⟨sp, 0, none⟩), .int .i64 x, .int .i64 (1 + (k : Int))] wx fun e w' => e = .returned (.int .i64 (wrd s k 8)) ∧ ∃ q, w' = wx.drewN q) := by
              intro k wx hk2 hk
              have := sGet (HSP2.out wx hk).1 (x : Int) (1 + (k : Int))
              have e0 : mget M (x : Int) (1 + (k : Int)) = wrd s k 8 := (mget_at hb (k + 1) (by omega) (by omega)).trans (hT.ww k (by omega))
              rwa [e0] at this
            have hnb : nw ≤ 2100 := by omega
            have hszle : s.size ≤ 16384 := hle
            have HNW := Lib.hid (show nw = (s.size + 7) / 8 from hn)
            clear hbs hbk hbm hss hT hb hzz hx hn hx0 hsz hle
            go_wp2_with fail
            refine H1.out.mono ?_
            rintro e w2 ⟨rfl, hk2⟩
            have hc2 := HCW.out _ hk2
            have HK2 := Lib.hid hk2
            have H2' := Lib.hid (H2.out _ hk2)
            have H3' := Lib.hid (fun q => H3.out (w2.drewN q) (hk2.drewN q))
            have hc2q : ∀ q, (w2.drewN q).cell? ⟨g, t, none⟩ = some (.int .i64 (x : Int)) := fun q => hc2
            clear hk2 hcellT hcell H1
            go_wp2_with fail
            refine H2'.out.mono ?_
            rintro e w3 ⟨rfl, q3, rfl⟩
            go_wp2_with fail
            refine (H3'.out q3).mono ?_
            rintro e w4 ⟨rfl, q4, rfl⟩
            have HK5 : Hid (Keeps (fun _ => False) wr (w2.drewN (q3 + q4))) := HK2.out.drewN _
            clear hc2 hc2q H2' H3' HK2
            go_wp2
            clear hn2
            obtain ⟨wo3, rfl⟩ : ∃ wo : World, wo = wr := ⟨_, rfl⟩
            go_loopw [14] (fun i wx => ∃ u : Nat, u ≤ 8 * nw ∧ i = .int .i64 u ∧ Hid (Keeps (fun _ => False) wo3 wx)) (fun i _ => 8 * nw - (intOf i).toNat)
            case atStart => exact ⟨0, Nat.zero_le _, rfl, HK5.out⟩
            case round =>
              obtain ⟨u, hu, rfl, hK⟩ := hrel
              by_cases hlt3 : u < 8 * nw
              · have du : decide ((u : Int) < 8 * (nw : Int)) = true := decide_eq_true (by omega)
                obtain ⟨k, hk⟩ : ∃ k : Nat, (u : Int) / 8 = (k : Int) := ⟨u / 8, by omega⟩
                obtain ⟨r, hr⟩ : ∃ r : Nat, (u : Int) % 8 = (r : Int) := ⟨u % 8, by omega⟩
                have hr8 : r < 8 := by omega
                have hu8 : 8 * k + r = u := by omega
                have hkn : k < nw := by omega
                have hcW := HCW.out wr hK.out
                have H5 := Lib.hid (H4.out k wr hkn hK.out)
                have hby := byte_of s k hr8
                rw [hu8] at hby
                have hub : u < 20000 := by omega
                have hbyte : byt s u < 256 := byt_lt s u
                have HKq : Hid (∀ q, Keeps (fun _ => False) wo3 (wr.drewN q)) := fun q => hK.out.drewN q
                by_cases hin : u < s.size
                · have di : decide (u < s.size) = true := decide_eq_true hin
                  have hbi := byt_in hin
                  rw [hbi] at hby
                  have hlt256 := (s[u]'hin).toNat_lt
                  have hw64 : wrap64 ((s[u]'hin).toNat : Int) = ((s[u]'hin).toNat : Int) := wrap_byte hlt256
                  have hand : bits .and .i64 (wrd s k 8 / 2 ^ (8 * r)) 255 = ((s[u]'hin).toNat : Int) := by rw [and255, hby]
                  clear hu8 hK hbi hbyte
                  generalize wrd s k 8 = z at *
                  go_wp2_with fail
                  refine H5.out.mono ?_
                  rintro e w5 ⟨rfl, q5, rfl⟩
                  go_wp2
                  go_roundw
                  case rel => exact ⟨u + 1, by omega, by go_num, HKq.out q5⟩
                  case measure => simp [intOf]; omega
                · have di : decide (u < s.size) = false := decide_eq_false hin
                  have hbi := byt_out (s := s) (i := u) (by omega)
                  rw [hbi] at hby
                  have hand : bits .and .i64 (wrd s k 8 / 2 ^ (8 * r)) 255 = 0 := by rw [and255, hby]; rfl
                  clear hu8 hK hbi hbyte
                  generalize wrd s k 8 = z at *
                  go_wp2_with fail
                  refine H5.out.mono ?_
                  rintro e w5 ⟨rfl, q5, rfl⟩
                  go_wp2
                  go_roundw
                  case rel => exact ⟨u + 1, by omega, by go_num, HKq.out q5⟩
                  case measure => simp [intOf]; omega
              · have du : decide ((u : Int) < 8 * (nw : Int)) = false := decide_eq_false (by omega)
                have HK6 := Lib.hid ((HSP2.out _ hK.out).2)
                clear hK
                go_wp2
                go_roundw
                case rel => exact ⟨t + 1, by omega, by go_num, HK6⟩
                case measure => simp [intOf]; omega
        · obtain rfl : t = j := by omega
          have dt : decide (t < t) = false := by simp
          have HKF := Lib.hid (HK0.out.trans (HSP.out wr hK.out).2 (fun _ _ h => h))
          clear hK
          go_wp2
          go_ret
          exact ⟨rfl, HKF.out⟩

set_option maxRecDepth 100000 in
set_option maxHeartbeats 4000000 in
theorem textBack_law (a : Option Addr) (len cap : Nat) (xs : Nat → ByteArray) (w : World) (hA : Arg w a len (fun i => .string (xs i))) (hs : ∀ i, i < len → (xs i).size ≤ maxLen) :
    Calls Try.prog 7 #[.slice a len cap] w fun e w' => e = .returned (.bool true) ∧ Below w.heap.size w w' := by
  have HAN := Lib.hid (anchor13_calls w)
  by_cases h1 : (50 : Int) < (len : Int)
  · have d1 : decide ((50 : Int) < (len : Int)) = true := decide_eq_true h1
    clear hA hs
    go_enter Try.func7, Try.ntmps7
    go_wp2_with fail
    refine HAN.out.mono ?_
    rintro e w0 ⟨rfl, hk0⟩
    have HK0 := Lib.hid hk0
    clear hk0
    go_wp2
    go_ret
    exact ⟨rfl, HK0.out.below (fun _ _ h => h)⟩
  have d1 : decide ((50 : Int) < (len : Int)) = false := decide_eq_false h1
  exact (textBack_calls w a len cap xs (by omega) hA hs).mono fun e w' ⟨he, hk⟩ => ⟨he, hk.below (fun _ _ h => h)⟩
end Go.Proofs.Ytnbiofcfphpikaa
