/-
  The walk of sweep.Collect.
-/
import Derived.Test.YtnbiofcfphpikaaV3
import Derived.Test.YtnbiofcfphpikaaSorted
namespace Go.Proofs.Ytnbiofcfphpikaa
open Go.RowKit

namespace HS
/-- What is left when those of L that S doesn't name are gone. -/
structure Part (H H' : HS) (L S : List Int) : Prop where
  wf : H'.Wf
  n : H'.n = H.n
  words : H'.words = H.words
  gone : ∀ b : Nat, ((b : Int) ∈ L ∧ (b : Int) ∉ S) → H'.room b = 0
  left : ∀ b : Nat, ¬ ((b : Int) ∈ L ∧ (b : Int) ∉ S) → H'.room b = H.room b
theorem Part.start {H : HS} (hW : H.Wf) (S : List Int) : Part H H [] S := ⟨hW, rfl, rfl, fun b h => by simp at h, fun _ _ => rfl⟩
theorem Part.keep {H H' : HS} {L S : List Int} {x : Int} (h : Part H H' L S) (hx : x ∈ S) : Part H H' (L ++ [x]) S := by
  refine ⟨h.wf, h.n, h.words, fun b hb => h.gone b ⟨?_, hb.2⟩, fun b hb => h.left b fun hc => hb ⟨List.mem_append_left _ hc.1, hc.2⟩⟩
  rcases List.mem_append.1 hb.1 with h1 | h1
  · exact h1
  · rw [List.mem_singleton] at h1; rw [h1] at hb; exact absurd hx hb.2
theorem Part.free {H H' : HS} {L S : List Int} {a : Nat} (h : Part H H' L S) (ha : H.room a ≠ 0) (hL : (a : Int) ∉ L) (hS : (a : Int) ∉ S) : H'.room a ≠ 0 ∧ Part H (H'.freeAt a) (L ++ [(a : Int)]) S := by
  have h0 : H'.room a ≠ 0 := by rw [h.left a (fun hc => hL hc.1)]; exact ha
  have hT := h.wf.free_takes h0
  refine ⟨h0, hT.wf, hT.n.trans h.n, hT.words.trans h.words, fun b hb => ?_, fun b hb => ?_⟩
  · by_cases e : b = a
    · subst e; exact hT.is
    · rw [hT.other b e]
      refine h.gone b ⟨?_, hb.2⟩
      rcases List.mem_append.1 hb.1 with h1 | h1
      · exact h1
      · rw [List.mem_singleton] at h1; omega
  · by_cases e : b = a
    · subst e; exact absurd ⟨List.mem_append_right _ (List.mem_singleton.2 rfl), hS⟩ hb
    · rw [hT.other b e]; exact h.left b fun hc => hb ⟨List.mem_append_left _ hc.1, hc.2⟩
/-- H' is what is left of H behind a collection from these roots; c have gone. -/
structure Swept (H H' : HS) (roots : List Int) (c : Nat) : Prop where
  wf : H'.Wf
  n : H'.n = H.n
  words : H'.words = H.words
  kept : ∀ b : Nat, H.Live roots b → H'.room b = H.room b
  gone : ∀ b : Nat, ¬ H.Live roots b → H'.room b = 0
  count : c + H'.blocks.length = H.blocks.length
end HS

theorem Arg.keepF {w w' : World} {a : Option Addr} {len : Nat} {f : Nat → Value} {F : Nat → Prop} (h : Arg w a len f) (hk : Keeps F w w') (hF : ∀ ad : Addr, a = some ad → ¬ F ad.block) : Arg w' a len f := by
  rcases h with h | ⟨b, o, rfl, h2⟩
  · exact .inl h
  · exact .inr ⟨b, o, rfl, fun i hi => hk.cell (h2 i hi) (hF ⟨b, o, none⟩ rfl)⟩

structure CL (w wr : World) (B : HB) (H : HS) (a : Option Addr) (S : List Int) (k c : Nat) (H' : HS) : Prop where
  heap : HeapAt wr B H'
  part : HS.Part H H' ((ofNats H.blocks).take k) S
  count : c = (((ofNats H.blocks).take k).filter (fun x => !S.contains x)).length
  marks : Marks wr w.heap.size S
  arg : Arg wr a H.blocks.length (fun i => .int .i64 ((ofNats H.blocks).getD i 0))
  keeps : Keeps B.wr w wr

theorem take_next {l : List Int} {k : Nat} (h : k < l.length) : l.take (k + 1) = l.take k ++ [l.getD k 0] := by
  rw [List.take_add_one, List.getElem?_eq_getElem h, List.getD_eq_getElem?_getD, List.getElem?_eq_getElem h]
  rfl
theorem not_in_take {l : List Int} (hn : l.Nodup) {k : Nat} (h : k < l.length) : l.getD k 0 ∉ l.take k := by
  intro hm
  have e : l = l.take k ++ l.drop k := (List.take_append_drop k l).symm
  rw [e] at hn
  have hd : l.getD k 0 ∈ l.drop k := by
    rw [List.mem_iff_getElem?]
    exact ⟨0, by rw [List.getElem?_drop, Nat.add_zero, List.getElem?_eq_getElem h, List.getD_eq_getElem?_getD, List.getElem?_eq_getElem h]; rfl⟩
  exact (List.nodup_append.1 hn).2.2 _ hm _ hd rfl

theorem sweep_count {H H' : HS} {S : List Int} (hW : H.Wf) (hP : HS.Part H H' (ofNats H.blocks) S) : ((ofNats H.blocks).filter fun x => !S.contains x).length + H'.blocks.length = H.blocks.length := by
  have hn := ofNats_nodup H.blocks_nodup
  have h2 : H'.blocks.length = ((ofNats H.blocks).filter fun x => S.contains x).length := by
    rw [← ofNats_length H'.blocks]
    refine nodup_length_eq (ofNats_nodup H'.blocks_nodup) (hn.filter _) fun x => ?_
    rw [mem_ofNats, hP.wf.mem_blocks, List.mem_filter, mem_ofNats, hW.mem_blocks]
    constructor
    · rintro ⟨h0, h⟩
      have ex : ((x.toNat : Nat) : Int) = x := by omega
      have hm : H.room x.toNat ≠ 0 → ((x.toNat : Nat) : Int) ∈ ofNats H.blocks := fun h => mem_ofNats_nat.2 ((hW.mem_blocks _).2 h)
      by_cases hs : x ∈ S
      · rw [hP.left x.toNat (by rw [ex]; exact fun hc => hc.2 hs)] at h
        exact ⟨⟨h0, h⟩, by simpa using hs⟩
      · by_cases hr : H.room x.toNat = 0
        · rw [hP.left x.toNat (fun hc => by have := (hW.mem_blocks _).1 (mem_ofNats_nat.1 hc.1); exact this hr)] at h
          exact absurd hr h
        · exact absurd (hP.gone x.toNat ⟨hm hr, by rw [ex]; exact hs⟩) h
    · rintro ⟨⟨h0, h⟩, hs⟩
      have ex : ((x.toNat : Nat) : Int) = x := by omega
      refine ⟨h0, ?_⟩
      rw [hP.left x.toNat (by rw [ex]; exact fun hc => hc.2 (by simpa using hs))]
      exact h
  rw [h2, ← ofNats_length H.blocks]
  have key : ∀ (p : Int → Bool) (l : List Int), (l.filter fun x => !p x).length + (l.filter fun x => p x).length = l.length := by
    intro p l
    induction l with
    | nil => rfl
    | cons x l ih =>
      simp only [List.filter_cons, List.length_cons]
      cases p x <;> simp <;> omega
  exact key (fun x => S.contains x) _

set_option maxRecDepth 100000 in
set_option maxHeartbeats 4000000 in
theorem collect_calls {w : World} {B : HB} {H : HS} (hA : HeapAt w B H) (hW : H.Wf) {x : Value} {roots : List Int} (hS : Src w x roots) (hsp : ∀ ad n c, x = .slice (some ad) n c → ad.spot = none) (hn : roots.length ≤ 10000000)
    (hwf : ∀ y ∈ roots, (Lit.int .i64 y).wf = true) :
    Calls Try.prog 58 #[.pointer (some ⟨B.h, 0, none⟩), x] w fun e w' => ∃ c : Nat, e = .returned (.int .i64 c) ∧ ∃ H', Hid (HeapAt w' B H' ∧ H.Swept H' roots c ∧ Keeps B.wr w w') := by
  have HRE := Lib.hid (reach_calls hA hW hS hsp hn hwf)
  have HA := Lib.hid hA
  have HW := Lib.hid hW
  clear hA hW hS hsp hwf hn
  go_enter Try.func58, Try.ntmps58
  go_wp2_with fail
  refine HRE.out.mono ?_
  rintro e w1 ⟨S, rfl, h1⟩
  have HA1 := Lib.hid (HA.out.keep h1.out.2.1 (fun _ _ h => h))
  have HBL := Lib.hid (blocks_calls HA1.out HW.out)
  go_wp2_with fail
  refine HBL.out.mono ?_
  rintro e w2 ⟨a, cap, rfl, h2⟩
  go_wp2
  have hbl : (ofNats H.blocks).length ≤ 64 * H.n := by rw [ofNats_length]; exact HS.blocksTo_length H H.n
  have hnb := HW.out.nb
  have hlen : (ofNats H.blocks).length = H.blocks.length := ofNats_length _
  have hml : H.blocks.length ≤ 2000000 := by omega
  have HCL : Hid (CL w w2 B H a S 0 0 H) := by
    refine ⟨HA1.out.keep h2.out.keeps (fun _ _ h => h), by simp; exact HS.Part.start HW.out S, by simp, h1.out.1.keep h2.out.keeps (fun h => h), ?_, (h1.out.2.1.trans h2.out.keeps (fun _ _ h => h)).mono (fun _ _ h => h.elim)⟩
    have := h2.out.arg
    rwa [hlen] at this
  have HFR : Hid (∀ ad : Addr, a = some ad → w.heap.size ≤ ad.block) := fun ad h => by have := h2.out.fresh ad h; have := h1.out.2.1.size; omega
  have HLV := Lib.hid h1.out.2.2
  clear h1 h2 hbl hlen HBL HRE
  generalize hlb : H.blocks.length = len at *
  have HLB := Lib.hid hlb
  clear hlb
  go_loopw [6, 15] (fun n i wr => ∃ k : Nat, k ≤ len ∧ i = .int .i64 k ∧ ∃ c : Nat, n = .int .i64 c ∧ c ≤ k ∧ ∃ H', Hid (CL w wr B H a S k c H')) (fun _ i _ => len - (intOf i).toNat)
  case atStart => exact ⟨0, Nat.zero_le _, rfl, 0, rfl, Nat.le_refl _, H, HCL⟩
  case round =>
    clear HCL
    obtain ⟨k, hk, rfl, c, rfl, hck, H', hR⟩ := hrel
    by_cases hlt : k < len
    · have hlt' : k < H.blocks.length := by rw [HLB.out]; exact hlt
      have hlt2 : k < (ofNats H.blocks).length := by rw [ofNats_length]; exact hlt'
      obtain ⟨ab, ao, rfl, hcell⟩ := hR.out.arg.get hlt'
      have hym : (ofNats H.blocks).getD k 0 ∈ ofNats H.blocks := by
        rw [List.getD_eq_getElem?_getD, List.getElem?_eq_getElem hlt2]; exact List.getElem_mem hlt2
      have HTK := Lib.hid (take_next hlt2)
      have HNT := Lib.hid (not_in_take (ofNats_nodup H.blocks_nodup) hlt2)
      generalize (ofNats H.blocks).getD k 0 = y at *
      obtain ⟨hy0, hyb⟩ := mem_ofNats.1 hym
      obtain ⟨Y, rfl⟩ := Int.eq_ofNat_of_zero_le hy0
      rw [Int.toNat_natCast] at hyb
      have hyr := (HW.out.mem_blocks Y).1 hyb
      have hin := HW.out.inside hyr
      have hwfy : (Lit.int .i64 (Y : Int)).wf = true := wf_small (by omega) (by omega)
      have hlk := hR.out.marks.look hwfy
      have HHR := hR.out.heap
      have hpart := hR.out.part
      clear hin hyb hym hlt' hlt2
      cases hc : S.contains (Y : Int) with
      | true =>
        rw [hc] at hlk
        have hS : (Y : Int) ∈ S := by simpa using hc
        have HNX : Hid (CL w wr B H (some ⟨ab, ao, none⟩) S (k + 1) c H') := by
          refine ⟨hR.out.heap, by rw [HTK.out]; exact hpart.keep hS, ?_, hR.out.marks, hR.out.arg, hR.out.keeps⟩
          rw [HTK.out, List.filter_append, List.length_append, ← hR.out.count]
          simp [hS]
        clear hc hS hyr HHR hpart
        go_wp2
        go_roundw
        case rel => exact ⟨k + 1, by omega, by go_num, c, rfl, by omega, H', HNX⟩
        case measure => simp [intOf]; omega
      | false =>
        rw [hc] at hlk
        have hS : (Y : Int) ∉ S := by intro h; simp [h] at hc
        obtain ⟨hr0, hfp⟩ := hpart.free hyr HNT.out hS
        have HFC := Lib.hid (free_calls HHR hpart.wf (Y : Int) (by rw [HS.roomI_cast]; exact hr0))
        have HNX : Hid (∀ w', HeapAt w' B (H'.freeAt Y) → Keeps B.wr wr w' → CL w w' B H (some ⟨ab, ao, none⟩) S (k + 1) (c + 1) (H'.freeAt Y)) := by
          intro w' hA' hK'
          have hlow : ∀ b, B.wr b → b < w.heap.size := fun b hb => HA.out.fp_lt (.inr hb)
          refine ⟨hA', by rw [HTK.out]; exact hfp, ?_, hR.out.marks.keep hK' (fun h => by have := hlow _ h; omega), hR.out.arg.keepF hK' (fun ad e h => by have := hlow _ h; have := HFR.out ad e; omega), hR.out.keeps.trans hK' (fun _ _ h => h)⟩
          rw [HTK.out, List.filter_append, List.length_append, ← hR.out.count]
          simp [hS]
        clear hc hS hyr HHR hpart hr0 hfp
        go_wp2_with fail
        refine HFC.out.mono ?_
        rintro e w4 ⟨rfl, hA4, hK4, -⟩
        have HN4 : Hid (CL w w4 B H (some ⟨ab, ao, none⟩) S (k + 1) (c + 1) (H'.freeAt Y)) := HNX.out w4 (by simpa using hA4) hK4
        clear hA4 hK4
        go_wp2
        go_roundw
        case rel => exact ⟨k + 1, by omega, by go_num, c + 1, by go_num, by omega, _, HN4⟩
        case measure => simp [intOf]; omega
    · obtain rfl : k = len := by omega
      go_wp2
      go_ret
      have hP := hR.out.part
      have hc := hR.out.count
      have hall : (ofNats H.blocks).take k = ofNats H.blocks := List.take_of_length_le (by rw [ofNats_length, HLB.out]; exact Nat.le_refl _)
      rw [hall] at hP hc
      refine ⟨c, rfl, H', hR.out.heap, ⟨hP.wf, hP.n, hP.words, fun b hb => ?_, fun b hb => ?_, ?_⟩, hR.out.keeps⟩
      · exact hP.left b fun h => h.2 ((HLV.out _).1 hb)
      · by_cases hr : H.room b = 0
        · rw [hP.left b fun h => by have := (HW.out.mem_blocks b).1 (mem_ofNats_nat.1 h.1); exact this hr]; exact hr
        · exact hP.gone b ⟨mem_ofNats_nat.2 ((HW.out.mem_blocks b).2 hr), fun h => hb ((HLV.out _).2 h)⟩
      · rw [hc]; exact sweep_count HW.out hP
end Go.Proofs.Ytnbiofcfphpikaa
