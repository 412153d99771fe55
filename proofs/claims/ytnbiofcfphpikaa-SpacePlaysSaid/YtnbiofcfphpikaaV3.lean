/-
  The walk of sweep.reach.
-/
import Derived.Test.YtnbiofcfphpikaaMark
namespace Go.Proofs.Ytnbiofcfphpikaa
open Go.RowKit

set_option maxHeartbeats 1000000 in
theorem kids_none {w : World} {B : HB} {H : HS} (hA : HeapAt w B H) (hW : H.Wf) (a : Nat) (hr : H.room a ≠ 0) (hh : isHdr (H.words a) = false) :
    Calls Try.prog 86 #[.pointer (some ⟨B.h, 0, none⟩), .int .i64 a] w fun e w' => ∃ v, e = .returned v ∧ Hid (Gather w w' v (H.kids a)) := by
  have hin := hW.inside hr
  have HLD := Lib.hid (load_yes hA hW (a : Nat) 0 (by omega) (by rw [HS.roomI_cast]; omega))
  have HOP := Lib.hid (fun w => open_no w (H.words a) hh)
  have HK : Hid (H.kids a = []) := by
    show _ = _
    unfold HS.kids; rw [if_neg (by rw [hh]; simp)]
  have HR := Lib.hid (fun q => room_calls (hA.drewN q) hW (a : Nat))
  have hw0 : ((a : Nat) : Int) + 0 = ((a : Nat) : Int) := by omega
  rw [hw0, Int.toNat_natCast] at HLD
  rw [HS.roomI_cast] at HR
  have hr2 := hin.2.2.1
  have hr3 := hin.2.2.2.2
  generalize hrr : H.room a = r at *
  clear hA hW hh hw0 hin hrr hr
  have hmx : max (0 : Int) ((r : Int) - 1) = (r : Int) - 1 := by omega
  have hmn : min (0 : Int) ((r : Int) - 1) = 0 := by omega
  go_enter Try.func86, Try.ntmps86
  go_wp2_with fail
  refine HLD.out.mono ?_
  rintro e w1 ⟨h1, q1, rfl⟩
  have h1' := retPair_out h1
  clear h1
  subst h1'
  go_wp2_with fail
  refine (HOP.out _).mono ?_
  rintro e w2 ⟨rfl, rfl⟩
  go_wp2_with fail
  refine (HR.out _).mono ?_
  rintro e w3 ⟨rfl, q3, rfl⟩
  go_wp2
  refine wp_loop_rounds 1 ?_
  rw [rounds_succ]
  go_wp2
  go_ret
  exact ⟨_, rfl, by rw [HK.out]; exact (Gather.start w).drewN _⟩

theorem kids_calls {w : World} {B : HB} {H : HS} (hA : HeapAt w B H) (hW : H.Wf) (a : Nat) (hr : H.room a ≠ 0) :
    Calls Try.prog 86 #[.pointer (some ⟨B.h, 0, none⟩), .int .i64 a] w fun e w' => ∃ v, e = .returned v ∧ Hid (Gather w w' v (H.kids a)) := by
  cases h : isHdr (H.words a) with
  | true => exact kids_loop hA hW a hr h
  | false => exact kids_none hA hW a hr h

theorem wf_small {z : Int} (h0 : 0 ≤ z) (h1 : z ≤ 4611686018427387904) : (Lit.int .i64 z).wf = true := by
  have e1 : IntKind.i64.min = -9223372036854775808 := by decide
  have e2 : IntKind.i64.max = 9223372036854775807 := by decide
  simp [Lit.wf, e1, e2]
  omega
theorem clone_nil (w : World) :
    Calls Try.prog 84 #[.slice none 0 0] w fun e w' => e = .returned (.slice none 0 0) ∧ w = w' := by
  have q22 : ∀ (w : World) (a : Option Addr) (n c n' c' : Nat), (binOp .eql 22 (.slice a n c) (.slice none n' c')).run Try.prog w = .ok (.bool a.isNone) w := fun w a n c n' c' => Lib.run_eql_slice_nil w _ _ a n c n' c' Try.underlying_ints
  go_enter Try.func84, Try.ntmps84
  go_wp2
  go_ret
  exact ⟨rfl, rfl⟩

theorem clone_all {w : World} {x : Value} {l : List Int} (hS : Src w x l) (hsp : ∀ ad n c, x = .slice (some ad) n c → ad.spot = none) (hn : l.length ≤ 1000000000000) :
    Calls Try.prog 84 #[x] w fun e w' => ∃ v, e = .returned v ∧ Hid (Gather w w' v l) := by
  rcases (id hS : Src w x l) with ⟨rfl, rfl⟩ | ⟨ad, c, rfl, -⟩
  · refine (clone_nil w).mono ?_
    rintro e w' ⟨rfl, rfl⟩
    exact ⟨_, rfl, Gather.start w⟩
  · obtain ⟨b, o, sp⟩ := ad
    have := hsp _ _ _ rfl
    simp only at this
    subst this
    exact clone_calls hS hn

theorem Ints.pop {w : World} {v : Value} {l : List Int} {y : Int} (h : Ints w v (l ++ [y])) : ∃ g cap, v = .slice (some ⟨g, 0, none⟩) (l.length + 1) cap ∧ l.length + 1 ≤ cap ∧ cap ≤ maxLen ∧ w.cell? ⟨g, l.length, none⟩ = some (.int .i64 y) ∧ Ints w (.slice (some ⟨g, 0, none⟩) l.length cap) l := by
  rcases h with ⟨_, e⟩ | ⟨g, cap, cur, e, hg, h1, h2, h3, h4⟩
  · simp at e
  · simp only [List.length_append, List.length_singleton] at e h1 h4
    refine ⟨g, cap, e, h1, h2, ?_, .inr ⟨g, cap, cur, rfl, hg, by omega, h2, h3, fun i hi => ?_⟩⟩
    · have := h4 l.length (by omega)
      rw [getD_append_at, if_neg (by omega)] at this
      simp only [World.cell?, hg]
      simpa using this
    · have := h4 i (by omega)
      rw [getD_append_at, if_pos hi] at this
      exact this

theorem HeapAt.fp_lt {w : World} {B : HB} {H : HS} (h : HeapAt w B H) {k : Nat} (hk : B.fp k) : k < w.heap.size := by
  rcases hk with rfl | rfl | rfl | rfl | rfl
  · exact heap_lt h.hd
  · obtain ⟨cur, hg, -⟩ := h.wd; exact heap_lt hg
  · obtain ⟨cur, hg, -⟩ := h.cl; exact heap_lt hg
  · obtain ⟨cur, hg, -⟩ := h.us; exact heap_lt hg
  · obtain ⟨cur, hg, -⟩ := h.rn; exact heap_lt hg

/-- The loop of reach. -/
structure RL (w wr : World) (H : HS) (v : Value) (roots G S : List Int) : Prop where
  ints : Ints wr v G
  fresh : ∀ g, v.ownBlock = some g → w.heap.size + 1 ≤ g
  marks : Marks wr w.heap.size S
  keeps : Keeps (fun _ => False) w wr
  grey : HS.Grey H roots G S
  wf : ∀ x ∈ G, (Lit.int .i64 x).wf = true
theorem RL.drewN {w wr : World} {H : HS} {v : Value} {roots G S : List Int} (h : RL w wr H v roots G S) (q : Nat) : RL w (wr.drewN q) H v roots G S :=
  ⟨h.ints.drewN q, h.fresh, h.marks.drewN q, h.keeps.drewN q, h.grey, h.wf⟩

set_option maxRecDepth 100000 in
set_option maxHeartbeats 4000000 in
theorem reach_calls {w : World} {B : HB} {H : HS} (hA : HeapAt w B H) (hW : H.Wf) {x : Value} {roots : List Int} (hS : Src w x roots) (hsp : ∀ ad n c, x = .slice (some ad) n c → ad.spot = none) (hn : roots.length ≤ 10000000)
    (hwf : ∀ y ∈ roots, (Lit.int .i64 y).wf = true) :
    Calls Try.prog 76 #[.pointer (some ⟨B.h, 0, none⟩), x] w fun e w' => ∃ S, e = .returned (.map (some w.heap.size)) ∧ Hid (Marks w' w.heap.size S ∧ Keeps (fun _ => False) w w' ∧ ∀ y, H.Live roots y ↔ y ∈ S) := by
  have hmm := @run_makeMap Try.prog
  obtain ⟨i0, hi, hz0, hz1, hz2⟩ := info_parts Try.info_int
  have HC : Hid (Calls Try.prog 84 #[x] (w.alloc (.map #[] 0)) fun e w' => ∃ v, e = .returned v ∧ Hid (Gather (w.alloc (.map #[] 0)) w' v roots)) := clone_all (hS.alloc _) hsp (by omega)
  have HA := Lib.hid hA
  have HW := Lib.hid hW
  have HWF := Lib.hid hwf
  have HN := Lib.hid hn
  clear hA hW hS hsp hwf hn
  go_enter Try.func76, Try.ntmps76
  go_wp2_with fail
  refine HC.out.mono ?_
  rintro e w1 ⟨v, rfl, hG⟩
  go_wp2
  have HRL : Hid (RL w w1 H v roots roots []) := ⟨hG.out.ints, fun g h => by have := hG.out.fresh g h; simpa using this, (Marks.made w).keep hG.out.keeps (fun h => h), ((Keeps.refl (fun _ => False) w).alloc _).trans hG.out.keeps (fun _ _ h => h), HS.Grey.begin H roots, HWF.out⟩
  clear hG
  go_loopw [6] (fun v wr => ∃ G S, Hid (RL w wr H v roots G S)) (fun v wr => Least (fun m => ∃ G S, Hid (RL w wr H v roots G S) ∧ H.todo G S = m))
  case atStart => exact ⟨_, _, HRL⟩
  case round =>
    clear HRL
    obtain ⟨G, S, hR, hm⟩ := least_spec (p := fun m => ∃ G S, Hid (RL w wr H u6 roots G S) ∧ H.todo G S = m) (by obtain ⟨G, S, h⟩ := hrel; exact ⟨_, G, S, h, rfl⟩)
    clear hrel
    rcases List.eq_nil_or_concat G with rfl | ⟨G', y, rfl⟩
    · have hi := hR.out.ints
      rcases hi with ⟨e, -⟩ | ⟨g, cap, cur, e, -⟩
      · subst e
        go_wp2
        go_ret
        exact ⟨S, rfl, hR.out.marks, hR.out.keeps, hR.out.grey.done⟩
      · simp only [List.length_nil] at e
        subst e
        go_wp2
        go_ret
        exact ⟨S, rfl, hR.out.marks, hR.out.keeps, hR.out.grey.done⟩
    · rw [List.concat_eq_append] at hR hm
      obtain ⟨g, cap, rfl, hle, hcm, hcell, hpop⟩ := hR.out.ints.pop
      have hwfy : (Lit.int .i64 y).wf = true := hR.out.wf y (by simp)
      have hgf : w.heap.size + 1 ≤ g := hR.out.fresh g rfl
      have hbl : (ofNats H.blocks).length ≤ 64 * H.n := by rw [ofNats_length]; exact HS.blocksTo_length H H.n
      have hnb := HW.out.nb
      have hSl : S.length ≤ 2000000 := by have := hR.out.grey.few; rw [ofNats_length] at hbl; omega
      have hGl : G'.length + 1 ≤ 300000000000 := by have h1 := hR.out.grey.size; have h2 := HN.out; rw [List.length_append, List.length_singleton] at h1; omega
      have HPOP := Lib.hid hpop
      have hlk := hR.out.marks.look hwfy
      have HAR := Lib.hid (HA.out.keep hR.out.keeps (fun _ _ h => h))
      unfold maxLen at hcm
      clear hbl hpop
      cases hc : S.contains y with
      | true =>
        rw [hc] at hlk
        have hS : y ∈ S := by simpa using hc
        have HNX : Hid (RL w wr H (.slice (some ⟨g, 0, none⟩) G'.length cap) roots G' S) := ⟨HPOP.out, fun k h => hR.out.fresh k h, hR.out.marks, hR.out.keeps, hR.out.grey.skip (.inl hS), fun z hz => hR.out.wf z (List.mem_append_left _ hz)⟩
        have HLT := Lib.hid (HS.todo_skip H G' S y)
        clear hc hS
        go_wp2
        go_roundw
        case rel => exact ⟨G', S, HNX⟩
        case measure => exact Nat.lt_of_le_of_lt (least_le ⟨G', S, HNX, rfl⟩) (by rw [← hm]; exact HLT.out)
      | false =>
        rw [hc] at hlk
        have hS : y ∉ S := by intro h; simp [h] at hc
        have HRF := Lib.hid (reference_calls HAR.out HW.out y)
        have HREF := Lib.hid (@HS.isRef_pos H HW.out y)
        cases hrf : H.isRef y with
        | false =>
          rw [hrf] at HRF
          have HNX : ∀ q, Hid (RL w (wr.drewN q) H (.slice (some ⟨g, 0, none⟩) G'.length cap) roots G' S) := fun q => RL.drewN ⟨HPOP.out, fun k h => hR.out.fresh k h, hR.out.marks, hR.out.keeps, hR.out.grey.skip (.inr hrf), fun z hz => hR.out.wf z (List.mem_append_left _ hz)⟩ q
          have HNXH := Lib.hid HNX
          have HLT := Lib.hid (HS.todo_skip H G' S y)
          clear hc hS hrf HNX
          go_wp2_with fail
          refine HRF.out.mono ?_
          rintro e w2 ⟨rfl, q, rfl⟩
          go_wp2
          go_roundw
          case rel => exact ⟨G', S, HNXH.out q⟩
          case measure => exact Nat.lt_of_le_of_lt (least_le ⟨G', S, HNXH.out q, rfl⟩) (by rw [← hm]; exact HLT.out)
        | true =>
          rw [hrf] at HRF
          obtain ⟨hy0, -, hyr⟩ := HREF.out hrf
          have hyb : y ∈ ofNats H.blocks := by
            refine List.mem_map.2 ⟨y.toNat, (HW.out.mem_blocks _).2 hyr, by omega⟩
          have HGY := Lib.hid (hR.out.grey.mark hS hrf hyb)
          have HLT := Lib.hid (HS.todo_mark hS hyb (G := G'))
          have HKD : Hid (∀ w', HeapAt w' B H → Calls Try.prog 86 #[.pointer (some ⟨B.h, 0, none⟩), .int .i64 y] w' fun e w'' => ∃ v, e = .returned v ∧ Hid (Gather w' w'' v (H.kids y.toNat))) := by
            intro w' h'
            have := kids_calls h' HW.out y.toNat hyr
            rwa [show ((y.toNat : Nat) : Int) = y by omega] at this
          have HKL := H.kids_length y.toNat
          have HKW : Hid (∀ z ∈ H.kids y.toNat, (Lit.int .i64 z).wf = true) := by
            intro z hz
            have h1 := HS.mem_kids hz
            have h2 := HS.isRef_pos HW.out h1
            have h3 := HW.out.inside h2.2.2
            have h4 := HW.out.nb
            exact wf_small (by omega) (by omega)
          generalize H.kids y.toNat = K at *
          clear hc hS hrf hyb hyr
          have HM := Lib.hid hR.out.marks
          go_wp2_with fail
          refine HRF.out.mono ?_
          rintro e w2 ⟨rfl, q, rfl⟩
          go_wp2_with (at_mapUpdate; go_loud (refine wpList_mark rfl _ _ _ rfl rfl rfl rfl (HM.out.drewN q) hwfy (by unfold maxLen; omega) ?_; intro w3 hM3 hK3))
          have hgw : g ≠ w.heap.size := by omega
          have HI3 := Lib.hid ((HPOP.out.drewN q).keep hK3 (fun k hk e => hgw (by simp [Value.ownBlock] at hk; omega)))
          have HA3 := Lib.hid ((HAR.out.drewN q).keep hK3 (fun k hk e => by have := HA.out.fp_lt hk; omega))
          have HMM := Lib.hid hM3
          have HK3 := Lib.hid hK3
          have HR1 := Lib.hid hM3.lt
          clear hK3 hM3
          go_wp2_with fail
          refine (HKD.out _ HA3.out).mono ?_
          rintro e w4 ⟨v4, rfl, hG4⟩
          have HSRC := Lib.hid hG4.out.ints.src
          have HI4 := Lib.hid (HI3.out.keep hG4.out.keeps (fun _ _ h => h))
          have HSZ : w.heap.size + 1 ≤ w4.heap.size := by have := HR1.out; have := hG4.out.keeps.size; omega
          rcases (id HSRC.out : Src w4 v4 K) with ⟨rfl, -⟩ | ⟨ad, c, rfl, -⟩
          all_goals
            go_wp2_with (at_builtin; go_loud (refine wpList_appB hi hz0 hz1 hz2 rfl _ _ rfl rfl rfl (w.heap.size + 1) HI4.out (fun k (h : (Value.slice (some ⟨g, 0, none⟩) G'.length cap).ownBlock = some k) => by simp [Value.ownBlock] at h; omega) HSZ HSRC.out (by omega) ?_; intro v5 w5 hI5 hf5 hK5))
            have hNX : RL w w5 H v5 roots (G' ++ K) (y :: S) := by
              have hgk : ∀ k, (Value.slice (some ⟨g, 0, none⟩) G'.length cap).ownBlock = some k → k = g := by intro k h; simp [Value.ownBlock] at h; omega
              have hK : Keeps (fun _ => False) w w4 := ((hR.out.keeps.drewN q).trans HK3.out (fun k hk e => by omega)).trans hG4.out.keeps (fun _ _ h => h)
              refine ⟨hI5, hf5, (HMM.out.keep hG4.out.keeps (fun h => h)).keep hK5 (fun h => by have := hgk _ h; omega), hK.trans hK5 (fun k hk h => by have := hgk _ h; omega), HGY.out, fun z hz => ?_⟩
              rcases List.mem_append.1 hz with h | h
              · exact hR.out.wf z (List.mem_append_left _ h)
              · exact HKW.out z h
            have HNX := Lib.hid hNX
            clear hNX
            exact ⟨⟨_, _, HNX⟩, Nat.lt_of_le_of_lt (least_le ⟨_, _, HNX, rfl⟩) (by rw [← hm]; exact HLT.out)⟩
end Go.Proofs.Ytnbiofcfphpikaa
