/-
  SweepDeep: the walk and the law.
-/
import Derived.Test.YtnflgjhgegggcaaA7w
import Derived.Below
namespace Go.Proofs.Ytnflgjhgegggcaa
open Go.RowKit

theorem seqAt2 (k : Nat) : HS.seqAt 2 k = 64 + 2 * k := by unfold HS.seqAt; omega
theorem seqAt4 (k : Nat) : HS.seqAt 4 k = 64 + 4 * k := by unfold HS.seqAt; omega
/-- A run of blocks of one class, as a list. -/
theorem SeqH.listed {H : HS} {N c k : Nat} (h : HS.SeqH H N c k) (hc : HS.Cl (c : Int)) (hk : k ≤ 64 / c * (N - 1)) : HS.Listed H N k (HS.seqAt c) ∧ ∀ j, j < k → H.room (HS.seqAt c j) = c := by
  have h2 := h.some2 hc hk
  have hp := HS.cl_pos hc
  refine ⟨⟨h.wf, h.hn, fun a => ⟨fun ha => ?_, ?_⟩, fun i j _ _ e => HS.seqAt_inj hc e⟩, fun j hj => by have := h2.here j hj; simpa using this⟩
  · apply Classical.byContradiction
    intro hno
    exact ha (h2.off a fun j hj e => hno ⟨j, hj, e⟩)
  · rintro ⟨j, hj, rfl⟩
    have := h2.here j hj
    simp at this
    omega
theorem SeqH.words {H : HS} {N c k : Nat} (h : HS.SeqH H N c k) (W : Nat → Int) : HS.SeqH { H with words := W } N c k := ⟨h.wf.withWords W, h.hn, h.cls, h.used⟩
theorem Listed.count {H : HS} {N m : Nat} {L : Nat → Nat} (h : HS.Listed H N m L) : H.blocks.length = m := by
  have := h.wf.count (l := (List.range m).map L) (by
    rw [List.nodup_iff_pairwise_ne, List.pairwise_map]
    refine List.Pairwise.imp_of_mem ?_ (List.nodup_range (n := m))
    intro i j hi hj hne e
    rw [List.mem_range] at hi hj
    exact hne (h.inj i j hi hj e)) (fun a => by
    rw [h.rooms a, List.mem_map]
    constructor
    · rintro ⟨j, hj, rfl⟩; exact ⟨j, List.mem_range.1 hj, rfl⟩
    · rintro ⟨j, hj, rfl⟩; exact ⟨j, List.mem_range.2 hj, rfl⟩)
  simpa using this

def dpv (k : Nat) : Nat := if k = 0 then 0 else HS.seqAt 2 (k - 1)
theorem dpv_succ (k : Nat) : dpv (k + 1) = HS.seqAt 2 k := by unfold dpv; simp
/-- The chain so far. -/
structure DS (w wr : World) (B : HB) (cut : Nat) (H : HS) (k : Nat) : Prop where
  seq : HS.SeqH H 512 2 k
  fresh : Fresh w wr B H
  w0 : ∀ j, j < k → H.words (HS.seqAt 2 j) = hdr 2 1 0
  w1 : ∀ j, j < k → H.words (HS.seqAt 2 j + 1) = if j = cut then ((dpv j : Nat) : Int) + 1 else (dpv j : Nat)
theorem cl2 : HS.Cl ((2 : Nat) : Int) := by unfold HS.Cl; omega
theorem cl4 : HS.Cl ((4 : Nat) : Int) := by unfold HS.Cl; omega

section
variable {w wr : World} {B : HB} {cut n : Nat} {H : HS}
theorem DS.kids (h : DS w wr B cut H n) (hn : n ≤ 3000) {j : Nat} (hj : j < n) : H.kids (HS.seqAt 2 j) = if j ≠ cut ∧ 0 < j then [((HS.seqAt 2 (j - 1) : Nat) : Int)] else [] := by
  have hl := SeqH.listed h.seq cl2 (by omega)
  have hp := hdr_parts (k := 2) (s := 1) (m := 0) (by unfold hdrOk; omega)
  unfold HS.kids
  rw [h.w0 j hj, hp.2.2.2.1, if_pos rfl, hp.1, hp.2.1, hp.2.2.1, hl.2 j hj]
  show H.kidsTo (HS.seqAt 2 j) 2 0 1 = _
  have hm : mayRef 2 0 0 = true := rfl
  simp only [HS.kidsTo, List.nil_append, Nat.add_zero, hm, true_and, h.w1 j hj]
  have hodd : ∀ x : Int, x % 2 = 1 → H.isRef x = false := by
    intro x hx
    cases he : H.isRef x with
    | false => rfl
    | true => have := HS.isRef_pos h.seq.wf he; omega
  have he2 := seqAt2 (j - 1)
  by_cases hc : j = cut
  · have e1 : H.isRef (((dpv j : Nat) : Int) + 1) = false := hodd _ (by unfold dpv; split <;> omega)
    rw [if_neg (c := j ≠ cut ∧ 0 < j) (fun e => e.1 hc)]
    simp [hc]
    rw [hc] at e1
    simp [e1]
  · by_cases h0 : 0 < j
    · have hd : dpv j = HS.seqAt 2 (j - 1) := by unfold dpv; rw [if_neg (by omega)]
      have e1 : H.isRef ((HS.seqAt 2 (j - 1) : Nat) : Int) = true := by
        unfold HS.isRef
        rw [HS.roomI_nat, hl.2 (j - 1) (by omega)]
        rfl
      rw [if_pos (c := j ≠ cut ∧ 0 < j) ⟨hc, h0⟩]
      simp [hc, hd, e1]
    · have hd : dpv j = 0 := by unfold dpv; rw [if_pos (by omega)]
      have e1 : H.isRef 0 = false := by
        cases he : H.isRef 0 with
        | false => rfl
        | true => have := HS.isRef_pos h.seq.wf he; omega
      rw [if_neg (c := j ≠ cut ∧ 0 < j) (fun e => h0 e.2)]
      simp [hc, hd, e1]
theorem DS.live (h : DS w wr B cut H n) (hn : n ≤ 3000) (h1 : 1 ≤ n) (x : Int) : H.Live [((HS.seqAt 2 (n - 1) : Nat) : Int)] x ↔ ∃ j, (if cut < n then cut else 0) ≤ j ∧ j < n ∧ x = (HS.seqAt 2 j : Nat) := by
  have hl := SeqH.listed h.seq cl2 (by omega)
  have hcl : (if cut < n then cut else 0) ≤ n - 1 := by split <;> omega
  constructor
  · intro hx
    induction hx with
    | root hx _ => simp at hx; exact ⟨n - 1, hcl, by omega, hx⟩
    | step _ hy ih =>
      obtain ⟨j, hj1, hj2, rfl⟩ := ih
      rw [Int.toNat_natCast, h.kids hn hj2] at hy
      split at hy
      · rename_i hc
        simp at hy
        refine ⟨j - 1, ?_, by omega, hy⟩
        split at hj1 <;> split <;> omega
      · simp at hy
  · rintro ⟨j, hj1, hj2, rfl⟩
    have key : ∀ d, d ≤ n - 1 - (if cut < n then cut else 0) → H.Live [((HS.seqAt 2 (n - 1) : Nat) : Int)] ((HS.seqAt 2 (n - 1 - d) : Nat) : Int) := by
      intro d
      induction d with
      | zero =>
        intro _
        refine .root (by simp) ?_
        unfold HS.isRef
        rw [HS.roomI_nat, Nat.sub_zero, hl.2 (n - 1) (by omega)]
        rfl
      | succ d ih =>
        intro hd
        refine .step (ih (by omega)) ?_
        rw [Int.toNat_natCast, h.kids hn (by omega), if_pos ⟨by split at hd <;> omega, by omega⟩]
        simp
        congr 1
    have := key (n - 1 - j) (by omega)
    rwa [show n - 1 - (n - 1 - j) = j by omega] at this
/-- How many are reached. -/
theorem DS.reached (h : DS w wr B cut H n) (hn : n ≤ 3000) (h1 : 1 ≤ n) {l : List Int} (hl : l.Pairwise (· < ·)) (hm : ∀ y, y ∈ l ↔ H.Live [((HS.seqAt 2 (n - 1) : Nat) : Int)] y) : l.length = n - (if cut < n then cut else 0) := by
  have h2 := nodup_length_eq (l := l) (m := (List.range (n - (if cut < n then cut else 0))).map fun i => ((HS.seqAt 2 ((if cut < n then cut else 0) + i) : Nat) : Int)) (List.nodup_iff_pairwise_ne.2 (hl.imp fun h => by omega)) (by
    rw [List.nodup_iff_pairwise_ne, List.pairwise_map]
    refine List.Pairwise.imp ?_ (List.nodup_iff_pairwise_ne.1 (List.nodup_range (n := n - (if cut < n then cut else 0))))
    intro i j hne e
    rw [seqAt2, seqAt2] at e
    omega) (fun y => by
    rw [hm y, h.live hn h1, List.mem_map]
    constructor
    · rintro ⟨j, h1, h2, rfl⟩
      exact ⟨j - (if cut < n then cut else 0), List.mem_range.2 (by omega), by rw [show (if cut < n then cut else 0) + (j - (if cut < n then cut else 0)) = j by omega]⟩
    · rintro ⟨i, hi, rfl⟩
      rw [List.mem_range] at hi
      exact ⟨_, by omega, by omega, rfl⟩)
  rw [h2]; simp
theorem DS.swept (h : DS w wr B cut H n) (hn : n ≤ 3000) (h1 : 1 ≤ n) {H' : HS} {c : Nat} (hs : H.Swept H' [((HS.seqAt 2 (n - 1) : Nat) : Int)] c) : c = if cut < n then cut else 0 := by
  have hl := SeqH.listed h.seq cl2 (by omega)
  have h2 := hs.wf.count (l := (List.range (n - (if cut < n then cut else 0))).map fun i => HS.seqAt 2 ((if cut < n then cut else 0) + i)) (by
    rw [List.nodup_iff_pairwise_ne, List.pairwise_map]
    refine List.Pairwise.imp ?_ (List.nodup_iff_pairwise_ne.1 (List.nodup_range (n := n - (if cut < n then cut else 0))))
    intro i j hne e
    rw [seqAt2, seqAt2] at e
    omega) (fun a => by
    rw [List.mem_map]
    constructor
    · rintro ⟨i, hi, rfl⟩
      rw [List.mem_range] at hi
      have hlv := (h.live hn h1 ((HS.seqAt 2 ((if cut < n then cut else 0) + i) : Nat) : Int)).2 ⟨_, by omega, by omega, rfl⟩
      rw [hs.kept _ hlv, hl.2 _ (by omega)]
      omega
    · intro ha
      apply Classical.byContradiction
      intro hno
      refine ha (hs.gone a fun hlv => hno ?_)
      obtain ⟨j, h1, h2, e⟩ := (h.live hn h1 _).1 hlv
      exact ⟨j - (if cut < n then cut else 0), List.mem_range.2 (by omega), by rw [show (if cut < n then cut else 0) + (j - (if cut < n then cut else 0)) = j by omega]; omega⟩)
  have h3 := hs.count
  have h4 := Listed.count hl.1
  rw [h2, h4] at h3
  simp at h3
  have : (if cut < n then cut else 0) ≤ n := by split <;> omega
  omega
theorem DS.step {wa : World} {H1 : HS} {k : Nat} {v : Int} (h : DS w wr B cut H k) (hs : HS.SeqH H1 512 2 (k + 1)) (hr : H.alloc 2 = some (HS.seqAt 2 k, H1)) (hf : Fresh w wa B { H1 with words := setf (setf H1.words (HS.seqAt 2 k + 0) (hdr 2 1 0)) (HS.seqAt 2 k + 1) v }) (hv : v = if k = cut then ((dpv k : Nat) : Int) + 1 else (dpv k : Nat)) :
    DS w wa B cut { H1 with words := setf (setf H1.words (HS.seqAt 2 k + 0) (hdr 2 1 0)) (HS.seqAt 2 k + 1) v } (k + 1) := by
  have hadd := (h.seq.wf.alloc_adds hr).2.2
  have hro : HS.roomOf (Int.toNat 2) = 2 := by decide
  rw [hro] at hadd
  have hw := hadd.words
  have hk2 := seqAt2 k
  refine ⟨SeqH.words hs _, hf, fun j hj => ?_, fun j hj => ?_⟩
  · have hj2 := seqAt2 j
    show setf (setf H1.words _ _) _ _ _ = _
    by_cases e : j = k
    · subst e
      rw [setf_ne _ _ (by omega)]
      exact setf_same _ _ _
    · rw [setf_ne _ _ (by omega), setf_ne _ _ (by omega), hw, setr_out _ _ (by omega)]
      exact h.w0 j (by omega)
  · have hj2 := seqAt2 j
    show setf (setf H1.words _ _) _ _ _ = _
    by_cases e : j = k
    · subst e
      rw [setf_same]; exact hv
    · rw [setf_ne _ _ (by omega), setf_ne _ _ (by omega), hw, setr_out _ _ (by omega)]
      exact h.w1 j (by omega)
end

theorem SeqH.start (n : Nat) : HS.SeqH (HS.new 32768) 512 2 0 := HS.new_seq (x := 32768) (by omega) (new_wf (by omega) (by omega))

set_option maxRecDepth 100000 in
set_option maxHeartbeats 8000000 in
theorem deep_calls (w : World) (n cut : Nat) (h1 : 1 ≤ n) (h2 : n ≤ 3000) :
    Calls Try.prog 6 #[.int .i64 n, .int .i64 cut] w fun e w' => e = .returned (.bool true) ∧ Keeps (fun _ => False) w w' := by
  have HAN := fun w => Lib.hid (anchor7_calls w)
  have HNW := fun w => Lib.hid (new_calls w 32768 (by omega) (by omega))
  have HHC := Lib.hid (fun w => header_calls w 2 1 0)
  have d1 : decide ((n : Int) < 1) = false := decide_eq_false (by omega)
  have d2 : decide ((3000 : Int) < (n : Int)) = false := decide_eq_false (by omega)
  have d3 : decide ((cut : Int) < 0) = false := decide_eq_false (by omega)
  go_enter Try.func6, Try.ntmps6
  go_wp2_with fail
  refine (HAN w).out.mono ?_
  rintro e w0 ⟨rfl, hk0⟩
  have HK0 := Lib.hid hk0
  clear hk0
  go_wp2_with fail
  refine (HNW w0).out.mono ?_
  rintro e w1 ⟨B, rfl, hf⟩
  have HST : Hid (∃ H, DS w0 w1 B cut H 0) := ⟨_, SeqH.start 0, hf.out, fun j hj => by omega, fun j hj => by omega⟩
  clear hf
  go_wp2
  go_loopw [6, 7] (fun l k wr => ∃ j : Nat, j ≤ n ∧ k = .int .i64 j ∧ l = .int .i64 (dpv j : Nat) ∧ Hid (∃ H, DS w0 wr B cut H j)) (fun l k _ => n - (intOf k).toNat)
  case atStart => exact ⟨0, Nat.zero_le _, rfl, rfl, HST⟩
  case round =>
    clear HST
    obtain ⟨j, hj, rfl, rfl, hD⟩ := hrel
    obtain ⟨H, hds⟩ := hD.out
    clear hD
    by_cases hlt : j < n
    · have dj : decide (j < n) = true := decide_eq_true hlt
      obtain ⟨H1, ha, hs⟩ := hds.seq.step (x := 2) cl2 (by omega) (by omega) (by decide) (by omega)
      have hA := hds.fresh.1
      have hW := hds.seq.wf
      have hW1 := hs.wf
      have hk2 := seqAt2 j
      have hdp : dpv j ≤ 10000 := by unfold dpv; have := seqAt2 (j - 1); split <;> omega
      have HAL := Lib.hid (alloc_yes hA hW ha)
      have hro : H1.room (HS.seqAt 2 j) = 2 := (SeqH.listed hs cl2 (by omega)).2 j (by omega)
      have HDS := Lib.hid hds
      have HHA := Lib.hid ha
      have HHS := Lib.hid hs
      have HR0 : Hid (∀ wx, HeapAt wx B H1 → Calls Try.prog 23 #[.pointer (some ⟨B.h, 0, none⟩), .int .i64 (HS.seqAt 2 j : Nat), .int .i64 0, .int .i64 (hdr 2 1 0)] wx fun e w' => e = .returned (.bool true) ∧ HeapAt w' B { H1 with words := setf H1.words (HS.seqAt 2 j + 0) (hdr 2 1 0) } ∧ Keeps B.wr wx w' ∧ w'.heap.size = wx.heap.size) := by
        intro wx hx
        have := store_yes hx hW1 (HS.seqAt 2 j : Nat) 0 (hdr 2 1 0) (by omega) (by rw [HS.roomI_nat, hro]; omega)
        rwa [show (((HS.seqAt 2 j : Nat) : Int) + 0).toNat = HS.seqAt 2 j + 0 by omega] at this
      have HR1 : Hid (∀ wx v, HeapAt wx B { H1 with words := setf H1.words (HS.seqAt 2 j + 0) (hdr 2 1 0) } → Calls Try.prog 23 #[.pointer (some ⟨B.h, 0, none⟩), .int .i64 (HS.seqAt 2 j : Nat), .int .i64 1, .int .i64 v] wx fun e w' => e = .returned (.bool true) ∧ HeapAt w' B { H1 with words := setf (setf H1.words (HS.seqAt 2 j + 0) (hdr 2 1 0)) (HS.seqAt 2 j + 1) v } ∧ Keeps B.wr wx w' ∧ w'.heap.size = wx.heap.size) := by
        intro wx v hx
        have := store_yes hx (hW1.withWords _) (HS.seqAt 2 j : Nat) 1 v (by omega) (by show (1 : Int) < ((H1.roomI _ : Nat) : Int); rw [HS.roomI_nat, hro]; omega)
        rwa [show (((HS.seqAt 2 j : Nat) : Int) + 1).toNat = HS.seqAt 2 j + 1 by omega] at this
      clear ha hs hA hW hW1 hro hk2 hds
      generalize hd : HS.seqAt 2 j = sa at *
      have HSA := Lib.hid hd
      clear hd
      go_wp2_with fail
      refine HAL.out.mono ?_
      rintro e w2 ⟨rfl, hA2, hk2, -⟩
      have HF2 := Lib.hid (HDS.out.fresh.on hA2 hk2)
      clear hA2 hk2
      go_wp2_with fail
      refine (HHC.out _).mono ?_
      rintro e w3 ⟨rfl, rfl⟩
      go_wp2_with fail
      refine (HR0.out _ HF2.out.1).mono ?_
      rintro e w3 ⟨rfl, hA3, hk3, -⟩
      have HF3 := Lib.hid (HF2.out.on hA3 hk3)
      clear hA3 hk3 HF2
      have fin : Hid (∀ wx v, HeapAt wx B { H1 with words := setf (setf H1.words (sa + 0) (hdr 2 1 0)) (sa + 1) v } → Keeps B.wr w3 wx → v = (if j = cut then ((dpv j : Nat) : Int) + 1 else (dpv j : Nat)) → Hid (∃ H, DS w0 wx B cut H (j + 1))) := by
        intro wx v hA hK hv
        have hf4 := HF3.out.on hA hK
        have := HSA.out
        subst this
        exact ⟨_, HDS.out.step HHS.out HHA.out hf4 hv⟩
      have HDP : Hid (dpv (j + 1) = sa) := by rw [dpv_succ]; exact HSA.out
      have hA3 := HF3.out.1
      clear HSA HHA HDS HHS HR0 HAL HF3
      by_cases hc : j = cut
      · have dc : decide (j = cut) = true := decide_eq_true hc
        have dc2 : (((j : Nat) : Int) != ((cut : Nat) : Int)) = false := by rw [hc]; simp
        have HC := Lib.hid hc
        clear hc
        go_wp2_with fail
        refine (HR1.out _ _ (by assumption)).mono ?_
        rintro e w4 ⟨rfl, hA4, hk4, -⟩
        have HN := fin.out _ _ hA4 hk4 (by rw [if_pos HC.out])
        clear hA4 hk4 fin HR1
        go_wp2
        case roundEnd => exact ⟨⟨j + 1, by omega, rfl, by rw [HDP.out], HN⟩, by simp only [intOf]; omega⟩
      · have dc : decide (j = cut) = false := decide_eq_false hc
        have dc2 : (((j : Nat) : Int) != ((cut : Nat) : Int)) = true := by simp; omega
        have HC := Lib.hid hc
        clear hc
        go_wp2_with fail
        refine (HR1.out _ _ (by assumption)).mono ?_
        rintro e w4 ⟨rfl, hA4, hk4, -⟩
        have HN := fin.out _ _ hA4 hk4 (by rw [if_neg HC.out])
        clear hA4 hk4 fin HR1
        go_wp2
        case roundEnd => exact ⟨⟨j + 1, by omega, rfl, by rw [HDP.out], HN⟩, by simp only [intOf]; omega⟩
    · have dj : decide (j < n) = false := decide_eq_false hlt
      obtain rfl : j = n := by omega
      obtain ⟨c, hc⟩ : ∃ c, c = if cut < j then cut else 0 := ⟨_, rfl⟩
      have HC := Lib.hid hc
      have hdp : dpv j = HS.seqAt 2 (j - 1) := by unfold dpv; rw [if_neg (by omega)]
      have hle : dpv j ≤ 10000 := by have := seqAt2 (j - 1); omega
      have HRC := Lib.hid fun l => hds.reached h2 h1 (l := l)
      have HSW := Lib.hid fun H' c => hds.swept h2 h1 (H' := H') (c := c)
      have HFR := Lib.hid hds.fresh
      have HWF := Lib.hid hds.seq.wf
      rw [← hdp, ← hc] at HRC HSW
      have HFIN : Hid (∀ wx, Keeps B.wr wr wx → Keeps (fun _ => False) w wx) := fun wx hk => HK0.out.trans (HFR.out.2.1.trans hk (fun k hk hw => by have := HFR.out.2.2 k (.inr hw); omega)) (fun _ _ h => h)
      have HRE : Hid (∀ wx g, Keeps (fun _ => False) wr wx → wx.cell? ⟨g, 0, none⟩ = some (.int .i64 (dpv j : Nat)) → Calls Try.prog 17 #[.pointer (some ⟨B.h, 0, none⟩), .slice (some ⟨g, 0, none⟩) 1 1] wx fun e w' => ∃ a1 c1, e = .returned (.slice a1 (j - c) c1) ∧ Keeps (fun _ => False) wr w') := by
        intro wx g hk hcell
        have hsrc : Src wx (.slice (some ⟨g, 0, none⟩) 1 1) [((dpv j : Nat) : Int)] := .inr ⟨⟨g, 0, none⟩, 1, rfl, fun i u hi => by
          match i with
          | 0 => simp at hi; subst hi; simpa [Addr.add] using hcell
          | i + 1 => simp at hi⟩
        refine (reached_calls (HFR.out.1.keep hk (fun _ _ h => h)) HWF.out hsrc (fun ad n c h => by cases h; rfl) (by simp) (fun y hy => by simp at hy; subst hy; exact wf_small (by omega) (by omega))).mono ?_
        rintro e w' ⟨a1, c1, l, rfl, hm⟩
        refine ⟨a1, c1, ?_, hk.trans hm.out.1.keeps (fun _ _ h => h)⟩
        rw [HRC.out l hm.out.2.1 hm.out.2.2]
      have HCO : Hid (∀ wx g, Keeps (fun _ => False) wr wx → wx.cell? ⟨g, 0, none⟩ = some (.int .i64 (dpv j : Nat)) → Calls Try.prog 18 #[.pointer (some ⟨B.h, 0, none⟩), .slice (some ⟨g, 0, none⟩) 1 1] wx fun e w' => e = .returned (.int .i64 c) ∧ Keeps (fun _ => False) w w') := by
        intro wx g hk hcell
        have hsrc : Src wx (.slice (some ⟨g, 0, none⟩) 1 1) [((dpv j : Nat) : Int)] := .inr ⟨⟨g, 0, none⟩, 1, rfl, fun i u hi => by
          match i with
          | 0 => simp at hi; subst hi; simpa [Addr.add] using hcell
          | i + 1 => simp at hi⟩
        refine (collect_calls (HFR.out.1.keep hk (fun _ _ h => h)) HWF.out hsrc (fun ad n c h => by cases h; rfl) (by simp) (fun y hy => by simp at hy; subst hy; exact wf_small (by omega) (by omega))).mono ?_
        rintro e w' ⟨c', rfl, H', hm⟩
        have := HSW.out H' c' hm.out.2.1
        subst this
        exact ⟨rfl, HFIN.out _ (((Keeps.refl B.wr wr).trans hk (fun _ _ h => h.elim)).trans hm.out.2.2 (fun _ _ h => h))⟩
      clear hds hdp hc HRC HSW HFIN HWF
      have HCW : Hid (∀ (wx : World) (x : Value), (wx.alloc (.cells #[x] 3)).cell? ⟨wx.heap.size, 0, none⟩ = some x) := fun wx x => by
        have := World.cell?_alloc_new wx #[x] 3 0
        simp
      have hcle : c ≤ j := by rw [HC.out]; split <;> omega
      by_cases hcut : cut < j
      · have dcut : decide (cut < j) = true := decide_eq_true hcut
        obtain rfl : c = cut := by rw [HC.out, if_pos hcut]
        clear HC
        have hsub : ((j - c : Nat) : Int) = (j : Int) - (c : Int) := by omega
        have hsb : (((j - c : Nat) : Int) == (j : Int) - (c : Int)) = true := beq_iff_eq.2 hsub
        have hsd : decide (((j - c : Nat) : Int) = (j : Int) - (c : Int)) = true := decide_eq_true hsub
        have hse : (j : Int) - ((j : Int) - (c : Int)) = (c : Int) := by omega
        clear hsub
        go_wp2_with fail
        refine (HRE.out _ _ ((Keeps.refl _ wr).alloc _) (HCW.out _ _)).mono ?_
        rintro e w5 ⟨a1, c1, rfl, hk5⟩
        go_wp2_with fail
        refine (HCO.out _ _ (hk5.alloc _) (HCW.out _ _)).mono ?_
        rintro e w6 ⟨rfl, hk6⟩
        have HK6 := Lib.hid hk6
        clear hk6 hk5
        go_wp2
        go_ret
        exact ⟨rfl, HK6.out⟩
      · have dcut : decide (cut < j) = false := decide_eq_false hcut
        obtain rfl : c = 0 := by rw [HC.out, if_neg hcut]
        clear HC
        rw [Nat.sub_zero] at HRE
        go_wp2_with fail
        refine (HRE.out _ _ ((Keeps.refl _ wr).alloc _) (HCW.out _ _)).mono ?_
        rintro e w5 ⟨a1, c1, rfl, hk5⟩
        go_wp2_with fail
        refine (HCO.out _ _ (hk5.alloc _) (HCW.out _ _)).mono ?_
        rintro e w6 ⟨rfl, hk6⟩
        have HK6 := Lib.hid hk6
        clear hk6 hk5
        go_wp2
        go_ret
        exact ⟨rfl, HK6.out⟩

set_option maxRecDepth 100000 in
set_option maxHeartbeats 4000000 in
theorem sweepDeep_law (n cut : Int) (w : World) :
    Calls Try.prog 6 #[.int .i64 n, .int .i64 cut] w fun e w' => e = .returned (.bool true) ∧ Below w.heap.size w w' := by
  have HAN := fun w => Lib.hid (anchor7_calls w)
  by_cases hn1 : n < 1
  · have d1 : decide (n < 1) = true := decide_eq_true hn1
    go_enter Try.func6, Try.ntmps6
    go_wp2_with fail
    refine (HAN w).out.mono ?_
    rintro e w0 ⟨rfl, hk0⟩
    have HK0 := Lib.hid hk0
    clear hk0
    go_wp2
    go_ret
    exact ⟨rfl, HK0.out.below (fun _ _ h => h)⟩
  · have d1 : decide (n < 1) = false := decide_eq_false hn1
    by_cases hn2 : 3000 < n
    · have d2 : decide ((3000 : Int) < n) = true := decide_eq_true hn2
      go_enter Try.func6, Try.ntmps6
      go_wp2_with fail
      refine (HAN w).out.mono ?_
      rintro e w0 ⟨rfl, hk0⟩
      have HK0 := Lib.hid hk0
      clear hk0
      go_wp2
      go_ret
      exact ⟨rfl, HK0.out.below (fun _ _ h => h)⟩
    · have d2 : decide ((3000 : Int) < n) = false := decide_eq_false hn2
      by_cases hc : cut < 0
      · have d3 : decide (cut < 0) = true := decide_eq_true hc
        go_enter Try.func6, Try.ntmps6
        go_wp2_with fail
        refine (HAN w).out.mono ?_
        rintro e w0 ⟨rfl, hk0⟩
        have HK0 := Lib.hid hk0
        clear hk0
        go_wp2
        go_ret
        exact ⟨rfl, HK0.out.below (fun _ _ h => h)⟩
      · obtain ⟨N, rfl⟩ := Int.eq_ofNat_of_zero_le (show 0 ≤ n by omega)
        obtain ⟨C, rfl⟩ := Int.eq_ofNat_of_zero_le (show 0 ≤ cut by omega)
        exact (deep_calls w N C (by omega) (by omega)).mono fun e w' ⟨he, hk⟩ => ⟨he, hk.below (fun _ _ h => h)⟩
end Go.Proofs.Ytnflgjhgegggcaa
