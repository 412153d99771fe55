/-
  MailKeeps.
-/
import Derived.Test.YtnbiofcfphpikaaMTwo
namespace Go.Proofs.Ytnbiofcfphpikaa
open Go.RowKit

/-- A channel and the blocks that were pushed. -/
structure Kp (M : Mp) (c P : Nat) (refs : Bool) (b : Nat) (az : List Nat) : Prop where
  ch : Chan M c P (chKind refs) (chMask refs) b (ofNats az) 0
  nd : (c :: az).Nodup
  inn : ∀ x ∈ az, M x ≠ none
  dat : ∀ x B, M x = some B → x = c ∨ B.k = 1
theorem ofNats_getD (az : List Nat) (i : Nat) (h : i < az.length) : (ofNats az).getD i 0 = ((az.getD i 0 : Nat) : Int) := by
  unfold ofNats
  simp [List.getD_eq_getElem?_getD, h]
theorem getD_mem_nat {az : List Nat} {i : Nat} (h : i < az.length) : az.getD i 0 ∈ az := by
  rw [List.getD_eq_getElem?_getD, List.getElem?_eq_getElem h]
  exact List.getElem_mem h
theorem Kp.live {M : Mp} {c P : Nat} {refs : Bool} {b : Nat} {az : List Nat} (h : Kp M c P refs b az) (h0 : M 0 = none) (x : Nat) : MLive M [(c : Int)] x ↔ x = c ∨ (refs = true ∧ x ∈ az) := by
  obtain ⟨B, hB, hk, hm, hC⟩ := h.ch
  constructor
  · intro hl
    induction hl with
    | root h1 _ => rw [List.mem_singleton] at h1; exact .inl (by omega)
    | @step a y b' j _ hb hj hmay hw hy ih =>
      by_cases ea : a = c
      · subst ea
        rw [hB] at hb
        cases hb
        rw [hk, hm] at hmay
        cases refs with
        | false => unfold mayRef chKind at hmay; simp at hmay
        | true =>
          have h4 : 4 ≤ j := by unfold mayRef chKind chMask at hmay; simp at hmay; omega
          have hs := hC.s
          have hit := hC.it (j - 4) (by omega)
          rw [show 4 + (j - 4) = j by omega, hw] at hit
          by_cases hlt : (j - 4 + P - b) % P < az.length
          · rw [ofNats_getD _ _ hlt] at hit
            have e : y = az.getD ((j - 4 + P - b) % P) 0 := by omega
            exact .inr ⟨rfl, by rw [e]; exact getD_mem_nat hlt⟩
          · rw [List.getD_eq_getElem?_getD, List.getElem?_eq_none (by rw [ofNats_length]; omega)] at hit
            have e : y = 0 := by simp at hit; omega
            rw [e] at hy
            exact absurd h0 hy
      · have := (h.dat a b' hb).resolve_left ea
        rw [this] at hmay
        unfold mayRef at hmay
        simp at hmay
  · intro hx
    have hroot : MLive M [(c : Int)] c := .root (List.mem_singleton.2 rfl) (by rw [hB]; simp)
    rcases hx with rfl | ⟨hr, hx⟩
    · exact hroot
    · subst hr
      obtain ⟨i, hi, e⟩ := List.mem_iff_getElem.1 hx
      have hl := hC.len
      rw [ofNats_length] at hl
      have hmod := Nat.mod_lt (b + i) (show 0 < P by omega)
      refine .step (j := 4 + (b + i) % P) hroot hB (by rw [hC.s]; omega) ?_ ?_ (h.inn x hx)
      · rw [hk, hm]
        have : mayRef 3 4 (4 + (b + i) % P) = true := by unfold mayRef; rw [if_neg (by decide), if_pos rfl]; exact decide_eq_true (by omega)
        exact this
      · rw [hC.item (by rw [ofNats_length]; exact hi), ofNats_getD _ _ hi]
        rw [List.getD_eq_getElem?_getD, List.getElem?_eq_getElem hi, e]
        rfl
theorem Kp.push {M M1 M' : Mp} {c P : Nat} {refs : Bool} {b : Nat} {az : List Nat} (h : Kp M c P refs b az) {a : Nat} (ha : M a = none) (e1 : M1 = setf M a (some ⟨1, 1, 0, fun _ => 0⟩))
    (hc : Chan M' c P (chKind refs) (chMask refs) b (ofNats az ++ [(a : Int)]) 0) (ho : ∀ x, x ≠ c → M' x = M1 x) : Kp M' c P refs b (az ++ [a]) := by
  have hac : a ≠ c := by
    rintro rfl
    obtain ⟨B, hB, _⟩ := h.ch
    rw [hB] at ha; cases ha
  have hnd := h.nd
  rw [List.nodup_cons] at hnd
  have haas : a ∉ az := fun hm => h.inn a hm ha
  refine ⟨?_, ?_, fun x hx => ?_, fun x B hB => ?_⟩
  · have e : ofNats (az ++ [a]) = ofNats az ++ [(a : Int)] := by unfold ofNats; simp
    rw [e]; exact hc
  · rw [List.nodup_cons]
    refine ⟨by simp; exact ⟨hnd.1, fun e => hac e.symm⟩, ?_⟩
    rw [List.nodup_append]
    exact ⟨hnd.2, by simp, fun x hx y hy e => by rw [List.mem_singleton] at hy; subst hy; subst e; exact haas hx⟩
  · have hxc : x ≠ c := by
      rintro rfl
      rcases List.mem_append.1 hx with h1 | h1
      · exact hnd.1 h1
      · rw [List.mem_singleton] at h1; exact hac h1.symm
    rw [ho x hxc, e1]
    by_cases e : x = a
    · subst e; rw [setf_same]; simp
    · rw [setf_ne _ _ e]
      rcases List.mem_append.1 hx with h1 | h1
      · exact h.inn x h1
      · rw [List.mem_singleton] at h1; exact absurd h1 e
  · by_cases hxc : x = c
    · exact .inl hxc
    · right
      rw [ho x hxc, e1] at hB
      by_cases e : x = a
      · subst e; rw [setf_same] at hB; cases hB; rfl
      · rw [setf_ne _ _ e] at hB
        exact (h.dat x B hB).resolve_left hxc
theorem Kp.shift {M M' : Mp} {c P : Nat} {refs : Bool} {b a : Nat} {az : List Nat} (h : Kp M c P refs b (a :: az))
    (hc : Chan M' c P (chKind refs) (chMask refs) ((b + 1) % P) (ofNats az) 0) (ho : ∀ x, x ≠ c → M' x = M x) : Kp M' c P refs ((b + 1) % P) az := by
  have hnd := h.nd
  rw [List.nodup_cons, List.nodup_cons] at hnd
  refine ⟨hc, List.nodup_cons.2 ⟨fun hm => hnd.1 (List.mem_cons_of_mem _ hm), hnd.2.2⟩, fun x hx => ?_, fun x B hB => ?_⟩
  · have hxc : x ≠ c := by rintro rfl; exact hnd.1 (List.mem_cons_of_mem _ hx)
    rw [ho x hxc]; exact h.inn x (List.mem_cons_of_mem _ hx)
  · by_cases hxc : x = c
    · exact .inl hxc
    · rw [ho x hxc] at hB; exact h.dat x B hB
def keptL (refs : Bool) (c : Nat) (az : List Nat) : List Nat := if refs = true then c :: az else [c]

def KpS (w wr : World) (sp c P F : Nat) (refs : Bool) (L : Nat) : Prop := ∃ M b az, SpA w wr R0 sp 64 M [(c : Int)] 0 F ∧ Kp M c P refs b az ∧ az.length = L

set_option maxRecDepth 100000 in
set_option maxHeartbeats 4000000 in
theorem mailKeeps_calls (w : World) (P p s : Nat) (refs : Bool) (hP : P ≤ 50) (hp : p ≤ P) (hs : s ≤ p) :
    Calls Try.prog 15 #[.int .i64 P, .int .i64 p, .int .i64 s, .bool refs] w fun e w' => e = .returned (.bool true) ∧ Keeps (fun _ => False) w w' := by
  have HAN := Lib.hid (anchor15_calls w)
  have HNW := Lib.hid (fun w => sNew w 4096 (by omega) (by omega))
  have d1 : decide ((P : Int) < 0) = false := decide_eq_false (by omega)
  have d2 : decide ((50 : Int) < (P : Int)) = false := decide_eq_false (by omega)
  have d3 : decide ((p : Int) < 0) = false := decide_eq_false (by omega)
  have d4 : decide (P < p) = false := decide_eq_false (by omega)
  have d5 : decide ((s : Int) < 0) = false := decide_eq_false (by omega)
  have d6 : decide (p < s) = false := decide_eq_false (by omega)
  go_enter Try.func15, Try.ntmps15
  go_wp2_with fail
  refine HAN.out.mono ?_
  rintro e w0 ⟨rfl, hk0⟩
  have HK0 := Lib.hid hk0
  clear hk0
  go_wp2_with fail
  refine (HNW.out w0).mono ?_
  rintro e w1 ⟨sp, rfl, h1⟩
  have hsp : HS.spansOf (4 + P + 1) = 1 := spansOf_one (by omega)
  have H1 := mNew h1.out P refs (by omega) (by rw [hsp]; omega)
  rw [hsp] at H1
  have H1' := Lib.hid H1
  clear h1 HNW HAN H1 hsp
  go_wp2_with fail
  refine H1'.out.mono ?_
  rintro e w2 ⟨c, rfl, -, M1, hc1, ho1, h2⟩
  have had := Chan.addr h2.out.1 hc1
  have H2 := Lib.hid (sHold h2.out.1 (c : Int) (wf_addr had.2) (by simp))
  have HKP : Hid (Kp M1 c P refs 0 []) := ⟨hc1, by simp, fun x hx => by simp at hx, fun x B hB => by
    by_cases e : x = c
    · exact .inl e
    · rw [ho1 x e] at hB; cases hB⟩
  clear h2 hc1 ho1 had H1'
  go_wp2_with fail
  refine H2.out.mono ?_
  rintro e w3 ⟨rfl, h3⟩
  have HST : Hid (KpS w0 w3 sp c P 2 refs 0) := ⟨M1, 0, [], h3.out.1, HKP.out, rfl⟩
  clear h3 HKP H2
  go_wp2
  go_loopw [12] (fun i wr => ∃ j : Nat, j ≤ p ∧ i = .int .i64 j ∧ Hid (KpS w0 wr sp c P (2 + j) refs j)) (fun i _ => p - (intOf i).toNat)
  case atStart => exact ⟨0, Nat.zero_le _, rfl, HST.out⟩
  case round =>
    clear HST
    obtain ⟨j, hj, rfl, hD⟩ := hrel
    by_cases hlt : j < p
    · have dj : decide (j < p) = true := decide_eq_true hlt
      obtain ⟨M, b, az, hS, hKp, hL⟩ := hD.out
      have HM := Lib.hid (sMake hS 1 0 1 (by unfold hdrOk; omega) (by rw [spansOf_one (by omega)]; omega))
      rw [spansOf_one (by omega)] at HM
      have HKp := Lib.hid hKp
      have HL := Lib.hid hL
      clear hS hKp hL hD
      go_wp2_with fail
      refine HM.out.mono ?_
      rintro e w4 ⟨a, rfl, hno, h4⟩
      have hcM : Chan (setf M a (some ⟨1, 1, 0, fun _ => 0⟩)) c P (chKind refs) (chMask refs) b (ofNats az) 0 := HKp.out.ch.other (setf_ne _ _ (by
        rintro rfl
        obtain ⟨B, hB, _⟩ := HKp.out.ch
        rw [hB] at hno; cases hno))
      have H5 := Lib.hid (mPush h4.out.1 hcM (by rw [ofNats_length, HL.out]; omega) (a : Int))
      have HX : Hid (∀ wy M', Chan M' c P (chKind refs) (chMask refs) b (ofNats az ++ [(a : Int)]) 0 → (∀ x, x ≠ c → M' x = setf M a (some ⟨1, 1, 0, fun _ => 0⟩) x) → SpA w0 wy R0 sp 64 M' [(c : Int)] 0 (2 + j + 1) → KpS w0 wy sp c P (2 + (j + 1)) refs (j + 1)) :=
        fun wy M' h1 h2 h3 => ⟨M', b, az ++ [a], h3, HKp.out.push hno rfl h1 h2, by simp [HL.out]⟩
      clear h4 hcM hno HKp HL HM
      go_wp2_with fail
      refine H5.out.mono ?_
      rintro e w5 ⟨rfl, M', hc', ho', h5⟩
      have HY := Lib.hid (HX.out _ M' hc' ho' h5.out.1)
      clear h5 hc' ho' HX H5
      go_wp2
      go_roundw
      case rel => exact ⟨j + 1, by omega, by go_num, HY⟩
      case measure => simp [intOf]; omega
    · obtain rfl : j = p := by omega
      have dj : decide (j < j) = false := by simp
      go_wp2
      obtain ⟨wo, rfl⟩ : ∃ wo : World, wo = wr := ⟨_, rfl⟩
      go_loopw [15] (fun i wr => ∃ t : Nat, t ≤ s ∧ i = .int .i64 t ∧ Hid (KpS w0 wr sp c P (2 + j) refs (j - t))) (fun i _ => s - (intOf i).toNat)
      case atStart => exact ⟨0, Nat.zero_le _, rfl, hD⟩
      case round =>
        clear hD
        obtain ⟨t, ht, rfl, hD⟩ := hrel
        by_cases hlt2 : t < s
        · have dt : decide (t < s) = true := decide_eq_true hlt2
          obtain ⟨M, b, az, hS, hKp, hL⟩ := hD.out
          cases az with
          | nil => simp at hL; omega
          | cons a az =>
            have H5 := Lib.hid (mShift hS (v := (a : Int)) (l := ofNats az) hKp.ch)
            have HX : Hid (∀ wy M', Chan M' c P (chKind refs) (chMask refs) ((b + 1) % P) (ofNats az) 0 → (∀ x, x ≠ c → M' x = M x) → SpA w0 wy R0 sp 64 M' [(c : Int)] 0 (2 + j) → KpS w0 wy sp c P (2 + j) refs (j - (t + 1))) :=
              fun wy M' h1 h2 h3 => ⟨M', _, az, h3, hKp.shift h1 h2, by simp at hL; omega⟩
            clear hS hKp hL hD
            go_wp2_with fail
            refine H5.out.mono ?_
            rintro e w5 ⟨rfl, M', hc', ho', h5⟩
            have HY := Lib.hid (HX.out _ M' hc' ho' h5.out.1)
            clear h5 hc' ho' HX H5
            go_wp2
            go_roundw
            case rel => exact ⟨t + 1, by omega, by go_num, HY⟩
            case measure => simp [intOf]; omega
        · obtain rfl : t = s := by omega
          have dt : decide (t < t) = false := by simp
          obtain ⟨M, b, az, hS, hKp, hL⟩ := hD.out
          have h0 : M 0 = none := by
            cases hb : M 0 with
            | none => rfl
            | some B => have := (hS.isBlk hb).1; omega
          have hlive := hKp.live h0
          have hmem : ∀ x, x ∈ keptL refs c az ↔ mlive M [(c : Int)] x ≠ none := by
            intro x
            have : mlive M [(c : Int)] x ≠ none ↔ MLive M [(c : Int)] x := by
              constructor
              · intro hn
                apply Classical.byContradiction
                intro hno
                exact hn (mlive_no hno)
              · intro hl; rw [mlive_yes hl]; exact hl.isSome
            rw [this, hlive x]
            unfold keptL
            cases refs <;> simp
          have hnd : (keptL refs c az).Nodup := by
            unfold keptL
            split
            · exact hKp.nd
            · simp
          have HC := Lib.hid (sCollect hS (by simp) (by omega))
          have HMEM := Lib.hid hmem
          have HND := Lib.hid hnd
          have HLEN : Hid (((keptL refs c az).length : Int) = if refs = true then 1 + ((j : Int) - (t : Int)) else 1) := by
            show _ = _
            unfold keptL
            cases refs <;> simp <;> omega
          clear hS hKp hL hD h0 hlive hmem hnd
          go_wp2_with fail
          refine HC.out.mono ?_
          rintro e w5 ⟨cc, rfl, h5⟩
          have HT := sTold h5.out.1 HND.out HMEM.out
          rw [HLEN.out] at HT
          have HT' := Lib.hid HT
          clear HT h5 HC HLEN
          cases refs
          all_goals
            simp only [Bool.false_eq_true, if_false, if_true] at HT'
            go_wp2_with fail
            refine HT'.out.mono ?_
            rintro e w6 ⟨ff, rfl, -, h6⟩
            have HDR := Lib.hid (sDrop1 (held := []) h6.out.1 (by simp))
            clear h6
            go_wp2_with fail
            refine HDR.out.mono ?_
            rintro e w7 ⟨rfl, h7⟩
            have HC2 := Lib.hid (sCollect h7.out.1 (by simp) (by omega))
            clear h7
            go_wp2_with fail
            refine HC2.out.mono ?_
            rintro e w8 ⟨cc2, rfl, h8⟩
            have h8' := h8.out.1
            rw [mlive_nil] at h8'
            have HT2 := Lib.hid (sTold h8' (l := []) (by simp) (fun a => by simp))
            clear h8 h8'
            go_wp2_with fail
            refine HT2.out.mono ?_
            rintro e w9 ⟨ff2, rfl, -, h9⟩
            have HKE := Lib.hid (HK0.out.trans h9.out.1.keeps (fun _ _ h => h))
            clear h9
            go_wp2
            go_ret
            exact ⟨rfl, HKE.out⟩

set_option maxRecDepth 100000 in
set_option maxHeartbeats 4000000 in
theorem mailKeeps_law (n p s : Int) (refs : Bool) (w : World) :
    Calls Try.prog 15 #[.int .i64 n, .int .i64 p, .int .i64 s, .bool refs] w fun e w' => e = .returned (.bool true) ∧ Below w.heap.size w w' := by
  have HAN := Lib.hid (anchor15_calls w)
  by_cases h1 : n < 0
  · have d1 : decide (n < 0) = true := decide_eq_true h1
    go_enter Try.func15, Try.ntmps15
    go_wp2_with fail
    refine HAN.out.mono ?_
    rintro e w0 ⟨rfl, hk0⟩
    have HK0 := Lib.hid hk0
    clear hk0
    go_wp2
    go_ret
    exact ⟨rfl, HK0.out.below (fun _ _ h => h)⟩
  have d1 : decide (n < 0) = false := decide_eq_false h1
  by_cases h2 : (50 : Int) < n
  · have d2 : decide ((50 : Int) < n) = true := decide_eq_true h2
    go_enter Try.func15, Try.ntmps15
    go_wp2_with fail
    refine HAN.out.mono ?_
    rintro e w0 ⟨rfl, hk0⟩
    have HK0 := Lib.hid hk0
    clear hk0
    go_wp2
    go_ret
    exact ⟨rfl, HK0.out.below (fun _ _ h => h)⟩
  have d2 : decide ((50 : Int) < n) = false := decide_eq_false h2
  by_cases h3 : p < 0
  · have d3 : decide (p < 0) = true := decide_eq_true h3
    go_enter Try.func15, Try.ntmps15
    go_wp2_with fail
    refine HAN.out.mono ?_
    rintro e w0 ⟨rfl, hk0⟩
    have HK0 := Lib.hid hk0
    clear hk0
    go_wp2
    go_ret
    exact ⟨rfl, HK0.out.below (fun _ _ h => h)⟩
  have d3 : decide (p < 0) = false := decide_eq_false h3
  by_cases h4 : n < p
  · have d4 : decide (n < p) = true := decide_eq_true h4
    go_enter Try.func15, Try.ntmps15
    go_wp2_with fail
    refine HAN.out.mono ?_
    rintro e w0 ⟨rfl, hk0⟩
    have HK0 := Lib.hid hk0
    clear hk0
    go_wp2
    go_ret
    exact ⟨rfl, HK0.out.below (fun _ _ h => h)⟩
  have d4 : decide (n < p) = false := decide_eq_false h4
  by_cases h5 : s < 0
  · have d5 : decide (s < 0) = true := decide_eq_true h5
    go_enter Try.func15, Try.ntmps15
    go_wp2_with fail
    refine HAN.out.mono ?_
    rintro e w0 ⟨rfl, hk0⟩
    have HK0 := Lib.hid hk0
    clear hk0
    go_wp2
    go_ret
    exact ⟨rfl, HK0.out.below (fun _ _ h => h)⟩
  have d5 : decide (s < 0) = false := decide_eq_false h5
  by_cases h6 : p < s
  · have d6 : decide (p < s) = true := decide_eq_true h6
    go_enter Try.func15, Try.ntmps15
    go_wp2_with fail
    refine HAN.out.mono ?_
    rintro e w0 ⟨rfl, hk0⟩
    have HK0 := Lib.hid hk0
    clear hk0
    go_wp2
    go_ret
    exact ⟨rfl, HK0.out.below (fun _ _ h => h)⟩
  have d6 : decide (p < s) = false := decide_eq_false h6
  obtain ⟨N, rfl⟩ := Int.eq_ofNat_of_zero_le (by omega : 0 ≤ n)
  obtain ⟨p, rfl⟩ := Int.eq_ofNat_of_zero_le (by omega : 0 ≤ p)
  obtain ⟨s, rfl⟩ := Int.eq_ofNat_of_zero_le (by omega : 0 ≤ s)
  exact (mailKeeps_calls w N p s refs (by omega) (by omega) (by omega)).mono fun e w' ⟨he, hk⟩ => ⟨he, hk.below (fun _ _ h => h)⟩
end Go.Proofs.Ytnbiofcfphpikaa
