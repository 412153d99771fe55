/-
  The walks of list.Append.
-/
import Derived.Test.YtnbiofcfphpikaaList2
namespace Go.Proofs.Ytnbiofcfphpikaa
open Go.RowKit

/-- The slice x reads as old 0, .., old (n - 1). -/
def Rd (M : Mp) (x : Int) (n most : Nat) (old : Nat → Int) : Prop :=
  mget M x 2 = (n : Int) ∧ mget M x 3 = (most : Int) ∧ (n = 0 ∨ ∃ c A lo size : Nat, ∃ k f, x = (c : Int) ∧ Sl M c A lo n most ∧ Ar M A size k f ∧ lo + n ≤ size ∧ ∀ j, j < n → old j = f (lo + j))
theorem Rd.nil (M : Mp) (h0 : M 0 = none) (old : Nat → Int) : Rd M 0 0 0 old := ⟨mget_none (x := 0) h0 2, mget_none (x := 0) h0 3, .inl rfl⟩
theorem Rd.of {M : Mp} {c A lo n most size : Nat} {k : Int} {f old : Nat → Int} (hs : Sl M c A lo n most) (ha : Ar M A size k f) (hsz : lo + n ≤ size) (ho : ∀ j, j < n → old j = f (lo + j)) : Rd M (c : Int) n most old :=
  ⟨hs.get.2.2.1, hs.get.2.2.2, .inr ⟨c, A, lo, size, k, f, rfl, hs, ha, hsz, ho⟩⟩

set_option maxRecDepth 100000 in
set_option maxHeartbeats 4000000 in
theorem lAppIn {w wa : World} {R : Nat → Prop} {sp N : Nat} {M : Mp} {held : List Int} {n F : Nat} (h : SpA w wa R sp N M held n F) {c A lo m most size : Nat} {kd : Int} {f : Nat → Int} (hs : Sl M c A lo m most) (ha : Ar M A size kd f) (hsz : lo + most ≤ size)
    {ib io len cap : Nat} {xs : Nat → Int} (hR : R ib) (hI : Items wa ib io len xs) (refs : Bool) (hlen : 0 < len) (hm : m + len ≤ most) (ht : m + len ≤ 16384) (hF : F + 1 ≤ N) (hl : held.length < 1000000) :
    Calls Try.prog 46 #[.pointer (some ⟨sp, 0, none⟩), .int .i64 c, .slice (some ⟨ib, io, none⟩) len cap, .bool refs] wa fun e w' => ∃ c2 : Nat, e = .returned (.tuple #[.int .i64 c2, .bool true]) ∧
      ∃ M', M c2 = none ∧ Sl M' c2 A lo (m + len) most ∧ Ar M' A size kd (ovr f (lo + m) xs len) ∧ (∀ x, x ≠ c2 → x ≠ A → M' x = M x) ∧ Hid (SpA w w' R sp N M' held n (F + 1) ∧ Keeps (fun k => ¬ R k) wa w') := by
  have hg := hs.get
  have H1 := lSize h (c : Int)
  rw [hg.2.2.1, hg.2.2.2] at H1
  have H1' := Lib.hid H1
  have H2 := fun q => sGet (h.drewN q) (c : Int) 0
  rw [hg.1] at H2
  have H2' := fun q => Lib.hid (H2 q)
  have H3 := fun q => sGet (h.drewN q) (c : Int) 1
  rw [hg.2.1] at H3
  have H3' := fun q => Lib.hid (H3 q)
  obtain ⟨B, hB, -, hs2, -⟩ := id ha
  have hsz2 := h.isBlk hB
  rw [hs2] at hsz2
  have H4 := fun q => lWrap (h.drewN q) (A : Int) (lo : Int) ((m + len : Nat) : Int) (most : Int) (wf_addr hsz2.2.2.2.2) hl hF
  have hAn : ∀ c2, M c2 = none → A ≠ c2 := fun c2 hno => ha.ne hno
  have HM : Hid (∀ c2, M c2 = none → Sl (slMap M c2 A lo ((m + len : Nat) : Int) most) c2 A lo (m + len) most ∧ Ar (slMap M c2 A lo ((m + len : Nat) : Int) most) A size kd (ovr f (lo + m) xs 0) ∧ A ≠ c2) :=
    fun c2 hno => ⟨slMap_sl M c2 A lo (m + len) most, by rw [ovr_zero]; exact ha.other (slMap_other _ _ _ _ _ (hAn c2 hno)), hAn c2 hno⟩
  have ee : ((m + len : Nat) : Int) = (m : Int) + (len : Int) := by omega
  rw [ee] at H4 HM
  have H4' := fun q => Lib.hid (H4 q)
  have d1 : decide ((16384 : Int) < (m : Int) + (len : Int)) = false := decide_eq_false (by omega)
  have d2 : decide ((m : Int) + (len : Int) ≤ (most : Int)) = true := decide_eq_true (by omega)
  have d3 : ((len : Int) == 0) = false := by simp; omega
  have hlo1 : lo < 20000 := by omega
  have hm1 : m < 20000 := by omega
  have hlen1 : len < 20000 := by omega
  have HR := Lib.hid hR
  have HI := Lib.hid hI
  have HSZ : Hid (lo + (m + len) ≤ size ∧ m + len ≤ most) := ⟨by omega, hm⟩
  clear hg H1 H2 H3 H4 h hB hs2 hsz hsz2 ee hl hF hR hI hAn ha hs hm
  go_enter Try.func46, Try.ntmps46
  go_wp2_with fail
  refine H1'.out.mono ?_
  rintro e w1 ⟨rfl, q, rfl⟩
  go_wp2_with fail
  refine (H2' q).out.mono ?_
  rintro e w2 ⟨rfl, q2, rfl⟩
  go_wp2_with fail
  refine (H3' (q + q2)).out.mono ?_
  rintro e w3 ⟨rfl, q3, rfl⟩
  go_wp2_with fail
  refine (H4' (q + q2 + q3)).out.mono ?_
  rintro e w4 ⟨c2, rfl, hno, h4⟩
  have hM := HM.out c2 hno
  have HNO := Lib.hid hno
  have HSL := Lib.hid hM.1
  have HNE := Lib.hid hM.2.2
  have HST : Hid (Fa w wa w4 R sp N (slMap M c2 A lo ((m : Int) + (len : Int)) most) held n (F + 1) A size kd (ovr f (lo + m) xs 0) (slMap M c2 A lo ((m : Int) + (len : Int)) most)) :=
    ⟨h4.out.1, ((Keeps.refl _ wa).drewN (q + q2 + q3)).trans h4.out.2 (fun _ _ h => h), hM.2.1, fun _ _ => rfl⟩
  clear hno h4 hM HM H1' H2' H3' H4'
  generalize hM0 : slMap M c2 A lo ((m : Int) + (len : Int)) most = M0 at *
  have HM0 := Lib.hid hM0
  clear hM0
  go_wp2
  obtain ⟨wo, rfl⟩ : ∃ wo : World, wo = w4 := ⟨_, rfl⟩
  go_loopw [62] (fun i wx => ∃ k : Nat, k ≤ len ∧ i = .int .i64 k ∧ ∃ M', Hid (Fa w wa wx R sp N M0 held n (F + 1) A size kd (ovr f (lo + m) xs k) M')) (fun i _ => len - (intOf i).toNat)
  case atStart => exact ⟨0, Nat.zero_le _, rfl, _, HST.out⟩
  case round =>
    clear HST
    obtain ⟨k, hk, rfl, M', hD⟩ := hrel
    by_cases hlt : k < len
    · have dl : decide (k < len) = true := decide_eq_true hlt
      have hcell := (HI.out.keep HR.out hD.out.kp) k hlt
      have H2 := lPut hD.out.sp (HSL.out.other (hD.out.ot c2 HNE.out.symm)) hD.out.ar (m + k) (xs k) (by omega) (by have := HSZ.out; omega)
      rw [show ((m + k : Nat) : Int) = (m : Int) + (k : Int) by omega, show lo + (m + k) = lo + m + k by omega] at H2
      have H2' := Lib.hid H2
      have HX := Lib.hid (fun wy h1 h2 => hD.out.set (wr' := wy) h1 h2 (ovr_succ f (lo + m) xs k))
      clear hD H2
      generalize xs k = x at *
      go_wp2_with fail
      refine H2'.out.mono ?_
      rintro e w2 ⟨rfl, h2⟩
      have HY := Lib.hid (HX.out _ h2.out.1 h2.out.2)
      clear h2 HX H2' hcell
      go_wp2
      go_roundw
      case rel => exact ⟨k + 1, by omega, by go_num, _, HY⟩
      case measure => simp [intOf]; omega
    · obtain rfl : k = len := by omega
      have dl : decide (k < k) = false := by simp
      have HFIN : Hid (M c2 = none ∧ Sl M' c2 A lo (m + k) most ∧ Ar M' A size kd (ovr f (lo + m) xs k) ∧ (∀ x, x ≠ c2 → x ≠ A → M' x = M x) ∧ Hid (SpA w wr R sp N M' held n (F + 1) ∧ Keeps (fun k => ¬ R k) wa wr)) :=
        ⟨HNO.out, HSL.out.other (hD.out.ot c2 HNE.out.symm), hD.out.ar, fun x h1 h2 => by rw [hD.out.ot x h2, ← HM0.out, slMap_other _ _ _ _ _ h1], hD.out.sp, hD.out.kp⟩
      clear hD
      go_wp2
      go_ret2
      exact ⟨c2, rfl, _, HFIN.out⟩

def grownTo (most total : Nat) : Nat := if 2 * most < total then total else 2 * most
set_option maxRecDepth 100000 in
set_option maxHeartbeats 4000000 in
theorem lAppGrow {w wa : World} {R : Nat → Prop} {sp N : Nat} {M : Mp} {held : List Int} {n F : Nat} (h : SpA w wa R sp N M held n F) {x : Int} {m most : Nat} {old : Nat → Int} (hr : Rd M x m most old)
    {ib io len cap : Nat} {xs : Nat → Int} (hR : R ib) (hI : Items wa ib io len xs) (refs : Bool) (hlen : 0 < len) (hm : most < m + len) (hmm : m ≤ most) (ht : m + len ≤ 8000) (hF : F + HS.spansOf (grownTo most (m + len) + 1) + 1 ≤ N) (hl : held.length < 1000000) :
    Calls Try.prog 46 #[.pointer (some ⟨sp, 0, none⟩), .int .i64 x, .slice (some ⟨ib, io, none⟩) len cap, .bool refs] wa fun e w' => ∃ c2 : Nat, e = .returned (.tuple #[.int .i64 c2, .bool true]) ∧
      ∃ A M', M A = none ∧ M c2 = none ∧ c2 ≠ A ∧ Sl M' c2 A 0 (m + len) (grownTo most (m + len)) ∧ Ar M' A (grownTo most (m + len)) (arKind refs) (app old m xs len) ∧ (∀ y, y ≠ c2 → y ≠ A → M' y = M y) ∧
        Hid (SpA w w' R sp N M' held n (F + HS.spansOf (grownTo most (m + len) + 1) + 1) ∧ Keeps (fun k => ¬ R k) wa w') := by
  obtain ⟨hr1, hr2, hr3⟩ := hr
  have H1 := lSize h x
  rw [hr1, hr2] at H1
  have H1' := Lib.hid H1
  have hgr : grownTo most (m + len) ≤ 16384 := by unfold grownTo; split <;> omega
  have hgt : m + len ≤ grownTo most (m + len) := by unfold grownTo; split <;> omega
  have H2 := fun q => Lib.hid (lRoom (h.drewN q) (grownTo most (m + len)) refs hgr (by omega))
  have hcases : ((2 * (most : Int) < (m : Int) + (len : Int)) ∧ ((grownTo most (m + len) : Nat) : Int) = (m : Int) + (len : Int)) ∨ (((m : Int) + (len : Int) ≤ 2 * (most : Int)) ∧ ((grownTo most (m + len) : Nat) : Int) = 2 * (most : Int)) := by
    unfold grownTo
    split
    · left; omega
    · right; omega
  have HRD : Hid (∀ (M' : Mp) a, M a = none → (∀ y, y ≠ a → M' y = M y) → m = 0 ∨ ∃ c A lo size : Nat, ∃ k f, x = (c : Int) ∧ Sl M' c A lo m most ∧ Ar M' A size k f ∧ lo + m ≤ size ∧ (∀ j, j < m → old j = f (lo + j))) := by
    intro M' a hno ho
    rcases hr3 with h0 | ⟨c, A, lo, size, k, f, h1, h2, h3, h4, h5⟩
    · exact .inl h0
    · exact .inr ⟨c, A, lo, size, k, f, h1, h2.other (ho c (h2.ne hno)), h3.other (ho A (h3.ne hno)), h4, h5⟩
  have d1 : decide ((16384 : Int) < (m : Int) + (len : Int)) = false := decide_eq_false (by omega)
  have d2 : decide ((m : Int) + (len : Int) ≤ (most : Int)) = false := decide_eq_false (by omega)
  have d3 : ((len : Int) == 0) = false := by simp; omega
  have hm1 : m < 20000 := by omega
  have hmo1 : most < 20000 := by omega
  have hlen1 : len < 20000 := by omega
  have HF := Lib.hid hF
  have HL := Lib.hid hl
  have HR := Lib.hid hR
  have HI := Lib.hid hI
  clear h H1 hr1 hr2 hr3 hl hF hR hI hm
  generalize hG : F + HS.spansOf (grownTo most (m + len) + 1) = G at *
  generalize hgg : grownTo most (m + len) = g at *
  clear hG hgg
  have hg2 : (g : Int) ≤ 16384 := by omega
  rcases hcases with ⟨hc1, hc2⟩ | ⟨hc1, hc2⟩
  all_goals
    have HC2 := Lib.hid hc2
    rw [hc2] at H2
    rw [hc2] at hg2
    clear hc2
    go_enter Try.func46, Try.ntmps46
    go_wp2_with fail
    refine H1'.out.mono ?_
    rintro e w1 ⟨rfl, q, rfl⟩
    go_wp2_with fail
    refine (H2 q).out.mono ?_
    rintro e w2 ⟨A, rfl, hno, h2⟩
    have hA := (h2.out.1.isBlk (setf_same _ _ _)).2.2.2.2
    have HWF := Lib.hid (wf_addr hA)
    have HNO := Lib.hid hno
    have HST : Hid (Fa w wa w2 R sp N M held n G A g (arKind refs) (pre old 0) (setf M A (some ⟨arKind refs, g, 0, fun _ => 0⟩))) :=
      ⟨h2.out.1, ((Keeps.refl _ wa).drewN q).trans h2.out.2 (fun _ _ h => h), by rw [pre_zero]; exact Ar.new M A g (arKind refs), fun c hc => setf_ne _ _ hc⟩
    clear h2 hno hA H2 H1'
    go_wp2
    obtain ⟨wo, rfl⟩ : ∃ wo : World, wo = w2 := ⟨_, rfl⟩
    go_loopw [93] (fun i wx => ∃ k : Nat, k ≤ m ∧ i = .int .i64 k ∧ ∃ M', Hid (Fa w wa wx R sp N M held n G A g (arKind refs) (pre old k) M')) (fun i _ => m - (intOf i).toNat)
    case atStart => exact ⟨0, Nat.zero_le _, rfl, _, HST.out⟩
    case round =>
      clear HST
      obtain ⟨k, hk, rfl, M', hD⟩ := hrel
      by_cases hlt : k < m
      · have dl : decide (k < m) = true := decide_eq_true hlt
        rcases HRD.out M' A HNO.out hD.out.ot with h0 | ⟨c, A2, lo, size, kd, f, rfl, hs, ha, hsz, hold⟩
        · omega
        · have H3 := lAt hD.out.sp hs ha k hlt (by omega)
          rw [← hold k hlt] at H3
          have H3' := Lib.hid H3
          obtain ⟨B, hB, -, hsz2, -⟩ := hD.out.ar
          have H4 := fun q => Lib.hid (sSet (hD.out.sp.drewN q) A k (old k) hB (by omega))
          have HX := Lib.hid (fun q wy h1 h2 => (hD.out.drewN q).set (wr' := wy) h1 h2 (pre_succ old k))
          clear hD hB hsz2 hs ha hold H3 hsz
          generalize old k = v at *
          go_wp2_with fail
          refine H3'.out.mono ?_
          rintro e w3 ⟨rfl, q3, rfl⟩
          go_wp2_with fail
          refine (H4 q3).out.mono ?_
          rintro e w4 ⟨rfl, h4⟩
          have HY := Lib.hid (HX.out q3 _ h4.out.1 h4.out.2)
          clear h4 HX H4 H3'
          go_wp2
          go_roundw
          case rel => exact ⟨k + 1, by omega, by go_num, _, HY⟩
          case measure => simp [intOf]; omega
      · obtain rfl : k = m := by omega
        have dl : decide (k < k) = false := by simp
        go_wp2
        obtain ⟨wo2, rfl⟩ : ∃ wo : World, wo = wr := ⟨_, rfl⟩
        go_loopw [111] (fun i wx => ∃ t : Nat, t ≤ len ∧ i = .int .i64 t ∧ ∃ M', Hid (Fa w wa wx R sp N M held n G A g (arKind refs) (app old k xs t) M')) (fun i _ => len - (intOf i).toNat)
        case atStart => exact ⟨0, Nat.zero_le _, rfl, M', by rw [app_zero]; exact hD⟩
        case round =>
          clear hD
          obtain ⟨t, ht, rfl, M', hD⟩ := hrel
          by_cases hlt2 : t < len
          · have dt : decide (t < len) = true := decide_eq_true hlt2
            have hcell := (HI.out.keep HR.out hD.out.kp) t hlt2
            obtain ⟨B, hB, -, hsz, -⟩ := hD.out.ar
            have H2 := sSet hD.out.sp A (k + t) (xs t) hB (by omega)
            rw [show ((k + t : Nat) : Int) = (k : Int) + (t : Int) by omega] at H2
            have H2' := Lib.hid H2
            have HX := Lib.hid (fun wy h1 h2 => hD.out.set (wr' := wy) h1 h2 (app_succ old k xs t))
            clear hD hB hsz H2
            generalize xs t = v at *
            go_wp2_with fail
            refine H2'.out.mono ?_
            rintro e w2 ⟨rfl, h2⟩
            have HY := Lib.hid (HX.out _ h2.out.1 h2.out.2)
            clear h2 HX H2' hcell
            go_wp2
            go_roundw
            case rel => exact ⟨t + 1, by omega, by go_num, _, HY⟩
            case measure => simp [intOf]; omega
          · obtain rfl : t = len := by omega
            have dt : decide (t < t) = false := by simp
            have H2 := lWrap hD.out.sp (A : Int) 0 ((k : Int) + (t : Int)) (g : Int) HWF.out HL.out HF.out
            rw [HC2.out] at H2
            have H2' := Lib.hid H2
            clear H2
            go_wp2_with fail
            refine H2'.out.mono ?_
            rintro e w3 ⟨c, rfl, hno2, h2⟩
            have hne : c ≠ A := by
              rintro rfl
              obtain ⟨B, hB, _⟩ := hD.out.ar
              rw [hB] at hno2; cases hno2
            have hsl := slMap_sl M' c A 0 (k + t) g
            rw [show ((k + t : Nat) : Int) = (k : Int) + (t : Int) by omega, show ((0 : Nat) : Int) = 0 from rfl] at hsl
            have h2s : SpA w w3 R sp N (slMap M' c (A : Int) 0 ((k : Int) + (t : Int)) (g : Int)) held n (G + 1) := by rw [HC2.out]; exact h2.out.1
            have HFIN : Hid (M A = none ∧ M c = none ∧ c ≠ A ∧ Sl (slMap M' c (A : Int) 0 ((k : Int) + (t : Int)) (g : Int)) c A 0 (k + t) g ∧ Ar (slMap M' c (A : Int) 0 ((k : Int) + (t : Int)) (g : Int)) A g (arKind refs) (app old k xs t) ∧
                (∀ y, y ≠ c → y ≠ A → slMap M' c (A : Int) 0 ((k : Int) + (t : Int)) (g : Int) y = M y) ∧ Hid (SpA w w3 R sp N (slMap M' c (A : Int) 0 ((k : Int) + (t : Int)) (g : Int)) held n (G + 1) ∧ Keeps (fun k => ¬ R k) wa w3)) :=
              ⟨HNO.out, by rw [← hD.out.ot c hne]; exact hno2, hne, hsl, hD.out.ar.other (slMap_other _ _ _ _ _ hne.symm), fun y h1 h2 => (slMap_other _ _ _ _ _ h1).trans (hD.out.ot y h2), h2s, hD.out.kp.trans h2.out.2 (fun _ _ h => h)⟩
            clear h2 hno2 hne hD hsl h2s
            go_wp2
            go_ret2
            exact ⟨c, rfl, A, _, HFIN.out⟩
end Go.Proofs.Ytnbiofcfphpikaa
