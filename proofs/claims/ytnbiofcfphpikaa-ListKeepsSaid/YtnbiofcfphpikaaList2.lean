/-
  The walks of list: New, Of, Cut, Append.
-/
import Derived.Test.YtnbiofcfphpikaaList
namespace Go.Proofs.Ytnbiofcfphpikaa
open Go.RowKit

/-- The integers of a slice that came in. -/
def Items (w : World) (ib io len : Nat) (xs : Nat → Int) : Prop := ∀ i, i < len → w.cell? ⟨ib, io + i, none⟩ = some (.int .i64 (xs i))
theorem Items.keep {w w' : World} {R : Nat → Prop} {ib io len : Nat} {xs : Nat → Int} (h : Items w ib io len xs) (hR : R ib) (hk : Keeps (fun k => ¬ R k) w w') : Items w' ib io len xs :=
  fun i hi => hk.cell (h i hi) (fun hn => hn hR)
theorem Items.drewN {w : World} {ib io len : Nat} {xs : Nat → Int} (h : Items w ib io len xs) (q : Nat) : Items (w.drewN q) ib io len xs := h
/-- The array a is being filled; all other blocks are as in M0. -/
structure Fa (w w0 wr : World) (R : Nat → Prop) (sp N : Nat) (M0 : Mp) (held : List Int) (n F a size : Nat) (k : Int) (f : Nat → Int) (M' : Mp) : Prop where
  sp : SpA w wr R sp N M' held n F
  kp : Keeps (fun k => ¬ R k) w0 wr
  ar : Ar M' a size k f
  ot : ∀ c, c ≠ a → M' c = M0 c
theorem Fa.drewN {w w0 wr : World} {R : Nat → Prop} {sp N : Nat} {M0 : Mp} {held : List Int} {n F a size : Nat} {k : Int} {f : Nat → Int} {M' : Mp} (h : Fa w w0 wr R sp N M0 held n F a size k f M') (q : Nat) : Fa w w0 (wr.drewN q) R sp N M0 held n F a size k f M' :=
  ⟨h.sp.drewN q, h.kp.drewN q, h.ar, h.ot⟩
theorem Fa.set {w w0 wr : World} {R : Nat → Prop} {sp N : Nat} {M0 : Mp} {held : List Int} {n F a size : Nat} {k : Int} {f : Nat → Int} {M' : Mp} (h : Fa w w0 wr R sp N M0 held n F a size k f M') {wr' : World} {j : Nat} {v : Int}
    (h1 : SpA w wr' R sp N (mset M' a j v) held n F) (h2 : Keeps (fun k => ¬ R k) wr wr') {g : Nat → Int} (hg : setf f j v = g) : Fa w w0 wr' R sp N M0 held n F a size k g (mset M' a j v) :=
  ⟨h1, h.kp.trans h2 (fun _ _ h => h), hg ▸ h.ar.put j v, fun c hc => (mset_ne _ _ _ hc).trans (h.ot c hc)⟩
def pre (xs : Nat → Int) (k : Nat) : Nat → Int := fun j => if j < k then xs j else 0
theorem pre_zero (xs : Nat → Int) : pre xs 0 = fun _ => 0 := by funext j; simp [pre]
theorem pre_succ (xs : Nat → Int) (k : Nat) : setf (pre xs k) k (xs k) = pre xs (k + 1) := by
  funext j
  unfold setf pre
  split
  · rename_i e; subst e; rw [if_pos (by omega)]
  · rename_i e
    by_cases h : j < k
    · rw [if_pos h, if_pos (by omega)]
    · rw [if_neg h, if_neg (by omega)]
def app (old : Nat → Int) (n : Nat) (xs : Nat → Int) (k : Nat) : Nat → Int := fun j => if j < n then old j else if j < n + k then xs (j - n) else 0
theorem app_zero (old : Nat → Int) (n : Nat) (xs : Nat → Int) : app old n xs 0 = pre old n := by
  funext j
  unfold app pre
  by_cases h : j < n
  · rw [if_pos h, if_pos h]
  · rw [if_neg h, if_neg h, if_neg (by omega)]
theorem app_succ (old : Nat → Int) (n : Nat) (xs : Nat → Int) (k : Nat) : setf (app old n xs k) (n + k) (xs k) = app old n xs (k + 1) := by
  funext j
  unfold setf app
  split
  · rename_i e; subst e; rw [if_neg (by omega), if_pos (by omega)]; congr 1; omega
  · rename_i e
    by_cases h : j < n
    · rw [if_pos h, if_pos h]
    · rw [if_neg h, if_neg h]
      by_cases h2 : j < n + k
      · rw [if_pos h2, if_pos (by omega)]
      · rw [if_neg h2, if_neg (by omega)]
/-- The items over the array from place o on. -/
def ovr (f : Nat → Int) (o : Nat) (xs : Nat → Int) (k : Nat) : Nat → Int := fun j => if o ≤ j ∧ j < o + k then xs (j - o) else f j
theorem ovr_zero (f : Nat → Int) (o : Nat) (xs : Nat → Int) : ovr f o xs 0 = f := by funext j; unfold ovr; rw [if_neg (by omega)]
theorem ovr_succ (f : Nat → Int) (o : Nat) (xs : Nat → Int) (k : Nat) : setf (ovr f o xs k) (o + k) (xs k) = ovr f o xs (k + 1) := by
  funext j
  unfold setf ovr
  split
  · rename_i e; subst e; rw [if_pos (by omega)]; congr 1; omega
  · rename_i e
    by_cases h : o ≤ j ∧ j < o + k
    · rw [if_pos h, if_pos (by omega)]
    · rw [if_neg h, if_neg (by omega)]

section
variable {w wr : World} {R : Nat → Prop} {sp N : Nat} {M : Mp} {held : List Int} {n F : Nat}

set_option maxRecDepth 100000 in
set_option maxHeartbeats 1000000 in
theorem lNew (h : SpA w wr R sp N M held n F) (s : Nat) (refs : Bool) (hs : s ≤ 16384) (hF : F + HS.spansOf (s + 1) + 1 ≤ N) (hl : held.length < 1000000) :
    Calls Try.prog 50 #[.pointer (some ⟨sp, 0, none⟩), .int .i64 s, .bool refs] wr fun e w' => ∃ c : Nat, e = .returned (.tuple #[.int .i64 c, .bool true]) ∧
      ∃ A M', M A = none ∧ M c = none ∧ c ≠ A ∧ Sl M' c A 0 s s ∧ Ar M' A s (arKind refs) (fun _ => 0) ∧ (∀ x, x ≠ c → x ≠ A → M' x = M x) ∧ Hid (SpA w w' R sp N M' held n (F + HS.spansOf (s + 1) + 1) ∧ Keeps (fun k => ¬ R k) wr w') := by
  have H1 := Lib.hid (lRoom h s refs hs (by omega))
  have HL := Lib.hid hl
  have HF := Lib.hid hF
  clear h hl hF
  generalize F + HS.spansOf (s + 1) = G at *
  go_enter Try.func50, Try.ntmps50
  go_wp2_with fail
  refine H1.out.mono ?_
  rintro e w1 ⟨A, rfl, hno, h1⟩
  have hA := (h1.out.1.isBlk (setf_same _ _ _)).2.2.2.2
  have H2 := Lib.hid (lWrap h1.out.1 (A : Int) 0 (s : Int) (s : Int) (wf_addr hA) HL.out HF.out)
  have HK := Lib.hid h1.out.2
  have HNO := Lib.hid hno
  clear h1 hno hA
  go_wp2_with fail
  refine H2.out.mono ?_
  rintro e w2 ⟨c, rfl, hno2, h2⟩
  have hne : c ≠ A := by
    rintro rfl
    rw [setf_same] at hno2; cases hno2
  have HFIN : Hid (M A = none ∧ M c = none ∧ c ≠ A ∧ Sl (slMap (setf M A (some ⟨arKind refs, s, 0, fun _ => 0⟩)) c A 0 s s) c A 0 s s ∧ Ar (slMap (setf M A (some ⟨arKind refs, s, 0, fun _ => 0⟩)) c A 0 s s) A s (arKind refs) (fun _ => 0) ∧
      (∀ x, x ≠ c → x ≠ A → slMap (setf M A (some ⟨arKind refs, s, 0, fun _ => 0⟩)) c A 0 s s x = M x) ∧ Hid (SpA w w2 R sp N (slMap (setf M A (some ⟨arKind refs, s, 0, fun _ => 0⟩)) c A 0 s s) held n (G + 1) ∧ Keeps (fun k => ¬ R k) wr w2)) :=
    ⟨HNO.out, by rw [setf_ne _ _ hne] at hno2; exact hno2, hne, slMap_sl _ c A 0 s s, (Ar.new M A s (arKind refs)).other (slMap_other _ _ _ _ _ hne.symm), fun x h1 h2 => by rw [slMap_other _ _ _ _ _ h1, setf_ne _ _ h2], h2.out.1, HK.out.trans h2.out.2 (fun _ _ h => h)⟩
  clear h2 hno2 hne
  go_wp2
  go_ret2
  exact ⟨c, rfl, A, _, HFIN.out⟩

/-- New, whatever room there is: what is held stays. -/
theorem lNewAny (h : SpA w wr R sp N M held n F) (s : Nat) (refs : Bool) (hs : s ≤ 16384) (hl : held.length < 100000) (hn : n ≤ 100000000) :
    Calls Try.prog 50 #[.pointer (some ⟨sp, 0, none⟩), .int .i64 s, .bool refs] wr fun e w' =>
      ∃ (c : Nat) (t : Bool) (M' : Mp) (n1 : Nat), e = .returned (.tuple #[.int .i64 c, .bool t]) ∧ (t = true → ∃ A, Sl M' c A 0 s s) ∧ (t = false → c = 0) ∧ (∀ x, MLive M held x → M' x = M x) ∧ Hid (SpA w w' R sp N M' held n1 N ∧ Keeps (fun k => ¬ R k) wr w') := by
  have H1 := Lib.hid (lRoomAny h s refs hs (by omega) (by omega))
  have HL := Lib.hid hl
  have HN := Lib.hid hn
  clear h hl hn
  go_enter Try.func50, Try.ntmps50
  go_wp2_with fail
  refine H1.out.mono ?_
  rintro e w1 (⟨A, M1, n1, rfl, hM1, hn1, hno, h1⟩ | ⟨rfl, h1⟩)
  · have hA := (h1.out.1.isBlk (setf_same _ _ _)).2.2.2.2
    have H2 := Lib.hid (lWrapAny h1.out.1 (A : Int) 0 (s : Int) (s : Int) (wf_addr hA) (by have := HL.out; omega) (by have := HN.out; omega))
    have HK := Lib.hid h1.out.2
    -- what is reached is there in M1, and in what wrap leaves
    have hlv : ∀ x, MLive M held x → M1 x = M x := by
      intro x hx
      rcases hM1 with rfl | rfl
      · rfl
      · exact mlive_yes hx
    have hl2 : ∀ x, MLive M held x → MLive (setf M1 A (some ⟨arKind refs, s, 0, fun _ => 0⟩)) (held ++ [(A : Int)]) x ∧ x ≠ A := by
      have hnA : ∀ x, MLive M held x → x ≠ A := by
        rintro x hx rfl
        have := hlv x hx
        rw [hno] at this
        exact hx.isSome this.symm
      intro x hx
      refine ⟨?_, hnA x hx⟩
      induction hx with
      | @root a h1 h2 =>
        have hr : MLive M held a := .root h1 h2
        exact .root (List.mem_append_left _ h1) (by rw [setf_ne _ _ (hnA a hr), hlv a hr]; exact h2)
      | @step a c b j ha hb hj hm hw hc ih =>
        have hr : MLive M held c := .step ha hb hj hm hw hc
        exact .step ih (by rw [setf_ne _ _ (hnA a ha), hlv a ha]; exact hb) hj hm hw (by rw [setf_ne _ _ (hnA c hr), hlv c hr]; exact hc)
    have HLV : Hid (∀ x, MLive M held x → (setf M1 A (some ⟨arKind refs, s, 0, fun _ => 0⟩)) x = M x ∧ mlive (setf M1 A (some ⟨arKind refs, s, 0, fun _ => 0⟩)) (held ++ [(A : Int)]) x = M x) := by
      intro x hx
      have h2 := hl2 x hx
      refine ⟨by rw [setf_ne _ _ h2.2, hlv x hx], ?_⟩
      rw [mlive_yes h2.1, setf_ne _ _ h2.2, hlv x hx]
    clear h1 hno hA hM1 hlv hl2 hn1
    go_wp2_with fail
    refine H2.out.mono ?_
    rintro e w2 (⟨c, M2, n2, rfl, hM2, hn2, hno2, h2⟩ | ⟨rfl, h2⟩)
    · have HFIN : Hid (∃ A', Sl (slMap M2 c A 0 s s) c A' 0 s s) := ⟨A, slMap_sl M2 c A 0 s s⟩
      have HF2 : Hid (∀ x, MLive M held x → slMap M2 c A 0 s s x = M x) := by
        intro x hx
        have h3 := HLV.out x hx
        have h4 : M2 x = M x := by rcases hM2 with rfl | rfl; exact h3.1; exact h3.2
        rw [slMap_other _ _ _ _ _ ?_]
        · exact h4
        · rintro rfl
          rw [hno2] at h4
          exact hx.isSome h4.symm
      have HS2 : Hid (SpA w w2 R sp N (slMap M2 c A 0 s s) held n2 N ∧ Keeps (fun k => ¬ R k) wr w2) := ⟨h2.out.1, HK.out.trans h2.out.2 (fun _ _ h => h)⟩
      clear h2 hno2 hM2 hn2
      go_wp2
      go_ret2
      exact ⟨c, true, _, n2, rfl, fun _ => HFIN.out, (fun h => by cases h), HF2.out, HS2⟩
    · have HF2 : Hid (∀ x, MLive M held x → mlive (setf M1 A (some ⟨arKind refs, s, 0, fun _ => 0⟩)) (held ++ [(A : Int)]) x = M x) := fun x hx => (HLV.out x hx).2
      have HS2 : Hid (SpA w w2 R sp N (mlive (setf M1 A (some ⟨arKind refs, s, 0, fun _ => 0⟩)) (held ++ [(A : Int)])) held (n1 + 1) N ∧ Keeps (fun k => ¬ R k) wr w2) := ⟨h2.out.1, HK.out.trans h2.out.2 (fun _ _ h => h)⟩
      clear h2
      go_wp2
      go_ret2
      exact ⟨0, false, _, n1 + 1, rfl, (fun h => by cases h), fun _ => rfl, HF2.out, HS2⟩
  · have HF2 : Hid (∀ x, MLive M held x → mlive M held x = M x) := fun x hx => mlive_yes hx
    go_wp2
    go_ret2
    exact ⟨0, false, _, n + 1, rfl, (fun h => by cases h), fun _ => rfl, HF2.out, h1⟩

set_option maxRecDepth 100000 in
set_option maxHeartbeats 4000000 in
theorem lOf {wa : World} (h : SpA w wa R sp N M held n F) {ib io len cap : Nat} {xs : Nat → Int} (hR : R ib) (hI : Items wa ib io len xs) (refs : Bool) (hs : len ≤ 16384) (hF : F + HS.spansOf (len + 1) + 1 ≤ N) (hl : held.length < 1000000) :
    Calls Try.prog 49 #[.pointer (some ⟨sp, 0, none⟩), .slice (some ⟨ib, io, none⟩) len cap, .bool refs] wa fun e w' => ∃ c : Nat, e = .returned (.tuple #[.int .i64 c, .bool true]) ∧
      ∃ A M', M A = none ∧ M c = none ∧ c ≠ A ∧ Sl M' c A 0 len len ∧ Ar M' A len (arKind refs) (pre xs len) ∧ (∀ x, x ≠ c → x ≠ A → M' x = M x) ∧ Hid (SpA w w' R sp N M' held n (F + HS.spansOf (len + 1) + 1) ∧ Keeps (fun k => ¬ R k) wa w') := by
  have H1 := Lib.hid (lRoom h len refs hs (by omega))
  have HL := Lib.hid hl
  have HF := Lib.hid hF
  have HR := Lib.hid hR
  have HI := Lib.hid hI
  clear h hl hF hR hI
  generalize F + HS.spansOf (len + 1) = G at *
  go_enter Try.func49, Try.ntmps49
  go_wp2_with fail
  refine H1.out.mono ?_
  rintro e w1 ⟨A, rfl, hno, h1⟩
  have hA := (h1.out.1.isBlk (setf_same _ _ _)).2.2.2.2
  have HWF := Lib.hid (wf_addr hA)
  have HNO := Lib.hid hno
  have HST : Hid (Fa w wa w1 R sp N M held n G A len (arKind refs) (pre xs 0) (setf M A (some ⟨arKind refs, len, 0, fun _ => 0⟩))) :=
    ⟨h1.out.1, h1.out.2, by rw [pre_zero]; exact Ar.new M A len (arKind refs), fun c hc => setf_ne _ _ hc⟩
  clear h1 hno hA H1
  go_wp2
  obtain ⟨wo, rfl⟩ : ∃ wo : World, wo = w1 := ⟨_, rfl⟩
  go_loopw [24] (fun i wx => ∃ k : Nat, k ≤ len ∧ i = .int .i64 k ∧ ∃ M', Hid (Fa w wa wx R sp N M held n G A len (arKind refs) (pre xs k) M')) (fun i _ => len - (intOf i).toNat)
  case atStart => exact ⟨0, Nat.zero_le _, rfl, _, HST.out⟩
  case round =>
    clear HST
    obtain ⟨k, hk, rfl, M', hD⟩ := hrel
    by_cases hlt : k < len
    · have dl : decide (k < len) = true := decide_eq_true hlt
      have hcell := (HI.out.keep HR.out hD.out.kp) k hlt
      obtain ⟨B, hB, -, hsz, -⟩ := hD.out.ar
      have H2 := Lib.hid (sSet hD.out.sp A k (xs k) hB (by omega))
      have HX := Lib.hid (fun wy h1 h2 => hD.out.set (wr' := wy) h1 h2 (pre_succ xs k))
      clear hD hB hsz
      generalize xs k = x at *
      go_wp2_with fail
      refine H2.out.mono ?_
      rintro e w2 ⟨rfl, h2⟩
      have HY := Lib.hid (HX.out _ h2.out.1 h2.out.2)
      clear h2 HX H2 hcell
      go_wp2
      go_roundw
      case rel => exact ⟨k + 1, by omega, by go_num, _, HY⟩
      case measure => simp [intOf]; omega
    · obtain rfl : k = len := by omega
      have dl : decide (k < k) = false := by simp
      have H2 := Lib.hid (lWrap hD.out.sp (A : Int) 0 (k : Int) (k : Int) HWF.out HL.out HF.out)
      go_wp2_with fail
      refine H2.out.mono ?_
      rintro e w2 ⟨c, rfl, hno2, h2⟩
      have hne : c ≠ A := by
        rintro rfl
        obtain ⟨B, hB, _⟩ := hD.out.ar
        rw [hB] at hno2; cases hno2
      have HFIN : Hid (M A = none ∧ M c = none ∧ c ≠ A ∧ Sl (slMap M' c A 0 k k) c A 0 k k ∧ Ar (slMap M' c A 0 k k) A k (arKind refs) (pre xs k) ∧
          (∀ x, x ≠ c → x ≠ A → slMap M' c A 0 k k x = M x) ∧ Hid (SpA w w2 R sp N (slMap M' c A 0 k k) held n (G + 1) ∧ Keeps (fun k => ¬ R k) wa w2)) :=
        ⟨HNO.out, by rw [← hD.out.ot c hne]; exact hno2, hne, slMap_sl _ c A 0 k k, hD.out.ar.other (slMap_other _ _ _ _ _ hne.symm), fun x h1 h2 => by rw [slMap_other _ _ _ _ _ h1, hD.out.ot x h2], h2.out.1, hD.out.kp.trans h2.out.2 (fun _ _ h => h)⟩
      clear h2 hno2 hne hD
      go_wp2
      go_ret2
      exact ⟨c, rfl, A, _, HFIN.out⟩

theorem lCutNo (h : SpA w wr R sp N M held n F) (x i j : Int) (hi : i < 0 ∨ j < i ∨ mget M x 3 < j) :
    Calls Try.prog 51 #[.pointer (some ⟨sp, 0, none⟩), .int .i64 x, .int .i64 i, .int .i64 j] wr fun e w' => e = .returned (.tuple #[.int .i64 0, .bool false]) ∧ ∃ q, w' = wr.drewN q := by
  have H2 := Lib.hid (lSize h x)
  clear h
  generalize mget M x 2 = g2 at *
  generalize mget M x 3 = g3 at *
  have key : decide (i < 0) = true ∨ (decide (i < 0) = false ∧ decide (j < i) = true) ∨ (decide (i < 0) = false ∧ decide (j < i) = false ∧ decide (g3 < j) = true) := by
    by_cases h0 : i < 0
    · exact .inl (decide_eq_true h0)
    · by_cases h1 : j < i
      · exact .inr (.inl ⟨decide_eq_false h0, decide_eq_true h1⟩)
      · exact .inr (.inr ⟨decide_eq_false h0, decide_eq_false h1, decide_eq_true (by omega)⟩)
  clear hi
  rcases key with d0 | ⟨d0, d1⟩ | ⟨d0, d1, d2⟩
  all_goals
    go_enter Try.func51, Try.ntmps51
    go_wp2_with fail
    refine H2.out.mono ?_
    rintro e w1 ⟨rfl, q, rfl⟩
    go_wp2
    go_ret2
    exact ⟨rfl, q, rfl⟩
set_option maxRecDepth 100000 in
set_option maxHeartbeats 1000000 in
theorem lCut (h : SpA w wr R sp N M held n F) {c A lo m most : Nat} (hs : Sl M c A lo m most) {size : Nat} {kd : Int} {f : Nat → Int} (ha : Ar M A size kd f) (hsz : lo + most ≤ size) (i j : Nat) (hij : i ≤ j) (hj : j ≤ most) (hF : F + 1 ≤ N) (hl : held.length < 1000000) :
    Calls Try.prog 51 #[.pointer (some ⟨sp, 0, none⟩), .int .i64 c, .int .i64 i, .int .i64 j] wr fun e w' => ∃ c2 : Nat, e = .returned (.tuple #[.int .i64 c2, .bool true]) ∧
      ∃ M', M c2 = none ∧ Sl M' c2 A (lo + i) (j - i) (most - i) ∧ (∀ x, x ≠ c2 → M' x = M x) ∧ Hid (SpA w w' R sp N M' held n (F + 1) ∧ Keeps (fun k => ¬ R k) wr w') := by
  have hg := hs.get
  have H1 := lSize h (c : Int)
  rw [hg.2.2.1, hg.2.2.2] at H1
  have H1' := Lib.hid H1
  have H2 := fun q => sGet (h.drewN q) (c : Int) 0
  rw [hg.1] at H2
  have H2' := fun q => Lib.hid (H2 q)
  have H3 := fun q => sGet (h.drewN q) (c : Int) 1
  rw [hg.2.1] at H3
  have H3' := fun q => Lib.hid (H3 q)
  obtain ⟨B, hB, -, hs2, -⟩ := ha
  have hsz2 := h.isBlk hB
  rw [hs2] at hsz2
  have H4 := fun q => lWrap (h.drewN q) (A : Int) ((lo + i : Nat) : Int) ((j - i : Nat) : Int) ((most - i : Nat) : Int) (wf_addr hsz2.2.2.2.2) hl hF
  have HM : Hid (∀ c2, Sl (slMap M c2 A ((lo + i : Nat) : Int) ((j - i : Nat) : Int) ((most - i : Nat) : Int)) c2 A (lo + i) (j - i) (most - i)) := fun c2 => slMap_sl M c2 A (lo + i) (j - i) (most - i)
  have ee : ((lo + i : Nat) : Int) = (lo : Int) + (i : Int) ∧ ((j - i : Nat) : Int) = (j : Int) - (i : Int) ∧ ((most - i : Nat) : Int) = (most : Int) - (i : Int) := by omega
  rw [ee.1, ee.2.1, ee.2.2] at H4 HM
  have H4' := fun q => Lib.hid (H4 q)
  obtain ⟨C, hC, -⟩ := hs
  have hc0 := (h.isBlk hC).1
  have d0 : decide ((i : Int) < 0) = false := decide_eq_false (by omega)
  have d1 : decide (j < i) = false := decide_eq_false (by omega)
  have d2 : decide (most < j) = false := decide_eq_false (by omega)
  have d3 : ((c : Int) == 0) = false := by simp; omega
  have hlo1 : lo < 20000 := by omega
  have hi1 : i < 20000 := by omega
  have hj1 : j < 20000 := by omega
  have hm1 : most < 20000 := by omega
  clear hg H1 H2 H3 H4 h hB hC hs2 hsz hsz2 ee hc0 hij hj hl hF
  go_enter Try.func51, Try.ntmps51
  go_wp2_with fail
  refine H1'.out.mono ?_
  rintro e w1 ⟨rfl, q, rfl⟩
  go_wp2_with fail
  refine (H2' q).out.mono ?_
  rintro e w2 ⟨rfl, q2, rfl⟩
  go_wp2_with fail
  refine (H3' (q + q2)).out.mono ?_
  rintro e w3 ⟨rfl, q3, rfl⟩
  go_wp2_with fail
  refine (H4' (q + q2 + q3)).out.mono ?_
  rintro e w4 ⟨c2, rfl, hno, h4⟩
  have HNO := Lib.hid hno
  have HS4 : Hid (SpA w w4 R sp N (slMap M c2 A ((lo : Int) + (i : Int)) ((j : Int) - (i : Int)) ((most : Int) - (i : Int))) held n (F + 1) ∧ Keeps (fun k => ¬ R k) wr w4) := ⟨h4.out.1, ((Keeps.refl _ wr).drewN (q + q2 + q3)).trans h4.out.2 (fun _ _ h => h)⟩
  clear hno h4
  go_wp2
  go_ret2
  exact ⟨c2, rfl, _, HNO.out, HM.out c2, fun x hx => slMap_other _ _ _ _ _ hx, HS4⟩
end
end Go.Proofs.Ytnbiofcfphpikaa
