/-
  Slices in words: their plain data; the walks of list: wrap, room, New, Size, At, Put, Cut.
-/
import Derived.Test.YtnbiofcfphpikaaMTwo
namespace Go.Proofs.Ytnbiofcfphpikaa
open Go.RowKit

/-- The slice at c: its array, where it begins, its length, its capacity. -/
def Sl (M : Mp) (c A lo n most : Nat) : Prop := ∃ B : Blk, M c = some B ∧ B.k = 4 ∧ B.s = 4 ∧ B.m = 1 ∧ B.W 0 = (A : Int) ∧ B.W 1 = (lo : Int) ∧ B.W 2 = (n : Int) ∧ B.W 3 = (most : Int)
/-- The array at A. -/
def Ar (M : Mp) (A size : Nat) (k : Int) (f : Nat → Int) : Prop := ∃ B : Blk, M A = some B ∧ B.k = k ∧ B.s = size ∧ B.m = 0 ∧ ∀ j, j < size → B.W j = f j
theorem Sl.get {M : Mp} {c A lo n most : Nat} (h : Sl M c A lo n most) : mget M (c : Int) 0 = (A : Int) ∧ mget M (c : Int) 1 = (lo : Int) ∧ mget M (c : Int) 2 = (n : Int) ∧ mget M (c : Int) 3 = (most : Int) := by
  obtain ⟨B, hB, -, hs, -, h0, h1, h2, h3⟩ := h
  exact ⟨(mget_at hB 0 rfl (by omega)).trans h0, (mget_at hB 1 rfl (by omega)).trans h1, (mget_at hB 2 rfl (by omega)).trans h2, (mget_at hB 3 rfl (by omega)).trans h3⟩
theorem Sl.other {M M' : Mp} {c A lo n most : Nat} (h : Sl M c A lo n most) (e : M' c = M c) : Sl M' c A lo n most := by
  obtain ⟨B, hB, h2⟩ := h
  exact ⟨B, e.trans hB, h2⟩
theorem Ar.other {M M' : Mp} {A size : Nat} {k : Int} {f : Nat → Int} (h : Ar M A size k f) (e : M' A = M A) : Ar M' A size k f := by
  obtain ⟨B, hB, h2⟩ := h
  exact ⟨B, e.trans hB, h2⟩
theorem Ar.congr {M : Mp} {A size : Nat} {k : Int} {f g : Nat → Int} (h : Ar M A size k f) (e : ∀ j, j < size → f j = g j) : Ar M A size k g := by
  obtain ⟨B, hB, h1, h2, h3, h4⟩ := h
  exact ⟨B, hB, h1, h2, h3, fun j hj => (h4 j hj).trans (e j hj)⟩
theorem Ar.get {M : Mp} {A size : Nat} {k : Int} {f : Nat → Int} (h : Ar M A size k f) {j : Nat} (hj : j < size) : mget M (A : Int) (j : Int) = f j := by
  obtain ⟨B, hB, -, hs, -, hf⟩ := h
  rw [mget_at hB j rfl (by omega), hf j hj]
theorem Ar.put {M : Mp} {A size : Nat} {k : Int} {f : Nat → Int} (h : Ar M A size k f) (j : Nat) (v : Int) : Ar (mset M A j v) A size k (setf f j v) := by
  obtain ⟨B, hB, hk, hs, hm, hf⟩ := h
  refine ⟨_, mset_same hB, hk, hs, hm, fun i hi => ?_⟩
  by_cases e : i = j
  · subst e; rw [put_same, setf_same]
  · rw [put_ne _ _ e, setf_ne _ _ e]; exact hf i hi
theorem Ar.new (M : Mp) (A size : Nat) (k : Int) : Ar (setf M A (some ⟨k, size, 0, fun _ => 0⟩)) A size k (fun _ => 0) := ⟨_, setf_same _ _ _, rfl, rfl, rfl, fun _ _ => rfl⟩
theorem Sl.ne {M : Mp} {c A lo n most x : Nat} (h : Sl M c A lo n most) (hx : M x = none) : c ≠ x := by
  rintro rfl
  obtain ⟨B, hB, _⟩ := h
  rw [hB] at hx; cases hx
theorem Ar.ne {M : Mp} {A size x : Nat} {k : Int} {f : Nat → Int} (h : Ar M A size k f) (hx : M x = none) : A ≠ x := by
  rintro rfl
  obtain ⟨B, hB, _⟩ := h
  rw [hB] at hx; cases hx
/-- What wrap makes of the map. -/
def slMap (M : Mp) (c : Nat) (A lo n most : Int) : Mp := mset (mset (mset (mset (setf M c (some ⟨4, 4, 1, fun _ => 0⟩)) c 0 A) c 1 lo) c 2 n) c 3 most
theorem slMap_other (M : Mp) {c x : Nat} (A lo n most : Int) (h : x ≠ c) : slMap M c A lo n most x = M x := by
  unfold slMap
  rw [mset_ne _ _ _ h, mset_ne _ _ _ h, mset_ne _ _ _ h, mset_ne _ _ _ h, setf_ne _ _ h]
theorem slMap_sl (M : Mp) (c A lo n most : Nat) : Sl (slMap M c A lo n most) c A lo n most := by
  have h0 : setf M c (some (⟨4, 4, 1, fun _ => 0⟩ : Blk)) c = some ⟨4, 4, 1, fun _ => 0⟩ := setf_same _ _ _
  refine ⟨_, mset_same (mset_same (mset_same (mset_same h0))), rfl, rfl, rfl, ?_, ?_, ?_, ?_⟩
  · rw [put_ne _ _ (by omega), put_ne _ _ (by omega), put_ne _ _ (by omega), put_same]
  · rw [put_ne _ _ (by omega), put_ne _ _ (by omega), put_same]
  · rw [put_ne _ _ (by omega), put_same]
  · rw [put_same]

section
variable {w wr : World} {R : Nat → Prop} {sp N : Nat} {M : Mp} {held : List Int} {n F : Nat}

/-- What wrap does behind a Make that succeeded. -/
def WrapSets (w : World) (R : Nat → Prop) (sp N : Nat) (M : Mp) (held : List Int) (n F c : Nat) (A lo m most : Int) : Prop :=
  ∀ w2, SpA w w2 R sp N (setf M c (some ⟨4, 4, 1, fun _ => 0⟩)) held n F →
    Calls Try.prog 28 #[.pointer (some ⟨sp, 0, none⟩), .int .i64 c, .int .i64 0, .int .i64 A] w2 fun e w3 => e = .returned (.bool true) ∧ Hid (SpA w w3 R sp N (mset (setf M c (some ⟨4, 4, 1, fun _ => 0⟩)) c 0 A) held n F ∧ Keeps (fun k => ¬ R k) w2 w3)
theorem lSets0 (c : Nat) (A : Int) {w2 : World} (h : SpA w w2 R sp N (setf M c (some ⟨4, 4, 1, fun _ => 0⟩)) held n F) :
    Calls Try.prog 28 #[.pointer (some ⟨sp, 0, none⟩), .int .i64 c, .int .i64 0, .int .i64 A] w2 fun e w3 => e = .returned (.bool true) ∧ Hid (SpA w w3 R sp N (mset (setf M c (some ⟨4, 4, 1, fun _ => 0⟩)) c 0 A) held n F ∧ Keeps (fun k => ¬ R k) w2 w3) :=
  sSet h c 0 A (setf_same _ _ _) (show 0 < 4 by omega)
theorem lSets1 (c : Nat) (A lo : Int) {w2 : World} (h : SpA w w2 R sp N (mset (setf M c (some ⟨4, 4, 1, fun _ => 0⟩)) c 0 A) held n F) :
    Calls Try.prog 28 #[.pointer (some ⟨sp, 0, none⟩), .int .i64 c, .int .i64 1, .int .i64 lo] w2 fun e w3 => e = .returned (.bool true) ∧ Hid (SpA w w3 R sp N (mset (mset (setf M c (some ⟨4, 4, 1, fun _ => 0⟩)) c 0 A) c 1 lo) held n F ∧ Keeps (fun k => ¬ R k) w2 w3) :=
  sSet h c 1 lo (mset_same (setf_same _ _ _)) (show 1 < 4 by omega)
theorem lSets2 (c : Nat) (A lo m : Int) {w2 : World} (h : SpA w w2 R sp N (mset (mset (setf M c (some ⟨4, 4, 1, fun _ => 0⟩)) c 0 A) c 1 lo) held n F) :
    Calls Try.prog 28 #[.pointer (some ⟨sp, 0, none⟩), .int .i64 c, .int .i64 2, .int .i64 m] w2 fun e w3 => e = .returned (.bool true) ∧ Hid (SpA w w3 R sp N (mset (mset (mset (setf M c (some ⟨4, 4, 1, fun _ => 0⟩)) c 0 A) c 1 lo) c 2 m) held n F ∧ Keeps (fun k => ¬ R k) w2 w3) :=
  sSet h c 2 m (mset_same (mset_same (setf_same _ _ _))) (show 2 < 4 by omega)
theorem lSets3 (c : Nat) (A lo m most : Int) {w2 : World} (h : SpA w w2 R sp N (mset (mset (mset (setf M c (some ⟨4, 4, 1, fun _ => 0⟩)) c 0 A) c 1 lo) c 2 m) held n F) :
    Calls Try.prog 28 #[.pointer (some ⟨sp, 0, none⟩), .int .i64 c, .int .i64 3, .int .i64 most] w2 fun e w3 => e = .returned (.bool true) ∧ Hid (SpA w w3 R sp N (slMap M c A lo m most) held n F ∧ Keeps (fun k => ¬ R k) w2 w3) :=
  sSet h c 3 most (mset_same (mset_same (mset_same (setf_same _ _ _)))) (show 3 < 4 by omega)

set_option maxRecDepth 100000 in
set_option maxHeartbeats 1000000 in
theorem lWrapGen (h : SpA w wr R sp N M held n F) (A lo m most : Int) (hA : (Lit.int .i64 A).wf = true) (hl : held.length < 1000000) {Q : Nat → Nat → Nat → Mp → Prop} {Z : Nat → Nat → Mp → Prop}
    (hmk : ∀ w2, SpA w w2 R sp N M (held ++ [A]) n F → Calls Try.prog 22 #[.pointer (some ⟨sp, 0, none⟩), .int .i64 4, .int .i64 4, .int .i64 1] w2 fun e w3 =>
      (∃ c M1 n1 F1, e = .returned (.tuple #[.int .i64 ((c : Nat) : Int), .bool true]) ∧ Q c n1 F1 M1 ∧ Hid (SpA w w3 R sp N (setf M1 c (some ⟨4, 4, 1, fun _ => 0⟩)) (held ++ [A]) n1 F1 ∧ Keeps (fun k => ¬ R k) w2 w3)) ∨
      (∃ M1 n1 F1, e = .returned (.tuple #[.int .i64 0, .bool false]) ∧ Z n1 F1 M1 ∧ Hid (SpA w w3 R sp N M1 (held ++ [A]) n1 F1 ∧ Keeps (fun k => ¬ R k) w2 w3))) :
    Calls Try.prog 69 #[.pointer (some ⟨sp, 0, none⟩), .int .i64 A, .int .i64 lo, .int .i64 m, .int .i64 most] wr fun e w' =>
      (∃ c M1 n1 F1, e = .returned (.tuple #[.int .i64 ((c : Nat) : Int), .bool true]) ∧ Q c n1 F1 M1 ∧ Hid (SpA w w' R sp N (slMap M1 c A lo m most) held n1 F1 ∧ Keeps (fun k => ¬ R k) wr w')) ∨
      (∃ M1 n1 F1, e = .returned (.tuple #[.int .i64 0, .bool false]) ∧ Z n1 F1 M1 ∧ Hid (SpA w w' R sp N M1 held n1 F1 ∧ Keeps (fun k => ¬ R k) wr w')) := by
  have HMK := Lib.hid hmk
  have HH := Lib.hid (sHold h A hA (by omega))
  have HL := Lib.hid hl
  clear hmk h hA hl
  go_enter Try.func69, Try.ntmps69
  go_wp2_with fail
  refine HH.out.mono ?_
  rintro e w1 ⟨rfl, h1⟩
  have H2 := Lib.hid (HMK.out _ h1.out.1)
  have HK1 := Lib.hid h1.out.2
  clear h1
  go_wp2_with fail
  refine H2.out.mono ?_
  rintro e w2 (⟨c, M1, n1, F1, rfl, hq, h2⟩ | ⟨M1, n1, F1, rfl, hz, h2⟩)
  · have HQ := Lib.hid hq
    have H3 := Lib.hid (sDrop1 h2.out.1 (by have := HL.out; omega))
    have HK2 := Lib.hid (HK1.out.trans h2.out.2 (fun _ _ h => h))
    clear h2 hq
    go_wp2_with fail
    refine H3.out.mono ?_
    rintro e w3 ⟨rfl, h3⟩
    have H4 := Lib.hid (lSets0 c A h3.out.1)
    have HK3 := Lib.hid (HK2.out.trans h3.out.2 (fun _ _ h => h))
    clear h3
    go_wp2_with fail
    refine H4.out.mono ?_
    rintro e w4 ⟨rfl, h4⟩
    have H5 := Lib.hid (lSets1 c A lo h4.out.1)
    have HK4 := Lib.hid (HK3.out.trans h4.out.2 (fun _ _ h => h))
    clear h4
    go_wp2_with fail
    refine H5.out.mono ?_
    rintro e w5 ⟨rfl, h5⟩
    have H6 := Lib.hid (lSets2 c A lo m h5.out.1)
    have HK5 := Lib.hid (HK4.out.trans h5.out.2 (fun _ _ h => h))
    clear h5
    go_wp2_with fail
    refine H6.out.mono ?_
    rintro e w6 ⟨rfl, h6⟩
    have H7 := Lib.hid (lSets3 c A lo m most h6.out.1)
    have HK6 := Lib.hid (HK5.out.trans h6.out.2 (fun _ _ h => h))
    clear h6
    go_wp2_with fail
    refine H7.out.mono ?_
    rintro e w7 ⟨rfl, h7⟩
    have HFIN : Hid (SpA w w7 R sp N (slMap M1 c A lo m most) held n1 F1 ∧ Keeps (fun k => ¬ R k) wr w7) := ⟨h7.out.1, HK6.out.trans h7.out.2 (fun _ _ h => h)⟩
    clear h7
    go_wp2
    go_ret2
    exact .inl ⟨c, M1, n1, F1, rfl, HQ.out, HFIN⟩
  · have HZ := Lib.hid hz
    have H3 := Lib.hid (sDrop1 h2.out.1 (by have := HL.out; omega))
    have HK2 := Lib.hid (HK1.out.trans h2.out.2 (fun _ _ h => h))
    clear h2 hz
    go_wp2_with fail
    refine H3.out.mono ?_
    rintro e w3 ⟨rfl, h3⟩
    have HFIN : Hid (SpA w w3 R sp N M1 held n1 F1 ∧ Keeps (fun k => ¬ R k) wr w3) := ⟨h3.out.1, HK2.out.trans h3.out.2 (fun _ _ h => h)⟩
    clear h3
    go_wp2
    go_ret2
    exact .inr ⟨M1, n1, F1, rfl, HZ.out, HFIN⟩

/-- wrap where there is room. -/
theorem lWrap (h : SpA w wr R sp N M held n F) (A : Int) (lo m most : Int) (hA : (Lit.int .i64 A).wf = true) (hl : held.length < 1000000) (hF : F + 1 ≤ N) :
    Calls Try.prog 69 #[.pointer (some ⟨sp, 0, none⟩), .int .i64 A, .int .i64 lo, .int .i64 m, .int .i64 most] wr fun e w' =>
      ∃ c : Nat, e = .returned (.tuple #[.int .i64 c, .bool true]) ∧ M c = none ∧ Hid (SpA w w' R sp N (slMap M c A lo m most) held n (F + 1) ∧ Keeps (fun k => ¬ R k) wr w') := by
  refine (lWrapGen h A lo m most hA hl (Q := fun c n1 F1 M1 => M1 = M ∧ n1 = n ∧ F1 = F + 1 ∧ M c = none) (Z := fun _ _ _ => False) ?_).mono ?_
  · intro w2 h2
    refine (sMake h2 4 1 4 (by unfold hdrOk; omega) (by rw [spansOf_one (by omega)]; exact hF)).mono ?_
    rintro e w3 ⟨a, rfl, hno, h3⟩
    rw [spansOf_one (by omega)] at h3
    exact .inl ⟨a, M, n, F + 1, rfl, ⟨rfl, rfl, rfl, hno⟩, h3⟩
  · rintro e w' (⟨c, M1, n1, F1, rfl, ⟨rfl, rfl, rfl, hno⟩, h2⟩ | ⟨M1, n1, F1, rfl, hz, h2⟩)
    · exact ⟨c, rfl, hno, h2⟩
    · exact hz.elim
/-- wrap, whatever room there is. -/
theorem lWrapAny (h : SpA w wr R sp N M held n F) (A : Int) (lo m most : Int) (hA : (Lit.int .i64 A).wf = true) (hl : held.length < 1000000) (hn : n ≤ 1000000000) :
    Calls Try.prog 69 #[.pointer (some ⟨sp, 0, none⟩), .int .i64 A, .int .i64 lo, .int .i64 m, .int .i64 most] wr fun e w' =>
      (∃ (c : Nat) (M1 : Mp) (n1 : Nat), e = .returned (.tuple #[.int .i64 c, .bool true]) ∧ (M1 = M ∨ M1 = mlive M (held ++ [A])) ∧ n1 ≤ n + 1 ∧ M1 c = none ∧ Hid (SpA w w' R sp N (slMap M1 c A lo m most) held n1 N ∧ Keeps (fun k => ¬ R k) wr w')) ∨
      (e = .returned (.tuple #[.int .i64 0, .bool false]) ∧ Hid (SpA w w' R sp N (mlive M (held ++ [A])) held (n + 1) N ∧ Keeps (fun k => ¬ R k) wr w')) := by
  refine (lWrapGen h A lo m most hA hl (Q := fun c n1 F1 M1 => (M1 = M ∨ M1 = mlive M (held ++ [A])) ∧ n1 ≤ n + 1 ∧ F1 = N ∧ M1 c = none) (Z := fun n1 F1 M1 => n1 = n + 1 ∧ F1 = N ∧ M1 = mlive M (held ++ [A])) ?_).mono ?_
  · intro w2 h2
    refine (sMakeAny h2 4 1 4 (by unfold hdrOk; omega) (by simp; omega) hn).mono ?_
    rintro e w3 (⟨a, M1, n1, rfl, hM, hno, h3⟩ | ⟨rfl, h3, -⟩)
    · exact .inl ⟨a, M1, n1, N, rfl, ⟨by rcases hM with ⟨h, _⟩ | ⟨h, _⟩; exact .inl h; exact .inr h, by rcases hM with ⟨_, h⟩ | ⟨_, h⟩ <;> omega, rfl, hno⟩, h3⟩
    · exact .inr ⟨_, _, _, rfl, ⟨rfl, rfl, rfl⟩, h3⟩
  · rintro e w' (⟨c, M1, n1, F1, rfl, ⟨hM, hn1, rfl, hno⟩, h2⟩ | ⟨M1, n1, F1, rfl, ⟨rfl, rfl, rfl⟩, h2⟩)
    · exact .inl ⟨c, M1, n1, rfl, hM, hn1, hno, h2⟩
    · exact .inr ⟨rfl, h2⟩

def arKind (refs : Bool) : Int := if refs = true then 2 else 1
set_option maxRecDepth 100000 in
set_option maxHeartbeats 1000000 in
/-- room is Make of Data or Refs. -/
theorem lRoomGen (w1 : World) (sp : Nat) (s : Nat) (refs : Bool) (hs : s ≤ 16384) {Q : Int → Bool → World → Prop}
    (hmk : Calls Try.prog 22 #[.pointer (some ⟨sp, 0, none⟩), .int .i64 (arKind refs), .int .i64 s, .int .i64 0] w1 fun e w3 => ∃ x t, e = .returned (.tuple #[.int .i64 x, .bool t]) ∧ Q x t w3) :
    Calls Try.prog 70 #[.pointer (some ⟨sp, 0, none⟩), .int .i64 s, .bool refs] w1 fun e w3 => ∃ x t, e = .returned (.tuple #[.int .i64 x, .bool t]) ∧ Q x t w3 := by
  have d0 : decide ((s : Int) < 0) = false := decide_eq_false (by omega)
  have d1 : decide ((16384 : Int) < (s : Int)) = false := decide_eq_false (by omega)
  have H := Lib.hid hmk
  clear hmk
  cases refs
  all_goals
    unfold arKind at H
    simp only [Bool.false_eq_true, if_false, if_true] at H
    go_enter Try.func70, Try.ntmps70
    go_wp2_with fail
    refine H.out.mono ?_
    rintro e w1 ⟨x, t, rfl, hq⟩
    have HQ := Lib.hid hq
    clear hq
    go_wp2
    go_ret2
    exact ⟨x, t, rfl, HQ.out⟩
theorem lRoom (h : SpA w wr R sp N M held n F) (s : Nat) (refs : Bool) (hs : s ≤ 16384) (hF : F + HS.spansOf (s + 1) ≤ N) :
    Calls Try.prog 70 #[.pointer (some ⟨sp, 0, none⟩), .int .i64 s, .bool refs] wr fun e w' => ∃ a : Nat, e = .returned (.tuple #[.int .i64 a, .bool true]) ∧ M a = none ∧ Hid (SpA w w' R sp N (setf M a (some ⟨arKind refs, s, 0, fun _ => 0⟩)) held n (F + HS.spansOf (s + 1)) ∧ Keeps (fun k => ¬ R k) wr w') := by
  refine (lRoomGen wr sp s refs hs (Q := fun x t w' => ∃ a : Nat, x = a ∧ t = true ∧ M a = none ∧ Hid (SpA w w' R sp N (setf M a (some ⟨arKind refs, s, 0, fun _ => 0⟩)) held n (F + HS.spansOf (s + 1)) ∧ Keeps (fun k => ¬ R k) wr w')) ?_).mono ?_
  · refine (sMake h (arKind refs) 0 s (by unfold hdrOk arKind; cases refs <;> simp <;> omega) hF).mono ?_
    rintro e w' ⟨a, rfl, hno, h2⟩
    exact ⟨_, _, rfl, a, rfl, rfl, hno, h2⟩
  · rintro e w' ⟨x, t, rfl, a, rfl, rfl, hno, h2⟩
    exact ⟨a, rfl, hno, h2⟩
theorem lRoomAny (h : SpA w wr R sp N M held n F) (s : Nat) (refs : Bool) (hs : s ≤ 16384) (hl : held.length ≤ 1000000) (hn : n ≤ 1000000000) :
    Calls Try.prog 70 #[.pointer (some ⟨sp, 0, none⟩), .int .i64 s, .bool refs] wr fun e w' =>
      (∃ (a : Nat) (M1 : Mp) (n1 : Nat), e = .returned (.tuple #[.int .i64 a, .bool true]) ∧ (M1 = M ∨ M1 = mlive M held) ∧ n1 ≤ n + 1 ∧ M1 a = none ∧ Hid (SpA w w' R sp N (setf M1 a (some ⟨arKind refs, s, 0, fun _ => 0⟩)) held n1 N ∧ Keeps (fun k => ¬ R k) wr w')) ∨
      (e = .returned (.tuple #[.int .i64 0, .bool false]) ∧ Hid (SpA w w' R sp N (mlive M held) held (n + 1) N ∧ Keeps (fun k => ¬ R k) wr w')) := by
  refine (lRoomGen wr sp s refs hs (Q := fun x t w' => (∃ (a : Nat) (M1 : Mp) (n1 : Nat), x = a ∧ t = true ∧ (M1 = M ∨ M1 = mlive M held) ∧ n1 ≤ n + 1 ∧ M1 a = none ∧ Hid (SpA w w' R sp N (setf M1 a (some ⟨arKind refs, s, 0, fun _ => 0⟩)) held n1 N ∧ Keeps (fun k => ¬ R k) wr w')) ∨
      (x = 0 ∧ t = false ∧ Hid (SpA w w' R sp N (mlive M held) held (n + 1) N ∧ Keeps (fun k => ¬ R k) wr w'))) ?_).mono ?_
  · refine (sMakeAny h (arKind refs) 0 s (by unfold hdrOk arKind; cases refs <;> simp <;> omega) (by omega) hn).mono ?_
    rintro e w' (⟨a, M1, n1, rfl, hM, hno, h2⟩ | ⟨rfl, h2, -⟩)
    · exact ⟨_, _, rfl, .inl ⟨a, M1, n1, rfl, rfl, by rcases hM with ⟨h, _⟩ | ⟨h, _⟩; exact .inl h; exact .inr h, by rcases hM with ⟨_, h⟩ | ⟨_, h⟩ <;> omega, hno, h2⟩⟩
    · exact ⟨_, _, rfl, .inr ⟨rfl, rfl, h2⟩⟩
  · rintro e w' ⟨x, t, rfl, ⟨a, M1, n1, rfl, rfl, hM, hn1, hno, h2⟩ | ⟨rfl, rfl, h2⟩⟩
    · exact .inl ⟨a, M1, n1, rfl, hM, hn1, hno, h2⟩
    · exact .inr ⟨rfl, h2⟩

theorem lSize (h : SpA w wr R sp N M held n F) (x : Int) :
    Calls Try.prog 47 #[.pointer (some ⟨sp, 0, none⟩), .int .i64 x] wr fun e w' => e = .returned (.tuple #[.int .i64 (mget M x 2), .int .i64 (mget M x 3)]) ∧ ∃ q, w' = wr.drewN q := by
  have H2 := Lib.hid (sGet h x 2)
  have H3 := fun q => Lib.hid (sGet (h.drewN q) x 3)
  clear h
  generalize mget M x 2 = g2 at *
  generalize mget M x 3 = g3 at *
  go_enter Try.func47, Try.ntmps47
  go_wp2_with fail
  refine H2.out.mono ?_
  rintro e w1 ⟨rfl, q, rfl⟩
  go_wp2_with fail
  refine (H3 q).out.mono ?_
  rintro e w2 ⟨rfl, q2, rfl⟩
  go_wp2
  go_ret2
  exact ⟨rfl, q + q2, rfl⟩

theorem lAtNo (h : SpA w wr R sp N M held n F) (x i : Int) (hi : i < 0 ∨ mget M x 2 ≤ i) :
    Calls Try.prog 48 #[.pointer (some ⟨sp, 0, none⟩), .int .i64 x, .int .i64 i] wr fun e w' => e = .returned (.tuple #[.int .i64 0, .bool false]) ∧ ∃ q, w' = wr.drewN q := by
  have H2 := Lib.hid (lSize h x)
  clear h
  generalize mget M x 2 = g2 at *
  generalize mget M x 3 = g3 at *
  by_cases h0 : i < 0
  · have d0 : decide (i < 0) = true := decide_eq_true h0
    clear hi
    go_enter Try.func48, Try.ntmps48
    go_wp2_with fail
    refine H2.out.mono ?_
    rintro e w1 ⟨rfl, q, rfl⟩
    go_wp2
    go_ret2
    exact ⟨rfl, q, rfl⟩
  · have d0 : decide (i < 0) = false := decide_eq_false h0
    have d1 : decide (g2 ≤ i) = true := decide_eq_true (by omega)
    clear hi
    go_enter Try.func48, Try.ntmps48
    go_wp2_with fail
    refine H2.out.mono ?_
    rintro e w1 ⟨rfl, q, rfl⟩
    go_wp2
    go_ret2
    exact ⟨rfl, q, rfl⟩
theorem lAt (h : SpA w wr R sp N M held n F) {c A lo m most size : Nat} {k : Int} {f : Nat → Int} (hs : Sl M c A lo m most) (ha : Ar M A size k f) (i : Nat) (hi : i < m) (hlo : lo + i < size) :
    Calls Try.prog 48 #[.pointer (some ⟨sp, 0, none⟩), .int .i64 c, .int .i64 i] wr fun e w' => e = .returned (.tuple #[.int .i64 (f (lo + i)), .bool true]) ∧ ∃ q, w' = wr.drewN q := by
  have hg := hs.get
  have H1 := lSize h (c : Int)
  rw [hg.2.2.1, hg.2.2.2] at H1
  have H1' := Lib.hid H1
  have H2 := fun q => sGet (h.drewN q) (c : Int) 0
  rw [hg.1] at H2
  have H2' := fun q => Lib.hid (H2 q)
  have H3 := fun q => sGet (h.drewN q) (c : Int) 1
  rw [hg.2.1] at H3
  have H3' := fun q => Lib.hid (H3 q)
  have H4 := fun q => sGet (h.drewN q) (A : Int) ((lo + i : Nat) : Int)
  rw [ha.get hlo, show ((lo + i : Nat) : Int) = (lo : Int) + (i : Int) by omega] at H4
  have H4' := fun q => Lib.hid (H4 q)
  obtain ⟨B, hB, -, hsz, -⟩ := ha
  have hsz2 := (h.isBlk hB).2.2.2.1
  rw [hsz] at hsz2
  have d0 : decide ((i : Int) < 0) = false := decide_eq_false (by omega)
  have d1 : decide (m ≤ i) = false := decide_eq_false (by omega)
  have hlo1 : lo < 20000 := by omega
  have hi1 : i < 20000 := by omega
  clear hg H1 H2 H3 H4 h hB hsz hs hi hlo hsz2
  generalize f (lo + i) = v at *
  go_enter Try.func48, Try.ntmps48
  go_wp2_with fail
  refine H1'.out.mono ?_
  rintro e w1 ⟨rfl, q, rfl⟩
  go_wp2_with fail
  refine (H2' q).out.mono ?_
  rintro e w2 ⟨rfl, q2, rfl⟩
  go_wp2_with fail
  refine (H3' (q + q2)).out.mono ?_
  rintro e w3 ⟨rfl, q3, rfl⟩
  go_wp2_with fail
  refine (H4' (q + q2 + q3)).out.mono ?_
  rintro e w4 ⟨rfl, q4, rfl⟩
  go_wp2
  go_ret2
  exact ⟨rfl, q + q2 + q3 + q4, rfl⟩

theorem lPutNo (h : SpA w wr R sp N M held n F) (x i v : Int) (hi : i < 0 ∨ mget M x 2 ≤ i) :
    Calls Try.prog 52 #[.pointer (some ⟨sp, 0, none⟩), .int .i64 x, .int .i64 i, .int .i64 v] wr fun e w' => e = .returned (.bool false) ∧ ∃ q, w' = wr.drewN q := by
  have H2 := Lib.hid (lSize h x)
  clear h
  generalize mget M x 2 = g2 at *
  generalize mget M x 3 = g3 at *
  by_cases h0 : i < 0
  · have d0 : decide (i < 0) = true := decide_eq_true h0
    clear hi
    go_enter Try.func52, Try.ntmps52
    go_wp2_with fail
    refine H2.out.mono ?_
    rintro e w1 ⟨rfl, q, rfl⟩
    go_wp2
    go_ret
    exact ⟨rfl, q, rfl⟩
  · have d0 : decide (i < 0) = false := decide_eq_false h0
    have d1 : decide (g2 ≤ i) = true := decide_eq_true (by omega)
    clear hi
    go_enter Try.func52, Try.ntmps52
    go_wp2_with fail
    refine H2.out.mono ?_
    rintro e w1 ⟨rfl, q, rfl⟩
    go_wp2
    go_ret
    exact ⟨rfl, q, rfl⟩
set_option maxRecDepth 100000 in
set_option maxHeartbeats 1000000 in
theorem lPut (h : SpA w wr R sp N M held n F) {c A lo m most size : Nat} {k : Int} {f : Nat → Int} (hs : Sl M c A lo m most) (ha : Ar M A size k f) (i : Nat) (v : Int) (hi : i < m) (hlo : lo + i < size) :
    Calls Try.prog 52 #[.pointer (some ⟨sp, 0, none⟩), .int .i64 c, .int .i64 i, .int .i64 v] wr fun e w' => e = .returned (.bool true) ∧ Hid (SpA w w' R sp N (mset M A (lo + i) v) held n F ∧ Keeps (fun k => ¬ R k) wr w') := by
  have hg := hs.get
  have H1 := lSize h (c : Int)
  rw [hg.2.2.1, hg.2.2.2] at H1
  have H1' := Lib.hid H1
  have H2 := fun q => sGet (h.drewN q) (c : Int) 0
  rw [hg.1] at H2
  have H2' := fun q => Lib.hid (H2 q)
  have H3 := fun q => sGet (h.drewN q) (c : Int) 1
  rw [hg.2.1] at H3
  have H3' := fun q => Lib.hid (H3 q)
  obtain ⟨B, hB, -, hsz, -⟩ := ha
  have hsz2 := (h.isBlk hB).2.2.2.1
  rw [hsz] at hsz2
  have H4 := fun q => sSet (h.drewN q) A (lo + i) v hB (by omega)
  rw [show ((lo + i : Nat) : Int) = (lo : Int) + (i : Int) by omega] at H4
  have H4' := fun q => Lib.hid (H4 q)
  have d0 : decide ((i : Int) < 0) = false := decide_eq_false (by omega)
  have d1 : decide (m ≤ i) = false := decide_eq_false (by omega)
  have hlo1 : lo < 20000 := by omega
  have hi1 : i < 20000 := by omega
  clear hg H1 H2 H3 H4 h hB hsz hs hi hlo hsz2
  go_enter Try.func52, Try.ntmps52
  go_wp2_with fail
  refine H1'.out.mono ?_
  rintro e w1 ⟨rfl, q, rfl⟩
  go_wp2_with fail
  refine (H2' q).out.mono ?_
  rintro e w2 ⟨rfl, q2, rfl⟩
  go_wp2_with fail
  refine (H3' (q + q2)).out.mono ?_
  rintro e w3 ⟨rfl, q3, rfl⟩
  go_wp2_with fail
  refine (H4' (q + q2 + q3)).out.mono ?_
  rintro e w4 ⟨rfl, h4⟩
  go_wp2
  go_ret
  exact ⟨rfl, h4.out.1, ((Keeps.refl _ wr).drewN (q + q2 + q3)).trans h4.out.2 (fun _ _ h => h)⟩
end
end Go.Proofs.Ytnbiofcfphpikaa
