/-
  The walks of list with the ledger of the spans: wrap, room, Size, At, Put, Append.
-/
import Derived.Test.YtnbiofcfphpikaaA14
import Derived.Test.YtnbiofcfphpikaaSpB
namespace Go.Proofs.Ytnbiofcfphpikaa
open Go.RowKit

section
variable {w wr : World} {R : Nat → Prop} {sp N : Nat} {M : Mp} {held : List Int} {n : Nat} {F : Lg}

theorem kSets0 (c : Nat) (A : Int) {w2 : World} (h : SpB w w2 R sp N (setf M c (some ⟨4, 4, 1, fun _ => 0⟩)) held n F) :
    Calls Try.prog 28 #[.pointer (some ⟨sp, 0, none⟩), .int .i64 c, .int .i64 0, .int .i64 A] w2 fun e w3 => e = .returned (.bool true) ∧ Hid (SpB w w3 R sp N (mset (setf M c (some ⟨4, 4, 1, fun _ => 0⟩)) c 0 A) held n F ∧ Keeps (fun k => ¬ R k) w2 w3) :=
  bSet h c 0 A (setf_same _ _ _) (show 0 < 4 by omega)
theorem kSets1 (c : Nat) (A lo : Int) {w2 : World} (h : SpB w w2 R sp N (mset (setf M c (some ⟨4, 4, 1, fun _ => 0⟩)) c 0 A) held n F) :
    Calls Try.prog 28 #[.pointer (some ⟨sp, 0, none⟩), .int .i64 c, .int .i64 1, .int .i64 lo] w2 fun e w3 => e = .returned (.bool true) ∧ Hid (SpB w w3 R sp N (mset (mset (setf M c (some ⟨4, 4, 1, fun _ => 0⟩)) c 0 A) c 1 lo) held n F ∧ Keeps (fun k => ¬ R k) w2 w3) :=
  bSet h c 1 lo (mset_same (setf_same _ _ _)) (show 1 < 4 by omega)
theorem kSets2 (c : Nat) (A lo m : Int) {w2 : World} (h : SpB w w2 R sp N (mset (mset (setf M c (some ⟨4, 4, 1, fun _ => 0⟩)) c 0 A) c 1 lo) held n F) :
    Calls Try.prog 28 #[.pointer (some ⟨sp, 0, none⟩), .int .i64 c, .int .i64 2, .int .i64 m] w2 fun e w3 => e = .returned (.bool true) ∧ Hid (SpB w w3 R sp N (mset (mset (mset (setf M c (some ⟨4, 4, 1, fun _ => 0⟩)) c 0 A) c 1 lo) c 2 m) held n F ∧ Keeps (fun k => ¬ R k) w2 w3) :=
  bSet h c 2 m (mset_same (mset_same (setf_same _ _ _))) (show 2 < 4 by omega)
theorem kSets3 (c : Nat) (A lo m most : Int) {w2 : World} (h : SpB w w2 R sp N (mset (mset (mset (setf M c (some ⟨4, 4, 1, fun _ => 0⟩)) c 0 A) c 1 lo) c 2 m) held n F) :
    Calls Try.prog 28 #[.pointer (some ⟨sp, 0, none⟩), .int .i64 c, .int .i64 3, .int .i64 most] w2 fun e w3 => e = .returned (.bool true) ∧ Hid (SpB w w3 R sp N (slMap M c A lo m most) held n F ∧ Keeps (fun k => ¬ R k) w2 w3) :=
  bSet h c 3 most (mset_same (mset_same (mset_same (setf_same _ _ _)))) (show 3 < 4 by omega)

set_option maxRecDepth 100000 in
set_option maxHeartbeats 1000000 in
theorem kWrapGen (h : SpB w wr R sp N M held n F) (A lo m most : Int) (hA : (Lit.int .i64 A).wf = true) (hl : held.length < 1000000) {Q : Nat → Nat → Lg → Mp → Prop} {Z : Nat → Lg → Mp → Prop}
    (hmk : ∀ w2, SpB w w2 R sp N M (held ++ [A]) n F → Calls Try.prog 22 #[.pointer (some ⟨sp, 0, none⟩), .int .i64 4, .int .i64 4, .int .i64 1] w2 fun e w3 =>
      (∃ c M1 n1 F1, e = .returned (.tuple #[.int .i64 ((c : Nat) : Int), .bool true]) ∧ Q c n1 F1 M1 ∧ Hid (SpB w w3 R sp N (setf M1 c (some ⟨4, 4, 1, fun _ => 0⟩)) (held ++ [A]) n1 F1 ∧ Keeps (fun k => ¬ R k) w2 w3)) ∨
      (∃ M1 n1 F1, e = .returned (.tuple #[.int .i64 0, .bool false]) ∧ Z n1 F1 M1 ∧ Hid (SpB w w3 R sp N M1 (held ++ [A]) n1 F1 ∧ Keeps (fun k => ¬ R k) w2 w3))) :
    Calls Try.prog 69 #[.pointer (some ⟨sp, 0, none⟩), .int .i64 A, .int .i64 lo, .int .i64 m, .int .i64 most] wr fun e w' =>
      (∃ c M1 n1 F1, e = .returned (.tuple #[.int .i64 ((c : Nat) : Int), .bool true]) ∧ Q c n1 F1 M1 ∧ Hid (SpB w w' R sp N (slMap M1 c A lo m most) held n1 F1 ∧ Keeps (fun k => ¬ R k) wr w')) ∨
      (∃ M1 n1 F1, e = .returned (.tuple #[.int .i64 0, .bool false]) ∧ Z n1 F1 M1 ∧ Hid (SpB w w' R sp N M1 held n1 F1 ∧ Keeps (fun k => ¬ R k) wr w')) := by
  have HMK := Lib.hid hmk
  have HH := Lib.hid (bHold h A hA (by omega))
  have HL := Lib.hid hl
  clear hmk h hA hl
  go_enter Try.func69, Try.ntmps69
  go_wp2_with fail
  refine HH.out.mono ?_
  rintro e w1 ⟨rfl, h1⟩
  have H2 := Lib.hid (HMK.out _ h1.out.1)
  have HK1 := Lib.hid h1.out.2
  clear h1
  go_wp2_with fail
  refine H2.out.mono ?_
  rintro e w2 (⟨c, M1, n1, F1, rfl, hq, h2⟩ | ⟨M1, n1, F1, rfl, hz, h2⟩)
  · have HQ := Lib.hid hq
    have H3 := Lib.hid (bDrop1 h2.out.1 (by have := HL.out; omega))
    have HK2 := Lib.hid (HK1.out.trans h2.out.2 (fun _ _ h => h))
    clear h2 hq
    go_wp2_with fail
    refine H3.out.mono ?_
    rintro e w3 ⟨rfl, h3⟩
    have H4 := Lib.hid (kSets0 c A h3.out.1)
    have HK3 := Lib.hid (HK2.out.trans h3.out.2 (fun _ _ h => h))
    clear h3
    go_wp2_with fail
    refine H4.out.mono ?_
    rintro e w4 ⟨rfl, h4⟩
    have H5 := Lib.hid (kSets1 c A lo h4.out.1)
    have HK4 := Lib.hid (HK3.out.trans h4.out.2 (fun _ _ h => h))
    clear h4
    go_wp2_with fail
    refine H5.out.mono ?_
    rintro e w5 ⟨rfl, h5⟩
    have H6 := Lib.hid (kSets2 c A lo m h5.out.1)
    have HK5 := Lib.hid (HK4.out.trans h5.out.2 (fun _ _ h => h))
    clear h5
    go_wp2_with fail
    refine H6.out.mono ?_
    rintro e w6 ⟨rfl, h6⟩
    have H7 := Lib.hid (kSets3 c A lo m most h6.out.1)
    have HK6 := Lib.hid (HK5.out.trans h6.out.2 (fun _ _ h => h))
    clear h6
    go_wp2_with fail
    refine H7.out.mono ?_
    rintro e w7 ⟨rfl, h7⟩
    have HFIN : Hid (SpB w w7 R sp N (slMap M1 c A lo m most) held n1 F1 ∧ Keeps (fun k => ¬ R k) wr w7) := ⟨h7.out.1, HK6.out.trans h7.out.2 (fun _ _ h => h)⟩
    clear h7
    go_wp2
    go_ret2
    exact .inl ⟨c, M1, n1, F1, rfl, HQ.out, HFIN⟩
  · have HZ := Lib.hid hz
    have H3 := Lib.hid (bDrop1 h2.out.1 (by have := HL.out; omega))
    have HK2 := Lib.hid (HK1.out.trans h2.out.2 (fun _ _ h => h))
    clear h2 hz
    go_wp2_with fail
    refine H3.out.mono ?_
    rintro e w3 ⟨rfl, h3⟩
    have HFIN : Hid (SpB w w3 R sp N M1 held n1 F1 ∧ Keeps (fun k => ¬ R k) wr w3) := ⟨h3.out.1, HK2.out.trans h3.out.2 (fun _ _ h => h)⟩
    clear h3
    go_wp2
    go_ret2
    exact .inr ⟨M1, n1, F1, rfl, HZ.out, HFIN⟩

/-- wrap where there is room. -/
theorem kWrap (h : SpB w wr R sp N M held n F) (A : Int) (lo m most : Int) (hA : (Lit.int .i64 A).wf = true) (hl : held.length < 1000000) (hF : (F.add 5).cost ≤ N) :
    Calls Try.prog 69 #[.pointer (some ⟨sp, 0, none⟩), .int .i64 A, .int .i64 lo, .int .i64 m, .int .i64 most] wr fun e w' =>
      ∃ c : Nat, e = .returned (.tuple #[.int .i64 c, .bool true]) ∧ M c = none ∧ Hid (SpB w w' R sp N (slMap M c A lo m most) held n (F.add 5) ∧ Keeps (fun k => ¬ R k) wr w') := by
  refine (kWrapGen h A lo m most hA hl (Q := fun c n1 F1 M1 => M1 = M ∧ n1 = n ∧ F1 = F.add 5 ∧ M c = none) (Z := fun _ _ _ => False) ?_).mono ?_
  · intro w2 h2
    refine (bMake h2 4 1 4 (by unfold hdrOk; omega) hF).mono ?_
    rintro e w3 ⟨a, rfl, hno, h3⟩
    exact .inl ⟨a, M, n, F.add 5, rfl, ⟨rfl, rfl, rfl, hno⟩, h3⟩
  · rintro e w' (⟨c, M1, n1, F1, rfl, ⟨rfl, rfl, rfl, hno⟩, h2⟩ | ⟨M1, n1, F1, rfl, hz, h2⟩)
    · exact ⟨c, rfl, hno, h2⟩
    · exact hz.elim
theorem kRoom (h : SpB w wr R sp N M held n F) (s : Nat) (refs : Bool) (hs : s ≤ 16384) (hF : (F.add (s + 1)).cost ≤ N) :
    Calls Try.prog 70 #[.pointer (some ⟨sp, 0, none⟩), .int .i64 s, .bool refs] wr fun e w' => ∃ a : Nat, e = .returned (.tuple #[.int .i64 a, .bool true]) ∧ M a = none ∧ Hid (SpB w w' R sp N (setf M a (some ⟨arKind refs, s, 0, fun _ => 0⟩)) held n (F.add (s + 1)) ∧ Keeps (fun k => ¬ R k) wr w') := by
  refine (lRoomGen wr sp s refs hs (Q := fun x t w' => ∃ a : Nat, x = a ∧ t = true ∧ M a = none ∧ Hid (SpB w w' R sp N (setf M a (some ⟨arKind refs, s, 0, fun _ => 0⟩)) held n (F.add (s + 1)) ∧ Keeps (fun k => ¬ R k) wr w')) ?_).mono ?_
  · refine (bMake h (arKind refs) 0 s (by unfold hdrOk arKind; cases refs <;> simp <;> omega) hF).mono ?_
    rintro e w' ⟨a, rfl, hno, h2⟩
    exact ⟨_, _, rfl, a, rfl, rfl, hno, h2⟩
  · rintro e w' ⟨x, t, rfl, a, rfl, rfl, hno, h2⟩
    exact ⟨a, rfl, hno, h2⟩
theorem kSize (h : SpB w wr R sp N M held n F) (x : Int) :
    Calls Try.prog 47 #[.pointer (some ⟨sp, 0, none⟩), .int .i64 x] wr fun e w' => e = .returned (.tuple #[.int .i64 (mget M x 2), .int .i64 (mget M x 3)]) ∧ ∃ q, w' = wr.drewN q := by
  have H2 := Lib.hid (bGet h x 2)
  have H3 := fun q => Lib.hid (bGet (h.drewN q) x 3)
  clear h
  generalize mget M x 2 = g2 at *
  generalize mget M x 3 = g3 at *
  go_enter Try.func47, Try.ntmps47
  go_wp2_with fail
  refine H2.out.mono ?_
  rintro e w1 ⟨rfl, q, rfl⟩
  go_wp2_with fail
  refine (H3 q).out.mono ?_
  rintro e w2 ⟨rfl, q2, rfl⟩
  go_wp2
  go_ret2
  exact ⟨rfl, q + q2, rfl⟩

theorem kAtNo (h : SpB w wr R sp N M held n F) (x i : Int) (hi : i < 0 ∨ mget M x 2 ≤ i) :
    Calls Try.prog 48 #[.pointer (some ⟨sp, 0, none⟩), .int .i64 x, .int .i64 i] wr fun e w' => e = .returned (.tuple #[.int .i64 0, .bool false]) ∧ ∃ q, w' = wr.drewN q := by
  have H2 := Lib.hid (kSize h x)
  clear h
  generalize mget M x 2 = g2 at *
  generalize mget M x 3 = g3 at *
  by_cases h0 : i < 0
  · have d0 : decide (i < 0) = true := decide_eq_true h0
    clear hi
    go_enter Try.func48, Try.ntmps48
    go_wp2_with fail
    refine H2.out.mono ?_
    rintro e w1 ⟨rfl, q, rfl⟩
    go_wp2
    go_ret2
    exact ⟨rfl, q, rfl⟩
  · have d0 : decide (i < 0) = false := decide_eq_false h0
    have d1 : decide (g2 ≤ i) = true := decide_eq_true (by omega)
    clear hi
    go_enter Try.func48, Try.ntmps48
    go_wp2_with fail
    refine H2.out.mono ?_
    rintro e w1 ⟨rfl, q, rfl⟩
    go_wp2
    go_ret2
    exact ⟨rfl, q, rfl⟩
theorem kAt (h : SpB w wr R sp N M held n F) {c A lo m most size : Nat} {k : Int} {f : Nat → Int} (hs : Sl M c A lo m most) (ha : Ar M A size k f) (i : Nat) (hi : i < m) (hlo : lo + i < size) :
    Calls Try.prog 48 #[.pointer (some ⟨sp, 0, none⟩), .int .i64 c, .int .i64 i] wr fun e w' => e = .returned (.tuple #[.int .i64 (f (lo + i)), .bool true]) ∧ ∃ q, w' = wr.drewN q := by
  have hg := hs.get
  have H1 := kSize h (c : Int)
  rw [hg.2.2.1, hg.2.2.2] at H1
  have H1' := Lib.hid H1
  have H2 := fun q => bGet (h.drewN q) (c : Int) 0
  rw [hg.1] at H2
  have H2' := fun q => Lib.hid (H2 q)
  have H3 := fun q => bGet (h.drewN q) (c : Int) 1
  rw [hg.2.1] at H3
  have H3' := fun q => Lib.hid (H3 q)
  have H4 := fun q => bGet (h.drewN q) (A : Int) ((lo + i : Nat) : Int)
  rw [ha.get hlo, show ((lo + i : Nat) : Int) = (lo : Int) + (i : Int) by omega] at H4
  have H4' := fun q => Lib.hid (H4 q)
  obtain ⟨B, hB, -, hsz, -⟩ := ha
  have hsz2 := (h.isBlk hB).2.2.2.1
  rw [hsz] at hsz2
  have d0 : decide ((i : Int) < 0) = false := decide_eq_false (by omega)
  have d1 : decide (m ≤ i) = false := decide_eq_false (by omega)
  have hlo1 : lo < 20000 := by omega
  have hi1 : i < 20000 := by omega
  clear hg H1 H2 H3 H4 h hB hsz hs hi hlo hsz2
  generalize f (lo + i) = v at *
  go_enter Try.func48, Try.ntmps48
  go_wp2_with fail
  refine H1'.out.mono ?_
  rintro e w1 ⟨rfl, q, rfl⟩
  go_wp2_with fail
  refine (H2' q).out.mono ?_
  rintro e w2 ⟨rfl, q2, rfl⟩
  go_wp2_with fail
  refine (H3' (q + q2)).out.mono ?_
  rintro e w3 ⟨rfl, q3, rfl⟩
  go_wp2_with fail
  refine (H4' (q + q2 + q3)).out.mono ?_
  rintro e w4 ⟨rfl, q4, rfl⟩
  go_wp2
  go_ret2
  exact ⟨rfl, q + q2 + q3 + q4, rfl⟩

theorem kPutNo (h : SpB w wr R sp N M held n F) (x i v : Int) (hi : i < 0 ∨ mget M x 2 ≤ i) :
    Calls Try.prog 52 #[.pointer (some ⟨sp, 0, none⟩), .int .i64 x, .int .i64 i, .int .i64 v] wr fun e w' => e = .returned (.bool false) ∧ ∃ q, w' = wr.drewN q := by
  have H2 := Lib.hid (kSize h x)
  clear h
  generalize mget M x 2 = g2 at *
  generalize mget M x 3 = g3 at *
  by_cases h0 : i < 0
  · have d0 : decide (i < 0) = true := decide_eq_true h0
    clear hi
    go_enter Try.func52, Try.ntmps52
    go_wp2_with fail
    refine H2.out.mono ?_
    rintro e w1 ⟨rfl, q, rfl⟩
    go_wp2
    go_ret
    exact ⟨rfl, q, rfl⟩
  · have d0 : decide (i < 0) = false := decide_eq_false h0
    have d1 : decide (g2 ≤ i) = true := decide_eq_true (by omega)
    clear hi
    go_enter Try.func52, Try.ntmps52
    go_wp2_with fail
    refine H2.out.mono ?_
    rintro e w1 ⟨rfl, q, rfl⟩
    go_wp2
    go_ret
    exact ⟨rfl, q, rfl⟩
set_option maxRecDepth 100000 in
set_option maxHeartbeats 1000000 in
theorem kPut (h : SpB w wr R sp N M held n F) {c A lo m most size : Nat} {k : Int} {f : Nat → Int} (hs : Sl M c A lo m most) (ha : Ar M A size k f) (i : Nat) (v : Int) (hi : i < m) (hlo : lo + i < size) :
    Calls Try.prog 52 #[.pointer (some ⟨sp, 0, none⟩), .int .i64 c, .int .i64 i, .int .i64 v] wr fun e w' => e = .returned (.bool true) ∧ Hid (SpB w w' R sp N (mset M A (lo + i) v) held n F ∧ Keeps (fun k => ¬ R k) wr w') := by
  have hg := hs.get
  have H1 := kSize h (c : Int)
  rw [hg.2.2.1, hg.2.2.2] at H1
  have H1' := Lib.hid H1
  have H2 := fun q => bGet (h.drewN q) (c : Int) 0
  rw [hg.1] at H2
  have H2' := fun q => Lib.hid (H2 q)
  have H3 := fun q => bGet (h.drewN q) (c : Int) 1
  rw [hg.2.1] at H3
  have H3' := fun q => Lib.hid (H3 q)
  obtain ⟨B, hB, -, hsz, -⟩ := ha
  have hsz2 := (h.isBlk hB).2.2.2.1
  rw [hsz] at hsz2
  have H4 := fun q => bSet (h.drewN q) A (lo + i) v hB (by omega)
  rw [show ((lo + i : Nat) : Int) = (lo : Int) + (i : Int) by omega] at H4
  have H4' := fun q => Lib.hid (H4 q)
  have d0 : decide ((i : Int) < 0) = false := decide_eq_false (by omega)
  have d1 : decide (m ≤ i) = false := decide_eq_false (by omega)
  have hlo1 : lo < 20000 := by omega
  have hi1 : i < 20000 := by omega
  clear hg H1 H2 H3 H4 h hB hsz hs hi hlo hsz2
  go_enter Try.func52, Try.ntmps52
  go_wp2_with fail
  refine H1'.out.mono ?_
  rintro e w1 ⟨rfl, q, rfl⟩
  go_wp2_with fail
  refine (H2' q).out.mono ?_
  rintro e w2 ⟨rfl, q2, rfl⟩
  go_wp2_with fail
  refine (H3' (q + q2)).out.mono ?_
  rintro e w3 ⟨rfl, q3, rfl⟩
  go_wp2_with fail
  refine (H4' (q + q2 + q3)).out.mono ?_
  rintro e w4 ⟨rfl, h4⟩
  go_wp2
  go_ret
  exact ⟨rfl, h4.out.1, ((Keeps.refl _ wr).drewN (q + q2 + q3)).trans h4.out.2 (fun _ _ h => h)⟩
end
/-- The array a is being filled; all other blocks are as in M0. -/
structure FaB (w w0 wr : World) (R : Nat → Prop) (sp N : Nat) (M0 : Mp) (held : List Int) (n : Nat) (F : Lg) (a size : Nat) (k : Int) (f : Nat → Int) (M' : Mp) : Prop where
  sp : SpB w wr R sp N M' held n F
  kp : Keeps (fun k => ¬ R k) w0 wr
  ar : Ar M' a size k f
  ot : ∀ c, c ≠ a → M' c = M0 c
theorem FaB.drewN {w w0 wr : World} {R : Nat → Prop} {sp N : Nat} {M0 : Mp} {held : List Int} {n : Nat} {F : Lg} {a size : Nat} {k : Int} {f : Nat → Int} {M' : Mp} (h : FaB w w0 wr R sp N M0 held n F a size k f M') (q : Nat) : FaB w w0 (wr.drewN q) R sp N M0 held n F a size k f M' :=
  ⟨h.sp.drewN q, h.kp.drewN q, h.ar, h.ot⟩
theorem FaB.set {w w0 wr : World} {R : Nat → Prop} {sp N : Nat} {M0 : Mp} {held : List Int} {n : Nat} {F : Lg} {a size : Nat} {k : Int} {f : Nat → Int} {M' : Mp} (h : FaB w w0 wr R sp N M0 held n F a size k f M') {wr' : World} {j : Nat} {v : Int}
    (h1 : SpB w wr' R sp N (mset M' a j v) held n F) (h2 : Keeps (fun k => ¬ R k) wr wr') {g : Nat → Int} (hg : setf f j v = g) : FaB w w0 wr' R sp N M0 held n F a size k g (mset M' a j v) :=
  ⟨h1, h.kp.trans h2 (fun _ _ h => h), hg ▸ h.ar.put j v, fun c hc => (mset_ne _ _ _ hc).trans (h.ot c hc)⟩
set_option maxRecDepth 100000 in
set_option maxHeartbeats 4000000 in
theorem kAppIn {w wa : World} {R : Nat → Prop} {sp N : Nat} {M : Mp} {held : List Int} {n : Nat} {F : Lg} (h : SpB w wa R sp N M held n F) {c A lo m most size : Nat} {kd : Int} {f : Nat → Int} (hs : Sl M c A lo m most) (ha : Ar M A size kd f) (hsz : lo + most ≤ size)
    {ib io len cap : Nat} {xs : Nat → Int} (hR : R ib) (hI : Items wa ib io len xs) (refs : Bool) (hlen : 0 < len) (hm : m + len ≤ most) (ht : m + len ≤ 16384) (hF : (F.add 5).cost ≤ N) (hl : held.length < 1000000) :
    Calls Try.prog 46 #[.pointer (some ⟨sp, 0, none⟩), .int .i64 c, .slice (some ⟨ib, io, none⟩) len cap, .bool refs] wa fun e w' => ∃ c2 : Nat, e = .returned (.tuple #[.int .i64 c2, .bool true]) ∧
      ∃ M', M c2 = none ∧ Sl M' c2 A lo (m + len) most ∧ Ar M' A size kd (ovr f (lo + m) xs len) ∧ (∀ x, x ≠ c2 → x ≠ A → M' x = M x) ∧ Hid (SpB w w' R sp N M' held n (F.add 5) ∧ Keeps (fun k => ¬ R k) wa w') := by
  have hg := hs.get
  have H1 := kSize h (c : Int)
  rw [hg.2.2.1, hg.2.2.2] at H1
  have H1' := Lib.hid H1
  have H2 := fun q => bGet (h.drewN q) (c : Int) 0
  rw [hg.1] at H2
  have H2' := fun q => Lib.hid (H2 q)
  have H3 := fun q => bGet (h.drewN q) (c : Int) 1
  rw [hg.2.1] at H3
  have H3' := fun q => Lib.hid (H3 q)
  obtain ⟨B, hB, -, hs2, -⟩ := id ha
  have hsz2 := h.isBlk hB
  rw [hs2] at hsz2
  have H4 := fun q => kWrap (h.drewN q) (A : Int) (lo : Int) ((m + len : Nat) : Int) (most : Int) (wf_addr hsz2.2.2.2.2) hl hF
  have hAn : ∀ c2, M c2 = none → A ≠ c2 := fun c2 hno => ha.ne hno
  have HM : Hid (∀ c2, M c2 = none → Sl (slMap M c2 A lo ((m + len : Nat) : Int) most) c2 A lo (m + len) most ∧ Ar (slMap M c2 A lo ((m + len : Nat) : Int) most) A size kd (ovr f (lo + m) xs 0) ∧ A ≠ c2) :=
    fun c2 hno => ⟨slMap_sl M c2 A lo (m + len) most, by rw [ovr_zero]; exact ha.other (slMap_other _ _ _ _ _ (hAn c2 hno)), hAn c2 hno⟩
  have ee : ((m + len : Nat) : Int) = (m : Int) + (len : Int) := by omega
  rw [ee] at H4 HM
  have H4' := fun q => Lib.hid (H4 q)
  have d1 : decide ((16384 : Int) < (m : Int) + (len : Int)) = false := decide_eq_false (by omega)
  have d2 : decide ((m : Int) + (len : Int) ≤ (most : Int)) = true := decide_eq_true (by omega)
  have d3 : ((len : Int) == 0) = false := by simp; omega
  have hlo1 : lo < 20000 := by omega
  have hm1 : m < 20000 := by omega
  have hlen1 : len < 20000 := by omega
  have HR := Lib.hid hR
  have HI := Lib.hid hI
  have HSZ : Hid (lo + (m + len) ≤ size ∧ m + len ≤ most) := ⟨by omega, hm⟩
  clear hg H1 H2 H3 H4 h hB hs2 hsz hsz2 ee hl hF hR hI hAn ha hs hm
  go_enter Try.func46, Try.ntmps46
  go_wp2_with fail
  refine H1'.out.mono ?_
  rintro e w1 ⟨rfl, q, rfl⟩
  go_wp2_with fail
  refine (H2' q).out.mono ?_
  rintro e w2 ⟨rfl, q2, rfl⟩
  go_wp2_with fail
  refine (H3' (q + q2)).out.mono ?_
  rintro e w3 ⟨rfl, q3, rfl⟩
  go_wp2_with fail
  refine (H4' (q + q2 + q3)).out.mono ?_
  rintro e w4 ⟨c2, rfl, hno, h4⟩
  have hM := HM.out c2 hno
  have HNO := Lib.hid hno
  have HSL := Lib.hid hM.1
  have HNE := Lib.hid hM.2.2
  have HST : Hid (FaB w wa w4 R sp N (slMap M c2 A lo ((m : Int) + (len : Int)) most) held n (F.add 5) A size kd (ovr f (lo + m) xs 0) (slMap M c2 A lo ((m : Int) + (len : Int)) most)) :=
    ⟨h4.out.1, ((Keeps.refl _ wa).drewN (q + q2 + q3)).trans h4.out.2 (fun _ _ h => h), hM.2.1, fun _ _ => rfl⟩
  clear hno h4 hM HM H1' H2' H3' H4'
  generalize hM0 : slMap M c2 A lo ((m : Int) + (len : Int)) most = M0 at *
  have HM0 := Lib.hid hM0
  clear hM0
  go_wp2
  obtain ⟨wo, rfl⟩ : ∃ wo : World, wo = w4 := ⟨_, rfl⟩
  go_loopw [62] (fun i wx => ∃ k : Nat, k ≤ len ∧ i = .int .i64 k ∧ ∃ M', Hid (FaB w wa wx R sp N M0 held n (F.add 5) A size kd (ovr f (lo + m) xs k) M')) (fun i _ => len - (intOf i).toNat)
  case atStart => exact ⟨0, Nat.zero_le _, rfl, _, HST.out⟩
  case round =>
    clear HST
    obtain ⟨k, hk, rfl, M', hD⟩ := hrel
    by_cases hlt : k < len
    · have dl : decide (k < len) = true := decide_eq_true hlt
      have hcell := (HI.out.keep HR.out hD.out.kp) k hlt
      have H2 := kPut hD.out.sp (HSL.out.other (hD.out.ot c2 HNE.out.symm)) hD.out.ar (m + k) (xs k) (by omega) (by have := HSZ.out; omega)
      rw [show ((m + k : Nat) : Int) = (m : Int) + (k : Int) by omega, show lo + (m + k) = lo + m + k by omega] at H2
      have H2' := Lib.hid H2
      have HX := Lib.hid (fun wy h1 h2 => hD.out.set (wr' := wy) h1 h2 (ovr_succ f (lo + m) xs k))
      clear hD H2
      generalize xs k = x at *
      go_wp2_with fail
      refine H2'.out.mono ?_
      rintro e w2 ⟨rfl, h2⟩
      have HY := Lib.hid (HX.out _ h2.out.1 h2.out.2)
      clear h2 HX H2' hcell
      go_wp2
      go_roundw
      case rel => exact ⟨k + 1, by omega, by go_num, _, HY⟩
      case measure => simp [intOf]; omega
    · obtain rfl : k = len := by omega
      have dl : decide (k < k) = false := by simp
      have HFIN : Hid (M c2 = none ∧ Sl M' c2 A lo (m + k) most ∧ Ar M' A size kd (ovr f (lo + m) xs k) ∧ (∀ x, x ≠ c2 → x ≠ A → M' x = M x) ∧ Hid (SpB w wr R sp N M' held n (F.add 5) ∧ Keeps (fun k => ¬ R k) wa wr)) :=
        ⟨HNO.out, HSL.out.other (hD.out.ot c2 HNE.out.symm), hD.out.ar, fun x h1 h2 => by rw [hD.out.ot x h2, ← HM0.out, slMap_other _ _ _ _ _ h1], hD.out.sp, hD.out.kp⟩
      clear hD
      go_wp2
      go_ret2
      exact ⟨c2, rfl, _, HFIN.out⟩

set_option maxRecDepth 100000 in
set_option maxHeartbeats 4000000 in
theorem kAppGrow {w wa : World} {R : Nat → Prop} {sp N : Nat} {M : Mp} {held : List Int} {n : Nat} {F : Lg} (h : SpB w wa R sp N M held n F) {x : Int} {m most : Nat} {old : Nat → Int} (hr : Rd M x m most old)
    {ib io len cap : Nat} {xs : Nat → Int} (hR : R ib) (hI : Items wa ib io len xs) (refs : Bool) (hlen : 0 < len) (hm : most < m + len) (hmm : m ≤ most) (ht : m + len ≤ 8000) (hF : ((F.add (grownTo most (m + len) + 1)).add 5).cost ≤ N) (hl : held.length < 1000000) :
    Calls Try.prog 46 #[.pointer (some ⟨sp, 0, none⟩), .int .i64 x, .slice (some ⟨ib, io, none⟩) len cap, .bool refs] wa fun e w' => ∃ c2 : Nat, e = .returned (.tuple #[.int .i64 c2, .bool true]) ∧
      ∃ A M', M A = none ∧ M c2 = none ∧ c2 ≠ A ∧ Sl M' c2 A 0 (m + len) (grownTo most (m + len)) ∧ Ar M' A (grownTo most (m + len)) (arKind refs) (app old m xs len) ∧ (∀ y, y ≠ c2 → y ≠ A → M' y = M y) ∧
        Hid (SpB w w' R sp N M' held n ((F.add (grownTo most (m + len) + 1)).add 5) ∧ Keeps (fun k => ¬ R k) wa w') := by
  obtain ⟨hr1, hr2, hr3⟩ := hr
  have H1 := kSize h x
  rw [hr1, hr2] at H1
  have H1' := Lib.hid H1
  have hgr : grownTo most (m + len) ≤ 16384 := by unfold grownTo; split <;> omega
  have hgt : m + len ≤ grownTo most (m + len) := by unfold grownTo; split <;> omega
  have H2 := fun q => Lib.hid (kRoom (h.drewN q) (grownTo most (m + len)) refs hgr (Nat.le_trans (HS.Lg.cost_mono (HS.Lg.le_add _ 5)) hF))
  have hcases : ((2 * (most : Int) < (m : Int) + (len : Int)) ∧ ((grownTo most (m + len) : Nat) : Int) = (m : Int) + (len : Int)) ∨ (((m : Int) + (len : Int) ≤ 2 * (most : Int)) ∧ ((grownTo most (m + len) : Nat) : Int) = 2 * (most : Int)) := by
    unfold grownTo
    split
    · left; omega
    · right; omega
  have HRD : Hid (∀ (M' : Mp) a, M a = none → (∀ y, y ≠ a → M' y = M y) → m = 0 ∨ ∃ c A lo size : Nat, ∃ k f, x = (c : Int) ∧ Sl M' c A lo m most ∧ Ar M' A size k f ∧ lo + m ≤ size ∧ (∀ j, j < m → old j = f (lo + j))) := by
    intro M' a hno ho
    rcases hr3 with h0 | ⟨c, A, lo, size, k, f, h1, h2, h3, h4, h5⟩
    · exact .inl h0
    · exact .inr ⟨c, A, lo, size, k, f, h1, h2.other (ho c (h2.ne hno)), h3.other (ho A (h3.ne hno)), h4, h5⟩
  have d1 : decide ((16384 : Int) < (m : Int) + (len : Int)) = false := decide_eq_false (by omega)
  have d2 : decide ((m : Int) + (len : Int) ≤ (most : Int)) = false := decide_eq_false (by omega)
  have d3 : ((len : Int) == 0) = false := by simp; omega
  have hm1 : m < 20000 := by omega
  have hmo1 : most < 20000 := by omega
  have hlen1 : len < 20000 := by omega
  have HF := Lib.hid hF
  have HL := Lib.hid hl
  have HR := Lib.hid hR
  have HI := Lib.hid hI
  clear h H1 hr1 hr2 hr3 hl hF hR hI hm
  generalize hG : F.add (grownTo most (m + len) + 1) = G at *
  generalize hgg : grownTo most (m + len) = g at *
  clear hG hgg
  have hg2 : (g : Int) ≤ 16384 := by omega
  rcases hcases with ⟨hc1, hc2⟩ | ⟨hc1, hc2⟩
  all_goals
    have HC2 := Lib.hid hc2
    rw [hc2] at H2
    rw [hc2] at hg2
    clear hc2
    go_enter Try.func46, Try.ntmps46
    go_wp2_with fail
    refine H1'.out.mono ?_
    rintro e w1 ⟨rfl, q, rfl⟩
    go_wp2_with fail
    refine (H2 q).out.mono ?_
    rintro e w2 ⟨A, rfl, hno, h2⟩
    have hA := (h2.out.1.isBlk (setf_same _ _ _)).2.2.2.2
    have HWF := Lib.hid (wf_addr hA)
    have HNO := Lib.hid hno
    have HST : Hid (FaB w wa w2 R sp N M held n G A g (arKind refs) (pre old 0) (setf M A (some ⟨arKind refs, g, 0, fun _ => 0⟩))) :=
      ⟨h2.out.1, ((Keeps.refl _ wa).drewN q).trans h2.out.2 (fun _ _ h => h), by rw [pre_zero]; exact Ar.new M A g (arKind refs), fun c hc => setf_ne _ _ hc⟩
    clear h2 hno hA H2 H1'
    go_wp2
    obtain ⟨wo, rfl⟩ : ∃ wo : World, wo = w2 := ⟨_, rfl⟩
    go_loopw [93] (fun i wx => ∃ k : Nat, k ≤ m ∧ i = .int .i64 k ∧ ∃ M', Hid (FaB w wa wx R sp N M held n G A g (arKind refs) (pre old k) M')) (fun i _ => m - (intOf i).toNat)
    case atStart => exact ⟨0, Nat.zero_le _, rfl, _, HST.out⟩
    case round =>
      clear HST
      obtain ⟨k, hk, rfl, M', hD⟩ := hrel
      by_cases hlt : k < m
      · have dl : decide (k < m) = true := decide_eq_true hlt
        rcases HRD.out M' A HNO.out hD.out.ot with h0 | ⟨c, A2, lo, size, kd, f, rfl, hs, ha, hsz, hold⟩
        · omega
        · have H3 := kAt hD.out.sp hs ha k hlt (by omega)
          rw [← hold k hlt] at H3
          have H3' := Lib.hid H3
          obtain ⟨B, hB, -, hsz2, -⟩ := hD.out.ar
          have H4 := fun q => Lib.hid (bSet (hD.out.sp.drewN q) A k (old k) hB (by omega))
          have HX := Lib.hid (fun q wy h1 h2 => (hD.out.drewN q).set (wr' := wy) h1 h2 (pre_succ old k))
          clear hD hB hsz2 hs ha hold H3 hsz
          generalize old k = v at *
          go_wp2_with fail
          refine H3'.out.mono ?_
          rintro e w3 ⟨rfl, q3, rfl⟩
          go_wp2_with fail
          refine (H4 q3).out.mono ?_
          rintro e w4 ⟨rfl, h4⟩
          have HY := Lib.hid (HX.out q3 _ h4.out.1 h4.out.2)
          clear h4 HX H4 H3'
          go_wp2
          go_roundw
          case rel => exact ⟨k + 1, by omega, by go_num, _, HY⟩
          case measure => simp [intOf]; omega
      · obtain rfl : k = m := by omega
        have dl : decide (k < k) = false := by simp
        go_wp2
        obtain ⟨wo2, rfl⟩ : ∃ wo : World, wo = wr := ⟨_, rfl⟩
        go_loopw [111] (fun i wx => ∃ t : Nat, t ≤ len ∧ i = .int .i64 t ∧ ∃ M', Hid (FaB w wa wx R sp N M held n G A g (arKind refs) (app old k xs t) M')) (fun i _ => len - (intOf i).toNat)
        case atStart => exact ⟨0, Nat.zero_le _, rfl, M', by rw [app_zero]; exact hD⟩
        case round =>
          clear hD
          obtain ⟨t, ht, rfl, M', hD⟩ := hrel
          by_cases hlt2 : t < len
          · have dt : decide (t < len) = true := decide_eq_true hlt2
            have hcell := (HI.out.keep HR.out hD.out.kp) t hlt2
            obtain ⟨B, hB, -, hsz, -⟩ := hD.out.ar
            have H2 := bSet hD.out.sp A (k + t) (xs t) hB (by omega)
            rw [show ((k + t : Nat) : Int) = (k : Int) + (t : Int) by omega] at H2
            have H2' := Lib.hid H2
            have HX := Lib.hid (fun wy h1 h2 => hD.out.set (wr' := wy) h1 h2 (app_succ old k xs t))
            clear hD hB hsz H2
            generalize xs t = v at *
            go_wp2_with fail
            refine H2'.out.mono ?_
            rintro e w2 ⟨rfl, h2⟩
            have HY := Lib.hid (HX.out _ h2.out.1 h2.out.2)
            clear h2 HX H2' hcell
            go_wp2
            go_roundw
            case rel => exact ⟨t + 1, by omega, by go_num, _, HY⟩
            case measure => simp [intOf]; omega
          · obtain rfl : t = len := by omega
            have dt : decide (t < t) = false := by simp
            have H2 := kWrap hD.out.sp (A : Int) 0 ((k : Int) + (t : Int)) (g : Int) HWF.out HL.out HF.out
            rw [HC2.out] at H2
            have H2' := Lib.hid H2
            clear H2
            go_wp2_with fail
            refine H2'.out.mono ?_
            rintro e w3 ⟨c, rfl, hno2, h2⟩
            have hne : c ≠ A := by
              rintro rfl
              obtain ⟨B, hB, _⟩ := hD.out.ar
              rw [hB] at hno2; cases hno2
            have hsl := slMap_sl M' c A 0 (k + t) g
            rw [show ((k + t : Nat) : Int) = (k : Int) + (t : Int) by omega, show ((0 : Nat) : Int) = 0 from rfl] at hsl
            have h2s : SpB w w3 R sp N (slMap M' c (A : Int) 0 ((k : Int) + (t : Int)) (g : Int)) held n (G.add 5) := by rw [HC2.out]; exact h2.out.1
            have HFIN : Hid (M A = none ∧ M c = none ∧ c ≠ A ∧ Sl (slMap M' c (A : Int) 0 ((k : Int) + (t : Int)) (g : Int)) c A 0 (k + t) g ∧ Ar (slMap M' c (A : Int) 0 ((k : Int) + (t : Int)) (g : Int)) A g (arKind refs) (app old k xs t) ∧
                (∀ y, y ≠ c → y ≠ A → slMap M' c (A : Int) 0 ((k : Int) + (t : Int)) (g : Int) y = M y) ∧ Hid (SpB w w3 R sp N (slMap M' c (A : Int) 0 ((k : Int) + (t : Int)) (g : Int)) held n (G.add 5) ∧ Keeps (fun k => ¬ R k) wa w3)) :=
              ⟨HNO.out, by rw [← hD.out.ot c hne]; exact hno2, hne, hsl, hD.out.ar.other (slMap_other _ _ _ _ _ hne.symm), fun y h1 h2 => (slMap_other _ _ _ _ _ h1).trans (hD.out.ot y h2), h2s, hD.out.kp.trans h2.out.2 (fun _ _ h => h)⟩
            clear h2 hno2 hne hD hsl h2s
            go_wp2
            go_ret2
            exact ⟨c, rfl, A, _, HFIN.out⟩
end Go.Proofs.Ytnbiofcfphpikaa
