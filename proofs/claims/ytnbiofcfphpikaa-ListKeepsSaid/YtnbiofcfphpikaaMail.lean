/-
  The walks of mail: Count, Closed, Close, at, Push, Shift, New.
-/
import Derived.Test.YtnbiofcfphpikaaChan
namespace Go.Proofs.Ytnbiofcfphpikaa
open Go.RowKit

section
variable {w wr : World} {R : Nat → Prop} {sp N : Nat} {M : Mp} {held : List Int} {n F : Nat}

theorem mCount (h : SpA w wr R sp N M held n F) (x : Int) :
    Calls Try.prog 40 #[.pointer (some ⟨sp, 0, none⟩), .int .i64 x] wr fun e w' => e = .returned (.tuple #[.int .i64 (mget M x 2), .int .i64 (mget M x 3)]) ∧ ∃ q, w' = wr.drewN q := by
  have H2 := Lib.hid (sGet h x 2)
  have H3 := fun q => Lib.hid (sGet (h.drewN q) x 3)
  clear h
  generalize mget M x 2 = g2 at *
  generalize mget M x 3 = g3 at *
  go_enter Try.func40, Try.ntmps40
  go_wp2_with fail
  refine H2.out.mono ?_
  rintro e w1 ⟨rfl, q, rfl⟩
  go_wp2_with fail
  refine (H3 q).out.mono ?_
  rintro e w2 ⟨rfl, q2, rfl⟩
  go_wp2
  go_ret2
  exact ⟨rfl, q + q2, rfl⟩

theorem mClosed (h : SpA w wr R sp N M held n F) (x : Int) :
    Calls Try.prog 43 #[.pointer (some ⟨sp, 0, none⟩), .int .i64 x] wr fun e w' => e = .returned (.bool (mget M x 0 == 1)) ∧ ∃ q, w' = wr.drewN q := by
  have H2 := Lib.hid (sGet h x 0)
  clear h
  generalize mget M x 0 = g2 at *
  go_enter Try.func43, Try.ntmps43
  go_wp2_with fail
  refine H2.out.mono ?_
  rintro e w1 ⟨rfl, q, rfl⟩
  go_wp2
  go_ret
  exact ⟨rfl, q, rfl⟩

theorem mCloseNo (h : SpA w wr R sp N M held n F) (x : Int) (hc : mget M x 0 = 1 ∨ mcan M x 0 = false) :
    Calls Try.prog 41 #[.pointer (some ⟨sp, 0, none⟩), .int .i64 x] wr fun e w' => e = .returned (.bool false) ∧ ∃ q, w' = wr.drewN q := by
  have H2 := Lib.hid (mClosed h x)
  have H3 := fun q hh => Lib.hid (sSetNo (h.drewN q) x 0 1 hh)
  clear h
  generalize mget M x 0 = g2 at *
  by_cases h1 : g2 = 1
  · have d1 : (g2 == 1) = true := by simp [h1]
    rw [d1] at H2
    clear hc h1 d1
    go_enter Try.func41, Try.ntmps41
    go_wp2_with fail
    refine H2.out.mono ?_
    rintro e w1 ⟨rfl, q, rfl⟩
    go_wp2
    go_ret
    exact ⟨rfl, q, rfl⟩
  · have d1 : (g2 == 1) = false := by simp [h1]
    rw [d1] at H2
    have H4 := fun q => H3 q (hc.resolve_left h1)
    clear hc h1 d1 H3
    go_enter Try.func41, Try.ntmps41
    go_wp2_with fail
    refine H2.out.mono ?_
    rintro e w1 ⟨rfl, q, rfl⟩
    go_wp2_with fail
    refine (H4 q).out.mono ?_
    rintro e w2 ⟨rfl, q2, rfl⟩
    go_wp2
    go_ret
    exact ⟨rfl, q + q2, rfl⟩

theorem mCloseYes (h : SpA w wr R sp N M held n F) (c : Nat) {b : Blk} (hb : M c = some b) (hs : 0 < b.s) (hc : b.W 0 ≠ 1) :
    Calls Try.prog 41 #[.pointer (some ⟨sp, 0, none⟩), .int .i64 c] wr fun e w' => e = .returned (.bool true) ∧ Hid (SpA w w' R sp N (mset M c 0 1) held n F ∧ Keeps (fun k => ¬ R k) wr w') := by
  have hg : mget M (c : Int) 0 = b.W 0 := mget_at hb 0 rfl hs
  have H2 := mClosed h (c : Int)
  rw [hg, show (b.W 0 == 1) = false by simp [hc]] at H2
  have H2' := Lib.hid H2
  have H3 := fun q => Lib.hid (sSet (h.drewN q) c 0 1 hb hs)
  clear h hg H2 hc
  go_enter Try.func41, Try.ntmps41
  go_wp2_with fail
  refine H2'.out.mono ?_
  rintro e w1 ⟨rfl, q, rfl⟩
  go_wp2_with fail
  refine (H3 q).out.mono ?_
  rintro e w2 ⟨rfl, h2⟩
  go_wp2
  go_ret
  exact ⟨rfl, h2.out.1, ((Keeps.refl _ wr).drewN q).trans h2.out.2 (fun _ _ h => h)⟩

theorem mAt (h : SpA w wr R sp N M held n F) {c P : Nat} {k m : Int} {b : Nat} {l : List Int} {cl : Int} (hc : Chan M c P k m b l cl) (i : Nat) (hi : i < P) :
    Calls Try.prog 68 #[.pointer (some ⟨sp, 0, none⟩), .int .i64 c, .int .i64 i] wr fun e w' => e = .returned (.int .i64 ((4 + (b + i) % P : Nat) : Int)) ∧ ∃ q, w' = wr.drewN q := by
  have hg := hc.get
  have H2 := mCount h (c : Int)
  rw [hg.2.2.1, hg.2.2.2] at H2
  have H2' := Lib.hid H2
  have H3 := fun q => sGet (h.drewN q) (c : Int) 1
  rw [hg.2.1] at H3
  have H3' := fun q => Lib.hid (H3 q)
  obtain ⟨B, hB, -, -, hC⟩ := hc
  have hsz := (h.isBlk hB).2.2.2.1
  rw [hC.s] at hsz
  have hbg : b < P := by have := hC.beg; omega
  have hP0 : 0 < P := by omega
  have q0 : (0 : Int) ≤ ((b : Int) + (i : Int)) % (P : Int) := Int.emod_nonneg _ (by omega)
  have q1 : ((b : Int) + (i : Int)) % (P : Int) < 20000 := by have := Int.emod_lt_of_pos ((b : Int) + (i : Int)) (show (0 : Int) < P by omega); omega
  clear hg H2 H3 h hC hB
  go_enter Try.func68, Try.ntmps68
  go_wp2_with fail
  refine H2'.out.mono ?_
  rintro e w1 ⟨rfl, q, rfl⟩
  go_wp2_with fail
  refine (H3' q).out.mono ?_
  rintro e w2 ⟨rfl, q2, rfl⟩
  go_wp2
  go_ret
  exact ⟨by push_cast; rfl, q + q2, rfl⟩

theorem mPushNo (h : SpA w wr R sp N M held n F) (x v : Int) (hc : mget M x 3 ≤ mget M x 2) :
    Calls Try.prog 38 #[.pointer (some ⟨sp, 0, none⟩), .int .i64 x, .int .i64 v] wr fun e w' => e = .returned (.bool false) ∧ ∃ q, w' = wr.drewN q := by
  have H2 := Lib.hid (mCount h x)
  clear h
  generalize mget M x 2 = g2 at *
  generalize mget M x 3 = g3 at *
  have d : decide (g3 ≤ g2) = true := decide_eq_true hc
  go_enter Try.func38, Try.ntmps38
  go_wp2_with fail
  refine H2.out.mono ?_
  rintro e w1 ⟨rfl, q, rfl⟩
  go_wp2
  go_ret
  exact ⟨rfl, q, rfl⟩

set_option maxRecDepth 100000 in
set_option maxHeartbeats 1000000 in
theorem mPush (h : SpA w wr R sp N M held n F) {c P : Nat} {k m : Int} {b : Nat} {l : List Int} {cl : Int} (hc : Chan M c P k m b l cl) (hl : l.length < P) (v : Int) :
    Calls Try.prog 38 #[.pointer (some ⟨sp, 0, none⟩), .int .i64 c, .int .i64 v] wr fun e w' => e = .returned (.bool true) ∧ ∃ M', Chan M' c P k m b (l ++ [v]) cl ∧ (∀ a, a ≠ c → M' a = M a) ∧ Hid (SpA w w' R sp N M' held n F ∧ Keeps (fun k => ¬ R k) wr w') := by
  have hg := hc.get
  have H2 := mCount h (c : Int)
  rw [hg.2.2.1, hg.2.2.2] at H2
  have H2' := Lib.hid H2
  have H3 := fun q => Lib.hid (mAt (h.drewN q) hc l.length hl)
  obtain ⟨B, hB, hBk, hBm, hC⟩ := hc
  have hsz := (h.isBlk hB).2.2.2.1
  have hs := hC.s
  have hmod := Nat.mod_lt (b + l.length) (show 0 < P by omega)
  have H4 := fun q => Lib.hid (sSet (h.drewN q) c (4 + (b + l.length) % P) v hB (by omega))
  have hM1 : mset M c (4 + (b + l.length) % P) v c = some (B.put (4 + (b + l.length) % P) v) := mset_same hB
  have H5 := fun w2 (h2 : SpA w w2 R sp N (mset M c (4 + (b + l.length) % P) v) held n F) => sSet h2 c 2 ((l.length : Int) + 1) hM1 (by rw [put_s]; omega)
  have HM : Hid (Chan (mset (mset M c (4 + (b + l.length) % P) v) c 2 ((l.length : Int) + 1)) c P k m b (l ++ [v]) cl ∧ (∀ a, a ≠ c → mset (mset M c (4 + (b + l.length) % P) v) c 2 ((l.length : Int) + 1) a = M a)) :=
    ⟨⟨_, mset_same hM1, hBk, hBm, hC.push hl v⟩, fun a ha => by rw [mset_ne _ _ _ ha, mset_ne _ _ _ ha]⟩
  have H5' := Lib.hid H5
  have hlen : l.length < 16448 := by omega
  have d : decide (P ≤ l.length) = false := decide_eq_false (by omega)
  clear h hg H2 H5 hC hB hs hsz hmod hM1 hBk hBm
  generalize 4 + (b + l.length) % P = pl at *
  generalize l.length = L at *
  go_enter Try.func38, Try.ntmps38
  go_wp2_with fail
  refine H2'.out.mono ?_
  rintro e w1 ⟨rfl, q, rfl⟩
  go_wp2_with fail
  refine (H3 q).out.mono ?_
  rintro e w2 ⟨rfl, q2, rfl⟩
  go_wp2_with fail
  refine (H4 (q + q2)).out.mono ?_
  rintro e w3 ⟨rfl, h3⟩
  go_wp2_with fail
  refine (H5'.out _ h3.out.1).mono ?_
  rintro e w4 ⟨rfl, h4⟩
  go_wp2
  go_ret
  exact ⟨rfl, _, HM.out.1, HM.out.2, h4.out.1, (((Keeps.refl _ wr).drewN (q + q2)).trans h3.out.2 (fun _ _ h => h)).trans h4.out.2 (fun _ _ h => h)⟩

theorem mShiftNo (h : SpA w wr R sp N M held n F) (x : Int) (hc : mget M x 2 = 0) :
    Calls Try.prog 39 #[.pointer (some ⟨sp, 0, none⟩), .int .i64 x] wr fun e w' => e = .returned (.tuple #[.int .i64 0, .bool false]) ∧ ∃ q, w' = wr.drewN q := by
  have H2 := mCount h x
  rw [hc] at H2
  have H2' := Lib.hid H2
  clear h H2 hc
  generalize mget M x 3 = g3 at *
  go_enter Try.func39, Try.ntmps39
  go_wp2_with fail
  refine H2'.out.mono ?_
  rintro e w1 ⟨rfl, q, rfl⟩
  go_wp2
  go_ret2
  exact ⟨rfl, q, rfl⟩

set_option maxRecDepth 100000 in
set_option maxHeartbeats 1000000 in
theorem mShift (h : SpA w wr R sp N M held n F) {c P : Nat} {k m : Int} {b : Nat} {v : Int} {l : List Int} {cl : Int} (hc : Chan M c P k m b (v :: l) cl) :
    Calls Try.prog 39 #[.pointer (some ⟨sp, 0, none⟩), .int .i64 c] wr fun e w' => e = .returned (.tuple #[.int .i64 v, .bool true]) ∧ ∃ M', Chan M' c P k m ((b + 1) % P) l cl ∧ (∀ a, a ≠ c → M' a = M a) ∧ Hid (SpA w w' R sp N M' held n F ∧ Keeps (fun k => ¬ R k) wr w') := by
  have hg := hc.get
  have hit := hc.item (i := 0) (by simp)
  have H2 := mCount h (c : Int)
  rw [hg.2.2.1, hg.2.2.2] at H2
  have H2' := Lib.hid H2
  obtain ⟨B, hB, hBk, hBm, hC⟩ := id hc
  have hsz := (h.isBlk hB).2.2.2.1
  have hs := hC.s
  have hl := hC.len
  simp only [List.length_cons] at hl
  have hb : b < P := by have := hC.beg; omega
  have H3 := fun q => Lib.hid (mAt (h.drewN q) hc 0 (by omega))
  have hmod := Nat.mod_lt (b + 0) (show 0 < P by omega)
  have hmod1 := Nat.mod_lt (b + 1) (show 0 < P by omega)
  have HG := fun q => sGet (h.drewN q) (c : Int) ((4 + (b + 0) % P : Nat) : Int)
  have ev : mget M (c : Int) ((4 + (b + 0) % P : Nat) : Int) = v := by push_cast at hit ⊢; rw [hit]; rfl
  rw [ev] at HG
  have HG' := fun q => Lib.hid (HG q)
  have H4 := fun q => Lib.hid (sSet (h.drewN q) c (4 + (b + 0) % P) 0 hB (by omega))
  have hM1 : mset M c (4 + (b + 0) % P) 0 c = some (B.put (4 + (b + 0) % P) 0) := mset_same hB
  have hM2 : mset (mset M c (4 + (b + 0) % P) 0) c 1 (((b + 1) % P : Nat) : Int) c = some ((B.put (4 + (b + 0) % P) 0).put 1 (((b + 1) % P : Nat) : Int)) := mset_same hM1
  have hg1 : mget (mset M c (4 + (b + 0) % P) 0) (c : Int) 1 = (b : Int) :=
    (mget_at hM1 1 rfl (by rw [put_s]; omega)).trans ((put_ne _ _ (by omega)).trans hC.w1)
  have H5a := fun w2 (h2 : SpA w w2 R sp N (mset M c (4 + (b + 0) % P) 0) held n F) => sGet h2 (c : Int) 1
  rw [hg1] at H5a
  have H5a' := Lib.hid H5a
  have H5 := Lib.hid (fun w2 (h2 : SpA w w2 R sp N (mset M c (4 + (b + 0) % P) 0) held n F) q => sSet (h2.drewN q) c 1 (((b + 1) % P : Nat) : Int) hM1 (by rw [put_s]; omega))
  have H6 := Lib.hid (fun w2 (h2 : SpA w w2 R sp N (mset (mset M c (4 + (b + 0) % P) 0) c 1 (((b + 1) % P : Nat) : Int)) held n F) => sSet h2 c 2 (l.length : Int) hM2 (by rw [put_s, put_s]; omega))
  have HM : Hid (Chan (mset (mset (mset M c (4 + (b + 0) % P) 0) c 1 (((b + 1) % P : Nat) : Int)) c 2 (l.length : Int)) c P k m ((b + 1) % P) l cl ∧ (∀ a, a ≠ c → mset (mset (mset M c (4 + (b + 0) % P) 0) c 1 (((b + 1) % P : Nat) : Int)) c 2 (l.length : Int) a = M a)) :=
    ⟨⟨_, mset_same hM2, hBk, hBm, hC.shift⟩, fun a ha => by rw [mset_ne _ _ _ ha, mset_ne _ _ _ ha, mset_ne _ _ _ ha]⟩
  have q0 : (0 : Int) ≤ ((b : Int) + 1) % (P : Int) := Int.emod_nonneg _ (by omega)
  have q1 : ((b : Int) + 1) % (P : Int) < 20000 := by have := Int.emod_lt_of_pos ((b : Int) + 1) (show (0 : Int) < P by omega); omega
  have eq : (((b + 1) % P : Nat) : Int) = ((b : Int) + 1) % (P : Int) := by push_cast; rfl
  have hP0 : 0 < P := by omega
  have hP2 : P < 20000 := by omega
  have hlen : l.length < 20000 := by omega
  simp only [List.length_cons] at H2'
  have el : ((l.length + 1 : Nat) : Int) = (l.length : Int) + 1 := by omega
  rw [el] at H2'
  have dl : ((l.length : Int) + 1 == 0) = false := by simp; omega
  rw [eq] at H5 H6 HM
  clear h hg hit H2 H5a hC hB hs hsz hmod hmod1 hM1 hM2 hBk hBm HG ev hg1 eq el hc
  generalize 4 + (b + 0) % P = pl at *
  generalize l.length = L at *
  go_enter Try.func39, Try.ntmps39
  go_wp2_with fail
  refine H2'.out.mono ?_
  rintro e w1 ⟨rfl, q, rfl⟩
  go_wp2_with fail
  refine (H3 q).out.mono ?_
  rintro e w2 ⟨rfl, q2, rfl⟩
  go_wp2_with fail
  refine (HG' (q + q2)).out.mono ?_
  rintro e w2b ⟨rfl, q3, rfl⟩
  go_wp2_with fail
  refine (H4 (q + q2 + q3)).out.mono ?_
  rintro e w3 ⟨rfl, h3⟩
  go_wp2_with fail
  refine (H5a'.out _ h3.out.1).mono ?_
  rintro e w3b ⟨rfl, q4, rfl⟩
  go_wp2_with fail
  refine (H5.out _ h3.out.1 q4).mono ?_
  rintro e w4 ⟨rfl, h4⟩
  go_wp2_with fail
  refine (H6.out _ h4.out.1).mono ?_
  rintro e w5 ⟨rfl, h5⟩
  go_wp2
  go_ret2
  exact ⟨rfl, _, HM.out.1, HM.out.2, h5.out.1, ((((Keeps.refl _ wr).drewN (q + q2 + q3)).trans h3.out.2 (fun _ _ h => h)).trans (h4.out.2.of_drewN) (fun _ _ h => h)).trans h5.out.2 (fun _ _ h => h)⟩

theorem mNewBad (h : SpA w wr R sp N M held n F) (P : Int) (refs : Bool) (hP : P < 0 ∨ 1024 < P) :
    Calls Try.prog 37 #[.pointer (some ⟨sp, 0, none⟩), .int .i64 P, .bool refs] wr fun e w' => e = .returned (.tuple #[.int .i64 0, .bool false]) ∧ wr = w' := by
  clear h
  by_cases h0 : P < 0
  · have d0 : decide (P < 0) = true := decide_eq_true h0
    clear hP
    go_enter Try.func37, Try.ntmps37
    go_wp2
    go_ret2
    exact ⟨rfl, rfl⟩
  · have d0 : decide (P < 0) = false := decide_eq_false (by omega)
    have d1 : decide (1024 < P) = true := decide_eq_true (by omega)
    clear hP
    go_enter Try.func37, Try.ntmps37
    go_wp2
    go_ret2
    exact ⟨rfl, rfl⟩

def chKind (refs : Bool) : Int := if refs = true then 3 else 1
def chMask (refs : Bool) : Int := if refs = true then 4 else 0
set_option maxRecDepth 100000 in
set_option maxHeartbeats 1000000 in
theorem mNew (h : SpA w wr R sp N M held n F) (P : Nat) (refs : Bool) (hP : P ≤ 1024) (hF : F + HS.spansOf (4 + P + 1) ≤ N) :
    Calls Try.prog 37 #[.pointer (some ⟨sp, 0, none⟩), .int .i64 P, .bool refs] wr fun e w' => ∃ a : Nat, e = .returned (.tuple #[.int .i64 a, .bool true]) ∧ M a = none ∧ ∃ M', Chan M' a P (chKind refs) (chMask refs) 0 [] 0 ∧ (∀ c, c ≠ a → M' c = M c) ∧ Hid (SpA w w' R sp N M' held n (F + HS.spansOf (4 + P + 1)) ∧ Keeps (fun k => ¬ R k) wr w') := by
  have d0 : decide ((P : Int) < 0) = false := decide_eq_false (by omega)
  have d1 : decide ((1024 : Int) < (P : Int)) = false := decide_eq_false (by omega)
  have H1 := sMake h (chKind refs) (chMask refs) (4 + P) (by unfold hdrOk chKind chMask; cases refs <;> simp <;> omega) hF
  have e4 : ((4 + P : Nat) : Int) = 4 + (P : Int) := by omega
  rw [e4] at H1
  have H2 := Lib.hid (fun a w2 (h2 : SpA w w2 R sp N (setf M a (some ⟨chKind refs, 4 + P, chMask refs, fun _ => 0⟩)) held n (F + HS.spansOf (4 + P + 1))) => sSet h2 a 3 (P : Int) (setf_same _ _ _) (show 3 < 4 + P by omega))
  have HM : Hid (∀ a, Chan (mset (setf M a (some ⟨chKind refs, 4 + P, chMask refs, fun _ => 0⟩)) a 3 (P : Int)) a P (chKind refs) (chMask refs) 0 [] 0 ∧ ∀ c, c ≠ a → mset (setf M a (some ⟨chKind refs, 4 + P, chMask refs, fun _ => 0⟩)) a 3 (P : Int) c = M c) :=
    fun a => ⟨⟨_, mset_same (setf_same _ _ _), rfl, rfl, chan_new _ _ P⟩, fun c hc => by rw [mset_ne _ _ _ hc, setf_ne _ _ hc]⟩
  have H1' := Lib.hid H1
  clear h H1 e4 hF
  generalize F + HS.spansOf (4 + P + 1) = G at *
  cases refs
  all_goals
    unfold chKind chMask at *
    simp only [Bool.false_eq_true, if_false, if_true] at H1' H2 HM ⊢
    go_enter Try.func37, Try.ntmps37
    go_wp2_with fail
    refine H1'.out.mono ?_
    rintro e w1 ⟨a, rfl, hno, h1⟩
    have hno' := Lib.hid hno
    clear hno
    go_wp2_with fail
    refine (H2.out a _ h1.out.1).mono ?_
    rintro e w2 ⟨rfl, h2⟩
    go_wp2
    go_ret2
    exact ⟨a, rfl, hno'.out, _, (HM.out a).1, (HM.out a).2, h2.out.1, h1.out.2.trans h2.out.2 (fun _ _ h => h)⟩
end
end Go.Proofs.Ytnbiofcfphpikaa
