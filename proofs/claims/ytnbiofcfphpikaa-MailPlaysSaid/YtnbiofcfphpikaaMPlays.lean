/-
  MailPlays.
-/
import Derived.Test.YtnbiofcfphpikaaStep
import Derived.Test.YtnbiofcfphpikaaMTwo
import Derived.Deep.DeepCutAuto
import Derived.Deep.CutBlock
namespace Go.Proofs.Ytnbiofcfphpikaa
open Go.RowKit

/-- The channel and the law's own list. -/
def MpS (w wr : World) (sp c P : Nat) (k m : Int) (v : Value) (b : Nat) (l : List Int) (cl : Int) : Prop :=
  ∃ M F, SpA w wr (fun k => v.ownBlock = some k) sp 256 M [] 0 F ∧ Chan M c P k m b l cl ∧ Ints wr v l ∧ (∀ g, v.ownBlock = some g → w.heap.size ≤ g)
def ValOf (v : Value) (n : Nat) : Prop := v = .slice none 0 0 ∧ n = 0 ∨ ∃ g cp, v = .slice (some ⟨g, 0, none⟩) n cp
theorem ValOf.slice {v : Value} {n : Nat} (h : ValOf v n) : ∃ a cp, v = .slice a n cp := by
  rcases h with ⟨rfl, rfl⟩ | ⟨g, cp, rfl⟩
  · exact ⟨none, 0, rfl⟩
  · exact ⟨_, cp, rfl⟩
def MpR (w wr : World) (sp c P : Nat) (k m : Int) (vs bb cc : Value) : Prop :=
  ∃ v, v = vs ∧ ∃ (b cl : Nat) (l : List Int), bb = .int .i64 b ∧ cc = .int .i64 cl ∧ cl ≤ 1 ∧ (b < P ∨ P = 0 ∧ b = 0) ∧ l.length ≤ P ∧ ValOf v l.length ∧ Hid (MpS w wr sp c P k m v b l (cl : Int))
theorem MpS.val {w wr : World} {sp c P : Nat} {k m : Int} {v : Value} {b : Nat} {l : List Int} {cl : Int} (h : MpS w wr sp c P k m v b l cl) : ValOf v l.length := by
  obtain ⟨M, F, hS, hC, hI, hfr⟩ := h
  rcases hI.src with ⟨h1, h2⟩ | ⟨ad, cp, h1, _⟩
  · exact .inl ⟨h1, by rw [h2]; rfl⟩
  · have hI' := hI
    rcases hI' with ⟨e, h0⟩ | ⟨g, cp', cur, e, _⟩
    · exact .inl ⟨e, h0⟩
    · exact .inr ⟨g, cp', e⟩
theorem MpS.drewN {w wr : World} {sp c P : Nat} {k m : Int} {v : Value} {b : Nat} {l : List Int} {cl : Int} (h : MpS w wr sp c P k m v b l cl) (q : Nat) : MpS w (wr.drewN q) sp c P k m v b l cl := by
  obtain ⟨M, F, hS, hC, hI, hfr⟩ := h
  exact ⟨M, F, hS.drewN q, hC, hI.drewN q, hfr⟩
theorem MpS.other0 {w wr w' : World} {sp c P : Nat} {k m : Int} {v : Value} {b : Nat} {l : List Int} {cl : Int} (h : MpS w wr sp c P k m v b l cl) (hk : Keeps (fun _ => False) wr w') : MpS w w' sp c P k m v b l cl := by
  obtain ⟨M, F, hS, hC, hI, hfr⟩ := h
  exact ⟨M, F, hS.other0 hk, hC, hI.keep hk (fun _ _ h => h), hfr⟩
/-- What an operation of the channel makes of it, with a block beside. -/
theorem MpS.boxed {w wr : World} {sp c P : Nat} {k m : Int} {v : Value} {b : Nat} {l : List Int} {cl : Int} (h : MpS w wr sp c P k m v b l cl) (o : Obj) :
    ∃ M F, SpA w (wr.alloc o) (fun k => v.ownBlock = some k ∨ k = wr.heap.size) sp 256 M [] 0 F ∧ Chan M c P k m b l cl ∧ Ints (wr.alloc o) v l ∧ (∀ g, v.ownBlock = some g → w.heap.size ≤ g) := by
  obtain ⟨M, F, hS, hC, hI, hfr⟩ := h
  exact ⟨M, F, hS.add ((Keeps.refl _ _).alloc _) (fun k hk => hk.imp id (fun e => ⟨by omega, by subst e; simp⟩)), hC, hI.alloc _, hfr⟩
/-- A new list of the law's own. -/
theorem MpS.fresh {w w3 w6 : World} {R : Nat → Prop} {sp c P n6 cap6 g6 F : Nat} {k m : Int} {b : Nat} {l : List Int} {cl : Int} {M : Mp} (h : SpA w w3 R sp 256 M [] 0 F) (hC : Chan M c P k m b l cl)
    (hI : Ints w6 (.slice (some ⟨g6, 0, none⟩) n6 cap6) l) (hK : Keeps (fun k => w3.heap.size ≤ k) w3 w6) (hG : w3.heap.size ≤ g6) : MpS w w6 sp c P k m (.slice (some ⟨g6, 0, none⟩) n6 cap6) b l cl := by
  have hws := h.keeps.size
  refine ⟨M, F, h.move hK (fun k hk hlt => by omega) (fun k hk => ?_), hC, hI, fun g hg => ?_⟩
  · simp [Value.ownBlock] at hk
    subst hk
    exact ⟨.inr hG, Own.lt hI _ rfl⟩
  · simp [Value.ownBlock] at hg
    omega

/-- The same with a block `q` beside; the channel's list and the law's own may differ. -/
def MpB (w wr : World) (q sp c P : Nat) (k m : Int) (v : Value) (b : Nat) (l lv : List Int) (cl : Int) : Prop :=
  ∃ M F, SpA w wr (fun k => v.ownBlock = some k ∨ k = q) sp 256 M [] 0 F ∧ Chan M c P k m b l cl ∧ Ints wr v lv ∧ (∀ g, v.ownBlock = some g → w.heap.size ≤ g)
def KeepsQ (q : Nat) (w w' : World) : Prop := w.heap.size ≤ w'.heap.size ∧ ∀ t y, w.cell? ⟨q, t, none⟩ = some y → w'.cell? ⟨q, t, none⟩ = some y
theorem MpB.keepsQ {w w' : World} {q : Nat} {v : Value} (h : Keeps (fun k => ¬ (v.ownBlock = some k ∨ k = q)) w w') : KeepsQ q w w' :=
  ⟨h.size, fun _ _ hc => h.cell hc (fun hn => hn (.inr rfl))⟩
theorem KeepsQ.drewN (q : Nat) (w : World) (n : Nat) : KeepsQ q w (w.drewN n) :=
  MpB.keepsQ (v := .bool true) ((Keeps.refl _ w).drewN n)
theorem MpB.ints {w wr : World} {q sp c P : Nat} {k m : Int} {v : Value} {b : Nat} {l lv : List Int} {cl : Int} (h : MpB w wr q sp c P k m v b l lv cl) : Ints wr v lv := by
  obtain ⟨M, F, hS, hC, hI, hfr⟩ := h
  exact hI
theorem MpB.boxed {w wr : World} {sp c P : Nat} {k m : Int} {v : Value} {b : Nat} {l : List Int} {cl : Int} (h : MpS w wr sp c P k m v b l cl) (o : Obj) : MpB w (wr.alloc o) wr.heap.size sp c P k m v b l l cl := h.boxed o
theorem MpB.toS {w wr : World} {q sp c P : Nat} {k m : Int} {v : Value} {b : Nat} {l : List Int} {cl : Int} (h : MpB w wr q sp c P k m v b l l cl) : MpS w wr sp c P k m v b l cl := by
  obtain ⟨M, F, hS, hC, hI, hfr⟩ := h
  exact ⟨M, F, hS.sub (fun k hk => .inl hk), hC, hI, hfr⟩
theorem MpB.drewN {w wr : World} {q sp c P : Nat} {k m : Int} {v : Value} {b : Nat} {l lv : List Int} {cl : Int} (h : MpB w wr q sp c P k m v b l lv cl) (n : Nat) : MpB w (wr.drewN n) q sp c P k m v b l lv cl := by
  obtain ⟨M, F, hS, hC, hI, hfr⟩ := h
  exact ⟨M, F, hS.drewN n, hC, hI.drewN n, hfr⟩
section
variable {w wr : World} {q sp c P : Nat} {k m : Int} {v : Value} {b : Nat} {l : List Int} {cl : Int}
theorem MpB.push (h : MpB w wr q sp c P k m v b l l cl) (hl : l.length < P) (x : Int) :
    Calls Try.prog 38 #[.pointer (some ⟨sp, 0, none⟩), .int .i64 c, .int .i64 x] wr fun e w' => e = .returned (.bool true) ∧ Hid (MpB w w' q sp c P k m v b (l ++ [x]) l cl) ∧ Hid (KeepsQ q wr w') := by
  obtain ⟨M, F, hS, hC, hI, hfr⟩ := h
  refine (mPush hS hC hl x).mono ?_
  rintro e w' ⟨he, M', hc, ho, h2⟩
  exact ⟨he, ⟨M', F, h2.out.1, hc, hI.keep h2.out.2 (fun k hk hn => hn (.inl hk)), hfr⟩, MpB.keepsQ h2.out.2⟩
theorem MpB.pushNo (h : MpB w wr q sp c P k m v b l l cl) (hl : P ≤ l.length) (x : Int) :
    Calls Try.prog 38 #[.pointer (some ⟨sp, 0, none⟩), .int .i64 c, .int .i64 x] wr fun e w' => e = .returned (.bool false) ∧ ∃ n, w' = wr.drewN n := by
  obtain ⟨M, F, hS, hC, hI, hfr⟩ := h
  have hg := hC.get
  exact mPushNo hS c x (by rw [hg.2.2.1, hg.2.2.2]; omega)
theorem MpB.shift {y : Int} (h : MpB w wr q sp c P k m v b (y :: l) (y :: l) cl) :
    Calls Try.prog 39 #[.pointer (some ⟨sp, 0, none⟩), .int .i64 c] wr fun e w' => e = .returned (.tuple #[.int .i64 y, .bool true]) ∧ Hid (MpB w w' q sp c P k m v ((b + 1) % P) l (y :: l) cl) ∧ Hid (KeepsQ q wr w') := by
  obtain ⟨M, F, hS, hC, hI, hfr⟩ := h
  refine (mShift hS hC).mono ?_
  rintro e w' ⟨he, M', hc, ho, h2⟩
  exact ⟨he, ⟨M', F, h2.out.1, hc, hI.keep h2.out.2 (fun k hk hn => hn (.inl hk)), hfr⟩, MpB.keepsQ h2.out.2⟩
theorem MpB.shiftNo {lv : List Int} (h : MpB w wr q sp c P k m v b [] lv cl) :
    Calls Try.prog 39 #[.pointer (some ⟨sp, 0, none⟩), .int .i64 c] wr fun e w' => e = .returned (.tuple #[.int .i64 0, .bool false]) ∧ ∃ n, w' = wr.drewN n := by
  obtain ⟨M, F, hS, hC, hI, hfr⟩ := h
  have hg := hC.get
  exact mShiftNo hS c (by rw [hg.2.2.1]; rfl)
theorem MpB.close (h : MpB w wr q sp c P k m v b l l 0) :
    Calls Try.prog 41 #[.pointer (some ⟨sp, 0, none⟩), .int .i64 c] wr fun e w' => e = .returned (.bool true) ∧ Hid (MpB w w' q sp c P k m v b l l 1) := by
  obtain ⟨M, F, hS, hC, hI, hfr⟩ := h
  refine (mCloseC hS hC).mono ?_
  rintro e w' ⟨he, M', hc, ho, h2⟩
  exact ⟨he, ⟨M', F, h2.out.1, hc, hI.keep h2.out.2 (fun k hk hn => hn (.inl hk)), hfr⟩⟩
theorem MpB.closeNo (h : MpB w wr q sp c P k m v b l l 1) :
    Calls Try.prog 41 #[.pointer (some ⟨sp, 0, none⟩), .int .i64 c] wr fun e w' => e = .returned (.bool false) ∧ ∃ n, w' = wr.drewN n := by
  obtain ⟨M, F, hS, hC, hI, hfr⟩ := h
  exact mCloseNo hS c (.inl hC.get.1)
theorem MpS.count (h : MpS w wr sp c P k m v b l cl) : Calls Try.prog 40 #[.pointer (some ⟨sp, 0, none⟩), .int .i64 c] wr fun e w' => e = .returned (.tuple #[.int .i64 (l.length : Int), .int .i64 (P : Int)]) ∧ ∃ q, w' = wr.drewN q := by
  obtain ⟨M, F, hS, hC, hI, hfr⟩ := h
  have H := mCount hS (c : Int)
  rw [hC.get.2.2.1, hC.get.2.2.2] at H
  exact H
theorem MpS.closed (h : MpS w wr sp c P k m v b l cl) : Calls Try.prog 43 #[.pointer (some ⟨sp, 0, none⟩), .int .i64 c] wr fun e w' => e = .returned (.bool (cl == 1)) ∧ ∃ q, w' = wr.drewN q := by
  obtain ⟨M, F, hS, hC, hI, hfr⟩ := h
  have H := mClosed hS (c : Int)
  rw [hC.get.1] at H
  exact H
theorem MpS.get (h : MpS w wr sp c P k m v b l cl) (j y : Int) (hj : j = 0 ∧ y = cl ∨ j = 1 ∧ y = b ∨ j = 2 ∧ y = l.length ∨ j = 3 ∧ y = P) : Calls Try.prog 29 #[.pointer (some ⟨sp, 0, none⟩), .int .i64 c, .int .i64 j] wr fun e w' => e = .returned (.int .i64 y) ∧ ∃ q, w' = wr.drewN q := by
  obtain ⟨M, F, hS, hC, hI, hfr⟩ := h
  have H := sGet hS (c : Int) j
  have hg := hC.get
  have e : mget M (c : Int) j = y := by
    rcases hj with ⟨rfl, rfl⟩ | ⟨rfl, rfl⟩ | ⟨rfl, rfl⟩ | ⟨rfl, rfl⟩
    · exact hg.1
    · exact hg.2.1
    · exact hg.2.2.1
    · exact hg.2.2.2
  rw [e] at H
  exact H
theorem MpS.getAt (h : MpS w wr sp c P k m v b l cl) (i : Nat) (hi : i < l.length) : Calls Try.prog 29 #[.pointer (some ⟨sp, 0, none⟩), .int .i64 c, .int .i64 ((4 + (b + i) % P : Nat) : Int)] wr fun e w' => e = .returned (.int .i64 (l.getD i 0)) ∧ ∃ q, w' = wr.drewN q := by
  obtain ⟨M, F, hS, hC, hI, hfr⟩ := h
  have H := sGet hS (c : Int) ((4 + (b + i) % P : Nat) : Int)
  obtain ⟨B, hB, hk, hm, hCC⟩ := hC
  rw [mget_at hB (4 + (b + i) % P) rfl (by
    have := hCC.len
    have := hCC.s
    have := Nat.mod_lt (b + i) (show 0 < P by omega)
    omega), hCC.item hi] at H
  exact H
theorem MpS.items (h : MpS w wr sp c P k m v b l cl) : Calls Try.prog 42 #[.pointer (some ⟨sp, 0, none⟩), .int .i64 c] wr fun e w' => ∃ u, e = .returned u ∧ Hid (MpS w w' sp c P k m v b l cl ∧ ValOf u l.length ∧ Ints w' u l) := by
  obtain ⟨M, F, hS, hC, hI, hfr⟩ := h
  refine (mItems hS hC).mono ?_
  rintro e w' ⟨u, he, hG⟩
  have hK : Keeps (fun _ => False) wr w' := hG.out.keeps
  have hS' : MpS w w' sp c P k m v b l cl := ⟨M, F, hS.other0 hK, hC, hI.keep hK (fun _ _ h => h), hfr⟩
  refine ⟨u, he, hS', ?_, hG.out.ints⟩
  rcases hG.out.ints.src with ⟨h1, h2⟩ | ⟨ad, cp, h1, _⟩
  · exact .inl ⟨h1, by rw [h2]; rfl⟩
  · rcases hG.out.ints with ⟨e, h0⟩ | ⟨g, cp', cur, e, _⟩
    · exact .inl ⟨e, h0⟩
    · exact .inr ⟨g, cp', e⟩
end

theorem MpB.fresh {w w3 w6 : World} {q sp c P n6 cap6 g6 : Nat} {k m : Int} {v : Value} {b : Nat} {l lv : List Int} {cl : Int} (h : MpB w w3 q sp c P k m v b l lv cl)
    (hI : Ints w6 (.slice (some ⟨g6, 0, none⟩) n6 cap6) l) (hK : Keeps (fun k => w3.heap.size ≤ k) w3 w6) (hG : w3.heap.size ≤ g6) : MpS w w6 sp c P k m (.slice (some ⟨g6, 0, none⟩) n6 cap6) b l cl := by
  obtain ⟨M, F, hS, hC, hI', hfr⟩ := h
  exact MpS.fresh hS hC hI hK hG
theorem MpS.ints {w wr : World} {sp c P : Nat} {k m : Int} {v : Value} {b : Nat} {l : List Int} {cl : Int} (h : MpS w wr sp c P k m v b l cl) : Ints wr v l := by
  obtain ⟨M, F, hS, hC, hI, hfr⟩ := h
  exact hI
theorem MpS.drewE {w wr w' : World} {sp c P : Nat} {k m : Int} {v : Value} {b : Nat} {l : List Int} {cl : Int} (h : MpS w wr sp c P k m v b l cl) (e : ∃ q, w' = wr.drewN q) : MpS w w' sp c P k m v b l cl := by
  obtain ⟨q, rfl⟩ := e
  exact h.drewN q
theorem Ints.drewE {w w' : World} {v : Value} {l : List Int} (h : Ints w v l) (e : ∃ q, w' = w.drewN q) : Ints w' v l := by
  obtain ⟨q, rfl⟩ := e
  exact h.drewN q
theorem Ints.nth {w : World} {a : Option Addr} {n cv : Nat} {l : List Int} (h : Ints w (.slice a n cv) l) (i : Nat) (hi : i < l.length) : ∃ g, a = some ⟨g, 0, none⟩ ∧ w.cell? ⟨g, i, none⟩ = some (.int .i64 (l.getD i 0)) := by
  rcases id h with ⟨e, h0⟩ | ⟨g, cp, cur, e, hg, h1, h2⟩
  · omega
  · have hc := h.cells e i (.int .i64 (l.getD i 0)) (by rw [List.getElem?_map, List.getElem?_eq_getElem hi]; simp [List.getD_eq_getElem?_getD, List.getElem?_eq_getElem hi])
    have e1 : (⟨g, 0, none⟩ : Addr).add i = ⟨g, i, none⟩ := by
      unfold Addr.add
      split
      · subst_vars; rfl
      · simp
    rw [e1] at hc
    exact ⟨g, by simp at e; exact e.1, hc⟩
/-- The front of the law's own list and what is behind it. -/
theorem Ints.front {w : World} {a : Option Addr} {n cv : Nat} {y : Int} {l : List Int} (h : Ints w (.slice a n cv) (y :: l)) (hn : n = l.length + 1) :
    ∃ g, a = some ⟨g, 0, none⟩ ∧ n ≤ cv ∧ w.cell? ⟨g, 0, none⟩ = some (.int .i64 y) ∧ Src w (.slice (some ⟨g, 1, none⟩) l.length (cv - 1)) l ∧ Src w (.slice (some ⟨g, 0, none⟩) 0 0) [] := by
  rcases id h with ⟨e, h0⟩ | ⟨g, cp, cur, e, hg, h1, h2⟩
  · simp at h0
  · have hc := h.cells e
    obtain ⟨rfl, -, rfl⟩ : a = some ⟨g, 0, none⟩ ∧ n = (y :: l).length ∧ cv = cp := by simpa using e
    refine ⟨g, rfl, by simp at h1; omega, ?_, .inr ⟨⟨g, 1, none⟩, cv - 1, rfl, fun j u hj => ?_⟩, .inr ⟨_, _, rfl, fun j u hj => by simp at hj⟩⟩
    · exact hc 0 _ rfl
    · have := hc (j + 1) u (by simpa using hj)
      have e1 : (⟨g, 0, none⟩ : Addr).add (j + 1) = ⟨g, j + 1, none⟩ := by simp [Addr.add]
      have e2 : (⟨g, 1, none⟩ : Addr).add j = ⟨g, j + 1, none⟩ := by
        unfold Addr.add
        split
        · subst_vars; rfl
        · simp [Nat.add_comm]
      rw [e1] at this
      rw [e2]
      exact this

set_option maxRecDepth 100000 in
set_option maxHeartbeats 20000000 in
theorem mailPlays_calls (w : World) (P : Nat) (refs : Bool) (hP : P ≤ 1024) (a : Option Addr) (len cap : Nat) (hlen : len ≤ 300) (xs : Nat → Nat → Int) (hA : ArgK w a len 2 xs) :
    Calls Try.prog 9 #[.int .i64 P, .bool refs, .slice a len cap] w fun e w' => e = .returned (.bool true) ∧ Keeps (fun _ => False) w w' := by
  have HAN := Lib.hid (anchor15_calls w)
  have HNW := Lib.hid (fun w => sNew w 16384 (by omega) (by omega))
  have d1 : decide ((300 : Int) < (len : Int)) = false := decide_eq_false (by omega)
  have d2 : decide ((0 : Int) ≤ (P : Int)) = true := decide_eq_true (by omega)
  have d3 : decide ((P : Int) ≤ 1024) = true := decide_eq_true (by omega)
  have HAR := Lib.hid hA
  clear hA
  obtain ⟨i0, hi, hz0, hz1, hz2⟩ := info_parts Try.info_int
  go_enter Try.func9, Try.ntmps9
  go_wp2_with fail
  refine HAN.out.mono ?_
  rintro e w0 ⟨rfl, hk0⟩
  have HK0 := Lib.hid hk0
  clear hk0
  go_wp2_with fail
  refine (HNW.out w0).mono ?_
  rintro e w1 ⟨sp, rfl, h1⟩
  have H1 := Lib.hid (mNew h1.out P refs (by omega) (by unfold HS.spansOf; split <;> omega))
  clear h1 HNW HAN
  go_wp2_with fail
  refine H1.out.mono ?_
  rintro e w2 ⟨c, rfl, -, M1, hc1, -, h2⟩
  have HST : Hid (MpS w0 w2 sp c P (chKind refs) (chMask refs) (.slice none 0 0) 0 [] 0) := ⟨M1, _, h2.out.1.sub (fun k hk => by simp [Value.ownBlock] at hk), hc1, Ints.nil _, fun g hg => by simp [Value.ownBlock] at hg⟩
  clear h2 hc1 H1
  generalize chKind refs = ck at *
  generalize chMask refs = cm at *
  go_wp2
  obtain ⟨wo, rfl⟩ : ∃ wo : World, wo = w2 := ⟨_, rfl⟩
  go_loopw [10, 11, 12, 52] (fun vs bb cc i wr => ∃ t : Nat, t ≤ len ∧ i = .int .i64 t ∧ MpR w0 wr sp c P ck cm vs bb cc) (fun _ _ _ i _ => len - (intOf i).toNat)
  case atStart => exact ⟨0, Nat.zero_le _, rfl, _, rfl, 0, 0, [], rfl, rfl, by omega, by omega, by simp, .inl ⟨rfl, rfl⟩, HST.out⟩
  case round =>
    clear HST
    obtain ⟨t, ht, rfl, v, rfl, b, cl, l, rfl, rfl, hcl, hb, hll, hv, hD⟩ := hrel
    by_cases hlt : t < len
    · have dl : decide (t < len) = true := decide_eq_true hlt
      have HKW : Hid (Keeps (fun _ => False) w wr) := by
        obtain ⟨M, F, hS, -⟩ := hD.out
        exact HK0.out.trans hS.keeps (fun _ _ h => h)
      obtain ⟨ab, ao, rfl, hcell⟩ := (HAR.out.keep HKW.out).get hlt
      have hc0 := hcell 0 (by omega)
      have hc1 := hcell 1 (by omega)
      rw [Nat.add_zero] at hc0
      clear hcell HKW
      generalize xs t 0 = kd at *
      generalize xs t 1 = x at *
      go_upto_block 2 with fail
      have HDB := Lib.hid (MpB.boxed hD.out (.cells #[.int .i64 kd, .int .i64 x] 63))
      have hcl2 : (wr.alloc (.cells #[.int .i64 kd, .int .i64 x] 63)).cell? ⟨wr.heap.size, 1, none⟩ = some (.int .i64 x) := World.cell?_alloc_new wr #[.int .i64 kd, .int .i64 x] _ 1
      have HCL2 := Lib.hid hcl2
      clear hc0 hc1 hcl2
      go_cut [10, 11, 12] (fun vs bb cc wx => MpR w0 wx sp c P ck cm vs bb cc)
      case first =>
        as_aux_lemma =>
        have hcl2 := HCL2.out
        have HQ : Hid (wr.heap.size < (wr.alloc (.cells #[.int .i64 kd, .int .i64 x] 63)).heap.size) := by show _ < _; simp
        generalize wr.alloc (.cells #[.int .i64 kd, .int .i64 x] 63) = w2 at *
        generalize wr.heap.size = q at *
        clear HCL2 HAR hD
        obtain ⟨av, cv, rfl⟩ := hv.slice
        by_cases hk1 : kd = 1
        · as_aux_lemma =>
          subst hk1
          by_cases hfit : l.length < P
          · as_aux_lemma =>
            have dL : decide (l.length < P) = true := decide_eq_true hfit
            have HPU := Lib.hid (HDB.out.push hfit x)
            clear HDB
            go_wp2_with fail
            refine HPU.out.mono ?_
            rintro e w3 ⟨rfl, h3, hk3⟩
            have hcl3 : w3.cell? ⟨q, 1, none⟩ = some (.int .i64 x) := hk3.out.2 1 _ hcl2
            have hcl4 : w3.drew.cell? ⟨q, 1, none⟩ = some (.int .i64 x) := hcl3
            have hcl5 : ∀ o, (w3.alloc o).drew.cell? ⟨q, 1, none⟩ = some (.int .i64 x) := fun o => ((Keeps.refl (fun _ => False) w3).alloc o).cell0 hcl3
            have HSRC : Hid (Src w3 (.slice av l.length cv) l) := h3.out.ints.src
            have HK3 : Hid (q < w3.heap.size ∧ True) := ⟨Nat.lt_of_lt_of_le HQ.out hk3.out.1, trivial⟩
            have HBD : Hid (l.length ≤ 1024) := by show _ ≤ _; omega
            clear hk3 HPU hcl2
            go_wp2
            go_region_law (
              first
              | (refine step_appN hi hz0 hz1 hz2 rfl (.tmp 72) (.tmp 73) rfl rfl rfl w3.heap.size (by first | exact (Ints.empty w3).drewN 1 | exact ((Ints.empty w3).alloc _).drewN 1 | exact (Ints.empty2 w3 _).drewN 1) (by simp) (by simp <;> omega) (by first | exact (HSRC.out.alloc _).drewN 1 | exact ((HSRC.out.alloc _).alloc _).drewN 1) (by simp; omega) ?_
                 intro g5 cap5 w5 hI5 hf5 hK5
                 have HK5 : Hid (Keeps (fun k => w3.heap.size ≤ k) w3 w5) := by
                   first
                   | exact ((((Keeps.refl (fun k => w3.heap.size ≤ k) w3).alloc _).alloc _).drew).trans hK5 (fun k hk e => by first | omega | (simp at hk e; omega) | (simp at e; omega) | (simp at hk; omega))
                   | exact (((Keeps.refl (fun k => w3.heap.size ≤ k) w3).alloc _).drew).trans hK5 (fun k hk e => by first | omega | (simp at hk e; omega) | (simp at e; omega) | (simp at hk; omega))
                 have hc5 := HK5.out.cell hcl3 (fun h => by have := HK3.out.1; first | omega | (simp at h; omega))
                 try (have hx5 : w5.cell? ⟨w3.heap.size, 0, none⟩ = some (.int .i64 x) := hK5.cell (((Keeps.refl (fun _ => False) (w3.alloc (.cells #[.int .i64 x] 3))).alloc (.cells #[] 3)).drew.cell0 (World.cell?_alloc_new w3 #[.int .i64 x] 3 0)) (by simp))
                 try (have hx6 : w5.cell? ⟨w3.heap.size + 1, 0, none⟩ = some (.int .i64 x) := hK5.cell (show ((w3.alloc (.cells #[] 3)).alloc (.cells #[.int .i64 x] 3)).drew.cell? ⟨w3.heap.size + 1, 0, none⟩ = some (.int .i64 x) from by
                   first
                   | (simp; done)
                   | (have := World.cell?_alloc_new (w3.alloc (.cells #[] 3)) #[.int .i64 x] 3 0; simpa using this)) (by simp))
                 rw [List.nil_append] at hI5
                 simp only [List.nil_append]
                 have HI5 := Lib.hid hI5
                 have HF5 := Lib.hid hf5
                 clear hI5 hf5 hK5)
              | (refine step_app1 rfl (.tmp 74) (.tmp 77) 22 rfl 3 i0 (.int .i64 0) 8 Try.underlying_ints hi hz0 hz1 hz2 rfl (by decide) (.slice (some ⟨g5, 0, none⟩) l.length cap5) l.length _ rfl (by first | exact HI5.out | exact HI5.out.alloc _) _ 1 (.int .i64 x) rfl (by first | exact World.cell?_alloc_new _ _ _ 0 | assumption) rfl (by omega) ?_
                 intro g6 cap6 w6 hO6 hK6 hg6
                 have HI6 : Hid (Ints w6 (.slice (some ⟨g6, 0, none⟩) (l.length + 1) cap6) (l ++ [x])) := Ints.snoc hO6
                 have HK6 : Hid (Keeps (fun k => w3.heap.size ≤ k) w3 w6) := by
                   have hf := HF5.out
                   first
                   | exact HK5.out.trans hK6 (fun k hk e => by simp [Value.ownBlock] at e; omega)
                   | exact (HK5.out.alloc _).trans hK6 (fun k hk e => by simp [Value.ownBlock] at e; omega)
                 have HG6 : Hid (w3.heap.size ≤ g6) := by
                   have hf := HF5.out
                   have hs := HK5.out.size
                   show _ ≤ _
                   rcases hg6 with e | e
                   · simp [Value.ownBlock] at e; omega
                   · first | omega | (simp at e; omega)
                 clear hO6 hK6 hg6 HI5 HK5 HF5 hc5))
            all_goals
              as_aux_lemma =>
              go_wp2
              go_meet
              case rel => exact ⟨_, rfl, b, cl, l ++ [x], rfl, rfl, hcl, hb, by rw [List.length_append]; simp; omega, .inr ⟨g6, cap6, by rw [List.length_append]; rfl⟩, h3.out.fresh HI6.out HK6.out HG6.out⟩
          · as_aux_lemma =>
            have dL : decide (l.length < P) = false := decide_eq_false hfit
            have HPU := Lib.hid (HDB.out.pushNo (by omega) x)
            go_wp2_with fail
            refine HPU.out.mono ?_
            rintro e w3 ⟨rfl, n3, rfl⟩
            go_wp2
            go_meet
            case rel => exact ⟨_, rfl, b, cl, l, rfl, rfl, hcl, hb, hll, hv, (HDB.out.drewN n3).toS⟩
        · as_aux_lemma =>
          have dk1 : decide (kd = 1) = false := decide_eq_false hk1
          by_cases hk2 : kd = 2
          · as_aux_lemma =>
            subst hk2
            clear dk1 hk1
            cases l with
            | nil =>
              as_aux_lemma =>
              have HSH := Lib.hid HDB.out.shiftNo
              go_wp2_with fail
              refine HSH.out.mono ?_
              rintro e w3 ⟨rfl, n3, rfl⟩
              go_wp2
              go_meet
              case rel => exact ⟨_, rfl, b, cl, [], rfl, rfl, hcl, hb, hll, hv, (HDB.out.drewN n3).toS⟩
            | cons y l' =>
              as_aux_lemma =>
              have HSH := Lib.hid HDB.out.shift
              clear HDB
              go_wp2_with fail
              refine HSH.out.mono ?_
              rintro e w3 ⟨rfl, h3, hk3⟩
              clear hk3 HSH hcl2
              obtain ⟨g, rfl, hn1, hy0, hsl, hsl0⟩ := h3.out.ints.front rfl
              have dG : decide (0 < l'.length + 1) = true := decide_eq_true (by omega)
              have HSL := Lib.hid hsl
              have HSL0 := Lib.hid hsl0
              have hn1 : l'.length + 1 ≤ cv := hn1
              have hll2 : l'.length + 1 ≤ P := hll
              have hLL : l'.length + 1 ≤ 1024 := by omega
              have hbP : b < P := by
                simp at hll
                omega
              have hmod : ((b : Int) + 1).tmod (P : Int) = (((b + 1) % P : Nat) : Int) := by
                rw [← Int.natCast_one, ← Int.natCast_add, Int.ofNat_tmod]
              have hml : (b + 1) % P < P := Nat.mod_lt _ (by omega)
              have hmm : ∃ b', b' = (b + 1) % P := ⟨_, rfl⟩
              obtain ⟨b', hb'⟩ := hmm
              rw [← hb'] at hmod hml h3
              clear hsl hsl0 hb'
              have hd0 : decide ((P : Int) = 0) = false := decide_eq_false (by omega)
              by_cases hcv : cv = 1
              · as_aux_lemma =>
                subst hcv
                have hl0 : l' = [] := List.eq_nil_of_length_eq_zero (by omega)
                subst hl0
                go_wp2_with (at_builtin; refine wpList_appN hi hz0 hz1 hz2 rfl _ _ rfl rfl rfl w3.heap.size (Ints.empty _) (Nat.le_refl _) (by simp) (HSL0.out.alloc _) (by simp) ?_; intro g5 cap5 w5 hI5 hf5 hK5)
                have HI5 := Lib.hid hI5
                have HK5 : Hid (Keeps (fun k => w3.heap.size ≤ k) w3 w5) := ((Keeps.refl (fun k => w3.heap.size ≤ k) w3).alloc _).trans hK5 (fun k hk e => by first | omega | (simp at hk e; omega) | (simp at e; omega) | (simp at hk; omega))
                have HF5 := Lib.hid hf5
                clear hI5 hK5 hf5
                go_wp2
                go_meet
                case rel => exact ⟨_, rfl, b', cl, [], rfl, rfl, hcl, .inl hml, by simp, .inr ⟨g5, cap5, rfl⟩, h3.out.fresh HI5.out HK5.out HF5.out⟩
              · as_aux_lemma =>
                have hcv2 : 1 < cv := by omega
                go_wp2_with (at_builtin; refine wpList_appN hi hz0 hz1 hz2 rfl _ _ rfl rfl rfl w3.heap.size (Ints.empty _) (Nat.le_refl _) (by simp) (HSL.out.alloc _) (by simp; omega) ?_; intro g5 cap5 w5 hI5 hf5 hK5)
                have HI5 := Lib.hid hI5
                have HK5 : Hid (Keeps (fun k => w3.heap.size ≤ k) w3 w5) := ((Keeps.refl (fun k => w3.heap.size ≤ k) w3).alloc _).trans hK5 (fun k hk e => by first | omega | (simp at hk e; omega) | (simp at e; omega) | (simp at hk; omega))
                have HF5 := Lib.hid hf5
                clear hI5 hK5 hf5
                go_wp2
                go_meet
                case rel => exact ⟨_, rfl, b', cl, l', rfl, rfl, hcl, .inl hml, by omega, .inr ⟨g5, cap5, rfl⟩, h3.out.fresh HI5.out HK5.out HF5.out⟩
          · as_aux_lemma =>
            have dk2 : decide (kd = 2) = false := decide_eq_false hk2
            by_cases hk3 : kd = 3
            · as_aux_lemma =>
              subst hk3
              clear dk1 hk1 dk2 hk2
              obtain rfl | rfl : cl = 0 ∨ cl = 1 := by omega
              · as_aux_lemma =>
                have HCL := Lib.hid HDB.out.close
                clear HDB
                go_wp2_with fail
                refine HCL.out.mono ?_
                rintro e w3 ⟨rfl, h3⟩
                go_wp2
                go_meet
                case rel => exact ⟨_, rfl, b, 1, l, rfl, rfl, by omega, hb, hll, hv, h3.out.toS⟩
              · as_aux_lemma =>
                have HCL := Lib.hid HDB.out.closeNo
                go_wp2_with fail
                refine HCL.out.mono ?_
                rintro e w3 ⟨rfl, n3, rfl⟩
                go_wp2
                go_meet
                case rel => exact ⟨_, rfl, b, 1, l, rfl, rfl, by omega, hb, hll, hv, (HDB.out.drewN n3).toS⟩
            · as_aux_lemma =>
              have dk3 : decide (kd = 3) = false := decide_eq_false hk3
              go_wp2
              go_meet
              case rel => exact ⟨_, rfl, b, cl, l, rfl, rfl, hcl, hb, hll, hv, HDB.out.toS⟩
      case rest =>
        as_aux_lemma =>
        clear hD HDB HCL2 hb hll hv hcl
        obtain ⟨v, rfl, b, cl, l, rfl, rfl, hcl, hb, hll, hv, hD⟩ := hcut
        obtain ⟨av, cv, rfl⟩ := hv.slice
        have H1 := Lib.hid hD.out.count
        go_wp2_with fail
        refine H1.out.mono ?_
        rintro e w1 ⟨rfl, q1, rfl⟩
        have H2 := Lib.hid (hD.out.drewN q1).items
        clear H1 hD
        go_wp2_with fail
        refine H2.out.mono ?_
        rintro e w2 ⟨u, rfl, h2⟩
        obtain ⟨h2s, h2v, h2i⟩ := h2.out
        obtain ⟨au, cu, rfl⟩ := h2v.slice
        have HS2 := Lib.hid h2s
        have HI2 := Lib.hid h2i
        have HV := Lib.hid hv
        clear h2s h2v h2i h2 H2 hv
        obtain rfl | rfl : cl = 0 ∨ cl = 1 := by omega
        · as_aux_lemma =>
          have HG := Lib.hid HS2.out.closed
          go_wp2_with fail
          refine HG.out.mono ?_
          rintro e w4 ⟨rfl, hw⟩
          have HS2 := Lib.hid (HS2.out.drewE hw)
          have HI2 := Lib.hid (HI2.out.drewE hw)
          clear HG hw
          have HG := Lib.hid (HS2.out.get 0 _ (.inl ⟨rfl, rfl⟩))
          go_wp2_with fail
          refine HG.out.mono ?_
          rintro e w4 ⟨rfl, hw⟩
          have HS2 := Lib.hid (HS2.out.drewE hw)
          have HI2 := Lib.hid (HI2.out.drewE hw)
          clear HG hw
          have HG := Lib.hid (HS2.out.get 1 _ (.inr (.inl ⟨rfl, rfl⟩)))
          go_wp2_with fail
          refine HG.out.mono ?_
          rintro e w4 ⟨rfl, hw⟩
          have HS2 := Lib.hid (HS2.out.drewE hw)
          have HI2 := Lib.hid (HI2.out.drewE hw)
          clear HG hw
          have HG := Lib.hid (HS2.out.get 2 _ (.inr (.inr (.inl ⟨rfl, rfl⟩))))
          go_wp2_with fail
          refine HG.out.mono ?_
          rintro e w4 ⟨rfl, hw⟩
          have HS2 := Lib.hid (HS2.out.drewE hw)
          have HI2 := Lib.hid (HI2.out.drewE hw)
          clear HG hw
          have HG := Lib.hid (HS2.out.get 3 _ (.inr (.inr (.inr ⟨rfl, rfl⟩))))
          go_wp2_with fail
          refine HG.out.mono ?_
          rintro e w4 ⟨rfl, hw⟩
          have HS2 := Lib.hid (HS2.out.drewE hw)
          have HI2 := Lib.hid (HI2.out.drewE hw)
          clear HG hw
          go_wp2
          generalize w4 = wz at *
          go_loopw [190] (fun i wx => ∃ k : Nat, k ≤ l.length ∧ i = .int .i64 k ∧ Hid (MpS w0 wx sp c P ck cm (.slice av l.length cv) b l ((0 : Nat) : Int) ∧ Ints wx (.slice au l.length cu) l)) (fun i _ => l.length - (intOf i).toNat)
          case atStart => exact ⟨0, Nat.zero_le _, rfl, HS2.out, HI2.out⟩
          case round =>
            clear HS2 HI2
            obtain ⟨k, hk, rfl, hZ⟩ := hrel
            by_cases hkl : k < l.length
            · as_aux_lemma =>
              have dk : decide (k < l.length) = true := decide_eq_true hkl
              obtain ⟨gz, rfl, hz4⟩ := hZ.out.1.ints.nth k hkl
              obtain ⟨gu, rfl, hu4⟩ := hZ.out.2.nth k hkl
              have hG := hZ.out.1.getAt k hkl
              rw [show (((4 + (b + k) % P : Nat)) : Int) = 4 + ((b : Int) + (k : Int)) % (P : Int) by push_cast; rfl] at hG
              have HG := Lib.hid hG
              have hkP : k < P := by omega
              have hbP : b < P := by omega
              have q0 : (0 : Int) ≤ ((b : Int) + (k : Int)) % (P : Int) := Int.emod_nonneg _ (by omega)
              have q1 : ((b : Int) + (k : Int)) % (P : Int) < 20000 := by have := Int.emod_lt_of_pos ((b : Int) + (k : Int)) (show (0 : Int) < P by omega); omega
              have hP0 : ¬ ((P : Int) = 0) := by omega
              generalize l.getD k 0 = y at *
              clear hG
              have HZ := Lib.hid hZ.out
              clear hZ
              go_wp2_with fail
              refine HG.out.mono ?_
              rintro e w5 ⟨rfl, hw5⟩
              have HZ2 := Lib.hid (And.intro (HZ.out.1.drewE hw5) (HZ.out.2.drewE hw5))
              clear HZ HG hw5 hz4 hu4
              go_wp2
              go_roundw
              case rel => exact ⟨k + 1, by omega, by go_num, HZ2⟩
              case measure => simp [intOf]; omega
            · as_aux_lemma =>
              obtain rfl : k = l.length := by omega
              have dk : decide (l.length < l.length) = false := by simp
              have HZ := Lib.hid hZ.out.1
              clear hZ
              go_wp2
              go_roundw
              case rel => exact ⟨t + 1, by omega, by go_num, _, rfl, b, _, l, rfl, rfl, by decide, hb, hll, HV.out, HZ⟩
              case measure => simp [intOf]; omega
        · as_aux_lemma =>
          have HG := Lib.hid HS2.out.closed
          go_wp2_with fail
          refine HG.out.mono ?_
          rintro e w4 ⟨rfl, hw⟩
          have HS2 := Lib.hid (HS2.out.drewE hw)
          have HI2 := Lib.hid (HI2.out.drewE hw)
          clear HG hw
          have HG := Lib.hid (HS2.out.get 0 _ (.inl ⟨rfl, rfl⟩))
          go_wp2_with fail
          refine HG.out.mono ?_
          rintro e w4 ⟨rfl, hw⟩
          have HS2 := Lib.hid (HS2.out.drewE hw)
          have HI2 := Lib.hid (HI2.out.drewE hw)
          clear HG hw
          have HG := Lib.hid (HS2.out.get 1 _ (.inr (.inl ⟨rfl, rfl⟩)))
          go_wp2_with fail
          refine HG.out.mono ?_
          rintro e w4 ⟨rfl, hw⟩
          have HS2 := Lib.hid (HS2.out.drewE hw)
          have HI2 := Lib.hid (HI2.out.drewE hw)
          clear HG hw
          have HG := Lib.hid (HS2.out.get 2 _ (.inr (.inr (.inl ⟨rfl, rfl⟩))))
          go_wp2_with fail
          refine HG.out.mono ?_
          rintro e w4 ⟨rfl, hw⟩
          have HS2 := Lib.hid (HS2.out.drewE hw)
          have HI2 := Lib.hid (HI2.out.drewE hw)
          clear HG hw
          have HG := Lib.hid (HS2.out.get 3 _ (.inr (.inr (.inr ⟨rfl, rfl⟩))))
          go_wp2_with fail
          refine HG.out.mono ?_
          rintro e w4 ⟨rfl, hw⟩
          have HS2 := Lib.hid (HS2.out.drewE hw)
          have HI2 := Lib.hid (HI2.out.drewE hw)
          clear HG hw
          go_wp2
          generalize w4 = wz at *
          go_loopw [190] (fun i wx => ∃ k : Nat, k ≤ l.length ∧ i = .int .i64 k ∧ Hid (MpS w0 wx sp c P ck cm (.slice av l.length cv) b l ((1 : Nat) : Int) ∧ Ints wx (.slice au l.length cu) l)) (fun i _ => l.length - (intOf i).toNat)
          case atStart => exact ⟨0, Nat.zero_le _, rfl, HS2.out, HI2.out⟩
          case round =>
            clear HS2 HI2
            obtain ⟨k, hk, rfl, hZ⟩ := hrel
            by_cases hkl : k < l.length
            · as_aux_lemma =>
              have dk : decide (k < l.length) = true := decide_eq_true hkl
              obtain ⟨gz, rfl, hz4⟩ := hZ.out.1.ints.nth k hkl
              obtain ⟨gu, rfl, hu4⟩ := hZ.out.2.nth k hkl
              have hG := hZ.out.1.getAt k hkl
              rw [show (((4 + (b + k) % P : Nat)) : Int) = 4 + ((b : Int) + (k : Int)) % (P : Int) by push_cast; rfl] at hG
              have HG := Lib.hid hG
              have hkP : k < P := by omega
              have hbP : b < P := by omega
              have q0 : (0 : Int) ≤ ((b : Int) + (k : Int)) % (P : Int) := Int.emod_nonneg _ (by omega)
              have q1 : ((b : Int) + (k : Int)) % (P : Int) < 20000 := by have := Int.emod_lt_of_pos ((b : Int) + (k : Int)) (show (0 : Int) < P by omega); omega
              have hP0 : ¬ ((P : Int) = 0) := by omega
              generalize l.getD k 0 = y at *
              clear hG
              have HZ := Lib.hid hZ.out
              clear hZ
              go_wp2_with fail
              refine HG.out.mono ?_
              rintro e w5 ⟨rfl, hw5⟩
              have HZ2 := Lib.hid (And.intro (HZ.out.1.drewE hw5) (HZ.out.2.drewE hw5))
              clear HZ HG hw5 hz4 hu4
              go_wp2
              go_roundw
              case rel => exact ⟨k + 1, by omega, by go_num, HZ2⟩
              case measure => simp [intOf]; omega
            · as_aux_lemma =>
              obtain rfl : k = l.length := by omega
              have dk : decide (l.length < l.length) = false := by simp
              have HZ := Lib.hid hZ.out.1
              clear hZ
              go_wp2
              go_roundw
              case rel => exact ⟨t + 1, by omega, by go_num, _, rfl, b, _, l, rfl, rfl, by decide, hb, hll, HV.out, HZ⟩
              case measure => simp [intOf]; omega
    · obtain rfl : t = len := by omega
      have dl : decide (t < t) = false := by simp
      have HKF : Hid (Keeps (fun _ => False) w wr) := by
        obtain ⟨M, F, hS, -⟩ := hD.out
        exact HK0.out.trans hS.keeps (fun _ _ h => h)
      clear hD hv
      go_wp2
      go_ret
      exact ⟨rfl, HKF.out⟩
end Go.Proofs.Ytnbiofcfphpikaa
