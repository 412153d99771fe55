/-
  The walk of text.New.
-/
import Derived.Test.YtnbiofcfphpikaaTxt
namespace Go.Proofs.Ytnbiofcfphpikaa
open Go.RowKit

/-- A block for a string is being written: all others are as in M0. -/
def TwS (w w0 wr : World) (R : Nat → Prop) (sp N : Nat) (M0 : Mp) (held : List Int) (n F a : Nat) (s : ByteArray) (i : Nat) : Prop :=
  ∃ M', SpA w wr R sp N M' held n F ∧ Keeps (fun k => ¬ R k) w0 wr ∧ (∃ b, M' a = some b ∧ Tw b s i) ∧ ∀ c, c ≠ a → M' c = M0 c

theorem tEmpty (sp : Nat) (w : World) (s : ByteArray) (hs : s.size = 0) :
    Calls Try.prog 34 #[.pointer (some ⟨sp, 0, none⟩), .string s] w fun e w' => e = .returned (.tuple #[.int .i64 0, .bool true]) ∧ w = w' := by
  have e1 : s.toList = [] := by
    rw [ByteArray.toList_eq]
    exact List.eq_nil_of_length_eq_zero (by rw [Array.length_toList]; exact hs)
  have e2 : s.toList.isEmpty = true := by rw [e1]; rfl
  clear hs
  go_enter Try.func34, Try.ntmps34
  go_wp2
  go_ret2
  exact ⟨rfl, rfl⟩
theorem tLong (sp : Nat) (w : World) (s : ByteArray) (hs : 16384 < s.size) :
    Calls Try.prog 34 #[.pointer (some ⟨sp, 0, none⟩), .string s] w fun e w' => e = .returned (.tuple #[.int .i64 0, .bool false]) ∧ w = w' := by
  have e1 := toList_ne (s := s) (by omega)
  have e2 := toList_ne' (s := s) (by omega)
  have d : decide ((16384 : Int) < (s.size : Int)) = true := decide_eq_true (by omega)
  clear hs
  go_enter Try.func34, Try.ntmps34
  go_wp2
  go_ret2
  exact ⟨rfl, rfl⟩

set_option maxRecDepth 100000 in
set_option maxHeartbeats 4000000 in
theorem tNewGen {w wa : World} {R : Nat → Prop} {sp N : Nat} {held : List Int} (s : ByteArray) (hs0 : 0 < s.size) (hs : s.size ≤ 16384) {Q : Nat → Nat → Nat → Mp → Prop} {Z : World → Prop}
    (hmk : Calls Try.prog 22 #[.pointer (some ⟨sp, 0, none⟩), .int .i64 1, .int .i64 (((s.size : Int) + 7) / 8 + 1), .int .i64 0] wa fun e w3 =>
      (∃ a M1 n1 F1, e = .returned (.tuple #[.int .i64 ((a : Nat) : Int), .bool true]) ∧ Q a n1 F1 M1 ∧ Hid (SpA w w3 R sp N (setf M1 a (some ⟨1, (s.size + 7) / 8 + 1, 0, fun _ => 0⟩)) held n1 F1 ∧ Keeps (fun k => ¬ R k) wa w3)) ∨
      (e = .returned (.tuple #[.int .i64 0, .bool false]) ∧ Z w3)) :
    Calls Try.prog 34 #[.pointer (some ⟨sp, 0, none⟩), .string s] wa fun e w' =>
      (∃ a M1 n1 F1, e = .returned (.tuple #[.int .i64 ((a : Nat) : Int), .bool true]) ∧ Q a n1 F1 M1 ∧ Hid (∃ M', SpA w w' R sp N M' held n1 F1 ∧ Keeps (fun k => ¬ R k) wa w' ∧ (∃ b, M' a = some b ∧ Tx b s) ∧ ∀ c, c ≠ a → M' c = M1 c)) ∨
      (e = .returned (.tuple #[.int .i64 0, .bool false]) ∧ Z w') := by
  have H := Lib.hid hmk
  clear hmk
  have e1 := toList_ne hs0
  have e2 := toList_ne' hs0
  have d : decide ((16384 : Int) < (s.size : Int)) = false := decide_eq_false (by omega)
  obtain ⟨nw, hn⟩ : ∃ nw : Nat, nw = (s.size + 7) / 8 := ⟨_, rfl⟩
  have hn2 : ((s.size : Int) + 7) / 8 = (nw : Int) := by omega
  rw [hn2, ← hn] at H
  have HN := Lib.hid hn
  have HN2 := Lib.hid hn2
  have hnw : nw ≤ 2100 := by omega
  clear hn
  go_enter Try.func34, Try.ntmps34
  go_wp2_with fail
  refine H.out.mono ?_
  rintro e w1 (⟨a, M1, n1, F1, rfl, hq, h1⟩ | ⟨rfl, hz⟩)
  · have HQ := Lib.hid hq
    have H2 := Lib.hid (sSet h1.out.1 a 0 (s.size : Int) (setf_same _ _ _) (show 0 < nw + 1 by omega))
    have HK1 := Lib.hid h1.out.2
    have HB : Hid (∃ b, mset (setf M1 a (some ⟨1, nw + 1, 0, fun _ => 0⟩)) a 0 (s.size : Int) a = some b ∧ Tw b s 0) :=
      ⟨_, mset_same (setf_same _ _ _), rfl, rfl, by show nw + 1 = _; rw [HN.out], put_same _ _ _, fun j hj => by omega⟩
    clear h1 hq H hn2
    go_wp2_with fail
    refine H2.out.mono ?_
    rintro e w2 ⟨rfl, h2⟩
    have HST : Hid (TwS w wa w2 R sp N M1 held n1 F1 a s 0) := ⟨_, h2.out.1, HK1.out.trans h2.out.2 (fun _ _ h => h), HB.out, fun c hc => by rw [mset_ne _ _ _ hc, setf_ne _ _ hc]⟩
    clear h2 HK1 HB H2
    have hn2 := HN2.out
    go_wp2
    obtain ⟨wo, rfl⟩ : ∃ wo : World, wo = w2 := ⟨_, rfl⟩
    clear hn2
    go_loopw [36] (fun i wx => ∃ k : Nat, k ≤ nw ∧ i = .int .i64 k ∧ Hid (TwS w wa wx R sp N M1 held n1 F1 a s k)) (fun i _ => nw - (intOf i).toNat)
    case atStart => exact ⟨0, Nat.zero_le _, rfl, HST.out⟩
    case round =>
      clear HST
      obtain ⟨k, hk, rfl, hD⟩ := hrel
      by_cases hlt : k < nw
      · have dk : decide (k < nw) = true := decide_eq_true hlt
        obtain ⟨m, hm⟩ : ∃ m : Nat, m = min 8 (s.size - 8 * k) := ⟨_, rfl⟩
        have hm8 : m ≤ 8 := by omega
        have hms : 8 * k + m ≤ s.size := by have := HN.out; omega
        have HM : Hid ((8 : Int) ≤ (s.size : Int) - 8 * (k : Int) ∧ m = 8 ∨ (s.size : Int) - 8 * (k : Int) < 8 ∧ (s.size : Int) - 8 * (k : Int) = m) := by show _ ∨ _; have := HN.out; omega
        have HMR : Hid (wrd s k m = wrd s k 8) := wrd_full (by have := HN.out; omega)
        clear hm
        go_wp2
        case' inr => have HX : Hid (∀ j : Nat, ¬ j < m → decide ((j : Int) < 8) = false) := fun j hj => decide_eq_false (by have := HM.out; omega)
        case' inl => have HX : Hid (∀ j : Nat, ¬ j < m → decide ((j : Int) < (s.size : Int) - 8 * (k : Int)) = false) := fun j hj => decide_eq_false (by have := HM.out; omega)
        all_goals clear h
        all_goals
          obtain ⟨wo2, rfl⟩ : ∃ wo : World, wo = wr := ⟨_, rfl⟩
          go_loopw [10, 45] (fun v i wx => ∃ j : Nat, j ≤ m ∧ i = .int .i64 j ∧ v = .int .i64 (wrd s k j) ∧ Hid (TwS w wa wx R sp N M1 held n1 F1 a s k)) (fun _ i _ => m - (intOf i).toNat)
          case atStart => exact ⟨0, Nat.zero_le _, rfl, by rw [wrd_zero], hD⟩
          case round =>
            clear hD
            obtain ⟨j, hj, rfl, rfl, hD⟩ := hrel
            by_cases hlt2 : j < m
            · have dj : decide ((j : Int) < (s.size : Int) - 8 * (k : Int)) = true := decide_eq_true (by have := HM.out; omega)
              have dj2 : decide ((j : Int) < 8) = true := decide_eq_true (by omega)
              have hj8 : j < 8 := by omega
              have hidx : 8 * k + j < s.size := by omega
              have HOR := Lib.hid (or_step (k := k) hj8 hidx)
              generalize hz : wrd s k j = z at *
              have HZ := Lib.hid hz
              clear hz
              go_wp2
              go_roundw
              case rel => exact ⟨j + 1, by omega, by go_num, congrArg _ HOR.out, hD⟩
              case measure => simp [intOf]; omega
            · have dj := HX.out j hlt2
              obtain rfl : j = m := by omega
              rw [HMR.out]
              obtain ⟨M', hS, hK, ⟨b, hb, hT⟩, ho⟩ := hD.out
              have H2 := sSet hS a (k + 1) (wrd s k 8) hb (by rw [hT.ss, ← HN.out]; omega)
              rw [show ((k + 1 : Nat) : Int) = (k : Int) + 1 by omega] at H2
              have H2' := Lib.hid H2
              have HY : Hid (∀ wy, SpA w wy R sp N (mset M' a (k + 1) (wrd s k 8)) held n1 F1 → Keeps (fun k => ¬ R k) wr wy → TwS w wa wy R sp N M1 held n1 F1 a s (k + 1)) :=
                fun wy h1 h2 => ⟨_, h1, hK.trans h2 (fun _ _ h => h), ⟨_, mset_same hb, hT.put⟩, fun c hc => (mset_ne _ _ _ hc).trans (ho c hc)⟩
              clear hS hK hb hT ho hD H2
              generalize wrd s k 8 = z at *
              go_wp2_with fail
              refine H2'.out.mono ?_
              rintro e w3 ⟨rfl, h3⟩
              have HYY := Lib.hid (HY.out _ h3.out.1 h3.out.2)
              clear h3 HY H2'
              go_wp2
              go_roundw
              case rel => exact ⟨k + 1, by omega, by go_num, HYY⟩
              case measure => simp [intOf]; omega
      · obtain rfl : k = nw := by omega
        have dk : decide (k < k) = false := by simp
        have HFIN : Hid (∃ M', SpA w wr R sp N M' held n1 F1 ∧ Keeps (fun k => ¬ R k) wa wr ∧ (∃ b, M' a = some b ∧ Tx b s) ∧ ∀ c, c ≠ a → M' c = M1 c) := by
          obtain ⟨M', hS, hK, ⟨b, hb, hT⟩, ho⟩ := hD.out
          exact ⟨M', hS, hK, ⟨b, hb, hT.kk, hT.mm, hT.ss, hT.w0, fun i hi => hT.ww i (by rw [HN.out]; exact hi), hs0, hs⟩, ho⟩
        clear hD
        go_wp2
        go_ret2
        exact .inl ⟨a, M1, n1, F1, rfl, HQ.out, HFIN⟩
  · have HZ := Lib.hid hz
    clear hz
    go_wp2
    go_ret2
    exact .inr ⟨rfl, HZ.out⟩

/-- New where there is room. -/
theorem tNew {w wr : World} {R : Nat → Prop} {sp N : Nat} {M : Mp} {held : List Int} {n F : Nat} (h : SpA w wr R sp N M held n F) (s : ByteArray) (hs0 : 0 < s.size) (hs : s.size ≤ 16384) (hF : F + HS.spansOf ((s.size + 7) / 8 + 1 + 1) ≤ N) :
    Calls Try.prog 34 #[.pointer (some ⟨sp, 0, none⟩), .string s] wr fun e w' => ∃ a : Nat, e = .returned (.tuple #[.int .i64 a, .bool true]) ∧ M a = none ∧
      Hid (∃ M', SpA w w' R sp N M' held n (F + HS.spansOf ((s.size + 7) / 8 + 1 + 1)) ∧ Keeps (fun k => ¬ R k) wr w' ∧ (∃ b, M' a = some b ∧ Tx b s) ∧ ∀ c, c ≠ a → M' c = M c) := by
  refine (tNewGen (w := w) (R := R) (N := N) (held := held) s hs0 hs (Q := fun a n1 F1 M1 => n1 = n ∧ F1 = F + HS.spansOf ((s.size + 7) / 8 + 1 + 1) ∧ M1 = M ∧ M a = none) (Z := fun _ => False) ?_).mono ?_
  · have := sMake h 1 0 ((s.size + 7) / 8 + 1) (by unfold hdrOk; omega) hF
    rw [show (((s.size + 7) / 8 + 1 : Nat) : Int) = ((s.size : Int) + 7) / 8 + 1 by omega] at this
    refine this.mono ?_
    rintro e w' ⟨a, rfl, hno, h2⟩
    exact .inl ⟨a, M, n, _, rfl, ⟨rfl, rfl, rfl, hno⟩, h2⟩
  · rintro e w' (⟨a, M1, n1, F1, rfl, ⟨rfl, rfl, rfl, hno⟩, h2⟩ | ⟨_, hz⟩)
    · exact ⟨a, rfl, hno, h2⟩
    · exact hz.elim
end Go.Proofs.Ytnbiofcfphpikaa
