/-
  TextJoins.
-/
import Derived.Test.YtnbiofcfphpikaaTxW
namespace Go.Proofs.Ytnbiofcfphpikaa
open Go.RowKit

def jHeld (k x y z : Nat) : List Int := if k = 0 then [(x : Int), (y : Int)] else [(x : Int), (y : Int), (z : Int)]
structure JnP (M : Mp) (a b r : ByteArray) (x y z : Nat) : Prop where
  tx : TxW M x a
  ty : TxW M y b
  tz : TxW M z r
  dat : ∀ c B, M c = some B → B.k = 1
  dx : x ≠ 0 → x ≠ y ∧ x ≠ z
  dy : y ≠ 0 → y ≠ z
def Jn (w wr : World) (sp : Nat) (a b : ByteArray) (x y z k : Nat) : Prop := ∃ M, SpA w wr R0 sp 256 M (jHeld k x y z) 0 (3 + 6 * k) ∧ JnP M a b (rep a b k) x y z ∧ (k = 0 → z = 0)
def ne1 (s : ByteArray) : Nat := if s.size = 0 then 0 else 1
def jL (a b r : ByteArray) (x y z : Nat) : List Nat := (if a.size = 0 then [] else [x]) ++ (if b.size = 0 then [] else [y]) ++ (if r.size = 0 then [] else [z])
theorem jL_length (a b r : ByteArray) (x y z : Nat) : (jL a b r x y z).length = ne1 a + ne1 b + ne1 r := by
  unfold jL ne1
  split <;> split <;> split <;> rfl
theorem JnP.facts {M : Mp} {a b r : ByteArray} {x y z k : Nat} (h : JnP M a b r x y z) (h0 : M 0 = none) (hk : k = 0 → z = 0 ∧ r.size = 0) :
    (jL a b r x y z).Nodup ∧ (∀ c, c ∈ jL a b r x y z ↔ mlive M (jHeld k x y z) c ≠ none) ∧ TxW (mlive M (jHeld k x y z)) x a ∧ TxW (mlive M (jHeld k x y z)) y b ∧ TxW (mlive M (jHeld k x y z)) z r := by
  have zx := h.tx.zero h0
  have zy := h.ty.zero h0
  have zz := h.tz.zero h0
  have hdx := h.dx
  have hdy := h.dy
  have hheld : ∀ c : Nat, (c : Int) ∈ jHeld k x y z ↔ c = x ∨ c = y ∨ (k ≠ 0 ∧ c = z) := by
    intro c
    unfold jHeld
    by_cases e : k = 0
    · rw [if_pos e]; simp; omega
    · rw [if_neg e]; simp; omega
  have hlive : ∀ c, mlive M (jHeld k x y z) c ≠ none ↔ (c = x ∨ c = y ∨ (k ≠ 0 ∧ c = z)) ∧ M c ≠ none := by
    intro c
    rw [mlive_ne, mlive_data h.dat, hheld]
  have keep : ∀ {u : Nat} {s : ByteArray}, TxW M u s → (0 < s.size → u = x ∨ u = y ∨ (k ≠ 0 ∧ u = z)) → TxW (mlive M (jHeld k x y z)) u s := by
    intro u s hu hin
    rcases hu with hu | ⟨b, hb, hT⟩
    · exact .inl hu
    · have hl : MLive M (jHeld k x y z) u := (mlive_data h.dat u).2 ⟨(hheld u).2 (hin hT.pos), by rw [hb]; simp⟩
      exact .inr ⟨b, (mlive_yes hl).trans hb, hT⟩
  refine ⟨?_, fun c => ?_, keep h.tx (fun _ => .inl rfl), keep h.ty (fun _ => .inr (.inl rfl)), keep h.tz (fun hp => .inr (.inr ⟨fun e => by have := (hk e).2; omega, rfl⟩))⟩
  · unfold jL
    by_cases ea : a.size = 0 <;> by_cases eb : b.size = 0 <;> by_cases er : r.size = 0 <;> simp [ea, eb, er] <;> omega
  · rw [hlive]
    have hm : c ∈ jL a b r x y z ↔ (a.size ≠ 0 ∧ c = x) ∨ (b.size ≠ 0 ∧ c = y) ∨ (r.size ≠ 0 ∧ c = z) := by
      unfold jL
      by_cases ea : a.size = 0 <;> by_cases eb : b.size = 0 <;> by_cases er : r.size = 0 <;> simp [ea, eb, er]
    rw [hm]
    constructor
    · rintro (⟨h1, rfl⟩ | ⟨h1, rfl⟩ | ⟨h1, rfl⟩)
      · exact ⟨.inl rfl, (zx.2 (by omega)).1⟩
      · exact ⟨.inr (.inl rfl), (zy.2 (by omega)).1⟩
      · exact ⟨.inr (.inr ⟨fun e => by have := (hk e).2; omega, rfl⟩), (zz.2 (by omega)).1⟩
    · rintro ⟨hc, hn⟩
      have hc0 : c ≠ 0 := fun e => hn (e ▸ h0)
      rcases hc with rfl | rfl | ⟨_, rfl⟩
      · exact .inl ⟨fun e => hc0 (zx.1 e), rfl⟩
      · exact .inr (.inl ⟨fun e => hc0 (zy.1 e), rfl⟩)
      · exact .inr (.inr ⟨fun e => hc0 (zz.1 e), rfl⟩)

set_option maxRecDepth 100000 in
set_option maxHeartbeats 4000000 in
theorem textJoins_calls (w : World) (a b : ByteArray) (m : Nat) (hab : a.size + b.size ≤ 300) (hm : m ≤ 8) :
    Calls Try.prog 14 #[.string a, .string b, .int .i64 m] w fun e w' => e = .returned (.bool true) ∧ Keeps (fun _ => False) w w' := by
  have HAN := Lib.hid (anchor13_calls w)
  have HNW := Lib.hid (fun w => sNew w 16384 (by omega) (by omega))
  have d1 : decide ((300 : Int) < (a.size : Int) + (b.size : Int)) = false := decide_eq_false (by omega)
  have d2 : decide ((m : Int) < 0) = false := decide_eq_false (by omega)
  have d3 : decide ((8 : Int) < (m : Int)) = false := decide_eq_false (by omega)
  have ha3 : a.size ≤ 300 := by omega
  have hb3 : b.size ≤ 300 := by omega
  go_enter Try.func14, Try.ntmps14
  go_wp2_with fail
  refine HAN.out.mono ?_
  rintro e w0 ⟨rfl, hk0⟩
  have HK0 := Lib.hid hk0
  clear hk0
  go_wp2_with fail
  refine (HNW.out w0).mono ?_
  rintro e w1 ⟨sp, rfl, h1⟩
  have H1 := Lib.hid (tNewW h1.out a (by omega) 1 (by rw [spansOf_one (by omega)]; omega) (by omega))
  clear h1 HNW HAN
  go_wp2_with fail
  refine H1.out.mono ?_
  rintro e w2 ⟨x, rfl, hx1, -, h2⟩
  obtain ⟨M1, hS1, -, hT1, -, hd1, -⟩ := h2.out
  have H2 := Lib.hid (sHold hS1 (x : Int) (wf_addr hx1) (by simp))
  have HT1 := Lib.hid hT1
  have HD1 : Hid (∀ c B, M1 c = some B → B.k = 1) := fun c B hB => by
    rcases hd1 c B hB with h | h
    · cases h
    · exact h.2.2
  clear h2 hS1 hT1 hd1 H1 hx1
  go_wp2_with fail
  refine H2.out.mono ?_
  rintro e w3 ⟨rfl, h3⟩
  have H3 := Lib.hid (tNewW h3.out.1 b (by omega) 1 (by rw [spansOf_one (by omega)]; omega) (by omega))
  have HZ : Hid (M1 0 = none) := h3.out.1.no0
  clear h3 H2
  go_wp2_with fail
  refine H3.out.mono ?_
  rintro e w4 ⟨y, rfl, hy1, -, h4⟩
  obtain ⟨M2, hS2, -, hT2, ho2, hd2, hy2⟩ := h4.out
  have H4 := Lib.hid (sHold hS2 (y : Int) (wf_addr hy1) (by simp))
  have HP : Hid (JnP M2 a b (rep a b 0) x y 0) := by
    refine ⟨HT1.out.other ho2, hT2, .inl ⟨rfl, rfl⟩, fun c B hB => ?_, fun hx0 => ⟨?_, hx0⟩, fun h => h⟩
    · rcases hd2 c B hB with h | h
      · exact HD1.out c B h
      · exact h.2.2
    · rintro rfl
      rcases HT1.out with ⟨_, h⟩ | ⟨b', hb', _⟩
      · exact hx0 h
      · rw [hb'] at hy2; cases hy2
  clear h4 hS2 hT2 ho2 hd2 hy2 hy1 H3 HT1 HD1 HZ
  go_wp2_with fail
  refine H4.out.mono ?_
  rintro e w5 ⟨rfl, h5⟩
  have HST : Hid (Jn w0 w5 sp a b x y 0 0) := ⟨M2, h5.out.1, HP.out, fun _ => rfl⟩
  clear h5 HP H4
  go_wp2
  obtain ⟨wo, rfl⟩ : ∃ wo : World, wo = w5 := ⟨_, rfl⟩
  go_loopw [12, 13, 14] (fun s z i wr => ∃ k : Nat, k ≤ m ∧ i = .int .i64 k ∧ s = .string (rep a b k) ∧ ∃ zz : Nat, z = .int .i64 zz ∧ Hid (Jn w0 wr sp a b x y zz k)) (fun _ _ i _ => m - (intOf i).toNat)
  case atStart => exact ⟨0, Nat.zero_le _, rfl, rfl, 0, rfl, HST.out⟩
  case round =>
    clear HST
    obtain ⟨k, hk, rfl, rfl, zz, rfl, hD⟩ := hrel
    by_cases hlt : k < m
    · have dl : decide (k < m) = true := decide_eq_true hlt
      obtain ⟨M, hS, hP, hk0⟩ := hD.out
      have HB1 := Lib.hid (tBytesW hS hP.tz none 0 0)
      have HB2 := Lib.hid (fun wx (hk : Keeps (fun _ => False) wr wx) => tBytesW (hS.other0 hk) hP.tx none 0 0)
      have HB3 := Lib.hid (fun wx (hk : Keeps (fun _ => False) wr wx) => tBytesW (hS.other0 hk) hP.ty none 0 0)
      have hsz : (rep a b (k + 1)).size ≤ 2400 := by
        rw [rep_size]
        have : (k + 1) * (a.size + b.size) ≤ 8 * 300 := Nat.mul_le_mul (by omega) hab
        omega
      have hN := fun wx (hk : Keeps (fun _ => False) wr wx) => tNewW (hS.other0 hk) (rep a b (k + 1)) (by omega) 6 (by unfold HS.spansOf; split <;> omega) (by omega)
      rw [← rep_assoc] at hN
      have HN := Lib.hid hN
      have HP := Lib.hid hP
      clear hS hP hD hN hsz hk0
      have hr24 : (rep a b k).size ≤ 2400 := by
        rw [rep_size]
        have : k * (a.size + b.size) ≤ 8 * 300 := Nat.mul_le_mul (by omega) hab
        omega
      have HREP : Hid (rep a b k ++ (a ++ b) = rep a b (k + 1)) := rfl
      have HASS : Hid (rep a b k ++ a ++ b = rep a b (k + 1)) := rep_assoc a b k
      have hk1 : (k : Int) ≤ 1 ∨ (1 : Int) < (k : Int) := by omega
      have HR := Lib.hid (rfl : rep a b k = rep a b k)
      generalize hr : rep a b k = r at *
      have HRR := Lib.hid hr
      clear hr HR
      go_wp2_with fail
      refine HB1.out.mono ?_
      rintro e w6 ⟨rfl, hk6⟩
      have HK6 := Lib.hid hk6
      clear hk6
      go_wp2_with fail
      refine (HB2.out _ HK6.out).mono ?_
      rintro e w7 ⟨rfl, hk7⟩
      have HK7 := Lib.hid (HK6.out.trans hk7 (fun _ _ h => h))
      clear hk7 HK6
      go_wp2_with fail
      refine (HB3.out _ HK7.out).mono ?_
      rintro e w8 ⟨rfl, hk8⟩
      have HK8 := Lib.hid (HK7.out.trans hk8 (fun _ _ h => h))
      clear hk8 HK7
      go_wp2_with fail
      refine (HN.out _ HK8.out).mono ?_
      rintro e w9 ⟨v, rfl, hv1, hv2, h9⟩
      have HWF := Lib.hid (wf_addr hv1)
      have HX : Hid (∃ M', SpA w0 w9 R0 sp 256 M' (jHeld k x y zz) 0 (3 + 6 * k + 6) ∧ JnP M' a b (rep a b (k + 1)) x y v) := by
        obtain ⟨M', hS', -, hT', ho', hd', hv'⟩ := h9.out
        rw [HASS.out] at hT'
        refine ⟨M', hS', HP.out.tx.other ho', HP.out.ty.other ho', hT', fun c B hB => ?_, fun h => ⟨(HP.out.dx h).1, ?_⟩, fun h => ?_⟩
        · rcases hd' c B hB with h | h
          · exact HP.out.dat c B h
          · exact h.2.2
        · rintro rfl
          rcases HP.out.tx with ⟨_, h2⟩ | ⟨b', hb', _⟩
          · exact h h2
          · rw [hb'] at hv'; cases hv'
        · rintro rfl
          rcases HP.out.ty with ⟨_, h2⟩ | ⟨b', hb', _⟩
          · exact h h2
          · rw [hb'] at hv'; cases hv'
      clear h9 hv1 hv2 HN HB1 HB2 HB3 HK8 HP
      have H2 : Hid (Calls Try.prog 24 #[.pointer (some ⟨sp, 0, none⟩), .int .i64 (if 1 < (k : Int) then 1 else (k : Int))] w9 fun e w' => e = .returned (.tuple #[]) ∧ Hid (∃ M', SpA w0 w' R0 sp 256 M' [(x : Int), (y : Int)] 0 (3 + 6 * k + 6) ∧ JnP M' a b (rep a b (k + 1)) x y v)) := by
        obtain ⟨M', hS', hP'⟩ := HX.out
        have hd := sDrop hS' (if 1 < (k : Int) then 1 else (k : Int)) (if k = 0 then 0 else 1) (by
          unfold jHeld
          by_cases h0 : k = 0
          · subst h0; simp; try omega
          · rw [if_neg h0, if_neg h0]
            by_cases h1 : 1 < (k : Int)
            · rw [if_pos h1]; simp only [List.length_cons, List.length_nil]; omega
            · rw [if_neg h1]; simp only [List.length_cons, List.length_nil]; omega) (by unfold jHeld; split <;> simp)
        refine hd.mono ?_
        rintro e w' ⟨rfl, h2⟩
        refine ⟨rfl, M', ?_, hP'⟩
        have := h2.out.1
        unfold jHeld at this
        by_cases h0 : k = 0
        · simpa [h0] using this
        · simpa [h0] using this
      clear HX
      rcases hk1 with hk1 | hk1
      all_goals
        first | rw [if_pos hk1] at H2 | rw [if_neg (by omega)] at H2
        go_wp2_with fail
        refine H2.out.mono ?_
        rintro e w10 ⟨rfl, h10⟩
        have H3 : Hid (Calls Try.prog 23 #[.pointer (some ⟨sp, 0, none⟩), .int .i64 v] w10 fun e w' => e = .returned (.tuple #[]) ∧ Hid (Jn w0 w' sp a b x y v (k + 1))) := by
          obtain ⟨M', hS', hP'⟩ := h10.out
          refine (sHold hS' (v : Int) HWF.out (by simp)).mono ?_
          rintro e w' ⟨rfl, h2⟩
          refine ⟨rfl, M', ?_, hP', fun h => by omega⟩
          have := h2.out.1.front (G := 3 + 6 * (k + 1)) (by omega)
          unfold jHeld
          rw [if_neg (by omega)]
          exact this
        clear h10 H2
        go_wp2_with fail
        refine H3.out.mono ?_
        rintro e w11 ⟨rfl, hJ⟩
        clear H3
        go_wp2
        go_roundw
        case rel => exact ⟨k + 1, by omega, by go_num, congrArg Value.string HREP.out, v, rfl, hJ⟩
        case measure => simp [intOf]; omega
    · obtain rfl : k = m := by omega
      have dl : decide (k < k) = false := by simp
      obtain ⟨M, hS, hP, hk0⟩ := hD.out
      have hfacts := hP.facts (k := k) hS.no0 (fun e => ⟨hk0 e, by rw [e]; rfl⟩)
      have HC := Lib.hid (sCollect hS (by unfold jHeld; split <;> simp) (by omega))
      have hlen := jL_length a b (rep a b k) x y zz
      have HF := Lib.hid hfacts
      have HLEN := Lib.hid hlen
      clear hS hP hk0 hD hfacts hlen
      generalize hr : rep a b k = r at *
      clear hr
      go_wp2_with fail
      refine HC.out.mono ?_
      rintro e w6 ⟨cc, rfl, h6⟩
      have HT := sTold h6.out.1 HF.out.1 HF.out.2.1
      rw [HLEN.out] at HT
      have HT' := Lib.hid HT
      clear HT h6 HC
      go_wp2_with fail
      refine HT'.out.mono ?_
      rintro e w7 ⟨ff, rfl, -, h7⟩
      have hS7 := h7.out.1.alloc (.cells #[.string a, .string b, .string r] 9)
      have HB1 := Lib.hid (tBytesW hS7 HF.out.2.2.2.2 none 0 0)
      have HB2 := Lib.hid (fun wx (hk : Keeps (fun _ => False) _ wx) => tBytesW (hS7.other0 hk) HF.out.2.2.1 none 0 0)
      have HB3 := Lib.hid (fun wx (hk : Keeps (fun _ => False) _ wx) => tBytesW (hS7.other0 hk) HF.out.2.2.2.1 none 0 0)
      have HK7 := Lib.hid (HK0.out.trans hS7.keeps (fun _ _ h => h))
      have hcells : ∀ j : Nat, j < 3 → (w7.alloc (.cells #[.string a, .string b, .string r] 9)).cell? ⟨w7.heap.size, j, none⟩ = some (.string (if j = 0 then a else if j = 1 then b else r)) := by
        intro j hj
        have := World.cell?_alloc_new w7 #[.string a, .string b, .string r] 9 j
        rw [this]
        rcases (by omega : j = 0 ∨ j = 1 ∨ j = 2) with rfl | rfl | rfl <;> rfl
      have HCELL := Lib.hid hcells
      clear h7 hS7 hcells HT' HF HLEN
      generalize hcntT : ne1 a + ne1 b + ne1 r = tot at *
      have HTOT := Lib.hid hcntT
      clear hcntT
      go_wp2
      generalize hW : w7.alloc (.cells #[.string a, .string b, .string r] 9) = W at *
      clear hW
      go_loopw [20, 109] (fun c i wr => ∃ j : Nat, j ≤ 3 ∧ i = .int .i64 j ∧ c = .int .i64 ((if j = 0 then 0 else if j = 1 then ne1 a else if j = 2 then ne1 a + ne1 b else tot : Nat) : Int) ∧ wr = W) (fun _ i _ => 3 - (intOf i).toNat)
      case atStart => exact ⟨0, by omega, rfl, rfl, rfl⟩
      case round =>
        obtain ⟨j, hj, rfl, rfl, rfl⟩ := hrel
        have hcnt : ∀ s, ne1 s ≤ 1 := fun s => by unfold ne1; split <;> omega
        have ha1 := hcnt a
        have hb1 := hcnt b
        have hr1 := hcnt r
        clear hcnt
        by_cases hlt2 : j < 3
        · have dj : decide ((j : Int) < 3) = true := decide_eq_true (by omega)
          have hcell := HCELL.out j hlt2
          have HNX : Hid ((if j + 1 = 0 then 0 else if j + 1 = 1 then ne1 a else if j + 1 = 2 then ne1 a + ne1 b else tot : Nat) = (if j = 0 then 0 else if j = 1 then ne1 a else if j = 2 then ne1 a + ne1 b else tot) + ne1 (if j = 0 then a else if j = 1 then b else r)) := by
            show _ = _
            rw [← HTOT.out]
            rcases (by omega : j = 0 ∨ j = 1 ∨ j = 2) with rfl | rfl | rfl
            · simp
            · simp
            · simp
          have hle : (if j = 0 then 0 else if j = 1 then ne1 a else if j = 2 then ne1 a + ne1 b else tot : Nat) ≤ 3 := by
            have := HTOT.out
            split
            · omega
            · split
              · omega
              · split <;> omega
          generalize (if j = 0 then a else if j = 1 then b else r) = s at *
          generalize (if j = 0 then 0 else if j = 1 then ne1 a else if j = 2 then ne1 a + ne1 b else tot : Nat) = cn at *
          by_cases hs : s.size = 0
          · obtain rfl := empty_of_size hs
            have e1 := empty_toList
            have e2 : ByteArray.empty.toList.isEmpty = true := by rw [e1]; rfl
            have HE : Hid (cn = (if j + 1 = 0 then 0 else if j + 1 = 1 then ne1 a else if j + 1 = 2 then ne1 a + ne1 b else tot : Nat)) := by show _ = _; rw [HNX.out]; rfl
            clear hs
            go_wp2
            go_roundw
            case rel => exact ⟨j + 1, by omega, by go_num, by rw [← HE.out], trivial⟩
            case measure => simp [intOf]; omega
          · have e1 := toList_ne (s := s) (by omega)
            have e2 := toList_ne' (s := s) (by omega)
            have HE : Hid (((cn : Int) + 1) = (((if j + 1 = 0 then 0 else if j + 1 = 1 then ne1 a else if j + 1 = 2 then ne1 a + ne1 b else tot : Nat) : Nat) : Int)) := by
              show _ = _
              rw [HNX.out]
              have : ne1 s = 1 := by unfold ne1; rw [if_neg hs]
              omega
            clear hs
            go_wp2
            go_roundw
            case rel => exact ⟨j + 1, by omega, by go_num, by rw [← HE.out], trivial⟩
            case measure => simp [intOf]; omega
        · obtain rfl : j = 3 := by omega
          have hfin : (if 3 = 0 then 0 else if 3 = 1 then ne1 a else if 3 = 2 then ne1 a + ne1 b else tot : Nat) = tot := rfl
          rw [hfin]
          clear hfin ha1 hb1 hr1
          have dj : decide ((3 : Int) < 3) = false := by decide
          go_wp2_with fail
          refine HB1.out.mono ?_
          rintro e w8 ⟨rfl, hk8⟩
          have HK8 := Lib.hid hk8
          clear hk8
          go_wp2_with fail
          refine (HB2.out _ HK8.out).mono ?_
          rintro e w9 ⟨rfl, hk9⟩
          have HK9 := Lib.hid (HK8.out.trans hk9 (fun _ _ h => h))
          clear hk9
          go_wp2_with fail
          refine (HB3.out _ HK9.out).mono ?_
          rintro e w10 ⟨rfl, hk10⟩
          have HKE := Lib.hid ((HK7.out.trans HK9.out (fun _ _ h => h)).trans hk10 (fun _ _ h => h))
          clear hk10
          go_wp2
          go_ret
          exact ⟨rfl, HKE.out⟩

set_option maxRecDepth 100000 in
set_option maxHeartbeats 4000000 in
theorem textJoins_law (a b : ByteArray) (n : Int) (w : World) (wa : a.size ≤ 140737488351232) (wb : b.size ≤ 140737488351232) :
    Calls Try.prog 14 #[.string a, .string b, .int .i64 n] w fun e w' => e = .returned (.bool true) ∧ Below w.heap.size w w' := by
  have HAN := Lib.hid (anchor13_calls w)
  by_cases h1 : (300 : Int) < (a.size : Int) + (b.size : Int)
  · have d1 : decide ((300 : Int) < (a.size : Int) + (b.size : Int)) = true := decide_eq_true h1
    go_enter Try.func14, Try.ntmps14
    go_wp2_with fail
    refine HAN.out.mono ?_
    rintro e w0 ⟨rfl, hk0⟩
    have HK0 := Lib.hid hk0
    clear hk0
    go_wp2
    go_ret
    exact ⟨rfl, HK0.out.below (fun _ _ h => h)⟩
  have d1 : decide ((300 : Int) < (a.size : Int) + (b.size : Int)) = false := decide_eq_false h1
  by_cases h2 : n < 0
  · have d2 : decide (n < 0) = true := decide_eq_true h2
    go_enter Try.func14, Try.ntmps14
    go_wp2_with fail
    refine HAN.out.mono ?_
    rintro e w0 ⟨rfl, hk0⟩
    have HK0 := Lib.hid hk0
    clear hk0
    go_wp2
    go_ret
    exact ⟨rfl, HK0.out.below (fun _ _ h => h)⟩
  have d2 : decide (n < 0) = false := decide_eq_false h2
  by_cases h3 : (8 : Int) < n
  · have d3 : decide ((8 : Int) < n) = true := decide_eq_true h3
    go_enter Try.func14, Try.ntmps14
    go_wp2_with fail
    refine HAN.out.mono ?_
    rintro e w0 ⟨rfl, hk0⟩
    have HK0 := Lib.hid hk0
    clear hk0
    go_wp2
    go_ret
    exact ⟨rfl, HK0.out.below (fun _ _ h => h)⟩
  have d3 : decide ((8 : Int) < n) = false := decide_eq_false h3
  obtain ⟨N, rfl⟩ := Int.eq_ofNat_of_zero_le (by omega : 0 ≤ n)
  exact (textJoins_calls w a b N (by omega) (by omega)).mono fun e w' ⟨he, hk⟩ => ⟨he, hk.below (fun _ _ h => h)⟩
end Go.Proofs.Ytnbiofcfphpikaa
