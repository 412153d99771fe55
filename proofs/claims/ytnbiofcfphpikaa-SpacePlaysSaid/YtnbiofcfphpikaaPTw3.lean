/-
  The walks of a step: a block is made, a collection, a block is held, a word is set.
-/
import Derived.Test.YtnbiofcfphpikaaPTw2
namespace Go.Proofs.Ytnbiofcfphpikaa
open Go.RowKit

section
variable {w0 w : World} {D : BD} {M : Mp}
theorem Bo.smake_yes (h : Bo w0 w D) {k m : Int} {s a : Nat} {H1 : HS} (hk : hdrOk k s m) (ha : D.H.alloc ((s : Int) + 1) = some (a, H1)) :
    Calls Try.prog 22 #[.pointer (some ⟨D.sp, 0, none⟩), .int .i64 k, .int .i64 s, .int .i64 m] w fun e w' => e = .returned (.tuple #[.int .i64 a, .bool true]) ∧ Keeps (SpF D.B D.sp D.hv) w w' ∧ Hid (Bo w0 w' { D with H := H1.headed a k s m }) := by
  refine (Go.Proofs.Ytnbiofcfphpikaa.make_yes h.space k s m hk ha).mono ?_
  rintro e w' ⟨rfl, hS⟩
  exact ⟨rfl, hS.out.2, h.spaceOp hS.out.1 hS.out.2 (fun _ h => .inl h)⟩
theorem Bo.smake_gc (h : Bo w0 w D) {k m : Int} {s : Nat} (hk : hdrOk k s m) (ha : D.H.alloc ((s : Int) + 1) = none) (hl : D.held.length ≤ 1000) (hn : D.n ≤ 1000) :
    Calls Try.prog 22 #[.pointer (some ⟨D.sp, 0, none⟩), .int .i64 k, .int .i64 s, .int .i64 m] w fun e w' => ∃ H1 c, Hid (D.H.Swept H1 D.held c) ∧
      ((H1.alloc ((s : Int) + 1) = none ∧ e = .returned (.tuple #[.int .i64 0, .bool false]) ∧ Keeps (SpF D.B D.sp D.hv) w w' ∧ Hid (Bo w0 w' { D with H := H1, n := D.n + 1 })) ∨
       ∃ (a : Nat) (H2 : HS), H1.alloc ((s : Int) + 1) = some (a, H2) ∧ e = .returned (.tuple #[.int .i64 a, .bool true]) ∧ Keeps (SpF D.B D.sp D.hv) w w' ∧ Hid (Bo w0 w' { D with H := H2.headed a k s m, n := D.n + 1 })) := by
  refine (Go.Proofs.Ytnbiofcfphpikaa.make_gc h.space k s m hk ha (by omega) (by omega)).mono ?_
  rintro e w' ⟨H1, c, hsw, hc⟩
  refine ⟨H1, c, hsw, ?_⟩
  rcases hc with ⟨hno, rfl, hS⟩ | ⟨a, H2, ha2, rfl, hS⟩
  · exact .inl ⟨hno, rfl, hS.out.2, h.spaceOp hS.out.1 hS.out.2 (fun _ h => .inl h)⟩
  · exact .inr ⟨a, H2, ha2, rfl, hS.out.2, h.spaceOp hS.out.1 hS.out.2 (fun _ h => .inl h)⟩
theorem Jn.alloc (hj : Jn D M) (h : Bo w0 w D) (x : Int) : (D.Hr.alloc x).map Prod.fst = (D.H.alloc x).map Prod.fst := HS.alloc_same h.wf h.rwf hj.n hj.rooms x
theorem alloc_some_of {H H' : HS} {x : Int} {a : Nat} {H1 : HS} (h : (H'.alloc x).map Prod.fst = (H.alloc x).map Prod.fst) (e : H.alloc x = some (a, H1)) : ∃ H2, H'.alloc x = some (a, H2) := by
  rw [e] at h
  cases e2 : H'.alloc x with
  | none => rw [e2] at h; cases h
  | some r =>
    rw [e2] at h
    obtain ⟨b, H2⟩ := r
    simp at h
    exact ⟨H2, by rw [h]⟩
theorem alloc_none_of {H H' : HS} {x : Int} (h : (H'.alloc x).map Prod.fst = (H.alloc x).map Prod.fst) (e : H.alloc x = none) : H'.alloc x = none := by
  rw [e] at h
  cases e2 : H'.alloc x with
  | none => rfl
  | some r => rw [e2] at h; cases h

set_option maxRecDepth 100000 in
set_option maxHeartbeats 8000000 in
theorem step12_1 (h : Bo w0 w D) (hj : Jn D M) {j : Nat} (hb : Bd D j) (hj1 : j ≤ 200) (kd sz ms n k v : Int) :
    Calls Try.prog 31 #[.pointer (some ⟨D.sp, 0, none⟩), .pointer (some ⟨D.tb, 0, none⟩), .agg #[.int .i64 1, .int .i64 kd, .int .i64 sz, .int .i64 ms, .int .i64 n, .int .i64 k, .int .i64 v]] w fun e w' => e = .returned (.bool true) ∧ Hid (StepOut w0 w' D j) := by
  have hB0 := h.alloc (.cells #[.int .i64 1, .int .i64 kd, .int .i64 sz, .int .i64 ms, .int .i64 n, .int .i64 k, .int .i64 v] 48)
  have hX := BoxAt.new w 1 kd sz ms n k v 48
  have HBX : Hid (∀ w', Keeps (SpF D.B D.sp D.hv) (w.alloc (.cells #[.int .i64 1, .int .i64 kd, .int .i64 sz, .int .i64 ms, .int .i64 n, .int .i64 k, .int .i64 v] 48)) w' → w'.cell? ⟨w.heap.size, 1, none⟩ = some (.int .i64 kd) ∧ w'.cell? ⟨w.heap.size, 2, none⟩ = some (.int .i64 sz) ∧ w'.cell? ⟨w.heap.size, 3, none⟩ = some (.int .i64 ms)) := fun w' hk => by
    have := h.boxed hX (Keeps.refl _ _) hk
    exact ⟨this 1 _ rfl, this 2 _ rfl, this 3 _ rfl⟩
  have HUP : Hid (∀ (D' : BD) (M' : Mp) w', Bo w0 w' D' → Jn D' M' → Bd D' (j + 1) → D'.sp = D.sp → D'.tb = D.tb → StepOut w0 w' D j) := fun D' M' w' h1 h2 h3 h4 h5 => ⟨D', M', h1, h2, h3, h4, h5⟩
  by_cases hk : hdrOk kd sz ms
  · obtain ⟨s, rfl⟩ := Int.eq_ofNat_of_zero_le (show 0 ≤ sz by unfold hdrOk at hk; omega)
    cases ea : D.H.alloc ((s : Int) + 1) with
    | some r =>
      obtain ⟨a, H1⟩ := r
      obtain ⟨Hr1, er⟩ := alloc_some_of (hj.alloc h _) ea
      have H1' := Lib.hid (hB0.smake_yes hk ea)
      have HTW : Hid (∀ w', Bo w0 w' { D with H := H1.headed a kd s ms } → Calls Try.prog 63 #[.pointer (some ⟨D.tb, 0, none⟩), .int .i64 kd, .int .i64 s, .int .i64 ms] w' fun e w' => e = .returned (.tuple #[.int .i64 a, .bool true]) ∧ Hid (StepOut w0 w' D j)) := fun w' hB => by
        have hL := hb.L
        have hA := hb.all
        refine (Bo.make_yes hB (by show D.L.length ≤ 1000; omega) (by show D.all.length ≤ 1000; omega) hk er).mono ?_
        rintro e w3 ⟨rfl, rlv, rL, lv, av, g, h3⟩
        have hadd := (h.wf.alloc_adds ea).2.2
        have hadr := (h.rwf.alloc_adds er).2.2
        rw [show ((s : Int) + 1).toNat = s + 1 by omega] at hadd hadr
        have hm := hj.ob.make hk hadd
        have hin := hadd.wf.inside (a := a) (by rw [hadd.is]; exact hadd.pos)
        have hnb := hadd.wf.nb
        refine ⟨rfl, _, setf M a (some ⟨kd, s, ms, fun _ => 0⟩), h3.out, ⟨hm.2, hj.tr.make hk hadr, hadr.n.trans (hj.n.trans hadd.n.symm), by show H1.n ≤ 16; rw [hadd.n]; exact hj.n16, hj.held, hj.cnt⟩, ⟨by show (D.L ++ [_]).length ≤ _; rw [List.length_append, List.length_singleton]; omega, by show (D.all ++ [_]).length ≤ _; rw [List.length_append, List.length_singleton]; omega, Nat.le_trans hb.held (by omega), Nat.le_trans hb.n (by omega), fun x hx => ?_⟩, rfl, rfl⟩
        rcases List.mem_append.1 hx with hx | hx
        · exact hb.alls x hx
        · rw [List.mem_singleton] at hx; omega
      have b1 : ((a : Int) == (a : Int)) = true := by simp
      clear h hj hb hB0 hX ea er hk
      go_enter Try.func31, Try.ntmps31
      go_wp2_with fail
      refine H1'.out.mono ?_
      rintro e w2 ⟨rfl, hk2, h2⟩
      obtain ⟨p1, p2, p3⟩ := HBX.out w2 hk2
      have HT2 := Lib.hid (HTW.out w2 h2.out)
      clear hk2 h2 H1' HTW HBX
      go_wp2_with fail
      refine HT2.out.mono ?_
      rintro e w3 ⟨rfl, h3⟩
      go_wp2
      go_ret
      exact ⟨rfl, h3⟩
    | none =>
      have er := alloc_none_of (hj.alloc h _) ea
      have H1' := Lib.hid (hB0.smake_gc hk ea (by have := hb.held; omega) (by have := hb.n; omega))
      have hn16 : D.Hr.n ≤ 16 := by rw [hj.n]; exact hj.n16
      have hth : D.thd.length ≤ 1000 := by rw [hj.held]; have := hb.held; omega
      have htn : D.tn ≤ 100000 := by rw [hj.cnt]; have := hb.n; omega
      have hL := hb.L
      have hA := hb.all
      -- what both leave
      have HNO : Hid (∀ H1 c w', D.H.Swept H1 D.held c → H1.alloc ((s : Int) + 1) = none → Bo w0 w' { D with H := H1, n := D.n + 1 } → Calls Try.prog 63 #[.pointer (some ⟨D.tb, 0, none⟩), .int .i64 kd, .int .i64 s, .int .i64 ms] w' fun e w' => e = .returned (.tuple #[.int .i64 0, .bool false]) ∧ Hid (StepOut w0 w' D j)) := fun H1 c w' hsw hno hB => by
        refine (Bo.make_gc hB hj.tr (by show D.L.length ≤ 1000; omega) (by show D.all.length ≤ 1000; omega) hth hn16 htn hk er).mono ?_
        rintro e w3 ⟨gone, rlv, rL, Hr, lv, L', hp, hc⟩
        obtain ⟨hp1, hp2, hp3, hp4⟩ := hp.out
        have hob := hj.ob.swept hsw
        have hthd : (mlive M ({ D with H := H1, n := D.n + 1 } : BD).thd) = mlive M D.held := by show mlive M D.thd = _; rw [hj.held]
        rw [hthd] at hp2
        have hrm : ∀ a, Hr.room a = H1.room a := fun a => by
          cases hb' : mlive M D.held a with
          | none => rw [hp2.no a hb', hob.no a hb']
          | some b => rw [hp2.room a b hb', hob.room a b hb']
        have hnn : Hr.n = H1.n := hp3.trans (hj.n.trans hsw.n.symm)
        have hp1' : gone + L'.length = D.L.length := hp1
        rcases hc with ⟨hno2, rfl, h3⟩ | ⟨a, Hr1, hs2, rfl, rlv', rL', lv', av, g, h3⟩
        · exact ⟨rfl, _, mlive M D.held, h3.out, ⟨hob, hp2, hnn, by show H1.n ≤ 16; rw [hsw.n]; exact hj.n16, hj.held, by show D.tn + 1 = D.n + 1; rw [hj.cnt]⟩, ⟨by show L'.length ≤ _; omega, Nat.le_trans hA (by omega), Nat.le_trans hb.held (by omega), by show D.n + 1 ≤ _; have := hb.n; omega, hb.alls⟩, rfl, rfl⟩
        · exfalso
          have := alloc_none_of (HS.alloc_same hsw.wf hp4 hnn hrm _) hno
          rw [this] at hs2; cases hs2
      have HYE : Hid (∀ H1 c w' (a : Nat) H2, D.H.Swept H1 D.held c → H1.alloc ((s : Int) + 1) = some (a, H2) → Bo w0 w' { D with H := H2.headed a kd s ms, n := D.n + 1 } → Calls Try.prog 63 #[.pointer (some ⟨D.tb, 0, none⟩), .int .i64 kd, .int .i64 s, .int .i64 ms] w' fun e w' => e = .returned (.tuple #[.int .i64 a, .bool true]) ∧ Hid (StepOut w0 w' D j)) := fun H1 c w' a H2 hsw hye hB => by
        refine (Bo.make_gc hB hj.tr (by show D.L.length ≤ 1000; omega) (by show D.all.length ≤ 1000; omega) hth hn16 htn hk er).mono ?_
        rintro e w3 ⟨gone, rlv, rL, Hr, lv, L', hp, hc⟩
        obtain ⟨hp1, hp2, hp3, hp4⟩ := hp.out
        have hob := hj.ob.swept hsw
        have hthd : (mlive M ({ D with H := H2.headed a kd s ms, n := D.n + 1 } : BD).thd) = mlive M D.held := by show mlive M D.thd = _; rw [hj.held]
        rw [hthd] at hp2
        have hrm : ∀ a, Hr.room a = H1.room a := fun a => by
          cases hb' : mlive M D.held a with
          | none => rw [hp2.no a hb', hob.no a hb']
          | some b => rw [hp2.room a b hb', hob.room a b hb']
        have hnn : Hr.n = H1.n := hp3.trans (hj.n.trans hsw.n.symm)
        have hp1' : gone + L'.length = D.L.length := hp1
        obtain ⟨Hr2, er2⟩ := alloc_some_of (HS.alloc_same hsw.wf hp4 hnn hrm _) hye
        rcases hc with ⟨hno2, rfl, h3⟩ | ⟨a', Hr1, hs2, rfl, rlv', rL', lv', av, g, h3⟩
        · rw [er2] at hno2; cases hno2
        · rw [er2] at hs2
          cases hs2
          have hadd := (hsw.wf.alloc_adds hye).2.2
          have hadr := (hp4.alloc_adds er2).2.2
          rw [show ((s : Int) + 1).toNat = s + 1 by omega] at hadd hadr
          have hm := hob.make hk hadd
          have hin := hadd.wf.inside (a := a) (by rw [hadd.is]; exact hadd.pos)
          have hnb := hadd.wf.nb
          refine ⟨rfl, _, setf (mlive M D.held) a (some ⟨kd, s, ms, fun _ => 0⟩), h3.out, ⟨hm.2, hp2.make hk hadr, hadr.n.trans (hnn.trans hadd.n.symm), by show H2.n ≤ 16; rw [hadd.n, hsw.n]; exact hj.n16, hj.held, by show D.tn + 1 = D.n + 1; rw [hj.cnt]⟩, ⟨by show (L' ++ [_]).length ≤ _; rw [List.length_append, List.length_singleton]; omega, by show (D.all ++ [_]).length ≤ _; rw [List.length_append, List.length_singleton]; omega, Nat.le_trans hb.held (by omega), by show D.n + 1 ≤ _; have := hb.n; omega, fun x hx => ?_⟩, rfl, rfl⟩
          rcases List.mem_append.1 hx with hx | hx
          · exact hb.alls x hx
          · rw [List.mem_singleton] at hx; omega
      clear h hj hb hB0 hX ea er hk hn16 hth htn hL hA
      go_enter Try.func31, Try.ntmps31
      go_wp2_with fail
      refine H1'.out.mono ?_
      rintro e w2 ⟨H1, c, hsw, hc⟩
      rcases hc with ⟨hno, rfl, hk2, h2⟩ | ⟨a, H2, hye, rfl, hk2, h2⟩
      · obtain ⟨p1, p2, p3⟩ := HBX.out w2 hk2
        have HT2 := Lib.hid (HNO.out H1 c w2 hsw.out hno h2.out)
        clear hk2 h2 H1' HNO HYE HBX hno hsw
        go_wp2_with fail
        refine HT2.out.mono ?_
        rintro e w3 ⟨rfl, h3⟩
        go_wp2
        go_ret
        exact ⟨rfl, h3⟩
      · obtain ⟨p1, p2, p3⟩ := HBX.out w2 hk2
        have HT2 := Lib.hid (HYE.out H1 c w2 a H2 hsw.out hye h2.out)
        have b1 : ((a : Int) == (a : Int)) = true := by simp
        clear hk2 h2 H1' HNO HYE HBX hye hsw
        go_wp2_with fail
        refine HT2.out.mono ?_
        rintro e w3 ⟨rfl, h3⟩
        go_wp2
        go_ret
        exact ⟨rfl, h3⟩
  · have H1' := Lib.hid (make_bad hB0.space kd sz ms hk)
    have HT := Lib.hid (fun w' => Bo.make_bad (w := w') D.tb kd sz ms hk)
    have HF : Hid (StepOut w0 (w.alloc (.cells #[.int .i64 1, .int .i64 kd, .int .i64 sz, .int .i64 ms, .int .i64 n, .int .i64 k, .int .i64 v] 48)) D j) := ⟨D, M, hB0, hj, hb.up (by omega), rfl, rfl⟩
    clear h hj hb hB0 hX HBX hk HUP
    go_enter Try.func31, Try.ntmps31
    go_wp2_with fail
    refine H1'.out.mono ?_
    rintro e w2 ⟨rfl, rfl⟩
    go_wp2_with fail
    refine (HT.out _).mono ?_
    rintro e w3 ⟨rfl, rfl⟩
    go_wp2
    go_ret
    exact ⟨rfl, HF⟩
end
end Go.Proofs.Ytnbiofcfphpikaa

namespace Go.Proofs.Ytnbiofcfphpikaa
open Go.RowKit

section
variable {w0 w : World} {D : BD} {M : Mp}
set_option maxRecDepth 100000 in
set_option maxHeartbeats 8000000 in
theorem step12_5 (h : Bo w0 w D) (hj : Jn D M) {j : Nat} (hb : Bd D j) (hj1 : j ≤ 200) (kd sz ms n k v : Int) :
    Calls Try.prog 31 #[.pointer (some ⟨D.sp, 0, none⟩), .pointer (some ⟨D.tb, 0, none⟩), .agg #[.int .i64 5, .int .i64 kd, .int .i64 sz, .int .i64 ms, .int .i64 n, .int .i64 k, .int .i64 v]] w fun e w' => e = .returned (.bool true) ∧ Hid (StepOut w0 w' D j) := by
  have hB0 := h.alloc (.cells #[.int .i64 5, .int .i64 kd, .int .i64 sz, .int .i64 ms, .int .i64 n, .int .i64 k, .int .i64 v] 48)
  have H1 : Hid (Calls Try.prog 25 #[.pointer (some ⟨D.sp, 0, none⟩)] (w.alloc (.cells #[.int .i64 5, .int .i64 kd, .int .i64 sz, .int .i64 ms, .int .i64 n, .int .i64 k, .int .i64 v] 48)) fun e w' => ∃ c : Nat, e = .returned (.int .i64 c) ∧ ∃ H', Hid (Bo w0 w' { D with H := H', n := D.n + 1 } ∧ D.H.Swept H' D.held c)) := by
    refine (space_collect hB0.space (by have := hb.held; omega) (by have := hb.n; omega)).mono ?_
    rintro e w' ⟨c, rfl, H', hS⟩
    exact ⟨c, rfl, H', hB0.spaceOp hS.out.1 hS.out.2.2 (fun _ h => .inl h), hS.out.2.1⟩
  have H2 : Hid (∀ w' H' c, Bo w0 w' { D with H := H', n := D.n + 1 } → D.H.Swept H' D.held c → Calls Try.prog 66 #[.pointer (some ⟨D.tb, 0, none⟩)] w' fun e w' => e = .returned (.int .i64 c) ∧ Hid (StepOut w0 w' D j)) := fun w' H' c hB hsw => by
    refine (Bo.collect hB hj.tr (by show D.L.length ≤ 1000; have := hb.L; omega) (by show D.thd.length ≤ 1000; rw [hj.held]; have := hb.held; omega) (by show D.Hr.n ≤ 16; rw [hj.n]; exact hj.n16) (by show D.tn ≤ 100000; rw [hj.cnt]; have := hb.n; omega)).mono ?_
    rintro e w3 ⟨gone, rfl, rlv, rL, Hr, lv, L', hp⟩
    obtain ⟨hp1, hp2, hp3, hp4⟩ := hp.out
    have hob := hj.ob.swept hsw
    have hthd : (mlive M ({ D with H := H', n := D.n + 1 } : BD).thd) = mlive M D.held := by show mlive M D.thd = _; rw [hj.held]
    rw [hthd] at hp2
    have hp1' : gone + L'.length = D.L.length := hp1
    have hjn : Jn (outD { D with H := H', n := D.n + 1 } rlv rL Hr lv L') (mlive M D.held) := ⟨hob, hp2, hp3.trans (hj.n.trans hsw.n.symm), by show H'.n ≤ 16; rw [hsw.n]; exact hj.n16, hj.held, by show D.tn + 1 = D.n + 1; rw [hj.cnt]⟩
    have hb1 := hj.blocks
    have hb2 : H'.blocks.length = L'.length := hjn.blocks
    have hc := hsw.count
    have e1 : gone = c := by omega
    have hL := hb.L
    refine ⟨by rw [e1], _, mlive M D.held, hp4, hjn, ⟨by show L'.length ≤ _; omega, Nat.le_trans hb.all (by omega), Nat.le_trans hb.held (by omega), by show D.n + 1 ≤ _; have := hb.n; omega, hb.alls⟩, rfl, rfl⟩
  clear h hj hb hB0
  go_enter Try.func31, Try.ntmps31
  go_wp2_with fail
  refine H1.out.mono ?_
  rintro e w2 ⟨c, rfl, H', h2⟩
  have HT := Lib.hid (H2.out w2 H' c h2.out.1 h2.out.2)
  have b1 : ((c : Int) == (c : Int)) = true := by simp
  clear h2 H1 H2
  go_wp2_with fail
  refine HT.out.mono ?_
  rintro e w3 ⟨rfl, h3⟩
  go_wp2
  go_ret
  exact ⟨rfl, h3⟩
set_option maxRecDepth 100000 in
set_option maxHeartbeats 8000000 in
theorem step12_0 (h : Bo w0 w D) (hj : Jn D M) {j : Nat} (hb : Bd D j) (wh kd sz ms n k v : Int) (hw : wh ≠ 1 ∧ wh ≠ 2 ∧ wh ≠ 3 ∧ wh ≠ 4 ∧ wh ≠ 5) :
    Calls Try.prog 31 #[.pointer (some ⟨D.sp, 0, none⟩), .pointer (some ⟨D.tb, 0, none⟩), .agg #[.int .i64 wh, .int .i64 kd, .int .i64 sz, .int .i64 ms, .int .i64 n, .int .i64 k, .int .i64 v]] w fun e w' => e = .returned (.bool true) ∧ Hid (StepOut w0 w' D j) := by
  have hB0 := h.alloc (.cells #[.int .i64 wh, .int .i64 kd, .int .i64 sz, .int .i64 ms, .int .i64 n, .int .i64 k, .int .i64 v] 48)
  have HF : Hid (StepOut w0 (w.alloc (.cells #[.int .i64 wh, .int .i64 kd, .int .i64 sz, .int .i64 ms, .int .i64 n, .int .i64 k, .int .i64 v] 48)) D j) := ⟨D, M, hB0, hj, hb.up (by omega), rfl, rfl⟩
  obtain ⟨h1, h2, h3, h4, h5⟩ := hw
  have b1 : (wh == 1) = false := beq_eq_false_iff_ne.2 h1
  have b2 : (wh == 2) = false := beq_eq_false_iff_ne.2 h2
  have b3 : (wh == 3) = false := beq_eq_false_iff_ne.2 h3
  have b4 : (wh == 4) = false := beq_eq_false_iff_ne.2 h4
  have b5 : (wh == 5) = false := beq_eq_false_iff_ne.2 h5
  clear h hj hb hB0 h1 h2 h3 h4 h5
  go_enter Try.func31, Try.ntmps31
  go_wp2
  go_ret
  exact ⟨rfl, HF⟩
end
end Go.Proofs.Ytnbiofcfphpikaa

namespace Go.Proofs.Ytnbiofcfphpikaa
open Go.RowKit

section
variable {w0 w : World} {D : BD} {M : Mp}
theorem Bo.shold (h : Bo w0 w D) (x : Int) (hx : (Lit.int .i64 x).wf = true) (hl : D.held.length ≤ 1000) :
    Calls Try.prog 23 #[.pointer (some ⟨D.sp, 0, none⟩), .int .i64 x] w fun e w' => e = .returned (.tuple #[]) ∧ Keeps (SpF D.B D.sp D.hv) w w' ∧ ∃ hv', Hid (Bo w0 w' { D with hv := hv', held := D.held ++ [x] }) := by
  refine (hold_calls h.space x hx (by omega)).mono ?_
  rintro e w' ⟨rfl, hv', hS⟩
  exact ⟨rfl, hS.out.2.1, hv', h.spaceOp hS.out.1 hS.out.2.1 hS.out.2.2⟩

set_option maxRecDepth 100000 in
set_option maxHeartbeats 8000000 in
theorem step12_3 (h : Bo w0 w D) (hj : Jn D M) {j : Nat} (hb : Bd D j) (hj1 : j ≤ 200) (kd sz ms n k v : Int) :
    Calls Try.prog 31 #[.pointer (some ⟨D.sp, 0, none⟩), .pointer (some ⟨D.tb, 0, none⟩), .agg #[.int .i64 3, .int .i64 kd, .int .i64 sz, .int .i64 ms, .int .i64 n, .int .i64 k, .int .i64 v]] w fun e w' => e = .returned (.bool true) ∧ Hid (StepOut w0 w' D j) := by
  obtain ⟨i0, hi, hz0, hz1, hz2⟩ := info_parts Try.info_int
  have hB0 := h.alloc (.cells #[.int .i64 3, .int .i64 kd, .int .i64 sz, .int .i64 ms, .int .i64 n, .int .i64 k, .int .i64 v] 48)
  have hX := BoxAt.new w 3 kd sz ms n k v 48
  have HBX : Hid (∀ q w', Keeps (SpF D.B D.sp D.hv) ((w.alloc (.cells #[.int .i64 3, .int .i64 kd, .int .i64 sz, .int .i64 ms, .int .i64 n, .int .i64 k, .int .i64 v] 48)).drewN q) w' → w'.cell? ⟨w.heap.size, 4, none⟩ = some (.int .i64 n)) := fun q w' hk => by
    have := h.boxed hX ((Keeps.refl _ _).drewN q) hk
    exact this 4 _ rfl
  have hin := nthV_in hb.alls n
  have hal := hb.all
  have hhl := hb.held
  have HN0 := Lib.hid (hB0.nth (by omega) n)
  have HHO := Lib.hid (fun q => (hB0.drewN q).shold (nthV D.all n) (wf_small (by omega) (by omega)) (by omega))
  obtain ⟨ta, tc, etv, -⟩ := Bo.intsAt (hB0.c 8)
  -- what comes behind Hold
  have HRE : Hid (∀ w2 hv', Bo w0 w2 { D with hv := hv', held := D.held ++ [nthV D.all n] } → w2.drew.cell? ⟨D.tb, 3, none⟩ = some (.slice ta D.thd.length tc) ∧ (Calls Try.prog 64 #[.pointer (some ⟨D.tb, 0, none⟩), .int .i64 n] w2.drew fun e w' => e = .returned (.int .i64 (nthV D.all n)) ∧ w'.cell? ⟨D.tb, 3, none⟩ = some (.slice ta D.thd.length tc) ∧ (∀ o, (w'.alloc o).cell? ⟨D.tb, 3, none⟩ = some (.slice ta D.thd.length tc)) ∧
      Hid (Own w' 3 (.slice ta D.thd.length tc) D.thd.length (fun i => .int .i64 (D.thd.getD i 0))) ∧
      Hid (∀ o g cap w5, Own w5 3 (.slice (some ⟨g, 0, none⟩) (D.thd.length + 1) cap) (D.thd.length + 1) (setf (fun i => .int .i64 (D.thd.getD i 0)) D.thd.length (.int .i64 (nthV D.all n))) → Keeps (fun b => (Value.slice ta D.thd.length tc).ownBlock = some b) (w'.alloc o) w5 → ((Value.slice ta D.thd.length tc).ownBlock = some g ∨ g = (w'.alloc o).heap.size) →
        w5.cell? ⟨D.tb, 3, none⟩ = some (.slice ta D.thd.length tc) ∧ w5.frozen? ⟨D.tb, 3, none⟩ = false ∧ StepOut w0 (w5.setCell ⟨D.tb, 3, none⟩ (.slice (some ⟨g, 0, none⟩) (D.thd.length + 1) cap)) D j))) := fun w2 hv' hB => by
    have t3 : ∀ {wx : World}, Bo w0 wx { D with hv := hv', held := D.held ++ [nthV D.all n] } → wx.cell? ⟨D.tb, 3, none⟩ = some (.slice ta D.thd.length tc) := fun hx => by
      have h1 : _ = some D.tv := hx.t3
      rwa [etv] at h1
    refine ⟨t3 hB.drew, (hB.drew.nth (by show D.all.length ≤ 1000; omega) n).mono ?_⟩
    rintro e w' ⟨rfl, q, rfl⟩
    have hB' := hB.drew.drewN q
    refine ⟨rfl, t3 hB', fun o => t3 (hB'.alloc o), ?_, fun o g cap w5 hO hK hg => ?_⟩
    · have h1 : Own _ 3 D.tv D.thd.length (fun i => .int .i64 (D.thd.getD i 0)) := hB'.c 8
      rw [etv] at h1
      exact h1
    · rw [← etv] at hK hg
      obtain ⟨c1, c2, c3⟩ := hB'.pushH hO hK hg
      have c2' : w5.cell? ⟨D.tb, 3, none⟩ = some D.tv := c2
      rw [etv] at c2'
      refine ⟨c2', c3, _, M, c1, ⟨hj.ob, hj.tr, hj.n, hj.n16, by show D.thd ++ [_] = D.held ++ [_]; rw [hj.held], hj.cnt⟩, ⟨Nat.le_trans hb.L (by omega), Nat.le_trans hb.all (by omega), by show (D.held ++ [_]).length ≤ _; rw [List.length_append, List.length_singleton]; omega, Nat.le_trans hb.n (by omega), hb.alls⟩, rfl, rfl⟩
  have hth : D.thd.length ≤ 1000 := by rw [hj.held]; omega
  have hx1 : nthV D.all n ≤ 1048576 := hin.2
  clear h hj hb hB0 hX hin hal hhl
  generalize nthV D.all n = x at *
  go_enter Try.func31, Try.ntmps31
  go_wp2_with fail
  refine HN0.out.mono ?_
  rintro e w1 ⟨rfl, q1, rfl⟩
  go_wp2_with fail
  refine (HHO.out q1).mono ?_
  rintro e w2 ⟨rfl, hk2, hv', h2⟩
  have p4 := HBX.out q1 w2 hk2
  have p4d : w2.drew.cell? ⟨w.heap.size, 4, none⟩ = some (.int .i64 n) := p4
  obtain ⟨t3, hN⟩ := HRE.out w2 hv' h2.out
  have HNT := Lib.hid hN
  clear hk2 h2 HBX HN0 HHO HRE hN etv
  go_wp2_with fail
  go_region_law (first
    | (refine step_app1 rfl (.tmp 122) (.tmp 127) 22 rfl 3 i0 (.int .i64 0) 8 Try.underlying_ints hi hz0 hz1 hz2 rfl (by decide) (.slice ta D.thd.length tc) D.thd.length _ rfl (HIN.out.alloc _) _ 1 (.int .i64 x) rfl (World.cell?_alloc_new _ _ _ 0) rfl (by omega) ?_
       intro g cap w5 hO hK hg
       obtain ⟨y1, y2, y3⟩ := HPU.out _ g cap w5 hO hK hg
       have HFIN := Lib.hid y3
       clear hO hK hg y3)
    | (go_simp; go_at_call 64; refine HNT.out.mono ?_; rintro e w' ⟨rfl, u1, u2, HIN, HPU⟩))
  all_goals
    go_wp2
    go_ret
    exact ⟨rfl, HFIN⟩
end
end Go.Proofs.Ytnbiofcfphpikaa

namespace Go.Proofs.Ytnbiofcfphpikaa
open Go.RowKit

section
variable {w0 w : World} {D : BD} {M : Mp}
theorem Bo.sset_no (h : Bo w0 w D) (ob : Objs D.H M) (x k v : Int) (hc : mcan M x k = false) :
    Calls Try.prog 28 #[.pointer (some ⟨D.sp, 0, none⟩), .int .i64 x, .int .i64 k, .int .i64 v] w fun e w' => e = .returned (.bool false) ∧ ∃ q, w' = w.drewN q :=
  set_no h.space x k v (by rw [ob.canSet]; exact hc)
theorem Bo.sset_yes (h : Bo w0 w D) (ob : Objs D.H M) (a k : Nat) (v : Int) {b : Blk} (hb : M a = some b) (hk : k < b.s) :
    Calls Try.prog 28 #[.pointer (some ⟨D.sp, 0, none⟩), .int .i64 a, .int .i64 k, .int .i64 v] w fun e w' => e = .returned (.bool true) ∧ ∃ H', Hid (Bo w0 w' { D with H := H' } ∧ Objs H' (mset M a k v) ∧ H'.n = D.H.n) := by
  have hl : look M (a : Int) = some b := by rw [look_nat]; exact hb
  have hc : D.H.canSet (a : Int) (k : Int) = true := by
    rw [ob.canSet]
    unfold mcan bcan
    rw [hl]
    simp; omega
  refine (set_yes h.space a k v hc).mono ?_
  rintro e w' ⟨rfl, hS⟩
  have := ob.set hl (show (0 : Int) ≤ k by omega) (by omega) v
  rw [Int.toNat_natCast, Int.toNat_natCast] at this
  exact ⟨rfl, _, h.spaceOp hS.out.1 hS.out.2 (fun _ h => .inl h), this, rfl⟩
theorem block_none {L : List TB} {Hr : HS} (tr : TR L M Hr) {x : Int} (hx : ∀ i, i < L.length → ((tbat L i).a : Int) ≠ x) : look M x = none := by
  cases hb : look M x with
  | none => rfl
  | some b =>
    have h := look_some hb
    obtain ⟨y, hy, e⟩ := tr.ex x.toNat (by rw [h.2]; simp)
    obtain ⟨i, hi, rfl⟩ := tb_mem hy
    exact absurd (by omega) (hx i hi)
/-- Set behind the twin's. -/
def SetNo (w0 : World) (D : BD) (j : Nat) (x k v : Int) (w4 : World) : Prop :=
  Calls Try.prog 28 #[.pointer (some ⟨D.sp, 0, none⟩), .int .i64 x, .int .i64 k, .int .i64 v] w4 fun e w' => e = .returned (.bool false) ∧ Hid (StepOut w0 w' D j)
theorem setNo (hj : Jn D M) {j : Nat} (hb : Bd D j) {x k v : Int} (hc : mcan M x k = false) {w4 : World} (h : Bo w0 w4 D) : SetNo w0 D j x k v w4 := by
  refine (h.sset_no hj.ob x k v hc).mono ?_
  rintro e w' ⟨rfl, q, rfl⟩
  exact ⟨rfl, D, M, h.drewN q, hj, hb.up (by omega), rfl, rfl⟩
def SetYes (w0 : World) (D : BD) (j : Nat) (x k v : Int) (w4 : World) : Prop :=
  Calls Try.prog 28 #[.pointer (some ⟨D.sp, 0, none⟩), .int .i64 x, .int .i64 k, .int .i64 v] w4 fun e w' => e = .returned (.bool true) ∧ Hid (StepOut w0 w' D j)
theorem setYes (hj : Jn D M) {j : Nat} (hb : Bd D j) {i k : Nat} (hi : i < D.L.length) (hk : k < (tbat D.L i).s) {v : Int} {w4 : World} (h : Bo w0 w4 D) :
    SetYes w0 D j ((tbat D.L i).a : Nat) k v (w4.setCell ⟨(tbat D.L i).g, k, none⟩ (.int .i64 v)) := by
  have hs := hj.tr.s_le (tbat_mem hi)
  have h1 := h.setWord hi (k := k) (by omega) v
  refine (Bo.sset_yes h1 (M := M) hj.ob (tbat D.L i).a k v (hj.tr.at_ _ (tbat_mem hi)) hk).mono ?_
  rintro e w' ⟨rfl, H', h2⟩
  have hrm := hj.tr.set hi k v
  refine ⟨rfl, _, mset M (tbat D.L i).a k v, h2.out.1, ⟨h2.out.2.1, hrm, hj.n.trans h2.out.2.2.symm, by show H'.n ≤ 16; rw [h2.out.2.2]; exact hj.n16, hj.held, hj.cnt⟩, ⟨by show (D.L.set i _).length ≤ _; rw [List.length_set]; exact Nat.le_trans hb.L (by omega), Nat.le_trans hb.all (by omega), Nat.le_trans hb.held (by omega), Nat.le_trans hb.n (by omega), hb.alls⟩, rfl, rfl⟩

set_option maxRecDepth 100000 in
set_option maxHeartbeats 8000000 in
theorem step12_2 (h : Bo w0 w D) (hj : Jn D M) {j : Nat} (hb : Bd D j) (hj1 : j ≤ 200) (kd sz ms n k v : Int) (hv : -9223372036854775808 ≤ v) :
    Calls Try.prog 31 #[.pointer (some ⟨D.sp, 0, none⟩), .pointer (some ⟨D.tb, 0, none⟩), .agg #[.int .i64 2, .int .i64 kd, .int .i64 sz, .int .i64 ms, .int .i64 n, .int .i64 k, .int .i64 v]] w fun e w' => e = .returned (.bool true) ∧ Hid (StepOut w0 w' D j) := by
  have hB0 := h.alloc (.cells #[.int .i64 2, .int .i64 kd, .int .i64 sz, .int .i64 ms, .int .i64 n, .int .i64 k, .int .i64 v] 48)
  have hX := BoxAt.new w 2 kd sz ms n k v 48
  have HBX : Hid (∀ w', Keeps (fun _ => False) (w.alloc (.cells #[.int .i64 2, .int .i64 kd, .int .i64 sz, .int .i64 ms, .int .i64 n, .int .i64 k, .int .i64 v] 48)) w' → Bo w0 w' D ∧ w'.cell? ⟨w.heap.size, 4, none⟩ = some (.int .i64 n) ∧ w'.cell? ⟨w.heap.size, 5, none⟩ = some (.int .i64 k) ∧ w'.cell? ⟨w.heap.size, 6, none⟩ = some (.int .i64 v)) := fun w' hk => by
    have := hX.keep0 hk
    exact ⟨hB0.keep0 hk, this 4 _ rfl, this 5 _ rfl, this 6 _ rfl⟩
  have HBS : Hid (∀ i kk w' (y : Int), i < D.L.length → kk < (tbat D.L i).wl → Keeps (fun _ => False) (w.alloc (.cells #[.int .i64 2, .int .i64 kd, .int .i64 sz, .int .i64 ms, .int .i64 n, .int .i64 k, .int .i64 v] 48)) w' → (w'.setCell ⟨(tbat D.L i).g, kk, none⟩ (.int .i64 y)).cell? ⟨w.heap.size, 5, none⟩ = some (.int .i64 k)) := fun i kk w' y hi hk hkk => by
    have h1 := hX.keep0 hkk
    have hg : D.P 6 (tbat D.L i).g := ⟨_, tbat_mem hi, rfl⟩
    have hlt := h.hi 6 _ hg
    have hK : Keeps (fun b => b = (tbat D.L i).g) w' (w'.setCell ⟨(tbat D.L i).g, kk, none⟩ (.int .i64 y)) := (Keeps.refl (fun b => b = (tbat D.L i).g) w').setCell (fun _ => rfl) _
    exact h1.keep hK (fun e => by omega) 5 _ rfl
  have hal := hb.all
  have hLl := hb.L
  have HNQ : Hid (∀ y q, Calls Try.prog 64 #[.pointer (some ⟨D.tb, 0, none⟩), .int .i64 y] ((w.alloc (.cells #[.int .i64 2, .int .i64 kd, .int .i64 sz, .int .i64 ms, .int .i64 n, .int .i64 k, .int .i64 v] 48)).drewN q) fun e w' => e = .returned (.int .i64 (nthV D.all y)) ∧ ∃ m, w' = (w.alloc (.cells #[.int .i64 2, .int .i64 kd, .int .i64 sz, .int .i64 ms, .int .i64 n, .int .i64 k, .int .i64 v] 48)).drewN m) := fun y q => by
    refine ((hB0.drewN q).nth (by omega) y).mono ?_
    rintro e w' ⟨he, q2, rfl⟩
    exact ⟨he, q + q2, by simp [World.drewN, Nat.add_assoc]⟩
  have HBK : Hid (∀ wx x, Bo w0 wx D → _) := fun wx x (hB : Bo w0 wx D) => hB.block (by omega) x
  have HNO : Hid (∀ x y w4, (∀ i, i < D.L.length → ((tbat D.L i).a : Int) ≠ x) → Bo w0 w4 D → SetNo w0 D j x k y w4) := fun x y w4 hx hB => setNo hj hb (mcan_none (block_none hj.tr hx) k) hB
  have HNK : Hid (∀ i y w4, i < D.L.length → (k < 0 ∨ ((tbat D.L i).s : Int) ≤ k) → Bo w0 w4 D → SetNo w0 D j ((tbat D.L i).a : Nat) k y w4) := fun i y w4 hi hk hB => setNo hj hb (mcan_out (b := ⟨(tbat D.L i).k, (tbat D.L i).s, (tbat D.L i).m, (tbat D.L i).W⟩) (by rw [look_nat]; exact hj.tr.at_ _ (tbat_mem hi)) hk) hB
  have HYE : Hid (∀ i (kk : Nat) y w4, i < D.L.length → k = (kk : Int) → kk < (tbat D.L i).s → Bo w0 w4 D → SetYes w0 D j ((tbat D.L i).a : Nat) k y (w4.setCell ⟨(tbat D.L i).g, kk, none⟩ (.int .i64 y))) := fun i kk y w4 hi ek hkk hB => by subst ek; exact setYes hj hb hi hkk hB
  have HSL : Hid (∀ i, i < D.L.length → (tbat D.L i).s ≤ (tbat D.L i).wl ∧ (tbat D.L i).wl ≤ 1048576) := fun i hi => by
    refine ⟨hj.tr.s_le (tbat_mem hi), ?_⟩
    have h1 := hj.tr.rm (tbat_mem hi)
    have h2 := h.rwf.inside (a := (tbat D.L i).a) (by omega)
    omega
  clear h hj hb hB0 hX
  have HY : Hid True := trivial
  by_cases hv0 : v < 0
  · have dv : decide (v < 0) = true := decide_eq_true hv0
    go_enter Try.func31, Try.ntmps31
    go_wp2_with fail
    generalize w.alloc (.cells #[.int .i64 2, .int .i64 kd, .int .i64 sz, .int .i64 ms, .int .i64 n, .int .i64 k, .int .i64 v] 48) = wb at *
    generalize w.heap.size = p at *
    obtain ⟨-, p4, p5, p6⟩ := HBX.out wb (Keeps.refl _ _)
    have HKQ : Hid (∀ q, Keeps (fun _ => False) wb (wb.drewN q)) := fun q => (Keeps.refl _ wb).drewN q
    go_quiet ((go_at_call 64; exact HNQ.out _ _))
    go_wp2_with fail
    refine (HNQ.out _ _).mono ?_
    rintro e w' ⟨rfl, q2, rfl⟩
    clear p4 p5 p6 HY
    generalize nthV D.all (-(v + 1)) = y at *
    generalize nthV D.all n = x at *
    go_wp2_with fail
    refine (HBK.out _ x (HBX.out _ (HKQ.out q2)).1).mono ?_
    rintro e w3 ⟨hcase, hk3⟩
    have hk03 : Keeps (fun _ => False) wb w3 := (HKQ.out q2).trans hk3.out (fun _ _ h => h)
    have HK03 := Lib.hid hk03
    obtain ⟨hB3, p4, p5, p6⟩ := HBX.out w3 hk03
    have HB3 := Lib.hid hB3
    clear hk3 hk03 HBK HNQ
    rcases hcase with ⟨i, hi, hxi, rfl⟩ | ⟨hno, rfl⟩
    · subst hxi
      obtain ⟨al, cl, e1, hrow⟩ := hB3.rowAt
      obtain ⟨b, rfl, r0, r1, r2, r3, r4⟩ := hrow i hi
      have c1 := hB3.t1
      rw [e1] at c1
      have hsl := HSL.out i hi
      have hi2 : i ≤ 200 := by omega
      have hmx : (if (0 : Int) < (i : Int) then (i : Int) else 0) = (i : Int) := by split <;> omega
      have hmx2 : (if 0 < i then (i : Int) else 0) = (i : Int) := by split <;> omega
      have HWD : Hid (∀ kk, kk < (tbat D.L i).wl → ∀ q, (w3.drewN q).drew.cell? ⟨(tbat D.L i).g, kk, none⟩ = some (.int .i64 ((tbat D.L i).W kk)) ∧ (w3.drewN q).drew.frozen? ⟨(tbat D.L i).g, kk, none⟩ = false) := fun kk hk q => (hB3.drewN q).drew.word hi hk
      have HRC : Hid (∀ q, (w3.drewN q).drew.cell? ⟨D.tb, 1, none⟩ = some (.slice (some ⟨b, 0, none⟩) D.L.length cl) ∧ (w3.drewN q).drew.cell? ⟨b, i * 5 + 4, none⟩ = some (.slice (some ⟨(tbat D.L i).g, 0, none⟩) (tbat D.L i).wl (tbat D.L i).wl) ∧ (w3.drewN q).drew.cell? ⟨p, 5, none⟩ = some (.int .i64 k)) := fun q => ⟨c1, r4, p5⟩
      have HII := Lib.hid hi
      clear hB3 hrow e1
      have hcs : k < 0 ∨ (0 ≤ k ∧ ((tbat D.L i).s : Int) ≤ k) ∨ (0 ≤ k ∧ k < ((tbat D.L i).s : Int)) := by omega
      rcases hcs with hk | ⟨hk, hk2⟩ | ⟨hk, hk2⟩
      · have dk : decide ((0 : Int) ≤ k) = false := decide_eq_false (by omega)
        have HS := Lib.hid (fun q => HNK.out i y (w3.drewN q) hi (.inl hk) (HB3.out.drewN q))
        unfold SetNo at HS
        clear HNK HYE HNO HWD HRC hk
        go_wp2_with fail
        go_quiet (fail)
        go_wp2_with fail
        refine (HS.out _).mono ?_
        rintro e w5 ⟨rfl, h5⟩
        go_wp2
        go_ret
        exact ⟨rfl, h5⟩
      · have dk : decide ((0 : Int) ≤ k) = true := decide_eq_true hk
        have dk2 : decide (k < ((tbat D.L i).s : Int)) = false := decide_eq_false (by omega)
        have HS := Lib.hid (fun q => HNK.out i y (w3.drewN q) hi (.inr hk2) (HB3.out.drewN q))
        unfold SetNo at HS
        clear HNK HYE HNO HWD HRC hk hk2
        go_wp2_with fail
        go_quiet (fail)
        go_wp2_with fail
        refine (HS.out _).mono ?_
        rintro e w5 ⟨rfl, h5⟩
        go_wp2
        go_ret
        exact ⟨rfl, h5⟩
      · obtain ⟨kk, rfl⟩ := Int.eq_ofNat_of_zero_le hk
        have hks : kk < (tbat D.L i).s := by omega
        have hkw : kk < (tbat D.L i).wl := by omega
        have hkb : kk ≤ 1048576 := by omega
        have dk : decide ((0 : Int) ≤ (kk : Int)) = true := decide_eq_true hk
        have dk2 : decide ((kk : Int) < ((tbat D.L i).s : Int)) = true := decide_eq_true hk2
        have dk3 : decide (kk < (tbat D.L i).s) = true := decide_eq_true hks
        have HS : Hid (∀ q, SetYes w0 D j ((tbat D.L i).a : Nat) (kk : Int) y ((w3.drewN q).setCell ⟨(tbat D.L i).g, kk, none⟩ (.int .i64 y)).drew) := fun q => HYE.out i kk y ((w3.drewN q).drew) hi rfl hks (HB3.out.drewN q).drew
        have HB5 : Hid (∀ q, ((w3.drewN q).setCell ⟨(tbat D.L i).g, kk, none⟩ (.int .i64 y)).drew.cell? ⟨p, 5, none⟩ = some (.int .i64 (kk : Nat))) := fun q => HBS.out i kk ((w3.drewN q).drew) y hi hkw ((HK03.out.drewN q).drew)
        unfold SetYes at HS
        have HW2 := Lib.hid (HWD.out kk hkw)
        clear HNK HYE HNO HWD HBS
        go_wp2_with fail
        go_quiet (fail)
        go_wp2_with fail
        have HS2 := Lib.hid (HS.out nq)
        have b5 := HB5.out nq
        obtain ⟨u1, u2⟩ := HW2.out nq
        obtain ⟨u3, u4, u5⟩ := HRC.out nq
        clear HS HB5 HW2 HRC r0 r1 r2 r3 r4 c1 p4 p5 p6 HBX
        generalize w3.drewN nq = wy at *
        refine wp_region_still_tail 12 (by kernel_rfl) (by kernel_rfl) ?_
        change wpStill _ _ (World.drew _) _ _ _
        simp only [List.take_succ_cons, List.take_zero, List.drop_succ_cons, List.drop_zero]
        repeat still_step
        refine wpStill_nil ?_
        change wpList _ _ _ _ _ (World.drew _)
        go_wp2_with fail
        refine HS2.out.mono ?_
        rintro e w5 ⟨rfl, h5⟩
        go_wp2
        go_ret
        exact ⟨rfl, h5⟩
    · have HS := Lib.hid (fun q => HNO.out x y (w3.drewN q) hno (HB3.out.drewN q))
      unfold SetNo at HS
      clear HNK HYE HNO hno hB3
      go_wp2_with fail
      go_quiet (fail)
      go_wp2_with fail
      refine (HS.out _).mono ?_
      rintro e w5 ⟨rfl, h5⟩
      go_wp2
      go_ret
      exact ⟨rfl, h5⟩
  · have dv : decide (v < 0) = false := decide_eq_false hv0
    go_enter Try.func31, Try.ntmps31
    go_wp2_with fail
    generalize w.alloc (.cells #[.int .i64 2, .int .i64 kd, .int .i64 sz, .int .i64 ms, .int .i64 n, .int .i64 k, .int .i64 v] 48) = wb at *
    generalize w.heap.size = p at *
    obtain ⟨-, p4, p5, p6⟩ := HBX.out wb (Keeps.refl _ _)
    have HKQ : Hid (∀ q, Keeps (fun _ => False) wb (wb.drewN q)) := fun q => (Keeps.refl _ wb).drewN q
    go_quiet ((go_at_call 64; exact HNQ.out _ _))
    clear p4 p5 p6 HY
    generalize nthV D.all n = x at *
    obtain ⟨y, ey⟩ : ∃ y, y = v := ⟨_, rfl⟩
    subst ey
    go_wp2_with fail
    refine (HBK.out _ x (HBX.out _ (HKQ.out nq)).1).mono ?_
    rintro e w3 ⟨hcase, hk3⟩
    have hk03 : Keeps (fun _ => False) wb w3 := (HKQ.out nq).trans hk3.out (fun _ _ h => h)
    have HK03 := Lib.hid hk03
    obtain ⟨hB3, p4, p5, p6⟩ := HBX.out w3 hk03
    have HB3 := Lib.hid hB3
    clear hk3 hk03 HBK HNQ
    rcases hcase with ⟨i, hi, hxi, rfl⟩ | ⟨hno, rfl⟩
    · subst hxi
      obtain ⟨al, cl, e1, hrow⟩ := hB3.rowAt
      obtain ⟨b, rfl, r0, r1, r2, r3, r4⟩ := hrow i hi
      have c1 := hB3.t1
      rw [e1] at c1
      have hsl := HSL.out i hi
      have hi2 : i ≤ 200 := by omega
      have hmx : (if (0 : Int) < (i : Int) then (i : Int) else 0) = (i : Int) := by split <;> omega
      have hmx2 : (if 0 < i then (i : Int) else 0) = (i : Int) := by split <;> omega
      have HWD : Hid (∀ kk, kk < (tbat D.L i).wl → ∀ q, (w3.drewN q).drew.cell? ⟨(tbat D.L i).g, kk, none⟩ = some (.int .i64 ((tbat D.L i).W kk)) ∧ (w3.drewN q).drew.frozen? ⟨(tbat D.L i).g, kk, none⟩ = false) := fun kk hk q => (hB3.drewN q).drew.word hi hk
      have HRC : Hid (∀ q, (w3.drewN q).drew.cell? ⟨D.tb, 1, none⟩ = some (.slice (some ⟨b, 0, none⟩) D.L.length cl) ∧ (w3.drewN q).drew.cell? ⟨b, i * 5 + 4, none⟩ = some (.slice (some ⟨(tbat D.L i).g, 0, none⟩) (tbat D.L i).wl (tbat D.L i).wl) ∧ (w3.drewN q).drew.cell? ⟨p, 5, none⟩ = some (.int .i64 k)) := fun q => ⟨c1, r4, p5⟩
      have HII := Lib.hid hi
      clear hB3 hrow e1
      have hcs : k < 0 ∨ (0 ≤ k ∧ ((tbat D.L i).s : Int) ≤ k) ∨ (0 ≤ k ∧ k < ((tbat D.L i).s : Int)) := by omega
      rcases hcs with hk | ⟨hk, hk2⟩ | ⟨hk, hk2⟩
      · have dk : decide ((0 : Int) ≤ k) = false := decide_eq_false (by omega)
        have HS := Lib.hid (fun q => HNK.out i y (w3.drewN q) hi (.inl hk) (HB3.out.drewN q))
        unfold SetNo at HS
        clear HNK HYE HNO HWD HRC hk
        go_wp2_with fail
        go_quiet (fail)
        go_wp2_with fail
        refine (HS.out _).mono ?_
        rintro e w5 ⟨rfl, h5⟩
        go_wp2
        go_ret
        exact ⟨rfl, h5⟩
      · have dk : decide ((0 : Int) ≤ k) = true := decide_eq_true hk
        have dk2 : decide (k < ((tbat D.L i).s : Int)) = false := decide_eq_false (by omega)
        have HS := Lib.hid (fun q => HNK.out i y (w3.drewN q) hi (.inr hk2) (HB3.out.drewN q))
        unfold SetNo at HS
        clear HNK HYE HNO HWD HRC hk hk2
        go_wp2_with fail
        go_quiet (fail)
        go_wp2_with fail
        refine (HS.out _).mono ?_
        rintro e w5 ⟨rfl, h5⟩
        go_wp2
        go_ret
        exact ⟨rfl, h5⟩
      · obtain ⟨kk, rfl⟩ := Int.eq_ofNat_of_zero_le hk
        have hks : kk < (tbat D.L i).s := by omega
        have hkw : kk < (tbat D.L i).wl := by omega
        have hkb : kk ≤ 1048576 := by omega
        have dk : decide ((0 : Int) ≤ (kk : Int)) = true := decide_eq_true hk
        have dk2 : decide ((kk : Int) < ((tbat D.L i).s : Int)) = true := decide_eq_true hk2
        have dk3 : decide (kk < (tbat D.L i).s) = true := decide_eq_true hks
        have HS : Hid (∀ q, SetYes w0 D j ((tbat D.L i).a : Nat) (kk : Int) y ((w3.drewN q).setCell ⟨(tbat D.L i).g, kk, none⟩ (.int .i64 y)).drew) := fun q => HYE.out i kk y ((w3.drewN q).drew) hi rfl hks (HB3.out.drewN q).drew
        have HB5 : Hid (∀ q, ((w3.drewN q).setCell ⟨(tbat D.L i).g, kk, none⟩ (.int .i64 y)).drew.cell? ⟨p, 5, none⟩ = some (.int .i64 (kk : Nat))) := fun q => HBS.out i kk ((w3.drewN q).drew) y hi hkw ((HK03.out.drewN q).drew)
        unfold SetYes at HS
        have HW2 := Lib.hid (HWD.out kk hkw)
        clear HNK HYE HNO HWD HBS
        go_wp2_with fail
        go_quiet (fail)
        go_wp2_with fail
        have HS2 := Lib.hid (HS.out nq)
        have b5 := HB5.out nq
        obtain ⟨u1, u2⟩ := HW2.out nq
        obtain ⟨u3, u4, u5⟩ := HRC.out nq
        clear HS HB5 HW2 HRC r0 r1 r2 r3 r4 c1 p4 p5 p6 HBX
        generalize w3.drewN nq = wy at *
        refine wp_region_still_tail 12 (by kernel_rfl) (by kernel_rfl) ?_
        change wpStill _ _ (World.drew _) _ _ _
        simp only [List.take_succ_cons, List.take_zero, List.drop_succ_cons, List.drop_zero]
        repeat still_step
        refine wpStill_nil ?_
        change wpList _ _ _ _ _ (World.drew _)
        go_wp2_with fail
        refine HS2.out.mono ?_
        rintro e w5 ⟨rfl, h5⟩
        go_wp2
        go_ret
        exact ⟨rfl, h5⟩
    · have HS := Lib.hid (fun q => HNO.out x y (w3.drewN q) hno (HB3.out.drewN q))
      unfold SetNo at HS
      clear HNK HYE HNO hno hB3
      go_wp2_with fail
      go_quiet (fail)
      go_wp2_with fail
      refine (HS.out _).mono ?_
      rintro e w5 ⟨rfl, h5⟩
      go_wp2
      go_ret
      exact ⟨rfl, h5⟩
end
end Go.Proofs.Ytnbiofcfphpikaa
