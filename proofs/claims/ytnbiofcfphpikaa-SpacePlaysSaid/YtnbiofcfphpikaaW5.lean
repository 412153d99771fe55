/-
  The walk of run.
-/
import Derived.Test.YtnbiofcfphpikaaW4
namespace Go.Proofs.Ytnbiofcfphpikaa
open Go.RowKit

theorem cons_le (cls : Nat → Int) (k : Nat) : HS.cons cls k ≤ k := (HS.cons_spec cls k).1
theorem cons_yes {cls : Nat → Int} {k : Nat} (h : cls k = 0) : HS.cons cls (k + 1) = HS.cons cls k + 1 := by simp [HS.cons, h]
theorem cons_no {cls : Nat → Int} {k : Nat} (h : ¬ cls k = 0) : HS.cons cls (k + 1) = 0 := by simp [HS.cons, h]

set_option maxHeartbeats 400000 in
theorem run_no {w : World} {B : HB} {H : HS} (hA : HeapAt w B H) (hn : H.n ≤ 16384) (m : Nat) (_hm : 2 ≤ m) (h : ∀ k, k < H.n → HS.cons H.cls (k + 1) ≠ m) :
    Calls Try.prog 71 #[.pointer (some ⟨B.h, 0, none⟩), .int .i64 m] w fun e w' => RetPair 0 false e ∧ w = w' := by
  have c1 := hA.c1
  have HC := Lib.hid fun i hi => hA.cl.cell (i := i) hi
  have HH := Lib.hid h
  clear h hA
  generalize H.cls = cls at *
  generalize H.n = n at *
  go_enter Try.func71, Try.ntmps71
  go_wp2
  go_loop [6, 7, 8, 16] (fun h _ _ i => ∃ k : Nat, k ≤ n ∧ i = .int .i64 k ∧ h = .int .i64 (HS.cons cls k)) (fun _ _ _ i => n - (intOf i).toNat)
  case atStart => exact ⟨0, Nat.zero_le _, rfl, rfl⟩
  case round =>
    obtain ⟨k, hk, rfl, rfl⟩ := hrel
    have hcl := cons_le cls k
    by_cases hlt : k < n
    · have hcell := HC.out k hlt
      by_cases h0 : cls k = 0
      · have hne := HH.out k hlt
        rw [cons_yes h0] at hne
        have hb : (((HS.cons cls k : Int) + 1) == (m : Int)) = false := beq_eq_false_iff_ne.2 (by omega)
        have HY := Lib.hid (cons_yes h0)
        clear hne
        go_wp2
        go_round
        case rel => exact ⟨k + 1, by omega, by go_num, by rw [HY.out]; go_num⟩
        case measure => simp [intOf]; omega
      · have HY := Lib.hid (cons_no h0)
        go_wp2
        go_round
        case rel => exact ⟨k + 1, by omega, by go_num, by rw [HY.out]; go_num⟩
        case measure => simp [intOf]; omega
    · go_wp2
      go_ret2
      exact ⟨rfl, rfl⟩

theorem clear_callsI {w : World} {B : HB} {H : HS} (hA : HeapAt w B H) (hW : H.Wf) (x y : Int) (a n : Nat) (hx : x = a) (hy : y = n) (hn : 0 < n) (h : a + n ≤ 64 * H.n) :
    Calls Try.prog 73 #[.pointer (some ⟨B.h, 0, none⟩), .int .i64 x, .int .i64 y] w fun e w' => e = .returned (.int .i64 x) ∧
      HeapAt w' B { H with words := setr H.words a n 0 } ∧ Keeps B.wr w w' ∧ w'.heap.size = w.heap.size := by
  subst hx hy
  exact clear_calls hA hW a n hn h
theorem retPair_eq {v u : Int} {t : Bool} (h : v = u) : RetPair u t (.returned (.tuple #[.int .i64 v, .bool t])) := by rw [h]; rfl

set_option maxHeartbeats 800000 in
theorem run_yes {w : World} {B : HB} {H : HS} (hA : HeapAt w B H) (hW : H.Wf) (m s : Nat) (hm : 2 ≤ m) (hm' : m ≤ 300) (hs : s < H.n) (he : HS.cons H.cls (s + 1) = m) (h : ∀ k, k < s → HS.cons H.cls (k + 1) ≠ m) :
    Calls Try.prog 71 #[.pointer (some ⟨B.h, 0, none⟩), .int .i64 m] w fun e w' => RetPair (64 * (s + 1 - m) : Nat) true e ∧
      HeapAt w' B { H with cls := setf (setr H.cls (s + 1 - m) m (-2)) (s + 1 - m) (-1), runs := setf H.runs (s + 1 - m) m, words := setr H.words (64 * (s + 1 - m)) (64 * m) 0 } ∧ Keeps B.wr w w' ∧ w'.heap.size = w.heap.size := by
  have c1 := hA.c1
  have hnb := hW.nb
  have HC := Lib.hid fun i hi => hA.cl.cell (i := i) hi
  have HH := Lib.hid h
  have hsm := cons_le H.cls (s + 1)
  have h0s : H.cls s = 0 := (HS.cons_spec H.cls (s + 1)).2 s (by omega) (by omega)
  have hcs : HS.cons H.cls s + 1 = m := by rw [← cons_yes h0s]; exact he
  rw [he] at hsm
  -- what the row of stores leaves, and Wf of it for the clear behind
  have HA0 : Hid (HeapAt w B { H with cls := setr H.cls (s + 1 - m) 0 (-2) }) := by show HeapAt _ _ _; rw [setr_zero]; exact hA
  have hadds := hW.run_adds (f := s + 1 - m) (m := m) hm (by omega) (fun i hi hi' => (HS.cons_spec H.cls (s + 1)).2 i (by omega) (by omega))
  have HWf : Hid (HS.Wf { H with cls := setf (setr H.cls (s + 1 - m) m (-2)) (s + 1 - m) (-1), runs := setf H.runs (s + 1 - m) m }) := by
    have := hadds.wf
    exact ⟨this.n2, this.nb, this.c0, this.kind, this.un, this.uc, this.lg, this.mo⟩
  have HS0 := Lib.hid h0s
  have HCS := Lib.hid hcs
  have hhc := hA.hc
  have hhr := hA.hr
  have hcr := hA.cr
  have hrc := hA.cr.symm
  clear h hA hW he h0s hcs hadds
  obtain ⟨f, hf⟩ : ∃ f, f = s + 1 - m := ⟨_, rfl⟩
  rw [← hf] at HA0 HWf
  rw [← hf]
  have hf1 : f + m = s + 1 := by omega
  have HF := Lib.hid hf1
  have hfn : f + m ≤ H.n := by omega
  clear hf hf1
  go_enter Try.func71, Try.ntmps71
  go_wp2
  go_loop [6, 7, 8, 16] (fun h _ _ i => ∃ k : Nat, k ≤ s ∧ i = .int .i64 k ∧ h = .int .i64 (HS.cons H.cls k)) (fun _ _ _ i => H.n - (intOf i).toNat)
  case atStart => exact ⟨0, Nat.zero_le _, rfl, rfl⟩
  case round =>
    obtain ⟨k, hk, rfl, rfl⟩ := hrel
    have hcl := cons_le H.cls k
    have hlt : k < H.n := by omega
    have hcell := HC.out k hlt
    by_cases hks : k < s
    · by_cases h0 : H.cls k = 0
      · have hne := HH.out k hks
        rw [cons_yes h0] at hne
        have hb : (((HS.cons H.cls k : Int) + 1) == (m : Int)) = false := beq_eq_false_iff_ne.2 (by omega)
        have HY := Lib.hid (cons_yes h0)
        clear hne
        go_wp2
        go_round
        case rel => exact ⟨k + 1, by omega, by go_num, by rw [HY.out]; go_num⟩
        case measure => simp [intOf]; omega
      · have HY := Lib.hid (cons_no h0)
        go_wp2
        go_round
        case rel => exact ⟨k + 1, by omega, by go_num, by rw [HY.out]; go_num⟩
        case measure => simp [intOf]; omega
    · obtain rfl : s = k := by omega
      have h0 := HS0.out
      have hcs := HCS.out
      generalize hcc : HS.cons H.cls s = cc at *
      clear hcc
      have hb : (((cc : Int) + 1) == (m : Int)) = true := beq_iff_eq.2 (by omega)
      have hff := HF.out
      have hfe : ((s : Int) - (m : Int) + 1) = (f : Int) := by omega
      clear hff hcs hsm
      go_wp2
      go_loopw [10, 33] (fun _ i wr => ∃ j : Nat, j ≤ m ∧ i = .int .i64 j ∧ HeapAt wr B { H with cls := setr H.cls f j (-2) } ∧ Keeps B.wr w wr ∧ wr.heap.size = w.heap.size) (fun _ i _ => m - (intOf i).toNat)
      case atStart => exact ⟨0, Nat.zero_le _, rfl, HA0.out, Keeps.refl _ _, rfl⟩
      case round =>
        obtain ⟨j, hj, rfl, hA, hK, hsz⟩ := hrel
        by_cases hjm : j < m
        · have c1' := hA.c1
          have hcell' := hA.cl.cell (i := f + j) (show f + j < H.n by omega)
          have hfr := hA.cl.free (f + j)
          have HA := Lib.hid (hA.setCls (i := f + j) (show f + j < H.n by omega) (-2))
          have HK := Lib.hid (hK.setCell (p := ⟨B.c, f + j, none⟩) (fun _ => .inr (.inl rfl)) (.int .i64 (-2)))
          have HSz := Lib.hid hsz
          clear hA hK hsz
          have hin : ((f : Int) + (j : Int)) < (H.n : Int) := by omega
          go_wp2
          go_roundw
          case rel =>
            refine ⟨j + 1, by omega, by go_num, ?_, HK.out, by rw [World.size_setCell]; exact HSz.out⟩
            rw [setr_snoc]; exact HA.out
          case measure => simp [intOf]; omega
        · obtain rfl : m = j := by omega
          have c1' := hA.c1
          have c3' := hA.c3
          have hcell1 := hA.cl.cell (i := f) (show f < H.n by omega)
          have hcell2 := hA.rn.cell (i := f) (show f < H.n by omega)
          have hfr1 := hA.cl.free f
          have hfr2 := hA.rn.free f
          have hfn1 : (f : Int) < (H.n : Int) := by omega
          have HA := Lib.hid hA
          have HK := Lib.hid hK
          have HSz := Lib.hid hsz
          clear hA hK hsz
          have HA2 := Lib.hid ((((HA.out.setCls (i := f) (show f < H.n by omega) (-1))).setRuns (i := f) (show f < H.n by omega) m).drew)
          have HK2 := Lib.hid (((HK.out.setCell (p := ⟨B.c, f, none⟩) (fun _ => .inr (.inl rfl)) (.int .i64 (-1))).setCell (p := ⟨B.r, f, none⟩) (fun _ => .inr (.inr (.inr rfl))) (.int .i64 m)).drew)
          go_wp2
          go_region
          all_goals go_wp2_with fail
          all_goals
            refine (clear_callsI HA2.out HWf.out _ _ (64 * f) (64 * m) (by omega) (by omega) (by omega) (show 64 * f + 64 * m ≤ 64 * H.n by omega)).mono ?_
            rintro e w' ⟨rfl, hA', hK', hs'⟩
            have HA3 := Lib.hid hA'
            have HK3 := Lib.hid (HK2.out.trans hK' (fun _ _ h => h))
            have HSz3 : Hid (w'.heap.size = w.heap.size) := by show _ = _; rw [hs']; simpa using HSz.out
            clear hA' hK' hs'
            go_wp2
            go_ret2
            exact ⟨retPair_eq (by omega), HA3.out, HK3.out, HSz3.out⟩

/-- run. -/
theorem run_calls {w : World} {B : HB} {H : HS} (hA : HeapAt w B H) (hW : H.Wf) (m : Nat) (hm : 2 ≤ m) (hm' : m ≤ 300) :
    Calls Try.prog 71 #[.pointer (some ⟨B.h, 0, none⟩), .int .i64 m] w fun e w' =>
      match H.allocRun m with
      | none => RetPair 0 false e ∧ w = w'
      | some (a, H') => RetPair a true e ∧ HeapAt w' B H' ∧ Keeps B.wr w w' ∧ w'.heap.size = w.heap.size := by
  unfold HS.allocRun
  cases h : first (fun s => decide (HS.cons H.cls (s + 1) = m)) H.n with
  | none => exact run_no hA hW.nb m hm fun k hk => by simpa using first_none.1 h k hk
  | some s =>
    have h1 := first_some.1 h
    exact run_yes hA hW m s hm hm' h1.1 (of_decide_eq_true h1.2.1) fun k hk => by simpa using h1.2.2 k hk
end Go.Proofs.Ytnbiofcfphpikaa
