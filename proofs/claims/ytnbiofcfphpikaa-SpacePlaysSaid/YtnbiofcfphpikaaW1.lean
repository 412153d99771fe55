/-
  The walks of Spans, Room, Load and Store.
-/
import Derived.Test.YtnbiofcfphpikaaProg
import Derived.Test.YtnbiofcfphpikaaBits
namespace Go.Proofs.Ytnbiofcfphpikaa
open Go.RowKit

set_option maxHeartbeats 400000 in
theorem spans_raw (hb cb n : Nat) (cls : Nat → Int) (w : World) (hn : n ≤ 16384)
    (h1 : w.cell? ⟨hb, 1, none⟩ = some (.slice (some ⟨cb, 0, none⟩) n n))
    (hc : ∀ i, i < n → w.cell? ⟨cb, i, none⟩ = some (.int .i64 (cls i))) :
    Calls Try.prog 60 #[.pointer (some ⟨hb, 0, none⟩)] w fun e w' => e = .returned (.int .i64 (HS.cf cls n)) ∧ w = w' := by
  go_enter Try.func60, Try.ntmps60
  go_wp2
  go_loop [3, 5, 11] (fun t _ i => ∃ k : Nat, k ≤ n ∧ i = .int .i64 k ∧ t = .int .i64 (HS.cf cls k)) (fun _ _ i => n - (intOf i).toNat)
  case atStart => exact ⟨0, Nat.zero_le _, rfl, rfl⟩
  case round =>
    obtain ⟨k, hk, rfl, rfl⟩ := hrel
    have hle := HS.cf_le cls k
    by_cases hlt : k < n
    · have hcell := hc k hlt
      clear hc
      by_cases h0 : cls k = 0
      · go_wp2
        go_round
        case rel => exact ⟨k + 1, by omega, by go_num, by rw [HS.cf_yes h0]; go_num⟩
        case measure => simp [intOf]; omega
      · go_wp2
        go_round
        case rel => exact ⟨k + 1, by omega, by go_num, by rw [HS.cf_no h0]⟩
        case measure => simp [intOf]; omega
    · go_wp2
      go_ret
      obtain rfl : k = n := by omega
      exact ⟨rfl, rfl⟩

theorem spans_calls {w : World} {B : HB} {H : HS} (hA : HeapAt w B H) (hW : H.Wf) :
    Calls Try.prog 60 #[.pointer (some ⟨B.h, 0, none⟩)] w fun e w' => e = .returned (.int .i64 H.spans) ∧ w = w' :=
  spans_raw B.h B.c H.n H.cls w hW.nb hA.c1 fun _ hi => hA.cl.cell hi

set_option maxHeartbeats 400000 in
theorem room_out (hb wb N : Nat) (x : Int) (w : World) (hN : N ≤ 1048576)
    (h0 : w.cell? ⟨hb, 0, none⟩ = some (.slice (some ⟨wb, 0, none⟩) N N))
    (hx : x < 0 ∨ (N : Int) ≤ x) :
    Calls Try.prog 75 #[.pointer (some ⟨hb, 0, none⟩), .int .i64 x] w fun e w' => e = .returned (.int .i64 0) ∧ ∃ q, w' = w.drewN q := by
  rcases hx with hx | hx
  · go_enter Try.func75, Try.ntmps75
    go_wp2
    go_ret
    exact ⟨rfl, 0, rfl⟩
  · have hx' : ¬ x < 0 := by omega
    go_enter Try.func75, Try.ntmps75
    go_wp2
    go_ret
    exact ⟨rfl, 0, rfl⟩

set_option maxHeartbeats 400000 in
theorem room_long_raw (hb wb cb rb n N : Nat) (x : Nat) (cls runs : Int) (w : World) (hN : N ≤ 1048576) (hnN : N = 64 * n)
    (h0 : w.cell? ⟨hb, 0, none⟩ = some (.slice (some ⟨wb, 0, none⟩) N N))
    (h1 : w.cell? ⟨hb, 1, none⟩ = some (.slice (some ⟨cb, 0, none⟩) n n))
    (h3 : w.cell? ⟨hb, 3, none⟩ = some (.slice (some ⟨rb, 0, none⟩) n n))
    (hx : x < N) (hc : w.cell? ⟨cb, x / 64, none⟩ = some (.int .i64 cls)) (hr : w.cell? ⟨rb, x / 64, none⟩ = some (.int .i64 runs))
    (hl : cls = -1) (hm : x % 64 = 0) (hr0 : 0 ≤ runs) (hr1 : runs ≤ 16384) :
    Calls Try.prog 75 #[.pointer (some ⟨hb, 0, none⟩), .int .i64 x] w fun e w' => e = .returned (.int .i64 (runs * 64)) ∧ ∃ q, w' = w.drewN q := by
  subst hl
  have hm' : (x : Int) % 64 = 0 := by omega
  have hxn : x / 64 < n := by omega
  have hlo : ¬ (x : Int) < 0 := by omega
  have hlo : ¬ (N : Int) ≤ (x : Int) := by omega
  clear hm hnN
  go_enter Try.func75, Try.ntmps75
  go_wp2
  go_ret
  exact ⟨rfl, 0, rfl⟩

set_option maxHeartbeats 400000 in
theorem room_none_raw (hb wb cb n N : Nat) (x : Nat) (c : Int) (w : World) (hN : N ≤ 1048576) (hnN : N = 64 * n)
    (h0 : w.cell? ⟨hb, 0, none⟩ = some (.slice (some ⟨wb, 0, none⟩) N N))
    (h1 : w.cell? ⟨hb, 1, none⟩ = some (.slice (some ⟨cb, 0, none⟩) n n))
    (hx : x < N) (hc : w.cell? ⟨cb, x / 64, none⟩ = some (.int .i64 c))
    (hl : c ≤ 0) (hm : c = -1 → x % 64 ≠ 0) :
    Calls Try.prog 75 #[.pointer (some ⟨hb, 0, none⟩), .int .i64 x] w fun e w' => e = .returned (.int .i64 0) ∧ ∃ q, w' = w.drewN q := by
  have hxn : x / 64 < n := by omega
  have hlo : ¬ (x : Int) < 0 := by omega
  have hlo : ¬ (N : Int) ≤ (x : Int) := by omega
  have hd : decide (0 < c) = false := decide_eq_false (by omega)
  clear hnN
  by_cases e : c = -1
  · have hm1 := hm e
    have hm2 : ((x : Int) % 64 == 0) = false := beq_eq_false_iff_ne.2 (by omega)
    clear hm
    subst e
    go_enter Try.func75, Try.ntmps75
    go_wp2
    go_quiet (fail)
    go_wp2
    go_ret
    exact ⟨rfl, nq, rfl⟩
  · have hne : (c == -1) = false := beq_eq_false_iff_ne.2 e
    clear hm
    go_enter Try.func75, Try.ntmps75
    go_wp2
    go_quiet (fail)
    go_wp2
    go_ret
    exact ⟨rfl, nq, rfl⟩

set_option maxHeartbeats 400000 in
theorem room_off_raw (hb wb cb n N : Nat) (x : Nat) (c : Int) (w : World) (hN : N ≤ 1048576) (hnN : N = 64 * n)
    (h0 : w.cell? ⟨hb, 0, none⟩ = some (.slice (some ⟨wb, 0, none⟩) N N))
    (h1 : w.cell? ⟨hb, 1, none⟩ = some (.slice (some ⟨cb, 0, none⟩) n n))
    (hx : x < N) (hc : w.cell? ⟨cb, x / 64, none⟩ = some (.int .i64 c))
    (hl : 2 ≤ c) (hc64 : c ≤ 64) (hm : ¬ (x : Int) % c = 0) :
    Calls Try.prog 75 #[.pointer (some ⟨hb, 0, none⟩), .int .i64 x] w fun e w' => e = .returned (.int .i64 0) ∧ ∃ q, w' = w.drewN q := by
  have hxn : x / 64 < n := by omega
  have hlo : ¬ (x : Int) < 0 := by omega
  have hlo : ¬ (N : Int) ≤ (x : Int) := by omega
  have hne : (c == -1) = false := beq_eq_false_iff_ne.2 (by omega)
  have h0c : (0 : Int) < c := by omega
  have hmb : ((x : Int) % c == 0) = false := beq_eq_false_iff_ne.2 hm
  have hmb' : ((x : Int).tmod c == 0) = false := by rw [Int.tmod_eq_emod_of_nonneg (by omega)]; exact hmb
  have hcz : (c == 0) = false := beq_eq_false_iff_ne.2 (by omega)
  have hcz2 : ¬ c = 0 := by omega
  clear hnN
  go_enter Try.func75, Try.ntmps75
  go_wp2
  go_quiet (fail)
  go_wp2
  go_ret
  exact ⟨rfl, nq, rfl⟩

set_option maxHeartbeats 400000 in
theorem room_class_raw (hb wb cb ub n N : Nat) (x : Nat) (c : Int) (u k : Nat) (w : World) (hN : N ≤ 1048576) (hnN : N = 64 * n)
    (h0 : w.cell? ⟨hb, 0, none⟩ = some (.slice (some ⟨wb, 0, none⟩) N N))
    (h1 : w.cell? ⟨hb, 1, none⟩ = some (.slice (some ⟨cb, 0, none⟩) n n))
    (h2 : w.cell? ⟨hb, 2, none⟩ = some (.slice (some ⟨ub, 0, none⟩) n n))
    (hx : x < N) (hc : w.cell? ⟨cb, x / 64, none⟩ = some (.int .i64 c)) (hu : w.cell? ⟨ub, x / 64, none⟩ = some (.int .u64 u))
    (hl : 2 ≤ c) (hc64 : c ≤ 64) (hm : (x : Int) % c = 0) (hk : ((x : Int) % 64) / c = (k : Int)) (hk64 : k < 64) (hu64 : u < 18446744073709551616) (t : Bool) (ht : u.testBit k = t) :
    Calls Try.prog 75 #[.pointer (some ⟨hb, 0, none⟩), .int .i64 x] w fun e w' => e = .returned (.int .i64 (if t = true then c else 0)) ∧ ∃ q, w' = w.drewN q := by
  have HU := bit_test hu64 hk64
  rw [ht] at HU
  clear hu64 ht
  have hxn : x / 64 < n := by omega
  have hlo : ¬ (x : Int) < 0 := by omega
  have hlo : ¬ (N : Int) ≤ (x : Int) := by omega
  have hne : (c == -1) = false := beq_eq_false_iff_ne.2 (by omega)
  have h0c : (0 : Int) < c := by omega
  have hmb : ((x : Int) % c == 0) = true := beq_iff_eq.2 hm
  have hmb' : ((x : Int).tmod c == 0) = true := by rw [Int.tmod_eq_emod_of_nonneg (by omega)]; exact hmb
  have hk' : ((x : Int).tmod 64).tdiv c = (k : Int) := by rw [Int.tmod_eq_emod_of_nonneg (by omega), Int.tdiv_eq_ediv_of_nonneg (by omega)]; exact hk
  have hcz : (c == 0) = false := beq_eq_false_iff_ne.2 (by omega)
  have hcz2 : ¬ c = 0 := by omega
  clear hnN
  cases t
  all_goals
    go_enter Try.func75, Try.ntmps75
    go_wp2
    go_quiet (fail)
    go_wp2
    go_ret
    exact ⟨rfl, nq, rfl⟩

theorem ret_i64 {a b : Int} (h : a = b) : Ending.returned (.int .i64 a) = .returned (.int .i64 b) := by rw [h]

/-- Room. -/
theorem room_calls {w : World} {B : HB} {H : HS} (hA : HeapAt w B H) (hW : H.Wf) (x : Int) :
    Calls Try.prog 75 #[.pointer (some ⟨B.h, 0, none⟩), .int .i64 x] w fun e w' => e = .returned (.int .i64 (H.roomI x)) ∧ ∃ q, w' = w.drewN q := by
  have hnb := hW.nb
  by_cases hx : x < 0 ∨ ((64 * H.n : Nat) : Int) ≤ x
  · refine (room_out B.h B.w (64 * H.n) x w (by omega) hA.c0 hx).mono ?_
    rintro e w' ⟨rfl, h⟩
    refine ⟨ret_i64 ?_, h⟩
    unfold HS.roomI
    split
    · rfl
    · unfold HS.room
      rw [if_pos (by omega)]; rfl
  · obtain ⟨a, rfl⟩ := Int.eq_ofNat_of_zero_le (show 0 ≤ x by omega)
    have ha : a < 64 * H.n := by omega
    have hs : a / 64 < H.n := by omega
    have er : H.roomI (a : Int) = H.room a := by unfold HS.roomI; rw [if_neg (by omega), Int.toNat_natCast]
    rw [er]
    have hcell := hA.cl.cell hs
    rcases (show H.cls (a / 64) ≤ 0 ∨ 0 < H.cls (a / 64) by omega) with hc | hc
    · by_cases hl : H.cls (a / 64) = -1 ∧ a % 64 = 0
      · have hr := (hW.lg _ hs hl.1)
        refine (room_long_raw B.h B.w B.c B.r H.n (64 * H.n) a _ _ w (by omega) rfl hA.c0 hA.c1 hA.c3 ha hcell (hA.rn.cell hs) hl.1 hl.2 (by omega) (by omega)).mono ?_
        rintro e w' ⟨rfl, h⟩
        refine ⟨ret_i64 ?_, h⟩
        unfold HS.room
        rw [if_neg (by omega), if_pos hl]; omega
      · refine (room_none_raw B.h B.w B.c H.n (64 * H.n) a _ w (by omega) rfl hA.c0 hA.c1 ha hcell hc (fun e h => hl ⟨e, h⟩)).mono ?_
        rintro e w' ⟨rfl, h⟩
        refine ⟨ret_i64 ?_, h⟩
        unfold HS.room
        rw [if_neg (by omega), if_neg hl, if_neg (by omega)]; rfl
    · have hcl : HS.Cl (H.cls (a / 64)) := by rcases hW.kind _ hs with e | e | e | e <;> first | omega | exact e
      obtain ⟨c, hcc, hcl'⟩ := HS.cl_nat hcl
      have hp := HS.cl_pos hcl'
      have hc2 := HS.cl_cases hcl'
      rw [hcc] at hcell
      by_cases hm : a % c = 0
      · have ho := HS.cl_of hcl' hm
        refine (room_class_raw B.h B.w B.c B.u H.n (64 * H.n) a c _ (a % 64 / c) w (by omega) rfl hA.c0 hA.c1 hA.c2 ha hcell (hA.us.cell hs) (by omega) (by omega) (by exact_mod_cast hm) (by norm_cast) (by omega) (used_lt hW hs) _ rfl).mono ?_
        rintro e w' ⟨rfl, h⟩
        refine ⟨ret_i64 ?_, h⟩
        have := HS.room_class hs hcc hcl' ho.1
        rw [← ho.2] at this
        rw [this]
        split <;> rfl
      · refine (room_off_raw B.h B.w B.c H.n (64 * H.n) a c w (by omega) rfl hA.c0 hA.c1 ha hcell (by omega) (by omega) (by intro h; apply hm; exact_mod_cast h)).mono ?_
        rintro e w' ⟨rfl, h⟩
        refine ⟨ret_i64 ?_, h⟩
        unfold HS.room
        rw [if_neg (by omega), if_neg (by omega), hcc, Int.toNat_natCast, if_neg (fun hh => hm hh.2.1)]; rfl
end Go.Proofs.Ytnbiofcfphpikaa
