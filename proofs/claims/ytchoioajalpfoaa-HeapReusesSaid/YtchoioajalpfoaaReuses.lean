/-
  The walk of HeapReuses.
-/
import Derived.Test.YtchoioajalpfoaaAnc
import Derived.Test.YtchoioajalpfoaaArgs
import Derived.Test.YtchoioajalpfoaaSeq2
namespace Go.Proofs.Ytchoioajalpfoaa
open Go.RowKit

theorem Try.info_bool : (Try.prog.info? 4).map (fun i => (i.zero, i.size, i.bytes)) = some (some (.bool false), 1, 1) := by kernel_rfl
theorem Try.underlying_bools : Try.prog.underlying 28 = some (.slice 4) := by kernel_rfl
theorem make_bools (n : Nat) (hn : n ≤ 1048576) : ∃ Z : Array Value, (Z.size = n ∧ ∀ i, i < n → Z[i]? = some (.bool false)) ∧
    ∀ W : World, (Instr.makeSlice 28 (.int .i64 n) (.int .i64 n)).run Try.prog W = .ok (.slice (some ⟨W.heap.size, 0, none⟩) n n) (W.alloc (.cells Z 4)) := by
  obtain ⟨i, hi, hz0, hz1, hz2⟩ := info_parts Try.info_bool
  refine ⟨madeCells (Value.bool false).cells n, ⟨size_madeCells _ _, fun j hj => ?_⟩, fun W => ?_⟩
  · have h := toList_madeCells_one (Value.bool false) n
    rw [show (Value.bool false).cells = #[Value.bool false] from rfl, ← Array.getElem?_toList, h]
    simp [hj]
  · have := run_make (P := Try.prog) W 28 4 i (.bool false) Try.underlying_bools hi hz0 .i64 .i64 n n (by omega) (by omega) (by rw [hz2]; omega) (by omega)
    rw [hz1] at this
    simpa using this

namespace Reuses
/-- After k blocks. -/
def R1 (w wr : World) (B : HB) (c k : Nat) (v : Value) : Prop :=
  ∃ H, HS.SeqH H 256 c k ∧ Fresh w wr B H ∧ Own wr 3 v k (fun j => .int .i64 (HS.seqAt c j)) ∧ ∀ g, v.ownBlock = some g → ¬ B.fp g ∧ w.heap.size ≤ g

theorem R1.start {w wr : World} {B : HB} {c : Nat} (h : Fresh w wr B (HS.new 16384)) : R1 w wr B c 0 (.slice none 0 0) :=
  ⟨_, HS.new_seq (x := 16384) (by omega) (new_wf (by omega) (by omega)), h, Own.nil _ _ _, fun g hg => by simp [Value.ownBlock] at hg⟩

theorem R1.step {w wr wa wb : World} {B : HB} {c k : Nat} {v : Value} {H H' : HS} {g cap : Nat} {o : Obj} (hf : Fresh w wr B H) (hs : HS.SeqH H' 256 c (k + 1))
    (hv : ∀ g, v.ownBlock = some g → ¬ B.fp g ∧ w.heap.size ≤ g) (hA : HeapAt wa B H') (hK : Keeps B.wr wr wa) (hb : Own wb 3 (.slice (some ⟨g, 0, none⟩) (k + 1) cap) (k + 1) (setf (fun j => .int .i64 (HS.seqAt c j)) k (.int .i64 (HS.seqAt c k))))
    (hk : Keeps (fun b => v.ownBlock = some b) (wa.alloc o) wb) (hg : v.ownBlock = some g ∨ g = (wa.alloc o).heap.size) : R1 w wb B c (k + 1) (.slice (some ⟨g, 0, none⟩) (k + 1) cap) := by
  have h1 := hf.on hA hK
  have hlt := hA.lt
  refine ⟨H', hs, ⟨?_, ?_, h1.2.2⟩, hb.congr (fun i hi => ?_), ?_⟩
  · exact (hA.keep ((Keeps.refl (fun _ => False) _).alloc o) (fun _ _ h => h)).keep hk (fun b hb hvb => (hv b hvb).1 hb)
  · exact (h1.2.1.alloc o).trans hk (fun b hb hvb => by have := (hv b hvb).2; omega)
  · unfold setf; split
    · rename_i e; rw [e]
    · rfl
  · intro g' hg'
    simp [Value.ownBlock] at hg'
    subst hg'
    rcases hg with e | e
    · exact hv g e
    · have hsz : wa.heap.size ≤ g := by rw [e]; simp
      refine ⟨fun hb => ?_, ?_⟩
      · have := hlt g hb; omega
      · have := h1.2.1.size; omega

theorem R1.nonnil {w wr : World} {B : HB} {c k : Nat} {v : Value} (h : R1 w wr B c k v) (hk : 0 < k) : ∃ g cap, v = .slice (some ⟨g, 0, none⟩) k cap := by
  obtain ⟨H, _, _, ho, _⟩ := h
  obtain ⟨g, cap, e, _⟩ := ho.some_shape hk
  exact ⟨g, cap, e⟩

/-- Some of them freed. -/
structure R2 (w wr : World) (B : HB) (c N : Nat) (v vg : Value) (low : Int) (H : HS) (G : Nat → Bool) : Prop where
  some2 : HS.Some2 H 256 c N G
  fresh : Fresh w wr B H
  at_ : Own wr 3 v N (fun j => .int .i64 (HS.seqAt c j))
  gone : Own wr 4 vg N (fun j => .bool (G j))
  ne : ∀ g, v.ownBlock = some g → vg.ownBlock = some g → False
  hv : ∀ g, v.ownBlock = some g → ¬ B.fp g ∧ w.heap.size ≤ g
  hg : ∀ g, vg.ownBlock = some g → ¬ B.fp g ∧ w.heap.size ≤ g
  low : (low = -1 ∧ (∀ j, j < N → G j = false) ∧ HS.SeqH H 256 c N) ∨ (0 ≤ low ∧ low < N ∧ G low.toNat = true)

theorem R2.start {w wr : World} {B : HB} {c N : Nat} {v : Value} {Z : Array Value} (hc : HS.Cl (c : Int)) (hN : N ≤ 200) (h : R1 w wr B c N v) (hZ : Z.size = N ∧ ∀ i, i < N → Z[i]? = some (.bool false)) :
    ∃ H G, R2 w (wr.alloc (.cells Z 4)) B c N v (.slice (some ⟨wr.heap.size, 0, none⟩) N N) (-1) H G := by
  obtain ⟨H, hs, hf, ho, hv⟩ := h
  have hp := HS.cl_pos hc
  have hfit : N ≤ 64 / c * (256 - 1) := by
    have : 1 * 255 ≤ 64 / c * 255 := Nat.mul_le_mul_right _ (by omega)
    omega
  have hlt := hf.1.lt
  have hml : maxLen = 9223372036854775807 := rfl
  refine ⟨H, _, hs.some2 hc hfit, ⟨hf.1.keep ((Keeps.refl (fun _ => False) _).alloc _) (fun _ _ h => h), hf.2.1.alloc _, hf.2.2⟩, ho.alloc _, ?_, ?_, hv, ?_, .inl ⟨rfl, fun _ _ => rfl, hs⟩⟩
  · exact .inr ⟨_, N, Z, rfl, Go.heap_alloc_new wr _, Nat.le_refl _, by omega, hZ.1, hZ.2⟩
  · intro g h1 h2
    have := ho.lt g h1
    simp [Value.ownBlock] at h2
    omega
  · intro g h
    simp [Value.ownBlock] at h
    subst h
    refine ⟨fun hb => ?_, hf.2.1.size⟩
    have := hlt _ hb; omega

theorem R2.step {w wr w2 : World} {B : HB} {c N X gb cap : Nat} {v : Value} {low : Int} {H : HS} {G : Nat → Bool} (hc : HS.Cl (c : Int)) (h : R2 w wr B c N v (.slice (some ⟨gb, 0, none⟩) N cap) low H G) (hX : X < N) (hG : G X = false)
    (hA : HeapAt w2 B (H.freeAt (HS.seqAt c X))) (hK : Keeps B.wr (wr.setCell ⟨gb, X, none⟩ (.bool true)) w2) (low' : Int) (hl : low' = X ∨ (0 ≤ low ∧ low' = low)) :
    R2 w w2 B c N v (.slice (some ⟨gb, 0, none⟩) N cap) low' (H.freeAt (HS.seqAt c X)) (setf G X true) := by
  have hgb := h.hg gb rfl
  have hf1 : Fresh w (wr.setCell ⟨gb, X, none⟩ (.bool true)) B H :=
    ⟨h.fresh.1.keep ((Keeps.refl (fun k => k = gb) _).setCell (fun _ => rfl) _) (fun k hk e => hgb.1 (e ▸ hk)), h.fresh.2.1.setCell (p := ⟨gb, X, none⟩) (fun hlt => by have := hgb.2; have : gb < w.heap.size := hlt; omega) _, h.fresh.2.2⟩
  refine ⟨h.some2.free hc hX hG, hf1.on hA hK, ?_, ?_, h.ne, h.hv, h.hg, ?_⟩
  · exact (h.at_.other (p := ⟨gb, X, none⟩) (fun e => h.ne gb e rfl) _).keep hK (fun k hk hw => (h.hv k hk).1 (.inr hw))
  · refine ((h.gone.set hX (.bool true)).keep hK (fun k hk hw => (h.hg k hk).1 (.inr hw))).congr fun i _ => ?_
    unfold setf; split <;> rfl
  · right
    rcases hl with e | ⟨h0, e⟩
    · subst e; exact ⟨by omega, by omega, by rw [Int.toNat_natCast]; exact setf_same _ _ _⟩
    · subst e
      rcases h.low with ⟨e, _⟩ | ⟨h1, h2, h3⟩
      · omega
      · refine ⟨h1, h2, ?_⟩
        unfold setf; split
        · rfl
        · exact h3

/-- Are the first k gone? -/
def allTo (G : Nat → Bool) : Nat → Bool
  | 0 => true
  | k + 1 => allTo G k && G k
theorem allTo_iff (G : Nat → Bool) (k : Nat) : allTo G k = true ↔ ∀ j, j < k → G j = true := by
  induction k with
  | zero => simp [allTo]
  | succ k ih =>
    simp only [allTo, Bool.and_eq_true, ih]
    constructor
    · rintro ⟨h1, h2⟩ j hj
      by_cases e : j = k
      · subst e; exact h2
      · exact h1 j (by omega)
    · intro h
      exact ⟨fun j hj => h j (by omega), h k (by omega)⟩

set_option maxRecDepth 100000 in
set_option maxHeartbeats 4000000 in
theorem walk (n : Int) (a1 : Option Addr) (len cap : Nat) (z : Nat → Int) (cx : Int) (w : World) (harg : Arg w a1 len (fun i => .int .i64 (z i))) (hlen : len ≤ maxLen) :
    Calls Try.prog 3 #[.int .i64 n, .slice a1 len cap, .int .i64 cx] w fun e w' => e = .returned (.bool true) ∧ Below w.heap.size w w' := by
  have hanc := anchor_calls w
  by_cases hg : n < 1 ∨ 200 < n ∨ 300 < len ∨ cx < 1 ∨ 64 < cx
  · obtain ⟨d1, d2, d3, d4, d5, e1, e2, e3, e4, e5, hd⟩ : ∃ d1 d2 d3 d4 d5 : Bool, decide (n < 1) = d1 ∧ decide ((200 : Int) < n) = d2 ∧ decide ((300 : Int) < (len : Int)) = d3 ∧ decide (cx < 1) = d4 ∧ decide ((64 : Int) < cx) = d5 ∧ (d1 || d2 || d3 || d4 || d5) = true := by
      refine ⟨_, _, _, _, _, rfl, rfl, rfl, rfl, rfl, ?_⟩
      simp only [Bool.or_eq_true, decide_eq_true_eq]
      omega
    clear hg harg hlen
    have hanc' := Lib.hid hanc
    clear hanc
    cases d1
    · cases d2
      · cases d3
        · cases d4
          · cases d5
            · cases hd
            · clear hd
              go_enter Try.func3, Try.ntmps3
              go_wp2_with fail
              refine hanc'.out.mono ?_
              rintro e w0 ⟨rfl, hK0⟩
              have HK0 := Lib.hid hK0
              clear hK0
              go_wp2
              go_ret
              exact ⟨rfl, HK0.out.below (fun _ _ h => h)⟩
          · clear hd e5
            go_enter Try.func3, Try.ntmps3
            go_wp2_with fail
            refine hanc'.out.mono ?_
            rintro e w0 ⟨rfl, hK0⟩
            have HK0 := Lib.hid hK0
            clear hK0
            go_wp2
            go_ret
            exact ⟨rfl, HK0.out.below (fun _ _ h => h)⟩
        · clear hd e5 e4
          go_enter Try.func3, Try.ntmps3
          go_wp2_with fail
          refine hanc'.out.mono ?_
          rintro e w0 ⟨rfl, hK0⟩
          have HK0 := Lib.hid hK0
          clear hK0
          go_wp2
          go_ret
          exact ⟨rfl, HK0.out.below (fun _ _ h => h)⟩
      · clear hd e5 e4 e3
        go_enter Try.func3, Try.ntmps3
        go_wp2_with fail
        refine hanc'.out.mono ?_
        rintro e w0 ⟨rfl, hK0⟩
        have HK0 := Lib.hid hK0
        clear hK0
        go_wp2
        go_ret
        exact ⟨rfl, HK0.out.below (fun _ _ h => h)⟩
    · clear hd e5 e4 e3 e2
      go_enter Try.func3, Try.ntmps3
      go_wp2_with fail
      refine hanc'.out.mono ?_
      rintro e w0 ⟨rfl, hK0⟩
      have HK0 := Lib.hid hK0
      clear hK0
      go_wp2
      go_ret
      exact ⟨rfl, HK0.out.below (fun _ _ h => h)⟩
  · obtain ⟨N, rfl⟩ := Int.eq_ofNat_of_zero_le (show 0 ≤ n by omega)
    obtain ⟨x, rfl⟩ := Int.eq_ofNat_of_zero_le (show 0 ≤ cx by omega)
    have g1 : decide ((N : Int) < 1) = false := decide_eq_false (by omega)
    have g2 : decide ((200 : Int) < (N : Int)) = false := decide_eq_false (by omega)
    have g3 : decide ((300 : Int) < (len : Int)) = false := decide_eq_false (by omega)
    have g4 : decide ((x : Int) < 1) = false := decide_eq_false (by omega)
    have g5 : decide ((64 : Int) < (x : Int)) = false := decide_eq_false (by omega)
    have hN : N ≤ 200 := by omega
    have hN1 : 1 ≤ N := by omega
    have hl300 : len ≤ 300 := by omega
    have hx : 1 ≤ x ∧ x ≤ 64 := by omega
    obtain ⟨hx1, hx2⟩ := hx
    have HC := Lib.hid (HS.cl_classOf x hx2).1
    have hcp := HS.cl_pos HC.out
    generalize hc : HS.classOf x = c at *
    have HX := Lib.hid hc
    have HP := Lib.hid hcp
    have HARG := Lib.hid harg
    obtain ⟨i0, hi, hz0, hz1, hz2⟩ := info_parts Try.info_int
    obtain ⟨Z, hZ, mk⟩ := make_bools N (by omega)
    have HZ := Lib.hid hZ
    clear hZ
    clear hg hc hcp hlen harg
    go_enter Try.func3, Try.ntmps3
    go_wp2_with fail
    refine hanc.mono ?_
    rintro e w0 ⟨rfl, hK0⟩
    have HK0 := Lib.hid hK0
    clear hK0 hanc
    go_wp2_with fail
    refine (new_calls w0 16384 (by omega) (by omega)).mono ?_
    rintro e w1 ⟨B, rfl, hf⟩
    go_wp2
    go_loopw [8, 9, 10, 11] (fun v k _ _ wr => ∃ j : Nat, j ≤ N ∧ k = .int .i64 j ∧ Hid (R1 w0 wr B c j v)) (fun _ k _ _ _ => N - (intOf k).toNat)
    case atStart => exact ⟨0, Nat.zero_le _, rfl, R1.start hf.out⟩
    case round =>
      obtain ⟨j, hj, rfl, hR⟩ := hrel
      by_cases hlt : j < N
      · obtain ⟨H, hs, hfr, hown, hvb⟩ := hR.out
        have hsp : 1 + j / (64 / c) < 256 := HS.span_lt (by have := HP.out; omega) (n := 200) (by have := HP.out; have : 1 * 255 ≤ 64 / c * 255 := Nat.mul_le_mul_right _ (by omega); omega) (by omega)
        obtain ⟨H', hal, hs'⟩ := hs.step HC.out hx1 hx2 HX.out hsp
        have HS' := Lib.hid hs'
        have HFR := Lib.hid hfr
        have HOWN := Lib.hid hown
        have HV := Lib.hid hvb
        have HAL := Lib.hid hal
        have HWF := Lib.hid hs.wf
        clear hR hs hfr hown hvb hal hs' hsp
        go_wp2_with fail
        refine (alloc_yes HFR.out.1 HWF.out HAL.out).mono ?_
        rintro e w2 ⟨rfl, hA, hK, -⟩
        have HA := Lib.hid hA
        have HK := Lib.hid hK
        have HO2 := Lib.hid (HOWN.out.keep hK (fun b hb hw => (HV.out b hb).1 (.inr hw)))
        clear hA hK
        by_cases hj0 : j = 0
        · subst hj0
          go_wp2_with (at_builtin; refine wpList_app1 _ rfl _ _ 22 rfl 3 i0 (.int .i64 0) 8 Try.underlying_ints hi hz0 hz1 hz2 rfl (by decide) _ 0 _ rfl (HO2.out.alloc _) _ 1 (.int .i64 (HS.seqAt c 0 : Nat)) rfl (by simp) rfl (by omega) ?_; intro g cap w3 hO3 hK3 hg3)
          have hR' := R1.step HFR.out HS'.out HV.out HA.out HK.out hO3 hK3 hg3
          have HR' := Lib.hid hR'
          clear hO3 hK3 hg3 hR'
          go_wp2
          go_roundw
          case rel => exact ⟨0 + 1, by omega, by go_num, HR'.out⟩
          case measure => simp [intOf]; omega
        · obtain ⟨g0, cap0, rfl, -, -, hcell, -⟩ := HO2.out.some_shape (by omega)
          have hcell1 := hcell (j - 1) (by omega)
          have hltAt := HS.seqAt_lt HC.out (show j - 1 < j by omega)
          have hd0 : decide ((0 : Int) < (j : Int)) = true := decide_eq_true (by omega)
          have hd1 : decide ((HS.seqAt c j : Int) ≤ (HS.seqAt c (j - 1) : Int)) = false := decide_eq_false (by omega)
          clear hcell
          go_wp2_with (at_builtin; refine wpList_app1 _ rfl _ _ 22 rfl 3 i0 (.int .i64 0) 8 Try.underlying_ints hi hz0 hz1 hz2 rfl (by decide) _ j _ rfl (HO2.out.alloc _) _ 1 (.int .i64 (HS.seqAt c j : Nat)) rfl (by simp) rfl (by omega) ?_; intro g cap w3 hO3 hK3 hg3)
          have hR' := R1.step HFR.out HS'.out HV.out HA.out HK.out hO3 hK3 hg3
          have HR' := Lib.hid hR'
          clear hO3 hK3 hg3 hR' hcell1
          go_wp2
          go_roundw
          case rel => exact ⟨j + 1, by omega, by go_num, HR'.out⟩
          case measure => simp [intOf]; omega
      · obtain rfl : j = N := by omega
        obtain ⟨g, cap0, rfl⟩ := R1.nonnil hR.out (by omega)
        have hRN := hR.out
        obtain ⟨H0, G0, h2⟩ := R2.start HC.out hN hRN HZ.out
        have H2 := Lib.hid h2
        clear hRN h2 hR
        go_wp2
        generalize wr.heap.size = gb at *
        generalize wr.alloc (Obj.cells Z 4) = w5 at *
        clear hf
        obtain ⟨wo, rfl⟩ : ∃ wo : World, wo = wr := ⟨_, rfl⟩
        go_loopw [13, 15, 79] (fun l _ i wr => ∃ k : Nat, k ≤ len ∧ i = .int .i64 k ∧ ∃ low : Int, l = .int .i64 low ∧ low ≤ 200 ∧ -1 ≤ low ∧ ∃ H G, Hid (R2 w0 wr B c j (.slice (some ⟨g, 0, none⟩) j cap0) (.slice (some ⟨gb, 0, none⟩) j j) low H G)) (fun _ _ i _ => len - (intOf i).toNat)
        case atStart => exact ⟨0, Nat.zero_le _, rfl, -1, rfl, by omega, by omega, H0, G0, H2.out⟩
        case round =>
          clear H2 H0 G0
          obtain ⟨k, hk, rfl, low, rfl, hlo1, hlo2, H, G, hR2⟩ := hrel
          by_cases hkl : k < len
          · obtain ⟨b, o, rfl, hzc⟩ := ((HARG.out.keep HK0.out).keep hR2.out.fresh.2.1).get hkl
            generalize z k = zk at *
            by_cases hz0' : zk < 0
            · have hd : decide ((0 : Int) ≤ zk) = false := decide_eq_false (by omega)
              have HR2 := hR2
              clear hR2
              go_wp2
              go_roundw
              case rel => exact ⟨k + 1, by omega, by go_num, low, rfl, hlo1, hlo2, H, G, HR2⟩
              case measure => simp [intOf]; omega
            · have hd : decide ((0 : Int) ≤ zk) = true := decide_eq_true (by omega)
              by_cases hzN : zk < j
              · obtain ⟨X, rfl⟩ := Int.eq_ofNat_of_zero_le (show 0 ≤ zk by omega)
                have hXj : X < j := by omega
                have hd2 : decide ((X : Int) < (j : Int)) = true := decide_eq_true hzN
                obtain ⟨gb', capb, e, -, -, hgc, hgf⟩ := hR2.out.gone.some_shape (show 0 < j by omega)
                simp only [Value.slice.injEq, Option.some.injEq, Addr.mk.injEq, and_true, true_and] at e
                obtain ⟨rfl, rfl⟩ := e
                have hgX := hgc X hXj
                have hgfX := hgf X
                clear hgc hgf
                cases hGX : G X with
                | true =>
                  rw [hGX] at hgX
                  clear hGX
                  go_wp2
                  go_roundw
                  case rel => exact ⟨k + 1, by omega, by go_num, low, rfl, hlo1, hlo2, H, G, hR2⟩
                  case measure => simp [intOf]; omega
                | false =>
                  rw [hGX] at hgX
                  obtain ⟨g', capa, e, -, -, hac, -⟩ := hR2.out.at_.some_shape (show 0 < j by omega)
                  simp only [Value.slice.injEq, Option.some.injEq, Addr.mk.injEq, and_true, true_and] at e
                  obtain ⟨rfl, rfl⟩ := e
                  have haX := hac X hXj
                  have hne1 : g ≠ gb := fun e => hR2.out.ne g rfl (by rw [e]; rfl)
                  have hne2 : gb ≠ g := fun e => hne1 e.symm
                  have hroom : H.roomI (HS.seqAt c X : Nat) ≠ 0 := by
                    unfold HS.roomI
                    rw [if_neg (by omega), Int.toNat_natCast, hR2.out.some2.here X hXj, hGX]
                    have := HP.out; simp; omega
                  have HGX := Lib.hid hGX
                  have HRM := Lib.hid hroom
                  have HFA : Hid (HeapAt (wr.setCell ⟨gb, X, none⟩ (.bool true)) B H) := by
                    have hgb' := hR2.out.hg gb rfl
                    exact hR2.out.fresh.1.keep ((Keeps.refl (fun k => k = gb) _).setCell (fun _ => rfl) _) (fun k hk e => hgb'.1 (e ▸ hk))
                  clear hac hGX hroom
                  have HR2 := hR2
                  clear hR2
                  go_wp2_with fail
                  refine (free_calls HFA.out HR2.out.some2.wf _ HRM.out).mono ?_
                  rintro e w7 ⟨rfl, hA, hK, -⟩
                  rw [Int.toNat_natCast] at hA
                  by_cases hlw : low < 0
                  · have hdl : decide (low < 0) = true := decide_eq_true hlw
                    have HN := Lib.hid (HR2.out.step HC.out hXj HGX.out hA hK X (.inl rfl))
                    clear hA hK
                    go_wp2
                    go_roundw
                    case rel => exact ⟨k + 1, by omega, by go_num, X, rfl, by omega, by omega, _, _, HN.out⟩
                    case measure => simp [intOf]; omega
                  · have hdl : decide (low < 0) = false := decide_eq_false hlw
                    by_cases hlX : (X : Int) < low
                    · have hdx : decide ((X : Int) < low) = true := decide_eq_true hlX
                      have HN := Lib.hid (HR2.out.step HC.out hXj HGX.out hA hK X (.inl rfl))
                      clear hA hK
                      go_wp2
                      go_roundw
                      case rel => exact ⟨k + 1, by omega, by go_num, X, rfl, by omega, by omega, _, _, HN.out⟩
                      case measure => simp [intOf]; omega
                    · have hdx : decide ((X : Int) < low) = false := decide_eq_false hlX
                      have HN := Lib.hid (HR2.out.step HC.out hXj HGX.out hA hK low (.inr ⟨by omega, rfl⟩))
                      clear hA hK
                      go_wp2
                      go_roundw
                      case rel => exact ⟨k + 1, by omega, by go_num, low, rfl, by omega, by omega, _, _, HN.out⟩
                      case measure => simp [intOf]; omega
              · have hd2 : decide (zk < (j : Int)) = false := decide_eq_false hzN
                have HR2 := hR2
                clear hR2
                go_wp2
                go_roundw
                case rel => exact ⟨k + 1, by omega, by go_num, low, rfl, hlo1, hlo2, H, G, HR2⟩
                case measure => simp [intOf]; omega
          · obtain ⟨gb', capb, e, -, -, hgc, -⟩ := hR2.out.gone.some_shape (show 0 < j by omega)
            simp only [Value.slice.injEq, Option.some.injEq, Addr.mk.injEq, and_true, true_and] at e
            obtain ⟨rfl, rfl⟩ := e
            have HGC := Lib.hid hgc
            have HR2 := hR2
            clear hgc hR2
            obtain ⟨wo2, rfl⟩ : ∃ wo : World, wo = wr := ⟨_, rfl⟩
            go_wp2
            go_loop [16, 18, 118] (fun t _ i => ∃ m : Nat, m ≤ j ∧ i = .int .i64 m ∧ t = .bool (allTo G m)) (fun _ _ i => j - (intOf i).toNat)
            case atStart => exact ⟨0, Nat.zero_le _, rfl, rfl⟩
            case round =>
              obtain ⟨m, hm, rfl, rfl⟩ := hrel
              by_cases hmj : m < j
              · have hcm := HGC.out m hmj
                have HST : Hid (allTo G (m + 1) = (allTo G m && G m)) := rfl
                generalize allTo G m = t0 at *
                generalize G m = gm at *
                cases t0 <;> cases gm
                all_goals
                  go_wp2
                  go_round
                  case rel => exact ⟨m + 1, by omega, by go_num, by rw [HST.out]; rfl⟩
                  case measure => simp [intOf]; omega
              · obtain rfl : m = j := by omega
                have hKA := Lib.hid (HK0.out.trans HR2.out.fresh.2.1 (fun _ _ h => h))
                cases hall : allTo G m with
                | true =>
                  obtain ⟨H', hal⟩ := HR2.out.some2.wf.empty_alloc (HR2.out.some2.all ((allTo_iff G m).1 hall)) hx1 hx2
                  have HAL := Lib.hid hal
                  clear hal hall
                  go_wp2_with fail
                  refine (alloc_yes HR2.out.fresh.1 HR2.out.some2.wf HAL.out).mono ?_
                  rintro e w8 ⟨rfl, hA, hK, -⟩
                  have HF := Lib.hid (HK0.out.trans (HR2.out.fresh.on hA hK).2.1 (fun _ _ h => h))
                  clear hA hK
                  go_wp2
                  go_ret
                  exact ⟨rfl, HF.out.below (fun _ _ h => h)⟩
                | false =>
                  obtain ⟨g', capa, e, -, -, hac, -⟩ := HR2.out.at_.some_shape (show 0 < m by omega)
                  simp only [Value.slice.injEq, Option.some.injEq, Addr.mk.injEq, and_true, true_and] at e
                  obtain ⟨rfl, rfl⟩ := e
                  have HAC := Lib.hid hac
                  clear hac hall
                  rcases HR2.out.low with ⟨e, hn0, hs⟩ | ⟨hl0, hlm, hGl⟩
                  · subst e
                    have hsp : 1 + m / (64 / c) < 256 := HS.span_lt (by have := HP.out; omega) (n := 255) (by have := HP.out; have : 1 * 255 ≤ 64 / c * 255 := Nat.mul_le_mul_right _ (by omega); omega) (by omega)
                    obtain ⟨H', hal, -⟩ := hs.step HC.out hx1 hx2 HX.out hsp
                    have HAL := Lib.hid hal
                    have hltA : ((HS.seqAt c (m - 1) : Nat) : Int) < ((HS.seqAt c m : Nat) : Int) := by have := HS.seqAt_lt HC.out (show m - 1 < m by omega); omega
                    have hdl : decide (((HS.seqAt c (m - 1) : Nat) : Int) < ((HS.seqAt c m : Nat) : Int)) = true := decide_eq_true hltA
                    clear hal hn0 hs hsp
                    go_wp2_with fail
                    refine (alloc_yes HR2.out.fresh.1 HR2.out.some2.wf HAL.out).mono ?_
                    rintro e w8 ⟨rfl, hA, hK, -⟩
                    have HF := Lib.hid (HK0.out.trans (HR2.out.fresh.on hA hK).2.1 (fun _ _ h => h))
                    have hcm := hK.cell (HAC.out (m - 1) (by omega)) (fun hw => (HR2.out.hv g rfl).1 (.inr hw))
                    clear hA hK
                    go_wp2
                    go_ret
                    exact ⟨rfl, HF.out.below (fun _ _ h => h)⟩
                  · obtain ⟨L, rfl⟩ := Int.eq_ofNat_of_zero_le hl0
                    have hLm : L < m := by omega
                    rw [Int.toNat_natCast] at hGl
                    cases hal : H.alloc (x : Int) with
                    | none => exact absurd hal (HR2.out.some2.fits HC.out hx1 hx2 HX.out hLm hGl)
                    | some p =>
                      obtain ⟨A, H'⟩ := p
                      have HAD := Lib.hid (HR2.out.some2.wf.alloc_adds hal).2.2
                      have HAL := Lib.hid hal
                      have hr0 : H.room (HS.seqAt c L) = 0 := by rw [HR2.out.some2.here L hLm, hGl]; rfl
                      have HR0 := Lib.hid hr0
                      clear hal hGl hr0
                      go_wp2_with fail
                      refine (alloc_yes HR2.out.fresh.1 HR2.out.some2.wf HAL.out).mono ?_
                      rintro e w8 ⟨rfl, hA, hK, -⟩
                      have HF := Lib.hid (HR2.out.fresh.on hA hK)
                      have hcm := hK.cell (HAC.out L (by omega)) (fun hw => (HR2.out.hv g rfl).1 (.inr hw))
                      clear hA hK
                      have hdl : decide ((L : Int) < 0) = false := decide_eq_false (by omega)
                      have hdl2 : decide ((0 : Int) ≤ (L : Int)) = true := decide_eq_true (by omega)
                      by_cases e1 : A = HS.seqAt c L
                      · have hb1 : (((A : Nat) : Int) == ((HS.seqAt c L : Nat) : Int)) = true := beq_iff_eq.2 (by omega)
                        clear e1
                        go_wp2
                        go_ret
                        exact ⟨rfl, (HK0.out.trans HF.out.2.1 (fun _ _ h => h)).below (fun _ _ h => h)⟩
                      · have hb1 : (((A : Nat) : Int) == ((HS.seqAt c L : Nat) : Int)) = false := beq_eq_false_iff_ne.2 (by omega)
                        have hrm : H'.roomI ((HS.seqAt c L : Nat) : Int) = 0 := by
                          unfold HS.roomI
                          rw [if_neg (by omega), Int.toNat_natCast, HAD.out.other _ (fun e => e1 e.symm)]
                          exact HR0.out
                        have hroom := room_calls HF.out.1 HAD.out.wf ((HS.seqAt c L : Nat) : Int)
                        rw [hrm] at hroom
                        have HRM := Lib.hid hroom
                        clear e1 hrm hroom
                        by_cases e2 : (A : Int) % 64 = 0
                        · have hb2 : (((A : Nat) : Int) % 64 == 0) = true := beq_iff_eq.2 e2
                          clear e2
                          go_wp2
                          go_ret
                          exact ⟨rfl, (HK0.out.trans HF.out.2.1 (fun _ _ h => h)).below (fun _ _ h => h)⟩
                        · have hb2 : (((A : Nat) : Int) % 64 == 0) = false := beq_eq_false_iff_ne.2 e2
                          clear e2
                          go_wp2_with fail
                          refine HRM.out.mono ?_
                          rintro e w9 ⟨rfl, q, rfl⟩
                          go_wp2
                          go_ret
                          exact ⟨rfl, (HK0.out.trans (HF.out.2.1.drewN q) (fun _ _ h => h)).below (fun _ _ h => h)⟩
end Reuses
end Go.Proofs.Ytchoioajalpfoaa
