/-
  The walk of Alloc.
-/
import Derived.Test.YtnbiofcfphpikaaW5
namespace Go.Proofs.Ytnbiofcfphpikaa
open Go.RowKit

theorem full_quiet (w : World) (c : Nat) (hc : HS.Cl (c : Int)) :
    Calls Try.prog 72 #[.int .i64 c] w fun e w' => e = .returned (.int .u64 (HS.full c)) ∧ w' = w :=
  (full_calls w c hc).mono fun _ _ h => ⟨h.1, h.2.symm⟩

theorem quiet_at {P : Program} {f : FuncId} {args : Array Value} {W : World} {q n : Nat} {v : Value} (h : ∀ w, Calls P f args w fun e w' => e = .returned v ∧ w' = w) :
    Calls P f args (W.drewN (q + n)) fun e w'' => e = .returned v ∧ ∃ m, w'' = W.drewN (q + m) := (h _).mono fun _ _ ⟨he, hm⟩ => ⟨he, n, hm⟩

def AllocPost (B : HB) (w : World) (r : Option (Nat × HS)) (e : Ending) (w' : World) : Prop :=
  match r with
  | none => RetPair 0 false e ∧ ∃ q, w' = w.drewN q
  | some (a, H') => RetPair a true e ∧ HeapAt w' B H' ∧ Keeps B.wr w w' ∧ w'.heap.size = w.heap.size

theorem class_step {x c : Nat} (hc : HS.Cl (c : Int)) (h : c < x) (hx : x ≤ 64) (_hle : c ≤ HS.classOf x) : HS.Cl ((2 * c : Nat) : Int) ∧ 2 * c ≤ HS.classOf x := by
  have h6 := HS.cl_cases hc
  unfold HS.classOf HS.Cl at *
  refine ⟨by omega, ?_⟩
  (repeat' split) <;> omega
theorem class_done {x c : Nat} (hc : HS.Cl (c : Int)) (h : ¬ c < x) (hle : c ≤ HS.classOf x) : HS.classOf x = c := by
  have h6 := HS.cl_cases hc
  unfold HS.classOf at *
  (repeat' split at hle) <;> (repeat' split) <;> omega

set_option maxHeartbeats 400000 in
theorem alloc_bad (w : World) (b : Nat) (x : Int) (h : x < 1 ∨ 16448 < x) :
    Calls Try.prog 55 #[.pointer (some ⟨b, 0, none⟩), .int .i64 x] w fun e w' => RetPair 0 false e ∧ w = w' := by
  rcases h with h | h
  · go_enter Try.func55, Try.ntmps55
    go_wp2
    go_ret2
    exact ⟨rfl, rfl⟩
  · have h' : ¬ x < 1 := by omega
    go_enter Try.func55, Try.ntmps55
    go_wp2
    go_ret2
    exact ⟨rfl, rfl⟩

theorem run_any {w : World} {B : HB} {H : HS} (hA : HeapAt w B H) (hW : H.Wf) (x : Int) (m : Nat) (hx : x = m) (hm : 2 ≤ m) (hm' : m ≤ 300) :
    Calls Try.prog 71 #[.pointer (some ⟨B.h, 0, none⟩), .int .i64 x] w fun e w' => ∃ v t, e = .returned (.tuple #[.int .i64 v, .bool t]) ∧ Hid (AllocPost B w (H.allocRun m) (.returned (.tuple #[.int .i64 v, .bool t])) w') := by
  subst hx
  refine (run_calls hA hW m hm hm').mono ?_
  intro e w' h
  cases hr : H.allocRun m with
  | none =>
    rw [hr] at h
    obtain ⟨h1, h2⟩ := h
    unfold RetPair at h1
    subst h1
    exact ⟨_, _, rfl, rfl, 0, h2.symm⟩
  | some p =>
    rw [hr] at h
    obtain ⟨h1, h2⟩ := h
    unfold RetPair at h1
    subst h1
    exact ⟨_, _, rfl, rfl, h2⟩

set_option maxHeartbeats 400000 in
theorem alloc_great {w : World} {B : HB} {H : HS} (hA : HeapAt w B H) (hW : H.Wf) (x : Nat) (h1 : 64 < x) (h2 : x ≤ 16448) :
    Calls Try.prog 55 #[.pointer (some ⟨B.h, 0, none⟩), .int .i64 x] w fun e w' => AllocPost B w (H.allocRun ((x + 63) / 64)) e w' := by
  have HR := Lib.hid (run_any hA hW)
  clear hA hW
  have h3 : ¬ (x : Int) < 1 := by omega
  have h4 : ¬ (16448 : Int) < (x : Int) := by omega
  go_enter Try.func55, Try.ntmps55
  go_wp2_with fail
  refine (HR.out _ ((x + 63) / 64) (by omega) (by omega) (by omega)).mono ?_
  rintro e w' ⟨v, t, rfl, hp⟩
  go_wp2
  go_ret2
  exact hp.out

theorem place_wf {H : HS} (hW : H.Wf) {s c : Nat} (hs : s < H.n) (hc : H.cls s = (c : Int)) (hcl : HS.Cl (c : Int)) (hf : H.used s ≠ HS.full c) :
    HS.Wf { H with used := setf H.used s (H.used s ||| 2 ^ HS.lz (H.used s)) } := by
  have := (hW.place_adds hs hc hcl hf).wf
  exact ⟨this.n2, this.nb, this.c0, this.kind, this.un, this.uc, this.lg, this.mo⟩
theorem fresh_wf {H : HS} (hW : H.Wf) {f c : Nat} (hf : f < H.n) (h0 : H.cls f = 0) (hcl : HS.Cl (c : Int)) :
    HS.Wf { H with cls := setf H.cls f c, used := setf H.used f (H.used f ||| 2 ^ HS.lz (H.used f)) } := by
  have := (hW.fresh_adds hf h0 hcl).1.wf
  exact ⟨this.n2, this.nb, this.c0, this.kind, this.un, this.uc, this.lg, this.mo⟩
theorem placeAt_fits {H : HS} {s c : Nat} (hs : s < H.n) (hcl : HS.Cl (c : Int)) (hu : H.used s < 2 ^ (64 / c)) (hf : H.used s ≠ HS.full c) : H.placeAt s c + c ≤ 64 * H.n := by
  have hp := HS.cl_pos hcl
  have h := HS.lz_spec hu hf (by omega)
  have := HS.cl_div hcl h.1
  unfold HS.placeAt
  omega

set_option maxHeartbeats 1600000 in
theorem alloc_small {w : World} {B : HB} {H : HS} (hA : HeapAt w B H) (hW : H.Wf) (x : Nat) (h1 : 1 ≤ x) (h2 : x ≤ 64) :
    Calls Try.prog 55 #[.pointer (some ⟨B.h, 0, none⟩), .int .i64 x] w fun e w' => AllocPost B w (H.allocSmall (HS.classOf x)) e w' := by
  have HA := Lib.hid hA
  have HW := Lib.hid hW
  have c1 := hA.c1
  have c2 := hA.c2
  have hnb := hW.nb
  have HCL := Lib.hid (HS.cl_classOf x h2).1
  have hd1 : decide ((x : Int) < 1) = false := decide_eq_false (by omega)
  have hd2 : decide ((16448 : Int) < (x : Int)) = false := decide_eq_false (by omega)
  have hd3 : decide ((64 : Int) < (x : Int)) = false := decide_eq_false (by omega)
  clear hA hW
  go_enter Try.func55, Try.ntmps55
  go_wp2
  go_loop [6] (fun c => ∃ k : Nat, c = .int .i64 k ∧ Hid (HS.Cl (k : Int)) ∧ k ≤ HS.classOf x) (fun c => 64 - (intOf c).toNat)
  case atStart => exact ⟨2, rfl, .inl rfl, by have := (HS.cl_classOf x h2); unfold HS.classOf; (repeat' split) <;> omega⟩
  case round =>
    obtain ⟨k, rfl, hk, hkle⟩ := hrel
    have hp := HS.cl_pos hk.out
    obtain ⟨hp1, hp2, hp3, hp4, hp5⟩ := hp
    by_cases hlt : k < x
    · have hs := class_step hk.out hlt h2 hkle
      have HS1 := Lib.hid hs.1
      have hs2 := hs.2
      have hk32 := HS.cl_pos hs.1
      have hk32' := hk32.2.1
      clear hs hk32
      go_wp2
      go_round
      case rel => exact ⟨2 * k, by go_num, HS1.out, hs2⟩
      case measure => simp [intOf]; omega
    · have hc := class_done hk.out hlt hkle
      have HP : Hid (∀ e w', AllocPost B w (H.allocSmall k) e w' → AllocPost B w (H.allocSmall (HS.classOf x)) e w') := by show ∀ _ _, _; rw [hc]; exact fun _ _ h => h
      clear hc hkle HCL
      go_wp2
      go_loopw [7, 8, 9, 38] (fun f _ _ i wr => ∃ j : Nat, j ≤ H.n ∧ i = .int .i64 j ∧ f = .int .i64 (((first H.isFree j).getD 0 : Nat) : Int) ∧ Hid (first (H.hasRoom k) j = none) ∧ ∃ q, wr = w.drewN q) (fun _ _ _ i _ => H.n - (intOf i).toNat)
      case atStart => exact ⟨0, Nat.zero_le _, rfl, rfl, rfl, 0, rfl⟩
      case round =>
        obtain ⟨j, hj, rfl, rfl, hnone, q, rfl⟩ := hrel
        have hjs : ∀ i, (first H.isFree j) = some i → i ≠ 0 := by
          intro i hi e
          subst e
          have := (first_some.1 hi).2.1
          simp [HS.isFree, HW.out.c0] at this
        have hFle : (first H.isFree j).getD 0 ≤ j := by
          cases hf : first H.isFree j with
          | none => simp
          | some i => have := (first_some.1 hf).1; simp; omega
        have HFS := Lib.hid hjs
        clear hjs
        by_cases hjn : j < H.n
        · have hcell := HA.out.cl.cell hjn
          have hucell := HA.out.us.cell hjn
          by_cases hck : H.cls j = (k : Int)
          · have h0 : ¬ H.cls j = 0 := by omega
            have hFn : Hid (first H.isFree (j + 1) = first H.isFree j) := by
              show _ = _
              simp [first, HS.isFree, h0]
              cases first H.isFree j <;> rfl
            have hk0 : ((k : Int) == 0) = false := beq_eq_false_iff_ne.2 (by omega)
            have hkk : ((k : Int) == (k : Int)) = true := beq_iff_eq.2 rfl
            have HUC := Lib.hid (HW.out.uc j hjn (by rw [hck]; omega))
            by_cases hu : H.used j = HS.full k
            · have HN : Hid (first (H.hasRoom k) (j + 1) = none) := first_miss hnone.out (by simp [HS.hasRoom, hu])
              have HF : Hid ((first H.isFree (j + 1)).getD 0 = (first H.isFree j).getD 0) := by show _ = _; rw [hFn.out]
              have hub : (((H.used j : Nat) : Int) != ((HS.full k : Nat) : Int)) = false := by simp [hu]
              rw [hck] at hcell
              clear hck h0 hnone hu hFn HUC
              generalize (first H.isFree j).getD 0 = F at *
              have HQ := Lib.hid (fun w => full_quiet w k hk.out)
              generalize HS.full k = fu at *
              generalize H.used j = uj at *
              go_wp2_with fail
              go_quiet ((go_at_call 72; exact quiet_at HQ.out))
              go_wp2
              go_roundw
              case rel => exact ⟨j + 1, by omega, by go_num, by rw [HF.out], HN, _, rfl⟩
              case measure => simp [intOf]; omega
            · have HUC1 : H.used j < 2 ^ (64 / k) := by have := HUC.out.2; rw [hck, Int.toNat_natCast] at this; exact this
              have HR : Hid (H.allocSmall k = some (H.placeAt j k, H.place j k)) := by
                show _ = _
                unfold HS.allocSmall
                rw [first_hit hnone.out (by simp [HS.hasRoom, hu, hck]) hjn]
              have hub : (((H.used j : Nat) : Int) != ((HS.full k : Nat) : Int)) = true := by simp; omega
              have HP1 := Lib.hid (fun (W : World) (hA : HeapAt W B H) => place_calls hA hnb j k hjn hk.out HUC1 hu)
              have HC1 := Lib.hid (fun (W : World) (hA : HeapAt W B { H with used := setf H.used j (H.used j ||| 2 ^ HS.lz (H.used j)) }) => clear_calls hA (place_wf HW.out hjn hck hk.out hu) (H.placeAt j k) k hp1 (placeAt_fits hjn hk.out HUC1 hu))
              rw [hck] at hcell
              clear hck h0 hnone hu hFn HUC HUC1
              have HQ := Lib.hid (fun w => full_quiet w k hk.out)
              generalize (first H.isFree j).getD 0 = F at *
              generalize HS.full k = fu at *
              go_wp2_with fail
              go_quiet ((go_at_call 72; exact quiet_at HQ.out))
              go_wp2_with fail
              refine (HP1.out _ (HA.out.drewN _)).mono ?_
              rintro e w1 ⟨rfl, hA1, hK1, hz1⟩
              have HA1 := Lib.hid hA1
              have HK1 := Lib.hid hK1
              have HZ1 := Lib.hid hz1
              clear hA1 hK1 hz1
              go_wp2_with fail
              refine (HC1.out _ HA1.out).mono ?_
              rintro e w2 ⟨rfl, hA2, hK2, hz2⟩
              have HA2 := Lib.hid hA2
              have HK2 := Lib.hid (HK1.out.trans hK2 (fun _ _ h => h))
              have HZ2 := Lib.hid (hz2.trans HZ1.out)
              clear hA2 hK2 hz2
              go_wp2
              go_ret2
              apply HP.out
              rw [HR.out]
              exact ⟨rfl, HA2.out, ⟨HK2.out.os, HK2.out.tape, HK2.out.output, HK2.out.size, HK2.out.block⟩, HZ2.out⟩
          · have HN : Hid (first (H.hasRoom k) (j + 1) = none) := first_miss hnone.out (by simp [HS.hasRoom, hck])
            have hne : (H.cls j == (k : Int)) = false := beq_eq_false_iff_ne.2 hck
            by_cases h0 : H.cls j = 0
            · cases hf : first H.isFree j with
              | none =>
                have HF : Hid ((first H.isFree (j + 1)).getD 0 = j) := by
                  show _ = _
                  rw [first_new hf (by simp [HS.isFree, h0])]; rfl
                have hFz : ((first H.isFree j).getD 0) = 0 := by rw [hf]; rfl
                rw [h0] at hcell hne
                clear hf hck h0 hnone hFle
                generalize (first H.isFree j).getD 0 = F at *
                subst hFz
                have hnk : ((0 : Int) == (k : Int)) = false := hne
                go_wp2_with fail
                go_quiet (fail)
                go_wp2
                go_roundw
                case rel => exact ⟨j + 1, by omega, by go_num, by rw [HF.out], HN, _, rfl⟩
                case measure => simp [intOf]; omega
              | some i =>
                have HF : Hid ((first H.isFree (j + 1)).getD 0 = i) := by
                  show _ = _
                  rw [first_keep hf]; rfl
                have hFp : 0 < i := by have := HFS.out i hf; omega
                rw [h0] at hcell hne
                clear hf hck h0 hnone hFle HFS
                simp only [Option.getD_some]
                have hnk : ((0 : Int) == (k : Int)) = false := hne
                go_wp2_with fail
                go_quiet (fail)
                go_wp2
                go_roundw
                case rel => exact ⟨j + 1, by omega, by go_num, by rw [HF.out], HN, _, rfl⟩
                case measure => simp [intOf]; omega
            · have HF : Hid ((first H.isFree (j + 1)).getD 0 = (first H.isFree j).getD 0) := by
                show _ = _
                simp [first, HS.isFree, h0]
                cases first H.isFree j <;> rfl
              have hc0 : (H.cls j == 0) = false := beq_eq_false_iff_ne.2 h0
              clear hck h0 hnone
              generalize (first H.isFree j).getD 0 = F at *
              generalize H.cls j = cj at *
              go_wp2_with fail
              go_quiet (fail)
              go_wp2
              go_roundw
              case rel => exact ⟨j + 1, by omega, by go_num, by rw [HF.out], HN, _, rfl⟩
              case measure => simp [intOf]; omega
        · obtain rfl : H.n = j := by omega
          cases hf : first H.isFree H.n with
          | none =>
            have HR : Hid (H.allocSmall k = none) := by
              show _ = _
              unfold HS.allocSmall
              rw [hnone.out, hf]
            clear hf hnone HFS
            simp only [Option.getD_none] at *
            go_wp2
            go_ret2
            apply HP.out
            rw [HR.out]
            exact ⟨rfl, _, rfl⟩
          | some f =>
            have h1 := first_some.1 hf
            have hf0 : H.cls f = 0 := of_decide_eq_true h1.2.1
            have hfn := h1.1
            have hfne := HFS.out f hf
            have hu0 : H.used f = 0 := HW.out.un f hfn (by omega)
            have HR : Hid (H.allocSmall k = some (H.placeAt f k, { H with cls := setf H.cls f k }.place f k)) := by
              show _ = _
              unfold HS.allocSmall
              rw [hnone.out, hf]
            have hul : H.used f < 2 ^ (64 / k) := by rw [hu0]; exact Nat.two_pow_pos _
            have huf : H.used f ≠ HS.full k := by
              rw [hu0]
              unfold HS.full
              have : 2 ^ 1 ≤ 2 ^ (64 / k) := Nat.pow_le_pow_right (by omega) hp4
              omega
            have HP1 := Lib.hid (fun (W : World) (hA : HeapAt W B { H with cls := setf H.cls f k }) => place_calls hA hnb f k hfn hk.out hul huf)
            have HC1 := Lib.hid (fun (W : World) (hA : HeapAt W B { H with cls := setf H.cls f k, used := setf H.used f (H.used f ||| 2 ^ HS.lz (H.used f)) }) => clear_calls hA (fresh_wf HW.out hfn hf0 hk.out) (H.placeAt f k) k hp1 (placeAt_fits hfn hk.out hul huf))
            have hcell := HA.out.cl.cell hfn
            have hcfree := HA.out.cl.free f
            have hfi : ((f : Nat) : Int) < (H.n : Int) := by omega
            have hfb : (((f : Nat) : Int) == 0) = false := beq_eq_false_iff_ne.2 (by omega)
            have HA0 := Lib.hid (fun q => (HA.out.drewN q).setCls (i := f) hfn k)
            have HK0 := Lib.hid (fun q => ((Keeps.refl B.wr w).drewN q).setCell (p := ⟨B.c, f, none⟩) (fun _ => .inr (.inl rfl)) (.int .i64 k))
            clear hnone h1 hf0 hu0 hul huf HFS
            simp only [hf, Option.getD_some] at hFle
            simp only [Option.getD_some]
            clear hf
            go_wp2_with fail
            refine (HP1.out _ (HA0.out _)).mono ?_
            rintro e w1 ⟨rfl, hA1, hK1, hz1⟩
            have HA1 := Lib.hid hA1
            have HK1 := Lib.hid ((HK0.out _).trans hK1 (fun _ _ h => h))
            have HZ1 : Hid (w1.heap.size = w.heap.size) := by show _ = _; rw [hz1]; simp
            clear hA1 hK1 hz1
            go_wp2_with fail
            refine (HC1.out _ HA1.out).mono ?_
            rintro e w2 ⟨rfl, hA2, hK2, hz2⟩
            have HA2 := Lib.hid hA2
            have HK2 := Lib.hid (HK1.out.trans hK2 (fun _ _ h => h))
            have HZ2 := Lib.hid (hz2.trans HZ1.out)
            clear hA2 hK2 hz2
            go_wp2
            go_ret2
            apply HP.out
            rw [HR.out]
            exact ⟨rfl, HA2.out, HK2.out, HZ2.out⟩

/-- Alloc. -/
theorem alloc_calls {w : World} {B : HB} {H : HS} (hA : HeapAt w B H) (hW : H.Wf) (x : Int) :
    Calls Try.prog 55 #[.pointer (some ⟨B.h, 0, none⟩), .int .i64 x] w fun e w' => AllocPost B w (H.alloc x) e w' := by
  unfold HS.alloc
  by_cases h : x < 1 ∨ 16448 < x
  · rw [if_pos h]
    exact (alloc_bad w B.h x h).mono fun e w' h => ⟨h.1, 0, h.2.symm⟩
  · rw [if_neg h]
    obtain ⟨a, rfl⟩ := Int.eq_ofNat_of_zero_le (show 0 ≤ x by omega)
    rw [Int.toNat_natCast]
    by_cases h2 : (64 : Int) < (a : Int)
    · rw [if_pos h2]; exact alloc_great hA hW a (by omega) (by omega)
    · rw [if_neg h2]; exact alloc_small hA hW a (by omega) (by omega)
end Go.Proofs.Ytnbiofcfphpikaa
