/-
  The walk of a step that drops; SpacePlays, its walk and its law.
-/
import Derived.Test.YtnbiofcfphpikaaPTw2
import Derived.Test.YtnbiofcfphpikaaPTw3
import Derived.Test.YtnbiofcfphpikaaA12
import Derived.Test.YtnbiofcfphpikaaPOpK
import Derived.Below
namespace Go.Proofs.Ytnbiofcfphpikaa
open Go.RowKit

section
variable {w0 w : World} {D : BD} {M : Mp}
theorem Bo.sdrop (h : Bo w0 w D) (x : Int) (K : Nat) (hK : (K : Int) = min (max 0 x) D.held.length) (hl : D.held.length ≤ 1000) :
    Calls Try.prog 24 #[.pointer (some ⟨D.sp, 0, none⟩), .int .i64 x] w fun e w' => e = .returned (.tuple #[]) ∧ Keeps (SpF D.B D.sp D.hv) w w' ∧ ∃ hv', Hid (Bo w0 w' { D with hv := hv', held := D.held.take (D.held.length - K) }) := by
  refine (drop_calls h.space x K hK (by omega)).mono ?_
  rintro e w' ⟨rfl, hv', hS⟩
  exact ⟨rfl, hS.out.2.1, hv', h.spaceOp hS.out.1 hS.out.2.1 hS.out.2.2⟩
/-- The twin's list anew. -/
theorem Bo.anew (h : Bo w0 w D) {l : List Int} {g cap : Nat} {w5 : World} (hI : Ints w5 (.slice (some ⟨g, 0, none⟩) l.length cap) l) (hg : w.heap.size ≤ g) (hK : Keeps (fun k => k = w.heap.size) (w.alloc (.cells #[] 3)).drew w5) :
    w5.cell? ⟨D.tb, 3, none⟩ = some D.tv ∧ w5.frozen? ⟨D.tb, 3, none⟩ = false ∧ Bo w0 (w5.setCell ⟨D.tb, 3, none⟩ (.slice (some ⟨g, 0, none⟩) l.length cap)) { D with tv := .slice (some ⟨g, 0, none⟩) l.length cap, thd := l } := by
  have hK' : Keeps (fun k => k = w.heap.size) w w5 := (((Keeps.refl _ w).alloc _).drew).trans hK (fun _ _ h => h)
  have htb := h.hi 3 _ rfl
  have hme : w5.heap[D.tb]? = _ := hK'.at_ (h.c 3) (fun e => by omega)
  refine ⟨by simp only [World.cell?, hme]; rfl, by simp [World.frozen?, hme], h.setHeld hK' (fun k hk hlt => by omega) hI (fun k hk => ?_)⟩
  simp [Value.ownBlock] at hk
  subst hk
  exact .inr hg

set_option maxRecDepth 100000 in
set_option maxHeartbeats 8000000 in
theorem step12_4 (h : Bo w0 w D) (hj : Jn D M) {j : Nat} (hb : Bd D j) (hj1 : j ≤ 200) (kd sz ms n k v : Int) :
    Calls Try.prog 31 #[.pointer (some ⟨D.sp, 0, none⟩), .pointer (some ⟨D.tb, 0, none⟩), .agg #[.int .i64 4, .int .i64 kd, .int .i64 sz, .int .i64 ms, .int .i64 n, .int .i64 k, .int .i64 v]] w fun e w' => e = .returned (.bool true) ∧ Hid (StepOut w0 w' D j) := by
  obtain ⟨i0, hi, hz0, hz1, hz2⟩ := info_parts Try.info_int
  have hB0 := h.alloc (.cells #[.int .i64 4, .int .i64 kd, .int .i64 sz, .int .i64 ms, .int .i64 n, .int .i64 k, .int .i64 v] 48)
  have hX := BoxAt.new w 4 kd sz ms n k v 48
  have HBX : Hid (∀ w', Keeps (SpF D.B D.sp D.hv) (w.alloc (.cells #[.int .i64 4, .int .i64 kd, .int .i64 sz, .int .i64 ms, .int .i64 n, .int .i64 k, .int .i64 v] 48)) w' → w'.drew.cell? ⟨w.heap.size, 4, none⟩ = some (.int .i64 n)) := fun w' hk => by
    have := h.boxed hX (Keeps.refl _ _) hk
    exact this 4 _ rfl
  have hhl := hb.held
  have hth : D.thd.length = D.held.length := by rw [hj.held]
  obtain ⟨K, hK⟩ : ∃ K : Nat, (K : Int) = min (max 0 n) (D.held.length : Int) := ⟨(min (max 0 n) (D.held.length : Int)).toNat, by omega⟩
  have hKl : K ≤ D.held.length := by omega
  have H1 := Lib.hid (hB0.sdrop n K hK (by omega))
  have HAN : Hid (∀ w2 hv', Bo w0 w2 { D with hv := hv', held := D.held.take (D.held.length - K) } → ∀ g cap w5, Ints w5 (.slice (some ⟨g, 0, none⟩) (D.thd.take (D.thd.length - K)).length cap) (D.thd.take (D.thd.length - K)) → w2.heap.size ≤ g → Keeps (fun k => k = w2.heap.size) (w2.alloc (.cells #[] 3)).drew w5 →
      w5.cell? ⟨D.tb, 3, none⟩ = some D.tv ∧ w5.frozen? ⟨D.tb, 3, none⟩ = false ∧ StepOut w0 (w5.setCell ⟨D.tb, 3, none⟩ (.slice (some ⟨g, 0, none⟩) (D.thd.take (D.thd.length - K)).length cap)) D j) := fun w2 hv' hB g cap w5 hI hg hK => by
    obtain ⟨c1, c2, c3⟩ := hB.anew hI hg hK
    refine ⟨c1, c2, _, M, c3, ⟨hj.ob, hj.tr, hj.n, hj.n16, by show D.thd.take (D.thd.length - _) = D.held.take (D.held.length - _); rw [hj.held], hj.cnt⟩, ⟨Nat.le_trans hb.L (by omega), Nat.le_trans hb.all (by omega), by show (D.held.take _).length ≤ _; rw [List.length_take]; omega, Nat.le_trans hb.n (by omega), hb.alls⟩, rfl, rfl⟩
  have HT : Hid (∀ w2 hv', Bo w0 w2 { D with hv := hv', held := D.held.take (D.held.length - K) } → Ints w2 D.tv D.thd ∧ w2.drew.cell? ⟨D.tb, 3, none⟩ = some D.tv ∧ (∀ q, (w2.drew.drewN q).drew.cell? ⟨D.tb, 3, none⟩ = some D.tv) ∧ Bo w0 w2.drew { D with hv := hv', held := D.held.take (D.held.length - K) }) := fun w2 hv' hB => ⟨hB.c 8, hB.t3, fun q => hB.t3, hB.drew⟩
  have HSR : Hid (∀ g0 cap0 cur0 w2, D.tv = .slice (some ⟨g0, 0, none⟩) D.thd.length cap0 → w2.heap[g0]? = some (.cells cur0 3 (0, 0)) → (∀ i, i < D.thd.length → cur0[i]? = some (.int .i64 (D.thd.getD i 0))) → Src w2 (.slice (some ⟨g0, 0, none⟩) (D.thd.take (D.thd.length - K)).length cap0) (D.thd.take (D.thd.length - K))) := fun g0 cap0 cur0 w2 _ hg hc => by
    refine .inr ⟨⟨g0, 0, none⟩, cap0, rfl, fun jj u hu => ?_⟩
    rw [List.getElem?_map, List.getElem?_take] at hu
    split at hu
    · rename_i hlt
      have hlt2 : jj < D.thd.length := by omega
      rw [List.getElem?_eq_getElem hlt2] at hu
      have h1 := hc jj hlt2
      rw [List.getD_eq_getElem?_getD, List.getElem?_eq_getElem hlt2] at h1
      have e : (⟨g0, 0, none⟩ : Addr).add jj = ⟨g0, jj, none⟩ := by unfold Addr.add; split <;> simp_all
      rw [e]
      simp only [World.cell?, hg]
      simp at hu h1 ⊢
      rw [h1, ← hu]
    · simp at hu
  obtain ⟨Mx, hM⟩ : ∃ Mx, (if 0 < n then n else 0) = Mx := ⟨_, rfl⟩
  have htl : D.thd.length ≤ 200 := by omega
  rw [← hth] at hK hKl
  have hll : (D.thd.take (D.thd.length - K)).length = D.thd.length - K := by rw [List.length_take]; omega
  have HNIL : Hid (D.thd.length = 0 → D.thd.take (D.thd.length - K) = []) := fun h0 => List.eq_nil_of_length_eq_zero (by omega)
  clear h hj hb hB0 hX hhl hth
  generalize D.thd.take (D.thd.length - K) = l2 at *
  have hmn : (if (D.thd.length : Int) < Mx then (D.thd.length : Int) else Mx) = (K : Int) := by
    rw [hK, ← hM]; split <;> split at * <;> omega
  have hsub : IntKind.i64.wrap ((D.thd.length : Int) - (K : Int)) = ((l2.length : Nat) : Int) := by
    rw [IntKind.wrap_i64]; omega
  have hle1 : l2.length ≤ D.thd.length := by omega
  clear hK hKl hll
  generalize hme : D.thd.length = m at *
  have HME := Lib.hid hme
  clear hme
  go_enter Try.func31, Try.ntmps31
  go_wp2_with fail
  refine H1.out.mono ?_
  rintro e w2 ⟨rfl, hk2, hv', h2⟩
  have p4 := HBX.out w2 hk2
  obtain ⟨hI, t3, -, hB2⟩ := HT.out w2 hv' h2.out
  have HB2 := Lib.hid hB2
  have HI2 := Lib.hid hI
  clear h2 hk2 HBX H1 hI hB2
  rcases id HI2.out with ⟨etv, hn0⟩ | ⟨g0, cap0, cur0, etv, hg0, l1, l2', l3, l4⟩
  · rw [etv] at t3
    have HETV := Lib.hid etv
    have hn0' : m = 0 := by rw [← HME.out]; exact hn0
    subst hn0'
    obtain rfl : l2 = [] := HNIL.out rfl
    clear HNIL HSR HI2 HT etv hn0 hsub hle1 htl
    have hmn2 : (if (0 : Int) < Mx then 0 else Mx) = 0 := by
      rw [← hM]; split <;> split at * <;> omega
    have hK0 : K = 0 := by
      have : (if ((0 : Nat) : Int) < Mx then ((0 : Nat) : Int) else Mx) = (K : Int) := hmn
      rw [show ((0 : Nat) : Int) = 0 from rfl, hmn2] at this
      omega
    subst hK0
    clear hmn
    have hw0 : IntKind.i64.wrap 0 = 0 := by decide
    go_wp2_with fail
    refine wp_region_still_tail 9 (by kernel_rfl) (by kernel_rfl) ?_
    change wpStill _ _ (World.drew _) _ _ _
    simp only [List.take_succ_cons, List.take_zero, List.drop_succ_cons, List.drop_zero]
    repeat still_step
    refine wpStill_nil ?_
    change wpList _ _ _ _ _ (World.drew _)
    go_wp2_with fail
    have HA2 := Lib.hid (HAN.out _ _ HB2.out)
    have HB3 : Hid (∀ wx, Keeps (fun _ => False) w2.drew wx → wx.cell? ⟨D.tb, 3, none⟩ = some D.tv) := fun wx hk => (HB2.out.keep0 hk).t3
    rw [HETV.out] at HA2 HB3
    have HSX : Hid (Src w2.drew (.slice none 0 0) ([] : List Int)) := .inl ⟨rfl, rfl⟩
    clear HAN HB2 HETV t3 p4
    generalize w2.drew = wy at *
    have t3a : wy.drew.cell? ⟨D.tb, 3, none⟩ = some (.slice none 0 0) := HB3.out _ (Keeps.refl _ _).drew
    have t3b : ∀ o, (wy.alloc o).drew.cell? ⟨D.tb, 3, none⟩ = some (.slice none 0 0) := fun o => HB3.out _ ((Keeps.refl _ wy).alloc o).drew
    go_region_law (refine step_appN hi hz0 hz1 hz2 rfl (.tmp 147) (.tmp 159) rfl rfl rfl wy.heap.size ((Ints.empty wy).drewN 1) (by simp) (by simp) ((HSX.out.alloc _).drewN 1) (by simp <;> omega) ?_; intro g cap w5 hI5 hf5 hK5; obtain ⟨y1, y2, y3⟩ := HA2.out g cap w5 (by simpa using hI5) hf5 hK5; have HFIN := Lib.hid y3; clear hI5 hf5 hK5 y3)
    all_goals
      try simp only [List.nil_append] at *
      go_wp2
      go_ret
      exact ⟨rfl, HFIN⟩
  · have e0 : D.tv = .slice (some ⟨g0, 0, none⟩) m cap0 := by rw [etv, HME.out]
    rw [e0] at t3
    have HETV := Lib.hid e0
    have HSR2 := Lib.hid (HSR.out g0 cap0 cur0 w2 e0 hg0 (by rw [← HME.out]; exact l4))
    have hcap : m ≤ cap0 := by rw [← HME.out]; exact l1
    have hle2 : l2.length ≤ cap0 := by omega
    have hcm : cap0 ≤ 9223372036854775807 := by have := l2'; unfold maxLen at this; exact this
    clear HNIL HSR HI2 HT etv e0 hg0 l1 l2' l3 l4
    go_wp2_with fail
    refine wp_region_still_tail 9 (by kernel_rfl) (by kernel_rfl) ?_
    change wpStill _ _ (World.drew _) _ _ _
    simp only [List.take_succ_cons, List.take_zero, List.drop_succ_cons, List.drop_zero]
    repeat still_step
    refine wpStill_nil ?_
    change wpList _ _ _ _ _ (World.drew _)
    go_wp2_with fail
    have HA2 := Lib.hid (HAN.out _ _ HB2.out)
    have HB3 : Hid (∀ wx, Keeps (fun _ => False) w2.drew wx → wx.cell? ⟨D.tb, 3, none⟩ = some D.tv) := fun wx hk => (HB2.out.keep0 hk).t3
    rw [HETV.out] at HA2 HB3
    have HSX : Hid (Src w2.drew (.slice (some ⟨g0, 0, none⟩) l2.length cap0) l2) := (HSR2.out : Src w2 _ _).drewN 1
    clear HAN HB2 HETV t3 p4
    generalize w2.drew = wy at *
    have t3a : wy.drew.cell? ⟨D.tb, 3, none⟩ = some (.slice (some ⟨g0, 0, none⟩) m cap0) := HB3.out _ (Keeps.refl _ _).drew
    have t3b : ∀ o, (wy.alloc o).drew.cell? ⟨D.tb, 3, none⟩ = some (.slice (some ⟨g0, 0, none⟩) m cap0) := fun o => HB3.out _ ((Keeps.refl _ wy).alloc o).drew
    go_region_law (refine step_appN hi hz0 hz1 hz2 rfl (.tmp 147) (.tmp 159) rfl rfl rfl wy.heap.size ((Ints.empty wy).drewN 1) (by simp) (by simp) ((HSX.out.alloc _).drewN 1) (by simp <;> omega) ?_; intro g cap w5 hI5 hf5 hK5; obtain ⟨y1, y2, y3⟩ := HA2.out g cap w5 (by simpa using hI5) hf5 hK5; have HFIN := Lib.hid y3; clear hI5 hf5 hK5 y3)
    all_goals
      try simp only [List.nil_append] at *
      go_wp2
      go_ret
      exact ⟨rfl, HFIN⟩
end
end Go.Proofs.Ytnbiofcfphpikaa

namespace Go.Proofs.Ytnbiofcfphpikaa
open Go.RowKit

theorem step12 {w0 w : World} {D : BD} {M : Mp} (h : Bo w0 w D) (hj : Jn D M) {j : Nat} (hb : Bd D j) (hj1 : j ≤ 200) (wh kd sz ms n k v : Int) (hv : -9223372036854775808 ≤ v) :
    Calls Try.prog 31 #[.pointer (some ⟨D.sp, 0, none⟩), .pointer (some ⟨D.tb, 0, none⟩), .agg #[.int .i64 wh, .int .i64 kd, .int .i64 sz, .int .i64 ms, .int .i64 n, .int .i64 k, .int .i64 v]] w fun e w' => e = .returned (.bool true) ∧ Hid (StepOut w0 w' D j) := by
  by_cases h1 : wh = 1
  · subst h1; exact step12_1 h hj hb hj1 kd sz ms n k v
  by_cases h2 : wh = 2
  · subst h2; exact step12_2 h hj hb hj1 kd sz ms n k v hv
  by_cases h3 : wh = 3
  · subst h3; exact step12_3 h hj hb hj1 kd sz ms n k v
  by_cases h4 : wh = 4
  · subst h4; exact step12_4 h hj hb hj1 kd sz ms n k v
  by_cases h5 : wh = 5
  · subst h5; exact step12_5 h hj hb hj1 kd sz ms n k v
  exact step12_0 h hj hb wh kd sz ms n k v ⟨h1, h2, h3, h4, h5⟩
theorem space_new_no (w : World) (x : Int) (h : x < 128 ∨ 1048576 < x) :
    Calls Try.prog 21 #[.int .i64 x] w fun e w' => e = .returned (.pointer none) ∧ w = w' := by
  have HN := Lib.hid (new_no w x h)
  clear h
  go_enter Try.func21, Try.ntmps21
  go_wp2_with fail
  refine HN.out.mono ?_
  rintro e w1 ⟨rfl, rfl⟩
  go_wp2
  go_ret
  exact ⟨rfl, rfl⟩
theorem Bo.start {w0 w1 w2 : World} {B : HB} {sp rb x : Nat} (h1 : 128 ≤ x) (h2 : x ≤ 1024) (hS : SpaceAt w0 w1 B sp (.slice none 0 0) (HS.new x) [] 0) (hR : RefA w0 w2 (fun k => B.fp k ∨ k = sp) rb (HS.new x)) (hk : Keeps (fun _ => False) w1 w2) :
    ∃ D M, Bo w0 (w2.alloc (.cells #[.pointer (some ⟨rb, 0, none⟩), .slice none 0 0, .slice none 0 0, .slice none 0 0, .int .i64 0] 46)) D ∧ Jn D M ∧ Bd D 0 ∧ D.sp = sp ∧ D.tb = w2.heap.size := by
  obtain ⟨rlv, rL, r1, r2, r3⟩ := hR
  have hk2 : Keeps (fun _ => False) w2 (w2.alloc (.cells #[.pointer (some ⟨rb, 0, none⟩), .slice none 0 0, .slice none 0 0, .slice none 0 0, .int .i64 0] 46)) := (Keeps.refl _ _).alloc _
  have hk3 := hk.trans hk2 (fun _ _ h => h)
  have hS' := hS.other0 hk3
  have hsz : (w2.alloc (.cells #[.pointer (some ⟨rb, 0, none⟩), .slice none 0 0, .slice none 0 0, .slice none 0 0, .int .i64 0] 46)).heap.size = w2.heap.size + 1 := by simp
  have hs02 : w0.heap.size ≤ w2.heap.size := Nat.le_trans hS.keeps.size hk.size
  have hob := objs_new h1 (by omega : x ≤ 1048576)
  have hnil : ∀ k, ¬ ((Value.slice none 0 0).ownBlock = some k) := fun k hk => by simp [Value.ownBlock] at hk
  have hfp : ∀ k, B.fp k → k < w2.heap.size := fun k hk' => Nat.lt_of_lt_of_le (hS.heap.fp_lt hk') hk.size
  have hsp : sp < w2.heap.size := Nat.lt_of_lt_of_le hS.spLt hk.size
  have hno : ∀ a, (HS.new x).room a = 0 := fun a => hob.1.no a rfl
  refine ⟨⟨B, sp, .slice none 0 0, HS.new x, [], 0, w2.heap.size, rb, rlv, rL, HS.new x, .slice none 0 0, [], .slice none 0 0, [], .slice none 0 0, [], 0, .slice none 0 0, [], .slice none 0 0, 0, fun _ => false⟩, fun _ => none, ⟨hS'.keeps, ?_, ?_, ?_, ?_, hS.wf, hS.wf, fun x hx => (by cases hx), List.nodup_nil⟩, ⟨hob.1, ⟨List.nodup_nil, fun x hx => (by cases hx), fun a ha => absurd rfl ha, fun x hx => (by cases hx), fun x hx => (by cases hx), fun a b hb => (by cases hb), fun a _ => hno a⟩, rfl, (by show x / 64 ≤ 16; omega), rfl, rfl⟩, ⟨Nat.le_refl _, Nat.le_refl _, Nat.le_refl _, Nat.le_refl _, fun x hx => (by cases hx)⟩, rfl, rfl⟩
  · intro i k hp
    rcases i with _|_|_|_|_|_|_|_|_|_|_|i
    · exact hS.fpNew k hp
    · have : k = sp := hp
      subst this; exact hS.spNew
    · exact (hnil k hp).elim
    · have : k = w2.heap.size := hp
      omega
    · exact (r2 k hp).1
    · exact (hnil k hp).elim
    · obtain ⟨x, hx, _⟩ := hp; cases hx
    · exact (hnil k hp).elim
    · exact (hnil k hp).elim
    · exact (hnil k hp).elim
    · exact (hnil k hp).elim
    · exact hp.elim
  · intro i k hp
    rw [hsz]
    rcases i with _|_|_|_|_|_|_|_|_|_|_|i
    · have := hfp k hp; omega
    · have : k = sp := hp
      omega
    · exact (hnil k hp).elim
    · have : k = w2.heap.size := hp
      omega
    · have := r1.lt k hp; omega
    · exact (hnil k hp).elim
    · obtain ⟨x, hx, _⟩ := hp; cases hx
    · exact (hnil k hp).elim
    · exact (hnil k hp).elim
    · exact (hnil k hp).elim
    · exact (hnil k hp).elim
    · exact hp.elim
  · have key : ∀ i k, BD.P ⟨B, sp, .slice none 0 0, HS.new x, [], 0, w2.heap.size, rb, rlv, rL, HS.new x, .slice none 0 0, [], .slice none 0 0, [], .slice none 0 0, [], 0, .slice none 0 0, [], .slice none 0 0, 0, fun _ => false⟩ i k → (i = 0 ∧ B.fp k) ∨ (i = 1 ∧ k = sp) ∨ (i = 3 ∧ k = w2.heap.size) ∨ (i = 4 ∧ RFp rb rlv rL k) := by
      intro i k hp
      rcases i with _|_|_|_|_|_|_|_|_|_|_|i
      · exact .inl ⟨rfl, hp⟩
      · exact .inr (.inl ⟨rfl, hp⟩)
      · exact (hnil k hp).elim
      · exact .inr (.inr (.inl ⟨rfl, hp⟩))
      · exact .inr (.inr (.inr ⟨rfl, hp⟩))
      · exact (hnil k hp).elim
      · obtain ⟨x, hx, _⟩ := hp; cases hx
      · exact (hnil k hp).elim
      · exact (hnil k hp).elim
      · exact (hnil k hp).elim
      · exact (hnil k hp).elim
      · exact hp.elim
    intro i j k hp hq
    have a1 : B.fp k → k ≠ sp := fun h e => hS.spFp (e ▸ h)
    have a2 : B.fp k → k ≠ w2.heap.size := fun h e => by have := hfp k h; omega
    have a3 : RFp rb rlv rL k → ¬ B.fp k ∧ k ≠ sp := fun h => ⟨fun e => (r2 k h).2 (.inl e), fun e => (r2 k h).2 (.inr e)⟩
    have a4 : RFp rb rlv rL k → k ≠ w2.heap.size := fun h e => by have := r1.lt k h; omega
    rcases key i k hp with ⟨rfl, h1⟩ | ⟨rfl, h1⟩ | ⟨rfl, h1⟩ | ⟨rfl, h1⟩ <;> rcases key j k hq with ⟨rfl, h2⟩ | ⟨rfl, h2⟩ | ⟨rfl, h2⟩ | ⟨rfl, h2⟩
    · rfl
    · exact absurd h2 (a1 h1)
    · exact absurd h2 (a2 h1)
    · exact absurd h1 (a3 h2).1
    · exact absurd h1 (a1 h2)
    · rfl
    · omega
    · exact absurd h1 (a3 h2).2
    · exact absurd h1 (a2 h2)
    · omega
    · rfl
    · exact absurd h1 (a4 h2)
    · exact absurd h2 (a3 h1).1
    · exact absurd h2 (a3 h1).2
    · exact absurd h2 (a4 h1)
    · rfl
  · intro i
    rcases i with _|_|_|_|_|_|_|_|_|_|_|i
    · exact hS'.heap
    · exact hS'.me
    · exact hS'.ints
    · exact heap_alloc_new w2 _
    · exact r1.keep hk2 (fun _ _ h => h)
    · exact World.ownsRow_nil _ _ _ _
    · intro x hx; cases hx
    · exact Ints.nil _
    · exact Ints.nil _
    · exact World.ownsRow_nil _ _ _ _
    · exact .inl ⟨rfl, rfl⟩
    · trivial

set_option maxRecDepth 100000 in
set_option maxHeartbeats 4000000 in
theorem spacePlays_main (w : World) (x : Nat) (h1 : 128 ≤ x) (h2 : x ≤ 1024) (a : Option Addr) (len cap : Nat) (hlen : len ≤ 100) (xs : Nat → Nat → Int) (hA : ArgK w a len 7 xs) (hxs : ∀ i j, i < len → j < 7 → -9223372036854775808 ≤ xs i j) :
    Calls Try.prog 5 #[.int .i64 x, .slice a len cap] w fun e w' => e = .returned (.bool true) ∧ Keeps (fun _ => False) w w' := by
  have HAN := Lib.hid (anchor_calls w)
  have HNW := fun w => Lib.hid (space_new w x h1 (by omega))
  have HRN := fun (w0 w : World) h0 R hR => Lib.hid (rnew_yes w0 w h0 R hR x h1 (by omega))
  have HX12 : Hid (128 ≤ x ∧ x ≤ 1024) := ⟨h1, h2⟩
  have d0 : decide ((x : Int) < 128) = false := decide_eq_false (by omega)
  have d1 : decide ((1048576 : Int) < (x : Int)) = false := decide_eq_false (by omega)
  have d2 : decide ((1024 : Int) < (x : Int)) = false := decide_eq_false (by omega)
  have d3 : decide ((100 : Int) < (len : Int)) = false := decide_eq_false (by omega)
  have HA := Lib.hid hA
  have HXS := Lib.hid hxs
  clear hA hxs
  go_enter Try.func5, Try.ntmps5
  go_wp2_with fail
  refine HAN.out.mono ?_
  rintro e w0 ⟨rfl, hk0⟩
  have HK0 := Lib.hid hk0
  clear hk0
  go_wp2_with fail
  refine (HNW w0).out.mono ?_
  rintro e w1 ⟨B, sp, rfl, hS⟩
  have HRN2 := HRN w0 w1 hS.out.keeps.size (fun k => B.fp k ∨ k = sp) (fun k hk => by
    rcases hk with e | e
    · exact hS.out.heap.fp_lt e
    · subst e; exact hS.out.spLt)
  clear HRN
  go_wp2_with fail
  refine HRN2.out.mono ?_
  rintro e w2 ⟨rb, rfl, hr⟩
  have HP0 : Hid (∃ D M, Bo w0 (w2.alloc (.cells #[.pointer (some ⟨rb, 0, none⟩), .slice none 0 0, .slice none 0 0, .slice none 0 0, .int .i64 0] 46)) D ∧ Jn D M ∧ Bd D 0 ∧ D.sp = sp ∧ D.tb = w2.heap.size) := Bo.start HX12.out.1 HX12.out.2 hS.out hr.out.1 hr.out.2
  clear HRN2 hr hS HNW HAN
  go_wp2
  generalize w2.heap.size = tb at *
  go_loopw [46] (fun i wr => ∃ k : Nat, k ≤ len ∧ i = .int .i64 k ∧ Hid (∃ D M, Bo w0 wr D ∧ Jn D M ∧ Bd D k ∧ D.sp = sp ∧ D.tb = tb)) (fun i _ => len - (intOf i).toNat)
  case atStart => exact ⟨0, Nat.zero_le _, rfl, HP0⟩
  case round =>
    clear HP0
    obtain ⟨k, hk, rfl, hP⟩ := hrel
    by_cases hlt : k < len
    · have dk : decide (k < len) = true := decide_eq_true hlt
      obtain ⟨D, M, hB, hJ, hD, esp, etb⟩ := hP.out
      obtain ⟨b, o, rfl, hc⟩ := ((HA.out.keep HK0.out).keep hB.keeps).get hlt
      have q0 := hc 0 (by omega)
      have q1 := hc 1 (by omega)
      have q2 := hc 2 (by omega)
      have q3 := hc 3 (by omega)
      have q4 := hc 4 (by omega)
      have q5 := hc 5 (by omega)
      have q6 := hc 6 (by omega)
      rw [Nat.add_zero] at q0
      have hlow := HXS.out k 6 hlt (by omega)
      have HST : Hid (∀ ob, Calls Try.prog 31 #[.pointer (some ⟨sp, 0, none⟩), .pointer (some ⟨tb, 0, none⟩), .agg #[.int .i64 (xs k 0), .int .i64 (xs k 1), .int .i64 (xs k 2), .int .i64 (xs k 3), .int .i64 (xs k 4), .int .i64 (xs k 5), .int .i64 (xs k 6)]] (wr.alloc ob) fun e w' => e = .returned (.bool true) ∧ Hid (∃ D M, Bo w0 w' D ∧ Jn D M ∧ Bd D (k + 1) ∧ D.sp = sp ∧ D.tb = tb)) := fun ob => by
        have := step12 (hB.alloc ob) hJ hD (by omega) (xs k 0) (xs k 1) (xs k 2) (xs k 3) (xs k 4) (xs k 5) (xs k 6) hlow
        rw [esp, etb] at this
        refine this.mono ?_
        rintro e w' ⟨rfl, D', M', g1, g2, g3, g4, g5⟩
        exact ⟨rfl, D', M', g1, g2, g3, g4.trans esp, g5.trans etb⟩
      have HSM : Hid (∀ w', Hid (∃ D M, Bo w0 w' D ∧ Jn D M ∧ Bd D (k + 1) ∧ D.sp = sp ∧ D.tb = tb) → Calls Try.prog 32 #[.pointer (some ⟨sp, 0, none⟩), .pointer (some ⟨tb, 0, none⟩)] w' fun e w'' => e = .returned (.bool true) ∧ Hid (∃ D M, Bo w0 w'' D ∧ Jn D M ∧ Bd D (k + 1) ∧ D.sp = sp ∧ D.tb = tb)) := fun w' hx => by
        obtain ⟨D', M', g1, g2, g3, g4, g5⟩ := hx.out
        have := g1.same g2 (by have := g3.L; omega)
        rw [g4, g5] at this
        refine this.mono ?_
        rintro e w'' ⟨rfl, hkk⟩
        exact ⟨rfl, D', M', g1.keep0 hkk.out, g2, g3, g4, g5⟩
      clear hc hB hJ hD esp etb hlow hP
      generalize xs k 0 = y0 at *
      generalize xs k 1 = y1 at *
      generalize xs k 2 = y2 at *
      generalize xs k 3 = y3 at *
      generalize xs k 4 = y4 at *
      generalize xs k 5 = y5 at *
      generalize xs k 6 = y6 at *
      go_wp2_with fail
      refine (HST.out _).mono ?_
      rintro e w3 ⟨rfl, h3⟩
      have HS3 := Lib.hid (HSM.out w3 h3)
      clear h3 HST HSM
      go_wp2_with fail
      refine HS3.out.mono ?_
      rintro e w4 ⟨rfl, h4⟩
      go_wp2
      go_roundw
      case rel => exact ⟨k + 1, by omega, by go_num, h4⟩
      case measure => simp [intOf]; omega
    · obtain rfl : len = k := by omega
      have dk : decide (len < len) = false := by simp
      have HKF : Hid (Keeps (fun _ => False) w wr) := by
        obtain ⟨D, M, hB, -⟩ := hP.out
        exact HK0.out.trans hB.keeps (fun _ _ h => h)
      go_wp2
      go_ret
      exact ⟨rfl, HKF.out⟩
set_option maxRecDepth 100000 in
set_option maxHeartbeats 4000000 in
theorem spacePlays_law (x : Int) (a : Option Addr) (len cap : Nat) (xs : Nat → Nat → Int) (w : World) (hA : ArgK w a len 7 xs ∧ ∀ i j, i < len → j < 7 → -9223372036854775808 ≤ xs i j) :
    Calls Try.prog 5 #[.int .i64 x, .slice a len cap] w fun e w' => e = .returned (.bool true) ∧ Below w.heap.size w w' := by
  have HAN := Lib.hid (anchor_calls w)
  by_cases h1 : x < 128 ∨ 1048576 < x
  · have HNW := fun w => Lib.hid (space_new_no w x h1)
    have hd : decide (x < 128) = true ∨ (decide (x < 128) = false ∧ decide ((1048576 : Int) < x) = true) := by
      simp only [decide_eq_true_eq, decide_eq_false_iff_not]; omega
    clear hA h1
    rcases hd with d1 | ⟨d1, d2⟩
    all_goals
      go_enter Try.func5, Try.ntmps5
      go_wp2_with fail
      refine HAN.out.mono ?_
      rintro e w0 ⟨rfl, hk0⟩
      have HK0 := Lib.hid hk0
      clear hk0
      go_wp2_with fail
      refine (HNW w0).out.mono ?_
      rintro e w1 ⟨rfl, rfl⟩
      go_wp2
      go_ret
      exact ⟨rfl, HK0.out.below (fun _ _ h => h)⟩
  obtain ⟨n, rfl⟩ : ∃ n : Nat, x = (n : Int) := ⟨x.toNat, by omega⟩
  by_cases h2 : 1024 < n ∨ 100 < len
  · have HNW := fun w => Lib.hid (space_new w n (by omega) (by omega))
    have fin : Hid (∀ w0 w1 B sp hv H, Hid (Keeps (fun _ => False) w w0) → Hid (SpaceAt w0 w1 B sp hv H [] 0) → Below w.heap.size w w1) := fun w0 w1 B sp hv H h0 h1 =>
      (h0.out.trans h1.out.keeps (fun _ _ h => h)).below (fun _ _ h => h)
    have d3 : decide ((n : Int) < 128) = false := decide_eq_false (by omega)
    have d4 : decide ((1048576 : Int) < (n : Int)) = false := decide_eq_false (by omega)
    have hd : decide ((1024 : Int) < (n : Int)) = true ∨ (decide ((1024 : Int) < (n : Int)) = false ∧ decide ((100 : Int) < (len : Int)) = true) := by
      simp only [decide_eq_true_eq, decide_eq_false_iff_not]; omega
    clear hA
    rcases hd with d1 | ⟨d1, d2⟩
    all_goals
      go_enter Try.func5, Try.ntmps5
      go_wp2_with fail
      refine HAN.out.mono ?_
      rintro e w0 ⟨rfl, hk0⟩
      have HK0 := Lib.hid hk0
      clear hk0
      go_wp2_with fail
      refine (HNW w0).out.mono ?_
      rintro e w1 ⟨B, sp, rfl, hS⟩
      go_wp2
      go_ret
      exact ⟨rfl, fin.out _ _ _ _ _ _ HK0 hS⟩
  refine (spacePlays_main w n (by omega) (by omega) a len cap (by omega) xs hA.1 hA.2).mono ?_
  rintro e w' ⟨he, hk⟩
  exact ⟨he, hk.below (fun _ _ h => h)⟩
end Go.Proofs.Ytnbiofcfphpikaa
