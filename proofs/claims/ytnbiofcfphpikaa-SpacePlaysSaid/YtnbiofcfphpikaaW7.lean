/-
  The walk of New.
-/
import Derived.Test.YtnbiofcfphpikaaW6
namespace Go.Proofs.Ytnbiofcfphpikaa
open Go.RowKit

theorem Try.info_int : (Try.prog.info? 3).map (fun i => (i.zero, i.size, i.bytes)) = some (some (.int .i64 0), 1, 8) := by kernel_rfl
theorem Try.info_u64 : (Try.prog.info? 106).map (fun i => (i.zero, i.size, i.bytes)) = some (some (.int .u64 0), 1, 8) := by kernel_rfl
theorem Try.underlying_u64s : Try.prog.underlying 102 = some (.slice 106) := by kernel_rfl

theorem madeCells_get (κ : IntKind) (n : Nat) : (madeCells (Value.int κ 0).cells n).size = n ∧ ∀ i, i < n → (madeCells (Value.int κ 0).cells n)[i]? = some (.int κ 0) := by
  refine ⟨size_madeCells _ _, fun i hi => ?_⟩
  have h := toList_madeCells_one (Value.int κ 0) n
  rw [show (Value.int κ 0).cells = #[Value.int κ 0] from rfl, ← Array.getElem?_toList, h]
  simp [hi]

section
variable (w : World) (o0 o1 o2 o3 o4 : Obj)
theorem five4 : (((((w.alloc o0).alloc o1).alloc o2).alloc o3).alloc o4).drew.heap[w.heap.size + 1 + 1 + 1 + 1]? = some o4 := by
  show (((((w.heap.push o0).push o1).push o2).push o3).push o4)[w.heap.size + 1 + 1 + 1 + 1]? = _
  rw [Array.getElem?_push, if_pos (by simp)]
theorem five3 : (((((w.alloc o0).alloc o1).alloc o2).alloc o3).alloc o4).drew.heap[w.heap.size + 1 + 1 + 1]? = some o3 := by
  show (((((w.heap.push o0).push o1).push o2).push o3).push o4)[w.heap.size + 1 + 1 + 1]? = _
  rw [Array.getElem?_push, if_neg (by simp), Array.getElem?_push, if_pos (by simp)]
theorem five2 : (((((w.alloc o0).alloc o1).alloc o2).alloc o3).alloc o4).drew.heap[w.heap.size + 1 + 1]? = some o2 := by
  show (((((w.heap.push o0).push o1).push o2).push o3).push o4)[w.heap.size + 1 + 1]? = _
  rw [Array.getElem?_push, if_neg (by simp <;> omega), Array.getElem?_push, if_neg (by simp), Array.getElem?_push, if_pos (by simp)]
theorem five1 : (((((w.alloc o0).alloc o1).alloc o2).alloc o3).alloc o4).drew.heap[w.heap.size + 1]? = some o1 := by
  show (((((w.heap.push o0).push o1).push o2).push o3).push o4)[w.heap.size + 1]? = _
  rw [Array.getElem?_push, if_neg (by simp <;> omega), Array.getElem?_push, if_neg (by simp <;> omega), Array.getElem?_push, if_neg (by simp), Array.getElem?_push, if_pos (by simp)]
theorem five0 : (((((w.alloc o0).alloc o1).alloc o2).alloc o3).alloc o4).drew.heap[w.heap.size]? = some o0 := by
  show (((((w.heap.push o0).push o1).push o2).push o3).push o4)[w.heap.size]? = _
  rw [Array.getElem?_push, if_neg (by simp <;> omega), Array.getElem?_push, if_neg (by simp <;> omega), Array.getElem?_push, if_neg (by simp <;> omega), Array.getElem?_push, if_neg (by simp), Array.getElem?_push, if_pos rfl]
theorem fiveK : Keeps (fun _ => False) w (((((w.alloc o0).alloc o1).alloc o2).alloc o3).alloc o4).drew := ((((((Keeps.refl _ _).alloc _).alloc _).alloc _).alloc _).alloc _).drew
end

theorem new_fin {w W : World} {x n N h wb c u r : Nat} {Z1 Z2 Z3 : Array Value} (hn : n = x / 64) (hN : N = 64 * n) (_h1 : 128 ≤ x)
    (hZ1 : Z1.size = N ∧ ∀ i, i < N → Z1[i]? = some (.int .i64 0)) (hZ2 : Z2.size = n ∧ ∀ i, i < n → Z2[i]? = some (.int .i64 0)) (hZ3 : Z3.size = n ∧ ∀ i, i < n → Z3[i]? = some (.int .u64 0))
    (hh : W.heap[h]? = some (.cells #[.slice (some ⟨wb, 0, none⟩) N N, .slice (some ⟨c, 0, none⟩) n n, .slice (some ⟨u, 0, none⟩) n n, .slice (some ⟨r, 0, none⟩) n n] 104 (0, 0)))
    (hw : W.heap[wb]? = some (.cells Z1 3 (0, 0))) (hc : W.heap[c]? = some (.cells (Z2.setIfInBounds 0 (.int .i64 (-2))) 3 (0, 0)))
    (hu : W.heap[u]? = some (.cells Z3 106 (0, 0))) (hr : W.heap[r]? = some (.cells Z2 3 (0, 0)))
    (hk : Keeps (fun _ => False) w W) (e1 : h ≠ wb ∧ h ≠ c ∧ h ≠ u ∧ h ≠ r ∧ wb ≠ c ∧ wb ≠ u ∧ wb ≠ r ∧ c ≠ u ∧ c ≠ r ∧ u ≠ r)
    (e2 : w.heap.size ≤ h ∧ w.heap.size ≤ wb ∧ w.heap.size ≤ c ∧ w.heap.size ≤ u ∧ w.heap.size ≤ r) :
    ∃ B : HB, Ending.returned (.pointer (some ⟨h, 0, none⟩)) = Ending.returned (.pointer (some ⟨B.h, 0, none⟩)) ∧ HeapAt W B (HS.new x) ∧ Keeps (fun _ => False) w W ∧ (∀ k, B.fp k → w.heap.size ≤ k) := by
  obtain ⟨a1, a2, a3, a4, a5, a6, a7, a8, a9, a10⟩ := e1
  obtain ⟨b1, b2, b3, b4, b5⟩ := e2
  subst hN
  have en : (HS.new x).n = n := hn.symm
  refine ⟨⟨h, wb, c, u, r⟩, rfl, ⟨?_, ?_, ?_, ?_, ?_, a1, a2, a3, a4, a5, a6, a7, a8, a9, a10⟩, hk, ?_⟩
  · rw [en]; exact hh
  · rw [en]; exact ⟨Z1, hw, hZ1⟩
  · rw [en]
    refine ⟨_, hc, by simpa using hZ2.1, fun i hi => ?_⟩
    show _ = some (Value.int .i64 (if i = 0 then -2 else 0))
    by_cases e : i = 0
    · subst e; rw [if_pos rfl]; simp [hZ2.1, hi]
    · rw [if_neg e, Array.getElem?_setIfInBounds_ne (Ne.symm e)]; exact hZ2.2 i hi
  · rw [en]; exact ⟨Z3, hu, hZ3⟩
  · rw [en]; exact ⟨Z2, hr, hZ2⟩
  · rintro k (e | e | e | e | e) <;> subst e <;> assumption

theorem make_ints (n : Nat) (hn : n ≤ 1048576) : ∃ Z : Array Value, (Z.size = n ∧ ∀ i, i < n → Z[i]? = some (.int .i64 0)) ∧
    ∀ W : World, (Instr.makeSlice 22 (.int .i64 n) (.int .i64 n)).run Try.prog W = .ok (.slice (some ⟨W.heap.size, 0, none⟩) n n) (W.alloc (.cells Z 3)) := by
  obtain ⟨i, hi, hz0, hz1, hz2⟩ := info_parts Try.info_int
  refine ⟨madeCells (Value.int .i64 0).cells n, madeCells_get _ _, fun W => ?_⟩
  have := run_make (P := Try.prog) W 22 3 i (.int .i64 0) Try.underlying_ints hi hz0 .i64 .i64 n n (by omega) (by omega) (by rw [hz2]; omega) (by omega)
  rw [hz1] at this
  simpa using this
theorem make_u64s (n : Nat) (hn : n ≤ 1048576) : ∃ Z : Array Value, (Z.size = n ∧ ∀ i, i < n → Z[i]? = some (.int .u64 0)) ∧
    ∀ W : World, (Instr.makeSlice 102 (.int .i64 n) (.int .i64 n)).run Try.prog W = .ok (.slice (some ⟨W.heap.size, 0, none⟩) n n) (W.alloc (.cells Z 106)) := by
  obtain ⟨i, hi, hz0, hz1, hz2⟩ := info_parts Try.info_u64
  refine ⟨madeCells (Value.int .u64 0).cells n, madeCells_get _ _, fun W => ?_⟩
  have := run_make (P := Try.prog) W 102 106 i (.int .u64 0) Try.underlying_u64s hi hz0 .i64 .i64 n n (by omega) (by omega) (by rw [hz2]; omega) (by omega)
  rw [hz1] at this
  simpa using this

set_option maxHeartbeats 400000 in
theorem new_no (w : World) (x : Int) (h : x < 128 ∨ 1048576 < x) :
    Calls Try.prog 53 #[.int .i64 x] w fun e w' => e = .returned (.pointer none) ∧ w = w' := by
  rcases h with h | h
  · go_enter Try.func53, Try.ntmps53
    go_wp2
    go_ret
    exact ⟨rfl, rfl⟩
  · have h' : ¬ x < 128 := by omega
    go_enter Try.func53, Try.ntmps53
    go_wp2
    go_ret
    exact ⟨rfl, rfl⟩

set_option maxHeartbeats 4000000 in
theorem new_yes (w : World) (x : Nat) (h1 : 128 ≤ x) (h2 : x ≤ 1048576) :
    Calls Try.prog 53 #[.int .i64 x] w fun e w' => ∃ B : HB, e = .returned (.pointer (some ⟨B.h, 0, none⟩)) ∧ HeapAt w' B (HS.new x) ∧ Keeps (fun _ => False) w w' ∧ (∀ k, B.fp k → w.heap.size ≤ k) := by
  obtain ⟨n, hn⟩ : ∃ n, n = x / 64 := ⟨_, rfl⟩
  obtain ⟨N, hN⟩ : ∃ N, N = 64 * n := ⟨_, rfl⟩
  have h3 : ¬ (x : Int) < 128 := by omega
  have h4 : ¬ (1048576 : Int) < (x : Int) := by omega
  have hdiv : (x : Int) / 64 = (n : Int) := by omega
  have hmul : (n : Int) * 64 = (N : Int) := by omega
  have hNb : N ≤ 1048576 := by omega
  have hnb : n ≤ 16384 := by omega
  have hn1 : (0 : Int) < (n : Int) := by omega
  obtain ⟨Z1, hZ1, mk1⟩ := make_ints N hNb
  obtain ⟨Z2, hZ2, mk2⟩ := make_ints n (by omega)
  obtain ⟨Z3, hZ3, mk3⟩ := make_u64s n (by omega)
  have z0 : Z2[0]? = some (.int .i64 0) := hZ2.2 0 (by omega)
  have HZ1 := Lib.hid hZ1
  have HZ2 := Lib.hid hZ2
  have HZ3 := Lib.hid hZ3
  have HN := Lib.hid hN
  have Hn := Lib.hid hn
  clear hZ1 hZ2 hZ3 hN hn
  go_enter Try.func53, Try.ntmps53
  go_wp2
  go_region
  all_goals go_wp2
  all_goals go_ret
  all_goals
    refine new_fin Hn.out HN.out h1 HZ1.out HZ2.out HZ3.out (five4 _ _ _ _ _ _) ?_ ?_ ?_ ?_ (fiveK _ _ _ _ _ _) (by omega) (by omega)
    all_goals first
      | exact five0 _ _ _ _ _ _
      | exact five1 _ _ _ _ _ _
      | exact five2 _ _ _ _ _ _
      | exact five3 _ _ _ _ _ _

theorem new_wf {x : Nat} (h1 : 128 ≤ x) (h2 : x ≤ 1048576) : (HS.new x).Wf := by
  refine ⟨?_, ?_, rfl, ?_, fun _ _ _ => rfl, ?_, ?_, ?_⟩
  · show 2 ≤ x / 64; omega
  · show x / 64 ≤ 16384; omega
  · intro s _
    show (if s = 0 then (-2 : Int) else 0) = 0 ∨ (if s = 0 then (-2 : Int) else 0) = -1 ∨ (if s = 0 then (-2 : Int) else 0) = -2 ∨ _
    split <;> simp
  · intro s _ h
    change 0 < (if s = 0 then (-2 : Int) else 0) at h
    split at h <;> omega
  · intro s _ h
    change (if s = 0 then (-2 : Int) else 0) = -1 at h
    split at h <;> omega
  · intro s _ h1 h
    change (if s = 0 then (-2 : Int) else 0) = -2 at h
    split at h <;> omega
end Go.Proofs.Ytnbiofcfphpikaa
