/-
  ListKeeps: the plain law and the contracts of its steps.
-/
import Derived.Test.YtnbiofcfphpikaaLsB
namespace Go.Proofs.Ytnbiofcfphpikaa
open Go.RowKit

/-- The array's places ahead of round k; the ledger. -/
def capK : Nat → Nat
  | 0 => 0
  | k + 1 => if capK k = k then grownTo k (k + 1) else capK k
def ledK : Nat → Lg
  | 0 => Lg.none
  | k + 1 => (if capK k = k then ((ledK k).add 2).add (grownTo k (k + 1) + 1) else (ledK k).add 2).add 5
theorem capK_ge : ∀ k, k ≤ capK k ∧ capK k ≤ 2 * k
  | 0 => by simp [capK]
  | k + 1 => by
    have := capK_ge k
    unfold capK grownTo
    split
    · split <;> omega
    · omega
theorem cost_add (L : Lg) (x : Nat) : L.cost ≤ (L.add x).cost := HS.Lg.cost_mono (HS.Lg.le_add L x)
theorem ledK_step (k : Nat) : ((ledK k).add 2).cost ≤ (ledK (k + 1)).cost := by
  rw [ledK]
  split
  · exact Nat.le_trans (cost_add _ _) (cost_add _ _)
  · exact cost_add _ _
theorem ledK_mono : ∀ {k j : Nat}, k ≤ j → (ledK k).cost ≤ (ledK j).cost := by
  intro k j h
  induction h with
  | refl => exact Nat.le_refl _
  | step _ ih => exact Nat.le_trans ih (Nat.le_trans (cost_add _ 2) (ledK_step _))
set_option maxRecDepth 100000 in
theorem ledK_60 : (ledK 60).cost ≤ 64 := by decide
theorem ledK_fits {k : Nat} (h : k ≤ 60) : (ledK k).cost ≤ 64 := Nat.le_trans (ledK_mono h) ledK_60
theorem ledK_fit2 {k : Nat} (h : k < 60) : ((ledK k).add 2).cost ≤ 64 := Nat.le_trans (ledK_step k) (ledK_fits (by omega))

/-- An element: a block of one word, its number. -/
def El (M : Mp) (a : Nat) (i : Int) : Prop := ∃ B, M a = some B ∧ B.k = 1 ∧ B.s = 1 ∧ B.W 0 = i
/-- The slice of the elements. -/
structure Lk (M : Mp) (k most c A : Nat) (az : List Nat) : Prop where
  len : az.length = k
  le : k ≤ most
  sl : Sl M c A 0 k most
  ar : Ar M A most 2 (fun j => ((az.getD j 0 : Nat) : Int))
  el : ∀ i : Nat, i < k → El M (az.getD i 0) i
namespace Lk
variable {M M' : Mp} {k most c A : Nat} {az : List Nat}
theorem getD_in {az : List Nat} {i : Nat} (h : i < az.length) : az.getD i 0 ∈ az := by
  rw [List.getD_eq_getElem?_getD, List.getElem?_eq_getElem h]
  exact List.getElem_mem h
theorem in_getD {az : List Nat} {x : Nat} (h : x ∈ az) : ∃ i, i < az.length ∧ az.getD i 0 = x := by
  obtain ⟨i, hi, e⟩ := List.mem_iff_getElem.1 h
  exact ⟨i, hi, by rw [List.getD_eq_getElem?_getD, List.getElem?_eq_getElem hi, ← e]; rfl⟩
theorem other (h : Lk M k most c A az) (e : ∀ x, x = c ∨ x = A ∨ x ∈ az → M' x = M x) : Lk M' k most c A az :=
  ⟨h.len, h.le, h.sl.other (e c (.inl rfl)), h.ar.other (e A (.inr (.inl rfl))), fun i hi => by
    obtain ⟨B, hB, h2⟩ := h.el i hi
    exact ⟨B, (e _ (.inr (.inr (getD_in (by rw [h.len]; exact hi))))).trans hB, h2⟩⟩
theorem some_ (h : Lk M k most c A az) {x : Nat} (hx : x = c ∨ x = A ∨ x ∈ az) : M x ≠ none := by
  rcases hx with rfl | rfl | hx
  · obtain ⟨B, hB, _⟩ := h.sl; rw [hB]; simp
  · obtain ⟨B, hB, _⟩ := h.ar; rw [hB]; simp
  · obtain ⟨i, hi, rfl⟩ := in_getD hx
    obtain ⟨B, hB, _⟩ := h.el i (by rw [← h.len]; exact hi)
    rw [hB]; simp
theorem there (h : Lk M k most c A az) (e : ∀ x, M x ≠ none → M' x = M x) : Lk M' k most c A az := h.other fun x hx => e x (h.some_ hx)
theorem live (h : Lk M k most c A az) (h0 : M 0 = none) (x : Nat) : MLive M [(c : Int)] x ↔ x = c ∨ x = A ∨ x ∈ az := by
  obtain ⟨B, hB, hk, hs, hm, w0, -⟩ := id h.sl
  obtain ⟨D, hD, dk, ds, -, df⟩ := id h.ar
  constructor
  · intro hl
    induction hl with
    | root h1 _ => rw [List.mem_singleton] at h1; exact .inl (by omega)
    | @step a y b' j _ hb hj hmay hw hy ih =>
      rcases ih with rfl | rfl | ih
      · rw [hB] at hb
        cases hb
        rw [hk, hm] at hmay
        unfold mayRef at hmay
        simp at hmay
        have hj0 : j = 0 := by
          rcases Nat.eq_zero_or_pos j with e | e
          · exact e
          · exfalso
            have h1 := hmay.1
            have h2 := hmay.2
            have hz : (1 : Int) / (2 : Int) ^ j = 0 := by
              apply Int.ediv_eq_zero_of_lt (by omega)
              have : (2 : Int) ^ 1 ≤ (2 : Int) ^ j := by
                have := Nat.pow_le_pow_right (show 0 < 2 by omega) e
                have e2 : ((2 ^ j : Nat) : Int) = (2 : Int) ^ j := by simp
                rw [← e2]
                simp at this ⊢
                omega
              simp at this
              omega
            rw [hz] at h2
            simp at h2
        subst hj0
        rw [w0] at hw
        exact .inr (.inl (by omega))
      · rw [hD] at hb
        cases hb
        replace hw : ((az.getD j 0 : Nat) : Int) = (y : Int) := (df j (by omega)).symm.trans hw
        by_cases hjk : j < k
        · have e : y = az.getD j 0 := by omega
          exact .inr (.inr (by rw [e]; exact getD_in (by rw [h.len]; exact hjk)))
        · have : az.getD j 0 = 0 := by rw [List.getD_eq_getElem?_getD, List.getElem?_eq_none (by rw [h.len]; omega)]; rfl
          have e : y = 0 := by omega
          subst e
          exact absurd h0 hy
      · obtain ⟨i, hi, rfl⟩ := in_getD ih
        obtain ⟨E, hE, ek, -⟩ := h.el i (by rw [← h.len]; exact hi)
        rw [hE] at hb
        cases hb
        rw [ek] at hmay
        unfold mayRef at hmay
        simp at hmay
  · intro hx
    have hroot : MLive M [(c : Int)] c := .root (List.mem_singleton.2 rfl) (h.some_ (.inl rfl))
    have hA : MLive M [(c : Int)] A := .step (j := 0) hroot hB (by omega) (by rw [hk, hm]; decide) w0 (h.some_ (.inr (.inl rfl)))
    rcases hx with rfl | rfl | hx
    · exact hroot
    · exact hA
    · have hx' := hx
      obtain ⟨i, hi, rfl⟩ := in_getD hx
      have hik : i < k := by rw [← h.len]; exact hi
      have hle := h.le
      exact .step (j := i) hA hD (by omega) (by rw [dk]; rfl) (df i (by omega)) (h.some_ (.inr (.inr hx')))
theorem swept (h : Lk M k most c A az) (h0 : M 0 = none) : Lk (mlive M [(c : Int)]) k most c A az :=
  h.other fun x hx => mlive_yes ((h.live h0 x).2 hx)
theorem nodup (h : Lk M k most c A az) : (c :: A :: az).Nodup := by
  obtain ⟨B, hB, hk, -⟩ := id h.sl
  obtain ⟨D, hD, dk, -⟩ := id h.ar
  have hel : ∀ x, x ∈ az → ∃ E : Blk, M x = some E ∧ E.k = 1 := fun x hx => by
    obtain ⟨i, hi, rfl⟩ := in_getD hx
    obtain ⟨E, hE, ek, -⟩ := h.el i (by rw [← h.len]; exact hi)
    exact ⟨E, hE, ek⟩
  rw [List.nodup_cons, List.nodup_cons]
  refine ⟨?_, ?_, ?_⟩
  · intro hm
    rcases List.mem_cons.1 hm with rfl | hm
    · rw [hB] at hD; cases hD; omega
    · obtain ⟨E, hE, ek⟩ := hel c hm
      rw [hB] at hE; cases hE; omega
  · intro hm
    obtain ⟨E, hE, ek⟩ := hel A hm
    rw [hD] at hE; cases hE; omega
  · rw [List.nodup_iff_pairwise_ne, List.pairwise_iff_getElem]
    intro i j hi hj hij e
    obtain ⟨E, hE, -, -, e0⟩ := h.el i (by rw [← h.len]; exact hi)
    obtain ⟨G, hG, -, -, g0⟩ := h.el j (by rw [← h.len]; exact hj)
    rw [List.getD_eq_getElem?_getD, List.getElem?_eq_getElem hi] at hE
    rw [List.getD_eq_getElem?_getD, List.getElem?_eq_getElem hj, ← e] at hG
    have hE' : M az[i] = some E := hE
    have hG' : M az[i] = some G := hG
    rw [hE'] at hG'
    cases hG'
    omega
theorem getD_snoc (az : List Nat) (a j : Nat) : (az ++ [a]).getD j 0 = if j < az.length then az.getD j 0 else if j = az.length then a else 0 := by
  rw [List.getD_eq_getElem?_getD, List.getD_eq_getElem?_getD]
  by_cases h : j < az.length
  · rw [List.getElem?_append_left h, if_pos h]
  · rw [List.getElem?_append_right (by omega), if_neg h]
    by_cases h2 : j = az.length
    · subst h2; simp
    · rw [if_neg h2, List.getElem?_eq_none (by simp; omega)]; rfl
theorem ne_of (h : Lk M k most c A az) {x : Nat} (hx : M x = none) : x ≠ c ∧ x ≠ A ∧ x ∉ az :=
  ⟨fun e => h.some_ (.inl e) hx, fun e => h.some_ (.inr (.inl e)) hx, fun e => h.some_ (.inr (.inr e)) hx⟩
theorem ne_ar (h : Lk M k most c A az) {x : Nat} {i : Int} (hx : El M x i) : x ≠ A := by
  rintro rfl
  obtain ⟨E, hE, ek, -⟩ := hx
  obtain ⟨D, hD, dk, -⟩ := h.ar
  rw [hE] at hD; cases hD; omega
/-- Appended where there is room. -/
theorem appIn (h : Lk M k most c A az) {a c2 : Nat} (ha : El M a k) (hk : k + 1 ≤ most) (hno : M c2 = none) (hs : Sl M' c2 A 0 (k + 1) most) (hr : Ar M' A most 2 (ovr (fun j => ((az.getD j 0 : Nat) : Int)) (0 + k) (fun _ => (a : Int)) 1)) (ho : ∀ x, x ≠ c2 → x ≠ A → M' x = M x) :
    Lk M' (k + 1) most c2 A (az ++ [a]) := by
  have hel : ∀ x i, El M x i → El M' x i := fun x i hx => by
    have h1 := h.ne_ar hx
    obtain ⟨E, hE, h2⟩ := hx
    exact ⟨E, (ho x (fun e => by rw [e, hno] at hE; cases hE) h1).trans hE, h2⟩
  refine ⟨by rw [List.length_append, h.len]; rfl, hk, hs, hr.congr fun j _ => ?_, fun i hi => ?_⟩
  · unfold ovr
    rw [getD_snoc, h.len]
    by_cases h1 : j < k
    · rw [if_neg (by omega), if_pos h1]
    · rw [if_neg h1]
      by_cases h2 : j = k
      · rw [if_pos (by omega), if_pos h2]
      · rw [if_neg (by omega), if_neg h2]
        show ((az.getD j 0 : Nat) : Int) = _
        rw [List.getD_eq_getElem?_getD, List.getElem?_eq_none (by rw [h.len]; omega)]; rfl
  · rw [getD_snoc, h.len]
    by_cases h1 : i < k
    · rw [if_pos h1]; exact hel _ _ (h.el i h1)
    · obtain rfl : i = k := by omega
      rw [if_neg h1, if_pos rfl]; exact hel _ _ ha
end Lk
/-- .. or into a new array. -/
theorem Lk.appGrow {M M' : Mp} {k : Nat} {az : List Nat} (hlen : az.length = k) (hel0 : ∀ i : Nat, i < k → El M (az.getD i 0) i) {a c2 A2 most : Nat} (ha : El M a k) (hk : k + 1 ≤ most) (hnA : M A2 = none) (hno : M c2 = none) (hs : Sl M' c2 A2 0 (k + 1) most) (hr : Ar M' A2 most 2 (app (fun j => ((az.getD j 0 : Nat) : Int)) k (fun _ => (a : Int)) 1)) (ho : ∀ x, x ≠ c2 → x ≠ A2 → M' x = M x) :
    Lk M' (k + 1) most c2 A2 (az ++ [a]) := by
  have hel : ∀ x i, El M x i → El M' x i := fun x i hx => by
    obtain ⟨E, hE, h2⟩ := hx
    exact ⟨E, (ho x (fun e => by rw [e, hno] at hE; cases hE) (fun e => by rw [e, hnA] at hE; cases hE)).trans hE, h2⟩
  refine ⟨by rw [List.length_append, hlen]; rfl, hk, hs, hr.congr fun j _ => ?_, fun i hi => ?_⟩
  · unfold app
    rw [Lk.getD_snoc, hlen]
    by_cases h1 : j < k
    · rw [if_pos h1, if_pos h1]
    · rw [if_neg h1, if_neg h1]
      by_cases h2 : j = k
      · rw [if_pos (by omega), if_pos h2]
      · rw [if_neg (by omega), if_neg h2]; rfl
  · rw [Lk.getD_snoc, hlen]
    by_cases h1 : i < k
    · rw [if_pos h1]; exact hel _ _ (hel0 i h1)
    · obtain rfl : i = k := by omega
      rw [if_neg h1, if_pos rfl]; exact hel _ _ ha

/-- The list after k rounds is at x. -/
def Ls (M : Mp) (k : Nat) (x : Int) : Prop := (k = 0 ∧ x = 0) ∨ ∃ c A az, x = ((c : Nat) : Int) ∧ 0 < k ∧ Lk M k (capK k) c A az
theorem Ls.there {M M' : Mp} {k : Nat} {x : Int} (h : Ls M k x) (e : ∀ x, M x ≠ none → M' x = M x) : Ls M' k x := by
  rcases h with h | ⟨c, A, az, hx, hk, hl⟩
  · exact .inl h
  · exact .inr ⟨c, A, az, hx, hk, hl.there e⟩
def hl (k : Nat) (x : Int) : List Int := if k = 0 then [] else [x]
theorem hl_len (k : Nat) (x : Int) : (hl k x).length ≤ 1 := by unfold hl; split <;> simp

section
variable {w wr : World} {sp k : Nat} {x : Int} {nb : Nat}
def KS (w wr : World) (sp k : Nat) (x : Int) (nb : Nat) : Prop := ∃ M n, SpB w wr R0 sp 64 M (hl k x) n (ledK k) ∧ n ≤ nb ∧ Ls M k x
def KM (w wr : World) (sp k : Nat) (x : Int) (nb a : Nat) : Prop := ∃ M n, SpB w wr R0 sp 64 (setf M a (some ⟨1, 1, 0, fun _ => 0⟩)) (hl k x) n ((ledK k).add 2) ∧ n ≤ nb ∧ Ls M k x ∧ M a = none
def KT (w wr : World) (sp k : Nat) (x : Int) (nb a : Nat) : Prop := ∃ M n, SpB w wr R0 sp 64 M (hl k x) n ((ledK k).add 2) ∧ n ≤ nb ∧ Ls M k x ∧ El M a k
def KH (w wr : World) (sp k : Nat) (x : Int) (nb a : Nat) : Prop := ∃ M n, SpB w wr R0 sp 64 M (hl k x ++ [(a : Int)]) n ((ledK k).add 2) ∧ n ≤ nb ∧ Ls M k x ∧ El M a k
def KA (w wr : World) (sp k : Nat) (held : List Int) (v : Int) (nb : Nat) : Prop := ∃ M n, SpB w wr R0 sp 64 M held n (ledK k) ∧ n ≤ nb ∧ Ls M k v
theorem KS.drewN (h : KS w wr sp k x nb) (q : Nat) : KS w (wr.drewN q) sp k x nb := by
  obtain ⟨M, n, h1, h2⟩ := h
  exact ⟨M, n, h1.drewN q, h2⟩
theorem KS.keeps (h : KS w wr sp k x nb) : Keeps (fun _ => False) w wr := by
  obtain ⟨M, n, h1, h2⟩ := h
  exact h1.keeps
theorem SpB.no0 {R : Nat → Prop} {N : Nat} {M : Mp} {held : List Int} {n : Nat} {F : Lg} (h : SpB w wr R sp N M held n F) : M 0 = none := by
  cases hb : M 0 with
  | none => rfl
  | some B => have := (h.isBlk hb).1; omega
theorem SpB.built {N : Nat} {M : Mp} {held : List Int} {n : Nat} {F : Lg} (h : SpB w wr R0 sp N M held n F) (o : Obj) : SpB w (wr.alloc o) (fun k => k = wr.heap.size) sp N M held n F :=
  h.add ((Keeps.refl _ _).alloc o) (fun k hk => .inr ⟨by omega, by subst hk; simp⟩)
theorem SpB.bare {R : Nat → Prop} {N : Nat} {M : Mp} {held : List Int} {n : Nat} {F : Lg} (h : SpB w wr R sp N M held n F) : SpB w wr R0 sp N M held n F := h.sub (fun _ h => h.elim)
theorem KS.start (h : SpB w wr R0 sp 64 (fun _ => none) [] 0 Lg.none) : KS w wr sp 0 0 0 := ⟨_, 0, h, by omega, .inl ⟨rfl, rfl⟩⟩
theorem KS.make (h : KS w wr sp k x nb) (hk : k < 60) :
    Calls Try.prog 22 #[.pointer (some ⟨sp, 0, none⟩), .int .i64 1, .int .i64 1, .int .i64 0] wr fun e w' => ∃ a : Nat, e = .returned (.tuple #[.int .i64 a, .bool true]) ∧ a ≤ 1048576 ∧ Hid (KM w w' sp k x nb a) := by
  obtain ⟨M, n, h1, h2, h3⟩ := h
  refine (bMake h1 1 0 1 (by unfold hdrOk; omega) (ledK_fit2 hk)).mono ?_
  rintro e w' ⟨a, rfl, hno, h4⟩
  exact ⟨a, rfl, (h4.out.1.isBlk (setf_same _ _ _)).2.2.2.2, M, n, h4.out.1, h2, h3, hno⟩
theorem KM.set {a : Nat} (h : KM w wr sp k x nb a) :
    Calls Try.prog 28 #[.pointer (some ⟨sp, 0, none⟩), .int .i64 a, .int .i64 0, .int .i64 k] wr fun e w' => e = .returned (.bool true) ∧ Hid (KT w w' sp k x nb a) := by
  obtain ⟨M, n, h1, h2, h3, h4⟩ := h
  refine (bSet h1 a 0 (k : Int) (setf_same _ _ _) (by show 0 < 1; omega)).mono ?_
  rintro e w' ⟨rfl, h5⟩
  refine ⟨rfl, _, n, h5.out.1, h2, h3.there fun y hy => ?_, _, mset_same (setf_same _ _ _), rfl, rfl, ?_⟩
  · have : y ≠ a := fun e => hy (e ▸ h4)
    rw [mset_ne _ _ _ this, setf_ne _ _ this]
  · rw [put_same]
theorem KT.hold {a : Nat} (h : KT w wr sp k x nb a) (ha : (Lit.int .i64 (a : Int)).wf = true) :
    Calls Try.prog 23 #[.pointer (some ⟨sp, 0, none⟩), .int .i64 a] wr fun e w' => e = .returned (.tuple #[]) ∧ Hid (KH w w' sp k x nb a) := by
  obtain ⟨M, n, h1, h2, h3⟩ := h
  refine (bHold h1 (a : Int) ha (by have := hl_len k x; omega)).mono ?_
  rintro e w' ⟨rfl, h5⟩
  exact ⟨rfl, M, n, h5.out.1, h2, h3⟩
theorem KH.app {a : Nat} (h : KH w wr sp k x nb a) (hk : k < 60) (T : TypeId) :
    Calls Try.prog 46 #[.pointer (some ⟨sp, 0, none⟩), .int .i64 x, .slice (some ⟨wr.heap.size, 0, none⟩) 1 1, .bool true] (wr.alloc (.cells #[.int .i64 a] T)) fun e w' => ∃ v : Nat, e = .returned (.tuple #[.int .i64 v, .bool true]) ∧ v ≤ 1048576 ∧
      Hid (KA w w' sp (k + 1) (hl k x ++ [(a : Int)]) v nb) := by
  obtain ⟨M, n, h1, h2, h3, h4⟩ := h
  have hlen : (hl k x ++ [(a : Int)]).length < 1000000 := by have := hl_len k x; simp; omega
  have hcap := capK_ge k
  have hcap1 := capK_ge (k + 1)
  have hfit := ledK_fits (k := k + 1) (by omega)
  have hadr : ∀ {w'' : World} {M' : Mp} {n' : Nat} {F' : Lg} {R' : Nat → Prop} {held : List Int} {A : Nat} {c lo m most : Nat}, SpB w w'' R' sp 64 M' held n' F' → Sl M' c lo A m most → c ≤ 1048576 := by
    intro w'' M' n' F' R' held A c lo m most h1 h2
    obtain ⟨B, hB, _⟩ := h2
    exact (h1.isBlk hB).2.2.2.2
  by_cases hfull : capK k = k
  · have e1 : ledK (k + 1) = (((ledK k).add 2).add (grownTo k (k + 1) + 1)).add 5 := by rw [ledK, if_pos hfull]
    have e2 : capK (k + 1) = grownTo k (k + 1) := by rw [capK, if_pos hfull]
    rw [e1] at hfit
    obtain ⟨az, hz1, hz2, hrd⟩ : ∃ az : List Nat, az.length = k ∧ (∀ i : Nat, i < k → El M (az.getD i 0) i) ∧ Rd M x k k (fun j => ((az.getD j 0 : Nat) : Int)) := by
      rcases h3 with ⟨hk0, hx⟩ | ⟨c, A, az, hx, hk0, hl⟩
      · subst hk0 hx
        exact ⟨[], rfl, fun i hi => by omega, Rd.nil M h1.no0 _⟩
      · subst hx
        rw [hfull] at hl
        exact ⟨az, hl.len, hl.el, Rd.of hl.sl hl.ar (by omega) (fun j _ => by rw [Nat.zero_add])⟩
    refine (kAppGrow (cap := 1) (h1.built (.cells #[.int .i64 a] T)) hrd rfl (items1 wr a T) true (by omega) (by omega) (by omega) (by omega) hfit hlen).mono ?_
    rintro e w' ⟨c2, rfl, A2, M', hnA, hno, -, hs, ha, ho, h5⟩
    refine ⟨c2, rfl, hadr h5.out.1 hs, M', n, by rw [e1]; exact h5.out.1.bare, h2, .inr ⟨c2, A2, az ++ [a], rfl, by omega, ?_⟩⟩
    rw [e2] at hcap1 ⊢
    exact Lk.appGrow hz1 hz2 h4 (by omega) hnA hno hs ha ho
  · have e1 : ledK (k + 1) = ((ledK k).add 2).add 5 := by rw [ledK, if_neg hfull]
    have e2 : capK (k + 1) = capK k := by rw [capK, if_neg hfull]
    rw [e1] at hfit
    rcases h3 with ⟨hk0, hx⟩ | ⟨c, A, az, hx, hk0, hl⟩
    · subst hk0; exact absurd rfl hfull
    · subst hx
      refine (kAppIn (cap := 1) (h1.built (.cells #[.int .i64 a] T)) hl.sl hl.ar (by omega) rfl (items1 wr a T) true (by omega) (by omega) (by omega) hfit hlen).mono ?_
      rintro e w' ⟨c2, rfl, M', hno, hs, ha, ho, h5⟩
      refine ⟨c2, rfl, hadr h5.out.1 hs, M', n, by rw [e1]; exact h5.out.1.bare, h2, .inr ⟨c2, A, az ++ [a], rfl, by omega, ?_⟩⟩
      rw [e2]
      exact hl.appIn h4 (by omega) hno hs ha ho
theorem KA.drop {held : List Int} {y v : Int} (h : KA w wr sp k (held ++ [y]) v nb) (hl : held.length < 1000) :
    Calls Try.prog 24 #[.pointer (some ⟨sp, 0, none⟩), .int .i64 1] wr fun e w' => e = .returned (.tuple #[]) ∧ Hid (KA w w' sp k held v nb) := by
  obtain ⟨M, n, h1, h2, h3⟩ := h
  refine (bDrop1 h1 (by omega)).mono ?_
  rintro e w' ⟨rfl, h5⟩
  exact ⟨rfl, M, n, h5.out.1, h2, h3⟩
theorem KA.drops {k0 : Nat} {y v : Int} (h : KA w wr sp k (hl k0 y) v nb) :
    Calls Try.prog 24 #[.pointer (some ⟨sp, 0, none⟩), .int .i64 1] wr fun e w' => e = .returned (.tuple #[]) ∧ Hid (KA w w' sp k [] v nb) := by
  unfold hl at h
  by_cases h0 : k0 = 0
  · rw [if_pos h0] at h
    obtain ⟨M, n, h1, h2, h3⟩ := h
    refine (bDrop0 h1 1).mono ?_
    rintro e w' ⟨rfl, h5⟩
    exact ⟨rfl, M, n, h5.out.1, h2, h3⟩
  · rw [if_neg h0] at h
    exact KA.drop (held := []) h (by simp)
theorem KA.hold {v : Int} (h : KA w wr sp (k + 1) [] v nb) (hv : (Lit.int .i64 v).wf = true) :
    Calls Try.prog 23 #[.pointer (some ⟨sp, 0, none⟩), .int .i64 v] wr fun e w' => e = .returned (.tuple #[]) ∧ Hid (KS w w' sp (k + 1) v nb) := by
  obtain ⟨M, n, h1, h2, h3⟩ := h
  refine (bHold h1 v hv (by simp)).mono ?_
  rintro e w' ⟨rfl, h5⟩
  refine ⟨rfl, M, n, ?_, h2, h3⟩
  unfold hl
  rw [if_neg (by omega)]
  exact h5.out.1
theorem Ls.swept {R : Nat → Prop} {N : Nat} {M : Mp} {n : Nat} {F : Lg} (h1 : SpB w wr R sp N M (hl k x) n F) (h : Ls M k x) : Ls (mlive M (hl k x)) k x := by
  rcases h with h | ⟨c, A, az, hx, hk0, hlk⟩
  · exact .inl h
  · subst hx
    refine .inr ⟨c, A, az, rfl, hk0, ?_⟩
    have e : hl k (c : Int) = [(c : Int)] := by unfold hl; rw [if_neg (by omega)]
    rw [e]
    exact hlk.swept h1.no0
theorem KS.collect (h : KS w wr sp k x nb) (hn : nb ≤ 1000) :
    Calls Try.prog 25 #[.pointer (some ⟨sp, 0, none⟩)] wr fun e w' => ∃ c : Nat, e = .returned (.int .i64 c) ∧ Hid (KS w w' sp k x (nb + 1)) := by
  obtain ⟨M, n, h1, h2, h3⟩ := h
  refine (bCollect h1 (by have := hl_len k x; omega) (by omega)).mono ?_
  rintro e w' ⟨c, rfl, h5⟩
  exact ⟨c, rfl, _, _, h5.out.1, by omega, h3.swept h1⟩
theorem KS.up (h : KS w wr sp k x nb) {n2 : Nat} (hn : nb ≤ n2) : KS w wr sp k x n2 := by
  obtain ⟨M, n, h1, h2, h3⟩ := h
  exact ⟨M, n, h1, by omega, h3⟩
theorem KS.at_ (h : KS w wr sp k x nb) {i : Nat} (hi : i < k) :
    ∃ a : Nat, (∀ q, Calls Try.prog 48 #[.pointer (some ⟨sp, 0, none⟩), .int .i64 x, .int .i64 i] (wr.drewN q) fun e w' => e = .returned (.tuple #[.int .i64 a, .bool true]) ∧ ∃ q2, w' = (wr.drewN q).drewN q2) ∧
      (∀ q, Calls Try.prog 29 #[.pointer (some ⟨sp, 0, none⟩), .int .i64 a, .int .i64 0] (wr.drewN q) fun e w' => e = .returned (.int .i64 i) ∧ ∃ q2, w' = (wr.drewN q).drewN q2) := by
  obtain ⟨M, n, h1, h2, h3⟩ := h
  rcases h3 with ⟨hk0, hx⟩ | ⟨c, A, az, hx, hk0, hlk⟩
  · omega
  · subst hx
    have hle := hlk.le
    refine ⟨az.getD i 0, fun q => ?_, fun q => ?_⟩
    · have := kAt (h1.drewN q) hlk.sl hlk.ar i hi (by omega)
      rw [Nat.zero_add] at this
      exact this
    · obtain ⟨B, hB, -, hs, hw⟩ := hlk.el i hi
      have := bGet (h1.drewN q) ((az.getD i 0 : Nat) : Int) 0
      rw [mget_at hB (x := 0) 0 rfl (by omega), hw] at this
      exact this
/-- What a collection leaves: the blocks l. -/
def KE (w wr : World) (sp k : Nat) (x : Int) (nb cnt : Nat) : Prop := ∃ M n, SpB w wr R0 sp 64 M (hl k x) n (ledK k) ∧ n ≤ nb ∧ ∃ l : List Nat, l.Nodup ∧ l.length = cnt ∧ ∀ a, a ∈ l ↔ M a ≠ none
theorem KS.fin (h : KS w wr sp k x nb) (hn : nb ≤ 1000) :
    Calls Try.prog 25 #[.pointer (some ⟨sp, 0, none⟩)] wr fun e w' => ∃ c : Nat, e = .returned (.int .i64 c) ∧ Hid (KE w w' sp k x (nb + 1) (if k = 0 then 0 else k + 2)) := by
  obtain ⟨M, n, h1, h2, h3⟩ := h
  refine (bCollect h1 (by have := hl_len k x; omega) (by omega)).mono ?_
  rintro e w' ⟨c, rfl, h5⟩
  refine ⟨c, rfl, _, _, h5.out.1, by omega, ?_⟩
  rcases h3 with ⟨hk0, hx⟩ | ⟨c, A, az, hx, hk0, hlk⟩
  · subst hk0
    refine ⟨[], by simp, by simp, fun a => ?_⟩
    have e : hl 0 x = [] := rfl
    rw [e, mlive_nil]
    simp
  · subst hx
    have e : hl k (c : Int) = [(c : Int)] := by unfold hl; rw [if_neg (by omega)]
    refine ⟨c :: A :: az, hlk.nodup, by rw [if_neg (by omega)]; simp [hlk.len], fun a => ?_⟩
    rw [e]
    have hlv := hlk.live h1.no0 a
    rw [List.mem_cons, List.mem_cons, ← hlv]
    by_cases hm : MLive M [(c : Int)] a
    · rw [mlive_yes hm]; exact ⟨fun _ => hm.isSome, fun _ => hm⟩
    · rw [mlive_no hm]; exact ⟨fun h => absurd h hm, fun h => absurd rfl h⟩
theorem KE.told {cnt : Nat} (h : KE w wr sp k x nb cnt) :
    Calls Try.prog 26 #[.pointer (some ⟨sp, 0, none⟩)] wr fun e w' => ∃ n f : Nat, e = .returned (.tuple #[.int .i64 cnt, .int .i64 n, .int .i64 f]) ∧ Hid (KA w w' sp k (hl k x) 0 nb ∨ True) ∧ Hid (KE w w' sp k x nb cnt) := by
  obtain ⟨M, n, h1, h2, l, hl1, hl2, hl3⟩ := h
  refine (bTold h1 hl1 hl3).mono ?_
  rintro e w' ⟨f, rfl, -, h5⟩
  exact ⟨n, f, by rw [hl2], .inr trivial, M, n, h5.out.1, h2, l, hl1, hl2, hl3⟩
def KF (w wr : World) (sp k nb : Nat) : Prop := ∃ M n, SpB w wr R0 sp 64 M [] n (ledK k) ∧ n ≤ nb
theorem KE.drop {cnt : Nat} (h : KE w wr sp k x nb cnt) :
    Calls Try.prog 24 #[.pointer (some ⟨sp, 0, none⟩), .int .i64 1] wr fun e w' => e = .returned (.tuple #[]) ∧ Hid (KF w w' sp k nb) := by
  obtain ⟨M, n, h1, h2, -⟩ := h
  unfold hl at h1
  by_cases h0 : k = 0
  · rw [if_pos h0] at h1
    refine (bDrop0 h1 1).mono ?_
    rintro e w' ⟨rfl, h5⟩
    exact ⟨rfl, M, n, h5.out.1, h2⟩
  · rw [if_neg h0] at h1
    refine (bDrop1 (held := []) h1 (by simp)).mono ?_
    rintro e w' ⟨rfl, h5⟩
    exact ⟨rfl, M, n, h5.out.1, h2⟩
theorem KF.collect (h : KF w wr sp k nb) (hn : nb ≤ 1000) :
    Calls Try.prog 25 #[.pointer (some ⟨sp, 0, none⟩)] wr fun e w' => ∃ c : Nat, e = .returned (.int .i64 c) ∧ Hid (∃ n, SpB w w' R0 sp 64 (fun _ => none) [] n (ledK k)) := by
  obtain ⟨M, n, h1, h2⟩ := h
  refine (bCollect h1 (by simp) (by omega)).mono ?_
  rintro e w' ⟨c, rfl, h5⟩
  have h6 := h5.out.1
  rw [mlive_nil] at h6
  exact ⟨c, rfl, _, h6⟩
theorem kTold0 {n : Nat} (h : SpB w wr R0 sp 64 (fun _ => none) [] n (ledK k)) :
    Calls Try.prog 26 #[.pointer (some ⟨sp, 0, none⟩)] wr fun e w' => ∃ n f : Nat, e = .returned (.tuple #[.int .i64 0, .int .i64 n, .int .i64 f]) ∧ Hid (Keeps (fun _ => False) w w') := by
  refine (bTold h (l := []) (by simp) (fun a => by simp)).mono ?_
  rintro e w' ⟨f, rfl, -, h5⟩
  exact ⟨n, f, rfl, h5.out.1.keeps⟩
end
end Go.Proofs.Ytnbiofcfphpikaa
