/-
  The heap of a space as a map from addresses to blocks with headers: what Make, Set, Get, Head, Collect make of it. No program in sight.
-/
import Derived.Test.YtnbiofcfphpikaaV9
import Derived.Test.YtnbiofcfphpikaaFront
namespace Go.Proofs.Ytnbiofcfphpikaa
open Go.RowKit

/-- A block with its header's parts and the words behind it. -/
structure Blk where
  k : Int
  s : Nat
  m : Int
  W : Nat → Int
abbrev Mp := Nat → Option Blk

def look (M : Mp) (x : Int) : Option Blk := if x < 0 then none else M x.toNat
theorem look_nat (M : Mp) (a : Nat) : look M (a : Int) = M a := by unfold look; rw [if_neg (by omega), Int.toNat_natCast]
theorem look_some {M : Mp} {x : Int} {b : Blk} (h : look M x = some b) : 0 ≤ x ∧ M x.toNat = some b := by
  unfold look at h
  split at h
  · cases h
  · exact ⟨by omega, h⟩
def bget (o : Option Blk) (k : Int) : Int := match o with
  | some b => if 0 ≤ k ∧ k < (b.s : Int) then b.W k.toNat else 0
  | none => 0
def bcan (o : Option Blk) (k : Int) : Bool := match o with
  | some b => decide (0 ≤ k) && decide (k < (b.s : Int))
  | none => false
def bk (o : Option Blk) : Int := match o with | some b => b.k | none => 0
def bs (o : Option Blk) : Int := match o with | some b => (b.s : Int) | none => 0
def bm (o : Option Blk) : Int := match o with | some b => b.m | none => 0
def mget (M : Mp) (x k : Int) : Int := bget (look M x) k
def mcan (M : Mp) (x k : Int) : Bool := bcan (look M x) k
theorem mget_at {M : Mp} {a : Nat} {b : Blk} (hb : M a = some b) {x : Int} (k : Nat) (hx : x = (k : Int)) (hk : k < b.s) : mget M (a : Int) x = b.W k := by
  subst hx
  unfold mget
  rw [look_nat, hb]
  unfold bget
  simp only []
  rw [if_pos (by omega), Int.toNat_natCast]
theorem mget_none {M : Mp} {x : Int} (hb : look M x = none) (k : Int) : mget M x k = 0 := by unfold mget; rw [hb]; rfl
theorem mcan_none {M : Mp} {x : Int} (hb : look M x = none) (k : Int) : mcan M x k = false := by unfold mcan; rw [hb]; rfl
theorem mcan_out {M : Mp} {x : Int} {b : Blk} (hb : look M x = some b) {k : Int} (hk : k < 0 ∨ (b.s : Int) ≤ k) : mcan M x k = false := by
  unfold mcan bcan
  rw [hb]
  rcases hk with h | h
  · simp [decide_eq_false (show ¬ 0 ≤ k by omega)]
  · simp [decide_eq_false (show ¬ k < (b.s : Int) by omega)]
theorem mget_out {M : Mp} {x : Int} {b : Blk} (hb : look M x = some b) {k : Int} (hk : k < 0 ∨ (b.s : Int) ≤ k) : mget M x k = 0 := by
  unfold mget bget
  rw [hb]
  simp only []
  rw [if_neg (by omega)]
def Blk.put (b : Blk) (k : Nat) (v : Int) : Blk := { b with W := setf b.W k v }
theorem put_same (b : Blk) (k : Nat) (v : Int) : (b.put k v).W k = v := setf_same _ _ _
theorem put_ne (b : Blk) {k j : Nat} (v : Int) (h : j ≠ k) : (b.put k v).W j = b.W j := setf_ne _ _ h
theorem put_s (b : Blk) (k : Nat) (v : Int) : (b.put k v).s = b.s := rfl
def mset (M : Mp) (a k : Nat) (v : Int) : Mp := fun c => if c = a then (M c).map fun b => b.put k v else M c
theorem mset_same {M : Mp} {a k : Nat} {v : Int} {b : Blk} (h : M a = some b) : mset M a k v a = some (b.put k v) := by simp [mset, h]
theorem mset_ne (M : Mp) {a c : Nat} (k : Nat) (v : Int) (h : c ≠ a) : mset M a k v c = M c := by simp [mset, h]
theorem mset_isSome (M : Mp) (a k : Nat) (v : Int) (c : Nat) : mset M a k v c = none ↔ M c = none := by
  by_cases h : c = a
  · subst h; simp [mset]
  · rw [mset_ne _ _ _ h]

/-- What is reached. -/
inductive MLive (M : Mp) (roots : List Int) : Nat → Prop
  | root {a : Nat} : (a : Int) ∈ roots → M a ≠ none → MLive M roots a
  | step {a c : Nat} {b : Blk} {j : Nat} : MLive M roots a → M a = some b → j < b.s → mayRef b.k b.m j = true → b.W j = (c : Int) → M c ≠ none → MLive M roots c
open Classical in
noncomputable def mlive (M : Mp) (roots : List Int) : Mp := fun a => if MLive M roots a then M a else none
theorem MLive.isSome {M : Mp} {roots : List Int} {a : Nat} (h : MLive M roots a) : M a ≠ none := by cases h <;> assumption
theorem mlive_yes {M : Mp} {roots : List Int} {a : Nat} (h : MLive M roots a) : mlive M roots a = M a := by unfold mlive; rw [if_pos h]
theorem mlive_no {M : Mp} {roots : List Int} {a : Nat} (h : ¬ MLive M roots a) : mlive M roots a = none := by unfold mlive; rw [if_neg h]
theorem mlive_some {M : Mp} {roots : List Int} {a : Nat} {b : Blk} (h : mlive M roots a = some b) : MLive M roots a ∧ M a = some b := by
  unfold mlive at h
  split at h
  · rename_i hl; exact ⟨hl, h⟩
  · cases h
theorem mlive_nil (M : Mp) : mlive M [] = fun _ => none := by
  funext a
  refine mlive_no fun h => ?_
  induction h with
  | root h _ => cases h
  | step _ _ _ _ _ _ ih => exact ih

structure Objs (H : HS) (M : Mp) : Prop where
  wf : H.Wf
  no : ∀ a, M a = none → H.room a = 0
  room : ∀ a b, M a = some b → H.room a = HS.roomOf (b.s + 1)
  head : ∀ a b, M a = some b → H.words a = hdr b.k b.s b.m
  ok : ∀ a b, M a = some b → hdrOk b.k b.s b.m
  word : ∀ a b, M a = some b → ∀ j, j < b.s → H.words (a + (j + 1)) = b.W j

namespace Objs
variable {H H' : HS} {M : Mp}
theorem room_ge (h : Objs H M) {a : Nat} {b : Blk} (hb : M a = some b) : b.s + 1 ≤ H.room a := by rw [h.room a b hb]; exact HS.roomOf_ge
theorem some_iff (h : Objs H M) (a : Nat) : M a ≠ none ↔ H.room a ≠ 0 := by
  constructor
  · intro hn
    cases hb : M a with
    | none => exact absurd hb hn
    | some b => have := h.room_ge hb; omega
  · intro hr hn; exact hr (h.no a hn)
theorem at_ (h : Objs H M) {a : Nat} {b : Blk} (hb : M a = some b) : 64 ≤ a ∧ a % 2 = 0 ∧ a + b.s < 64 * H.n ∧ b.s < 16448 ∧ a ≤ 1048576 := by
  have h1 := h.room_ge hb
  have h2 := h.wf.inside (a := a) (by omega)
  have h3 := (h.ok a b hb).2.2.2.1
  have := h.wf.nb
  omega
theorem apart (h : Objs H M) {a c : Nat} {b d : Blk} (hb : M a = some b) (hd : M c = some d) (hne : a ≠ c) : a + (b.s + 1) ≤ c ∨ c + (d.s + 1) ≤ a := by
  have h1 := h.room_ge hb
  have h2 := h.room_ge hd
  have := h.wf.apart (a := a) (b := c) (by omega) (by omega) hne
  omega
theorem headW (h : Objs H M) (x : Int) : H.headW x = match look M x with | some b => hdr b.k b.s b.m | none => 0 := by
  unfold HS.headW HS.roomI look
  by_cases hx : x < 0
  · rw [if_pos hx, if_pos hx, if_pos rfl]
  · rw [if_neg hx, if_neg hx]
    cases hb : M x.toNat with
    | none => rw [if_pos (h.no _ hb)]
    | some b => have := h.room_ge hb; rw [if_neg (by omega), h.head _ _ hb]
theorem heads (h : Objs H M) (x : Int) : hkOf (H.headW x) = bk (look M x) ∧ hsOf (H.headW x) = bs (look M x) ∧ hmOf (H.headW x) = bm (look M x) := by
  rw [h.headW]
  unfold hkOf hsOf hmOf bk bs bm
  cases hb : look M x with
  | none => simp [isHdr_zero]
  | some b =>
    have hp := hdr_parts (h.ok _ _ (look_some hb).2)
    simp [hp.2.2.2.1, hp.1, hp.2.1, hp.2.2.1]
theorem roomI (h : Objs H M) {x : Int} {b : Blk} (hb : look M x = some b) : (b.s : Int) + 1 ≤ H.roomI x := by
  have h1 := look_some hb
  have h2 := h.room_ge h1.2
  unfold HS.roomI
  rw [if_neg (by omega)]
  omega
theorem get (h : Objs H M) (x k : Int) : H.getW x k = mget M x k := by
  unfold HS.getW mget bget
  rw [(h.heads x).2.1]
  unfold bs
  cases hb : look M x with
  | none => simp only []; rw [if_pos (by omega)]
  | some b =>
    simp only []
    have h1 := look_some hb
    have h2 := h.roomI hb
    by_cases hk : 0 ≤ k ∧ k < (b.s : Int)
    · rw [if_neg (by omega), if_neg (by omega), if_pos hk]
      have := h.word _ _ h1.2 k.toNat (by omega)
      rw [← this]
      congr 1
      omega
    · rw [if_pos (by omega), if_neg hk]
theorem canSet (h : Objs H M) (x k : Int) : H.canSet x k = mcan M x k := by
  unfold HS.canSet mcan bcan
  rw [(h.heads x).2.1]
  unfold bs
  cases hb : look M x with
  | none =>
    simp only []
    by_cases h0 : 0 ≤ k
    · rw [decide_eq_false (show ¬ k < 0 by omega)]; simp
    · rw [decide_eq_false h0]; simp
  | some b =>
    simp only []
    have h2 := h.roomI hb
    by_cases hk : 0 ≤ k ∧ k < (b.s : Int)
    · rw [decide_eq_true hk.1, decide_eq_true hk.2, decide_eq_true (show k + 1 < (H.roomI x : Int) by omega)]; rfl
    · by_cases h0 : 0 ≤ k
      · rw [decide_eq_false (show ¬ k < (b.s : Int) by omega)]; simp
      · rw [decide_eq_false h0]; simp
theorem set (h : Objs H M) {x k : Int} {b : Blk} (hb : look M x = some b) (h0 : 0 ≤ k) (hk : k < (b.s : Int)) (v : Int) :
    Objs { H with words := setf H.words (x + (k + 1)).toNat v } (mset M x.toNat k.toNat v) := by
  obtain ⟨hx, hb'⟩ := look_some hb
  obtain ⟨A, rfl⟩ := Int.eq_ofNat_of_zero_le hx
  obtain ⟨K, rfl⟩ := Int.eq_ofNat_of_zero_le h0
  rw [Int.toNat_natCast] at hb' ⊢
  have e : ((A : Int) + ((K : Int) + 1)).toNat = A + (K + 1) := by omega
  rw [e, Int.toNat_natCast]
  have hK : K < b.s := by omega
  have key : ∀ a c, mset M A K v a = some c → ∃ c0, M a = some c0 ∧ c.k = c0.k ∧ c.s = c0.s ∧ c.m = c0.m ∧ c.W = if a = A then setf c0.W K v else c0.W := by
    intro a c hc
    by_cases ea : a = A
    · subst ea
      rw [mset_same hb'] at hc
      cases hc
      exact ⟨b, hb', rfl, rfl, rfl, by rw [if_pos rfl]; rfl⟩
    · rw [mset_ne _ _ _ ea] at hc
      exact ⟨c, hc, rfl, rfl, rfl, by rw [if_neg ea]⟩
  refine ⟨h.wf.withWords _, fun a ha => h.no a ((mset_isSome M A K v a).1 ha), fun a c hc => ?_, fun a c hc => ?_, fun a c hc => ?_, fun a c hc j hj => ?_⟩
  · obtain ⟨c0, h1, h2, h3, h4, h5⟩ := key a c hc
    rw [h3]; exact h.room a c0 h1
  · obtain ⟨c0, h1, h2, h3, h4, h5⟩ := key a c hc
    rw [h2, h3, h4]
    show setf H.words (A + (K + 1)) v a = _
    rw [setf_ne _ _ ?_]
    · exact h.head a c0 h1
    · by_cases ea : a = A
      · omega
      · have := h.apart h1 hb' ea; omega
  · obtain ⟨c0, h1, h2, h3, h4, h5⟩ := key a c hc
    rw [h2, h3, h4]; exact h.ok a c0 h1
  · obtain ⟨c0, h1, h2, h3, h4, h5⟩ := key a c hc
    rw [h3] at hj
    have hw := h.word a c0 h1 j hj
    show setf H.words (A + (K + 1)) v (a + (j + 1)) = _
    rw [h5]
    by_cases ea : a = A
    · subst ea
      rw [if_pos rfl]
      by_cases ej : j = K
      · subst ej; rw [setf_same, setf_same]
      · rw [setf_ne _ _ ej, setf_ne _ _ (by omega)]; exact hw
    · rw [if_neg ea, setf_ne _ _ ?_]
      · exact hw
      · have := h.apart h1 hb' ea; omega
theorem make (h : Objs H M) {a s : Nat} {k m : Int} {H1 : HS} (hk : hdrOk k s m) (hadd : HS.Adds H H1 a (HS.roomOf (s + 1))) :
    M a = none ∧ Objs (H1.headed a k s m) (setf M a (some ⟨k, s, m, fun _ => 0⟩)) := by
  have hno : M a = none := by
    cases hb : M a with
    | none => rfl
    | some b => have := h.room_ge hb; rw [hadd.was] at this; omega
  refine ⟨hno, ?_⟩
  have hge : s + 1 ≤ HS.roomOf (s + 1) := HS.roomOf_ge
  have key : ∀ c b, setf M a (some ⟨k, s, m, fun _ => 0⟩) c = some b → (c = a ∧ b = ⟨k, s, m, fun _ => 0⟩) ∨ (c ≠ a ∧ M c = some b) := by
    intro c b hc
    by_cases e : c = a
    · subst e; rw [setf_same] at hc; cases hc; exact .inl ⟨rfl, rfl⟩
    · rw [setf_ne _ _ e] at hc; exact .inr ⟨e, hc⟩
  have hout : ∀ c b, c ≠ a → M c = some b → ∀ j, j ≤ b.s → H1.words (c + j) = H.words (c + j) ∧ c + j ≠ a := by
    intro c b hca hb j hj
    have h1 := h.room_ge hb
    have h2 : H1.room c = H.room c := hadd.other c hca
    have := hadd.wf.apart (a := c) (b := a) (by omega) (by rw [hadd.is]; omega) hca
    rw [h2, hadd.is] at this
    rw [hadd.words, setr_out _ _ (by omega)]
    exact ⟨rfl, by omega⟩
  refine ⟨hadd.wf.withWords _, fun c hc => ?_, fun c b hc => ?_, fun c b hc => ?_, fun c b hc => ?_, fun c b hc j hj => ?_⟩
  · show H1.room c = 0
    by_cases e : c = a
    · subst e; rw [setf_same] at hc; cases hc
    · rw [setf_ne _ _ e] at hc; rw [hadd.other c e]; exact h.no c hc
  · show H1.room c = _
    rcases key c b hc with ⟨rfl, rfl⟩ | ⟨e, hb⟩
    · exact hadd.is
    · rw [hadd.other c e]; exact h.room c b hb
  · show setf H1.words a _ c = _
    rcases key c b hc with ⟨rfl, rfl⟩ | ⟨e, hb⟩
    · rw [setf_same]
    · have := (hout c b e hb 0 (by omega)).1
      rw [setf_ne _ _ e]
      rw [Nat.add_zero] at this
      rw [this]; exact h.head c b hb
  · rcases key c b hc with ⟨rfl, rfl⟩ | ⟨e, hb⟩
    · exact hk
    · exact h.ok c b hb
  · show setf H1.words a _ (c + (j + 1)) = _
    rcases key c b hc with ⟨rfl, rfl⟩ | ⟨e, hb⟩
    · rw [setf_ne _ _ (by omega), hadd.words, setr_in _ _ (by omega) (by simp only at hj; omega)]
    · have := hout c b e hb (j + 1) (by omega)
      rw [setf_ne _ _ this.2, this.1]; exact h.word c b hb j hj

theorem isRef (h : Objs H M) (x : Int) : H.isRef x = true ↔ ∃ a : Nat, x = (a : Int) ∧ M a ≠ none := by
  constructor
  · intro hr
    have := HS.isRef_pos h.wf hr
    exact ⟨x.toNat, by omega, (h.some_iff _).2 this.2.2⟩
  · rintro ⟨a, rfl, ha⟩
    unfold HS.isRef
    rw [HS.roomI_cast]
    exact decide_eq_true ((h.some_iff a).1 ha)
theorem mem_kidsTo (a : Nat) (kind mask x : Int) : ∀ n, x ∈ H.kidsTo a kind mask n ↔ ∃ j, j < n ∧ mayRef kind mask j = true ∧ H.words (a + (j + 1)) = x ∧ H.isRef x = true
  | 0 => by simp [HS.kidsTo]
  | n + 1 => by
    unfold HS.kidsTo
    rw [List.mem_append, mem_kidsTo a kind mask x n]
    have e : a + 1 + n = a + (n + 1) := by omega
    rw [e]
    constructor
    · rintro (⟨j, h1, h2, h3, h4⟩ | h)
      · exact ⟨j, by omega, h2, h3, h4⟩
      · split at h
        · rename_i hc
          rw [List.mem_singleton] at h
          exact ⟨n, by omega, hc.1, h.symm, by rw [h]; exact hc.2⟩
        · cases h
    · rintro ⟨j, h1, h2, h3, h4⟩
      by_cases ej : j = n
      · subst ej
        right
        rw [if_pos ⟨h2, by rw [h3]; exact h4⟩, h3]
        exact List.mem_singleton.2 rfl
      · exact .inl ⟨j, by omega, h2, h3, h4⟩
theorem mem_kids (h : Objs H M) {a : Nat} {b : Blk} (hb : M a = some b) (x : Int) : x ∈ H.kids a ↔ ∃ j, j < b.s ∧ mayRef b.k b.m j = true ∧ b.W j = x ∧ ∃ c : Nat, x = (c : Int) ∧ M c ≠ none := by
  have hp := hdr_parts (h.ok a b hb)
  have hge := h.room_ge hb
  unfold HS.kids
  rw [h.head a b hb, if_pos hp.2.2.2.1, hp.1, hp.2.1, hp.2.2.1, mem_kidsTo]
  have e : min (b.s : Int).toNat (H.room a - 1) = b.s := by omega
  rw [e]
  constructor
  · rintro ⟨j, h1, h2, h3, h4⟩
    exact ⟨j, h1, h2, by rw [← h.word a b hb j h1]; exact h3, (h.isRef x).1 h4⟩
  · rintro ⟨j, h1, h2, h3, h4⟩
    exact ⟨j, h1, h2, by rw [h.word a b hb j h1]; exact h3, (h.isRef x).2 h4⟩
theorem live (h : Objs H M) (roots : List Int) (a : Nat) : H.Live roots (a : Int) ↔ MLive M roots a := by
  constructor
  · intro hl
    have key : ∀ x, H.Live roots x → ∃ a : Nat, x = (a : Int) ∧ MLive M roots a := by
      intro x hx
      induction hx with
      | root hx hr =>
        obtain ⟨a, rfl, ha⟩ := (h.isRef _).1 hr
        exact ⟨a, rfl, .root hx ha⟩
      | step _ hy ih =>
        obtain ⟨a, rfl, ha⟩ := ih
        rw [Int.toNat_natCast] at hy
        cases hb : M a with
        | none => exact absurd hb ha.isSome
        | some b =>
          obtain ⟨j, h1, h2, h3, c, rfl, h4⟩ := (h.mem_kids hb _).1 hy
          exact ⟨c, rfl, .step ha hb h1 h2 h3 h4⟩
    obtain ⟨c, e, hc⟩ := key _ hl
    have : a = c := by omega
    rw [this]; exact hc
  · intro hl
    induction hl with
    | root h1 h2 => exact .root h1 ((h.isRef _).2 ⟨_, rfl, h2⟩)
    | step _ hb h1 h2 h3 h4 ih =>
      refine .step ih ?_
      rw [Int.toNat_natCast]
      exact (h.mem_kids hb _).2 ⟨_, h1, h2, h3, _, rfl, h4⟩
theorem swept (h : Objs H M) {roots : List Int} {c : Nat} (hs : HS.Swept H H' roots c) : Objs H' (mlive M roots) := by
  have key : ∀ a b, mlive M roots a = some b → M a = some b ∧ H'.room a = H.room a := by
    intro a b hb
    have := mlive_some hb
    exact ⟨this.2, hs.kept a ((h.live roots a).2 this.1)⟩
  refine ⟨hs.wf, fun a ha => ?_, fun a b hb => ?_, fun a b hb => ?_, fun a b hb => ?_, fun a b hb j hj => ?_⟩
  · by_cases hl : MLive M roots a
    · rw [mlive_yes hl] at ha; exact absurd ha hl.isSome
    · exact hs.gone a fun hh => hl ((h.live roots a).1 hh)
  · rw [(key a b hb).2]; exact h.room a b (key a b hb).1
  · rw [hs.words]; exact h.head a b (key a b hb).1
  · exact h.ok a b (key a b hb).1
  · rw [hs.words]; exact h.word a b (key a b hb).1 j hj
theorem front (h : Objs H M) {roots : List Int} {c F : Nat} (hs : HS.Swept H H' roots c) (hF : H.Front F) : H'.Front F := by
  intro a ha
  have hl : H.Live roots (a : Int) := by
    apply Classical.byContradiction
    intro hn
    exact ha (hs.gone a hn)
  rw [hs.kept a hl] at ha ⊢
  exact hF a ha
theorem count (h : Objs H M) {l : List Nat} (hl : l.Nodup) (hm : ∀ a, a ∈ l ↔ M a ≠ none) : H.blocks.length = l.length :=
  h.wf.count hl fun a => by rw [hm, h.some_iff]
theorem empty (h : Objs H (fun _ => none)) : H.blocks = [] ∧ H.spans = H.n - 1 := by
  have h0 : ∀ a, H.room a = 0 := fun a => h.no a rfl
  exact ⟨h.wf.blocks_empty h0, by rw [h.wf.spans_empty h0]⟩
end Objs
theorem objs_new {x : Nat} (h1 : 128 ≤ x) (h2 : x ≤ 1048576) : Objs (HS.new x) (fun _ => none) ∧ (HS.new x).Front 1 := by
  have hl := HS.new_listed (L := id) h1 (new_wf h1 h2)
  have hz : ∀ a, (HS.new x).room a = 0 := by
    intro a
    apply Classical.byContradiction
    intro h
    obtain ⟨j, hj, _⟩ := (hl.rooms a).1 h
    omega
  exact ⟨⟨hl.wf, fun a _ => hz a, (fun a b h => nomatch h), (fun a b h => nomatch h), (fun a b h => nomatch h), (fun a b h => nomatch h)⟩, fun a ha => absurd (hz a) ha⟩
end Go.Proofs.Ytnbiofcfphpikaa
