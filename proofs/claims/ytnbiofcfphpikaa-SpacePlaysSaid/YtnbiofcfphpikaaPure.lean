/-
  The heap as plain data: spans, classes, bits; what Alloc, Free, Room, Load, Store, Blocks and Spans make of it. No program in sight.
-/
import Derived.RowKit
namespace Go.Proofs.Ytnbiofcfphpikaa

def setf {α : Type} (f : Nat → α) (i : Nat) (v : α) : Nat → α := fun j => if j = i then v else f j
def setr {α : Type} (f : Nat → α) (i m : Nat) (v : α) : Nat → α := fun j => if i ≤ j ∧ j < i + m then v else f j

theorem setf_same {α : Type} (f : Nat → α) (i : Nat) (v : α) : setf f i v i = v := by simp [setf]
theorem setf_ne {α : Type} (f : Nat → α) {i j : Nat} (v : α) (h : j ≠ i) : setf f i v j = f j := by simp [setf, h]
theorem setr_in {α : Type} (f : Nat → α) {i m j : Nat} (v : α) (h : i ≤ j) (h' : j < i + m) : setr f i m v j = v := by simp [setr, h, h']
theorem setr_out {α : Type} (f : Nat → α) {i m j : Nat} (v : α) (h : j < i ∨ i + m ≤ j) : setr f i m v j = f j := by
  unfold setr; rw [if_neg (by omega)]

theorem setr_snoc {α : Type} (f : Nat → α) (i m : Nat) (v : α) : setr f i (m + 1) v = setf (setr f i m v) (i + m) v := by
  funext j
  by_cases e : j = i + m
  · subst e; rw [setf_same, setr_in _ _ (by omega) (by omega)]
  · rw [setf_ne _ _ e]
    by_cases h : i ≤ j ∧ j < i + m
    · rw [setr_in _ _ (by omega) (by omega), setr_in _ _ h.1 h.2]
    · rw [setr_out _ _ (by omega), setr_out _ _ (by omega)]
theorem setr_zero {α : Type} (f : Nat → α) (i : Nat) (v : α) : setr f i 0 v = f := by
  funext j; exact setr_out _ _ (by omega)
/-- The first place below n where p holds. -/
def first (p : Nat → Bool) : Nat → Option Nat
  | 0 => none
  | n + 1 => match first p n with
    | some i => some i
    | none => if p n then some n else none

theorem first_none {p : Nat → Bool} {n : Nat} : first p n = none ↔ ∀ j, j < n → p j = false := by
  induction n with
  | zero => simp [first]
  | succ n ih =>
    simp only [first]
    cases h : first p n with
    | some i =>
      simp only [reduceCtorEq, false_iff]
      intro hall
      rw [ih.2 (fun j hj => hall j (by omega))] at h
      cases h
    | none =>
      have h' := ih.1 h
      cases hp : p n with
      | true => simp; exact ⟨n, by omega, hp⟩
      | false =>
        simp only [Bool.false_eq_true, if_false, true_iff]
        intro j hj
        by_cases e : j = n
        · subst e; exact hp
        · exact h' j (by omega)

theorem first_some {p : Nat → Bool} {n i : Nat} : first p n = some i ↔ i < n ∧ p i = true ∧ ∀ j, j < i → p j = false := by
  induction n with
  | zero => simp [first]
  | succ n ih =>
    simp only [first]
    cases h : first p n with
    | some m =>
      obtain ⟨h1, h2, h3⟩ : m < n ∧ p m = true ∧ ∀ j, j < m → p j = false := by
        have : ∀ i, first p n = some i → i < n ∧ p i = true ∧ ∀ j, j < i → p j = false := by
          clear ih h
          intro i
          induction n with
          | zero => simp [first]
          | succ n ih =>
            simp only [first]
            cases h : first p n with
            | some q => intro e; simp only [Option.some.injEq] at e; subst e; have := ih h; exact ⟨by omega, this.2⟩
            | none =>
              cases hp : p n with
              | true => simp; intro e; subst e; exact ⟨by omega, hp, fun j hj => first_none.1 h j hj⟩
              | false => simp
        exact this m h
      simp only [Option.some.injEq]
      constructor
      · intro e; subst e; exact ⟨by omega, h2, h3⟩
      · intro ⟨a, b, c⟩
        rcases Nat.lt_trichotomy m i with hlt | heq | hgt
        · have := c m hlt; rw [h2] at this; cases this
        · exact heq
        · have := h3 i hgt; rw [b] at this; cases this
    | none =>
      have h' := first_none.1 h
      cases hp : p n with
      | true =>
        simp only [if_true, Option.some.injEq]
        constructor
        · intro e; subst e; exact ⟨by omega, hp, h'⟩
        · intro ⟨a, b, c⟩
          by_cases e : n = i
          · exact e
          · have := h' i (by omega); rw [b] at this; cases this
      | false =>
        simp only [Bool.false_eq_true, if_false, reduceCtorEq, false_iff]
        intro ⟨a, b, c⟩
        by_cases e : n = i
        · subst e; rw [hp] at b; cases b
        · have := h' i (by omega); rw [b] at this; cases this

theorem first_hit {p : Nat → Bool} {n k : Nat} (h : first p k = none) (hp : p k = true) (hk : k < n) : first p n = some k :=
  first_some.2 ⟨hk, hp, first_none.1 h⟩
theorem first_miss {p : Nat → Bool} {k : Nat} (h : first p k = none) (hp : p k = false) : first p (k + 1) = none := by
  simp [first, h, hp]
theorem first_keep {p : Nat → Bool} {k i : Nat} (h : first p k = some i) : first p (k + 1) = some i := by simp [first, h]
theorem first_new {p : Nat → Bool} {k : Nat} (h : first p k = none) (hp : p k = true) : first p (k + 1) = some k := by simp [first, h, hp]
theorem first_congr {p q : Nat → Bool} {n : Nat} (h : ∀ j, j < n → p j = q j) : first p n = first q n := by
  induction n with
  | zero => rfl
  | succ n ih => simp only [first]; rw [ih (fun j hj => h j (by omega)), h n (by omega)]

/-- The heap. -/
structure HS where
  n : Nat
  words : Nat → Int
  cls : Nat → Int
  used : Nat → Nat
  runs : Nat → Nat

namespace HS
/-- How many of the first k spans are free. -/
def cf (cls : Nat → Int) : Nat → Nat
  | 0 => 0
  | k + 1 => if cls k = 0 then cf cls k + 1 else cf cls k
theorem cf_le (cls : Nat → Int) (k : Nat) : cf cls k ≤ k := by
  induction k with
  | zero => simp [cf]
  | succ k ih => simp only [cf]; split <;> omega
theorem cf_yes {cls : Nat → Int} {k : Nat} (h : cls k = 0) : cf cls (k+1) = cf cls k + 1 := by simp [cf, h]
theorem cf_no {cls : Nat → Int} {k : Nat} (h : ¬ cls k = 0) : cf cls (k+1) = cf cls k := by simp [cf, h]

def spans (H : HS) : Nat := cf H.cls H.n

def room (H : HS) (a : Nat) : Nat :=
  if 64 * H.n ≤ a then 0
  else if H.cls (a / 64) = -1 ∧ a % 64 = 0 then 64 * H.runs (a / 64)
  else if 0 < H.cls (a / 64) ∧ a % (H.cls (a / 64)).toNat = 0 ∧ (H.used (a / 64)).testBit (a % 64 / (H.cls (a / 64)).toNat) = true then (H.cls (a / 64)).toNat
  else 0
def roomI (H : HS) (x : Int) : Nat := if x < 0 then 0 else H.room x.toNat

/-- The lowest place that isn't taken. -/
def lz (u : Nat) : Nat := (first (fun k => !u.testBit k) 64).getD 0
def classOf (x : Nat) : Nat := if x ≤ 2 then 2 else if x ≤ 4 then 4 else if x ≤ 8 then 8 else if x ≤ 16 then 16 else if x ≤ 32 then 32 else 64
def full (c : Nat) : Nat := 2 ^ (64 / c) - 1

/-- A place in a span is taken, its words made 0. -/
def place (H : HS) (s c : Nat) : HS :=
  { H with used := setf H.used s (H.used s ||| 2 ^ lz (H.used s)), words := setr H.words (64 * s + lz (H.used s) * c) c 0 }
def placeAt (H : HS) (s c : Nat) : Nat := 64 * s + lz (H.used s) * c
def hasRoom (H : HS) (c s : Nat) : Bool := decide (H.cls s = (c : Int)) && decide (H.used s ≠ full c)
def isFree (H : HS) (s : Nat) : Bool := decide (H.cls s = 0)

def allocSmall (H : HS) (c : Nat) : Option (Nat × HS) :=
  match first (H.hasRoom c) H.n with
  | some s => some (H.placeAt s c, H.place s c)
  | none => match first H.isFree H.n with
    | some f => some (H.placeAt f c, { H with cls := setf H.cls f c }.place f c)
    | none => none

/-- How many spans ahead of k, in a row up to it, are free. -/
def cons (cls : Nat → Int) : Nat → Nat
  | 0 => 0
  | k + 1 => if cls k = 0 then cons cls k + 1 else 0
def allocRun (H : HS) (m : Nat) : Option (Nat × HS) :=
  match first (fun s => decide (cons H.cls (s + 1) = m)) H.n with
  | some s => some (64 * (s + 1 - m), { H with cls := setf (setr H.cls (s + 1 - m) m (-2)) (s + 1 - m) (-1), runs := setf H.runs (s + 1 - m) m, words := setr H.words (64 * (s + 1 - m)) (64 * m) 0 })
  | none => none
def alloc (H : HS) (x : Int) : Option (Nat × HS) :=
  if x < 1 ∨ 16448 < x then none
  else if 64 < x then H.allocRun ((x.toNat + 63) / 64)
  else H.allocSmall (classOf x.toNat)

def freeAt (H : HS) (a : Nat) : HS :=
  if H.cls (a / 64) = -1 then { H with cls := setr H.cls (a / 64) (H.runs (a / 64)) 0 }
  else
    if H.used (a / 64) ^^^ 2 ^ (a % 64 / (H.cls (a / 64)).toNat) = 0 then
      { H with used := setf H.used (a / 64) 0, cls := setf H.cls (a / 64) 0 }
    else { H with used := setf H.used (a / 64) (H.used (a / 64) ^^^ 2 ^ (a % 64 / (H.cls (a / 64)).toNat)) }
def free (H : HS) (x : Int) : Option HS := if H.roomI x = 0 then none else some (H.freeAt x.toNat)

def load (H : HS) (x k : Int) : Option Int := if k < 0 ∨ (H.roomI x : Int) ≤ k then none else some (H.words (x + k).toNat)
def store (H : HS) (x k v : Int) : Option HS := if k < 0 ∨ (H.roomI x : Int) ≤ k then none else some { H with words := setf H.words (x + k).toNat v }

def spanBlocks (H : HS) (s : Nat) : List Nat :=
  if H.cls s = -1 then [64 * s]
  else if 0 < H.cls s then ((List.range (64 / (H.cls s).toNat)).filter fun k => (H.used s).testBit k).map fun k => 64 * s + k * (H.cls s).toNat
  else []
def blocksTo (H : HS) : Nat → List Nat
  | 0 => []
  | k + 1 => blocksTo H k ++ H.spanBlocks k
def blocks (H : HS) : List Nat := H.blocksTo H.n

def new (words : Nat) : HS := { n := words / 64, words := fun _ => 0, cls := fun s => if s = 0 then -2 else 0, used := fun _ => 0, runs := fun _ => 0 }

/-- The classes. -/
def Cl (c : Int) : Prop := c = 2 ∨ c = 4 ∨ c = 8 ∨ c = 16 ∨ c = 32 ∨ c = 64

structure Wf (H : HS) : Prop where
  n2 : 2 ≤ H.n
  nb : H.n ≤ 16384
  c0 : H.cls 0 = -2
  kind : ∀ s, s < H.n → H.cls s = 0 ∨ H.cls s = -1 ∨ H.cls s = -2 ∨ Cl (H.cls s)
  un : ∀ s, s < H.n → H.cls s ≤ 0 → H.used s = 0
  uc : ∀ s, s < H.n → 0 < H.cls s → H.used s ≠ 0 ∧ H.used s < 2 ^ (64 / (H.cls s).toNat)
  lg : ∀ s, s < H.n → H.cls s = -1 → 1 ≤ s ∧ 2 ≤ H.runs s ∧ s + H.runs s ≤ H.n ∧ ∀ i, s < i → i < s + H.runs s → H.cls i = -2
  mo : ∀ s, s < H.n → 1 ≤ s → H.cls s = -2 → ∃ f, 1 ≤ f ∧ f < s ∧ H.cls f = -1 ∧ s < f + H.runs f

end HS
end Go.Proofs.Ytnbiofcfphpikaa
