/-
  A space and the document's side by side; the walks of nth, block, collect.
-/
import Derived.Test.YtnbiofcfphpikaaPRc
import Derived.Test.YtnbiofcfphpikaaPRef2
import Derived.Test.YtnbiofcfphpikaaObjs
namespace Go.Proofs.Ytnbiofcfphpikaa
open Go.RowKit

/-- A block of the document's space: where it begins, its header, where its words lie, how many there are, the words. -/
structure TB where
  a : Nat
  k : Int
  s : Nat
  m : Int
  g : Nat
  wl : Nat
  W : Nat → Int
def TB.lb (x : TB) : LB := ⟨x.a, x.k, x.s, x.m, some ⟨x.g, 0, none⟩, x.wl, x.wl⟩
def lbs (L : List TB) : List LB := L.map TB.lb
theorem lbs_length (L : List TB) : (lbs L).length = L.length := by simp [lbs]
def tbd : TB := ⟨0, 0, 0, 0, 0, 0, fun _ => 0⟩
def tbat (L : List TB) (i : Nat) : TB := L.getD i tbd
theorem tbat_get {L : List TB} {i : Nat} (hi : i < L.length) : tbat L i = L[i] := by unfold tbat; rw [List.getD_eq_getElem?_getD, List.getElem?_eq_getElem hi]; rfl
theorem tbat_mem {L : List TB} {i : Nat} (hi : i < L.length) : tbat L i ∈ L := by rw [tbat_get hi]; exact List.getElem_mem hi
theorem tb_mem {L : List TB} {x : TB} (h : x ∈ L) : ∃ i, i < L.length ∧ tbat L i = x := by
  obtain ⟨i, hi, e⟩ := List.mem_iff_getElem.1 h
  exact ⟨i, hi, by rw [tbat_get hi, e]⟩
theorem lbs_at {L : List TB} {i : Nat} (hi : i < L.length) : lbat (lbs L) i = (tbat L i).lb := by
  rw [lbat_get (by rw [lbs_length]; exact hi), tbat_get hi]
  simp [lbs]

/-- All that lies in memory. -/
structure BD where
  B : HB
  sp : Nat
  hv : Value
  H : HS
  held : List Int
  n : Nat
  tb : Nat
  rb : Nat
  rlv : Value
  rL : List RB
  Hr : HS
  lv : Value
  L : List TB
  av : Value
  all : List Int
  tv : Value
  thd : List Int
  tn : Nat
  xv : Value
  xL : List TB
  zv : Value
  zn : Nat
  zf : Nat → Bool
/-- Which blocks of memory belong to which part. -/
def BD.P (D : BD) : Nat → Nat → Prop
  | 0, k => D.B.fp k
  | 1, k => k = D.sp
  | 2, k => D.hv.ownBlock = some k
  | 3, k => k = D.tb
  | 4, k => RFp D.rb D.rlv D.rL k
  | 5, k => D.lv.ownBlock = some k
  | 6, k => ∃ x ∈ D.L, x.g = k
  | 7, k => D.av.ownBlock = some k
  | 8, k => D.tv.ownBlock = some k
  | 9, k => D.xv.ownBlock = some k
  | 10, k => D.zv.ownBlock = some k
  | _ + 11, _ => False
/-- What the parts hold. -/
def BD.C (D : BD) : Nat → World → Prop
  | 0, w => HeapAt w D.B D.H
  | 1, w => w.heap[D.sp]? = some (.cells #[.nilFunc, .pointer (some ⟨D.B.h, 0, none⟩), D.hv, .int .i64 D.n] 87 (0, 0))
  | 2, w => Ints w D.hv D.held
  | 3, w => w.heap[D.tb]? = some (.cells #[.pointer (some ⟨D.rb, 0, none⟩), D.lv, D.av, D.tv, .int .i64 D.tn] 46 (0, 0))
  | 4, w => RefAt w D.rb D.rlv D.rL D.Hr
  | 5, w => w.ownsRow 0 99 5 D.lv D.L.length (lball (lbs D.L))
  | 6, w => ∀ x ∈ D.L, Row w x.g 3 .i64 x.wl x.W
  | 7, w => Ints w D.av D.all
  | 8, w => Ints w D.tv D.thd
  | 9, w => w.ownsRow 0 99 5 D.xv D.xL.length (lball (lbs D.xL))
  | 10, w => Own w 4 D.zv D.zn (fun i => .bool (D.zf i))
  | _ + 11, _ => True
structure Bo (w0 w : World) (D : BD) : Prop where
  keeps : Keeps (fun _ => False) w0 w
  lo : ∀ i k, D.P i k → w0.heap.size ≤ k
  hi : ∀ i k, D.P i k → k < w.heap.size
  ne : ∀ i j k, D.P i k → D.P j k → i = j
  c : ∀ i, D.C i w
  wf : D.H.Wf
  rwf : D.Hr.Wf
  lits : ∀ x ∈ D.held, (Lit.int .i64 x).wf = true
  gs : (D.L.map TB.g).Nodup
theorem BD.keep (D : BD) {F : Nat → Prop} {w w' : World} (hk : Keeps F w w') : ∀ i, (∀ k, D.P i k → ¬ F k) → D.C i w → D.C i w'
  | 0, hF, h => HeapAt.keep h hk hF
  | 1, hF, h => hk.at_ h (hF _ rfl)
  | 2, hF, h => Ints.keep h hk hF
  | 3, hF, h => hk.at_ h (hF _ rfl)
  | 4, hF, h => RefAt.keep h hk hF
  | 5, hF, h => ownsRow_keeps h hk hF
  | 6, hF, h => fun x hx => (h x hx).keep hk (hF _ ⟨x, hx, rfl⟩)
  | 7, hF, h => Ints.keep h hk hF
  | 8, hF, h => Ints.keep h hk hF
  | 9, hF, h => ownsRow_keeps h hk hF
  | 10, hF, h => Own.keep h hk hF
  | _ + 11, _, _ => trivial
/-- Some parts turn. -/
theorem Bo.upd {w0 w w' : World} {D D' : BD} (h : Bo w0 w D) {F : Nat → Prop} (hk : Keeps F w w') (S : Nat → Prop) (src tag : Nat → Nat) (hF : ∀ k, F k → k < w.heap.size → ∃ i, S i ∧ D.P i k)
    (hn : ∀ i, ¬ S i → D'.P i = D.P i ∧ D'.C i = D.C i) (hs : ∀ i k, S i → D'.P i k → (S (src i) ∧ D.P (src i) k) ∨ (w.heap.size ≤ k ∧ k < w'.heap.size ∧ tag k = i)) (hinj : ∀ i j, S i → S j → src i = src j → i = j) (hc : ∀ i, S i → D'.C i w')
    (wf : D'.H.Wf) (rwf : D'.Hr.Wf) (lits : ∀ x ∈ D'.held, (Lit.int .i64 x).wf = true) (gs : (D'.L.map TB.g).Nodup) : Bo w0 w' D' := by
  have hsz := h.keeps.size
  refine ⟨h.keeps.trans hk (fun k hk0 hf => ?_), fun i k hp => ?_, fun i k hp => ?_, fun i j k hp hq => ?_, fun i => ?_, wf, rwf, lits, gs⟩
  · obtain ⟨i, -, hp⟩ := hF k hf (by omega)
    have := h.lo i k hp
    omega
  · by_cases hS : S i
    · rcases hs i k hS hp with ⟨-, h1⟩ | ⟨h1, -, -⟩
      · exact h.lo _ k h1
      · omega
    · rw [(hn i hS).1] at hp; exact h.lo i k hp
  · by_cases hS : S i
    · rcases hs i k hS hp with ⟨-, h1⟩ | ⟨-, h1, -⟩
      · exact Nat.lt_of_lt_of_le (h.hi _ k h1) hk.size
      · exact h1
    · rw [(hn i hS).1] at hp; exact Nat.lt_of_lt_of_le (h.hi i k hp) hk.size
  · by_cases hS : S i
    · rcases hs i k hS hp with ⟨s1, h1⟩ | ⟨h1, -, t1⟩
      · by_cases hT : S j
        · rcases hs j k hT hq with ⟨s2, h2⟩ | ⟨h2, -, t2⟩
          · exact hinj i j hS hT (h.ne _ _ k h1 h2)
          · have := h.hi _ k h1; omega
        · rw [(hn j hT).1] at hq
          have := h.ne _ _ k h1 hq
          rw [this] at s1
          exact absurd s1 hT
      · by_cases hT : S j
        · rcases hs j k hT hq with ⟨s2, h2⟩ | ⟨h2, -, t2⟩
          · have := h.hi _ k h2; omega
          · omega
        · rw [(hn j hT).1] at hq
          have := h.hi _ k hq; omega
    · rw [(hn i hS).1] at hp
      by_cases hT : S j
      · rcases hs j k hT hq with ⟨s2, h2⟩ | ⟨h2, -, t2⟩
        · have := h.ne _ _ k hp h2
          rw [← this] at s2
          exact absurd s2 hS
        · have := h.hi _ k hp; omega
      · rw [(hn j hT).1] at hq
        exact h.ne _ _ k hp hq
  · by_cases hS : S i
    · exact hc i hS
    · rw [(hn i hS).2]
      refine D.keep hk i (fun k hp hf => ?_) (h.c i)
      obtain ⟨j, hj, hq⟩ := hF k hf (h.hi i k hp)
      have := h.ne i j k hp hq
      rw [← this] at hj
      exact hS hj

namespace Bo
variable {w0 w w' : World} {D : BD}
theorem keep0 (h : Bo w0 w D) (hk : Keeps (fun _ => False) w w') : Bo w0 w' D :=
  h.upd hk (fun _ => False) id id (fun _ h => h.elim) (fun _ _ => ⟨rfl, rfl⟩) (fun _ _ h => h.elim) (fun _ _ h => h.elim) (fun _ h => h.elim) h.wf h.rwf h.lits h.gs
theorem drewN (h : Bo w0 w D) (q : Nat) : Bo w0 (w.drewN q) D := h.keep0 ((Keeps.refl _ w).drewN q)
theorem drew (h : Bo w0 w D) : Bo w0 w.drew D := h.keep0 (Keeps.refl _ w).drew
theorem alloc (h : Bo w0 w D) (o : Obj) : Bo w0 (w.alloc o) D := h.keep0 ((Keeps.refl _ w).alloc o)
theorem space (h : Bo w0 w D) : SpaceAt w0 w D.B D.sp D.hv D.H D.held D.n :=
  ⟨h.c 0, h.wf, h.c 1, h.c 2, h.lits, h.keeps, h.lo 0, h.lo 1 _ rfl, h.lo 2, fun e => (nomatch h.ne 0 1 _ e rfl), fun g hg e => (nomatch h.ne 2 0 g hg e), fun g hg e => (nomatch h.ne 2 1 g hg e)⟩
theorem spaceOp (h : Bo w0 w D) {hv' : Value} {H' : HS} {held' : List Int} {n' : Nat} (hS : SpaceAt w0 w' D.B D.sp hv' H' held' n') (hk : Keeps (SpF D.B D.sp D.hv) w w') (hnear : ∀ k, hv'.ownBlock = some k → D.hv.ownBlock = some k ∨ w.heap.size ≤ k) :
    Bo w0 w' { D with hv := hv', H := H', held := held', n := n' } := by
  refine h.upd hk (fun i => i = 0 ∨ i = 1 ∨ i = 2) id (fun _ => 2) (fun k hf _ => ?_) (fun i hi => ?_) (fun i k hi hp => ?_) (fun i j _ _ e => e) (fun i hi => ?_) hS.wf h.rwf hS.lits h.gs
  · rcases hf with hf | hf | hf
    · exact ⟨0, .inl rfl, .inr hf⟩
    · exact ⟨1, .inr (.inl rfl), hf⟩
    · exact ⟨2, .inr (.inr rfl), hf⟩
  · rcases i with _|_|_|_|_|_|_|_|_|_|_|i <;> first | exact ⟨rfl, rfl⟩ | (exfalso; apply hi; simp)
  · rcases hi with rfl | rfl | rfl
    · exact .inl ⟨.inl rfl, hp⟩
    · exact .inl ⟨.inr (.inl rfl), hp⟩
    · rcases hnear k hp with e | e
      · exact .inl ⟨.inr (.inr rfl), e⟩
      · exact .inr ⟨e, Own.lt hS.ints k hp, rfl⟩
  · rcases hi with rfl | rfl | rfl
    · exact hS.heap
    · exact hS.me
    · exact hS.ints
/-- The document's heap. -/
def rR (w : World) (D : BD) (k : Nat) : Prop := k < w.heap.size ∧ ¬ RFp D.rb D.rlv D.rL k
theorem ref (h : Bo w0 w D) : RefA w0 w (rR w D) D.rb D.Hr :=
  ⟨D.rlv, D.rL, h.c 4, fun k hk => ⟨h.lo 4 k hk, fun hr => hr.2 hk⟩, fun k hk => hk.1⟩
theorem refOp (h : Bo w0 w D) {Hr' : HS} (hR : RefA w0 w' (rR w D) D.rb Hr') (hk : Keeps (fun k => k = D.rb) w w') (hW : Hr'.Wf) :
    ∃ rlv' rL', Bo w0 w' { D with rlv := rlv', rL := rL', Hr := Hr' } := by
  obtain ⟨lv, L, h1, h2, h3⟩ := hR
  refine ⟨lv, L, h.upd hk (fun i => i = 4) id (fun _ => 4) (fun k hf _ => ⟨4, rfl, .inl hf⟩) (fun i hi => ?_) (fun i k hi hp => ?_) (fun i j _ _ e => e) (fun i hi => ?_) h.wf hW h.lits h.gs⟩
  · rcases i with _|_|_|_|_|_|_|_|_|_|_|i <;> first | exact ⟨rfl, rfl⟩ | (exfalso; apply hi; simp)
  · subst hi
    have := (h2 k hp).2
    by_cases hr : RFp D.rb D.rlv D.rL k
    · exact .inl ⟨rfl, hr⟩
    · right
      refine ⟨?_, h1.lt k hp, rfl⟩
      apply Classical.byContradiction
      intro hlt
      exact this ⟨by omega, hr⟩
  · subst hi; exact h1
theorem t0 (h : Bo w0 w D) : w.cell? ⟨D.tb, 0, none⟩ = some (.pointer (some ⟨D.rb, 0, none⟩)) := by have h3 : w.heap[D.tb]? = _ := h.c 3; simp only [World.cell?, h3]; rfl
theorem t1 (h : Bo w0 w D) : w.cell? ⟨D.tb, 1, none⟩ = some D.lv := by have h3 : w.heap[D.tb]? = _ := h.c 3; simp only [World.cell?, h3]; rfl
theorem t2 (h : Bo w0 w D) : w.cell? ⟨D.tb, 2, none⟩ = some D.av := by have h3 : w.heap[D.tb]? = _ := h.c 3; simp only [World.cell?, h3]; rfl
theorem t3 (h : Bo w0 w D) : w.cell? ⟨D.tb, 3, none⟩ = some D.tv := by have h3 : w.heap[D.tb]? = _ := h.c 3; simp only [World.cell?, h3]; rfl
theorem t4 (h : Bo w0 w D) : w.cell? ⟨D.tb, 4, none⟩ = some (.int .i64 D.tn) := by have h3 : w.heap[D.tb]? = _ := h.c 3; simp only [World.cell?, h3]; rfl
theorem tf (h : Bo w0 w D) (i : Nat) : w.frozen? ⟨D.tb, i, none⟩ = false := by have h3 : w.heap[D.tb]? = _ := h.c 3; simp [World.frozen?, h3]
theorem rlt (h : Bo w0 w D) (k : Nat) (hk : D.P 4 k) : k < w.heap.size := h.hi 4 k hk
/-- A cell of the twin is stored to. -/
theorem setTn (h : Bo w0 w D) (m : Nat) : Bo w0 (w.setCell ⟨D.tb, 4, none⟩ (.int .i64 m)) { D with tn := m } := by
  have hk : Keeps (fun k => k = D.tb) w (w.setCell ⟨D.tb, 4, none⟩ (.int .i64 m)) := (Keeps.refl (fun k => k = D.tb) w).setCell (fun _ => rfl) _
  refine h.upd hk (fun i => i = 3) id (fun _ => 3) (fun k hf _ => ⟨3, rfl, hf⟩) (fun i hi => ?_) (fun i k hi hp => ?_) (fun i j _ _ e => e) (fun i hi => ?_) h.wf h.rwf h.lits h.gs
  · rcases i with _|_|_|_|_|_|_|_|_|_|_|i <;> first | exact ⟨rfl, rfl⟩ | (exfalso; apply hi; simp)
  · subst hi; exact .inl ⟨rfl, hp⟩
  · subst hi; exact SpaceAt.heap_set (h.c 3) _
theorem setAll (h : Bo w0 w D) {F : Nat → Prop} {av' : Value} {all' : List Int} (hk : Keeps F w w') (hF : ∀ k, F k → k < w.heap.size → D.av.ownBlock = some k) (hI : Ints w' av' all') (hn : ∀ k, av'.ownBlock = some k → D.av.ownBlock = some k ∨ w.heap.size ≤ k) :
    Bo w0 (w'.setCell ⟨D.tb, 2, none⟩ av') { D with av := av', all := all' } := by
  have hk2 : Keeps (fun k => k = D.tb) w' (w'.setCell ⟨D.tb, 2, none⟩ av') := (Keeps.refl (fun k => k = D.tb) w').setCell (fun _ => rfl) _
  have htb := h.hi 3 _ rfl
  have hno : ∀ k, av'.ownBlock = some k → k ≠ D.tb := fun k hk' e => by
    rcases hn k hk' with e1 | e1
    · exact nomatch h.ne 7 3 k e1 e
    · omega
  refine h.upd (F := fun k => F k ∨ k = D.tb) ((hk.mono (fun _ _ h => .inl h)).trans (hk2.mono (fun _ _ h => .inr h)) (fun _ _ h => h)) (fun i => i = 3 ∨ i = 7) id (fun _ => 7) (fun k hf hlt => ?_) (fun i hi => ?_) (fun i k hi hp => ?_) (fun i j _ _ e => e) (fun i hi => ?_) h.wf h.rwf h.lits h.gs
  · rcases hf with hf | hf
    · exact ⟨7, .inr rfl, hF k hf hlt⟩
    · exact ⟨3, .inl rfl, hf⟩
  · rcases i with _|_|_|_|_|_|_|_|_|_|_|i <;> first | exact ⟨rfl, rfl⟩ | (exfalso; apply hi; simp)
  · rcases hi with rfl | rfl
    · exact .inl ⟨.inl rfl, hp⟩
    · rcases hn k hp with e | e
      · exact .inl ⟨.inr rfl, e⟩
      · exact .inr ⟨e, Nat.lt_of_lt_of_le (Own.lt hI k hp) hk2.size, rfl⟩
  · rcases hi with rfl | rfl
    · exact SpaceAt.heap_set (hk.at_ (h.c 3) (fun hf => nomatch h.ne 7 3 _ (hF _ hf htb) rfl)) _
    · exact hI.keep hk2 (fun k hk' e => hno k hk' e)
theorem setHeld (h : Bo w0 w D) {F : Nat → Prop} {tv' : Value} {thd' : List Int} (hk : Keeps F w w') (hF : ∀ k, F k → k < w.heap.size → D.tv.ownBlock = some k) (hI : Ints w' tv' thd') (hn : ∀ k, tv'.ownBlock = some k → D.tv.ownBlock = some k ∨ w.heap.size ≤ k) :
    Bo w0 (w'.setCell ⟨D.tb, 3, none⟩ tv') { D with tv := tv', thd := thd' } := by
  have hk2 : Keeps (fun k => k = D.tb) w' (w'.setCell ⟨D.tb, 3, none⟩ tv') := (Keeps.refl (fun k => k = D.tb) w').setCell (fun _ => rfl) _
  have htb := h.hi 3 _ rfl
  have hno : ∀ k, tv'.ownBlock = some k → k ≠ D.tb := fun k hk' e => by
    rcases hn k hk' with e1 | e1
    · exact nomatch h.ne 8 3 k e1 e
    · omega
  refine h.upd (F := fun k => F k ∨ k = D.tb) ((hk.mono (fun _ _ h => .inl h)).trans (hk2.mono (fun _ _ h => .inr h)) (fun _ _ h => h)) (fun i => i = 3 ∨ i = 8) id (fun _ => 8) (fun k hf hlt => ?_) (fun i hi => ?_) (fun i k hi hp => ?_) (fun i j _ _ e => e) (fun i hi => ?_) h.wf h.rwf h.lits h.gs
  · rcases hf with hf | hf
    · exact ⟨8, .inr rfl, hF k hf hlt⟩
    · exact ⟨3, .inl rfl, hf⟩
  · rcases i with _|_|_|_|_|_|_|_|_|_|_|i <;> first | exact ⟨rfl, rfl⟩ | (exfalso; apply hi; simp)
  · rcases hi with rfl | rfl
    · exact .inl ⟨.inl rfl, hp⟩
    · rcases hn k hp with e | e
      · exact .inl ⟨.inr rfl, e⟩
      · exact .inr ⟨e, Nat.lt_of_lt_of_le (Own.lt hI k hp) hk2.size, rfl⟩
  · rcases hi with rfl | rfl
    · exact SpaceAt.heap_set (hk.at_ (h.c 3) (fun hf => nomatch h.ne 8 3 _ (hF _ hf htb) rfl)) _
    · exact hI.keep hk2 (fun k hk' e => hno k hk' e)
/-- A new list: its blocks are old ones, or new ones. -/
theorem setList (h : Bo w0 w D) {F : Nat → Prop} {lv' : Value} {L' : List TB} (hk : Keeps F w w') (hF : ∀ k, F k → k < w.heap.size → D.lv.ownBlock = some k) (hI : w'.ownsRow 0 99 5 lv' L'.length (lball (lbs L'))) (hn : ∀ k, lv'.ownBlock = some k → D.lv.ownBlock = some k ∨ w.heap.size ≤ k)
    (hr : ∀ x ∈ L', x ∈ D.L ∨ (w.heap.size ≤ x.g ∧ x.g < w'.heap.size ∧ lv'.ownBlock ≠ some x.g ∧ Row w' x.g 3 .i64 x.wl x.W)) (gs : (L'.map TB.g).Nodup) :
    Bo w0 (w'.setCell ⟨D.tb, 1, none⟩ lv') { D with lv := lv', L := L' } := by
  have hk2 : Keeps (fun k => k = D.tb) w' (w'.setCell ⟨D.tb, 1, none⟩ lv') := (Keeps.refl (fun k => k = D.tb) w').setCell (fun _ => rfl) _
  have htb := h.hi 3 _ rfl
  have hno : ∀ k, lv'.ownBlock = some k → k ≠ D.tb := fun k hk' e => by
    rcases hn k hk' with e1 | e1
    · exact nomatch h.ne 5 3 k e1 e
    · omega
  classical
  refine h.upd (F := fun k => F k ∨ k = D.tb) ((hk.mono (fun _ _ h => .inl h)).trans (hk2.mono (fun _ _ h => .inr h)) (fun _ _ h => h)) (fun i => i = 3 ∨ i = 5 ∨ i = 6) id (fun k => if lv'.ownBlock = some k then 5 else 6) (fun k hf hlt => ?_) (fun i hi => ?_) (fun i k hi hp => ?_) (fun i j _ _ e => e) (fun i hi => ?_) h.wf h.rwf h.lits gs
  · rcases hf with hf | hf
    · exact ⟨5, .inr (.inl rfl), hF k hf hlt⟩
    · exact ⟨3, .inl rfl, hf⟩
  · rcases i with _|_|_|_|_|_|_|_|_|_|_|i <;> first | exact ⟨rfl, rfl⟩ | (exfalso; apply hi; simp)
  · rcases hi with rfl | rfl | rfl
    · exact .inl ⟨.inl rfl, hp⟩
    · have hp' : lv'.ownBlock = some k := hp
      rcases hn k hp with e | e
      · exact .inl ⟨.inr (.inl rfl), e⟩
      · exact .inr ⟨e, Nat.lt_of_lt_of_le (hI.lt k hp).2 hk2.size, if_pos hp'⟩
    · obtain ⟨x, hx, rfl⟩ := hp
      rcases hr x hx with e | ⟨e1, e2, e3, -⟩
      · exact .inl ⟨.inr (.inr rfl), x, e, rfl⟩
      · exact .inr ⟨e1, Nat.lt_of_lt_of_le e2 hk2.size, if_neg e3⟩
  · rcases hi with rfl | rfl | rfl
    · exact SpaceAt.heap_set (hk.at_ (h.c 3) (fun hf => nomatch h.ne 5 3 _ (hF _ hf htb) rfl)) _
    · exact ownsRow_keeps hI hk2 (fun k hk' e => hno k hk' e)
    · intro x hx
      rcases hr x hx with e | ⟨e1, e2, e3, e4⟩
      · have hp : D.P 6 x.g := ⟨x, e, rfl⟩
        exact ((h.c 6 x e).keep hk (fun hf => nomatch h.ne 5 6 _ (hF _ hf (h.hi 6 _ hp)) hp)).keep hk2 (fun e' => nomatch h.ne 6 3 _ hp e')
      · exact e4.keep hk2 (by omega)
/-- The list that is being gathered. -/
theorem setX (h : Bo w0 w D) {F : Nat → Prop} {xv' : Value} {xL' : List TB} (hk : Keeps F w w') (hF : ∀ k, F k → k < w.heap.size → D.xv.ownBlock = some k) (hI : w'.ownsRow 0 99 5 xv' xL'.length (lball (lbs xL'))) (hn : ∀ k, xv'.ownBlock = some k → D.xv.ownBlock = some k ∨ w.heap.size ≤ k) :
    Bo w0 w' { D with xv := xv', xL := xL' } := by
  refine h.upd hk (fun i => i = 9) id (fun _ => 9) (fun k hf hlt => ⟨9, rfl, hF k hf hlt⟩) (fun i hi => ?_) (fun i k hi hp => ?_) (fun i j _ _ e => e) (fun i hi => ?_) h.wf h.rwf h.lits h.gs
  · rcases i with _|_|_|_|_|_|_|_|_|_|_|i <;> first | exact ⟨rfl, rfl⟩ | (exfalso; apply hi; simp)
  · subst hi
    rcases hn k hp with e | e
    · exact .inl ⟨rfl, e⟩
    · exact .inr ⟨e, (hI.lt k hp).2, rfl⟩
  · subst hi; exact hI
/-- The marks. -/
theorem setZ (h : Bo w0 w D) (hk : Keeps (fun _ => False) w w') {zv : Value} {zn : Nat} {zf : Nat → Bool} (hI : Own w' 4 zv zn (fun i => .bool (zf i))) (hn : ∀ k, zv.ownBlock = some k → w.heap.size ≤ k) :
    Bo w0 w' { D with zv := zv, zn := zn, zf := zf } := by
  refine h.upd hk (fun i => i = 10) id (fun _ => 10) (fun k hf hlt => hf.elim) (fun i hi => ?_) (fun i k hi hp => ?_) (fun i j _ _ e => e) (fun i hi => ?_) h.wf h.rwf h.lits h.gs
  · rcases i with _|_|_|_|_|_|_|_|_|_|_|i <;> first | exact ⟨rfl, rfl⟩ | (exfalso; apply hi; simp)
  · subst hi
    exact .inr ⟨hn k hp, Own.lt hI k hp, rfl⟩
  · subst hi; exact hI
/-- .. takes the list's place. -/
theorem swapX (h : Bo w0 w D) (hr : ∀ x ∈ D.xL, x ∈ D.L) (gs : (D.xL.map TB.g).Nodup) :
    Bo w0 (w.setCell ⟨D.tb, 1, none⟩ D.xv) { D with lv := D.xv, L := D.xL, xv := .slice none 0 0, xL := [] } := by
  have hk2 : Keeps (fun k => k = D.tb) w (w.setCell ⟨D.tb, 1, none⟩ D.xv) := (Keeps.refl (fun k => k = D.tb) w).setCell (fun _ => rfl) _
  refine h.upd hk2 (fun i => i = 3 ∨ i = 5 ∨ i = 6 ∨ i = 9) (fun i => if i = 5 then 9 else if i = 9 then 5 else i) id (fun k hf hlt => ⟨3, .inl rfl, hf⟩) (fun i hi => ?_) (fun i k hi hp => ?_) (fun i j hi hj e => ?_) (fun i hi => ?_) h.wf h.rwf h.lits gs
  · rcases i with _|_|_|_|_|_|_|_|_|_|_|i <;> first | exact ⟨rfl, rfl⟩ | (exfalso; apply hi; simp)
  · rcases hi with rfl | rfl | rfl | rfl
    · exact .inl ⟨.inl rfl, hp⟩
    · exact .inl ⟨.inr (.inr (.inr rfl)), hp⟩
    · obtain ⟨x, hx, rfl⟩ := hp
      exact .inl ⟨.inr (.inr (.inl rfl)), x, hr x hx, rfl⟩
    · have hp' : Value.ownBlock (.slice none 0 0) = some k := hp
      simp [Value.ownBlock] at hp'
  · rcases hi with rfl | rfl | rfl | rfl <;> rcases hj with rfl | rfl | rfl | rfl <;> simp at e ⊢
  · rcases hi with rfl | rfl | rfl | rfl
    · exact SpaceAt.heap_set (h.c 3) _
    · exact ownsRow_keeps (h.c 9) hk2 (fun k hk' e => nomatch h.ne 9 3 k hk' e)
    · intro x hx
      have hp : D.P 6 x.g := ⟨x, hr x hx, rfl⟩
      exact (h.c 6 x (hr x hx)).keep hk2 (fun e' => nomatch h.ne 6 3 _ hp e')
    · exact World.ownsRow_nil _ _ _ _
def putW (x : TB) (k : Nat) (v : Int) : TB := { x with W := setf x.W k v }
theorem lbs_set {L : List TB} {i : Nat} (hi : i < L.length) (k : Nat) (v : Int) : lbs (L.set i (putW (tbat L i) k v)) = lbs L := by
  unfold lbs
  apply List.ext_getElem
  · simp
  · intro j h1 h2
    rw [List.getElem_map, List.getElem_map, List.getElem_set]
    split
    · rename_i e; subst e; rw [tbat_get hi]; rfl
    · rfl
/-- A word of a block is stored to. -/
theorem setWord (h : Bo w0 w D) {i : Nat} (hi : i < D.L.length) {k : Nat} (hk0 : k < (tbat D.L i).wl) (v : Int) :
    Bo w0 (w.setCell ⟨(tbat D.L i).g, k, none⟩ (.int .i64 v)) { D with L := D.L.set i (putW (tbat D.L i) k v) } := by
  have hm := tbat_mem hi
  have hk2 : Keeps (fun b => b = (tbat D.L i).g) w (w.setCell ⟨(tbat D.L i).g, k, none⟩ (.int .i64 v)) := (Keeps.refl (fun b => b = (tbat D.L i).g) w).setCell (fun _ => rfl) _
  have hp6 : D.P 6 (tbat D.L i).g := ⟨_, hm, rfl⟩
  have hmem : ∀ x, x ∈ D.L.set i (putW (tbat D.L i) k v) → x = putW (tbat D.L i) k v ∨ (x ∈ D.L ∧ x.g ≠ (tbat D.L i).g) := by
    intro x hx
    obtain ⟨j, hj, e⟩ := List.mem_iff_getElem.1 hx
    rw [List.getElem_set] at e
    split at e
    · exact .inl e.symm
    · rename_i hne
      right
      have hj' : j < D.L.length := by simpa using hj
      refine ⟨e ▸ List.getElem_mem hj', fun eg => ?_⟩
      have hp := List.pairwise_iff_getElem.1 (List.nodup_iff_pairwise_ne.1 h.gs)
      have e1 : (D.L.map TB.g)[j]'(by simpa using hj') = (D.L.map TB.g)[i]'(by simpa using hi) := by
        rw [List.getElem_map, List.getElem_map, e, eg, tbat_get hi]
      rcases Nat.lt_or_gt_of_ne hne with h1 | h1
      · exact hp i j (by simpa using hi) (by simpa using hj') h1 e1.symm
      · exact hp j i (by simpa using hj') (by simpa using hi) h1 e1
  refine h.upd hk2 (fun i => i = 5 ∨ i = 6) id (fun _ => 6) (fun k hf hlt => ⟨6, .inr rfl, by rw [hf]; exact hp6⟩) (fun i hi => ?_) (fun i k hi hp => ?_) (fun i j _ _ e => e) (fun j hj => ?_) h.wf h.rwf h.lits ?_
  · rcases i with _|_|_|_|_|_|_|_|_|_|_|i <;> first | exact ⟨rfl, rfl⟩ | (exfalso; apply hi; simp)
  · rcases hi with rfl | rfl
    · exact .inl ⟨.inl rfl, hp⟩
    · obtain ⟨x, hx, rfl⟩ := hp
      rcases hmem x hx with rfl | ⟨hx', -⟩
      · exact .inl ⟨.inr rfl, _, hm, rfl⟩
      · exact .inl ⟨.inr rfl, x, hx', rfl⟩
  · rcases hj with rfl | rfl
    · have h5 : w.ownsRow 0 99 5 D.lv D.L.length (lball (lbs D.L)) := h.c 5
      have h5' := ownsRow_keeps h5 hk2 (fun k hk' e => nomatch h.ne 5 6 k hk' (e ▸ hp6))
      rw [← lbs_set hi k v] at h5'
      show World.ownsRow _ 0 99 5 D.lv (D.L.set i (putW (tbat D.L i) k v)).length _
      rw [List.length_set]
      exact h5'
    · intro x hx
      rcases hmem x hx with rfl | ⟨hx', hg⟩
      · exact (h.c 6 _ hm).set hk0 v
      · exact (h.c 6 x hx').keep hk2 hg
  · show ((D.L.set i (putW (tbat D.L i) k v)).map TB.g).Nodup
    have e : (D.L.set i (putW (tbat D.L i) k v)).map TB.g = D.L.map TB.g := by
      apply List.ext_getElem
      · simp
      · intro j h1 h2
        rw [List.getElem_map, List.getElem_map, List.getElem_set]
        split
        · rename_i e; subst e; rw [tbat_get hi]; rfl
        · rfl
    rw [e]; exact h.gs
end Bo
end Go.Proofs.Ytnbiofcfphpikaa

namespace Go.Proofs.Ytnbiofcfphpikaa
open Go.RowKit

/-- The blocks L hold the map M, and Hr has their rooms. -/
structure TR (L : List TB) (M : Mp) (Hr : HS) : Prop where
  nd : (L.map TB.a).Nodup
  at_ : ∀ x ∈ L, M x.a = some ⟨x.k, x.s, x.m, x.W⟩
  ex : ∀ a, M a ≠ none → ∃ x ∈ L, x.a = a
  wl : ∀ x ∈ L, x.wl + 1 = HS.roomOf (x.s + 1)
  ok : ∀ x ∈ L, hdrOk x.k x.s x.m
  room : ∀ a b, M a = some b → Hr.room a = HS.roomOf (b.s + 1)
  no : ∀ a, M a = none → Hr.room a = 0

def keepBy (Z : Nat → Bool) (L : List TB) : Nat → List TB
  | 0 => []
  | k + 1 => keepBy Z L k ++ (if Z k = true then [tbat L k] else [])
def goneBy (Z : Nat → Bool) : Nat → Nat
  | 0 => 0
  | k + 1 => goneBy Z k + (if Z k = true then 0 else 1)
theorem keepBy_length (Z : Nat → Bool) (L : List TB) : ∀ k, (keepBy Z L k).length + goneBy Z k = k
  | 0 => rfl
  | k + 1 => by
    have := keepBy_length Z L k
    unfold keepBy goneBy
    rw [List.length_append]
    split <;> simp <;> omega
theorem keepBy_sub (Z : Nat → Bool) (L : List TB) : ∀ k, k ≤ L.length → (keepBy Z L k).Sublist (L.take k)
  | 0, _ => by simp [keepBy]
  | k + 1, h => by
    rw [keepBy, List.take_succ_eq_append_getElem (by omega), ← tbat_get (by omega)]
    refine (keepBy_sub Z L k (by omega)).append ?_
    split
    · exact List.Sublist.refl _
    · exact List.nil_sublist _
theorem keepBy_sub' {Z : Nat → Bool} {L : List TB} {k : Nat} (h : k ≤ L.length) : (keepBy Z L k).Sublist L := (keepBy_sub Z L k h).trans (List.take_sublist _ _)
theorem mem_keepBy {Z : Nat → Bool} {L : List TB} {x : TB} : ∀ {k : Nat}, x ∈ keepBy Z L k ↔ ∃ i, i < k ∧ Z i = true ∧ x = tbat L i
  | 0 => by simp [keepBy]
  | k + 1 => by
    rw [keepBy, List.mem_append, mem_keepBy]
    constructor
    · rintro (⟨i, h1, h2, h3⟩ | h)
      · exact ⟨i, by omega, h2, h3⟩
      · split at h
        · rename_i hz; simp at h; exact ⟨k, by omega, hz, h⟩
        · simp at h
    · rintro ⟨i, h1, h2, h3⟩
      by_cases e : i = k
      · subst e; right; rw [if_pos h2]; simp [h3]
      · exact .inl ⟨i, by omega, h2, h3⟩
/-- The heap after the first k blocks were looked at. -/
structure RoomsBy (H0 : HS) (Z : Nat → Bool) (L : List TB) (k : Nat) (H : HS) : Prop where
  wf : H.Wf
  n : H.n = H0.n
  gone : ∀ i, i < k → Z i = false → H.room (tbat L i).a = 0
  kept : ∀ b, (∀ i, i < k → Z i = false → (tbat L i).a ≠ b) → H.room b = H0.room b
theorem RoomsBy.start {H0 : HS} (hW : H0.Wf) (Z : Nat → Bool) (L : List TB) : RoomsBy H0 Z L 0 H0 := ⟨hW, rfl, fun i hi => by omega, fun _ _ => rfl⟩
theorem RoomsBy.keep {H0 H : HS} {Z : Nat → Bool} {L : List TB} {k : Nat} (h : RoomsBy H0 Z L k H) (hz : Z k = true) : RoomsBy H0 Z L (k + 1) H :=
  ⟨h.wf, h.n, fun i hi hzi => h.gone i (by
    by_cases e : i = k
    · subst e; rw [hz] at hzi; cases hzi
    · omega) hzi, fun b hb => h.kept b fun i hi => hb i (by omega)⟩
theorem tb_inj {L : List TB} (nd : (L.map TB.a).Nodup) {i j : Nat} (hi : i < L.length) (hj : j < L.length) (e : (tbat L i).a = (tbat L j).a) : i = j := by
  have hp := List.pairwise_iff_getElem.1 (List.nodup_iff_pairwise_ne.1 nd)
  rw [tbat_get hi, tbat_get hj] at e
  rcases Nat.lt_trichotomy i j with h1 | h1 | h1
  · exact absurd (by rw [List.getElem_map, List.getElem_map]; exact e) (hp i j (by simpa using hi) (by simpa using hj) h1)
  · exact h1
  · exact absurd (by rw [List.getElem_map, List.getElem_map]; exact e.symm) (hp j i (by simpa using hj) (by simpa using hi) h1)
theorem RoomsBy.at_ {H0 H : HS} {Z : Nat → Bool} {L : List TB} {k : Nat} (h : RoomsBy H0 Z L k H) (nd : (L.map TB.a).Nodup) (hk : k < L.length) : H.room (tbat L k).a = H0.room (tbat L k).a :=
  h.kept _ fun i hi _ e => by have := tb_inj nd (by omega) hk e; omega
theorem RoomsBy.free {H0 H : HS} {Z : Nat → Bool} {L : List TB} {k : Nat} (h : RoomsBy H0 Z L k H) (hz : Z k = false) (hr : H.room (tbat L k).a ≠ 0) : RoomsBy H0 Z L (k + 1) (H.freeAt (tbat L k).a) := by
  have ht := h.wf.free_takes hr
  refine ⟨ht.wf, ht.n.trans h.n, fun i hi hzi => ?_, fun b hb => ?_⟩
  · by_cases e : (tbat L i).a = (tbat L k).a
    · rw [e]; exact ht.is
    · rw [ht.other _ e]
      exact h.gone i (by
        by_cases e2 : i = k
        · subst e2; exact absurd rfl e
        · omega) hzi
  · rw [ht.other b (fun e => hb k (by omega) hz e.symm)]
    exact h.kept b fun i hi => hb i (by omega)

namespace TR
variable {L : List TB} {M : Mp} {Hr Hr' : HS}
theorem some_ (h : TR L M Hr) {x : TB} (hx : x ∈ L) : M x.a ≠ none := by rw [h.at_ x hx]; simp
theorem rm (h : TR L M Hr) {x : TB} (hx : x ∈ L) : Hr.room x.a = x.wl + 1 := by rw [h.room _ _ (h.at_ x hx), h.wl x hx]
theorem s_le (h : TR L M Hr) {x : TB} (hx : x ∈ L) : x.s ≤ x.wl := by
  have := h.wl x hx
  have := HS.roomOf_ge (x := x.s + 1)
  omega
theorem room_iff (h : TR L M Hr) (a : Nat) : Hr.room a ≠ 0 ↔ M a ≠ none := by
  cases hb : M a with
  | none => simp [h.no a hb]
  | some b =>
    rw [h.room a b hb]
    have := HS.roomOf_ge (x := b.s + 1)
    simp; omega
theorem ref_iff (h : TR L M Hr) (y : Int) : Hr.isRef y = true ↔ ∃ a : Nat, y = (a : Int) ∧ M a ≠ none := by
  unfold HS.isRef HS.roomI
  rw [decide_eq_true_eq]
  by_cases h0 : y < 0
  · rw [if_pos h0]
    constructor
    · intro h; exact absurd rfl h
    · rintro ⟨a, e, _⟩; omega
  · rw [if_neg h0, h.room_iff]
    constructor
    · intro h1; exact ⟨y.toNat, by omega, h1⟩
    · rintro ⟨a, rfl, h1⟩; simpa using h1
theorem mem_kidsD {H : HS} {kd sz ms : Int} {W : Nat → Int} {y : Int} : ∀ {n : Nat}, y ∈ kidsD H kd sz ms W n ↔ ∃ j, j < n ∧ mayD kd sz ms j = true ∧ H.isRef (W j) = true ∧ y = W j
  | 0 => by simp [kidsD]
  | n + 1 => by
    rw [kidsD, List.mem_append, mem_kidsD]
    constructor
    · rintro (⟨j, h1, h2⟩ | h)
      · exact ⟨j, by omega, h2⟩
      · split at h
        · rename_i hc; simp at h; exact ⟨n, by omega, hc.1, hc.2, h⟩
        · simp at h
    · rintro ⟨j, h1, h2, h3, h4⟩
      by_cases e : j = n
      · subst e; right; rw [if_pos ⟨h2, h3⟩]; simp [h4]
      · exact .inl ⟨j, by omega, h2, h3, h4⟩
/-- The children of the i-th block. -/
def ks (Hr : HS) (L : List TB) (i : Nat) : List Int := kidsD Hr (tbat L i).k ((tbat L i).s : Int) (tbat L i).m (tbat L i).W (tbat L i).wl
def lv (M : Mp) (F : List Int) (y : Int) : Prop := ∃ a : Nat, y = (a : Int) ∧ MLive M F a
theorem root (h : TR L M Hr) (F : List Int) (i : Nat) (hi : i < L.length) (hm : ((tbat L i).a : Int) ∈ F) : lv M F ((tbat L i).a : Int) := ⟨_, rfl, .root hm (h.some_ (tbat_mem hi))⟩
theorem step (h : TR L M Hr) (F : List Int) (j k : Nat) (hj : j < L.length) (hk : k < L.length) (hl : lv M F ((tbat L j).a : Int)) (hm : ((tbat L k).a : Int) ∈ ks Hr L j) : lv M F ((tbat L k).a : Int) := by
  obtain ⟨a, ea, hl⟩ := hl
  have e : (tbat L j).a = a := by omega
  subst e
  obtain ⟨t, h1, h2, h3, h4⟩ := mem_kidsD.1 hm
  unfold mayD at h2
  simp only [Bool.and_eq_true, decide_eq_true_eq] at h2
  exact ⟨_, rfl, .step hl (h.at_ _ (tbat_mem hj)) (by show t < (tbat L j).s; omega) h2.2 h4.symm (h.some_ (tbat_mem hk))⟩
theorem marks (h : TR L M Hr) (F : List Int) (Z : Nat → Bool) (ho : Rc7.Out (fun i => ((tbat L i).a : Int)) F (fun i => ks Hr L i) (lv M F) L.length Z false) : ∀ i, i < L.length → (Z i = true ↔ lv M F ((tbat L i).a : Int)) := by
  have key : ∀ a, MLive M F a → ∃ i, i < L.length ∧ (tbat L i).a = a ∧ Z i = true := by
    intro a ha
    induction ha with
    | @root a h1 h2 =>
      obtain ⟨x, hx, rfl⟩ := h.ex _ h2
      obtain ⟨i, hi, rfl⟩ := tb_mem hx
      refine ⟨i, hi, rfl, ?_⟩
      cases hb : Z i with
      | true => rfl
      | false => exact absurd (.inl h1) (ho.closed rfl i hi hb)
    | @step a c b j _ hb hj hm hw hc ih =>
      obtain ⟨i, hi, rfl, hz⟩ := ih
      obtain ⟨x, hx, rfl⟩ := h.ex _ hc
      obtain ⟨k, hk, rfl⟩ := tb_mem hx
      refine ⟨k, hk, rfl, ?_⟩
      cases hbk : Z k with
      | true => rfl
      | false =>
        refine absurd (.inr ⟨i, hi, hz, ?_⟩) (ho.closed rfl k hk hbk)
        rw [h.at_ _ (tbat_mem hi)] at hb
        cases hb
        have hs := h.s_le (tbat_mem hi)
        have hj' : j < (tbat L i).s := hj
        refine mem_kidsD.2 ⟨j, by omega, ?_, ?_, hw.symm⟩
        · unfold mayD
          rw [decide_eq_true (by omega), Bool.true_and]; exact hm
        · exact (h.ref_iff _).2 ⟨_, hw, hc⟩
  intro i hi
  refine ⟨ho.sound i hi, ?_⟩
  rintro ⟨a, ea, hl⟩
  obtain ⟨k, hk, e, hz⟩ := key a hl
  have : i = k := tb_inj h.nd hi hk (by omega)
  rw [this]; exact hz
/-- What a collection leaves. -/
theorem swept (h : TR L M Hr) {F : List Int} {Z : Nat → Bool} (hz : ∀ i, i < L.length → (Z i = true ↔ lv M F ((tbat L i).a : Int))) (hr : RoomsBy Hr Z L L.length Hr') : TR (keepBy Z L L.length) (mlive M F) Hr' := by
  have hsub := keepBy_sub' (Z := Z) (Nat.le_refl L.length)
  have hlv : ∀ i, i < L.length → (Z i = true ↔ MLive M F (tbat L i).a) := fun i hi => by
    rw [hz i hi]
    constructor
    · rintro ⟨a, e, hl⟩
      have : (tbat L i).a = a := by omega
      rw [this]; exact hl
    · exact fun h => ⟨_, rfl, h⟩
  have hin : ∀ x, x ∈ keepBy Z L L.length → x ∈ L ∧ MLive M F x.a := fun x hx => by
    obtain ⟨i, hi, h1, rfl⟩ := mem_keepBy.1 hx
    exact ⟨tbat_mem hi, (hlv i hi).1 h1⟩
  have hat : ∀ a, MLive M F a → ∃ i, i < L.length ∧ (tbat L i).a = a ∧ Z i = true := fun a ha => by
    obtain ⟨x, hx, rfl⟩ := h.ex a ha.isSome
    obtain ⟨i, hi, rfl⟩ := tb_mem hx
    exact ⟨i, hi, rfl, (hlv i hi).2 ha⟩
  refine ⟨h.nd.sublist (hsub.map _), fun x hx => ?_, fun a ha => ?_, fun x hx => h.wl x (hin x hx).1, fun x hx => h.ok x (hin x hx).1, fun a b hb => ?_, fun a ha => ?_⟩
  · rw [mlive_yes (hin x hx).2]; exact h.at_ x (hin x hx).1
  · by_cases hm : MLive M F a
    · obtain ⟨i, hi, e, hz⟩ := hat a hm
      exact ⟨_, mem_keepBy.2 ⟨i, hi, hz, rfl⟩, e⟩
    · exact absurd (mlive_no hm) ha
  · obtain ⟨hm, hb⟩ := mlive_some hb
    obtain ⟨i, hi, e, hzi⟩ := hat a hm
    rw [hr.kept a (fun j hj hzj ej => by
      have := tb_inj h.nd hj hi (by omega)
      subst this
      rw [hzi] at hzj; cases hzj)]
    exact h.room a b hb
  · by_cases hm : MLive M F a
    · rw [mlive_yes hm] at ha; exact absurd ha hm.isSome
    · cases hb : M a with
      | none =>
        rw [hr.kept a (fun j hj hzj ej => by
          have := h.some_ (tbat_mem hj)
          rw [ej] at this
          exact this hb)]
        exact h.no a hb
      | some b =>
        obtain ⟨x, hx, rfl⟩ := h.ex a (by rw [hb]; simp)
        obtain ⟨i, hi, rfl⟩ := tb_mem hx
        refine hr.gone i hi ?_
        cases hzi : Z i with
        | false => rfl
        | true => exact absurd ((hlv i hi).1 hzi) hm
/-- A new block. -/
theorem make (h : TR L M Hr) {a s g : Nat} {k m : Int} (hk : hdrOk k s m) (hadd : HS.Adds Hr Hr' a (HS.roomOf (s + 1))) :
    TR (L ++ [⟨a, k, s, m, g, HS.roomOf (s + 1) - 1, fun _ => 0⟩]) (setf M a (some ⟨k, s, m, fun _ => 0⟩)) Hr' := by
  have hno : M a = none := by
    cases hb : M a with
    | none => rfl
    | some b => exact absurd hadd.was ((h.room_iff a).2 (by rw [hb]; simp))
  have hge := HS.roomOf_ge (x := s + 1)
  have hin : ∀ x, x ∈ L ++ [(⟨a, k, s, m, g, HS.roomOf (s + 1) - 1, fun _ => 0⟩ : TB)] → x ∈ L ∨ x = ⟨a, k, s, m, g, HS.roomOf (s + 1) - 1, fun _ => 0⟩ := fun x hx => by simpa using hx
  have hne : ∀ x, x ∈ L → x.a ≠ a := fun x hx e => h.some_ hx (e ▸ hno)
  refine ⟨?_, fun x hx => ?_, fun c hc => ?_, fun x hx => ?_, fun x hx => ?_, fun c b hb => ?_, fun c hc => ?_⟩
  · rw [List.map_append, List.nodup_append]
    refine ⟨h.nd, by simp, fun y hy z hz e => ?_⟩
    obtain ⟨x, hx, rfl⟩ := List.mem_map.1 hy
    simp at hz
    exact hne x hx (e.trans hz)
  · rcases hin x hx with hx | rfl
    · rw [setf_ne _ _ (hne x hx)]; exact h.at_ x hx
    · exact setf_same _ _ _
  · by_cases e : c = a
    · exact ⟨⟨a, k, s, m, g, HS.roomOf (s + 1) - 1, fun _ => 0⟩, List.mem_append_right _ (List.mem_singleton.2 rfl), e.symm⟩
    · rw [setf_ne _ _ e] at hc
      obtain ⟨x, hx, e2⟩ := h.ex c hc
      exact ⟨x, by simp [hx], e2⟩
  · rcases hin x hx with hx | rfl
    · exact h.wl x hx
    · show HS.roomOf (s + 1) - 1 + 1 = HS.roomOf (s + 1); omega
  · rcases hin x hx with hx | rfl
    · exact h.ok x hx
    · exact hk
  · by_cases e : c = a
    · subst e
      rw [setf_same] at hb
      cases hb
      exact hadd.is
    · rw [setf_ne _ _ e] at hb
      rw [hadd.other c e]; exact h.room c b hb
  · by_cases e : c = a
    · subst e
      rw [setf_same] at hc
      cases hc
    · rw [setf_ne _ _ e] at hc
      rw [hadd.other c e]; exact h.no c hc
/-- A word is set. -/
theorem set (h : TR L M Hr) {i : Nat} (hi : i < L.length) (k : Nat) (v : Int) : TR (L.set i (Bo.putW (tbat L i) k v)) (mset M (tbat L i).a k v) Hr := by
  have hm := tbat_mem hi
  have hmem : ∀ x, x ∈ L.set i (Bo.putW (tbat L i) k v) → x = Bo.putW (tbat L i) k v ∨ (x ∈ L ∧ x.a ≠ (tbat L i).a) := by
    intro x hx
    obtain ⟨j, hj, e⟩ := List.mem_iff_getElem.1 hx
    rw [List.getElem_set] at e
    split at e
    · exact .inl e.symm
    · rename_i hne
      right
      have hj' : j < L.length := by simpa using hj
      refine ⟨e ▸ List.getElem_mem hj', fun ea => ?_⟩
      rw [← e, ← tbat_get hj'] at ea
      exact hne (tb_inj h.nd hj' hi ea).symm
  have hmap : (L.set i (Bo.putW (tbat L i) k v)).map TB.a = L.map TB.a := by
    apply List.ext_getElem
    · simp
    · intro j h1 h2
      rw [List.getElem_map, List.getElem_map, List.getElem_set]
      split
      · rename_i e; subst e; rw [tbat_get hi]; rfl
      · rfl
  refine ⟨by rw [hmap]; exact h.nd, fun x hx => ?_, fun c hc => ?_, fun x hx => ?_, fun x hx => ?_, fun c b hb => ?_, fun c hc => ?_⟩
  · rcases hmem x hx with rfl | ⟨hx, hne⟩
    · exact mset_same (h.at_ _ hm)
    · rw [mset_ne _ _ _ hne]; exact h.at_ x hx
  · rw [Ne, mset_isSome] at hc
    obtain ⟨x, hx, e⟩ := h.ex c hc
    have : c ∈ (L.set i (Bo.putW (tbat L i) k v)).map TB.a := by rw [hmap]; exact List.mem_map.2 ⟨x, hx, e⟩
    obtain ⟨y, hy, e⟩ := List.mem_map.1 this
    exact ⟨y, hy, e⟩
  · rcases hmem x hx with rfl | ⟨hx, -⟩
    · exact h.wl (tbat L i) hm
    · exact h.wl x hx
  · rcases hmem x hx with rfl | ⟨hx, -⟩
    · exact h.ok (tbat L i) hm
    · exact h.ok x hx
  · by_cases e : c = (tbat L i).a
    · subst e
      rw [mset_same (h.at_ _ hm)] at hb
      cases hb
      exact h.room (tbat L i).a ⟨(tbat L i).k, (tbat L i).s, (tbat L i).m, (tbat L i).W⟩ (h.at_ _ hm)
    · rw [mset_ne _ _ _ e] at hb; exact h.room c b hb
  · exact h.no c ((mset_isSome M _ k v c).1 hc)
end TR
end Go.Proofs.Ytnbiofcfphpikaa

namespace Go.Proofs.Ytnbiofcfphpikaa
open Go.RowKit

namespace Bo
variable {w0 w w' : World} {D : BD}
/-- The list of blocks. -/
theorem rowAt (h : Bo w0 w D) : ∃ al cl, D.lv = .slice al D.L.length cl ∧ ∀ i, i < D.L.length → ∃ b, al = some ⟨b, 0, none⟩ ∧ w.cell? ⟨b, i * 5, none⟩ = some (.int .i64 ((tbat D.L i).a : Nat)) ∧ w.cell? ⟨b, i * 5 + 1, none⟩ = some (.int .i64 (tbat D.L i).k) ∧
    w.cell? ⟨b, i * 5 + 2, none⟩ = some (.int .i64 ((tbat D.L i).s : Nat)) ∧ w.cell? ⟨b, i * 5 + 3, none⟩ = some (.int .i64 (tbat D.L i).m) ∧ w.cell? ⟨b, i * 5 + 4, none⟩ = some (.slice (some ⟨(tbat D.L i).g, 0, none⟩) (tbat D.L i).wl (tbat D.L i).wl) := by
  have h5 : w.ownsRow 0 99 5 D.lv D.L.length (lball (lbs D.L)) := h.c 5
  obtain ⟨al, cl, e, -⟩ := ownsRow_slice h5
  refine ⟨al, cl, e, fun i hi => ?_⟩
  rw [e, ← lbs_length D.L] at h5
  obtain ⟨b, e1, -, -, -, q0, q1, q2, q3, q4, -⟩ := lrow_at h5 (i := i) (by rw [lbs_length]; exact hi)
  rw [lbs_at hi] at q0 q1 q2 q3 q4
  exact ⟨b, e1, q0, q1, q2, q3, q4⟩
theorem word (h : Bo w0 w D) {i : Nat} (hi : i < D.L.length) {k : Nat} (hk : k < (tbat D.L i).wl) : w.cell? ⟨(tbat D.L i).g, k, none⟩ = some (.int .i64 ((tbat D.L i).W k)) ∧ w.frozen? ⟨(tbat D.L i).g, k, none⟩ = false :=
  ⟨(h.c 6 _ (tbat_mem hi)).cell hk, (h.c 6 _ (tbat_mem hi)).free k⟩
theorem intsAt {v : Value} {l : List Int} (h : Ints w v l) : ∃ a c, v = .slice a l.length c ∧ Arg w a l.length (fun i => .int .i64 (l.getD i 0)) := by
  rcases Own.shape h with ⟨rfl, h0⟩ | ⟨b, cap, rfl, -, -, h1, -⟩
  · exact ⟨none, 0, by rw [h0], .inl h0⟩
  · exact ⟨_, cap, rfl, .inr ⟨b, 0, rfl, fun i hi => by rw [Nat.zero_add]; exact h1 i hi⟩⟩
theorem ralloc_some (h : Bo w0 w D) {x : Int} {a : Nat} {Hr' : HS} (e : D.Hr.alloc x = some (a, Hr')) :
    Calls Try.prog 79 #[.pointer (some ⟨D.rb, 0, none⟩), .int .i64 x] w fun e w' => e = .returned (.tuple #[.int .i64 a, .bool true]) ∧ ∃ rlv' rL', Hid (Bo w0 w' { D with rlv := rlv', rL := rL', Hr := Hr' }) := by
  refine (h.ref.ralloc h.rwf x).mono fun e' w' hp => ?_
  rw [e] at hp
  exact ⟨hp.1, h.refOp hp.2.1 hp.2.2 (h.rwf.alloc_adds e).2.2.wf⟩
theorem ralloc_none (h : Bo w0 w D) {x : Int} (e : D.Hr.alloc x = none) :
    Calls Try.prog 79 #[.pointer (some ⟨D.rb, 0, none⟩), .int .i64 x] w fun e w' => e = .returned (.tuple #[.int .i64 0, .bool false]) ∧ Hid (Bo w0 w' D) := by
  refine (h.ref.ralloc h.rwf x).mono fun e' w' hp => ?_
  rw [e] at hp
  exact ⟨hp.1, h.keep0 hp.2.2⟩
theorem rfree (h : Bo w0 w D) {a : Nat} (hr : D.Hr.room a ≠ 0) :
    Calls Try.prog 82 #[.pointer (some ⟨D.rb, 0, none⟩), .int .i64 a] w fun e w' => e = .returned (.bool true) ∧ ∃ rlv' rL', Hid (Bo w0 w' { D with rlv := rlv', rL := rL', Hr := D.Hr.freeAt a }) := by
  refine (h.ref.rfree_yes h.rwf (a : Int) (by rw [HS.roomI_nat]; exact hr)).mono ?_
  rintro e w' ⟨rfl, h2⟩
  rw [Int.toNat_natCast] at h2
  exact ⟨rfl, h.refOp h2.out.1 h2.out.2 (h.rwf.free_takes hr).wf⟩
theorem rspans (h : Bo w0 w D) :
    Calls Try.prog 67 #[.pointer (some ⟨D.rb, 0, none⟩)] w fun e w' => e = .returned (.int .i64 (D.Hr.spans : Nat)) ∧ Keeps (fun _ => False) w w' := h.ref.rspans h.rwf
end Bo

/-- The n-th block that was made. -/
def nthV (all : List Int) (n : Int) : Int := if all.length = 0 ∨ n < 0 then 0 else all.getD (n % (all.length : Int)).toNat 0
set_option maxRecDepth 100000 in
set_option maxHeartbeats 4000000 in
theorem nth12_calls {w : World} {tb : Nat} {al : Option Addr} {cl : Nat} {all : List Int} (c2 : w.cell? ⟨tb, 2, none⟩ = some (.slice al all.length cl)) (hA : Arg w al all.length (fun i => .int .i64 (all.getD i 0))) (hl : all.length ≤ 1000) (x : Int) :
    Calls Try.prog 64 #[.pointer (some ⟨tb, 0, none⟩), .int .i64 x] w fun e w' => e = .returned (.int .i64 (nthV all x)) ∧ ∃ q, w' = w.drewN q := by
  unfold nthV
  by_cases h0 : all.length = 0 ∨ x < 0
  · rw [if_pos h0]
    generalize all.length = n at *
    by_cases hn : n = 0
    · subst hn
      clear hA
      go_enter Try.func64, Try.ntmps64
      go_wp2
      go_ret
      exact ⟨rfl, 0, rfl⟩
    · have dx : decide (x < 0) = true := decide_eq_true (by omega)
      have hz : ((n : Int) == 0) = false := beq_eq_false_iff_ne.2 (by omega)
      clear hA h0
      go_enter Try.func64, Try.ntmps64
      go_wp2
      go_ret
      exact ⟨rfl, 0, rfl⟩
  · rw [if_neg h0]
    have hm0 := Int.emod_nonneg x (show (all.length : Int) ≠ 0 by omega)
    have hm1 := Int.emod_lt_of_pos x (show (0 : Int) < (all.length : Int) by omega)
    obtain ⟨j, hj⟩ : ∃ j : Nat, (j : Int) = x % (all.length : Int) := ⟨(x % (all.length : Int)).toNat, by omega⟩
    have e1 : x % (all.length : Int) = (j : Int) := hj.symm
    have e2 : x.tmod (all.length : Int) = (j : Int) := by rw [Int.tmod_eq_emod_of_nonneg (by omega)]; exact e1
    have hjn : j < all.length := by omega
    obtain ⟨b, o, rfl, hc⟩ := hA.get hjn
    rw [e1, Int.toNat_natCast]
    have dx : decide (x < 0) = false := decide_eq_false (by omega)
    have hz : ((all.length : Int) == 0) = false := beq_eq_false_iff_ne.2 (by omega)
    have hz2 : ¬ (all.length : Int) = 0 := by omega
    have ewr : IntKind.i64.wrap (j : Int) = (j : Int) := IntWalk.i64_in _ (by omega)
    clear hj hm0 hm1 hA h0
    generalize all.getD j 0 = v at *
    generalize all.length = n at *
    go_enter Try.func64, Try.ntmps64
    go_wp2
    go_quiet (fail)
    go_wp2
    go_ret
    exact ⟨rfl, _, rfl⟩
theorem Bo.nth {w0 w : World} {D : BD} (h : Bo w0 w D) (hl : D.all.length ≤ 1000) (x : Int) :
    Calls Try.prog 64 #[.pointer (some ⟨D.tb, 0, none⟩), .int .i64 x] w fun e w' => e = .returned (.int .i64 (nthV D.all x)) ∧ ∃ q, w' = w.drewN q := by
  obtain ⟨a, c, e, hA⟩ := Bo.intsAt (h.c 7)
  have h2 := h.t2
  rw [e] at h2
  exact nth12_calls h2 hA hl x

set_option maxRecDepth 100000 in
set_option maxHeartbeats 4000000 in
theorem Bo.block {w0 w : World} {D : BD} (h : Bo w0 w D) (hl : D.L.length ≤ 1000) (x : Int) :
    Calls Try.prog 65 #[.pointer (some ⟨D.tb, 0, none⟩), .int .i64 x] w fun e w' => ((∃ i : Nat, i < D.L.length ∧ ((tbat D.L i).a : Int) = x ∧ e = .returned (.int .i64 i)) ∨ ((∀ i, i < D.L.length → ((tbat D.L i).a : Int) ≠ x) ∧ e = .returned (.int .i64 (-1)))) ∧ Hid (Keeps (fun _ => False) w w') := by
  obtain ⟨al, cl, e, hat⟩ := h.rowAt
  have c1 := h.t1
  rw [e] at c1
  have HAT : Hid (∀ i, i < D.L.length → ∃ b, al = some ⟨b, 0, none⟩ ∧ ∀ wx, Keeps (fun _ => False) w wx → wx.cell? ⟨b, i * 5, none⟩ = some (.int .i64 ((tbat D.L i).a : Nat)) ∧ wx.cell? ⟨b, i * 5 + 1, none⟩ = some (.int .i64 (tbat D.L i).k) ∧
    wx.cell? ⟨b, i * 5 + 2, none⟩ = some (.int .i64 ((tbat D.L i).s : Nat)) ∧ wx.cell? ⟨b, i * 5 + 3, none⟩ = some (.int .i64 (tbat D.L i).m) ∧ wx.cell? ⟨b, i * 5 + 4, none⟩ = some (.slice (some ⟨(tbat D.L i).g, 0, none⟩) (tbat D.L i).wl (tbat D.L i).wl)) := fun i hi => by
    obtain ⟨b, e, q0, q1, q2, q3, q4⟩ := hat i hi
    exact ⟨b, e, fun wx hk => ⟨hk.cell0 q0, hk.cell0 q1, hk.cell0 q2, hk.cell0 q3, hk.cell0 q4⟩⟩
  clear hat e h
  generalize D.L = L at *
  generalize D.tb = tb at *
  clear D
  have HST : Hid (Keeps (fun _ => False) w w) := Keeps.refl _ _
  have HNO : Hid (∀ j, j < 0 → ((tbat L j).a : Int) ≠ x) := fun j hj => by omega
  go_enter Try.func65, Try.ntmps65
  go_wp2
  go_loopw [12] (fun i wr => ∃ k : Nat, k ≤ L.length ∧ i = .int .i64 k ∧ Hid (Keeps (fun _ => False) w wr) ∧ Hid (∀ j, j < k → ((tbat L j).a : Int) ≠ x)) (fun i _ => L.length - (intOf i).toNat)
  case atStart => exact ⟨0, Nat.zero_le _, rfl, HST, HNO⟩
  case round =>
    clear HST HNO
    obtain ⟨k, hk, rfl, hK, hno⟩ := hrel
    by_cases hlt : k < L.length
    · have dk : decide (k < L.length) = true := decide_eq_true hlt
      obtain ⟨b, rfl, hce⟩ := HAT.out k hlt
      obtain ⟨q0, q1, q2, q3, q4⟩ := hce wr hK.out
      have HNX : Hid (((tbat L k).a : Int) ≠ x → ∀ j, j < k + 1 → ((tbat L j).a : Int) ≠ x) := fun h j hj => by
        by_cases e : j = k
        · rw [e]; exact h
        · exact hno.out j (by omega)
      have HIS : Hid (((tbat L k).a : Int) = ((tbat L k).a : Int)) := rfl
      have HEQ : Hid (∀ v : Int, ((tbat L k).a : Int) = v → v = x → ((tbat L k).a : Int) = x) := fun v h1 h2 => h1.trans h2
      clear hce
      generalize hv : ((tbat L k).a : Int) = v at *
      have HV := Lib.hid hv
      clear hv HIS
      generalize (tbat L k).k = y1 at *
      generalize ((tbat L k).s : Nat) = y2 at *
      generalize (tbat L k).m = y3 at *
      generalize (tbat L k).g = y4 at *
      generalize (tbat L k).wl = y5 at *
      by_cases hx : v = x
      · have bx : (v == x) = true := beq_iff_eq.2 hx
        have HX := Lib.hid hx
        have HKA : Hid (Keeps (fun _ => False) w (wr.alloc (.cells #[.int .i64 v, .int .i64 y1, .int .i64 y2, .int .i64 y3, .slice (some ⟨y4, 0, none⟩) y5 y5] 99))) := hK.out.alloc _
        clear hx hno hK
        go_wp2
        go_ret
        exact ⟨.inl ⟨k, hlt, HV.out.trans HX.out, rfl⟩, HKA⟩
      · have bx : (v == x) = false := beq_eq_false_iff_ne.2 hx
        have HN := Lib.hid (HNX.out hx)
        have HKA : Hid (Keeps (fun _ => False) w (wr.alloc (.cells #[.int .i64 v, .int .i64 y1, .int .i64 y2, .int .i64 y3, .slice (some ⟨y4, 0, none⟩) y5 y5] 99))) := hK.out.alloc _
        clear hx hno hK HNX
        go_wp2
        go_roundw
        case rel => exact ⟨k + 1, by omega, by go_num, HKA, HN⟩
        case measure => simp [intOf]; omega
    · obtain rfl : k = L.length := by omega
      have dk : decide (L.length < L.length) = false := by simp
      go_wp2
      go_ret
      exact ⟨.inr ⟨hno.out, rfl⟩, hK⟩
end Go.Proofs.Ytnbiofcfphpikaa

namespace Go.Proofs.Ytnbiofcfphpikaa
open Go.RowKit

section
variable {w : World}
/-- append of one block, and where it lies. -/
theorem wpList_appTB {ops : Array Oper} {rest : List Oper} {o : Oper} {a : Act} {Q : Exit → Act → World → Prop} (hgd : o.guard = none) (s x : Operand)
    (ho : o.op = .call { callee := .builtin .append, args := #[s, x], argTypes := #[ (44 : Nat) , (44 : Nat) ] })
    (v : Value) (L : List TB) (hs : a.eval s = v) (hown : w.ownsRow 0 99 5 v L.length (lball (lbs L))) (b c : Nat) (y : TB) (fr : Nat × Nat) (hx : a.eval x = .slice (some ⟨b, 0, none⟩) 1 c)
    (hb : w.heap[b]? = some (.cells #[.int .i64 (y.a : Nat), .int .i64 y.k, .int .i64 (y.s : Nat), .int .i64 y.m, .slice (some ⟨y.g, 0, none⟩) y.wl y.wl] 99 fr)) (hn : L.length ≤ 1000000000)
    (h : ∀ g cap w', w'.ownsRow 0 99 5 (.slice (some ⟨g, 0, none⟩) (L.length + 1) cap) (L ++ [y]).length (lball (lbs (L ++ [y]))) → Keeps (fun k => v.ownBlock = some k) w w' → (v.ownBlock = some g ∨ g = w.heap.size) → wpList Try.prog ops Q rest (a.put o.dst (.slice (some ⟨g, 0, none⟩) (L.length + 1) cap)) w') : wpList Try.prog ops Q (o :: rest) a w := by
  obtain ⟨i3, hi3, hy0, hy1, hy2⟩ := info_parts info_lb
  refine wpList_append_lies w hgd s x 44 ho 0 99 i3 _ 5 56 underlying_lbs hi3 hy0 hy1 hy2 (by rfl) (by omega) v L.length _ hs hown ⟨b, 0, none⟩ 1 c y.lb.cells hx rfl
    (World.news_of_block hb) (lb_one y.lb) (by omega) (by unfold maxLen; omega) (by omega) (Nat.zero_le _) _ rfl ?_
  intro g cap w' hO hG hg _
  refine h g cap w' ?_ (grownBy_keeps hG) hg
  rw [List.length_append, List.length_singleton]
  have e : lbs (L ++ [y]) = lbs L ++ [y.lb] := by simp [lbs]
  rw [e, lball_append, lball_one]
  exact hO
end

/-- What collect keeps in its loop. -/
def colD (D : BD) (Z : Nat → Bool) (p : Nat) (rlv : Value) (rL : List RB) (Hr : HS) (v : Value) (k : Nat) : BD :=
  { D with tn := D.tn + 1, zv := .slice (some ⟨p, 0, none⟩) D.L.length D.L.length, zn := D.L.length, zf := Z, rlv := rlv, rL := rL, Hr := Hr, xv := v, xL := keepBy Z D.L k }
def Col (w0 wr : World) (D : BD) (Z : Nat → Bool) (p : Nat) (v : Value) (k : Nat) : Prop :=
  ∃ rlv rL Hr, Bo w0 wr (colD D Z p rlv rL Hr v k) ∧ RoomsBy D.Hr Z D.L k Hr
/-- What collect leaves. -/
def outD (D : BD) (rlv : Value) (rL : List RB) (Hr : HS) (lv : Value) (L : List TB) : BD :=
  { D with tn := D.tn + 1, zv := .slice none 0 0, zn := 0, zf := fun _ => false, rlv := rlv, rL := rL, Hr := Hr, lv := lv, L := L, xv := .slice none 0 0, xL := [] }

namespace Bo
variable {w0 w w' : World} {D : BD}
theorem rowAt' (h : Bo w0 w D) {al : Option Addr} {n cl : Nat} (e : D.lv = .slice al n cl) {i : Nat} (hi : i < D.L.length) : ∃ b, al = some ⟨b, 0, none⟩ ∧ w.cell? ⟨b, i * 5, none⟩ = some (.int .i64 ((tbat D.L i).a : Nat)) ∧ w.cell? ⟨b, i * 5 + 1, none⟩ = some (.int .i64 (tbat D.L i).k) ∧
    w.cell? ⟨b, i * 5 + 2, none⟩ = some (.int .i64 ((tbat D.L i).s : Nat)) ∧ w.cell? ⟨b, i * 5 + 3, none⟩ = some (.int .i64 (tbat D.L i).m) ∧ w.cell? ⟨b, i * 5 + 4, none⟩ = some (.slice (some ⟨(tbat D.L i).g, 0, none⟩) (tbat D.L i).wl (tbat D.L i).wl) := by
  obtain ⟨al', cl', e', h2⟩ := h.rowAt
  rw [e] at e'
  injection e' with e1 e2 e3
  subst e1
  exact h2 i hi
theorem clearX (h : Bo w0 w D) : Bo w0 w { D with xv := .slice none 0 0, xL := [] } :=
  h.setX (Keeps.refl (fun _ => False) w) (fun _ h _ => h.elim) (World.ownsRow_nil _ _ _ _) (fun k hk => by simp [Value.ownBlock] at hk)
theorem clearZ (h : Bo w0 w D) : Bo w0 w { D with zv := .slice none 0 0, zn := 0, zf := fun _ => false } :=
  h.setZ (Keeps.refl (fun _ => False) w) (.inl ⟨rfl, rfl⟩) (fun k hk => by simp [Value.ownBlock] at hk)
/-- Reached. -/
theorem reached (h : Bo w0 w D) {M : Mp} (tr : TR D.L M D.Hr) (hl : D.L.length ≤ 1000) (hf : D.thd.length ≤ 1000) {al af : Option Addr} {cl cf : Nat} (e1 : D.lv = .slice al D.L.length cl) (e2 : D.tv = .slice af D.thd.length cf) (hHn : D.Hr.n ≤ 16) {wx : World} (hk : Keeps (fun _ => False) w wx) :
    Calls Try.prog 81 #[.pointer (some ⟨D.rb, 0, none⟩), .slice al D.L.length cl, .slice af D.thd.length cf] wx fun e w' => ∃ p Z, e = .returned (.slice (some ⟨p, 0, none⟩) D.L.length D.L.length) ∧ Keeps (fun _ => False) w w' ∧
      Hid (Bo w0 w' { D with zv := .slice (some ⟨p, 0, none⟩) D.L.length D.L.length, zn := D.L.length, zf := Z } ∧ ∀ i, i < D.L.length → (Z i = true ↔ TR.lv M D.thd ((tbat D.L i).a : Int))) := by
  have hx := h.keep0 hk
  have hwl : ∀ i, i < D.L.length → (tbat D.L i).wl ≤ 1048576 := fun i hi => by
    have h1 := tr.rm (tbat_mem hi)
    have h2 := h.rwf.inside (a := (tbat D.L i).a) (by omega)
    omega
  have hA : Arg wx af D.thd.length (fun i => .int .i64 (D.thd.getD i 0)) := by
    obtain ⟨a, c, e, hA⟩ := Bo.intsAt (hx.c 8)
    rw [e2] at e
    injection e with e3 e4 e5
    subst e3
    exact hA
  refine (Rc7.reached12_calls (w := wx) (rb := D.rb) (m := D.L.length) (al := al) (cl := cl) (fun i => (tbat D.L i).a) (fun i => (tbat D.L i).k) (fun i => ((tbat D.L i).s : Int)) (fun i => (tbat D.L i).m) (fun i => (tbat D.L i).wl) (fun i => TR.ks D.Hr D.L i) (TR.lv M D.thd) hl D.thd af cf hA hf (fun i hi => ?_)
    (fun i hi hm => tr.root D.thd i hi hm) (fun j k hj hk' hl' hm => tr.step D.thd j k hj hk' hl' hm) (fun Z ho => tr.marks D.thd Z ho) (fun wy hk2 i hi => ?_)).mono ?_
  · have := kidsD_length D.Hr (tbat D.L i).k ((tbat D.L i).s : Int) (tbat D.L i).m (tbat D.L i).W (tbat D.L i).wl
    have := hwl i hi
    unfold TR.ks
    omega
  · have hy := hx.keep0 hk2
    obtain ⟨b, eb, q0, q1, q2, q3, q4⟩ := hy.rowAt' e1 hi
    refine ⟨b, (tbat D.L i).g, eb, q0, q1, q2, q3, q4, fun wz hk3 => ?_⟩
    have hz := hx.keep0 hk3
    refine (children7_calls hz.ref hz.rwf ((tbat D.L i).a : Nat) (tbat D.L i).k ((tbat D.L i).s : Nat) (tbat D.L i).m (tbat D.L i).g (tbat D.L i).wl (tbat D.L i).wl (tbat D.L i).W (.inr ⟨_, 0, rfl, fun t ht => by rw [Nat.zero_add]; exact (hz.word hi ht).1⟩) (by have := hwl i hi; omega) (fun k hk' => ?_)).mono ?_
    · have := tr.ok _ (tbat_mem hi)
      unfold hdrOk at this
      omega
    · rintro e w' ⟨v, rfl, hG⟩
      obtain ⟨a, c, rfl, -, -, hmade⟩ := hG.out.made
      exact ⟨a, c, rfl, hmade⟩
  · rintro e w' ⟨p, Z, rfl, hmk⟩
    refine ⟨p, Z, rfl, hk.trans hmk.out.1.keeps (fun _ _ h => h), hx.setZ hmk.out.1.keeps hmk.out.1.own (fun k hk' => ?_), hmk.out.2⟩
    simp [Value.ownBlock] at hk'
    subst hk'
    exact hmk.out.1.new
end Bo

namespace Col
variable {w0 w wr w' : World} {D : BD} {Z : Nat → Bool} {p k : Nat} {v : Value}
theorem keep0 (h : Col w0 wr D Z p v k) (hk : Keeps (fun _ => False) wr w') : Col w0 w' D Z p v k := by
  obtain ⟨rlv, rL, Hr, h1, h2⟩ := h
  exact ⟨rlv, rL, Hr, h1.keep0 hk, h2⟩
theorem c0 (h : Col w0 wr D Z p v k) : wr.cell? ⟨D.tb, 0, none⟩ = some (.pointer (some ⟨D.rb, 0, none⟩)) := by
  obtain ⟨rlv, rL, Hr, h1, h2⟩ := h
  exact h1.t0
theorem mark (h : Col w0 wr D Z p v k) {i : Nat} (hi : i < D.L.length) : wr.cell? ⟨p, i, none⟩ = some (.bool (Z i)) := by
  obtain ⟨rlv, rL, Hr, h1, h2⟩ := h
  obtain ⟨b', cap', e, -, -, hc, -⟩ := Own.some_shape (h1.c 10) (by show 0 < D.L.length; omega)
  cases e
  exact hc i hi
theorem row (h : Col w0 wr D Z p v k) {al : Option Addr} {n cl : Nat} (e : D.lv = .slice al n cl) {i : Nat} (hi : i < D.L.length) : ∃ b, al = some ⟨b, 0, none⟩ ∧ wr.cell? ⟨b, i * 5, none⟩ = some (.int .i64 ((tbat D.L i).a : Nat)) ∧ wr.cell? ⟨b, i * 5 + 1, none⟩ = some (.int .i64 (tbat D.L i).k) ∧
    wr.cell? ⟨b, i * 5 + 2, none⟩ = some (.int .i64 ((tbat D.L i).s : Nat)) ∧ wr.cell? ⟨b, i * 5 + 3, none⟩ = some (.int .i64 (tbat D.L i).m) ∧ wr.cell? ⟨b, i * 5 + 4, none⟩ = some (.slice (some ⟨(tbat D.L i).g, 0, none⟩) (tbat D.L i).wl (tbat D.L i).wl) := by
  obtain ⟨rlv, rL, Hr, h1, h2⟩ := h
  exact h1.rowAt' (D := colD D Z p rlv rL Hr v k) e hi
theorem gathered (h : Col w0 wr D Z p v k) : wr.ownsRow 0 99 5 v (keepBy Z D.L k).length (lball (lbs (keepBy Z D.L k))) := by
  obtain ⟨rlv, rL, Hr, h1, h2⟩ := h
  exact h1.c 9
/-- A block that is kept. -/
theorem kept (h : Col w0 wr D Z p v k) (hz : Z k = true) {g cap : Nat} (hO : w'.ownsRow 0 99 5 (.slice (some ⟨g, 0, none⟩) ((keepBy Z D.L k).length + 1) cap) (keepBy Z D.L k ++ [tbat D.L k]).length (lball (lbs (keepBy Z D.L k ++ [tbat D.L k]))))
    (hk : Keeps (fun b => v.ownBlock = some b) wr w') (hg : v.ownBlock = some g ∨ g = wr.heap.size) : Col w0 w' D Z p (.slice (some ⟨g, 0, none⟩) ((keepBy Z D.L k).length + 1) cap) (k + 1) := by
  obtain ⟨rlv, rL, Hr, h1, h2⟩ := h
  have e : keepBy Z D.L (k + 1) = keepBy Z D.L k ++ [tbat D.L k] := by rw [keepBy, if_pos hz]
  refine ⟨rlv, rL, Hr, ?_, h2.keep hz⟩
  unfold colD at h1 ⊢
  rw [e]
  refine h1.setX hk (fun b hb _ => hb) hO (fun b hb => ?_)
  simp [Value.ownBlock] at hb
  subst hb
  rcases hg with hg | hg
  · exact .inl hg
  · exact .inr (by omega)
/-- .. and one that goes. -/
theorem freed (h : Col w0 wr D Z p v k) {M : Mp} (tr : TR D.L M D.Hr) (hk : k < D.L.length) (hz : Z k = false) :
    Calls Try.prog 82 #[.pointer (some ⟨D.rb, 0, none⟩), .int .i64 ((tbat D.L k).a : Nat)] wr fun e w' => e = .returned (.bool true) ∧ Hid (Col w0 w' D Z p v (k + 1)) := by
  obtain ⟨rlv, rL, Hr, h1, h2⟩ := h
  have hr : Hr.room (tbat D.L k).a ≠ 0 := by
    rw [h2.at_ tr.nd hk]
    exact (tr.room_iff _).2 (tr.some_ (tbat_mem hk))
  refine (Bo.rfree (D := colD D Z p rlv rL Hr v k) h1 hr).mono ?_
  rintro e w' ⟨rfl, rlv', rL', h3⟩
  have e : keepBy Z D.L (k + 1) = keepBy Z D.L k := by rw [keepBy, if_neg (by rw [hz]; simp), List.append_nil]
  refine ⟨rfl, rlv', rL', _, ?_, h2.free hz hr⟩
  unfold colD at h3 ⊢
  rw [e]
  exact h3.out
/-- The end. -/
theorem done (h : Col w0 wr D Z p v D.L.length) {M : Mp} (tr : TR D.L M D.Hr) (hz : ∀ i, i < D.L.length → (Z i = true ↔ TR.lv M D.thd ((tbat D.L i).a : Int))) :
    ∃ rlv rL Hr L', goneBy Z D.L.length + L'.length = D.L.length ∧ TR L' (mlive M D.thd) Hr ∧ Hr.n = D.Hr.n ∧ Bo w0 (wr.setCell ⟨D.tb, 1, none⟩ v) (outD D rlv rL Hr v L') := by
  obtain ⟨rlv, rL, Hr, h1, h2⟩ := h
  have hsub := keepBy_sub' (Z := Z) (Nat.le_refl D.L.length)
  have h3 := h1.swapX (fun x hx => hsub.subset hx) (h1.gs.sublist (hsub.map _))
  exact ⟨rlv, rL, Hr, keepBy Z D.L D.L.length, by have := keepBy_length Z D.L D.L.length; omega, tr.swept hz h2, h2.n, h3.clearZ⟩
end Col

theorem alloc2_new (w : World) (o1 o2 : Obj) : ((w.alloc o1).alloc o2).heap[w.heap.size + 1]? = some o2 := by
  have := heap_alloc_new (w.alloc o1) o2
  rwa [show (w.alloc o1).heap.size = w.heap.size + 1 by simp] at this
theorem gone_yes {Z : Nat → Bool} {k : Nat} (h : Z k = true) : goneBy Z (k + 1) = goneBy Z k := by rw [goneBy, if_pos h]; rfl
theorem gone_no {Z : Nat → Bool} {k : Nat} (h : Z k = false) : goneBy Z (k + 1) = goneBy Z k + 1 := by rw [goneBy, if_neg (by rw [h]; simp)]
theorem gone_le (Z : Nat → Bool) : ∀ k, goneBy Z k ≤ k
  | 0 => Nat.le_refl _
  | k + 1 => by
    have := gone_le Z k
    unfold goneBy
    split <;> omega

set_option maxRecDepth 100000 in
set_option maxHeartbeats 8000000 in
theorem Bo.collect {w0 w : World} {D : BD} (h : Bo w0 w D) {M : Mp} (tr : TR D.L M D.Hr) (hl : D.L.length ≤ 1000) (hf : D.thd.length ≤ 1000) (hHn : D.Hr.n ≤ 16) (hn : D.tn ≤ 100000) :
    Calls Try.prog 66 #[.pointer (some ⟨D.tb, 0, none⟩)] w fun e w' => ∃ gone : Nat, e = .returned (.int .i64 gone) ∧ ∃ rlv rL Hr lv L', Hid (gone + L'.length = D.L.length ∧ TR L' (mlive M D.thd) Hr ∧ Hr.n = D.Hr.n ∧ Bo w0 w' (outD D rlv rL Hr lv L')) := by
  obtain ⟨al, cl, e1, -⟩ := h.rowAt
  obtain ⟨af, cf, e2, -⟩ := Bo.intsAt (h.c 8)
  have c0 := h.t0
  have c1 := h.t1
  have c3 := h.t3
  rw [e1] at c1
  rw [e2] at c3
  have HCC : Hid (∀ wx, Keeps (fun _ => False) w wx → wx.cell? ⟨D.tb, 0, none⟩ = some (.pointer (some ⟨D.rb, 0, none⟩)) ∧ wx.cell? ⟨D.tb, 1, none⟩ = some (.slice al D.L.length cl) ∧ wx.cell? ⟨D.tb, 3, none⟩ = some (.slice af D.thd.length cf)) := fun wx hk => ⟨hk.cell0 c0, hk.cell0 c1, hk.cell0 c3⟩
  have HRC : Hid (∀ wx, Hid (Keeps (fun _ => False) w wx) → Calls Try.prog 81 #[.pointer (some ⟨D.rb, 0, none⟩), .slice al D.L.length cl, .slice af D.thd.length cf] wx fun e w' => ∃ p Z, e = .returned (.slice (some ⟨p, 0, none⟩) D.L.length D.L.length) ∧ (w'.cell? ⟨D.tb, 0, none⟩ = some (.pointer (some ⟨D.rb, 0, none⟩)) ∧ w'.cell? ⟨D.tb, 1, none⟩ = some (.slice al D.L.length cl) ∧ w'.cell? ⟨D.tb, 3, none⟩ = some (.slice af D.thd.length cf)) ∧
      Hid (Bo w0 w' { D with zv := .slice (some ⟨p, 0, none⟩) D.L.length D.L.length, zn := D.L.length, zf := Z } ∧ ∀ i, i < D.L.length → (Z i = true ↔ TR.lv M D.thd ((tbat D.L i).a : Int)))) := by
    intro wx hk
    refine (h.reached tr hl hf e1 e2 hHn hk.out).mono ?_
    rintro e w' ⟨p, Z, rfl, hk2, h3⟩
    exact ⟨p, Z, rfl, HCC.out _ hk2, h3⟩
  have HTR := Lib.hid tr
  have HE1 := Lib.hid e1
  have hS0 : w.drew.cell? ⟨D.tb, 0, none⟩ = some (.pointer (some ⟨D.rb, 0, none⟩)) ∧ w.drew.cell? ⟨D.tb, 1, none⟩ = some (.slice al D.L.length cl) ∧ w.drew.cell? ⟨D.tb, 3, none⟩ = some (.slice af D.thd.length cf) := HCC.out _ (Keeps.refl _ w).drew
  have HP0 : Hid (Keeps (fun _ => False) w w.drew) := (Keeps.refl _ w).drew
  clear h tr e1 e2 c0 c1 c3 HCC
  go_enter Try.func66, Try.ntmps66
  go_wp2_with fail
  go_region_held3 (fun w' => w'.cell? ⟨D.tb, 0, none⟩ = some (.pointer (some ⟨D.rb, 0, none⟩)) ∧ w'.cell? ⟨D.tb, 1, none⟩ = some (.slice al D.L.length cl) ∧ w'.cell? ⟨D.tb, 3, none⟩ = some (.slice af D.thd.length cf)) (first | exact hS0 | assumption | (refine ⟨?_, ?_, ?_⟩ <;> assumption))
    (first | (go_at_call 81; refine (HRC.out _ (by first | assumption | exact HP0)).mono ?_; rintro e w' ⟨p, Z, rfl, hs, hfa⟩))
  have c4 : w'.cell? ⟨D.tb, 4, none⟩ = some (.int .i64 D.tn) := hfa.out.1.t4
  have hfz : w'.frozen? ⟨D.tb, 4, none⟩ = false := hfa.out.1.tf 4
  have hb1 := (hfa.out.1.setTn (D.tn + 1)).clearX
  rw [show ((D.tn + 1 : Nat) : Int) = (D.tn : Int) + 1 by omega] at hb1
  have HST : Hid (Col w0 (w'.setCell ⟨D.tb, 4, none⟩ (.int .i64 ((D.tn : Int) + 1))) D Z p (.slice none 0 0) 0) := ⟨D.rlv, D.rL, D.Hr, hb1, RoomsBy.start hfa.out.1.rwf Z D.L⟩
  have c1 : (w'.setCell ⟨D.tb, 4, none⟩ (.int .i64 ((D.tn : Int) + 1))).cell? ⟨D.tb, 1, none⟩ = some (.slice al D.L.length cl) := by
    have := hb1.t1
    rw [show ({ ({ D with zv := Value.slice (some ⟨p, 0, none⟩) D.L.length D.L.length, zn := D.L.length, zf := Z } : BD) with tn := D.tn + 1, xv := .slice none 0 0, xL := [] } : BD).lv = .slice al D.L.length cl from HE1.out] at this
    exact this
  have HZ : Hid (∀ i, i < D.L.length → (Z i = true ↔ TR.lv M D.thd ((tbat D.L i).a : Int))) := hfa.out.2
  clear hfa hs hS0 HP0 HRC hb1
  go_wp2
  go_loopw [4, 5, 33] (fun v g i wr => ∃ k : Nat, k ≤ D.L.length ∧ i = .int .i64 k ∧ g = .int .i64 (goneBy Z k : Nat) ∧ Hid (Col w0 wr D Z p v k)) (fun _ _ i _ => D.L.length - (intOf i).toNat)
  case atStart => exact ⟨0, Nat.zero_le _, rfl, rfl, HST⟩
  case round =>
    clear HST c1 c4 hfz
    obtain ⟨k, hk, rfl, rfl, hC⟩ := hrel
    have hgl := gone_le Z k
    by_cases hlt : k < D.L.length
    · have dk : decide (k < D.L.length) = true := decide_eq_true hlt
      obtain ⟨b, rfl, q0, q1, q2, q3, q4⟩ := hC.out.row HE1.out hlt
      have hm := fun o => (hC.out.keep0 ((Keeps.refl _ wr).alloc o)).mark hlt
      have HC2 : Hid (∀ o1 o2, Col w0 ((wr.alloc o1).alloc o2) D Z p u4 k) := fun o1 o2 => (hC.out.keep0 ((Keeps.refl _ wr).alloc o1)).keep0 ((Keeps.refl _ _).alloc o2)
      cases hz : Z k with
      | true =>
        rw [hz] at hm
        have HZK := Lib.hid hz
        have HGE := Lib.hid (gone_yes hz)
        have hkl : (keepBy Z D.L k).length ≤ 1000000000 := by have := keepBy_length Z D.L k; omega
        clear hz hC
        go_wp2_with (at_builtin; go_loud (refine wpList_appTB rfl _ _ rfl _ (keepBy Z D.L k) rfl (HC2.out _ _).gathered _ 1 (tbat D.L k) _ rfl (alloc2_new _ _ _) hkl ?_); intro g cap w5 hO hK hg)
        have HN := Lib.hid ((HC2.out _ _).kept HZK.out hO hK hg)
        clear hO hK hg HC2 q0 q1 q2 q3 q4 hm HE1
        go_wp2
        go_roundw
        case rel => exact ⟨k + 1, by omega, by go_num, by rw [HGE.out], HN⟩
        case measure => simp [intOf]; omega
      | false =>
        rw [hz] at hm
        have HGE := Lib.hid (gone_no hz)
        have HFR : Hid (∀ o, Calls Try.prog 82 #[.pointer (some ⟨D.rb, 0, none⟩), .int .i64 ((tbat D.L k).a : Nat)] ((wr.alloc o).drew) fun e w' => e = .returned (.bool true) ∧ Hid (Col w0 w' D Z p u4 (k + 1))) := fun o => (hC.out.keep0 (((Keeps.refl _ wr).alloc o).drew)).freed HTR.out hlt hz
        have c0 : ∀ o, (wr.alloc o).drew.cell? ⟨D.tb, 0, none⟩ = some (.pointer (some ⟨D.rb, 0, none⟩)) := fun o => (hC.out.keep0 (((Keeps.refl _ wr).alloc o).drew)).c0
        clear hz hC HC2
        go_wp2_with fail
        refine wp_region_still_tail 6 (by kernel_rfl) (by kernel_rfl) ?_
        change wpStill _ _ (World.drew _) _ _ _
        simp only [List.take_succ_cons, List.take_zero, List.drop_succ_cons, List.drop_zero]
        repeat still_step
        refine wpStill_nil ?_
        change wpList _ _ _ _ _ (World.drew _)
        go_wp2_with fail
        refine (HFR.out _).mono ?_
        rintro e w5 ⟨rfl, h5⟩
        go_wp2
        go_roundw
        case rel => exact ⟨k + 1, by omega, by go_num, by rw [HGE.out]; go_num, h5⟩
        case measure => simp [intOf]; omega
    · obtain rfl : k = D.L.length := by omega
      have dk : decide (D.L.length < D.L.length) = false := by simp
      obtain ⟨ax, cx, hu4, -⟩ := ownsRow_slice hC.out.gathered
      subst hu4
      obtain ⟨rlv, rL, Hr, L', h1, h2, h3, h4⟩ := hC.out.done HTR.out HZ.out
      generalize (keepBy Z D.L D.L.length).length = kn at *
      have HF : Hid (goneBy Z D.L.length + L'.length = D.L.length ∧ TR L' (mlive M D.thd) Hr ∧ Hr.n = D.Hr.n ∧ Bo w0 (wr.setCell ⟨D.tb, 1, none⟩ (.slice ax kn cx)) (outD D rlv rL Hr (.slice ax kn cx) L')) := ⟨h1, h2, h3, h4⟩
      have c1 : ∃ old, wr.cell? ⟨D.tb, 1, none⟩ = some old ∧ wr.frozen? ⟨D.tb, 1, none⟩ = false := by
        obtain ⟨rlv, rL, Hr, h1, -⟩ := hC.out
        exact ⟨_, h1.t1, h1.tf 1⟩
      obtain ⟨old, c1, cf1⟩ := c1
      clear h1 h2 h3 h4 hC
      go_wp2
      go_ret
      exact ⟨_, rfl, rlv, rL, Hr, _, L', HF⟩
end Go.Proofs.Ytnbiofcfphpikaa
