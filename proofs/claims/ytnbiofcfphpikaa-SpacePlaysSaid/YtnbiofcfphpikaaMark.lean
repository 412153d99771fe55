/-
  A map from integers to bools that the call itself made.
-/
import Derived.Test.YtnbiofcfphpikaaReach
import Derived.Test.YtnbiofcfphpikaaApp
import Derived.Maps.OwnOps
import Derived.Maps.Views
namespace Go.Proofs.Ytnbiofcfphpikaa
open Go.RowKit Go.Maps

theorem und_int : Try.prog.underlying 3 = some (.int .i64) := by kernel_rfl
theorem und_bool : Try.prog.underlying 4 = some .bool := by kernel_rfl
theorem und_map : Try.prog.underlying 108 = some (.map 3 4) := by kernel_rfl
theorem zero_bool (w : World) : (zeroValue 4).run Try.prog w = .ok (.bool false) w := by kernel_rfl
theorem int_key : Keyed Try.prog 3 := int_keyed und_int

theorem key_lit {x : Int} (h : (Lit.int .i64 x).wf = true) : keyOf Try.prog 3 (.int .i64 x) = some (.int .i64 x) := keyOf_int_mk und_int h
theorem isKey_lit {x : Int} (h : (Lit.int .i64 x).wf = true) : WideAt.IsKeyLit (.int .i64 x) := int_key.key (key_lit h)

/-- Block b is a map; marked true are those in S. -/
def Marks (w : World) (b : Nat) (S : List Int) : Prop :=
  ∃ D : DataW Unit, w.ownsMap Try.prog 3 (plainElem Try.prog 4) b S.length D ∧ IsMap D ∧ (∀ x, D.atKey (.int .i64 x) (.lit (.bool false)) = .lit (.bool (S.contains x))) ∧ ∀ x, D.atKey (.int .i64 x) (.lit (.bool true)) = .lit (.bool true)

theorem Marks.made (w : World) : Marks (w.alloc (.map #[] 0)) w.heap.size [] :=
  ⟨.map [], World.ownsMap_made _ _ _ _, isMap_empty, fun _ => rfl, fun _ => rfl⟩
theorem Marks.lt {w : World} {b : Nat} {S : List Int} (h : Marks w b S) : b < w.heap.size := by obtain ⟨D, h, _⟩ := h; exact h.lt
theorem Marks.keep {w w' : World} {b : Nat} {S : List Int} {F : Nat → Prop} (h : Marks w b S) (hk : Keeps F w w') (hF : ¬ F b) : Marks w' b S := by
  have hlt := h.lt
  obtain ⟨D, ⟨es, clock, hb, rest⟩, h2⟩ := h
  exact ⟨D, ⟨es, clock, (hk.block b hlt hF).trans hb, rest⟩, h2⟩
theorem Marks.alloc {w : World} {b : Nat} {S : List Int} (h : Marks w b S) (o : Obj) : Marks (w.alloc o) b S := h.keep ((Keeps.refl (fun _ => False) _).alloc o) (fun h => h)
theorem Marks.drewN {w : World} {b : Nat} {S : List Int} (h : Marks w b S) (q : Nat) : Marks (w.drewN q) b S := h.keep ((Keeps.refl (fun _ => False) _).drewN q) (fun h => h)
theorem Marks.look {w : World} {b : Nat} {S : List Int} (h : Marks w b S) {x : Int} (hx : (Lit.int .i64 x).wf = true) :
    (Instr.lookup 108 (.map (some b)) (.int .i64 x) false).run Try.prog w = .ok (.bool (S.contains x)) w := by
  obtain ⟨D, hown, hm, hat, -⟩ := h
  obtain ⟨v, ps, hrun, hv⟩ := hown.lookup int_key und_map (zero_bool w) (plainElem_bool und_bool false) (key_lit hx)
  rw [hat x] at hv
  rw [hrun]
  have : v = .bool (S.contains x) := by
    unfold plainElem at hv
    rw [und_bool] at hv
    cases v <;> simp at hv
    rw [hv.1]
    simp
  rw [this]
theorem Marks.update {w : World} {b : Nat} {S : List Int} (h : Marks w b S) {x : Int} (hx : (Lit.int .i64 x).wf = true) (hn : S.length < maxLen) :
    ∃ w', (Instr.mapUpdate 108 (.map (some b)) (.int .i64 x) (.bool true)).run Try.prog w = .ok () w' ∧ Marks w' b (x :: S) ∧ Keeps (fun k => k = b) w w' := by
  obtain ⟨D, hown, hm, hat, hall⟩ := h
  obtain ⟨w', hrun, ho, hg⟩ := hown.update int_key und_map hn (key_lit hx) (plainElem_bool und_bool true)
  refine ⟨w', hrun, ⟨_, ho, hm.put _ _, fun y => ?_, fun y => ?_⟩, ⟨hg.os, hg.tape, hg.output, hg.size, fun k hk hn => hg.block k hk (fun e => hn (by simpa using e))⟩⟩
  · by_cases e : y = x
    · subst e
      rw [atKey_put_same hm (isKey_lit hx)]
      simp
    · rw [atKey_put_other (by intro h; apply e; simpa using h), hat y]
      simp [e]
  by_cases e : y = x
  · subst e
    rw [atKey_put_same hm (isKey_lit hx)]
  · rw [atKey_put_other (by intro h; apply e; simpa using h), hall y]

theorem wpList_mark {w : World} {b : Nat} {S : List Int} {x : Int} {ops : Array Oper} {rest : List Oper} {o : Oper} {a : Act} {Q : Exit → Act → World → Prop}
    (hg : o.guard = none) (m k v : Operand) (hop : o.op = Op.mapUpdate 108 m k v)
    (hm : a.eval m = .map (some b)) (hk : a.eval k = .int .i64 x) (hv : a.eval v = .bool true) (h : Marks w b S) (hx : (Lit.int .i64 x).wf = true) (hn : S.length < maxLen)
    (hK : ∀ w', Marks w' b (x :: S) → Keeps (fun k => k = b) w w' → wpList Try.prog ops Q rest (a.put o.dst undef) w') :
    wpList Try.prog ops Q (o :: rest) a w := by
  refine wpList_plain hg fun K' hK' => ?_
  obtain ⟨w', hrun, r1, r2⟩ := h.update hx hn
  unfold Oper.wp
  simp [execOp, hop, hm, hk, hv, hrun, Result.andThen]
  exact hK' _ _ (hK w' r1 r2)
theorem wpList_marked {w : World} {b : Nat} {S : List Int} {x : Int} {ops : Array Oper} {rest : List Oper} {o : Oper} {a : Act} {Q : Exit → Act → World → Prop}
    (hg : o.guard = none) (m k : Operand) (hop : o.op = Op.lookup 108 m k false)
    (hm : a.eval m = .map (some b)) (hk : a.eval k = .int .i64 x) (h : Marks w b S) (hx : (Lit.int .i64 x).wf = true)
    (hK : wpList Try.prog ops Q rest (a.put o.dst (.bool (S.contains x))) w) :
    wpList Try.prog ops Q (o :: rest) a w := by
  refine wpList_plain hg fun K' hK' => ?_
  have hrun := h.look hx
  unfold Oper.wp
  simp only [execOp, hop, hm, hk, Sem.run_bind, hrun, Sem.run_pure, Result.andThen_ok]
  exact hK' _ _ hK
end Go.Proofs.Ytnbiofcfphpikaa
