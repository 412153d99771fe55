/-
  A list of integers and a list of triples that grow side by side in a region that draws its order.
-/
import Derived.Test.YtnbiofcfphpikaaStep
namespace Go.Proofs.Ytnbiofcfphpikaa
open Go.RowKit

/-- append of one element of `size` cells: where it lies. -/
theorem run_appR {P : Program} (w : World) (B : Nat) (t ty e : TypeId) (i : TypeInfo) (z : Value) (size bytes : Nat) (ht : P.underlying t = some (.slice e)) (hi : P.info? e = some i) (hz : i.zero = some z)
    (hsize : i.size = size) (hby : i.bytes = bytes) (hzs : z.cells.size = size) (hsz : 0 < size) (hb8 : bytes ≤ 64)
    (v : Value) (n : Nat) (xs : List Value) (hown : w.ownsRow B e size v n xs) (a : Addr) (c : Nat) (news : List Value) (hl : news.length = size) (hnews : ∀ j u, news[j]? = some u → w.cell? (a.add j) = some u) (h1 : ∀ u ∈ news, u.oneCell' = true) (hn : n ≤ 1000000000000) (hB : B ≤ w.heap.size) :
    ∃ g cap w', (Builtin.append_ #[t, t] ty #[v, .slice (some a) 1 c]).run P w = .ok (.slice (some ⟨g, 0, none⟩) (n + 1) cap) w' ∧ w'.ownsRow B e size (.slice (some ⟨g, 0, none⟩) (n + 1) cap) (n + 1) (xs ++ news) ∧ Keeps (fun k => v.ownBlock = some k) w w' ∧ (v.ownBlock = some g ∨ g = w.heap.size) := by
  have hbb : (n + 1) * bytes ≤ 140737488355328 := by
    have : (n + 1) * bytes ≤ (n + 1) * 64 := Nat.mul_le_mul_left _ hb8
    omega
  have hml : maxLen = 9223372036854775807 := rfl
  obtain ⟨v', w', hr, ho, hg, hnil⟩ := run_append_own (P := P) w B t ty e i z size bytes ht hi hz hsize hby hzs hsz v n xs hown a 1 c news (by omega) hnews h1 (by omega) hbb hB
  have hkeep : Keeps (fun k => v.ownBlock = some k) w w' := ⟨hg.os, hg.tape, hg.output, hg.size, fun k hk hn => hg.block k hk (fun e => hn e.symm)⟩
  have key : ∃ g cap, v' = .slice (some ⟨g, 0, none⟩) (n + 1) cap ∧ (v.ownBlock = some g ∨ g = w.heap.size) := by
    have hcells := fun g hg => hown.cells (g := g) hg
    have hlen := hown.1
    rcases hown.2 with ⟨rfl, rfl⟩ | ⟨g, cap, cur, rfl, _, hgg, h1', h2', h3', h4'⟩
    · have hr2 := run_append_nil (P := P) w t ty e i z ht hi hz a 1 c news (by rw [hl, hsize]; omega) hnews (by omega) (by omega) (by rw [hby]; omega)
      rw [hr] at hr2
      injection hr2 with e1 e2
      exact ⟨_, _, e1, .inr rfl⟩
    · by_cases hroom : n + 1 ≤ cap
      · have hr2 := run_append_room (P := P) w t ty e i ht hi g n cap cur hgg a 1 c news (by rw [hl, hsize]; omega) hnews h1 hroom (by
          rw [hsize, hl, h3']
          have : (n + 1) * size ≤ cap * size := Nat.mul_le_mul_right _ hroom
          rw [Nat.add_mul] at this
          omega)
        rw [hr] at hr2
        injection hr2 with e1 e2
        exact ⟨_, _, e1, .inl rfl⟩
      · have hr2 := run_append_grow (P := P) w t ty e i z ht hi hz ⟨g, 0, none⟩ n cap xs (by rw [hlen, hsize]) (hcells g rfl) a 1 c news (by rw [hl, hsize]; omega) hnews (by omega) (by omega) (growslice_fits (by omega) (by rw [hby]; exact hbb))
        rw [hr] at hr2
        injection hr2 with e1 e2
        exact ⟨_, _, e1, .inr rfl⟩
  obtain ⟨g, cap, rfl, hw⟩ := key
  exact ⟨g, cap, w', hr, ho, hkeep, hw⟩

/-- The two lists, and where they may lie. -/
structure St (B : Nat) (w3 : World) (A0 W0 : Value) (wx : World) (av : Value) (la : List Int) (wv : Value) (n : Nat) (xs : List Value) : Prop where
  ia : Ints wx av la
  iw : wx.ownsRow B 34 3 wv n xs
  fa : ∀ g, av.ownBlock = some g → A0.ownBlock = some g ∨ w3.heap.size ≤ g
  fw : ∀ g, wv.ownBlock = some g → W0.ownBlock = some g ∨ w3.heap.size ≤ g
  k : Keeps (fun k => A0.ownBlock = some k ∨ W0.ownBlock = some k ∨ w3.heap.size ≤ k) w3 wx

section
variable {B : Nat} {w3 : World} {A0 W0 : Value} {wx : World} {av : Value} {la : List Int} {wv : Value} {n : Nat} {xs : List Value}
theorem St.start {w : World} (ha : Ints w av la) (hw : w.ownsRow B 34 3 wv n xs) : St B w av wv w av la wv n xs := ⟨ha, hw, fun _ h => .inl h, fun _ h => .inl h, Keeps.refl _ _⟩
theorem St.alloc (h : St B w3 A0 W0 wx av la wv n xs) (o : Obj) : St B w3 A0 W0 (wx.alloc o) av la wv n xs := ⟨h.ia.alloc o, h.iw.alloc o, h.fa, h.fw, h.k.alloc o⟩
theorem St.drew (h : St B w3 A0 W0 wx av la wv n xs) : St B w3 A0 W0 wx.drew av la wv n xs := ⟨h.ia.drewN 1, h.iw, h.fa, h.fw, h.k.drew⟩
theorem St.ne (h : St B w3 A0 W0 wx av la wv n xs) {g : Nat} (ha : av.ownBlock = some g) (hw : wv.ownBlock = some g) : False := by
  rcases h.ia with ⟨e, -⟩ | ⟨g1, cap1, cur1, e, hg1, -⟩
  · rw [e] at ha; simp [Value.ownBlock] at ha
  · rcases h.iw.2 with ⟨e2, -⟩ | ⟨g2, cap2, cur2, e2, _, hg2, -⟩
    · rw [e2] at hw; simp [Value.ownBlock] at hw
    · rw [e] at ha; rw [e2] at hw
      simp [Value.ownBlock] at ha hw
      subst ha; subst hw
      rw [hg1] at hg2
      simp at hg2
theorem St.keepA (h : St B w3 A0 W0 wx av la wv n xs) {w' : World} {av' : Value} {la' : List Int} {g : Nat} (hk : Keeps (fun k => av.ownBlock = some k) wx w') (hI : Ints w' av' la') (hg' : av'.ownBlock = some g) (hg : av.ownBlock = some g ∨ g = wx.heap.size) : St B w3 A0 W0 w' av' la' wv n xs := by
  refine ⟨hI, ?_, fun x hx => ?_, h.fw, h.k.trans hk (fun k hk e => ?_)⟩
  · refine h.iw.kept (row := av.ownBlock) ⟨hk.os, hk.tape, hk.output, hk.size, fun k hlt hne => hk.block k hlt (fun e => hne e.symm)⟩ ?_
    cases hw : wv.ownBlock with
    | none => exact .inl rfl
    | some g2 => exact .inr (fun e => h.ne e.symm hw)
  · rw [hg'] at hx
    cases hx
    rcases hg with e | e
    · exact h.fa _ e
    · have := h.k.size; exact .inr (by omega)
  · rcases h.fa k e with h1 | h1
    · exact .inl h1
    · exact .inr (.inr h1)
theorem St.keepW (h : St B w3 A0 W0 wx av la wv n xs) {w' : World} {wv' : Value} {n' : Nat} {xs' : List Value} {g : Nat} (hk : Keeps (fun k => wv.ownBlock = some k) wx w') (hI : w'.ownsRow B 34 3 wv' n' xs') (hg' : wv'.ownBlock = some g) (hg : wv.ownBlock = some g ∨ g = wx.heap.size) : St B w3 A0 W0 w' av la wv' n' xs' := by
  refine ⟨h.ia.keep hk (fun k ha hw => h.ne ha hw), hI, h.fa, fun x hx => ?_, h.k.trans hk (fun k hk e => ?_)⟩
  · rw [hg'] at hx
    cases hx
    rcases hg with e | e
    · exact h.fw _ e
    · have := h.k.size; exact .inr (by omega)
  · rcases h.fw k e with h1 | h1
    · exact .inr (.inl h1)
    · exact .inr (.inr h1)
theorem St.aLt (h : St B w3 A0 W0 wx av la wv n xs) : ∀ k, av.ownBlock = some k → k < wx.heap.size := fun k hk => Own.lt h.ia k hk
theorem St.wLt (h : St B w3 A0 W0 wx av la wv n xs) : ∀ k, wv.ownBlock = some k → k < wx.heap.size := fun k hk => (h.iw.lt k hk).2

/-- The step that appends to the integers. -/
theorem step_stA {ops : Array Oper} {o : Oper} {a : Act} {K : Act → World → Prop} {Q : Exit → Act → World → Prop} {E : Prop} {i0 : TypeInfo} (hi : Try.prog.info? 3 = some i0) (hz0 : i0.zero = some (.int .i64 0)) (hz1 : i0.size = 1) (hz2 : i0.bytes = 8)
    (hg : o.guard = none) (s x : Operand) (ho : o.op = .call { callee := .builtin .append, args := #[s, x], argTypes := #[ (22 : Nat) , (22 : Nat) ] })
    (hS : St B w3 A0 W0 wx av la wv n xs) (hs : a.eval s = av) (ad : Addr) (c : Nat) (u : Int) (hx : a.eval x = .slice (some ad) 1 c) (hu : wx.cell? ad = some (.int .i64 u)) (hn : la.length ≤ 1000000000000)
    (h : ∀ g cap w', St B w3 A0 W0 w' (.slice (some ⟨g, 0, none⟩) (la.length + 1) cap) (la ++ [u]) wv n xs → Keeps (fun k => av.ownBlock = some k) wx w' → K (a.put o.dst (.slice (some ⟨g, 0, none⟩) (la.length + 1) cap)) w') :
    if Region.wanted o (yielded ops a.tmps) = true then Oper.wp Try.prog o a wx K Q else E := by
  refine step_app1 hg s x 22 ho 3 i0 (.int .i64 0) 8 Try.underlying_ints hi hz0 hz1 hz2 rfl (by decide) av la.length _ hs hS.ia ad c (.int .i64 u) hx hu rfl hn ?_
  intro g cap w' hO hK hgg
  exact h g cap w' (hS.keepA hK (Ints.snoc hO) rfl hgg) hK
/-- The step that appends to the triples. -/
theorem step_stW {ops : Array Oper} {o : Oper} {a : Act} {K : Act → World → Prop} {Q : Exit → Act → World → Prop} {E : Prop} {i3 : TypeInfo} {z3 : Value} (ht : Try.prog.underlying 33 = some (.slice 34)) (hi : Try.prog.info? 34 = some i3) (hz0 : i3.zero = some z3) (hz1 : i3.size = 3) (hz2 : i3.bytes = 24) (hzs : z3.cells.size = 3)
    (hg : o.guard = none) (s x : Operand) (ho : o.op = .call { callee := .builtin .append, args := #[s, x], argTypes := #[ (33 : Nat) , (33 : Nat) ] })
    (hS : St B w3 A0 W0 wx av la wv n xs) (hs : a.eval s = wv) (b c : Nat) (u0 u1 u2 : Int) (hx : a.eval x = .slice (some ⟨b, 0, none⟩) 1 c) (hu0 : wx.cell? ⟨b, 0, none⟩ = some (.int .i64 u0)) (hu1 : wx.cell? ⟨b, 1, none⟩ = some (.int .i64 u1)) (hu2 : wx.cell? ⟨b, 2, none⟩ = some (.int .i64 u2)) (hn : n ≤ 1000000000000) (hB : B ≤ w3.heap.size)
    (h : ∀ g cap w', St B w3 A0 W0 w' av la (.slice (some ⟨g, 0, none⟩) (n + 1) cap) (n + 1) (xs ++ [.int .i64 u0, .int .i64 u1, .int .i64 u2]) → Keeps (fun k => wv.ownBlock = some k) wx w' → K (a.put o.dst (.slice (some ⟨g, 0, none⟩) (n + 1) cap)) w') :
    if Region.wanted o (yielded ops a.tmps) = true then Oper.wp Try.prog o a wx K Q else E := by
  have hw : Region.wanted o (yielded ops a.tmps) = true := by simp [Region.wanted, hg]
  rw [if_pos hw]
  have hnews : ∀ j y, [Value.int .i64 u0, .int .i64 u1, .int .i64 u2][j]? = some y → wx.cell? ((⟨b, 0, none⟩ : Addr).add j) = some y := by
    intro j y hj
    match j with
    | 0 => simp at hj; subst hj; simpa [Addr.add] using hu0
    | 1 => simp at hj; subst hj; simpa [Addr.add] using hu1
    | 2 => simp at hj; subst hj; simpa [Addr.add] using hu2
    | j + 3 => simp at hj
  obtain ⟨g, cap, w', hr, hO, hK, hgg⟩ := run_appR (P := Try.prog) wx B 33 o.type 34 i3 z3 3 24 ht hi hz0 hz1 hz2 hzs (by omega) (by omega) wv n xs hS.iw ⟨b, 0, none⟩ c [.int .i64 u0, .int .i64 u1, .int .i64 u2] rfl hnews
    (by intro y hy; simp at hy; rcases hy with rfl | rfl | rfl <;> rfl) hn (by have := hS.k.size; omega)
  unfold Oper.wp execOp
  simp only [ho, resolve, invoke, builtin, Sem.run_bind, Sem.run_pure, Result.andThen_ok, List.map_toArray, List.map_cons, List.map_nil, hs, hx, hr]
  exact h g cap w' (hS.keepW hK hO rfl hgg) hK
end
end Go.Proofs.Ytnbiofcfphpikaa
