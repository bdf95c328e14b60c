/- An append to an owned row within a fence, and a tree whose nodes are among the owned blocks. -/
import Derived.Test.YtnaoemcekggloaaValue
import Derived.Maps.OwnIn
namespace Go.Proofs.Ytnaoemcekggloaa
open Go.RowKit Go.Shelf Go.Proofs.YtnaoemcekggloaaW.PrintWords Go.Proofs.YtnaoemcekggloaaW.PrintLast Go.Proofs.YtnaoemcekggloaaW.PrintMore It
variable {G : Nat × (Nat → Prop)}

theorem R_appendIn {α : Type} (d : Kd α) {F : Fence} {nF : Nat} {P : Program} {ops : Array Oper} {rest : List Oper} {o : Oper} {a : Act} {Q : Exit → Act → World → Prop} {W : World} (base : Nat) (hgd : o.guard = none) (s x : Operand) (t e : TypeId) (z : Value) (bytes : Nat)
    (ho : o.op = .call { callee := .builtin .append, args := #[s, x], argTypes := #[t, t] })
    (ht : P.underlying t = some (.slice e)) (hinfo : (P.info? e).map (fun i => (i.zero, i.size, i.bytes)) = some (some z, d.sz, bytes)) (hz : z.cells.size = d.sz) (hs0 : 0 < d.sz) (hb0 : 0 < bytes)
    (v : Value) (xs : List α) (p : α) (cs : List Value) (ok okp : Nat → Prop) (hs : a.eval s = v) (hx : a.eval x = .slice (some ⟨W.heap.size, 0, none⟩) 1 1) (hp : d.M W base okp p cs) (hokp : ∀ k, okp k → ok k ∧ some k ≠ v.ownBlock) (hfresh : ∀ k, W.heap.size ≤ k → ok k)
    (HO : d.R e W base ok v xs) (hbase : base ≤ W.heap.size) (hl : (xs.length + 1) * bytes ≤ 140737488355328)
    (h : ∀ v1 w1, d.R e w1 base ok v1 (xs ++ [p]) → W.grownBy w1 v.ownBlock → (v1.ownBlock = v.ownBlock ∨ v1.ownBlock = some (W.heap.size + 1)) → wpListIn F nF P ops Q rest (a.put o.dst v1) w1) :
    wpListIn F nF P ops Q (o :: rest) a (W.alloc (.cells cs.toArray e)) := by
  obtain ⟨h0, inner, hown, hr⟩ := HO
  obtain ⟨i0, hi, hzz⟩ := Option.map_eq_some_iff.1 hinfo
  simp only [Prod.mk.injEq] at hzz
  obtain ⟨hz0, hz1, hz2⟩ := hzz
  have hlen : xs.length + 1 ≤ 140737488355328 := Nat.le_trans (Nat.le_mul_of_pos_right _ hb0) hl
  have hlc : cs.length = d.sz := d.K_len (d.K_of_M hp)
  refine wpListIn_append_own_at (W.alloc (.cells cs.toArray e)) hgd s x t ho base e i0 z d.sz bytes ht hi hz0 hz1 hz2 hz hs0 v xs.length inner hs (hown.alloc _) ⟨W.heap.size, 0, none⟩ 1 1 cs hx (by rw [hlc]; simp)
    (by simpa using World.news_of_block (cs := cs.toArray) (t := e) (fr := (0, 0)) (heap_alloc_new W (.cells cs.toArray e))) (d.K_one (d.K_of_M hp)) (by simp only [maxLen]; omega) hl (by simp; omega) ?_
  intro v1 w1 hown1 hg _ hat
  have hg2 := World.grownBy.trans (World.grownBy_alloc W (.cells cs.toArray e) _) hg
  have hat2 : v1.ownBlock = v.ownBlock ∨ v1.ownBlock = some (W.heap.size + 1) := by simpa using hat
  exact h v1 w1 (Kd.R_appended h0 hr hp hokp hfresh hown1 hg2 (hat2.imp id (fun e => ⟨_, e, by omega⟩))) hg2 hat2

/-- To other bounds and another world. -/
theorem IsTr.conv {G' : Nat × (Nat → Prop)} {n n' : Nat} {w w' : World} (hG : G'.1 ≤ n') (hk : ∀ b, b < n → (G.1 ≤ b ∨ G.2 b) → b < n' ∧ (G'.1 ≤ b ∨ G'.2 b) ∧ w'.heap[b]? = w.heap[b]?) :
    ∀ {t : Tr} {p : Option Addr}, IsTr G n w p t → IsTr G' n' w' p t
  | .nil, _, h => ⟨h.1, hG⟩
  | .node _ _ _ _, _, ⟨b, pl, pr, hp, hlt, h0, h1, h2, h3, h4, h5, hl, hr, hg⟩ => by
    obtain ⟨k1, k2, k3⟩ := hk b hlt hg
    have hc : ∀ j, w'.cell? ⟨b, j, none⟩ = w.cell? ⟨b, j, none⟩ := fun j => World.cell?_of_block k3
    exact ⟨b, pl, pr, hp, k1, (hc 0).trans h0, (hc 1).trans h1, (hc 2).trans h2, (hc 3).trans h3, (hc 4).trans h4, (hc 5).trans h5, IsTr.conv hG hk hl, IsTr.conv hG hk hr, k2⟩

/-- The table in block T; its nodes are owned blocks. -/
def TabIn (T : Nat) (t : Tr) (S : Nat → Prop) (W : World) : Prop := S T ∧ IsTab (W.heap.size, S) W.heap.size W T t
theorem stab_tab {β : Type} {B : Nat} (T : Nat) (f : β → Tr) : Stab B (fun s S W => TabIn T (f s) S W) := by
  rintro s S W W' ⟨hT, p, hp, ht⟩ _ _ _ hsz hk
  refine ⟨hT, p, (hk T hp.lt (.inr hT)).trans hp, IsTr.conv (Nat.le_refl _) (fun b hb hg => ?_) ht⟩
  have hSb : S b := by rcases hg with h | h; exact absurd h (by simp; omega); exact h
  exact ⟨by omega, .inr hSb, hk b hb (.inr hSb)⟩
/-- Behind a Put. -/
theorem TabIn.put {T : Nat} {t t' : Tr} {S : Nat → Prop} {W W' : World} (h : TabIn T t S W) (hS : ∀ k, S k → k < W.heap.size) (hk : Keep (fun k => k = T) W W') (h' : IsTab (W.heap.size, S) W'.heap.size W' T t') :
    Mv S W (fun k => S k ∨ (W.heap.size ≤ k ∧ k < W'.heap.size)) W' ∧ TabIn T t' (fun k => S k ∨ (W.heap.size ≤ k ∧ k < W'.heap.size)) W' := by
  refine ⟨⟨hk.mono (fun k e => by subst e; exact h.1), fun k hk' => ?_⟩, .inl h.1, ?_⟩
  · rcases hk' with hk' | hk'
    · exact ⟨.inl hk', Nat.lt_of_lt_of_le (hS k hk') hk.size⟩
    · exact ⟨.inr hk'.1, hk'.2⟩
  · obtain ⟨p, hp, ht⟩ := h'
    refine ⟨p, hp, IsTr.conv (Nat.le_refl _) (fun b hb hg => ⟨hb, .inr ?_, rfl⟩) ht⟩
    rcases hg with hg | hg
    · exact .inr ⟨hg, hb⟩
    · exact .inl hg
end Go.Proofs.Ytnaoemcekggloaa
