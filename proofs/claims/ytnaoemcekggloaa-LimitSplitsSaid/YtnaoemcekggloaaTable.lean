/- The table's Get, Put and All. -/
import Derived.Test.YtnaoemcekggloaaRise
namespace Go.Proofs.Ytnaoemcekggloaa
open Go.RowKit Go.Shelf Go.Proofs.YtnaoemcekggloaaW.PrintWords Go.Proofs.YtnaoemcekggloaaW.PrintLast Go.Proofs.YtnaoemcekggloaaW.PrintMore It
variable {G : Nat × (Nat → Prop)}
attribute [local go_sem] Oper.semAt_some

/-- Block B holds the table of tree t, whose nodes lie below block n. -/
def IsTab (G : Nat × (Nat → Prop)) (n : Nat) (w : World) (B : Nat) (t : Tr) : Prop := ∃ p, Boxed w B 98 (.pointer p) ∧ IsTr G n w p t
theorem IsTab.cell {n : Nat} {w : World} {B : Nat} {t : Tr} (h : IsTab G n w B t) : ∃ p, w.cell? ⟨B, 0, none⟩ = some (.pointer p) ∧ IsTr G n w p t := by
  obtain ⟨p, hp, ht⟩ := h
  exact ⟨p, cell_of_row _ _ 0 _ 98 (0, 0) hp, ht⟩

theorem get_any (n : Nat) (B : Nat) (t : Tr) (x : Nat) (w : World) (h : IsTab G n w B t) :
    Calls Try.prog 56 #[.pointer (some ⟨B, 0, none⟩), .int .u64 x] w fun e w' => e = .returned (.tuple #[.int .i64 ((findV t x).getD 0), .bool (findV t x).isSome]) ∧ w = w' := by
  obtain ⟨p, hp, ht⟩ := h.cell
  have HT := Lib.hid ht
  clear ht h
  go_enter Try.func56, Try.ntmps56
  go_wp2_with fail
  refine (find_any n p t x w HT.out).mono ?_
  rintro e w' ⟨⟨q, rfl, hq⟩, rfl⟩
  rcases hR : findV t x with _ | v
  · rw [hR] at hq
    have HR := Lib.hid hR
    clear hR
    obtain rfl : q = none := hq
    go_wp2
    go_ret2
    exact ⟨by rw [HR.out]; rfl, rfl⟩
  · rw [hR] at hq
    have HR := Lib.hid hR
    clear hR
    obtain ⟨b, rfl, hb, hc⟩ := hq
    go_wp2
    go_ret2
    exact ⟨by rw [HR.out]; rfl, rfl⟩

theorem IsTr.apart {n : Nat} {w w' : World} {B : Nat} {v : Value} {ty : Nat} (hB : w.heap[B]? = some (.cells #[v] ty)) (hk : ∀ k, k < n → k ≠ B → w'.heap[k]? = w.heap[k]?) : ∀ {t : Tr} {p : Option Addr}, IsTr G n w p t → IsTr G n w' p t
  | .nil, _, h => h
  | .node _ _ _ _, _, ⟨b, pl, pr, hp, hlt, h0, h1, h2, h3, h4, h5, hl, hr, hg⟩ => by
    have hne : b ≠ B := fun e => by
      subst e
      have : w.cell? ⟨b, 1, none⟩ = none := cell_of_row w b 1 #[v] ty (0, 0) hB
      rw [this] at h1; cases h1
    have hc : ∀ j, w'.cell? ⟨b, j, none⟩ = w.cell? ⟨b, j, none⟩ := fun j => World.cell?_of_block (hk b hlt hne)
    exact ⟨b, pl, pr, hp, hlt, (hc 0).trans h0, (hc 1).trans h1, (hc 2).trans h2, (hc 3).trans h3, (hc 4).trans h4, (hc 5).trans h5, IsTr.apart hB hk hl, IsTr.apart hB hk hr, hg⟩

theorem tput_any (B : Nat) (t : Tr) (x : Nat) (u : Int) (w : World) (h : IsTab G w.heap.size w B t) (hs : t.sz + 1 ≤ 140737488355328) :
    Calls Try.prog 57 #[.pointer (some ⟨B, 0, none⟩), .int .u64 x, .int .i64 u] w fun e w' => e = .returned (.bool !(findV t x).isSome) ∧ IsTab G w'.heap.size w' B (putT t x u) ∧ Keep (fun k => k = B) w w' := by
  have hB0 := h
  obtain ⟨p, hp, ht⟩ := h.cell
  have HT := Lib.hid ht
  have HB := Lib.hid hB0
  have HS := Lib.hid hs
  clear ht h hB0 hs
  go_enter Try.func57, Try.ntmps57
  go_wp2_with fail
  refine (find_any w.heap.size p t x w HT.out).mono ?_
  rintro e w' ⟨⟨q, rfl, hq⟩, rfl⟩
  have hq2 : (q == none) = !(findV t x).isSome := by
    rcases hR : findV t x with _ | v
    · rw [hR] at hq; obtain rfl : q = none := hq; rfl
    · rw [hR] at hq; obtain ⟨b, rfl, _⟩ := hq; rfl
  have HQ := Lib.hid hq2
  clear hq hq2
  cases q
  all_goals
    go_wp2_with fail
    refine (put_any x u t p w HT.out HS.out).mono ?_
    rintro e w1 ⟨b1, rfl, ht1, hb1⟩
    have HT1 := Lib.hid ht1
    have HB1 := Lib.hid hb1
    clear ht1
    obtain ⟨p2, hp2, _⟩ := HB.out
    have hBl : B < w.heap.size := (Array.getElem?_eq_some_iff.1 hp2).1
    have hB1 : Boxed w1 B 98 (.pointer p2) := (hb1.block B hBl).trans hp2
    have hf1 := hB1.frozen
    have hc1 : w1.cell? ⟨B, 0, none⟩ = some (.pointer p2) := cell_of_row _ _ 0 _ 98 (0, 0) hB1
    have HB2 := Lib.hid hB1
    clear hb1 hp2 hB1
    go_wp2_with fail
    go_ret
    have hset := HB2.out.set (.pointer (some ⟨b1, 0, none⟩))
    refine ⟨ret_b (by rw [← HQ.out]; rfl), ⟨_, hset, ?_⟩, ?_⟩
    · refine IsTr.apart (w := w1) HB2.out (fun k _ hne => Below.heap_setCell _ _ _ _ hne) (HT1.out.more ?_)
      simp
    · exact ⟨HB1.out.os, HB1.out.tape, HB1.out.output, by simpa using HB1.out.size, fun k hk hne => (Below.heap_setCell _ _ _ _ hne).trans (HB1.out.block k hk)⟩

/-- what a tree's walk reads -/
theorem all1 (n : Nat) (B X : Nat) (t : Tr) (w1 w : World) (hX : Boxed w X 113 (.pointer (some ⟨B, 0, none⟩))) (h : IsTab G n w1 B t) (hn : n ≤ w1.heap.size) (hB : B < n) (hw : Below w1.heap.size w1 w) :
    Iter Try.prog 73 #[.pointer (some ⟨X, 0, none⟩)] (fun (x : Nat × Int) => #[.int .u64 x.1, .int .i64 x.2]) t.io (fun k => k < n ∨ k = X) w := by
  have hlt : ∀ k, (k < n ∨ k = X) → k < w.heap.size := fun k hk => by have := hw.size; have := hX.lt; rcases hk with h | h <;> omega
  refine ⟨hlt, fun y J Jx S0 W hW hS hJ hJx hY h0 => ?_⟩
  obtain ⟨p, hp, ht⟩ := h
  have hcX : W.cell? ⟨X, 0, none⟩ = some (.pointer (some ⟨B, 0, none⟩)) := (hW.cell (p := ⟨X, 0, none⟩) (.inr rfl)).trans hX.cell
  have hb1 : Below n w1 W := (hw.mono hn).trans (hW.below (fun k hk => .inl hk))
  have hcB : W.cell? ⟨B, 0, none⟩ = some (.pointer p) := (hb1.cell (p := ⟨B, 0, none⟩) hB).trans hp.cell
  have HC := Lib.hid (rise_any n y t.io J Jx W.heap.size hJ hY t p [] [] S0 W (ht.below hb1) (by simp) (fun k hk => ⟨by have := (hS k hk).1; omega, (hS k hk).2⟩) (by have := hb1.size; omega) h0)
  rw [← callsIn_wide (n := 99)]
  clear hY hW hS h0 hlt hw hX hp ht hb1 hJ hJx hn
  refine callsIn_of_wp Try.func73 rfl trivial ?_ rfl
  simp only [Try.ntmps73, List.size_toArray, List.length_cons, List.length_nil, Nat.reduceAdd, Nat.reduceSub, Array.replicate_succ, Array.replicate_zero, List.push_toArray, List.append_toArray, List.nil_append, List.cons_append]
  gi_wp2_with fail
  refine ⟨trivial, (callsIn_wide.2 HC.out).mono ?_⟩
  rintro e W2 (⟨rfl, S2, hm, hj⟩ | ⟨rfl, S2, pre, hm, hne, hpr, hj⟩)
  · gi_wp2
    go_end0
    exact ⟨⟨_, rfl⟩, S2, hm, .inl (by simpa using hj)⟩
  · gi_wp2
    go_end0
    exact ⟨⟨_, rfl⟩, S2, hm, .inr ⟨pre, hne, hpr, hj⟩⟩

theorem all_any (p : Option Addr) (w : World) :
    Calls Try.prog 58 #[.pointer p] w fun e w' => e = .returned (.func (.func 73) #[] #[.pointer (some ⟨w.heap.size, 0, none⟩)]) ∧ w.alloc (.cells #[.pointer p] 113) = w' := by
  go_enter Try.func58, Try.ntmps58
  go_wp2
  go_ret
  exact ⟨rfl, rfl⟩
end Go.Proofs.Ytnaoemcekggloaa
