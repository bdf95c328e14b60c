/- A balanced tree: heights, sizes, joins and turns. -/
import Derived.Test.YtnaoemcekggloaaHas
import Derived.Deep.RegionHeld3
import Derived.Deep.DrawnRows
namespace Go.Proofs.Ytnaoemcekggloaa
open Go.RowKit Go.Proofs.YtnaoemcekggloaaW.PrintWords Go.Proofs.YtnaoemcekggloaaW.PrintLast Go.Proofs.YtnaoemcekggloaaW.PrintMore
attribute [local go_sem ↓] Go.wp_at_zero Go.wp_at_succ

/-- A tree as the table holds it. -/
inductive Tr where
  | nil
  | node (k : Nat) (v : Int) (l r : Tr)
def Tr.h : Tr → Nat
  | .nil => 0
  | .node _ _ l r => max l.h r.h + 1
def Tr.sz : Tr → Nat
  | .nil => 0
  | .node _ _ l r => l.sz + r.sz + 1
theorem Tr.h_le : ∀ t : Tr, t.h ≤ t.sz
  | .nil => Nat.le_refl _
  | .node _ _ l r => by have := l.h_le; have := r.h_le; simp only [Tr.h, Tr.sz]; omega

/-- Address p leads to the tree t, whose nodes lie below block n, and each from block G.1 on, or among G.2. -/
def IsTr (G : Nat × (Nat → Prop)) (n : Nat) (w : World) : Option Addr → Tr → Prop
  | p, .nil => p = none ∧ G.1 ≤ n
  | p, .node k v l r => ∃ (b : Nat) (pl pr : Option Addr), p = some ⟨b, 0, none⟩ ∧ b < n ∧ w.cell? ⟨b, 0, none⟩ = some (.int .u64 k) ∧ w.cell? ⟨b, 1, none⟩ = some (.int .i64 v) ∧
      w.cell? ⟨b, 2, none⟩ = some (.pointer pl) ∧ w.cell? ⟨b, 3, none⟩ = some (.pointer pr) ∧ w.cell? ⟨b, 4, none⟩ = some (.int .i64 (Tr.node k v l r).h) ∧ w.cell? ⟨b, 5, none⟩ = some (.int .i64 (Tr.node k v l r).sz) ∧
      IsTr G n w pl l ∧ IsTr G n w pr r ∧ (G.1 ≤ b ∨ G.2 b)
variable {G : Nat × (Nat → Prop)}
theorem IsTr.below {n : Nat} {w w' : World} (hb : Below n w w') : ∀ {t : Tr} {p : Option Addr}, IsTr G n w p t → IsTr G n w' p t
  | .nil, _, h => h
  | .node _ _ _ _, _, ⟨b, pl, pr, hp, hlt, h0, h1, h2, h3, h4, h5, hl, hr, hg⟩ =>
    ⟨b, pl, pr, hp, hlt, (hb.cell (p := ⟨b, 0, none⟩) hlt).trans h0, (hb.cell (p := ⟨b, 1, none⟩) hlt).trans h1, (hb.cell (p := ⟨b, 2, none⟩) hlt).trans h2, (hb.cell (p := ⟨b, 3, none⟩) hlt).trans h3,
      (hb.cell (p := ⟨b, 4, none⟩) hlt).trans h4, (hb.cell (p := ⟨b, 5, none⟩) hlt).trans h5, IsTr.below hb hl, IsTr.below hb hr, hg⟩
theorem IsTr.more {n n' : Nat} {w : World} (hn : n ≤ n') : ∀ {t : Tr} {p : Option Addr}, IsTr G n w p t → IsTr G n' w p t
  | .nil, _, h => ⟨h.1, Nat.le_trans h.2 hn⟩
  | .node _ _ _ _, _, ⟨b, pl, pr, hp, hlt, h0, h1, h2, h3, h4, h5, hl, hr, hg⟩ => ⟨b, pl, pr, hp, by omega, h0, h1, h2, h3, h4, h5, IsTr.more hn hl, IsTr.more hn hr, hg⟩

theorem IsTr.base {n : Nat} {w : World} : ∀ {t : Tr} {p : Option Addr}, IsTr G n w p t → G.1 ≤ n
  | .nil, _, h => h.2
  | .node _ _ _ _, _, ⟨_, _, _, _, _, _, _, _, _, _, _, hl, _, _⟩ => IsTr.base hl

theorem below_drewN (n : Nat) (w : World) (nd : Nat) : Below n w (w.drewN nd) := ⟨rfl, rfl, rfl, Nat.le_refl _, fun _ _ => rfl⟩
theorem below_drew (n : Nat) (w : World) : Below n w w.drew := ⟨rfl, rfl, rfl, Nat.le_refl _, fun _ _ => rfl⟩

theorem height_any (n : Nat) (p : Option Addr) (t : Tr) (w : World) (h : IsTr G n w p t) :
    Calls Try.prog 102 #[.pointer p] w fun e w' => e = .returned (.int .i64 t.h) ∧ w = w' := by
  cases t with
  | nil =>
    obtain rfl : p = none := h.1
    go_enter Try.func102, Try.ntmps102
    go_wp2
    go_ret
    exact ⟨rfl, rfl⟩
  | node k v l r =>
    obtain ⟨b, pl, pr, rfl, hlt, h0, h1, h2, h3, h4, h5, hl, hr, -⟩ := h
    generalize (Tr.node k v l r).h = hh at *
    clear h0 h1 h2 h3 h5 hl hr
    go_enter Try.func102, Try.ntmps102
    go_wp2
    go_ret
    exact ⟨rfl, rfl⟩
theorem size_any (n : Nat) (p : Option Addr) (t : Tr) (w : World) (h : IsTr G n w p t) :
    Calls Try.prog 103 #[.pointer p] w fun e w' => e = .returned (.int .i64 t.sz) ∧ w = w' := by
  cases t with
  | nil =>
    obtain rfl : p = none := h.1
    go_enter Try.func103, Try.ntmps103
    go_wp2
    go_ret
    exact ⟨rfl, rfl⟩
  | node k v l r =>
    obtain ⟨b, pl, pr, rfl, hlt, h0, h1, h2, h3, h4, h5, hl, hr, -⟩ := h
    generalize (Tr.node k v l r).sz = hh at *
    clear h0 h1 h2 h3 h4 hl hr
    go_enter Try.func103, Try.ntmps103
    go_wp2
    go_ret
    exact ⟨rfl, rfl⟩
theorem join_fin (n : Nat) (k : Nat) (v : Int) (pl pr : Option Addr) (l r : Tr) (w : World) (H S : Int) (hl : IsTr G n w pl l) (hr : IsTr G n w pr r) (hn : n ≤ w.heap.size) (hH : H = (Tr.node k v l r).h) (hS : S = (Tr.node k v l r).sz) :
    IsTr G (w.alloc (.cells #[.int .u64 k, .int .i64 v, .pointer pl, .pointer pr, .int .i64 H, .int .i64 S] 116)).heap.size (w.alloc (.cells #[.int .u64 k, .int .i64 v, .pointer pl, .pointer pr, .int .i64 H, .int .i64 S] 116)) (some ⟨w.heap.size, 0, none⟩) (.node k v l r) ∧
      Below w.heap.size w (w.alloc (.cells #[.int .u64 k, .int .i64 v, .pointer pl, .pointer pr, .int .i64 H, .int .i64 S] 116)) := by
  subst hH hS
  have hb : Below w.heap.size w (w.alloc (.cells #[.int .u64 k, .int .i64 v, .pointer pl, .pointer pr, .int .i64 (Tr.node k v l r).h, .int .i64 (Tr.node k v l r).sz] 116)) := (Below.refl _ _).alloc (Nat.le_refl _) _
  have hc : ∀ j, (w.alloc (.cells #[.int .u64 k, .int .i64 v, .pointer pl, .pointer pr, .int .i64 (Tr.node k v l r).h, .int .i64 (Tr.node k v l r).sz] 116)).cell? ⟨w.heap.size, j, none⟩ = #[Value.int .u64 k, .int .i64 v, .pointer pl, .pointer pr, .int .i64 (Tr.node k v l r).h, .int .i64 (Tr.node k v l r).sz][j]? := fun j => cell_of_row _ _ j _ 116 (0, 0) (heap_alloc_new w _)
  refine ⟨⟨w.heap.size, pl, pr, rfl, by simp, hc 0, hc 1, hc 2, hc 3, hc 4, hc 5, ?_, ?_, .inl (Nat.le_trans hl.base hn)⟩, hb⟩
  · exact (hl.below (hb.mono hn)).more (by simp; omega)
  · exact (hr.below (hb.mono hn)).more (by simp; omega)

def Joins (G : Nat × (Nat → Prop)) (w : World) (t : Tr) (e : Ending) (w' : World) : Prop := ∃ b, e = .returned (.pointer (some ⟨b, 0, none⟩)) ∧ IsTr G w'.heap.size w' (some ⟨b, 0, none⟩) t ∧ Below w.heap.size w w'

theorem join_any (n : Nat) (k : Nat) (v : Int) (pl pr : Option Addr) (l r : Tr) (w : World) (hl : IsTr G n w pl l) (hr : IsTr G n w pr r) (hn : n ≤ w.heap.size) (hs : (Tr.node k v l r).sz ≤ 140737488355328) :
    Calls Try.prog 85 #[.int .u64 k, .int .i64 v, .pointer pl, .pointer pr] w (Joins G w (.node k v l r)) := by
  have e1 : ((Tr.node k v l r).h : Int) = max (l.h : Int) (r.h : Int) + 1 := by simp only [Tr.h]; omega
  have e2 : ((Tr.node k v l r).sz : Int) = (l.sz : Int) + r.sz + 1 := by simp only [Tr.sz]; omega
  have hlh := l.h_le
  have hrh := r.h_le
  have hls : l.sz + r.sz + 1 ≤ 140737488355328 := hs
  have HL := Lib.hid hl
  have HR := Lib.hid hr
  have E1 := Lib.hid e1
  have E2 := Lib.hid e2
  clear hl hr e1 e2 hs
  go_enter Try.func85, Try.ntmps85
  go_wp2_with fail
  refine (height_any n _ _ _ HL.out).mono ?_
  rintro e w' ⟨rfl, rfl⟩
  go_wp2_with fail
  refine (height_any n _ _ _ HR.out).mono ?_
  rintro e w' ⟨rfl, rfl⟩
  go_wp2_with fail
  all_goals
    refine (size_any n _ _ _ HL.out).mono ?_
    rintro e w' ⟨rfl, rfl⟩
    go_wp2_with fail
    refine (size_any n _ _ _ HR.out).mono ?_
    rintro e w' ⟨rfl, rfl⟩
    go_wp2_with fail
    go_ret
    refine ⟨_, rfl, ?_⟩
    refine join_fin n k v pl pr l r w _ _ HL.out HR.out hn ?_ ?_
    · rw [E1.out]; omega
    · rw [E2.out]

theorem lean_any (n : Nat) (p : Option Addr) (k : Nat) (v : Int) (l r : Tr) (w : World) (h : IsTr G n w p (.node k v l r)) (hs : (Tr.node k v l r).sz ≤ 140737488355328) :
    Calls Try.prog 104 #[.pointer p] w fun e w' => e = .returned (.int .i64 ((l.h : Int) - r.h)) ∧ ∃ nd, w' = w.drewN nd := by
  obtain ⟨b, pl, pr, rfl, hlt, h0, h1, h2, h3, h4, h5, hl, hr, -⟩ := h
  have hlh := l.h_le
  have hrh := r.h_le
  have hls : l.sz + r.sz + 1 ≤ 140737488355328 := hs
  have HL := Lib.hid (show ∀ m, Calls Try.prog 102 #[.pointer pl] (w.drewN m) fun e w' => e = .returned (.int .i64 l.h) ∧ w' = w.drewN m from fun m => (height_any n pl l (w.drewN m) (hl.below (below_drewN _ _ _))).mono fun e w' ⟨a, b⟩ => ⟨a, b.symm⟩)
  have HR := Lib.hid (show ∀ m, Calls Try.prog 102 #[.pointer pr] (w.drewN m) fun e w' => e = .returned (.int .i64 r.h) ∧ w' = w.drewN m from fun m => (height_any n pr r (w.drewN m) (hr.below (below_drewN _ _ _))).mono fun e w' ⟨a, b⟩ => ⟨a, b.symm⟩)
  clear h0 h1 h4 h5 hl hr hs
  go_enter Try.func104, Try.ntmps104
  go_wp2_with fail
  go_quiet ((first | (go_at_call 102; with_reducible exact Calls.quiet_of_same (HL.out _)) | (go_at_call 102; with_reducible exact Calls.quiet_of_same (HR.out _))))
  all_goals go_wp2
  all_goals
    go_ret
    exact ⟨rfl, _, rfl⟩

set_option maxHeartbeats 1600000 in
theorem turnRight_any (n : Nat) (p : Option Addr) (k k1 : Nat) (v v1 : Int) (ll lr r : Tr) (w : World) (h : IsTr G n w p (.node k v (.node k1 v1 ll lr) r)) (hn : n ≤ w.heap.size) (hs : (Tr.node k v (.node k1 v1 ll lr) r).sz ≤ 140737488355328) :
    Calls Try.prog 105 #[.pointer p] w (Joins G w (.node k1 v1 ll (.node k v lr r))) := by
  obtain ⟨b, pl, pr, rfl, hlt, h0, h1, h2, h3, h4, h5, hl, hr, -⟩ := h
  obtain ⟨b', pll, plr, rfl, hlt', g0, g1, g2, g3, g4, g5, hll, hlr, -⟩ := hl
  have hs1 : (Tr.node k v lr r).sz ≤ 140737488355328 := by simp only [Tr.sz] at hs ⊢; omega
  have hs2 : (Tr.node k1 v1 ll (.node k v lr r)).sz ≤ 140737488355328 := by simp only [Tr.sz] at hs ⊢; omega
  have HLL := Lib.hid hll
  have HLR := Lib.hid hlr
  have HR := Lib.hid hr
  have HS1 := Lib.hid hs1
  have HS2 := Lib.hid hs2
  have SK := Lib.hid (show ∀ w', Below n w w' → (w'.cell? ⟨b', 0, none⟩ = some (.int .u64 k1) ∧ w'.cell? ⟨b', 1, none⟩ = some (.int .i64 v1) ∧ w'.cell? ⟨b', 2, none⟩ = some (.pointer pll) ∧ w'.cell? ⟨b', 3, none⟩ = some (.pointer plr) ∧
      w'.cell? ⟨b, 0, none⟩ = some (.int .u64 k) ∧ w'.cell? ⟨b, 1, none⟩ = some (.int .i64 v) ∧ w'.cell? ⟨b, 3, none⟩ = some (.pointer pr)) from fun w' hb =>
    ⟨(hb.cell (p := ⟨b', 0, none⟩) hlt').trans g0, (hb.cell (p := ⟨b', 1, none⟩) hlt').trans g1, (hb.cell (p := ⟨b', 2, none⟩) hlt').trans g2, (hb.cell (p := ⟨b', 3, none⟩) hlt').trans g3, (hb.cell (p := ⟨b, 0, none⟩) hlt).trans h0, (hb.cell (p := ⟨b, 1, none⟩) hlt).trans h1, (hb.cell (p := ⟨b, 3, none⟩) hlt).trans h3⟩)
  clear h4 h5 g4 g5 hll hlr hr hs hs1 hs2
  go_enter Try.func105, Try.ntmps105
  go_wp2_with fail
  go_region_held3 (fun w' => w'.cell? ⟨b', 0, none⟩ = some (.int .u64 k1) ∧ w'.cell? ⟨b', 1, none⟩ = some (.int .i64 v1) ∧ w'.cell? ⟨b', 2, none⟩ = some (.pointer pll) ∧ w'.cell? ⟨b', 3, none⟩ = some (.pointer plr) ∧
      w'.cell? ⟨b, 0, none⟩ = some (.int .u64 k) ∧ w'.cell? ⟨b, 1, none⟩ = some (.int .i64 v) ∧ w'.cell? ⟨b, 3, none⟩ = some (.pointer pr))
    (first | go_keep | exact SK.out _ ((below_drew _ _).trans ((hb1.mono hn).trans (hb2.mono (Nat.le_trans hn hb1.size)))) | exact SK.out _ ((below_drew _ _).trans (hb1.mono hn)))
    ((first
      | (go_at_call 85; (with_reducible refine (join_any (G := G) n k v plr pr lr r _ ?_ ?_ ?_ HS1.out).mono ?_); (exact HLR.out.below (below_drew _ _)); (exact HR.out.below (below_drew _ _)); (exact hn); rintro e w1 ⟨b1, rfl, ht1, hb1⟩)
      | (go_at_call 85; (with_reducible refine (join_any (G := G) w1.heap.size k1 v1 pll (some ⟨b1, 0, none⟩) ll (.node k v lr r) w1 ?_ ht1 ?_ HS2.out).mono ?_); (exact (((HLL.out.below (below_drew _ _)).below (hb1.mono hn)).more (Nat.le_trans hn hb1.size))); (exact Nat.le_refl _); rintro e w2 ⟨b2, rfl, ht2, hb2⟩)))
  go_wp2
  go_ret
  exact ⟨b2, rfl, ht2, (below_drew _ _).trans (hb1.trans (hb2.mono hb1.size))⟩

set_option maxHeartbeats 1600000 in
theorem turnLeft_any (n : Nat) (p : Option Addr) (k k1 : Nat) (v v1 : Int) (l rl rr : Tr) (w : World) (h : IsTr G n w p (.node k v l (.node k1 v1 rl rr))) (hn : n ≤ w.heap.size) (hs : (Tr.node k v l (.node k1 v1 rl rr)).sz ≤ 140737488355328) :
    Calls Try.prog 106 #[.pointer p] w (Joins G w (.node k1 v1 (.node k v l rl) rr)) := by
  obtain ⟨b, pl, pr, rfl, hlt, h0, h1, h2, h3, h4, h5, hl, hr, -⟩ := h
  obtain ⟨b', prl, prr, rfl, hlt', g0, g1, g2, g3, g4, g5, hrl, hrr, -⟩ := hr
  have hs1 : (Tr.node k v l rl).sz ≤ 140737488355328 := by simp only [Tr.sz] at hs ⊢; omega
  have hs2 : (Tr.node k1 v1 (.node k v l rl) rr).sz ≤ 140737488355328 := by simp only [Tr.sz] at hs ⊢; omega
  have HRL := Lib.hid hrl
  have HRR := Lib.hid hrr
  have HL := Lib.hid hl
  have HS1 := Lib.hid hs1
  have HS2 := Lib.hid hs2
  have SK := Lib.hid (show ∀ w', Below n w w' → (w'.cell? ⟨b', 0, none⟩ = some (.int .u64 k1) ∧ w'.cell? ⟨b', 1, none⟩ = some (.int .i64 v1) ∧ w'.cell? ⟨b', 2, none⟩ = some (.pointer prl) ∧ w'.cell? ⟨b', 3, none⟩ = some (.pointer prr) ∧
      w'.cell? ⟨b, 0, none⟩ = some (.int .u64 k) ∧ w'.cell? ⟨b, 1, none⟩ = some (.int .i64 v) ∧ w'.cell? ⟨b, 2, none⟩ = some (.pointer pl)) from fun w' hb =>
    ⟨(hb.cell (p := ⟨b', 0, none⟩) hlt').trans g0, (hb.cell (p := ⟨b', 1, none⟩) hlt').trans g1, (hb.cell (p := ⟨b', 2, none⟩) hlt').trans g2, (hb.cell (p := ⟨b', 3, none⟩) hlt').trans g3, (hb.cell (p := ⟨b, 0, none⟩) hlt).trans h0, (hb.cell (p := ⟨b, 1, none⟩) hlt).trans h1, (hb.cell (p := ⟨b, 2, none⟩) hlt).trans h2⟩)
  clear h4 h5 g4 g5 hrl hrr hl hs hs1 hs2
  go_enter Try.func106, Try.ntmps106
  go_wp2_with fail
  go_region_held3 (fun w' => w'.cell? ⟨b', 0, none⟩ = some (.int .u64 k1) ∧ w'.cell? ⟨b', 1, none⟩ = some (.int .i64 v1) ∧ w'.cell? ⟨b', 2, none⟩ = some (.pointer prl) ∧ w'.cell? ⟨b', 3, none⟩ = some (.pointer prr) ∧
      w'.cell? ⟨b, 0, none⟩ = some (.int .u64 k) ∧ w'.cell? ⟨b, 1, none⟩ = some (.int .i64 v) ∧ w'.cell? ⟨b, 2, none⟩ = some (.pointer pl))
    (first | go_keep | exact SK.out _ ((below_drew _ _).trans ((hb1.mono hn).trans (hb2.mono (Nat.le_trans hn hb1.size)))) | exact SK.out _ ((below_drew _ _).trans (hb1.mono hn)))
    ((first
      | (go_at_call 85; (with_reducible refine (join_any (G := G) n k v pl prl l rl _ ?_ ?_ ?_ HS1.out).mono ?_); (exact HL.out.below (below_drew _ _)); (exact HRL.out.below (below_drew _ _)); (exact hn); rintro e w1 ⟨b1, rfl, ht1, hb1⟩)
      | (go_at_call 85; (with_reducible refine (join_any (G := G) w1.heap.size k1 v1 (some ⟨b1, 0, none⟩) prr (.node k v l rl) rr w1 ht1 ?_ ?_ HS2.out).mono ?_); (exact (((HRR.out.below (below_drew _ _)).below (hb1.mono hn)).more (Nat.le_trans hn hb1.size))); (exact Nat.le_refl _); rintro e w2 ⟨b2, rfl, ht2, hb2⟩)))
  go_wp2
  go_ret
  exact ⟨b2, rfl, ht2, (below_drew _ _).trans (hb1.trans (hb2.mono hb1.size))⟩
end Go.Proofs.Ytnaoemcekggloaa
