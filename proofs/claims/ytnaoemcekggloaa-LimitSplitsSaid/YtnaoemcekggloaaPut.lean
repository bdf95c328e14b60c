/- A pair is found in a tree, and put. -/
import Derived.Test.YtnaoemcekggloaaTree2
namespace Go.Proofs.Ytnaoemcekggloaa
open Go.RowKit Go.Proofs.YtnaoemcekggloaaW.PrintWords Go.Proofs.YtnaoemcekggloaaW.PrintLast Go.Proofs.YtnaoemcekggloaaW.PrintMore
variable {G : Nat × (Nat → Prop)}
attribute [local go_sem ↓] Go.wp_at_zero Go.wp_at_succ

def cmpN (a b : Nat) : Int := if a < b then -1 else if b < a then 1 else 0
theorem cmpU_any (a b : Nat) (w : World) :
    Calls Try.prog 80 #[.int .u64 a, .int .u64 b] w fun e w' => e = .returned (.int .i64 (cmpN a b)) ∧ w = w' := by
  have ha : ((a : Int) != a) = false := by simp
  have hb : ((b : Int) != b) = false := by simp
  by_cases h1 : a < b
  · go_enter Try.func80, Try.ntmps80
    go_wp2
    go_ret
    exact ⟨ret_i (by rw [cmpN, if_pos h1]), rfl⟩
  · by_cases h2 : b < a
    · go_enter Try.func80, Try.ntmps80
      go_wp2
      go_ret
      exact ⟨ret_i (by rw [cmpN, if_neg h1, if_pos h2]), rfl⟩
    · go_enter Try.func80, Try.ntmps80
      go_wp2
      go_ret
      exact ⟨ret_i (by rw [cmpN, if_neg h1, if_neg h2]), rfl⟩

def findV : Tr → Nat → Option Int
  | .nil, _ => none
  | .node k v l r, x => if x < k then findV l x else if k < x then findV r x else some v
def FindRes (n : Nat) (w : World) (o : Option Int) (e : Ending) : Prop :=
  ∃ q, e = .returned (.pointer q) ∧ match o with | none => q = none | some v => ∃ b, q = some ⟨b, 0, none⟩ ∧ b < n ∧ w.cell? ⟨b, 1, none⟩ = some (.int .i64 v)

set_option maxHeartbeats 800000 in
theorem find_any (n : Nat) (p : Option Addr) (t : Tr) (x : Nat) (w : World) (h : IsTr G n w p t) :
    Calls Try.prog 71 #[.pointer p, .int .u64 x] w fun e w' => FindRes n w (findV t x) e ∧ w = w' := by
  have H := Lib.hid h
  generalize hR : findV t x = R
  have HR := Lib.hid hR
  clear h hR
  go_enter Try.func71, Try.ntmps71
  go_wp2
  go_loopg [0] t.sz (fun g p' wr => ∃ (q : Option Addr) (t' : Tr), p' = .pointer q ∧ t'.sz ≤ g ∧ Hid (IsTr G n w q t') ∧ Hid (findV t' x = R) ∧ w = wr)
  case atStart => exact ⟨p, t, rfl, Nat.le_refl _, H, HR, rfl⟩
  case round =>
    clear H HR
    obtain ⟨q, t', rfl, hg, HT, HF, rfl⟩ := hrel
    cases t' with
    | nil =>
      obtain rfl : q = none := HT.out.1
      go_wp2
      go_ret
      refine ⟨⟨none, rfl, ?_⟩, rfl⟩
      rw [← HF.out]
      rfl
    | node k v l r =>
      obtain ⟨b, pl, pr, rfl, hlt, h0, h1, h2, h3, _, _, hl, hr, -⟩ := HT.out
      have hgl : l.sz < gk := by simp only [Tr.sz] at hg; omega
      have hgr : r.sz < gk := by simp only [Tr.sz] at hg; omega
      have HF2 := HF.out
      rw [findV] at HF2
      have HL := Lib.hid hl
      have HR := Lib.hid hr
      have H1 := Lib.hid h1
      clear hl hr hg h1
      by_cases c1 : x < k
      · rw [if_pos c1] at HF2
        have HC := Lib.hid (show cmpN x k = -1 by rw [cmpN, if_pos c1])
        have HF := Lib.hid HF2
        clear HF2
        go_wp2_with (go_at_call 80; refine (cmpU_any _ _ _).mono ?_; rintro e w' ⟨rfl, rfl⟩; rw [HC.out])
        go_roundg l.sz
        case measure => exact hgl
        case rel => exact ⟨pl, l, rfl, Nat.le_refl _, HL, HF, rfl⟩
      · by_cases c2 : k < x
        · rw [if_neg c1, if_pos c2] at HF2
          have HC := Lib.hid (show cmpN x k = 1 by rw [cmpN, if_neg c1, if_pos c2])
          have HF := Lib.hid HF2
          clear HF2
          go_wp2_with (go_at_call 80; refine (cmpU_any _ _ _).mono ?_; rintro e w' ⟨rfl, rfl⟩; rw [HC.out])
          go_roundg r.sz
          case measure => exact hgr
          case rel => exact ⟨pr, r, rfl, Nat.le_refl _, HR, HF, rfl⟩
        · rw [if_neg c1, if_neg c2] at HF2
          have HC := Lib.hid (show cmpN x k = 0 by rw [cmpN, if_neg c1, if_neg c2])
          have HF := Lib.hid HF2
          clear HF2
          go_wp2_with (go_at_call 80; refine (cmpU_any _ _ _).mono ?_; rintro e w' ⟨rfl, rfl⟩; rw [HC.out])
          go_ret
          refine ⟨⟨some ⟨b, 0, none⟩, rfl, ?_⟩, rfl⟩
          rw [← HF.out]
          exact ⟨b, rfl, hlt, H1.out⟩

def putT : Tr → Nat → Int → Tr
  | .nil, x, u => .node x u .nil .nil
  | .node k v l r, x, u => if x < k then evenT k v (putT l x u) r else if k < x then evenT k v l (putT r x u) else .node x u l r
theorem rotR_sz : ∀ t : Tr, (rotR t).sz = t.sz
  | .nil => rfl
  | .node k v .nil r => rfl
  | .node k v (.node k1 v1 ll lr) r => by simp only [rotR, Tr.sz]; omega
theorem rotL_sz : ∀ t : Tr, (rotL t).sz = t.sz
  | .nil => rfl
  | .node k v l .nil => rfl
  | .node k v l (.node k1 v1 rl rr) => by simp only [rotL, Tr.sz]; omega
theorem evenT_sz (k : Nat) (v : Int) (l r : Tr) : (evenT k v l r).sz = l.sz + r.sz + 1 := by
  unfold evenT
  split
  · split <;> simp only [rotR_sz, Tr.sz, rotL_sz]
  · split
    · split <;> simp only [rotL_sz, Tr.sz, rotR_sz]
    · rfl
theorem putT_sz : ∀ (t : Tr) (x : Nat) (u : Int), (putT t x u).sz ≤ t.sz + 1
  | .nil, _, _ => by simp [putT, Tr.sz]
  | .node k v l r, x, u => by
    rw [putT]
    have h1 := putT_sz l x u
    have h2 := putT_sz r x u
    split
    · rw [evenT_sz]; simp only [Tr.sz]; omega
    · split
      · rw [evenT_sz]; simp only [Tr.sz]; omega
      · simp only [Tr.sz]; omega

set_option maxHeartbeats 1600000 in
theorem put_any (x : Nat) (u : Int) : ∀ (t : Tr) (p : Option Addr) (w : World), IsTr G w.heap.size w p t → t.sz + 1 ≤ 140737488355328 →
    Calls Try.prog 72 #[.pointer p, .int .u64 x, .int .i64 u] w (Joins G w (putT t x u)) := by
  intro t
  induction t with
  | nil =>
    intro p w h hs
    obtain ⟨rfl, hG⟩ : p = none ∧ G.1 ≤ w.heap.size := h
    go_enter Try.func72, Try.ntmps72
    go_wp2_with fail
    refine (join_any w.heap.size x u none none .nil .nil w ⟨rfl, hG⟩ ⟨rfl, hG⟩ (Nat.le_refl _) (by simp [Tr.sz])).mono ?_
    rintro e w1 ⟨b1, rfl, ht1, hb1⟩
    have HT1 := Lib.hid ht1
    have HB1 := Lib.hid hb1
    clear ht1 hb1
    go_wp2_with fail
    go_ret
    exact ⟨b1, rfl, HT1.out, HB1.out⟩
  | node k v l r ihl ihr =>
    intro p w h hs
    obtain ⟨b, pl, pr, rfl, hlt, h0, h1, h2, h3, h4, h5, hl, hr, -⟩ := h
    have SK := Lib.hid (show ∀ w', Below w.heap.size w w' → (w'.cell? ⟨b, 0, none⟩ = some (.int .u64 k) ∧ w'.cell? ⟨b, 1, none⟩ = some (.int .i64 v) ∧ w'.cell? ⟨b, 2, none⟩ = some (.pointer pl) ∧ w'.cell? ⟨b, 3, none⟩ = some (.pointer pr)) from fun w' hb =>
      ⟨(hb.cell (p := ⟨b, 0, none⟩) hlt).trans h0, (hb.cell (p := ⟨b, 1, none⟩) hlt).trans h1, (hb.cell (p := ⟨b, 2, none⟩) hlt).trans h2, (hb.cell (p := ⟨b, 3, none⟩) hlt).trans h3⟩)
    have HL := Lib.hid hl
    have HR := Lib.hid hr
    have HS := Lib.hid hs
    have IHL := Lib.hid ihl
    have IHR := Lib.hid ihr
    have hz1 := putT_sz l x u
    have hz2 := putT_sz r x u
    have HZ1 := Lib.hid (show (Tr.node k v (putT l x u) r).sz ≤ 140737488355328 by simp only [Tr.sz] at hs ⊢; omega)
    have HZ2 := Lib.hid (show (Tr.node k v l (putT r x u)).sz ≤ 140737488355328 by simp only [Tr.sz] at hs ⊢; omega)
    have HZ3 := Lib.hid (show (Tr.node x u l r).sz ≤ 140737488355328 by simp only [Tr.sz] at hs ⊢; omega)
    clear h4 h5 hl hr ihl ihr hz1 hz2 hs
    by_cases c1 : x < k
    · have HC := Lib.hid (show cmpN x k = -1 by rw [cmpN, if_pos c1])
      rw [putT, if_pos c1]
      go_enter Try.func72, Try.ntmps72
      go_wp2_with (go_at_call 80; refine (cmpU_any _ _ _).mono ?_; rintro e w' ⟨rfl, rfl⟩; rw [HC.out])
      go_region_held3 (fun w' => w'.cell? ⟨b, 0, none⟩ = some (.int .u64 k) ∧ w'.cell? ⟨b, 1, none⟩ = some (.int .i64 v) ∧ w'.cell? ⟨b, 2, none⟩ = some (.pointer pl) ∧ w'.cell? ⟨b, 3, none⟩ = some (.pointer pr))
        (first | go_keep | exact SK.out _ ((below_drew _ _).trans (hb1.trans (hb2.mono hb1.size))) | exact SK.out _ ((below_drew _ _).trans hb1))
        ((first
          | (go_at_call 72; (with_reducible refine (IHL.out pl _ ?_ ?_).mono ?_); (exact HL.out.below (below_drew _ _)); (have := HS.out; simp only [Tr.sz] at this; omega); rintro e w1 ⟨b1, rfl, ht1, hb1⟩)
          | (go_at_call 86; (with_reducible refine (even_any k v (some ⟨b1, 0, none⟩) pr (putT l x u) r w1 ht1 ?_ HZ1.out).mono ?_); (exact ((HR.out.below (below_drew _ _)).below hb1).more hb1.size); rintro e w2 ⟨b2, rfl, ht2, hb2⟩)))
      go_wp2
      go_ret
      exact ⟨b2, rfl, ht2, (below_drew _ _).trans (hb1.trans (hb2.mono hb1.size))⟩
    · by_cases c2 : k < x
      · have HC := Lib.hid (show cmpN x k = 1 by rw [cmpN, if_neg c1, if_pos c2])
        rw [putT, if_neg c1, if_pos c2]
        go_enter Try.func72, Try.ntmps72
        go_wp2_with (go_at_call 80; refine (cmpU_any _ _ _).mono ?_; rintro e w' ⟨rfl, rfl⟩; rw [HC.out])
        go_region_held3 (fun w' => w'.cell? ⟨b, 0, none⟩ = some (.int .u64 k) ∧ w'.cell? ⟨b, 1, none⟩ = some (.int .i64 v) ∧ w'.cell? ⟨b, 2, none⟩ = some (.pointer pl) ∧ w'.cell? ⟨b, 3, none⟩ = some (.pointer pr))
          (first | go_keep | exact SK.out _ ((below_drew _ _).trans (hb1.trans (hb2.mono hb1.size))) | exact SK.out _ ((below_drew _ _).trans hb1))
          ((first
            | (go_at_call 72; (with_reducible refine (IHR.out pr _ ?_ ?_).mono ?_); (exact HR.out.below (below_drew _ _)); (have := HS.out; simp only [Tr.sz] at this; omega); rintro e w1 ⟨b1, rfl, ht1, hb1⟩)
            | (go_at_call 86; (with_reducible refine (even_any k v pl (some ⟨b1, 0, none⟩) l (putT r x u) w1 ?_ ht1 HZ2.out).mono ?_); (exact ((HL.out.below (below_drew _ _)).below hb1).more hb1.size); rintro e w2 ⟨b2, rfl, ht2, hb2⟩)))
        go_wp2
        go_ret
        exact ⟨b2, rfl, ht2, (below_drew _ _).trans (hb1.trans (hb2.mono hb1.size))⟩
      · have HC := Lib.hid (show cmpN x k = 0 by rw [cmpN, if_neg c1, if_neg c2])
        rw [putT, if_neg c1, if_neg c2]
        go_enter Try.func72, Try.ntmps72
        go_wp2_with (go_at_call 80; refine (cmpU_any _ _ _).mono ?_; rintro e w' ⟨rfl, rfl⟩; rw [HC.out])
        go_region_held3 (fun w' => w'.cell? ⟨b, 2, none⟩ = some (.pointer pl) ∧ w'.cell? ⟨b, 3, none⟩ = some (.pointer pr))
          (first | go_keep | exact ⟨(SK.out _ ((below_drew _ _).trans hb1)).2.2.1, (SK.out _ ((below_drew _ _).trans hb1)).2.2.2⟩)
          ((go_at_call 85; (with_reducible refine (join_any (G := G) w.heap.size x u pl pr l r _ ?_ ?_ ?_ HZ3.out).mono ?_); (exact HL.out.below (below_drew _ _)); (exact HR.out.below (below_drew _ _)); (exact Nat.le_refl _); rintro e w1 ⟨b1, rfl, ht1, hb1⟩))
        go_wp2
        go_ret
        exact ⟨b1, rfl, ht1, (below_drew _ _).trans hb1⟩
end Go.Proofs.Ytnaoemcekggloaa
