/- A tree is made even. -/
import Derived.Test.YtnaoemcekggloaaTree
namespace Go.Proofs.Ytnaoemcekggloaa
open Go.RowKit Go.Proofs.YtnaoemcekggloaaW.PrintWords Go.Proofs.YtnaoemcekggloaaW.PrintLast Go.Proofs.YtnaoemcekggloaaW.PrintMore
variable {G : Nat × (Nat → Prop)}
attribute [local go_sem ↓] Go.wp_at_zero Go.wp_at_succ

def rotR : Tr → Tr
  | .node k v (.node k1 v1 ll lr) r => .node k1 v1 ll (.node k v lr r)
  | t => t
def rotL : Tr → Tr
  | .node k v l (.node k1 v1 rl rr) => .node k1 v1 (.node k v l rl) rr
  | t => t
def Tr.lean : Tr → Int
  | .nil => 0
  | .node _ _ l r => (l.h : Int) - r.h
def evenT (k : Nat) (v : Int) (l r : Tr) : Tr :=
  if (l.h : Int) - r.h > 1 then (if l.lean < 0 then rotR (.node k v (rotL l) r) else rotR (.node k v l r))
  else if (l.h : Int) - r.h < -1 then (if r.lean > 0 then rotL (.node k v l (rotR r)) else rotL (.node k v l r)) else .node k v l r
theorem tr_of_h {t : Tr} (h : 0 < t.h) : ∃ k v l r, t = .node k v l r := by
  cases t with
  | nil => simp [Tr.h] at h
  | node k v l r => exact ⟨k, v, l, r, rfl⟩

set_option maxHeartbeats 1600000 in
theorem even_any (k : Nat) (v : Int) (pl pr : Option Addr) (l r : Tr) (w : World) (hl : IsTr G w.heap.size w pl l) (hr : IsTr G w.heap.size w pr r) (hs : (Tr.node k v l r).sz ≤ 140737488355328) :
    Calls Try.prog 86 #[.int .u64 k, .int .i64 v, .pointer pl, .pointer pr] w (Joins G w (evenT k v l r)) := by
  have HS := Lib.hid hs
  have HL := Lib.hid hl
  have HR := Lib.hid hr
  have HSL := Lib.hid (show l.sz ≤ 140737488355328 by simp only [Tr.sz] at hs; omega)
  have HSR := Lib.hid (show r.sz ≤ 140737488355328 by simp only [Tr.sz] at hs; omega)
  have hlh := l.h_le
  have hrh := r.h_le
  have hls : l.sz + r.sz + 1 ≤ 140737488355328 := hs
  clear hl hr hs
  by_cases hA : (l.h : Int) - r.h > 1
  · obtain ⟨k1, v1, ll, lr, rfl⟩ := tr_of_h (t := l) (by omega)
    by_cases hA1 : (ll.h : Int) - lr.h < 0
    · obtain ⟨k2, v2, lrl, lrr, rfl⟩ := tr_of_h (t := lr) (by omega)
      have HE := Lib.hid (show evenT k v (.node k1 v1 ll (.node k2 v2 lrl lrr)) r = .node k2 v2 (.node k1 v1 ll lrl) (.node k v lrr r) by
        rw [evenT, if_pos hA, Tr.lean, if_pos hA1]; rfl)
      rw [HE.out]
      have HS2 := Lib.hid (show (Tr.node k v (.node k2 v2 (.node k1 v1 ll lrl) lrr) r).sz ≤ 140737488355328 by have := HS.out; simp only [Tr.sz] at this ⊢; omega)
      generalize hxh : ((Tr.node k1 v1 ll (Tr.node k2 v2 lrl lrr)).h : Int) = lh at *
      have HXH := Lib.hid hxh
      clear hxh
      go_enter Try.func86, Try.ntmps86
      go_wp2_with fail
      refine (join_any _ k v pl pr _ r _ HL.out HR.out (Nat.le_refl _) HS.out).mono ?_
      rintro e w1 ⟨b1, rfl, ht1, hb1⟩
      have HT1 := Lib.hid ht1
      have HB1 := Lib.hid hb1
      clear ht1 hb1
      go_wp2_with fail
      refine (lean_any _ _ k v _ r _ HT1.out HS.out).mono ?_
      rintro e w2 ⟨rfl, nd, rfl⟩
      rw [HXH.out]
      go_wp2_with fail
      refine (lean_any _ _ k1 v1 ll _ _ ((HL.out.below HB1.out).below (below_drewN _ _ _)) HSL.out).mono ?_
      rintro e w2 ⟨rfl, nd2, rfl⟩
      go_wp2_with fail
      have HB2 := Lib.hid (HB1.out.trans (below_drewN _ w1 (nd + nd2)))
      refine (turnLeft_any w.heap.size _ k1 k2 v1 v2 ll lrl lrr _ (HL.out.below HB2.out) HB2.out.size HSL.out).mono ?_
      rintro e w3 ⟨b3, rfl, ht3, hb3⟩
      have HT3 := Lib.hid ht3
      have HB3 := Lib.hid (HB2.out.trans (hb3.mono HB2.out.size))
      clear ht3 hb3
      go_wp2_with fail
      refine (join_any _ k v _ pr _ r _ HT3.out ((HR.out.below HB3.out).more HB3.out.size) (Nat.le_refl _) HS2.out).mono ?_
      rintro e w4 ⟨b4, rfl, ht4, hb4⟩
      have HT4 := Lib.hid ht4
      have HB4 := Lib.hid (HB3.out.trans (hb4.mono HB3.out.size))
      clear ht4 hb4
      go_wp2_with fail
      refine (turnRight_any _ _ k k2 v v2 _ lrr r _ HT4.out (Nat.le_refl _) HS2.out).mono ?_
      rintro e w5 ⟨b5, rfl, ht5, hb5⟩
      have HT5 := Lib.hid ht5
      have HB5 := Lib.hid (HB4.out.trans (hb5.mono HB4.out.size))
      clear ht5 hb5
      go_wp2_with fail
      go_ret
      exact ⟨b5, rfl, HT5.out, HB5.out⟩
    · have HE := Lib.hid (show evenT k v (.node k1 v1 ll lr) r = .node k1 v1 ll (.node k v lr r) by
        rw [evenT, if_pos hA, Tr.lean, if_neg hA1]; rfl)
      rw [HE.out]
      generalize hxh : ((Tr.node k1 v1 ll lr).h : Int) = lh at *
      have HXH := Lib.hid hxh
      clear hxh
      go_enter Try.func86, Try.ntmps86
      go_wp2_with fail
      refine (join_any _ k v pl pr _ r _ HL.out HR.out (Nat.le_refl _) HS.out).mono ?_
      rintro e w1 ⟨b1, rfl, ht1, hb1⟩
      have HT1 := Lib.hid ht1
      have HB1 := Lib.hid hb1
      clear ht1 hb1
      go_wp2_with fail
      refine (lean_any _ _ k v _ r _ HT1.out HS.out).mono ?_
      rintro e w2 ⟨rfl, nd, rfl⟩
      rw [HXH.out]
      go_wp2_with fail
      refine (lean_any _ _ k1 v1 ll _ _ ((HL.out.below HB1.out).below (below_drewN _ _ _)) HSL.out).mono ?_
      rintro e w2 ⟨rfl, nd2, rfl⟩
      go_wp2_with fail
      refine (lean_any _ _ k v _ r _ (HT1.out.below (below_drewN _ _ _)) HS.out).mono ?_
      rintro e w2 ⟨rfl, nd3, rfl⟩
      rw [HXH.out]
      go_wp2_with fail
      refine (turnRight_any w1.heap.size _ k k1 v v1 ll lr r _ (HT1.out.below (below_drewN _ _ _)) (Nat.le_refl _) HS.out).mono ?_
      rintro e w5 ⟨b5, rfl, ht5, hb5⟩
      have HT5 := Lib.hid ht5
      have HB5 := Lib.hid ((HB1.out.trans (below_drewN _ _ _)).trans (hb5.mono HB1.out.size))
      clear ht5 hb5
      go_wp2_with fail
      go_ret
      exact ⟨b5, rfl, HT5.out, HB5.out⟩
  · by_cases hB : (l.h : Int) - r.h < -1
    · obtain ⟨k1, v1, rl, rr, rfl⟩ := tr_of_h (t := r) (by omega)
      by_cases hB1 : (rl.h : Int) - rr.h > 0
      · obtain ⟨k2, v2, rll, rlr, rfl⟩ := tr_of_h (t := rl) (by omega)
        have HE := Lib.hid (show evenT k v l (.node k1 v1 (.node k2 v2 rll rlr) rr) = .node k2 v2 (.node k v l rll) (.node k1 v1 rlr rr) by
          rw [evenT, if_neg hA, if_pos hB, Tr.lean, if_pos hB1]; rfl)
        rw [HE.out]
        have HS2 := Lib.hid (show (Tr.node k v l (.node k2 v2 rll (.node k1 v1 rlr rr))).sz ≤ 140737488355328 by have := HS.out; simp only [Tr.sz] at this ⊢; omega)
        generalize hxh : ((Tr.node k1 v1 (Tr.node k2 v2 rll rlr) rr).h : Int) = lh at *
        have HXH := Lib.hid hxh
        clear hxh
        go_enter Try.func86, Try.ntmps86
        go_wp2_with fail
        refine (join_any _ k v pl pr l _ _ HL.out HR.out (Nat.le_refl _) HS.out).mono ?_
        rintro e w1 ⟨b1, rfl, ht1, hb1⟩
        have HT1 := Lib.hid ht1
        have HB1 := Lib.hid hb1
        clear ht1 hb1
        go_wp2_with fail
        refine (lean_any _ _ k v l _ _ HT1.out HS.out).mono ?_
        rintro e w2 ⟨rfl, nd, rfl⟩
        rw [HXH.out]
        go_wp2_with fail
        refine (lean_any _ _ k v l _ _ (HT1.out.below (below_drewN _ _ _)) HS.out).mono ?_
        rintro e w2 ⟨rfl, nd2, rfl⟩
        rw [HXH.out]
        go_wp2_with fail
        refine (lean_any _ _ k v l _ _ (HT1.out.below (below_drewN _ _ _)) HS.out).mono ?_
        rintro e w2 ⟨rfl, nd3, rfl⟩
        rw [HXH.out]
        go_wp2_with fail
        refine (lean_any _ _ k1 v1 _ rr _ ((HR.out.below HB1.out).below (below_drewN _ _ _)) HSR.out).mono ?_
        rintro e w2 ⟨rfl, nd4, rfl⟩
        go_wp2_with fail
        obtain ⟨nn, hnn⟩ : ∃ nn : Nat, w1.drewN (nd + nd2 + nd3 + nd4) = w1.drewN nn := ⟨_, rfl⟩
        have HB2 := Lib.hid (HB1.out.trans (below_drewN _ w1 (nd + nd2 + nd3 + nd4)))
        refine (turnRight_any w.heap.size _ k1 k2 v1 v2 rll rlr rr _ (HR.out.below HB2.out) HB2.out.size HSR.out).mono ?_
        rintro e w3 ⟨b3, rfl, ht3, hb3⟩
        have HT3 := Lib.hid ht3
        have HB3 := Lib.hid (HB2.out.trans (hb3.mono HB2.out.size))
        clear ht3 hb3 hnn
        go_wp2_with fail
        refine (join_any _ k v pl _ l _ _ ((HL.out.below HB3.out).more HB3.out.size) HT3.out (Nat.le_refl _) HS2.out).mono ?_
        rintro e w4 ⟨b4, rfl, ht4, hb4⟩
        have HT4 := Lib.hid ht4
        have HB4 := Lib.hid (HB3.out.trans (hb4.mono HB3.out.size))
        clear ht4 hb4
        go_wp2_with fail
        refine (turnLeft_any _ _ k k2 v v2 l rll _ _ HT4.out (Nat.le_refl _) HS2.out).mono ?_
        rintro e w5 ⟨b5, rfl, ht5, hb5⟩
        have HT5 := Lib.hid ht5
        have HB5 := Lib.hid (HB4.out.trans (hb5.mono HB4.out.size))
        clear ht5 hb5
        go_wp2_with fail
        go_ret
        exact ⟨b5, rfl, HT5.out, HB5.out⟩
      · have HE := Lib.hid (show evenT k v l (.node k1 v1 rl rr) = .node k1 v1 (.node k v l rl) rr by
          rw [evenT, if_neg hA, if_pos hB, Tr.lean, if_neg hB1]; rfl)
        rw [HE.out]
        generalize hxh : ((Tr.node k1 v1 rl rr).h : Int) = lh at *
        have HXH := Lib.hid hxh
        clear hxh
        go_enter Try.func86, Try.ntmps86
        go_wp2_with fail
        refine (join_any _ k v pl pr l _ _ HL.out HR.out (Nat.le_refl _) HS.out).mono ?_
        rintro e w1 ⟨b1, rfl, ht1, hb1⟩
        have HT1 := Lib.hid ht1
        have HB1 := Lib.hid hb1
        clear ht1 hb1
        go_wp2_with fail
        refine (lean_any _ _ k v l _ _ HT1.out HS.out).mono ?_
        rintro e w2 ⟨rfl, nd, rfl⟩
        rw [HXH.out]
        go_wp2_with fail
        refine (lean_any _ _ k v l _ _ (HT1.out.below (below_drewN _ _ _)) HS.out).mono ?_
        rintro e w2 ⟨rfl, nd2, rfl⟩
        rw [HXH.out]
        go_wp2_with fail
        refine (lean_any _ _ k v l _ _ (HT1.out.below (below_drewN _ _ _)) HS.out).mono ?_
        rintro e w2 ⟨rfl, nd3, rfl⟩
        rw [HXH.out]
        go_wp2_with fail
        refine (lean_any _ _ k1 v1 _ rr _ ((HR.out.below HB1.out).below (below_drewN _ _ _)) HSR.out).mono ?_
        rintro e w2 ⟨rfl, nd4, rfl⟩
        go_wp2_with fail
        refine (lean_any _ _ k v l _ _ (HT1.out.below (below_drewN _ _ _)) HS.out).mono ?_
        rintro e w2 ⟨rfl, nd5, rfl⟩
        rw [HXH.out]
        go_wp2_with fail
        refine (turnLeft_any w1.heap.size _ k k1 v v1 l rl rr _ (HT1.out.below (below_drewN _ _ _)) (Nat.le_refl _) HS.out).mono ?_
        rintro e w5 ⟨b5, rfl, ht5, hb5⟩
        have HT5 := Lib.hid ht5
        have HB5 := Lib.hid ((HB1.out.trans (below_drewN _ _ _)).trans (hb5.mono HB1.out.size))
        clear ht5 hb5
        go_wp2_with fail
        go_ret
        exact ⟨b5, rfl, HT5.out, HB5.out⟩
    · have HE := Lib.hid (show evenT k v l r = .node k v l r by rw [evenT, if_neg hA, if_neg hB])
      rw [HE.out]
      go_enter Try.func86, Try.ntmps86
      go_wp2_with fail
      refine (join_any _ k v pl pr l r _ HL.out HR.out (Nat.le_refl _) HS.out).mono ?_
      rintro e w1 ⟨b1, rfl, ht1, hb1⟩
      have HT1 := Lib.hid ht1
      have HB1 := Lib.hid hb1
      clear ht1 hb1
      go_wp2_with fail
      refine (lean_any _ _ k v l _ _ HT1.out HS.out).mono ?_
      rintro e w2 ⟨rfl, nd, rfl⟩
      go_wp2_with fail
      refine (lean_any _ _ k v l _ _ (HT1.out.below (below_drewN _ _ _)) HS.out).mono ?_
      rintro e w2 ⟨rfl, nd2, rfl⟩
      go_wp2_with fail
      refine (lean_any _ _ k v l _ _ (HT1.out.below (below_drewN _ _ _)) HS.out).mono ?_
      rintro e w2 ⟨rfl, nd3, rfl⟩
      go_wp2_with fail
      refine (lean_any _ _ k v l _ _ (HT1.out.below (below_drewN _ _ _)) HS.out).mono ?_
      rintro e w2 ⟨rfl, nd4, rfl⟩
      go_wp2_with fail
      go_ret
      exact ⟨b1, rfl, HT1.out.below (below_drewN _ _ _), HB1.out.trans (below_drewN _ _ _)⟩
end Go.Proofs.Ytnaoemcekggloaa
