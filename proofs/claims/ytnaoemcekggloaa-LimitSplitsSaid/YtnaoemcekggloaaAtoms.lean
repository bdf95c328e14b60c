/- Atoms: which are right, and the walk over those. -/
import Derived.Test.YtnaoemcekggloaaTable
namespace Go.Proofs.Ytnaoemcekggloaa
open Go.RowKit Go.Shelf Go.Proofs.YtnaoemcekggloaaW.PrintWords Go.Proofs.YtnaoemcekggloaaW.PrintLast Go.Proofs.YtnaoemcekggloaaW.PrintMore It
attribute [local go_sem] Oper.semAt_some

def encA (a : Nat × Int) : Value := .agg #[.int .u64 a.1, .int .i64 a.2]
/-- The kind of an atom: a set and a value. -/
def kdAt : Kd (Nat × Int) := Kd.iso (Kd.pair (Kd.int .u64) (Kd.int .i64)) (fun a => ((a.1 : Int), a.2))
theorem addr_one (ad : Addr) (n : Nat) : ad.add (n + 1) = ⟨(ad.add n).block, (ad.add n).off + 1, none⟩ := by
  unfold Addr.add
  rw [if_neg (by omega)]
  split
  · next h => subst h; rfl
  · rfl
theorem at_at {w : World} {A : Option Addr} {n : Nat} {xs : List (Nat × Int)} (h : Kd.C kdAt w A n xs) (i : Nat) (hi : i < n) :
    ∃ ad x, A = some ad ∧ xs[i]? = some x ∧ w.cell? (ad.add (i * 2)) = some (.int .u64 x.1) ∧ w.cell? ⟨(ad.add (i * 2)).block, (ad.add (i * 2)).off + 1, none⟩ = some (.int .i64 x.2) := by
  obtain ⟨ad, e, hc⟩ := h.2.2 (by omega)
  have hl : i < xs.length := by have := h.1; omega
  obtain ⟨c, _, hR, hc⟩ := hc i xs[i] (List.getElem?_eq_getElem hl)
  obtain ⟨c0, c1, rfl, h0, h1⟩ := hR
  obtain rfl : c0 = [.int .u64 (xs[i].1 : Int)] := h0
  obtain rfl : c1 = [.int .i64 xs[i].2] := h1
  exact ⟨ad, xs[i], e, List.getElem?_eq_getElem hl, hc 0 _ rfl, by rw [← addr_one]; exact hc 1 _ rfl⟩

def atR (a : Nat × Int) : Bool := decide (a.1 ≠ 0 ∧ 1 ≤ a.2 ∧ a.2 ≤ 1099511627776)

theorem atright_any (s : Nat) (v : Int) (w : World) :
    Calls Try.prog 70 #[.agg #[.int .u64 s, .int .i64 v]] w fun e w' => e = .returned (.bool (atR (s, v))) ∧ w.alloc (.cells #[.int .u64 s, .int .i64 v] 45) = w' := by
  rcases Nat.eq_zero_or_pos s with rfl | hs
  · go_enter Try.func70, Try.ntmps70
    go_wp2
    go_ret
    exact ⟨ret_b (by simp [atR]), rfl⟩
  · have hne : ((s : Int) != 0) = true := by simp; omega
    by_cases h1 : 1 ≤ v
    · by_cases h2 : v ≤ 1099511627776
      · go_enter Try.func70, Try.ntmps70
        go_wp2
        go_ret
        exact ⟨ret_b (by simp [atR, h1, h2]; omega), rfl⟩
      · go_enter Try.func70, Try.ntmps70
        go_wp2
        go_ret
        exact ⟨ret_b (by simp [atR, h1, h2]), rfl⟩
    · go_enter Try.func70, Try.ntmps70
      go_wp2
      go_ret
      exact ⟨ret_b (by simp [atR]; omega), rfl⟩

theorem Stab_below {β : Type} {B : Nat} {J : β → (Nat → Prop) → World → Prop} (h : Stab B J) {s : β} {S : Nat → Prop} {W W' : World} (hs : J s S W) (hb : Below W.heap.size W W') : J s S W' :=
  h s S W W' hs hb.os hb.tape hb.output hb.size (fun k hk _ => hb.block k hk)
theorem mv_below {S : Nat → Prop} {W W' : World} (hb : Below W.heap.size W W') (hS : ∀ k, S k → k < W.heap.size) : Mv S W S W' :=
  ⟨⟨hb.os, hb.tape, hb.output, hb.size, fun k hk _ => hb.block k hk⟩, fun k hk => ⟨.inl hk, Nat.lt_of_lt_of_le (hS k hk) hb.size⟩⟩

set_option maxHeartbeats 1000000 in
theorem right1 (A : Option Addr) (c X : Nat) (l : List (Nat × Int)) (w1 w : World) (hX : Boxed w X 40 (.slice A l.length c)) (hb : l.length ≤ 140737488355328)
    (hr : Kd.C kdAt w1 A l.length l) (hw : Below w1.heap.size w1 w) : Iter Try.prog 69 #[.pointer (some ⟨X, 0, none⟩)] (fun x => #[encA x]) (l.filter atR) (fun k => k < w1.heap.size ∨ k = X) w := by
  have hlt : ∀ k, (k < w1.heap.size ∨ k = X) → k < w.heap.size := fun k hk => by have := hw.size; have := hX.lt; rcases hk with h | h <;> omega
  refine ⟨hlt, fun y J Jx S0 W hW hS hJ hJx hY h0 => ?_⟩
  rw [← callsIn_wide (n := 99)]
  have hcB : W.cell? ⟨X, 0, none⟩ = some (.slice A l.length c) := (hW.cell (p := ⟨X, 0, none⟩) (.inr rfl)).trans hX.cell
  have HY := Lib.hid hY
  have HW := Lib.hid (hw.trans (hW.below (fun k hk => .inl hk)))
  have HLT := Lib.hid (show ∀ k, (k < w1.heap.size ∨ k = X) → k < W.heap.size from fun k hk => Nat.lt_of_lt_of_le (hlt k hk) hW.size)
  have HS := Lib.hid hS
  have HR := Lib.hid hr
  have HJ0 := Lib.hid h0
  have HST := Lib.hid hJ
  have HM0 := Lib.hid (Mv.refl (fun k hk => (hS k hk).2))
  clear hY hW hS hr h0 hlt hw hX hJ hJx
  refine callsIn_of_wp Try.func69 rfl trivial ?_ rfl
  simp only [Try.ntmps69, List.size_toArray, List.length_cons, List.length_nil, Nat.reduceAdd, Nat.reduceSub, Array.replicate_succ, Array.replicate_zero, List.push_toArray, List.append_toArray, List.nil_append, List.cons_append]
  gi_wp2
  all_goals
    have H0 := Lib.hid (show l.filter atR = [] ++ (l.drop 0).filter atR from rfl)
    gi_loopw [7] (fun i wr => ∃ (k : Nat) (S : Nat → Prop) (pre : List (Nat × Int)), k ≤ l.length ∧ i = .int .i64 k ∧ Hid (l.filter atR = pre ++ (l.drop k).filter atR) ∧ Hid (J pre S wr) ∧ Hid (Mv S0 W S wr)) (fun i _ => l.length - (intOf i).toNat)
    case atStart => exact ⟨0, S0, [], by omega, rfl, H0, HJ0, HM0⟩
    case round =>
      obtain ⟨k, S, pre, hk, rfl, HE, HJ, HM⟩ := hrel
      clear H0 HJ0 HM0
      by_cases hlt : k < l.length
      · have hbl : Below w1.heap.size w1 wr := HW.out.trans ((HM.out.same HS.out HLT.out).below (fun k hk => .inl hk))
        obtain ⟨ad, ⟨s, v⟩, rfl, hx, hc1, hc2⟩ := at_at (Kd.C_below HR.out hbl) k (by omega)
        have hd := drop_at hx
        have HE2 := HE.out
        rw [hd] at HE2
        clear hx hd hbl HE
        have hbw : Below wr.heap.size wr ((wr.alloc (.cells #[.int .u64 s, .int .i64 v] 45)).alloc (.cells #[.int .u64 s, .int .i64 v] 45)) := ((Below.refl _ _).alloc (Nat.le_refl _) _).alloc (by simp) _
        have HJ2 := Lib.hid (Stab_below HST.out (HJ.out) hbw)
        have hM2 : Mv S0 W S ((wr.alloc (.cells #[.int .u64 s, .int .i64 v] 45)).alloc (.cells #[.int .u64 s, .int .i64 v] 45)) := HM.out.trans (mv_below hbw (fun k hk => (HM.out.sub k hk).2))
        have HM2 := Lib.hid hM2
        clear hbw hM2 HJ HM
        rcases hR : atR (s, v) with _ | _
        · have HRR := Lib.hid hR
          rw [List.filter_cons_of_neg (by rw [hR]; simp)] at HE2
          have HE := Lib.hid HE2
          clear HE2 hR
          gi_wp2_with (refine ⟨trivial, ?_⟩; gi_at_call 70; refine (callsIn_wide.2 (atright_any _ _ _)).mono ?_; rintro e w' ⟨rfl, rfl⟩; rw [HRR.out])
          refine ⟨fun _ _ => trivial, ?_⟩
          gi_wp2
          go_roundw
          case rel => exact ⟨k + 1, S, _, by omega, by go_num, HE, HJ2, HM2⟩
          case measure => simp [intOf]; omega
        · have HRR := Lib.hid hR
          rw [List.filter_cons_of_pos hR] at HE2
          obtain ⟨fn, tmps, assign, body, hy, hRd⟩ := HY.out pre _ _ S _ HE2 HJ2.out
          simp only [encA] at hy
          rw [List.append_cons] at HE2
          have HE := Lib.hid HE2
          have HRD := Lib.hid hRd
          clear HE2 hRd hR
          gi_wp2_with (refine ⟨trivial, ?_⟩; gi_at_call 70; refine (callsIn_wide.2 (atright_any _ _ _)).mono ?_; rintro e w' ⟨rfl, rfl⟩; rw [HRR.out])
          refine (roundIn_wide HRD.out).mono ?_
          rintro e W3 ⟨S3, hmv, ⟨rfl, hJ3⟩ | ⟨rfl, hJ3⟩⟩
          · have HJ3 := Lib.hid hJ3
            have HM3 := Lib.hid (HM2.out.trans hmv)
            clear hJ3 hmv hy
            gi_wp2
            go_roundw
            case rel => exact ⟨k + 1, S3, _, by omega, by go_num, HE, HJ3, HM3⟩
            case measure => simp [intOf]; omega
          · have HJ3 := Lib.hid hJ3
            have HM3 := Lib.hid (HM2.out.trans hmv)
            clear hJ3 hmv hy
            gi_wp2
            refine bodyPost_ret (results_none rfl _ _ _) rfl ?_
            exact ⟨⟨_, rfl⟩, S3, HM3.out, .inr ⟨_, by simp, ⟨_, HE.out.symm⟩, HJ3.out⟩⟩
      · have hd : l.drop k = [] := List.drop_eq_nil_of_le (by omega)
        have HE2 := HE.out
        rw [hd, List.filter_nil, List.append_nil] at HE2
        have HE := Lib.hid HE2
        clear hd HE2
        gi_wp2
        go_end0
        exact ⟨⟨_, rfl⟩, S, HM.out, .inl (by rw [HE.out]; exact HJ.out)⟩
end Go.Proofs.Ytnaoemcekggloaa
