/- The walk over the reserves. -/
import Derived.Test.YtnaoemcekggloaaRCheck
import Derived.Test.YtnaoemcekggloaaIter
import Derived.Shelf.Abstract
import Derived.Shelf.RegionOpen
import Derived.OwnWalkIn
import Derived.TacticsInMore
import Derived.LoopNIn
import Derived.LoopIn
namespace Go.Proofs.Ytnaoemcekggloaa
open Go.RowKit Go.Shelf Go.Proofs.YtnaoemcekggloaaW.PrintWords Go.Proofs.YtnaoemcekggloaaW.PrintLast Go.Proofs.YtnaoemcekggloaaW.PrintMore It
attribute [local go_sem] Oper.semAt_some

/-- the items that have a reserve, with these: of the first 64 -/
def resFrom : Nat → List Int → List (Int × Int)
  | _, [] => []
  | i, n :: l => if 1 ≤ n ∧ n ≤ 1099511627776 then ((i : Int), n) :: resFrom (i + 1) l else resFrom (i + 1) l
def resv (l : List Int) : List (Int × Int) := resFrom 0 (l.take 64)

theorem resFrom_cons_yes {k : Nat} {x : Int} {l : List Int} (h : 1 ≤ x ∧ x ≤ 1099511627776) : resFrom k (x :: l) = ((k : Int), x) :: resFrom (k + 1) l := by rw [resFrom, if_pos h]
theorem resFrom_cons_no {k : Nat} {x : Int} {l : List Int} (h : ¬ (1 ≤ x ∧ x ≤ 1099511627776)) : resFrom k (x :: l) = resFrom (k + 1) l := by rw [resFrom, if_neg h]

set_option maxHeartbeats 1000000 in
theorem reserved1 (A : Option Addr) (c B : Nat) (l : List Int) (w1 w : World) (hB : w.cell? ⟨B, 0, none⟩ = some (.slice A l.length c)) (hBl : B < w.heap.size) (hl : l.length ≤ c) (hb : l.length ≤ 140737488355328)
    (hr : Kd.C (Kd.int .i64) w1 A l.length l) (hw : Below w1.heap.size w1 w) : Iter Try.prog 46 #[.pointer (some ⟨B, 0, none⟩)] (fun (x : Int × Int) => #[.int .i64 x.1, .int .i64 x.2]) (resv l) (fun k => k < w1.heap.size ∨ k = B) w := by
  have hlt : ∀ k, (k < w1.heap.size ∨ k = B) → k < w.heap.size := fun k hk => by have := hw.size; rcases hk with h | h <;> omega
  refine ⟨hlt, fun y J Jx S0 W hW hS hJ hJx hY h0 => ?_⟩
  rw [← callsIn_wide (n := 99)]
  have hcB : W.cell? ⟨B, 0, none⟩ = some (.slice A l.length c) := (hW.cell (p := ⟨B, 0, none⟩) (.inr rfl)).trans hB
  have HY := Lib.hid hY
  have HW := Lib.hid (hw.trans (hW.below (fun k hk => .inl hk)))
  have HLT := Lib.hid (show ∀ k, (k < w1.heap.size ∨ k = B) → k < W.heap.size from fun k hk => Nat.lt_of_lt_of_le (hlt k hk) hW.size)
  have HS := Lib.hid hS
  have HR := Lib.hid hr
  have HJ0 := Lib.hid h0
  have HM0 := Lib.hid (Mv.refl (fun k hk => (hS k hk).2))
  clear hY hW hS hr hB h0 hlt hw
  refine callsIn_of_wp Try.func46 rfl trivial ?_ rfl
  simp only [Try.ntmps46, List.size_toArray, List.length_cons, List.length_nil, Nat.reduceAdd, Nat.reduceSub, Array.replicate_succ, Array.replicate_zero, List.push_toArray, List.append_toArray, List.nil_append, List.cons_append]
  gi_wp2
  all_goals
    obtain ⟨m, hm1, hm2, hm3⟩ : ∃ m : Nat, m ≤ 64 ∧ m ≤ l.length ∧ (l.length ≤ m ∨ 64 ≤ m) := ⟨min l.length 64, by omega, by omega, by omega⟩
    have HM3 := Lib.hid hm3
    clear hm3
    have hLl : (l.take 64).length = m := by rw [List.length_take]; have := HM3.out; omega
    have HL := Lib.hid hLl
    have H0 := Lib.hid (show resv l = [] ++ resFrom 0 ((l.take 64).drop 0) from rfl)
    clear hLl
    gi_loopw [11] (fun i wr => ∃ (k : Nat) (S : Nat → Prop) (pre : List (Int × Int)), k ≤ m ∧ i = .int .i64 k ∧ Hid (resv l = pre ++ resFrom k ((l.take 64).drop k)) ∧ Hid (J pre S wr) ∧ Hid (Mv S0 W S wr)) (fun i _ => m - (intOf i).toNat)
    case atStart => exact ⟨0, S0, [], by omega, rfl, H0, HJ0, HM0⟩
    case round =>
      obtain ⟨k, S, pre, hk, rfl, HE, HJ, HM⟩ := hrel
      clear H0 HJ0 HM0
      by_cases hlt : k < m
      · have hbl : Below w1.heap.size w1 wr := HW.out.trans ((HM.out.same HS.out HLT.out).below (fun k hk => .inl hk))
        obtain ⟨ad, x, rfl, hx, hc⟩ := int_at (Kd.C_below HR.out hbl) k (by omega)
        have hx2 : (l.take 64)[k]? = some x := by rw [List.getElem?_take, if_pos (by omega)]; exact hx
        have hd := drop_at hx2
        have HE2 := HE.out
        rw [hd] at HE2
        have hkl : k < l.length := by omega
        have hk64 : k < 64 := by omega
        clear hx hx2 hd hbl HE
        by_cases hx1 : 1 ≤ x
        · by_cases hx3 : x ≤ 1099511627776
          · rw [resFrom_cons_yes ⟨hx1, hx3⟩] at HE2
            obtain ⟨fn, tmps, assign, body, hy, hR⟩ := HY.out pre _ _ S wr HE2 HJ.out
            dsimp only at hy
            rw [List.append_cons] at HE2
            have HE := Lib.hid HE2
            have HRR := Lib.hid hR
            clear HE2 hR
            gi_wp2
            refine (roundIn_wide HRR.out).mono ?_
            rintro e W3 ⟨S3, hmv, ⟨rfl, hJ3⟩ | ⟨rfl, hJ3⟩⟩
            · have HJ3 := Lib.hid hJ3
              have HM3 := Lib.hid (HM.out.trans hmv)
              clear hJ3 hmv
              gi_wp2
              go_roundw
              case rel => exact ⟨k + 1, S3, _, by omega, by go_num, HE, HJ3, HM3⟩
              case measure => simp [intOf]; omega
            · have HJ3 := Lib.hid hJ3
              have HM3 := Lib.hid (HM.out.trans hmv)
              clear hJ3 hmv
              gi_wp2
              refine bodyPost_ret (results_none rfl _ _ _) rfl ?_
              exact ⟨⟨_, rfl⟩, S3, HM3.out, .inr ⟨_, by simp, ⟨_, HE.out.symm⟩, HJ3.out⟩⟩
          · rw [resFrom_cons_no (by omega)] at HE2
            have HE := Lib.hid HE2
            clear HE2
            gi_wp2
            refine ⟨fun _ _ => trivial, ?_⟩
            gi_wp2
            go_roundw
            case rel => exact ⟨k + 1, S, _, by omega, by go_num, HE, HJ, HM⟩
            case measure => simp [intOf]; omega
        · rw [resFrom_cons_no (by omega)] at HE2
          have HE := Lib.hid HE2
          clear HE2
          gi_wp2
          refine ⟨fun _ _ => trivial, ?_⟩
          gi_wp2
          go_roundw
          case rel => exact ⟨k + 1, S, _, by omega, by go_num, HE, HJ, HM⟩
          case measure => simp [intOf]; omega
      · have hd : (l.take 64).drop k = [] := List.drop_eq_nil_of_le (by have := HL.out; omega)
        have HE2 := HE.out
        rw [hd, resFrom, List.append_nil] at HE2
        have HE := Lib.hid HE2
        have hkl : ¬ (k < l.length ∧ k < 64) := by have := HM3.out; omega
        clear hd HE2
        gi_wp2
        go_end0
        exact ⟨⟨_, rfl⟩, S, HM.out, .inl (by rw [HE.out]; exact HJ.out)⟩
end Go.Proofs.Ytnaoemcekggloaa
