/- How many rounds there can be, as the program tells it. -/
import Derived.Test.YtnaoemcekggloaaNum
import Derived.Test.YtnaoemcekggloaaWMore
import Derived.Deep.LoopGhost
namespace Go.Proofs.Ytnaoemcekggloaa
open Go.RowKit Go.Proofs.YtnaoemcekggloaaW.PrintWords Go.Proofs.YtnaoemcekggloaaW.PrintLast Go.Proofs.YtnaoemcekggloaaW.PrintMore

theorem ret_2 {k : IntKind} {a b : Int} {c d : Bool} (h : a = b) (h' : c = d) : Ending.returned (.tuple #[.int k a, .bool c]) = .returned (.tuple #[.int k b, .bool d]) := by rw [h, h']

theorem int_at {kd : IntKind} {w : World} {A : Option Addr} {n : Nat} {xs : List Int} (h : Kd.C (Kd.int kd) w A n xs) (i : Nat) (hi : i < n) :
    ∃ ad x, A = some ad ∧ xs[i]? = some x ∧ w.cell? (ad.add i) = some (.int kd x) := by
  obtain ⟨ad, e, hc⟩ := h.2.2 (by omega)
  have hl : i < xs.length := by have := h.1; omega
  obtain ⟨c, _, hR, hc⟩ := hc i xs[i] (List.getElem?_eq_getElem hl)
  obtain rfl : c = [.int kd xs[i]] := hR
  have := hc 0 _ rfl
  exact ⟨ad, xs[i], e, List.getElem?_eq_getElem hl, by simpa [Kd.int, Kd.scalar] using this⟩

def rnd (e : Int) : List Int → Int → Int × Bool
  | [], acc => (acc, true)
  | n :: l, acc => if rightB n = false then (0, false) else if acc + ceilI n e > 1099511627776 then (0, false) else rnd e l (acc + ceilI n e)
def roundsF (l : List Int) (e : Int) : Int × Bool := if epsB e = true then rnd e l 0 else (0, false)

theorem ceil_bd (a b : Int) (ha : 0 ≤ a) (ha' : a ≤ 1099511627776) : 0 ≤ ceilI a b ∧ ceilI a b ≤ 1099511627776 := by
  unfold ceilI
  rw [show max a 0 = a by omega]
  have h0 : 1 ≤ max b 1 := by omega
  generalize max b 1 = c at *
  have hq : 0 ≤ a / c := Int.ediv_nonneg (by omega) (by omega)
  have h7 := Int.mul_ediv_add_emod a c
  have h8 := Int.emod_nonneg a (show c ≠ 0 by omega)
  have h9 : 1 * (a / c) ≤ c * (a / c) := Int.mul_le_mul_of_nonneg_right (by omega) hq
  split <;> omega

theorem rightB_true {n : Int} (h : rightB n = true) : 0 ≤ n ∧ n ≤ 1099511627776 := by simpa [rightB] using h

set_option maxHeartbeats 400000 in
theorem rounds_any (A : Option Addr) (c : Nat) (l : List Int) (e : Int) (w : World) (he : I64 e) (hr : Kd.C (Kd.int .i64) w A l.length l) (hb : l.length ≤ 140737488355328) :
    Calls Try.prog 9 #[.slice A l.length c, .int .i64 e] w fun r w' => r = .returned (.tuple #[.int .i64 (roundsF l e).1, .bool (roundsF l e).2]) ∧ w = w' := by
  by_cases h1 : epsB e = true
  · have H := Lib.hid (show roundsF l e = rnd e l 0 by rw [roundsF, if_pos h1])
    generalize roundsF l e = R at *
    have HR := Lib.hid hr
    have HE := Lib.hid he
    have h2 : epsB e = true := h1
    have H1 := Lib.hid h1
    clear hr he h1 h2
    go_enter Try.func9, Try.ntmps9
    go_wp2_with (go_at_call 29; refine (eps_any _ _).mono ?_; rintro e w' ⟨rfl, rfl⟩; rw [H1.out])
    go_loop [6, 14] (fun o i => ∃ (k : Nat) (acc : Int), k ≤ l.length ∧ i = .int .i64 k ∧ o = .int .i64 acc ∧ 0 ≤ acc ∧ acc ≤ 1099511627776 ∧ Hid (R = rnd e (l.drop k) acc)) (fun _ i => l.length - (intOf i).toNat)
    case atStart => exact ⟨0, 0, by omega, rfl, rfl, by omega, by omega, H⟩
    case round =>
      obtain ⟨k, acc, hk, rfl, rfl, ha1, ha2, HA⟩ := hrel
      clear H
      by_cases hlt : k < l.length
      · obtain ⟨ad, x, rfl, hx, hc⟩ := int_at HR.out k hlt
        have hd : l.drop k = x :: l.drop (k + 1) := by
          obtain ⟨h3, h4⟩ := List.getElem?_eq_some_iff.1 hx
          rw [List.drop_eq_getElem_cons h3, h4]
        have HA2 := HA.out
        rw [hd, rnd] at HA2
        clear hd HA
        by_cases hR : rightB x = true
        · have hxb := rightB_true hR
          have hcb := ceil_bd x e hxb.1 hxb.2
          rw [if_neg (by simp [hR])] at HA2
          have hcb1 := hcb.1
          have hcb2 := hcb.2
          have HX := Lib.hid hx
          have HR2 := Lib.hid hR
          have HXB := Lib.hid hxb
          clear hx hR hcb hxb
          by_cases hs : acc + ceilI x e > 1099511627776
          · rw [if_pos hs] at HA2
            have HA := Lib.hid HA2
            clear HA2
            go_wp2_with (first | (go_at_call 30; refine (right_any _ _).mono ?_; rintro e w' ⟨rfl, rfl⟩; rw [HR2.out]) | (go_at_call 31; refine (ceil_any _ _ _ ⟨by have := HXB.out.1; omega, by have := HXB.out.2; omega⟩ HE.out).mono ?_; rintro e w' ⟨rfl, rfl⟩))
            go_ret2
            exact ⟨ret_2 (by rw [HA.out]) (by rw [HA.out]), rfl⟩
          · rw [if_neg hs] at HA2
            have HA := Lib.hid HA2
            clear HA2
            go_wp2_with (first | (go_at_call 30; refine (right_any _ _).mono ?_; rintro e w' ⟨rfl, rfl⟩; rw [HR2.out]) | (go_at_call 31; refine (ceil_any _ _ _ ⟨by have := HXB.out.1; omega, by have := HXB.out.2; omega⟩ HE.out).mono ?_; rintro e w' ⟨rfl, rfl⟩))
            go_round
            case rel => exact ⟨k + 1, acc + ceilI x e, by omega, by go_num, rfl, by omega, by omega, HA⟩
            case measure => simp [intOf]; omega
        · rw [if_pos (by simpa using hR)] at HA2
          have HA := Lib.hid HA2
          have HR2 := Lib.hid (show rightB x = false by simpa using hR)
          have HX := Lib.hid hx
          clear HA2 hx hR
          go_wp2_with (go_at_call 30; refine (right_any _ _).mono ?_; rintro e w' ⟨rfl, rfl⟩; rw [HR2.out])
          go_ret2
          exact ⟨ret_2 (by rw [HA.out]) (by rw [HA.out]), rfl⟩
      · have hd : l.drop k = [] := List.drop_eq_nil_of_le (by omega)
        have HA2 := HA.out
        rw [hd, rnd] at HA2
        have HA3 := Lib.hid HA2
        clear hd HA HA2
        go_wp2
        go_ret2
        exact ⟨ret_2 (by rw [HA3.out]) (by rw [HA3.out]), rfl⟩
  · have H := Lib.hid (show roundsF l e = (0, false) by rw [roundsF, if_neg h1])
    generalize roundsF l e = R at *
    have h2 : epsB e = false := by simpa using h1
    have H1 := Lib.hid h2
    have HR := Lib.hid hr
    clear hr h1 h2
    go_enter Try.func9, Try.ntmps9
    go_wp2_with (go_at_call 29; refine (eps_any _ _).mono ?_; rintro e w' ⟨rfl, rfl⟩; rw [H1.out])
    go_ret2
    exact ⟨ret_2 (by rw [H.out]) (by rw [H.out]), rfl⟩
end Go.Proofs.Ytnaoemcekggloaa
