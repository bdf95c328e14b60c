/- The document's room, floor and ceiling. -/
import Derived.Test.YtnaoemcekggloaaRounds
namespace Go.Proofs.Ytnaoemcekggloaa
open Go.RowKit Go.Proofs.YtnaoemcekggloaaW.PrintWords Go.Proofs.YtnaoemcekggloaaW.PrintLast Go.Proofs.YtnaoemcekggloaaW.PrintMore

def floorI (a b : Int) : Int := max a 0 / max b 1
theorem refroom_any (r b : Int) (w : World) (hr : I64 r) (hb : I64 b) :
    Calls Try.prog 13 #[.int .i64 r, .int .i64 b] w fun e w' => e = .returned (.int .i64 (roomI r b)) ∧ w = w' := by
  obtain ⟨hr1, hr2⟩ := hr
  obtain ⟨hb1, hb2⟩ := hb
  by_cases h1 : r < 0
  · by_cases h2 : b < 0
    · go_enter Try.func13, Try.ntmps13
      go_wp2
      all_goals
        go_ret
        exact ⟨ret_i (by unfold roomI; omega), rfl⟩
    · by_cases h3 : b > 17592186044416
      · go_enter Try.func13, Try.ntmps13
        go_wp2
        all_goals
          go_ret
          exact ⟨ret_i (by unfold roomI; omega), rfl⟩
      · go_enter Try.func13, Try.ntmps13
        go_wp2
        all_goals
          go_ret
          exact ⟨ret_i (by unfold roomI; omega), rfl⟩
  · by_cases h4 : r > 17592186044416
    · by_cases h2 : b < 0
      · go_enter Try.func13, Try.ntmps13
        go_wp2
        all_goals
          go_ret
          exact ⟨ret_i (by unfold roomI; omega), rfl⟩
      · go_enter Try.func13, Try.ntmps13
        go_wp2
        all_goals
          go_ret
          exact ⟨ret_i (by unfold roomI; omega), rfl⟩
    · by_cases h2 : b < 0
      · go_enter Try.func13, Try.ntmps13
        go_wp2
        all_goals
          go_ret
          exact ⟨ret_i (by unfold roomI; omega), rfl⟩
      · by_cases h3 : b > 17592186044416
        · go_enter Try.func13, Try.ntmps13
          go_wp2
          all_goals
            go_ret
            exact ⟨ret_i (by unfold roomI; omega), rfl⟩
        · go_enter Try.func13, Try.ntmps13
          go_wp2
          all_goals
            go_ret
            exact ⟨ret_i (by unfold roomI; omega), rfl⟩
theorem reffloor_any (a b : Int) (w : World) (ha : I64 a) (hb : I64 b) :
    Calls Try.prog 45 #[.int .i64 a, .int .i64 b] w fun e w' => e = .returned (.int .i64 (floorI a b)) ∧ w = w' := by
  obtain ⟨ha1, ha2⟩ := ha
  obtain ⟨hb1, hb2⟩ := hb
  by_cases h1 : a < 0
  · by_cases h2 : b < 1
    all_goals
      go_enter Try.func45, Try.ntmps45
      go_wp2
      go_ret
      exact ⟨ret_i (by rw [floorI, show max a 0 = 0 by omega]; simp), rfl⟩
  · by_cases h2 : b < 1
    · go_enter Try.func45, Try.ntmps45
      go_wp2
      go_ret
      exact ⟨ret_i (by rw [floorI, show max a 0 = a by omega, show max b 1 = 1 by omega]; simp), rfl⟩
    · have hq : 0 ≤ a / b := Int.ediv_nonneg (by omega) (by omega)
      have hq2 : a / b ≤ a := Int.ediv_le_self b (by omega)
      go_enter Try.func45, Try.ntmps45
      go_wp2
      go_ret
      exact ⟨ret_i (by rw [floorI, show max a 0 = a by omega, show max b 1 = b by omega]), rfl⟩
theorem refceil_any (a b : Int) (w : World) (ha : I64 a) (hb : I64 b) :
    Calls Try.prog 33 #[.int .i64 a, .int .i64 b] w fun e w' => e = .returned (.int .i64 (ceilI a b)) ∧ w = w' := by
  have HA := Lib.hid ha
  have HB := Lib.hid hb
  obtain ⟨ha1, ha2⟩ := ha
  obtain ⟨hb1, hb2⟩ := hb
  by_cases h1 : a ≤ 0
  · have hn : floorI a b = 0 := by rw [floorI, show max a 0 = 0 by omega]; simp
    have hc : ceilI a b = 0 := by rw [ceilI, show max a 0 = 0 by omega]; simp
    have HN := Lib.hid hn
    have HC := Lib.hid hc
    clear hn hc
    go_enter Try.func33, Try.ntmps33
    go_wp2_with (go_at_call 45; refine (reffloor_any _ _ _ HA.out HB.out).mono ?_; rintro e w' ⟨rfl, rfl⟩; rw [HN.out])
    go_ret
    exact ⟨ret_i (by rw [HC.out]), rfl⟩
  · by_cases h2 : b < 1
    · have hn : floorI a b = a := by rw [floorI, show max a 0 = a by omega, show max b 1 = 1 by omega]; simp
      have hc : ceilI a b = a := by rw [ceilI, show max a 0 = a by omega, show max b 1 = 1 by omega]; simp
      have HN := Lib.hid hn
      have HC := Lib.hid hc
      clear hn hc
      go_enter Try.func33, Try.ntmps33
      go_wp2_with (go_at_call 45; refine (reffloor_any _ _ _ HA.out HB.out).mono ?_; rintro e w' ⟨rfl, rfl⟩; rw [HN.out])
      go_ret
      exact ⟨ret_i (by rw [HC.out]), rfl⟩
    · have hn : floorI a b = a / b := by rw [floorI, show max a 0 = a by omega, show max b 1 = b by omega]
      have h7 := Int.mul_ediv_add_emod a b
      have h8 := Int.emod_nonneg a (show b ≠ 0 by omega)
      have hq : 0 ≤ a / b := Int.ediv_nonneg (by omega) (by omega)
      have hq0 : a / b ≤ a := Int.ediv_le_self b (by omega)
      rw [Int.mul_comm] at h7
      have hp : 0 ≤ a / b * b := Int.mul_nonneg hq (by omega)
      by_cases h3 : a % b = 0
      · have hc : ceilI a b = a / b := by rw [ceilI, show max a 0 = a by omega, show max b 1 = b by omega, if_pos h3]
        have h9 : ¬ a / b * b < a := by omega
        have h10 : a / b * b ≤ a := by omega
        generalize a / b = q at *
        generalize a % b = m at *
        have HN := Lib.hid hn
        have HC := Lib.hid hc
        clear hn hc h7 h3 h8
        go_enter Try.func33, Try.ntmps33
        go_wp2_with (go_at_call 45; refine (reffloor_any _ _ _ HA.out HB.out).mono ?_; rintro e w' ⟨rfl, rfl⟩; rw [HN.out])
        go_ret
        exact ⟨ret_i (by rw [HC.out]), rfl⟩
      · have hc : ceilI a b = a / b + 1 := by rw [ceilI, show max a 0 = a by omega, show max b 1 = b by omega, if_neg h3]
        have h9 : a / b * b < a := by omega
        have h6 : a / b < 9223372036854775807 := by
          by_cases h5 : b = 1
          · subst h5; omega
          · have h9 : 2 * (a / b) ≤ b * (a / b) := Int.mul_le_mul_of_nonneg_right (by omega) hq
            rw [Int.mul_comm b] at h9
            omega
        generalize a / b = q at *
        generalize a % b = m at *
        have HN := Lib.hid hn
        have HC := Lib.hid hc
        clear hn hc h7 h3 h8
        go_enter Try.func33, Try.ntmps33
        go_wp2_with (go_at_call 45; refine (reffloor_any _ _ _ HA.out HB.out).mono ?_; rintro e w' ⟨rfl, rfl⟩; rw [HN.out])
        go_ret
        exact ⟨ret_i (by rw [HC.out]), rfl⟩
end Go.Proofs.Ytnaoemcekggloaa
