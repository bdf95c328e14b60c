/- Small number functions of the program: right numbers, ceilings, rooms. -/
import Derived.Test.YtnaoemcekggloaaProg
import Derived.WalkKit
import Derived.Outline
import Derived.BigQuiet
import Derived.Lib.Hide
import Derived.Deep.QuietTactic
namespace Go.Proofs.Ytnaoemcekggloaa
open Go.RowKit

theorem ret_i {k : IntKind} {a b : Int} (h : a = b) : Ending.returned (.int k a) = .returned (.int k b) := by rw [h]
theorem ret_b {a b : Bool} (h : a = b) : Ending.returned (.bool a) = .returned (.bool b) := by rw [h]
/-- a number of 64 bits with a sign -/
def I64 (n : Int) : Prop := -9223372036854775808 ≤ n ∧ n ≤ 9223372036854775807
def U64 (n : Int) : Prop := 0 ≤ n ∧ n ≤ 18446744073709551615

def epsB (n : Int) : Bool := decide (1 ≤ n) && decide (n ≤ 1099511627776)
def rightB (n : Int) : Bool := decide (0 ≤ n) && decide (n ≤ 1099511627776)
def itemB (n : Int) : Bool := decide (0 ≤ n) && decide (n < 64)
def ceilI (a b : Int) : Int := if max a 0 % max b 1 = 0 then max a 0 / max b 1 else max a 0 / max b 1 + 1
def roomI (r b : Int) : Int := min (min (max r 0) 1125899906842624 + min (max b 0) 1125899906842624 + 3) 17592186044416 * 64

theorem eps_any (n : Int) (w : World) :
    Calls Try.prog 29 #[.int .i64 n] w fun e w' => e = .returned (.bool (epsB n)) ∧ w = w' := by
  by_cases h1 : 1 ≤ n
  · by_cases h2 : n ≤ 1099511627776
    all_goals
      go_enter Try.func29, Try.ntmps29
      go_wp2
      go_ret
      exact ⟨by simp [epsB, h1, h2], rfl⟩
  · go_enter Try.func29, Try.ntmps29
    go_wp2
    go_ret
    exact ⟨by simp [epsB]; omega, rfl⟩
theorem right_any (n : Int) (w : World) :
    Calls Try.prog 30 #[.int .i64 n] w fun e w' => e = .returned (.bool (rightB n)) ∧ w = w' := by
  by_cases h1 : 0 ≤ n
  · by_cases h2 : n ≤ 1099511627776
    all_goals
      go_enter Try.func30, Try.ntmps30
      go_wp2
      go_ret
      exact ⟨by simp [rightB, h1, h2], rfl⟩
  · go_enter Try.func30, Try.ntmps30
    go_wp2
    go_ret
    exact ⟨by simp [rightB]; omega, rfl⟩
theorem refright_any (n : Int) (w : World) :
    Calls Try.prog 32 #[.int .i64 n] w fun e w' => e = .returned (.bool (rightB n)) ∧ w = w' := by
  by_cases h1 : 0 ≤ n
  · by_cases h2 : n ≤ 1099511627776
    all_goals
      go_enter Try.func32, Try.ntmps32
      go_wp2
      go_ret
      exact ⟨by simp [rightB, h1, h2], rfl⟩
  · go_enter Try.func32, Try.ntmps32
    go_wp2
    go_ret
    exact ⟨by simp [rightB]; omega, rfl⟩
theorem item_any (n : Int) (w : World) :
    Calls Try.prog 47 #[.int .i64 n] w fun e w' => e = .returned (.bool (itemB n)) ∧ w = w' := by
  by_cases h1 : 0 ≤ n
  · by_cases h2 : n < 64
    all_goals
      go_enter Try.func47, Try.ntmps47
      go_wp2
      go_ret
      exact ⟨by simp [itemB, h1, h2], rfl⟩
  · go_enter Try.func47, Try.ntmps47
    go_wp2
    go_ret
    exact ⟨by simp [itemB]; omega, rfl⟩
theorem ceil_any (a b : Int) (w : World) (ha : I64 a) (hb : I64 b) :
    Calls Try.prog 31 #[.int .i64 a, .int .i64 b] w fun e w' => e = .returned (.int .i64 (ceilI a b)) ∧ w = w' := by
  obtain ⟨ha1, ha2⟩ := ha
  obtain ⟨hb1, hb2⟩ := hb
  by_cases h1 : a < 0
  · by_cases h2 : b < 1
    all_goals
      go_enter Try.func31, Try.ntmps31
      go_wp2
      go_ret
      exact ⟨by rw [ceilI, show max a 0 = 0 by omega]; simp, rfl⟩
  · by_cases h2 : b < 1
    · go_enter Try.func31, Try.ntmps31
      go_wp2
      go_ret
      exact ⟨by rw [ceilI, show max a 0 = a by omega, show max b 1 = 1 by omega]; simp, rfl⟩
    · have hq : 0 ≤ a / b := Int.ediv_nonneg (by omega) (by omega)
      have hq2 : a / b ≤ a := Int.ediv_le_self b (by omega)
      by_cases h3 : a % b = 0
      · have h4 : (a % b != 0) = false := by simp [h3]
        have H := Lib.hid h3
        clear h3
        go_enter Try.func31, Try.ntmps31
        go_wp2
        go_ret
        exact ⟨ret_i (by rw [ceilI, show max a 0 = a by omega, show max b 1 = b by omega, if_pos H.out]), rfl⟩
      · have h4 : (a % b != 0) = true := by simp [h3]
        have h6 : a / b < 9223372036854775807 := by
          by_cases h5 : b = 1
          · subst h5; omega
          · have h7 := Int.mul_ediv_add_emod a b
            have h8 := Int.emod_nonneg a (show b ≠ 0 by omega)
            have h9 : 2 * (a / b) ≤ b * (a / b) := Int.mul_le_mul_of_nonneg_right (by omega) hq
            omega
        have H := Lib.hid h3
        clear h3
        go_enter Try.func31, Try.ntmps31
        go_wp2
        go_ret
        exact ⟨ret_i (by rw [ceilI, show max a 0 = a by omega, show max b 1 = b by omega, if_neg H.out]), rfl⟩
theorem room_any (r b : Int) (w : World) :
    Calls Try.prog 14 #[.int .i64 r, .int .i64 b] w fun e w' => e = .returned (.int .i64 (roomI r b)) ∧ w = w' := by
  go_enter Try.func14, Try.ntmps14
  go_wp2
  all_goals
    go_ret
    exact ⟨ret_i (by unfold roomI; omega), rfl⟩
theorem fits_any (r b m : Int) (w : World) :
    Calls Try.prog 15 #[.int .i64 r, .int .i64 b, .int .i64 m] w fun e w' => e = .returned (.bool (decide (roomI r b ≤ m))) ∧ w = w' := by
  go_enter Try.func15, Try.ntmps15
  go_wp2_with (go_at_call 14; refine (room_any _ _ _).mono ?_; rintro e w' ⟨rfl, rfl⟩)
  go_ret
  exact ⟨rfl, rfl⟩
end Go.Proofs.Ytnaoemcekggloaa
