/- Whether a set has an item, and the set of items. -/
import Derived.Test.YtnaoemcekggloaaRCheck
import Derived.Laws.BitsAllLaws
import Derived.Laws.BitsLemmas
import Derived.Laws.Bits64
import Derived.WalkSmall
import Derived.Shelf.Abstract
import Derived.Shelf.RegionOpen
import Derived.OwnWalkIn
import Derived.TacticsInMore
import Derived.LoopNIn
import Derived.LoopIn
namespace Go.Proofs.Ytnaoemcekggloaa
open Go.RowKit Go.Proofs.YtnaoemcekggloaaW.PrintWords Go.Proofs.YtnaoemcekggloaaW.PrintLast Go.Proofs.YtnaoemcekggloaaW.PrintMore
def hasB (s : Nat) (i : Int) : Bool := itemB i && Nat.testBit s i.toNat
theorem bit_of (s k : Nat) (hs : s < 18446744073709551616) : (bits BinOp.and IntKind.u64 ((s : Int) / 2 ^ k) 1 == 1) = Nat.testBit s k := by
  have e : ((s : Int) / 2 ^ k) = ((s / 2 ^ k : Nat) : Int) := by simp
  have hb : s / 2 ^ k ≤ s := Nat.div_le_self _ _
  rw [e]
  generalize hq : s / 2 ^ k = q at *
  rw [and_one_u64 _ (by omega) (by omega), Nat.testBit_eq_decide_div_mod_eq, hq, Bool.eq_iff_iff]
  simp
  omega
theorem has_any (s : Nat) (i : Int) (w : World) (hs : s < 18446744073709551616) :
    Calls Try.prog 38 #[.int .u64 s, .int .i64 i] w fun e w' => e = .returned (.bool (hasB s i)) ∧ w = w' := by
  rcases h1 : itemB i with _ | _
  · have H1 := Lib.hid h1
    clear h1
    go_enter Try.func38, Try.ntmps38
    go_wp2_with (go_at_call 47; refine (item_any _ _).mono ?_; rintro e w' ⟨rfl, rfl⟩; rw [H1.out])
    go_ret
    exact ⟨ret_b (by rw [hasB, H1.out]; rfl), rfl⟩
  · have H1 := Lib.hid h1
    have h2 : 0 ≤ i ∧ i < 64 := by simpa [itemB] using h1
    obtain ⟨h3, h4⟩ := h2
    clear h1
    go_enter Try.func38, Try.ntmps38
    go_wp2_with (go_at_call 47; refine (item_any _ _).mono ?_; rintro e w' ⟨rfl, rfl⟩; rw [H1.out])
    go_ret
    exact ⟨ret_b (by rw [hasB, H1.out, Bool.true_and]; exact bit_of s _ hs), rfl⟩
theorem wrap_pow (k : Nat) (hk : k < 64) : IntKind.u64.wrap (2 ^ k) = ((2 ^ k : Nat) : Int) := by
  have h1 : 2 ^ k < 2 ^ 64 := Nat.pow_lt_pow_right (by omega) hk
  have e : ((2 : Int) ^ k) = ((2 ^ k : Nat) : Int) := by simp
  rw [e]
  generalize (2 : Nat) ^ k = p at h1
  rw [IntKind.wrap_u64]
  omega
theorem or_pow (s k : Nat) (hs : s < 18446744073709551616) (hk : k < 64) : bits BinOp.or IntKind.u64 (s : Int) (IntKind.u64.wrap (2 ^ k)) = ((s ||| 2 ^ k : Nat) : Int) := by
  have h1 : 2 ^ k < 2 ^ 64 := Nat.pow_lt_pow_right (by omega) hk
  rw [wrap_pow k hk, u64_or_nat s (2 ^ k) hs (by omega)]
/-- set.Of -/
def addItem (s : Nat) (n : Int) : Nat := if itemB n = true then s ||| 2 ^ n.toNat else s
def ofF (l : List Int) : Nat := l.foldl addItem 0
theorem addItem_lt (s : Nat) (n : Int) (h : s < 18446744073709551616) : addItem s n < 18446744073709551616 := by
  unfold addItem
  split
  · rename_i h1
    have h2 : 0 ≤ n ∧ n < 64 := by simpa [itemB] using h1
    have : 2 ^ n.toNat < 2 ^ 64 := Nat.pow_lt_pow_right (by omega) (by omega)
    exact Nat.or_lt_two_pow (n := 64) h this
  · exact h
set_option maxHeartbeats 400000 in
theorem of_any (A : Option Addr) (c : Nat) (l : List Int) (w : World) (hr : Kd.C (Kd.int .i64) w A l.length l) (hb : l.length ≤ 140737488355328) :
    Calls Try.prog 35 #[.slice A l.length c] w fun e w' => e = .returned (.int .u64 (ofF l)) ∧ w = w' := by
  have HR := Lib.hid hr
  clear hr
  go_enter Try.func35, Try.ntmps35
  go_wp2
  go_loop [3, 8] (fun o i => ∃ (k : Nat) (s : Nat), k ≤ l.length ∧ i = .int .i64 k ∧ o = .int .u64 s ∧ s < 18446744073709551616 ∧ Hid (ofF l = (l.drop k).foldl addItem s)) (fun _ i => l.length - (intOf i).toNat)
  case atStart => exact ⟨0, 0, by omega, rfl, rfl, by omega, rfl⟩
  case round =>
    obtain ⟨k, s, hk, rfl, rfl, hs, HA⟩ := hrel
    by_cases hlt : k < l.length
    · obtain ⟨ad, x, rfl, hx, hc⟩ := int_at HR.out k hlt
      have hd := drop_at hx
      have HA2 := HA.out
      rw [hd, List.foldl_cons] at HA2
      have hal := addItem_lt s x hs
      clear hd HA hx
      rcases h1 : itemB x with _ | _
      · rw [show addItem s x = s by simp [addItem, h1]] at HA2
        have H1 := Lib.hid h1
        have HA := Lib.hid HA2
        clear h1 HA2 hal
        go_wp2_with (go_at_call 47; refine (item_any _ _).mono ?_; rintro e w' ⟨rfl, rfl⟩; rw [H1.out])
        go_round
        case rel => exact ⟨k + 1, s, by omega, by go_num, rfl, hs, HA⟩
        case measure => simp [intOf]; omega
      · have h2 : 0 ≤ x ∧ x < 64 := by simpa [itemB] using h1
        obtain ⟨h3, h4⟩ := h2
        have HAL := Lib.hid (show addItem s x = s ||| 2 ^ x.toNat by simp [addItem, h1])
        have H1 := Lib.hid h1
        have HA := Lib.hid HA2
        clear h1 HA2
        go_wp2_with (go_at_call 47; refine (item_any _ _).mono ?_; rintro e w' ⟨rfl, rfl⟩; rw [H1.out])
        go_round
        case rel => exact ⟨k + 1, addItem s x, by omega, by go_num, by rw [HAL.out, or_pow s _ hs (by omega)], hal, HA⟩
        case measure => simp [intOf]; omega
    · have hd : l.drop k = [] := List.drop_eq_nil_of_le (by omega)
      have HA2 := HA.out
      rw [hd] at HA2
      have HA3 := Lib.hid HA2
      clear hd HA HA2
      go_wp2
      go_ret
      exact ⟨ret_i (by rw [HA3.out]; rfl), rfl⟩
end Go.Proofs.Ytnaoemcekggloaa
