/- The document's sets: has, within, one. -/
import Derived.Test.YtnaoemcekggloaaAlive
namespace Go.Proofs.Ytnaoemcekggloaa
open Go.RowKit Go.Shelf Go.Proofs.YtnaoemcekggloaaW.PrintWords Go.Proofs.YtnaoemcekggloaaW.PrintLast Go.Proofs.YtnaoemcekggloaaW.PrintMore It

theorem mod_two_bit (s k : Nat) : (((s / 2 ^ k : Nat) : Int) % 2 == 1) = Nat.testBit s k := by
  rw [Nat.testBit_eq_decide_div_mod_eq, Bool.eq_iff_iff]
  generalize s / 2 ^ k = q
  simp only [beq_iff_eq, decide_eq_true_eq]
  omega

theorem refhas_any (s : Nat) (n : Int) (w : World) (hs : s < 18446744073709551616) :
    Calls Try.prog 48 #[.int .u64 s, .int .i64 n] w fun e w' => e = .returned (.bool (hasB s n)) ∧ w = w' := by
  by_cases h1 : n < 0
  · go_enter Try.func48, Try.ntmps48
    go_wp2
    go_ret
    exact ⟨ret_b (by simp [hasB, itemB]; omega), rfl⟩
  · by_cases h2 : n > 63
    · go_enter Try.func48, Try.ntmps48
      go_wp2
      go_ret
      exact ⟨ret_b (by simp [hasB, itemB]; omega), rfl⟩
    · go_enter Try.func48, Try.ntmps48
      go_wp2
      go_loop [0, 5] (fun v i => ∃ (k q : Nat), (k : Int) ≤ n ∧ i = .int .i64 k ∧ v = .int .u64 q ∧ q ≤ s ∧ Hid (q = s / 2 ^ k)) (fun _ i => (n - intOf i).toNat)
      case atStart => exact ⟨0, s, by omega, rfl, rfl, Nat.le_refl _, Lib.hid (by simp)⟩
      case round =>
        obtain ⟨k, q, hk, rfl, rfl, hq, HQ⟩ := hrel
        by_cases hlt : (k : Int) < n
        · go_wp2
          go_round
          case rel => exact ⟨k + 1, q / 2, by omega, by go_num, by go_num, by omega, Lib.hid (by rw [HQ.out, Nat.div_div_eq_div_mul, Nat.pow_succ])⟩
          case measure => simp [intOf]; omega
        · have hn : n = k := by omega
          subst hn
          have hB : ((q : Int) % 2 == 1) = hasB s k := by
            rw [HQ.out, mod_two_bit]
            have : itemB k = true := by simp [itemB]; omega
            rw [hasB, this, Int.toNat_natCast, Bool.true_and]
          have HB := Lib.hid hB
          clear hB
          go_wp2
          go_ret
          exact ⟨ret_b HB.out, rfl⟩

theorem wth_iff (a b : Nat) (ha : a < 18446744073709551616) (hb : b < 18446744073709551616) : wthB a b = true ↔ ∀ i : Nat, i < 64 → hasB a i = true → hasB b i = true := by
  have hB : ∀ (s i : Nat), i < 64 → hasB s i = Nat.testBit s i := fun s i hi => by
    have : itemB i = true := by simp [itemB]; omega
    rw [hasB, this, Int.toNat_natCast, Bool.true_and]
  have hc : ∀ i, Nat.testBit (18446744073709551615 - b) i = (decide (i < 64) && !Nat.testBit b i) := fun i => by
    have := Nat.testBit_two_pow_sub_succ (n := 64) (x := b) (by omega) i
    rw [← this]
    congr 1
    omega
  simp only [wthB, decide_eq_true_eq]
  constructor
  · intro h i hi h1
    rw [hB a i hi] at h1
    rw [hB b i hi]
    have h2 := congrArg (fun x => Nat.testBit x i) h
    simp only [Nat.testBit_and, hc, Nat.zero_testBit] at h2
    rw [h1] at h2
    simpa [hi] using h2
  · intro h
    apply Nat.eq_of_testBit_eq
    intro i
    rw [Nat.testBit_and, hc, Nat.zero_testBit]
    by_cases hi : i < 64
    · have := h i hi
      rw [hB a i hi, hB b i hi] at this
      rcases ha' : Nat.testBit a i with _ | _
      · rfl
      · simp [this ha']
    · have : Nat.testBit a i = false := Nat.testBit_lt_two_pow (Nat.lt_of_lt_of_le ha (by
        have : 2 ^ 64 ≤ 2 ^ i := Nat.pow_le_pow_right (by omega) (by omega)
        omega))
      simp [this]

theorem refwth_any (a b : Nat) (w : World) (ha : a < 18446744073709551616) (hb : b < 18446744073709551616) :
    Calls Try.prog 37 #[.int .u64 a, .int .u64 b] w fun e w' => e = .returned (.bool (wthB a b)) ∧ w = w' := by
  have HW := Lib.hid (wth_iff a b ha hb)
  go_enter Try.func37, Try.ntmps37
  go_wp2
  go_loop [5] (fun i => ∃ (k : Nat), k ≤ 64 ∧ i = .int .i64 k ∧ Hid (∀ j : Nat, j < k → hasB a j = true → hasB b j = true)) (fun i => (64 - intOf i).toNat)
  case atStart => exact ⟨0, by omega, rfl, Lib.hid (fun j hj => by omega)⟩
  case round =>
    obtain ⟨k, hk, rfl, HK⟩ := hrel
    by_cases hlt : k < 64
    · rcases h1 : hasB a k with _ | _
      · have H1 := Lib.hid h1
        clear h1
        go_wp2_with (go_at_call 48; refine (refhas_any a k _ ha).mono ?_; rintro e w' ⟨rfl, rfl⟩; rw [H1.out])
        go_round
        case rel => exact ⟨k + 1, by omega, by go_num, Lib.hid (fun j hj hja => by
          rcases Nat.lt_or_eq_of_le (Nat.le_of_lt_succ hj) with h | rfl
          · exact HK.out j h hja
          · rw [H1.out] at hja; cases hja)⟩
        case measure => simp [intOf]; omega
      · rcases h2 : hasB b k with _ | _
        · have H1 := Lib.hid h1
          have H2 := Lib.hid h2
          clear h1 h2
          go_wp2_with fail
          refine (refhas_any a k _ ha).mono ?_
          rintro e w' ⟨rfl, rfl⟩
          rw [H1.out]
          go_wp2_with fail
          refine (refhas_any b k _ hb).mono ?_
          rintro e w' ⟨rfl, rfl⟩
          rw [H2.out]
          go_wp2
          go_ret
          refine ⟨ret_b ?_, rfl⟩
          rw [eq_comm, Bool.eq_false_iff]
          intro h
          have := HW.out.1 h k hlt H1.out
          rw [H2.out] at this
          cases this
        · have H1 := Lib.hid h1
          have H2 := Lib.hid h2
          clear h1 h2
          go_wp2_with fail
          refine (refhas_any a k _ ha).mono ?_
          rintro e w' ⟨rfl, rfl⟩
          rw [H1.out]
          go_wp2_with fail
          refine (refhas_any b k _ hb).mono ?_
          rintro e w' ⟨rfl, rfl⟩
          rw [H2.out]
          go_wp2
          go_round
          case rel => exact ⟨k + 1, by omega, by go_num, Lib.hid (fun j hj hja => by
            rcases Nat.lt_or_eq_of_le (Nat.le_of_lt_succ hj) with h | rfl
            · exact HK.out j h hja
            · exact H2.out)⟩
          case measure => simp [intOf]; omega
    · have hk64 : k = 64 := by omega
      subst hk64
      go_wp2
      go_ret
      exact ⟨ret_b (HW.out.2 HK.out).symm, rfl⟩

theorem refone_any (n : Nat) (w : World) (hn : n ≤ 63) :
    Calls Try.prog 36 #[.int .i64 n] w fun e w' => e = .returned (.int .u64 ((2 ^ n : Nat) : Int)) ∧ w = w' := by
  go_enter Try.func36, Try.ntmps36
  go_wp2
  go_loop [3, 4] (fun v i => ∃ (k q : Nat), k ≤ n ∧ i = .int .i64 k ∧ v = .int .u64 q ∧ q ≤ 9223372036854775808 ∧ Hid (q = 2 ^ k)) (fun _ i => (n - intOf i).toNat)
  case atStart => exact ⟨0, 1, by omega, rfl, rfl, by omega, Lib.hid rfl⟩
  case round =>
    obtain ⟨k, q, hk, rfl, rfl, hq, HQ⟩ := hrel
    by_cases hlt : k < n
    · have hq2 : 2 ^ k ≤ 2 ^ 62 := Nat.pow_le_pow_right (by omega) (by omega)
      have hq3 : q ≤ 4611686018427387904 := by rw [HQ.out]; exact hq2
      clear hq2
      go_wp2
      go_round
      case rel => exact ⟨k + 1, q * 2, by omega, by go_num, by go_num, by omega, Lib.hid (by rw [HQ.out, Nat.pow_succ])⟩
      case measure => simp [intOf]; omega
    · have hn : n = k := by omega
      subst hn
      go_wp2
      go_ret
      exact ⟨ret_i (by rw [HQ.out]; simp), rfl⟩
end Go.Proofs.Ytnaoemcekggloaa
