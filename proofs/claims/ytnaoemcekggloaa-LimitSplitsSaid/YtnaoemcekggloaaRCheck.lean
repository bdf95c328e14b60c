/- The document's answer for a plan. -/
import Derived.Test.YtnaoemcekggloaaCheck
namespace Go.Proofs.Ytnaoemcekggloaa
open Go.RowKit Go.Proofs.YtnaoemcekggloaaW.PrintWords Go.Proofs.YtnaoemcekggloaaW.PrintLast Go.Proofs.YtnaoemcekggloaaW.PrintMore

theorem checkF_arg {items cap e : Int} {l : List Int} (h : oddP items e l = true) : checkF items cap l e = (0, 1) := by rw [checkF, if_pos h]

set_option maxHeartbeats 1000000 in
theorem refcheck_any (items cap : Int) (A : Option Addr) (c : Nat) (l : List Int) (e : Int) (w : World) (he : I64 e) (hr : Kd.C (Kd.int .i64) w A l.length l) (hb : l.length ≤ 140737488355328) :
    Calls Try.prog 12 #[.int .i64 items, .int .i64 cap, .slice A l.length c, .int .i64 e] w fun r w' => r = .returned (.tuple #[.int .i64 (checkF items cap l e).1, .int .i64 (checkF items cap l e).2]) ∧ w = w' := by
  have HR := Lib.hid hr
  have HE := Lib.hid he
  clear hr he
  rcases h1 : (!epsB e || decide (items < 1) || decide (64 < items)) with _ | _
  · simp [epsB] at h1
    obtain ⟨⟨h1, h2⟩, h3⟩ := h1
    have H0 := Lib.hid (show oddP items e l = oddL l by simp [oddP, epsB]; omega)
    have HC := Lib.hid (show checkF items cap l e = if oddP items e l = true then (0, 1) else if l.length > 64 then (0, 3) else if (roundsF l e).2 = false ∨ (roundsF l e).1 > cap then (0, 61) else ((roundsF l e).1, 0) from rfl)
    have hrb := rounds_bd l e
    have hrb1 := hrb.1
    have hrb2 := hrb.2
    have HQ := Lib.hid (show roundsF l e = ((roundsF l e).1, (roundsF l e).2) from rfl)
    generalize (roundsF l e).1 = r1 at *
    generalize (roundsF l e).2 = r2 at *
    have HR1 := Lib.hid (congrArg Prod.fst HQ.out)
    have HR2 := Lib.hid (congrArg Prod.snd HQ.out)
    clear hrb
    obtain ⟨h11, h12⟩ := h1
    go_enter Try.func12, Try.ntmps12
    go_wp2
    go_loop [10] (fun i => ∃ (k : Nat), k ≤ l.length ∧ i = .int .i64 k ∧ Hid (oddP items e l = oddL (l.drop k))) (fun i => l.length - (intOf i).toNat)
    case atStart => exact ⟨0, by omega, rfl, H0⟩
    case round =>
      obtain ⟨k, hk, rfl, HA⟩ := hrel
      clear H0
      by_cases hlt : k < l.length
      · obtain ⟨ad, x, rfl, hx, hc⟩ := int_at HR.out k hlt
        have hd := drop_at hx
        have HA2 := HA.out
        have hc1 : oddL (x :: l.drop (k + 1)) = (!rightB x || oddL (l.drop (k + 1))) := by simp [oddL]
        rw [hd, hc1] at HA2
        have HA := Lib.hid HA2
        clear hd hc1 HA2 hx
        rcases hR : rightB x with _ | _
        · have HC2 := HC.out
          rw [HA.out, hR, if_pos (by simp)] at HC2
          have HC3 := Lib.hid HC2
          have HR3 := Lib.hid hR
          clear HC2 hR
          go_wp2_with (go_at_call 32; refine (refright_any _ _).mono ?_; rintro e w' ⟨rfl, rfl⟩; rw [HR3.out])
          go_ret2
          exact ⟨ret_2i (by rw [HC3.out]) (by rw [HC3.out]), rfl⟩
        · have HA2 := HA.out
          rw [hR] at HA2
          have HR3 := Lib.hid hR
          have HA := Lib.hid HA2
          clear hR HA2
          go_wp2_with (go_at_call 32; refine (refright_any _ _).mono ?_; rintro e w' ⟨rfl, rfl⟩; rw [HR3.out])
          go_round
          case rel => exact ⟨k + 1, by omega, by go_num, by simpa using HA⟩
          case measure => simp [intOf]; omega
      · have hd : l.drop k = [] := List.drop_eq_nil_of_le (by omega)
        have HA2 := HA.out
        rw [hd, show oddL [] = false from rfl] at HA2
        have HC2 := HC.out
        rw [HA2, if_neg (by simp)] at HC2
        clear hd HA2 HC
        by_cases h64 : l.length > 64
        · rw [if_pos h64] at HC2
          have HC3 := Lib.hid HC2
          clear HC2
          go_wp2
          go_ret2
          exact ⟨ret_2i (by rw [HC3.out]) (by rw [HC3.out]), rfl⟩
        · rw [if_neg h64] at HC2
          by_cases hcap : r1 > cap
          · rw [if_pos (.inr hcap)] at HC2
            have HC3 := Lib.hid HC2
            clear HC2
            cases r2
            all_goals
              go_wp2_with (go_at_call 10; refine (refrounds_any _ _ _ _ _ HE.out HR.out hb).mono ?_; rintro e w' ⟨rfl, rfl⟩; rw [HR1.out, HR2.out])
              go_ret2
              exact ⟨ret_2i (by rw [HC3.out]) (by rw [HC3.out]), rfl⟩
          · cases r2
            · rw [if_pos (.inl rfl)] at HC2
              have HC3 := Lib.hid HC2
              clear HC2
              go_wp2_with (go_at_call 10; refine (refrounds_any _ _ _ _ _ HE.out HR.out hb).mono ?_; rintro e w' ⟨rfl, rfl⟩; rw [HR1.out, HR2.out])
              go_ret2
              exact ⟨ret_2i (by rw [HC3.out]) (by rw [HC3.out]), rfl⟩
            · rw [if_neg (by simp; omega)] at HC2
              have HC3 := Lib.hid HC2
              clear HC2
              go_wp2_with (go_at_call 10; refine (refrounds_any _ _ _ _ _ HE.out HR.out hb).mono ?_; rintro e w' ⟨rfl, rfl⟩; rw [HR1.out, HR2.out])
              go_ret2
              exact ⟨ret_2i (by rw [HC3.out]) (by rw [HC3.out]), rfl⟩
  · have HC := Lib.hid (checkF_arg (cap := cap) (show oddP items e l = true by rw [oddP]; rw [show (!epsB e || decide (items < 1) || decide (items > 64)) = true from h1]; rfl))
    simp only [epsB, Bool.or_eq_true, Bool.not_eq_true', Bool.and_eq_false_iff, decide_eq_true_eq, decide_eq_false_iff_not] at h1
    by_cases g1 : e < 1
    · go_enter Try.func12, Try.ntmps12
      go_wp2
      go_ret2
      exact ⟨ret_2i (by rw [HC.out]) (by rw [HC.out]), rfl⟩
    · by_cases g2 : e > 1099511627776
      · go_enter Try.func12, Try.ntmps12
        go_wp2
        go_ret2
        exact ⟨ret_2i (by rw [HC.out]) (by rw [HC.out]), rfl⟩
      · by_cases g3 : items < 1
        · clear h1
          go_enter Try.func12, Try.ntmps12
          go_wp2
          go_ret2
          exact ⟨ret_2i (by rw [HC.out]) (by rw [HC.out]), rfl⟩
        · have g4 : items > 64 := by omega
          clear h1
          go_enter Try.func12, Try.ntmps12
          go_wp2
          go_ret2
          exact ⟨ret_2i (by rw [HC.out]) (by rw [HC.out]), rfl⟩
end Go.Proofs.Ytnaoemcekggloaa
