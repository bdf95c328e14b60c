/- What a plan is told. -/
import Derived.Test.YtnaoemcekggloaaRefs
namespace Go.Proofs.Ytnaoemcekggloaa
open Go.RowKit Go.Proofs.YtnaoemcekggloaaW.PrintWords Go.Proofs.YtnaoemcekggloaaW.PrintLast Go.Proofs.YtnaoemcekggloaaW.PrintMore

theorem ret_2i {k k' : IntKind} {a b : Int} {c d : Int} (h : a = b) (h' : c = d) : Ending.returned (.tuple #[.int k a, .int k' c]) = .returned (.tuple #[.int k b, .int k' d]) := by rw [h, h']

theorem drop_at {α : Type} {l : List α} {k : Nat} {x : α} (hx : l[k]? = some x) : l.drop k = x :: l.drop (k + 1) := by
  obtain ⟨h3, h4⟩ := List.getElem?_eq_some_iff.1 hx
  rw [List.drop_eq_getElem_cons h3, h4]
theorem take_at {α : Type} {l : List α} {k : Nat} {x : α} (hx : l[k]? = some x) : l.take (k + 1) = l.take k ++ [x] := by
  obtain ⟨h3, h4⟩ := List.getElem?_eq_some_iff.1 hx
  rw [List.take_succ_eq_append_getElem h3, h4]

set_option maxHeartbeats 400000 in
theorem refrounds_any (A : Option Addr) (c : Nat) (l : List Int) (e : Int) (w : World) (he : I64 e) (hr : Kd.C (Kd.int .i64) w A l.length l) (hb : l.length ≤ 140737488355328) :
    Calls Try.prog 10 #[.slice A l.length c, .int .i64 e] w fun r w' => r = .returned (.tuple #[.int .i64 (roundsF l e).1, .bool (roundsF l e).2]) ∧ w = w' := by
  by_cases h1 : 1 ≤ e
  · by_cases h1' : e ≤ 1099511627776
    · have H := Lib.hid (show roundsF l e = rnd e l 0 by rw [roundsF, if_pos (by simp [epsB, h1, h1'])])
      generalize roundsF l e = R at *
      have HR := Lib.hid hr
      have HE := Lib.hid he
      clear hr he
      go_enter Try.func10, Try.ntmps10
      go_wp2
      go_loop [6, 7] (fun o i => ∃ (k : Nat) (acc : Int), k ≤ l.length ∧ i = .int .i64 k ∧ o = .int .i64 acc ∧ 0 ≤ acc ∧ acc ≤ 1099511627776 ∧ Hid (R = rnd e (l.drop k) acc)) (fun _ i => l.length - (intOf i).toNat)
      case atStart => exact ⟨0, 0, by omega, rfl, rfl, by omega, by omega, H⟩
      case round =>
        obtain ⟨k, acc, hk, rfl, rfl, ha1, ha2, HA⟩ := hrel
        clear H
        by_cases hlt : k < l.length
        · obtain ⟨ad, x, rfl, hx, hc⟩ := int_at HR.out k hlt
          have hd := drop_at hx
          have HA2 := HA.out
          rw [hd, rnd] at HA2
          clear hd HA
          by_cases hR : rightB x = true
          · have hxb := rightB_true hR
            have hcb := ceil_bd x e hxb.1 hxb.2
            rw [if_neg (by simp [hR])] at HA2
            have hcb1 := hcb.1
            have hcb2 := hcb.2
            have HX := Lib.hid hx
            have HR2 := Lib.hid hR
            have HXB := Lib.hid hxb
            clear hx hR hcb hxb
            by_cases hs : acc + ceilI x e > 1099511627776
            · rw [if_pos hs] at HA2
              have HA := Lib.hid HA2
              clear HA2
              go_wp2_with (first | (go_at_call 32; refine (refright_any _ _).mono ?_; rintro e w' ⟨rfl, rfl⟩; rw [HR2.out]) | (go_at_call 33; refine (refceil_any _ _ _ ⟨by have := HXB.out.1; omega, by have := HXB.out.2; omega⟩ HE.out).mono ?_; rintro e w' ⟨rfl, rfl⟩))
              go_ret2
              exact ⟨ret_2 (by rw [HA.out]) (by rw [HA.out]), rfl⟩
            · rw [if_neg hs] at HA2
              have HA := Lib.hid HA2
              clear HA2
              go_wp2_with (first | (go_at_call 32; refine (refright_any _ _).mono ?_; rintro e w' ⟨rfl, rfl⟩; rw [HR2.out]) | (go_at_call 33; refine (refceil_any _ _ _ ⟨by have := HXB.out.1; omega, by have := HXB.out.2; omega⟩ HE.out).mono ?_; rintro e w' ⟨rfl, rfl⟩))
              go_round
              case rel => exact ⟨k + 1, acc + ceilI x e, by omega, by go_num, rfl, by omega, by omega, HA⟩
              case measure => simp [intOf]; omega
          · rw [if_pos (by simpa using hR)] at HA2
            have HA := Lib.hid HA2
            have HR2 := Lib.hid (show rightB x = false by simpa using hR)
            have HX := Lib.hid hx
            clear HA2 hx hR
            go_wp2_with (go_at_call 32; refine (refright_any _ _).mono ?_; rintro e w' ⟨rfl, rfl⟩; rw [HR2.out])
            go_ret2
            exact ⟨ret_2 (by rw [HA.out]) (by rw [HA.out]), rfl⟩
        · have hd : l.drop k = [] := List.drop_eq_nil_of_le (by omega)
          have HA2 := HA.out
          rw [hd, rnd] at HA2
          have HA3 := Lib.hid HA2
          clear hd HA HA2
          go_wp2
          go_ret2
          exact ⟨ret_2 (by rw [HA3.out]) (by rw [HA3.out]), rfl⟩
    · have H := Lib.hid (show roundsF l e = (0, false) by rw [roundsF, if_neg (by simp [epsB]; omega)])
      generalize roundsF l e = R at *
      have HR := Lib.hid hr
      clear hr
      go_enter Try.func10, Try.ntmps10
      go_wp2
      go_ret2
      exact ⟨ret_2 (by rw [H.out]) (by rw [H.out]), rfl⟩
  · have H := Lib.hid (show roundsF l e = (0, false) by rw [roundsF, if_neg (by simp [epsB]; omega)])
    generalize roundsF l e = R at *
    have HR := Lib.hid hr
    clear hr
    go_enter Try.func10, Try.ntmps10
    go_wp2
    go_ret2
    exact ⟨ret_2 (by rw [H.out]) (by rw [H.out]), rfl⟩

def oddL (l : List Int) : Bool := l.any (fun m => !rightB m)
def oddP (items e : Int) (l : List Int) : Bool := (!epsB e || decide (items < 1) || decide (items > 64)) || oddL l
def checkF (items cap : Int) (l : List Int) (e : Int) : Int × Int :=
  if oddP items e l = true then (0, 1) else if l.length > 64 then (0, 3) else if (roundsF l e).2 = false ∨ (roundsF l e).1 > cap then (0, 61) else ((roundsF l e).1, 0)
theorem oddL_snoc (l : List Int) (x : Int) : oddL (l ++ [x]) = (oddL l || !rightB x) := by simp [oddL]
theorem rnd_bd (e : Int) : ∀ (l : List Int) (acc : Int), 0 ≤ acc → acc ≤ 1099511627776 → 0 ≤ (rnd e l acc).1 ∧ (rnd e l acc).1 ≤ 1099511627776
  | [], acc, h1, h2 => ⟨h1, h2⟩
  | n :: l, acc, h1, h2 => by
    rw [rnd]
    split
    · exact ⟨by decide, by decide⟩
    · rename_i h
      split
      · exact ⟨by decide, by decide⟩
      · have hr := rightB_true (n := n) (by simpa using h)
        have := ceil_bd n e hr.1 hr.2
        exact rnd_bd e l _ (by omega) (by omega)
theorem rounds_bd (l : List Int) (e : Int) : 0 ≤ (roundsF l e).1 ∧ (roundsF l e).1 ≤ 1099511627776 := by
  unfold roundsF
  split
  · exact rnd_bd e l 0 (by omega) (by omega)
  · exact ⟨by decide, by decide⟩
/-- the loop of Check, from a flag on -/
def oddFrom (b : Bool) (l : List Int) : Bool := b || oddL l

set_option maxHeartbeats 1000000 in
theorem check_any (items cap : Int) (A : Option Addr) (c : Nat) (l : List Int) (e : Int) (w : World) (he : I64 e) (hi : I64 items) (hr : Kd.C (Kd.int .i64) w A l.length l) (hb : l.length ≤ 140737488355328) :
    Calls Try.prog 11 #[.agg #[.int .i64 items, .int .i64 cap, .slice A l.length c, .int .i64 e]] w fun r w' => r = .returned (.tuple #[.int .i64 (checkF items cap l e).1, .int .i64 (checkF items cap l e).2]) ∧ Below w.heap.size w w' := by
  have HR := Lib.hid (show Kd.C (Kd.int .i64) (w.alloc (.cells #[.int .i64 items, .int .i64 cap, .slice A l.length c, .int .i64 e] 29)) A l.length l from Kd.C_below hr ((Below.refl _ _).alloc (Nat.le_refl _) _))
  have HE := Lib.hid he
  have HI := Lib.hid hi
  have hB : Below w.heap.size w (w.alloc (.cells #[.int .i64 items, .int .i64 cap, .slice A l.length c, .int .i64 e] 29)) := (Below.refl _ _).alloc (Nat.le_refl _) _
  have HB := Lib.hid hB
  obtain ⟨b0, hb0⟩ : ∃ b0 : Bool, b0 = (!epsB e || decide (items < 1) || decide (64 < items)) := ⟨_, rfl⟩
  have H0 := Lib.hid (show oddP items e l = (b0 || oddL l) by rw [hb0, oddP])
  have HC := Lib.hid (show checkF items cap l e = if oddP items e l = true then (0, 1) else if l.length > 64 then (0, 3) else if (roundsF l e).2 = false ∨ (roundsF l e).1 > cap then (0, 61) else ((roundsF l e).1, 0) from rfl)
  have hrb := rounds_bd l e
  have hrb1 := hrb.1
  have hrb2 := hrb.2
  have HQ := Lib.hid (show roundsF l e = ((roundsF l e).1, (roundsF l e).2) from rfl)
  generalize (roundsF l e).1 = r1 at *
  generalize (roundsF l e).2 = r2 at *
  have HR1 := Lib.hid (congrArg Prod.fst HQ.out)
  have HR2 := Lib.hid (congrArg Prod.snd HQ.out)
  clear hr he hi hB hrb
  rcases h1 : epsB e with _ | _ <;> rcases h2 : decide (items < 1) with _ | _ <;> rcases h3 : decide (64 < items) with _ | _
  all_goals
    rw [h1, h2, h3] at hb0
    obtain rfl := hb0.trans (show _ = _ from rfl)
    try rw [show (!true || false || false) = false from rfl] at H0
    go_enter Try.func11, Try.ntmps11
    go_wp2_with (first | (go_at_call 9; refine (rounds_any _ _ _ _ _ HE.out HR.out hb).mono ?_; rintro e w' ⟨rfl, rfl⟩; rw [HR1.out, HR2.out]) | (go_at_call 29; refine (eps_any _ _).mono ?_; rintro e w' ⟨rfl, rfl⟩))
    go_loop [6, 34] (fun f i => ∃ (k : Nat) (fl : Bool), k ≤ l.length ∧ i = .int .i64 k ∧ f = .bool fl ∧ Hid (oddP items e l = (fl || oddL (l.drop k)))) (fun _ i => l.length - (intOf i).toNat)
    case atStart => exact ⟨0, _, by omega, rfl, rfl, H0⟩
    case round =>
      obtain ⟨k, fl, hk, rfl, rfl, HA⟩ := hrel
      clear H0
      by_cases hlt : k < l.length
      · obtain ⟨ad, x, rfl, hx, hc⟩ := int_at HR.out k hlt
        have hd := drop_at hx
        have HA2 := HA.out
        have hc1 : oddL (x :: l.drop (k + 1)) = (!rightB x || oddL (l.drop (k + 1))) := by simp [oddL]
        rw [hd, hc1, ← Bool.or_assoc] at HA2
        have HA := Lib.hid HA2
        clear hd hc1 HA2 hx
        cases fl
        · go_wp2_with (go_at_call 30; refine (right_any _ _).mono ?_; rintro e w' ⟨rfl, rfl⟩)
          go_round
          case rel => exact ⟨k + 1, _, by omega, by go_num, rfl, by simpa using HA⟩
          case measure => simp [intOf]; omega
        · go_wp2_with fail
          go_round
          case rel => exact ⟨k + 1, true, by omega, by go_num, rfl, by simpa using HA⟩
          case measure => simp [intOf]; omega
      · have hd : l.drop k = [] := List.drop_eq_nil_of_le (by omega)
        have HA2 := HA.out
        rw [hd, show oddL [] = false from rfl, Bool.or_false] at HA2
        have HA := Lib.hid HA2
        clear hd HA2
        have HC2 := HC.out
        rw [HA.out] at HC2
        cases fl
        · rw [if_neg (by simp)] at HC2
          by_cases h64 : l.length > 64
          · rw [if_pos h64] at HC2
            have HC3 := Lib.hid HC2
            clear HC2
            go_wp2
            go_ret2
            exact ⟨ret_2i (by rw [HC3.out]) (by rw [HC3.out]), HB.out⟩
          · rw [if_neg h64] at HC2
            by_cases hcap : r1 > cap
            · rw [if_pos (.inr hcap)] at HC2
              have HC3 := Lib.hid HC2
              clear HC2
              cases r2
              all_goals
                go_wp2
                go_ret2
                exact ⟨ret_2i (by rw [HC3.out]) (by rw [HC3.out]), HB.out⟩
            · cases r2
              · rw [if_pos (.inl rfl)] at HC2
                have HC3 := Lib.hid HC2
                clear HC2
                go_wp2
                go_ret2
                exact ⟨ret_2i (by rw [HC3.out]) (by rw [HC3.out]), HB.out⟩
              · rw [if_neg (by simp; omega)] at HC2
                have HC3 := Lib.hid HC2
                clear HC2
                go_wp2
                go_ret2
                exact ⟨ret_2i (by rw [HC3.out]) (by rw [HC3.out]), HB.out⟩
        · rw [if_pos rfl] at HC2
          have HC3 := Lib.hid HC2
          clear HC2
          go_wp2
          go_ret2
          exact ⟨ret_2i (by rw [HC3.out]) (by rw [HC3.out]), HB.out⟩
end Go.Proofs.Ytnaoemcekggloaa
