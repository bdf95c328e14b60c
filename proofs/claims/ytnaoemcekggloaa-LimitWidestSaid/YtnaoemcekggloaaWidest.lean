/- The most rounds that fit, and the least eps. -/
import Derived.Test.YtnaoemcekggloaaAlive
namespace Go.Proofs.Ytnaoemcekggloaa
open Go.RowKit Go.Shelf Go.Proofs.YtnaoemcekggloaaW.PrintWords Go.Proofs.YtnaoemcekggloaaW.PrintLast Go.Proofs.YtnaoemcekggloaaW.PrintMore It

/-- What Widest answers. -/
def WidestOK (room b n : Int) (ok : Bool) : Prop :=
  (ok = decide (roomI 0 b ≤ room)) ∧ (ok = false → n = 0) ∧ (ok = true → 0 ≤ n ∧ n ≤ 1099511627776 ∧ roomI n b ≤ room ∧ (n < 1099511627776 → room < roomI (n + 1) b))

def WidestRes (room b : Int) (e : Ending) : Prop := ∃ n ok, e = .returned (.tuple #[.int .i64 n, .bool ok]) ∧ WidestOK room b n ok

set_option maxHeartbeats 1000000 in
theorem widest_any (room b : Int) (w : World) :
    Calls Try.prog 22 #[.int .i64 room, .int .i64 b] w fun e w' => WidestRes room b e ∧ w = w' := by
  by_cases h0 : roomI 0 b ≤ room
  · have HF := Lib.hid (fits_any 0 b room w)
    have hd : decide (roomI 0 b ≤ room) = true := by simp [h0]
    rw [hd] at HF
    have H0 := Lib.hid h0
    have HD := Lib.hid hd
    clear h0 hd
    go_enter Try.func22, Try.ntmps22
    go_wp2_with fail
    refine HF.out.mono ?_
    rintro e w' ⟨rfl, rfl⟩
    go_wp2_with fail
    go_loop [6, 7] (fun lo hi => ∃ (x y : Int), lo = .int .i64 x ∧ hi = .int .i64 y ∧ 0 ≤ x ∧ x ≤ y ∧ y ≤ 1099511627776 ∧ Hid (roomI x b ≤ room) ∧ Hid (y < 1099511627776 → room < roomI (y + 1) b)) (fun lo hi => ((intOf hi) - (intOf lo)).toNat)
    case atStart => exact ⟨0, 1099511627776, rfl, rfl, by omega, by omega, by omega, H0, Lib.hid (fun h => by omega)⟩
    case round =>
      obtain ⟨x, y, rfl, rfl, hx, hxy, hy, HX, HY⟩ := hrel
      by_cases hlt : x < y
      · obtain ⟨m, hm⟩ : ∃ m, x + (y - x + 1) / 2 = m := ⟨_, rfl⟩
        have hm1 : x < m ∧ m ≤ y := by omega
        obtain ⟨hm2, hm3⟩ := hm1
        have HM := Lib.hid hm
        have HFm := Lib.hid (fits_any m b room w)
        clear hm
        by_cases hf : roomI m b ≤ room
        · rw [show decide (roomI m b ≤ room) = true by simp [hf]] at HFm
          have HFF := Lib.hid hf
          clear hf
          go_wp2_with (go_at_call 15; rw [HM.out]; refine HFm.out.mono ?_; rintro e w' ⟨rfl, rfl⟩)
          go_round
          case rel => exact ⟨m, y, rfl, rfl, by omega, by omega, by omega, HFF, HY⟩
          case measure => simp [intOf]; omega
        · rw [show decide (roomI m b ≤ room) = false by simp; omega] at HFm
          have HFF := Lib.hid hf
          clear hf
          go_wp2_with (go_at_call 15; rw [HM.out]; refine HFm.out.mono ?_; rintro e w' ⟨rfl, rfl⟩)
          go_round
          case rel => exact ⟨x, m - 1, rfl, rfl, by omega, by omega, by omega, HX, Lib.hid (fun _ => by rw [show m - 1 + 1 = m by omega]; have := HFF.out; omega)⟩
          case measure => simp [intOf]; omega
      · have hxy2 : y = x := by omega
        subst hxy2
        go_wp2
        go_ret2
        exact ⟨⟨_, true, rfl, HD.out.symm, (fun h => by cases h), fun _ => ⟨hx, hy, HX.out, HY.out⟩⟩, rfl⟩
  · have HF := Lib.hid (fits_any 0 b room w)
    have hd : decide (roomI 0 b ≤ room) = false := by simp; omega
    rw [hd] at HF
    have HD := Lib.hid hd
    clear h0 hd
    go_enter Try.func22, Try.ntmps22
    go_wp2_with fail
    refine HF.out.mono ?_
    rintro e w' ⟨rfl, rfl⟩
    go_wp2
    go_ret2
    exact ⟨⟨_, false, rfl, HD.out.symm, (fun _ => rfl), fun h => by cases h⟩, rfl⟩

def fewB (l : List Int) (e a : Int) : Bool := (roundsF l e).2 && decide ((roundsF l e).1 ≤ a)
theorem few_any (A : Option Addr) (c : Nat) (l : List Int) (e a : Int) (w : World) (he : I64 e) (hr : Kd.C (Kd.int .i64) w A l.length l) (hb : l.length ≤ 140737488355328) :
    Calls Try.prog 39 #[.slice A l.length c, .int .i64 e, .int .i64 a] w fun r w' => r = .returned (.bool (fewB l e a)) ∧ w = w' := by
  have H := Lib.hid (rounds_any A c l e w he hr hb)
  rcases h2 : (roundsF l e).2 with _ | _
  · have HB := Lib.hid (show fewB l e a = false by rw [fewB, h2]; rfl)
    rw [h2] at H
    generalize (roundsF l e).1 = n at H
    clear hr h2
    go_enter Try.func39, Try.ntmps39
    go_wp2_with (go_at_call 9; refine H.out.mono ?_; rintro e w' ⟨rfl, rfl⟩)
    go_ret
    exact ⟨ret_b HB.out.symm, rfl⟩
  · have HB := Lib.hid (show fewB l e a = decide ((roundsF l e).1 ≤ a) by rw [fewB, h2]; rfl)
    rw [h2] at H
    generalize (roundsF l e).1 = n at H HB
    clear hr h2
    go_enter Try.func39, Try.ntmps39
    go_wp2_with (go_at_call 9; refine H.out.mono ?_; rintro e w' ⟨rfl, rfl⟩)
    go_ret
    exact ⟨ret_b HB.out.symm, rfl⟩

/-- What Least answers. -/
def LeastOK (l : List Int) (a n : Int) (ok : Bool) : Prop :=
  (ok = fewB l 1099511627776 a) ∧ (ok = false → n = 0) ∧ (ok = true → 1 ≤ n ∧ n ≤ 1099511627776 ∧ fewB l n a = true ∧ (n = 1 ∨ fewB l (n - 1) a = false))

def LeastRes (l : List Int) (a : Int) (e : Ending) : Prop := ∃ n ok, e = .returned (.tuple #[.int .i64 n, .bool ok]) ∧ LeastOK l a n ok

set_option maxHeartbeats 1000000 in
theorem least_any (A : Option Addr) (c : Nat) (l : List Int) (a : Int) (w : World) (hr : Kd.C (Kd.int .i64) w A l.length l) (hb : l.length ≤ 140737488355328) :
    Calls Try.prog 23 #[.slice A l.length c, .int .i64 a] w fun e w' => LeastRes l a e ∧ w = w' := by
  have HFA := Lib.hid (fun m (hm : I64 m) => few_any A c l m a w hm hr hb)
  clear hr
  have HF := Lib.hid (HFA.out 1099511627776 ⟨by decide, by decide⟩)
  rcases hd : fewB l 1099511627776 a with _ | _
  · rw [hd] at HF
    have HD := Lib.hid hd
    clear hd
    go_enter Try.func23, Try.ntmps23
    go_wp2_with fail
    refine HF.out.mono ?_
    rintro e w' ⟨rfl, rfl⟩
    go_wp2
    go_ret2
    exact ⟨⟨_, false, rfl, HD.out.symm, (fun _ => rfl), fun h => by cases h⟩, rfl⟩
  · rw [hd] at HF
    have HD := Lib.hid hd
    clear hd
    go_enter Try.func23, Try.ntmps23
    go_wp2_with fail
    refine HF.out.mono ?_
    rintro e w' ⟨rfl, rfl⟩
    go_wp2_with fail
    go_loop [6, 7] (fun lo hi => ∃ (x y : Int), lo = .int .i64 x ∧ hi = .int .i64 y ∧ 1 ≤ x ∧ x ≤ y ∧ y ≤ 1099511627776 ∧ Hid (fewB l y a = true) ∧ Hid (x = 1 ∨ fewB l (x - 1) a = false)) (fun lo hi => ((intOf hi) - (intOf lo)).toNat)
    case atStart => exact ⟨1, 1099511627776, rfl, rfl, by omega, by omega, by omega, HD, Lib.hid (.inl rfl)⟩
    case round =>
      obtain ⟨x, y, rfl, rfl, hx, hxy, hy, HX, HY⟩ := hrel
      by_cases hlt : x < y
      · obtain ⟨m, hm⟩ : ∃ m, x + (y - x) / 2 = m := ⟨_, rfl⟩
        have hm1 : x ≤ m ∧ m < y := by omega
        obtain ⟨hm2, hm3⟩ := hm1
        have HM := Lib.hid hm
        have HFm := Lib.hid (HFA.out m ⟨by omega, by omega⟩)
        clear hm
        rcases hf : fewB l m a with _ | _
        · rw [hf] at HFm
          have HFF := Lib.hid hf
          clear hf
          go_wp2_with (go_at_call 39; rw [HM.out]; refine HFm.out.mono ?_; rintro e w' ⟨rfl, rfl⟩)
          go_round
          case rel => exact ⟨m + 1, y, by first | rfl | rw [HM.out], rfl, by omega, by omega, by omega, HX, Lib.hid (.inr (by rw [show m + 1 - 1 = m by omega]; exact HFF.out))⟩
          case measure => simp [intOf]; omega
        · rw [hf] at HFm
          have HFF := Lib.hid hf
          clear hf
          go_wp2_with (go_at_call 39; rw [HM.out]; refine HFm.out.mono ?_; rintro e w' ⟨rfl, rfl⟩)
          go_round
          case rel => exact ⟨x, m, rfl, by first | rfl | rw [HM.out], by omega, by omega, by omega, HFF, HY⟩
          case measure => simp [intOf]; omega
      · have hxy2 : y = x := by omega
        subst hxy2
        go_wp2
        go_ret2
        exact ⟨⟨_, true, rfl, HD.out.symm, (fun h => by cases h), fun _ => ⟨hx, hy, HX.out, HY.out⟩⟩, rfl⟩
end Go.Proofs.Ytnaoemcekggloaa
