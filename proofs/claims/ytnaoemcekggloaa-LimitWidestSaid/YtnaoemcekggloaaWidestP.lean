/- The statement LimitWidest: the most rounds that fit, and the least eps, are just these, for every input. -/
import Derived.Test.YtnaoemcekggloaaRows
import Derived.WalkKit
import Derived.ProofKit
import Derived.OpenShut
import Derived.ShutString
import Derived.ChangeOld
import Derived.Below
import Derived.Test.YtnaoemcekggloaaWidest
namespace Go.Proofs.Ytnaoemcekggloaa.limitWidest
open Go.ChangeShapes Go.WideShapes Go.ChangeAt Go.RowKit
open Go.ChangeMaps (open_string shut_string)
open Go.Proofs.YtnaoemcekggloaaW.PrintWords
set_option linter.unusedVariables false

theorem own : ownKnob Try.prog.godebug = none := by kernel_rfl
theorem laidOut : laidOutB Try.prog = true := by kernel_rfl

/-- WHAT THE WALK IS TOLD OF A SLICE OF INTEGERS THAT CAME IN: it is nil; or it leads to a row of 'cap' cells, the numbers 'zs' (the first 'len' are its elements, the rest its spare room), each fitting its kind. -/
def IsRow (k : IntKind) (w : World) (a : Option Addr) (len cap : Nat) (zs : List Int) : Prop :=
  (a = none ∧ len = 0 ∧ cap = 0 ∧ zs = []) ∨
  ∃ x, a = some x ∧ len ≤ cap ∧ cap ≤ maxLen ∧ zs.length = cap ∧ (∀ i, i < zs.length → w.cell? (x.add i) = some (.int k (zs.getD i 0))) ∧ ∀ n ∈ zs, (Lit.int k n).wf = true

theorem I64_of {n : Int} (h : (Lit.int .i64 n).wf = true) : I64 n := by
  have h1 : IntKind.i64.min ≤ n ∧ n ≤ 9223372036854775807 := by simpa [Lit.wf] using h
  have h2 : IntKind.i64.min = -9223372036854775808 := by decide
  rw [h2] at h1
  exact h1
theorem C_row {w : World} {a : Option Addr} {len cap : Nat} {zs : List Int} (h : IsRow .i64 w a len cap zs) : (zs.take len).length = len ∧ len ≤ maxLen ∧ Kd.C (Kd.int .i64) w a len (zs.take len) ∧ ∀ n ∈ zs.take len, I64 n := by
  rcases h with ⟨rfl, rfl, rfl, rfl⟩ | ⟨x, rfl, hlc, hcm, hz, hc, hw⟩
  · exact ⟨rfl, by decide, C_nil _ _, fun n hn => by cases hn⟩
  · have hl : (zs.take len).length = len := by rw [List.length_take]; omega
    refine ⟨hl, by omega, ⟨hl, by simp only [maxLen] at hcm; omega, fun _ => ⟨x, rfl, fun j p hj => ⟨[.int .i64 p], rfl, rfl, fun i u hu => ?_⟩⟩⟩, fun n hn => ?_⟩
    · obtain ⟨h1, h2⟩ := List.getElem?_eq_some_iff.1 hu
      simp at h1
      subst h1
      simp at h2
      subst h2
      obtain ⟨h3, h4⟩ := List.getElem?_eq_some_iff.1 hj
      have h5 : j < zs.length := by rw [List.length_take] at h3; omega
      show World.cell? _ (Addr.add _ (j * 1 + 0)) = _
      rw [Nat.mul_one, Nat.add_zero, hc j h5, List.getD_eq_getElem?_getD, List.getElem?_eq_getElem h5]
      rw [List.getElem_take] at h4
      simp [h4]
    · exact I64_of (hw n (List.mem_of_mem_take hn))

def cntP (l : List Int) : Nat := (l.filter (fun m => decide (0 < m))).length
theorem rnd_max : ∀ (l : List Int) (acc : Int), 0 ≤ acc → acc + l.length ≤ 1099511627776 → (rnd 1099511627776 l acc).2 = !oddL l ∧ (oddL l = false → (rnd 1099511627776 l acc).1 = acc + cntP l)
  | [], acc, h0, h1 => ⟨rfl, fun _ => by simp [rnd, cntP]⟩
  | m :: l, acc, h0, h1 => by
    simp only [List.length_cons] at h1
    have e1 : oddL (m :: l) = (!rightB m || oddL l) := by simp [oddL]
    rcases hR : rightB m with _ | _
    · rw [rnd, if_pos hR, e1, hR]
      exact ⟨rfl, fun h => by cases h⟩
    · have hm : 0 ≤ m ∧ m ≤ 1099511627776 := by simpa [rightB] using hR
      have hc : ceilI m 1099511627776 = if 0 < m then 1 else 0 := by
        unfold ceilI
        rw [show max m 0 = m by omega, show max (1099511627776 : Int) 1 = 1099511627776 by omega]
        split <;> split <;> omega
      have hcn : (cntP (m :: l) : Int) = (if 0 < m then 1 else 0) + cntP l := by
        by_cases hp : 0 < m
        · simp [cntP, hp]; omega
        · simp [cntP, hp]
      rw [rnd, if_neg (by rw [hR]; simp), if_neg (by rw [hc]; split <;> omega), e1, hR, hc]
      have ih := rnd_max l (acc + if 0 < m then 1 else 0) (by split <;> omega) (by split <;> omega)
      refine ⟨by simpa using ih.1, fun h => ?_⟩
      rw [ih.2 (by simpa using h), hcn]
      omega
theorem few_max (l : List Int) (a : Int) (hl : l.length ≤ 100) : fewB l 1099511627776 a = (!oddL l && decide ((cntP l : Int) ≤ a)) := by
  have h := rnd_max l 0 (by omega) (by omega)
  have e : roundsF l 1099511627776 = rnd 1099511627776 l 0 := by rw [roundsF, if_pos (by decide)]
  rw [fewB, e, h.1]
  rcases ho : oddL l with _ | _
  · rw [h.2 ho]; simp
  · rfl
theorem cnt_take (l : List Int) (k : Nat) (x : Int) (hx : l[k]? = some x) : cntP (l.take (k + 1)) = cntP (l.take k) + (if 0 < x then 1 else 0) := by
  rw [take_at hx]
  unfold cntP
  rw [List.filter_append, List.length_append]
  congr 1
  by_cases h : 0 < x
  · simp [h]
  · simp [h]

set_option maxHeartbeats 4000000 in
set_option maxRecDepth 20000 in
theorem walk (a0 : Int) (a1 : Int) (a2 : Option Addr) (len2 cap2 : Nat) (z2 : List Int) (a3 : Int) (w : World) (w0 : (Lit.int .i64 a0).wf = true) (w1 : (Lit.int .i64 a1).wf = true) (w2 : IsRow .i64 w a2 len2 cap2 z2) (w3 : (Lit.int .i64 a3).wf = true) :
    Calls Try.prog 6 #[.int .i64 a0, .int .i64 a1, .slice a2 len2 cap2, .int .i64 a3] w fun e w' => e = .returned (.bool true) ∧ Below w.heap.size w w' := by
  obtain ⟨hl, hm, hC, hz⟩ := C_row w2
  obtain ⟨l, hl2⟩ : ∃ l, z2.take len2 = l := ⟨_, rfl⟩
  rw [hl2] at hl hC
  subst hl
  have HC := Lib.hid hC
  have H3 := Lib.hid (I64_of w3)
  clear hC w0 w1 w2 w3 hz hl2
  by_cases hlen : l.length > 100
  · go_enter Try.func6, Try.ntmps6
    go_wp2_with fail
    refine (alive_any w).mono ?_
    rintro e w1 ⟨rfl, hb1⟩
    go_wp2
    go_ret
    exact ⟨rfl, hb1⟩
  · have HFM := Lib.hid (few_max l a3 (by omega))
    go_enter Try.func6, Try.ntmps6
    go_wp2_with fail
    refine (alive_any w).mono ?_
    rintro e w1 ⟨rfl, hb1⟩
    have HB1 := Lib.hid hb1
    have HC1 := Lib.hid (Kd.C_below HC.out hb1)
    clear hb1
    go_wp2_with fail
    refine (widest_any a0 a1 w1).mono ?_
    rintro e w' ⟨⟨n, ok, rfl, hok⟩, rfl⟩
    obtain ⟨ho, hn0, hn1⟩ := hok
    have HO := Lib.hid (fits_any 0 a1 a0 w1)
    rw [← ho] at HO
    clear ho
    cases ok with
    | false =>
      obtain rfl := hn0 rfl
      clear hn0 hn1
      go_wp2_with fail
      refine HO.out.mono ?_
      rintro e w' ⟨rfl, rfl⟩
      go_wp2_with fail
      refine (least_any a2 cap2 l a3 w1 HC1.out (by omega)).mono ?_
      rintro e w' ⟨⟨q, is, rfl, hq⟩, rfl⟩
      obtain ⟨hq1, hq2, hq3⟩ := hq
      rw [HFM.out] at hq1
      have HQ1 := Lib.hid hq1
      have HQ2 := Lib.hid hq2
      have HQ3 := Lib.hid hq3
      clear hq1 hq2 hq3
      go_wp2_with fail
      go_loop [82, 13, 14] (fun i sm od => ∃ (k : Nat), k ≤ l.length ∧ i = .int .i64 k ∧ sm = .int .i64 (cntP (l.take k)) ∧ od = .bool (oddL (l.take k))) (fun i _ _ => (l.length - intOf i).toNat)
      case atStart => exact ⟨0, by omega, rfl, rfl, rfl⟩
      case round =>
        obtain ⟨k, hk, rfl, rfl, rfl⟩ := hrel
        by_cases hkl : k < l.length
        · obtain ⟨ad, x, rfl, hx, hc⟩ := int_at HC1.out k (by omega)
          have HT := Lib.hid (show oddL (l.take (k + 1)) = (oddL (l.take k) || !rightB x) by rw [take_at hx, oddL_snoc])
          have HN := Lib.hid (cnt_take l k x hx)
          have hcb : cntP (l.take k) ≤ k := Nat.le_trans (List.length_filter_le _ _) (by rw [List.length_take]; omega)
          generalize oddL (l.take k) = o at HT
          generalize cntP (l.take k) = c at HN hcb
          clear hx
          by_cases hx3 : 0 < x
          · have HN2 := Lib.hid (show ((c : Int) + 1) = (cntP (l.take (k + 1)) : Int) by rw [HN.out, if_pos hx3]; omega)
            rcases o with _ | _
            · by_cases hx2 : x > 1099511627776
              · have HT2 := Lib.hid (show true = oddL (l.take (k + 1)) by rw [HT.out]; simp [rightB]; omega)
                clear HT HN
                go_wp2
                go_round
                case rel => exact ⟨k + 1, by omega, by go_num, by rw [HN2.out], (by rw [← HT2.out]; try (simp; omega))⟩
                case measure => simp [intOf]; omega
              · have HT2 := Lib.hid (show false = oddL (l.take (k + 1)) by rw [HT.out]; simp [rightB]; omega)
                clear HT HN
                go_wp2
                go_round
                case rel => exact ⟨k + 1, by omega, by go_num, by rw [HN2.out], (by rw [← HT2.out]; try (simp; omega))⟩
                case measure => simp [intOf]; omega
            · have HT2 := Lib.hid (show true = oddL (l.take (k + 1)) by rw [HT.out]; rfl)
              clear HT HN
              go_wp2
              go_round
              case rel => exact ⟨k + 1, by omega, by go_num, by rw [HN2.out], (by rw [← HT2.out]; try (simp; omega))⟩
              case measure => simp [intOf]; omega
          · have HN2 := Lib.hid (show (c : Int) = (cntP (l.take (k + 1)) : Int) by rw [HN.out, if_neg hx3]; omega)
            rcases o with _ | _
            · by_cases hx2 : x < 0
              · have HT2 := Lib.hid (show true = oddL (l.take (k + 1)) by rw [HT.out]; simp [rightB]; omega)
                clear HT HN
                go_wp2
                go_round
                case rel => exact ⟨k + 1, by omega, by go_num, by rw [HN2.out], (by rw [← HT2.out]; try (simp; omega))⟩
                case measure => simp [intOf]; omega
              · have HT2 := Lib.hid (show false = oddL (l.take (k + 1)) by rw [HT.out]; simp [rightB]; omega)
                clear HT HN
                go_wp2
                go_round
                case rel => exact ⟨k + 1, by omega, by go_num, by rw [HN2.out], (by rw [← HT2.out]; try (simp; omega))⟩
                case measure => simp [intOf]; omega
            · have HT2 := Lib.hid (show true = oddL (l.take (k + 1)) by rw [HT.out]; rfl)
              clear HT HN
              go_wp2
              go_round
              case rel => exact ⟨k + 1, by omega, by go_num, by rw [HN2.out], (by rw [← HT2.out]; try (simp; omega))⟩
              case measure => simp [intOf]; omega
        · have hd : l.take k = l := List.take_of_length_le (by omega)
          rw [hd]
          have hcb : cntP l ≤ 100 := Nat.le_trans (List.length_filter_le _ _) (by omega)
          have hq1 := HQ1.out
          generalize oddL l = o at hq1 ⊢
          generalize cntP l = c at hq1 hcb ⊢
          clear hd
          rcases o with _ | _
          · by_cases hca : (c : Int) ≤ a3
            · have hist : is = true := by rw [hq1]; simp [hca]
              subst hist
              obtain ⟨g1, g2, g3, g4⟩ := HQ3.out rfl
              have HR1 := rounds_any a2 cap2 l q w1 ⟨by omega, by omega⟩ HC1.out (by omega)
              have HR2 := Lib.hid (rounds_any a2 cap2 l (q - 1) w1 ⟨by omega, by omega⟩ HC1.out (by omega))
              have g31 : (roundsF l q).2 = true ∧ (roundsF l q).1 ≤ a3 := by simpa [fewB] using g3
              obtain ⟨g32, g33⟩ := g31
              rw [g32] at HR1
              generalize (roundsF l q).1 = r1 at HR1 g33
              have HR1 := Lib.hid HR1
              clear g32 g3 hq1
              go_wp2_with fail
              refine HR1.out.mono ?_
              rintro e w' ⟨rfl, rfl⟩
              go_wp2_with fail
              refine HR2.out.mono ?_
              rintro e w' ⟨rfl, rfl⟩
              rcases g4 with g4 | g4
              · generalize roundsF l (q - 1) = ss
                go_wp2
                go_ret
                exact ⟨rfl, HB1.out⟩
              · rcases hs : (roundsF l (q - 1)).2 with _ | _
                · generalize (roundsF l (q - 1)).1 = s1
                  clear g4 hs
                  by_cases hq1 : q = 1
                  · go_wp2
                    go_ret
                    exact ⟨rfl, HB1.out⟩
                  · go_wp2
                    go_ret
                    exact ⟨rfl, HB1.out⟩
                · have g5 : a3 < (roundsF l (q - 1)).1 := by simpa [fewB, hs] using g4
                  generalize (roundsF l (q - 1)).1 = s1 at g5
                  clear g4 hs
                  by_cases hq1 : q = 1
                  · go_wp2
                    go_ret
                    exact ⟨rfl, HB1.out⟩
                  · go_wp2
                    go_ret
                    exact ⟨rfl, HB1.out⟩
            · have hist : is = false := by rw [hq1]; simp; omega
              subst hist
              obtain rfl := HQ2.out rfl
              clear hq1
              go_wp2
              go_ret
              exact ⟨rfl, HB1.out⟩
          · have hist : is = false := by rw [hq1]; rfl
            subst hist
            obtain rfl := HQ2.out rfl
            clear hq1
            go_wp2
            go_ret
            exact ⟨rfl, HB1.out⟩
    | true =>
      obtain ⟨h1, h2, h3, h4⟩ := hn1 rfl
      have HN := Lib.hid (fits_any n a1 a0 w1)
      rw [show decide (roomI n a1 ≤ a0) = true by simp [h3]] at HN
      clear hn0 hn1 h3
      by_cases hlt : n < 1099511627776
      · have HM := Lib.hid (fits_any (n + 1) a1 a0 w1)
        have h5 := h4 hlt
        rw [show decide (roomI (n + 1) a1 ≤ a0) = false by simp; omega] at HM
        clear h4 h5
        go_wp2_with fail
        refine HO.out.mono ?_
        rintro e w' ⟨rfl, rfl⟩
        go_wp2_with fail
        refine HN.out.mono ?_
        rintro e w' ⟨rfl, rfl⟩
        go_wp2_with fail
        refine HM.out.mono ?_
        rintro e w' ⟨rfl, rfl⟩
        go_wp2_with fail
        refine (least_any a2 cap2 l a3 w1 HC1.out (by omega)).mono ?_
        rintro e w' ⟨⟨q, is, rfl, hq⟩, rfl⟩
        obtain ⟨hq1, hq2, hq3⟩ := hq
        rw [HFM.out] at hq1
        have HQ1 := Lib.hid hq1
        have HQ2 := Lib.hid hq2
        have HQ3 := Lib.hid hq3
        clear hq1 hq2 hq3
        go_wp2_with fail
        go_loop [82, 13, 14] (fun i sm od => ∃ (k : Nat), k ≤ l.length ∧ i = .int .i64 k ∧ sm = .int .i64 (cntP (l.take k)) ∧ od = .bool (oddL (l.take k))) (fun i _ _ => (l.length - intOf i).toNat)
        case atStart => exact ⟨0, by omega, rfl, rfl, rfl⟩
        case round =>
          obtain ⟨k, hk, rfl, rfl, rfl⟩ := hrel
          by_cases hkl : k < l.length
          · obtain ⟨ad, x, rfl, hx, hc⟩ := int_at HC1.out k (by omega)
            have HT := Lib.hid (show oddL (l.take (k + 1)) = (oddL (l.take k) || !rightB x) by rw [take_at hx, oddL_snoc])
            have HN := Lib.hid (cnt_take l k x hx)
            have hcb : cntP (l.take k) ≤ k := Nat.le_trans (List.length_filter_le _ _) (by rw [List.length_take]; omega)
            generalize oddL (l.take k) = o at HT
            generalize cntP (l.take k) = c at HN hcb
            clear hx
            by_cases hx3 : 0 < x
            · have HN2 := Lib.hid (show ((c : Int) + 1) = (cntP (l.take (k + 1)) : Int) by rw [HN.out, if_pos hx3]; omega)
              rcases o with _ | _
              · by_cases hx2 : x > 1099511627776
                · have HT2 := Lib.hid (show true = oddL (l.take (k + 1)) by rw [HT.out]; simp [rightB]; omega)
                  clear HT HN
                  go_wp2
                  go_round
                  case rel => exact ⟨k + 1, by omega, by go_num, by rw [HN2.out], (by rw [← HT2.out]; try (simp; omega))⟩
                  case measure => simp [intOf]; omega
                · have HT2 := Lib.hid (show false = oddL (l.take (k + 1)) by rw [HT.out]; simp [rightB]; omega)
                  clear HT HN
                  go_wp2
                  go_round
                  case rel => exact ⟨k + 1, by omega, by go_num, by rw [HN2.out], (by rw [← HT2.out]; try (simp; omega))⟩
                  case measure => simp [intOf]; omega
              · have HT2 := Lib.hid (show true = oddL (l.take (k + 1)) by rw [HT.out]; rfl)
                clear HT HN
                go_wp2
                go_round
                case rel => exact ⟨k + 1, by omega, by go_num, by rw [HN2.out], (by rw [← HT2.out]; try (simp; omega))⟩
                case measure => simp [intOf]; omega
            · have HN2 := Lib.hid (show (c : Int) = (cntP (l.take (k + 1)) : Int) by rw [HN.out, if_neg hx3]; omega)
              rcases o with _ | _
              · by_cases hx2 : x < 0
                · have HT2 := Lib.hid (show true = oddL (l.take (k + 1)) by rw [HT.out]; simp [rightB]; omega)
                  clear HT HN
                  go_wp2
                  go_round
                  case rel => exact ⟨k + 1, by omega, by go_num, by rw [HN2.out], (by rw [← HT2.out]; try (simp; omega))⟩
                  case measure => simp [intOf]; omega
                · have HT2 := Lib.hid (show false = oddL (l.take (k + 1)) by rw [HT.out]; simp [rightB]; omega)
                  clear HT HN
                  go_wp2
                  go_round
                  case rel => exact ⟨k + 1, by omega, by go_num, by rw [HN2.out], (by rw [← HT2.out]; try (simp; omega))⟩
                  case measure => simp [intOf]; omega
              · have HT2 := Lib.hid (show true = oddL (l.take (k + 1)) by rw [HT.out]; rfl)
                clear HT HN
                go_wp2
                go_round
                case rel => exact ⟨k + 1, by omega, by go_num, by rw [HN2.out], (by rw [← HT2.out]; try (simp; omega))⟩
                case measure => simp [intOf]; omega
          · have hd : l.take k = l := List.take_of_length_le (by omega)
            rw [hd]
            have hcb : cntP l ≤ 100 := Nat.le_trans (List.length_filter_le _ _) (by omega)
            have hq1 := HQ1.out
            generalize oddL l = o at hq1 ⊢
            generalize cntP l = c at hq1 hcb ⊢
            clear hd
            rcases o with _ | _
            · by_cases hca : (c : Int) ≤ a3
              · have hist : is = true := by rw [hq1]; simp [hca]
                subst hist
                obtain ⟨g1, g2, g3, g4⟩ := HQ3.out rfl
                have HR1 := rounds_any a2 cap2 l q w1 ⟨by omega, by omega⟩ HC1.out (by omega)
                have HR2 := Lib.hid (rounds_any a2 cap2 l (q - 1) w1 ⟨by omega, by omega⟩ HC1.out (by omega))
                have g31 : (roundsF l q).2 = true ∧ (roundsF l q).1 ≤ a3 := by simpa [fewB] using g3
                obtain ⟨g32, g33⟩ := g31
                rw [g32] at HR1
                generalize (roundsF l q).1 = r1 at HR1 g33
                have HR1 := Lib.hid HR1
                clear g32 g3 hq1
                go_wp2_with fail
                refine HR1.out.mono ?_
                rintro e w' ⟨rfl, rfl⟩
                go_wp2_with fail
                refine HR2.out.mono ?_
                rintro e w' ⟨rfl, rfl⟩
                rcases g4 with g4 | g4
                · generalize roundsF l (q - 1) = ss
                  go_wp2
                  go_ret
                  exact ⟨rfl, HB1.out⟩
                · rcases hs : (roundsF l (q - 1)).2 with _ | _
                  · generalize (roundsF l (q - 1)).1 = s1
                    clear g4 hs
                    by_cases hq1 : q = 1
                    · go_wp2
                      go_ret
                      exact ⟨rfl, HB1.out⟩
                    · go_wp2
                      go_ret
                      exact ⟨rfl, HB1.out⟩
                  · have g5 : a3 < (roundsF l (q - 1)).1 := by simpa [fewB, hs] using g4
                    generalize (roundsF l (q - 1)).1 = s1 at g5
                    clear g4 hs
                    by_cases hq1 : q = 1
                    · go_wp2
                      go_ret
                      exact ⟨rfl, HB1.out⟩
                    · go_wp2
                      go_ret
                      exact ⟨rfl, HB1.out⟩
              · have hist : is = false := by rw [hq1]; simp; omega
                subst hist
                obtain rfl := HQ2.out rfl
                clear hq1
                go_wp2
                go_ret
                exact ⟨rfl, HB1.out⟩
            · have hist : is = false := by rw [hq1]; rfl
              subst hist
              obtain rfl := HQ2.out rfl
              clear hq1
              go_wp2
              go_ret
              exact ⟨rfl, HB1.out⟩
      · clear h4
        go_wp2_with fail
        refine HO.out.mono ?_
        rintro e w' ⟨rfl, rfl⟩
        go_wp2_with fail
        refine HN.out.mono ?_
        rintro e w' ⟨rfl, rfl⟩
        go_wp2_with fail
        refine (least_any a2 cap2 l a3 w1 HC1.out (by omega)).mono ?_
        rintro e w' ⟨⟨q, is, rfl, hq⟩, rfl⟩
        obtain ⟨hq1, hq2, hq3⟩ := hq
        rw [HFM.out] at hq1
        have HQ1 := Lib.hid hq1
        have HQ2 := Lib.hid hq2
        have HQ3 := Lib.hid hq3
        clear hq1 hq2 hq3
        go_wp2_with fail
        go_loop [82, 13, 14] (fun i sm od => ∃ (k : Nat), k ≤ l.length ∧ i = .int .i64 k ∧ sm = .int .i64 (cntP (l.take k)) ∧ od = .bool (oddL (l.take k))) (fun i _ _ => (l.length - intOf i).toNat)
        case atStart => exact ⟨0, by omega, rfl, rfl, rfl⟩
        case round =>
          obtain ⟨k, hk, rfl, rfl, rfl⟩ := hrel
          by_cases hkl : k < l.length
          · obtain ⟨ad, x, rfl, hx, hc⟩ := int_at HC1.out k (by omega)
            have HT := Lib.hid (show oddL (l.take (k + 1)) = (oddL (l.take k) || !rightB x) by rw [take_at hx, oddL_snoc])
            have HN := Lib.hid (cnt_take l k x hx)
            have hcb : cntP (l.take k) ≤ k := Nat.le_trans (List.length_filter_le _ _) (by rw [List.length_take]; omega)
            generalize oddL (l.take k) = o at HT
            generalize cntP (l.take k) = c at HN hcb
            clear hx
            by_cases hx3 : 0 < x
            · have HN2 := Lib.hid (show ((c : Int) + 1) = (cntP (l.take (k + 1)) : Int) by rw [HN.out, if_pos hx3]; omega)
              rcases o with _ | _
              · by_cases hx2 : x > 1099511627776
                · have HT2 := Lib.hid (show true = oddL (l.take (k + 1)) by rw [HT.out]; simp [rightB]; omega)
                  clear HT HN
                  go_wp2
                  go_round
                  case rel => exact ⟨k + 1, by omega, by go_num, by rw [HN2.out], (by rw [← HT2.out]; try (simp; omega))⟩
                  case measure => simp [intOf]; omega
                · have HT2 := Lib.hid (show false = oddL (l.take (k + 1)) by rw [HT.out]; simp [rightB]; omega)
                  clear HT HN
                  go_wp2
                  go_round
                  case rel => exact ⟨k + 1, by omega, by go_num, by rw [HN2.out], (by rw [← HT2.out]; try (simp; omega))⟩
                  case measure => simp [intOf]; omega
              · have HT2 := Lib.hid (show true = oddL (l.take (k + 1)) by rw [HT.out]; rfl)
                clear HT HN
                go_wp2
                go_round
                case rel => exact ⟨k + 1, by omega, by go_num, by rw [HN2.out], (by rw [← HT2.out]; try (simp; omega))⟩
                case measure => simp [intOf]; omega
            · have HN2 := Lib.hid (show (c : Int) = (cntP (l.take (k + 1)) : Int) by rw [HN.out, if_neg hx3]; omega)
              rcases o with _ | _
              · by_cases hx2 : x < 0
                · have HT2 := Lib.hid (show true = oddL (l.take (k + 1)) by rw [HT.out]; simp [rightB]; omega)
                  clear HT HN
                  go_wp2
                  go_round
                  case rel => exact ⟨k + 1, by omega, by go_num, by rw [HN2.out], (by rw [← HT2.out]; try (simp; omega))⟩
                  case measure => simp [intOf]; omega
                · have HT2 := Lib.hid (show false = oddL (l.take (k + 1)) by rw [HT.out]; simp [rightB]; omega)
                  clear HT HN
                  go_wp2
                  go_round
                  case rel => exact ⟨k + 1, by omega, by go_num, by rw [HN2.out], (by rw [← HT2.out]; try (simp; omega))⟩
                  case measure => simp [intOf]; omega
              · have HT2 := Lib.hid (show true = oddL (l.take (k + 1)) by rw [HT.out]; rfl)
                clear HT HN
                go_wp2
                go_round
                case rel => exact ⟨k + 1, by omega, by go_num, by rw [HN2.out], (by rw [← HT2.out]; try (simp; omega))⟩
                case measure => simp [intOf]; omega
          · have hd : l.take k = l := List.take_of_length_le (by omega)
            rw [hd]
            have hcb : cntP l ≤ 100 := Nat.le_trans (List.length_filter_le _ _) (by omega)
            have hq1 := HQ1.out
            generalize oddL l = o at hq1 ⊢
            generalize cntP l = c at hq1 hcb ⊢
            clear hd
            rcases o with _ | _
            · by_cases hca : (c : Int) ≤ a3
              · have hist : is = true := by rw [hq1]; simp [hca]
                subst hist
                obtain ⟨g1, g2, g3, g4⟩ := HQ3.out rfl
                have HR1 := rounds_any a2 cap2 l q w1 ⟨by omega, by omega⟩ HC1.out (by omega)
                have HR2 := Lib.hid (rounds_any a2 cap2 l (q - 1) w1 ⟨by omega, by omega⟩ HC1.out (by omega))
                have g31 : (roundsF l q).2 = true ∧ (roundsF l q).1 ≤ a3 := by simpa [fewB] using g3
                obtain ⟨g32, g33⟩ := g31
                rw [g32] at HR1
                generalize (roundsF l q).1 = r1 at HR1 g33
                have HR1 := Lib.hid HR1
                clear g32 g3 hq1
                go_wp2_with fail
                refine HR1.out.mono ?_
                rintro e w' ⟨rfl, rfl⟩
                go_wp2_with fail
                refine HR2.out.mono ?_
                rintro e w' ⟨rfl, rfl⟩
                rcases g4 with g4 | g4
                · generalize roundsF l (q - 1) = ss
                  go_wp2
                  go_ret
                  exact ⟨rfl, HB1.out⟩
                · rcases hs : (roundsF l (q - 1)).2 with _ | _
                  · generalize (roundsF l (q - 1)).1 = s1
                    clear g4 hs
                    by_cases hq1 : q = 1
                    · go_wp2
                      go_ret
                      exact ⟨rfl, HB1.out⟩
                    · go_wp2
                      go_ret
                      exact ⟨rfl, HB1.out⟩
                  · have g5 : a3 < (roundsF l (q - 1)).1 := by simpa [fewB, hs] using g4
                    generalize (roundsF l (q - 1)).1 = s1 at g5
                    clear g4 hs
                    by_cases hq1 : q = 1
                    · go_wp2
                      go_ret
                      exact ⟨rfl, HB1.out⟩
                    · go_wp2
                      go_ret
                      exact ⟨rfl, HB1.out⟩
              · have hist : is = false := by rw [hq1]; simp; omega
                subst hist
                obtain rfl := HQ2.out rfl
                clear hq1
                go_wp2
                go_ret
                exact ⟨rfl, HB1.out⟩
            · have hist : is = false := by rw [hq1]; rfl
              subst hist
              obtain rfl := HQ2.out rfl
              clear hq1
              go_wp2
              go_ret
              exact ⟨rfl, HB1.out⟩

/-! ### THE ROW's STEP: WRITTEN OUT: LEAVE IT -/
set_option maxRecDepth 100000 in
theorem lifted (os : Os) (started : os.Started) (H : Type) (enc : TypeId × Value → H) :
    ReturnsInHanded {} Try.checked os 6 .any (Rows.limitWidestSpec.pre6 enc Try.prog Try.f6 Rows.limitWidestRow.domain false) (Rows.limitWidestSpec.post enc Try.prog Try.f6 false true false false) := by
  refine returnsInHanded_of_change (C := Try.checked) own started (by kernel_rfl) Try.func6
    (ChangeSpec.witness6 (enc := enc) (C := Try.checked) false ⟨#[], #[.int .i64 0, .int .i64 0, .slice none 0 0, .int .i64 0], []⟩ 8 (by kernel_rfl) (by kernel_rfl) (by kernel_rfl) (by kernel_rfl)) ?_
  intro W base args ds gs before hval0 hW hcnd _
  have hval : ∀ (j : Nat) t v, Try.f6.params[j]? = some t → args[j]? = some v → Value.okWide Try.prog W .any base t v := hval0
  have hW' := hW
  obtain ⟨p, q, hA0, hV, rfl, hfz, hnd⟩ := hW
  have hA : DataW.TrodAll enc Try.prog W 0 (fun _ => true) true Try.f6.params.toList args.toList ds p := hA0
  rw [Try.params6] at hA hval
  obtain ⟨v0, vs0, d0, ds0, p0, q0, hargs, rfl, rfl, h0, r0⟩ := trodAll_cons hA
  obtain ⟨v1, vs1, d1, ds1, p1, q1, rfl, rfl, rfl, h1, r1⟩ := trodAll_cons r0
  obtain ⟨v2, vs2, d2, ds2, p2, q2, rfl, rfl, rfl, h2, r2⟩ := trodAll_cons r1
  obtain ⟨v3, vs3, d3, ds3, p3, q3, rfl, rfl, rfl, h3, r3⟩ := trodAll_cons r2
  obtain ⟨rfl, rfl, rfl⟩ := trodAll_nil r3
  obtain rfl : args = #[v0, v1, v2, v3] := by cases args; simp_all
  obtain ⟨rfl, rfl⟩ := trodVars_none hV
  obtain ⟨a0, rfl, rfl, rfl, w0⟩ := open_int Try.underlying2 (hval 0 2 v0 rfl rfl) h0
  obtain ⟨a1, rfl, rfl, rfl, w1⟩ := open_int Try.underlying3 (hval 1 3 v1 rfl rfl) h1
  obtain ⟨a2, len2, cap2, rfl⟩ := okWide_slice Try.underlying22 (hval 2 22 v2 rfl rfl)
  have k2 := h2
  have lt2 : ∀ x ∈ p2, x.block < W.heap.size := by obtain ⟨m, hm⟩ := k2; exact DataW.trod_lt m _ _ _ hm
  obtain ⟨z2, w2⟩ : ∃ zs, IsRow .i64 W a2 len2 cap2 zs := by
    obtain ⟨fuel, hf⟩ := h2
    rcases open_ints Try.underlying22 Try.underlying2 (by kernel_rfl) hf with ⟨hcs, _⟩ | ⟨x, l, c, zs, hcs, _, hl, hm, hz, _, hcell, hwz⟩
    · simp [Value.cells] at hcs
      obtain ⟨rfl, rfl, rfl⟩ := hcs
      exact ⟨[], .inl ⟨rfl, rfl, rfl, rfl⟩⟩
    · simp [Value.cells] at hcs
      obtain ⟨rfl, rfl, rfl⟩ := hcs
      exact ⟨zs, .inr ⟨_, rfl, hl, hm, by simpa using hz, hcell, hwz⟩⟩
  obtain ⟨a3, rfl, rfl, rfl, w3⟩ := open_int Try.underlying2 (hval 3 2 v3 rfl rfl) h3
  clear hA0 hval0
  refine (walk a0 a1 a2 len2 cap2 z2 a3 W w0 w1 w2 w3).mono fun e W' ⟨he, bel⟩ => ?_
  subst he
  exact ⟨_, rfl, _, _, _, [], _, [], hW', trodAll_mk1 (shut_bool Try.underlying4 _), (trodAll_cons_mk (shut_int Try.underlying2 w0) (trodAll_cons_mk (shut_int Try.underlying3 w1) (trodAll_cons_mk (Below.trod laidOut (by kernel_rfl) (of_decide_eq_true (by kernel_rfl)) k2 bel lt2) (trodAll_cons_mk (shut_int Try.underlying2 w3) trodAll_mk0)))), rfl, bel.frame _, fun h => by cases h⟩

theorem over : Rows.limitWidestRow.holds Try.pinned (OpenSpec.ofChange Rows.limitWidestSpec) :=
  OpenClaim.holds_of_wide 6 Try.f6 rfl rfl rfl rfl rfl rfl rfl ⟨rfl, rfl, rfl, rfl, rfl⟩ rfl rfl rfl rfl rfl (by kernel_rfl) Try.func6 (by kernel_rfl)
    (of_decide_eq_true (by kernel_rfl)) (by unfold Func.isWrapper; first | (rw [if_pos (by decide +kernel)]; kernel_rfl) | (rw [if_neg (by decide +kernel)]; exact ⟨rfl, rfl⟩))
    (fun os started H enc _ => lifted os started H enc)

/-- ████ THE STATEMENT ████ -/
theorem proved : Rows.LimitWidestSaid := over
#print axioms proved
end Go.Proofs.Ytnaoemcekggloaa.limitWidest
