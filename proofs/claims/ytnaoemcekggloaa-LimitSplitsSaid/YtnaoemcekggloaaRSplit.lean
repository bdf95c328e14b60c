/- The document's atoms of the reserve bidders, and its reserves of a set. -/
import Derived.Test.YtnaoemcekggloaaRefSets
import Derived.Deep.RegionHeldLaw
namespace Go.Proofs.Ytnaoemcekggloaa
open Go.RowKit Go.Shelf Go.Proofs.YtnaoemcekggloaaW.PrintWords Go.Proofs.YtnaoemcekggloaaW.PrintLast Go.Proofs.YtnaoemcekggloaaW.PrintMore It
attribute [local go_sem ↓] Go.wp_at_zero Go.wp_at_succ

theorem item_pow (k : Nat) (n : Int) (h : k < 64) : itemAt ((k : Int), n) = (2 ^ k, n) := by
  have h1 : itemB (k : Int) = true := by simp [itemB]; omega
  show (addItem 0 (k : Int), n) = _
  rw [addItem, if_pos h1, Nat.zero_or, Int.toNat_natCast]

theorem R_empty (w : World) : Kd.R kdAt 45 (w.alloc (.cells #[] 45)) w.heap.size (fun k => w.heap.size ≤ k) (.slice (some ⟨w.heap.size, 0, none⟩) 0 0) [] := by
  refine ⟨fun k hk => ?_, [], ⟨?_, .inr ⟨w.heap.size, 0, #[], rfl, Nat.le_refl _, World.alloc_heap_new _ _, ?_⟩⟩, Reps.none _ _⟩
  · have : w.heap.size = k := by simpa [Value.ownBlock] using hk
    omega
  · simp
  · exact ⟨by simp, by decide, by simp, by simp⟩

set_option maxHeartbeats 4000000 in
set_option maxRecDepth 20000 in
theorem refsplit_any (A : Option Addr) (c : Nat) (l : List Int) (w : World) (hr : Kd.C (Kd.int .i64) w A l.length l) (hb : l.length ≤ 140737488355328) :
    Calls Try.prog 17 #[.slice A l.length c] w fun e w' => ∃ v, e = .returned v ∧ Kd.R kdAt 45 w' w.heap.size (fun k => w.heap.size ≤ k) v ((resv l).map itemAt) ∧ Below w.heap.size w w' := by
  have HR := Lib.hid hr
  clear hr
  obtain ⟨m, hm1, hm2, hm3⟩ : ∃ m : Nat, m ≤ 64 ∧ m ≤ l.length ∧ (l.length ≤ m ∨ 64 ≤ m) := ⟨min l.length 64, by omega, by omega, by omega⟩
  have HM3 := Lib.hid hm3
  have HL := Lib.hid (show (l.take 64).length = m by rw [List.length_take]; omega)
  have H0 := Lib.hid (show (resv l).map itemAt = [] ++ (resFrom 0 ((l.take 64).drop 0)).map itemAt from rfl)
  clear hm3
  go_enter Try.func17, Try.ntmps17
  go_wp2
  go_loopw [4, 3] (fun i ov wr => ∃ (k : Nat) (out : List (Nat × Int)), k ≤ m ∧ i = .int .i64 k ∧ out.length ≤ k ∧ Hid ((resv l).map itemAt = out ++ (resFrom k ((l.take 64).drop k)).map itemAt) ∧ Hid (Kd.R kdAt 45 wr w.heap.size (fun k => w.heap.size ≤ k) ov out) ∧ Hid (Below w.heap.size w wr)) (fun i _ _ => m - (intOf i).toNat)
  case atStart => exact ⟨0, [], by omega, rfl, by simp, H0, Lib.hid (R_empty w), Lib.hid ((Below.refl _ _).alloc (Nat.le_refl _) _)⟩
  case round =>
    obtain ⟨k, out, hk, rfl, hol, HE, HRo, HB⟩ := hrel
    clear H0
    obtain ⟨A2, c2, rfl, hl2, hC2⟩ := Kd.R_reads HRo.out
    clear hC2
    by_cases hlt : k < m
    · obtain ⟨ad, x, rfl, hx, hc0⟩ := int_at HR.out k (by omega)
      have SK := Lib.hid (show ∀ w', Below w.heap.size w w' → w'.cell? (ad.add k) = some (.int .i64 x) from fun w' hb => (hb.cell (cell_lt hc0)).trans hc0)
      have hc := SK.out _ HB.out
      have hx2 : (l.take 64)[k]? = some x := by rw [List.getElem?_take, if_pos (by omega)]; exact hx
      have hd := drop_at hx2
      have HE2 := HE.out
      rw [hd] at HE2
      have hkl : k < l.length := by omega
      have hk64 : k < 64 := by omega
      clear hx hx2 hd HE hc0
      by_cases hx1 : 1 ≤ x
      · by_cases hx3 : x ≤ 1099511627776
        · rw [resFrom_cons_yes ⟨hx1, hx3⟩, List.map_cons, item_pow k x hk64, List.append_cons] at HE2
          have HE := Lib.hid HE2
          clear HE2
          have HRd := Lib.hid (Kd.R_below HRo.out (below_drew _ wr))
          have HBd := Lib.hid (HB.out.trans (below_drew _ wr))
          have hs1 := HB.out.size
          go_wp2
          go_region_held_law (fun w' => w'.cell? (ad.add k) = some (.int .i64 x))
            (first | exact SK.out _ hb5 | go_keep)
            ((first
              | (go_at_call 36; (with_reducible refine (refone_any k _ (by omega)).mono ?_); rintro e w' ⟨rfl, rfl⟩)
              | ((refine Kd.R_append_step kdAt (w0 := w) (W := wr.drew) w.heap.size (by kernel_rfl) _ _ 40 45 (.agg #[.int .u64 0, .int .i64 0]) 16 rfl Try.underlying40 (by kernel_rfl) rfl (by decide) (by decide) (.slice A2 out.length c2) out (2 ^ k, x) [.int .u64 ((2 ^ k : Nat) : Int), .int .i64 x] (fun k => w.heap.size ≤ k) (fun _ => False) rfl rfl ⟨[_], [_], rfl, rfl, rfl⟩ (fun _ h => h.elim) (fun k hk => Nat.le_trans hs1 hk) HRd.out HBd.out hs1 (by omega) ?_); intro v1 w3 hR1 hb5 hg1 hat1)))
          go_wp2
          go_roundw
          case rel => exact ⟨k + 1, out ++ [(2 ^ k, x)], by omega, by go_num, by simp; omega, HE, Lib.hid hR1, Lib.hid hb5⟩
          case measure => simp [intOf]; omega
        · rw [resFrom_cons_no (by omega)] at HE2
          have HE := Lib.hid HE2
          clear HE2
          go_wp2
          go_roundw
          case rel => exact ⟨k + 1, out, by omega, by go_num, by omega, HE, HRo, HB⟩
          case measure => simp [intOf]; omega
      · rw [resFrom_cons_no (by omega)] at HE2
        have HE := Lib.hid HE2
        clear HE2
        go_wp2
        go_roundw
        case rel => exact ⟨k + 1, out, by omega, by go_num, by omega, HE, HRo, HB⟩
        case measure => simp [intOf]; omega
    · have hd : (l.take 64).drop k = [] := List.drop_eq_nil_of_le (by have := HL.out; omega)
      have HE2 := HE.out
      rw [hd, resFrom, List.map_nil, List.append_nil] at HE2
      have HE := Lib.hid HE2
      have hkl : ¬ (k < l.length ∧ k < 64) := by have := HM3.out; omega
      clear hd HE2
      by_cases hk2 : k < l.length
      · have hk64 : ¬ k < 64 := fun h => hkl ⟨hk2, h⟩
        go_wp2
        go_ret
        exact ⟨_, rfl, by rw [HE.out]; exact HRo.out, HB.out⟩
      · go_wp2
        go_ret
        exact ⟨_, rfl, by rw [HE.out]; exact HRo.out, HB.out⟩

theorem wth_pow (i s : Nat) (hi : i < 64) (hs : s < 18446744073709551616) : wthB (2 ^ i) s = hasB s i := by
  have hp : 2 ^ i < 18446744073709551616 := by
    have : (2 : Nat) ^ i < 2 ^ 64 := Nat.pow_lt_pow_right (by omega) hi
    exact this
  have hB : ∀ (s i : Nat), i < 64 → hasB s i = Nat.testBit s i := fun s i hi => by
    have : itemB i = true := by simp [itemB]; omega
    rw [hasB, this, Int.toNat_natCast, Bool.true_and]
  rw [Bool.eq_iff_iff, wth_iff _ _ hp hs]
  constructor
  · intro h
    exact h i hi (by rw [hB _ _ hi, Nat.testBit_two_pow_self])
  · intro h j hj hb
    rw [hB _ _ hj, Nat.testBit_two_pow] at hb
    have : i = j := by simpa using hb
    subst this
    exact h

def refStep (s : Nat) (o : Int) (a : Nat × Int) : Int := if wthB a.1 s = true then o + a.2 else o
theorem kept_ref (s : Nat) (hs : s < 18446744073709551616) : ∀ (xs : List (Int × Int)) (o : Int), (∀ x ∈ xs, 0 ≤ x.1 ∧ x.1 < 64) → xs.foldl (keptStep s) o = (xs.map itemAt).foldl (refStep s) o
  | [], o, _ => rfl
  | (i, n) :: xs, o, h => by
    obtain ⟨h1, h2⟩ := h (i, n) List.mem_cons_self
    dsimp only at h1 h2
    obtain ⟨k, rfl⟩ : ∃ k : Nat, i = (k : Int) := ⟨i.toNat, by omega⟩
    have e : refStep s o (itemAt ((k : Int), n)) = keptStep s o ((k : Int), n) := by
      rw [item_pow k n (by omega), refStep, keptStep, wth_pow k s (by omega) hs]
    rw [List.map_cons, List.foldl_cons, List.foldl_cons, e]
    exact kept_ref s hs xs _ (fun x hx => h x (List.mem_cons_of_mem _ hx))

theorem refStep_bd (s : Nat) : ∀ (xs : List (Nat × Int)) (o : Int), (∀ x ∈ xs, 1 ≤ x.2 ∧ x.2 ≤ 1099511627776) → o ≤ xs.foldl (refStep s) o ∧ xs.foldl (refStep s) o ≤ o + xs.length * 1099511627776
  | [], o, _ => by simp
  | x :: xs, o, h => by
    have h1 := refStep_bd s xs (refStep s o x) (fun y hy => h y (List.mem_cons_of_mem _ hy))
    have h2 := h x List.mem_cons_self
    have h3 : o ≤ refStep s o x ∧ refStep s o x ≤ o + 1099511627776 := by unfold refStep; split <;> omega
    simp only [List.foldl_cons, List.length_cons]
    omega

set_option maxHeartbeats 4000000 in
theorem refkept_any (A : Option Addr) (c : Nat) (l : List Int) (s : Nat) (w : World) (hs : s < 18446744073709551616) (hr : Kd.C (Kd.int .i64) w A l.length l) (hb : l.length ≤ 140737488355328) :
    Calls Try.prog 20 #[.slice A l.length c, .int .u64 s] w fun e w' => e = .returned (.int .i64 (keptF l s)) ∧ Below w.heap.size w w' := by
  have HSP := Lib.hid (refsplit_any A c l w hr hb)
  have hk : keptF l s = ((resv l).map itemAt).foldl (refStep s) 0 := kept_ref s hs _ 0 (fun x hx => ⟨(resv_bd l x hx).1, (resv_bd l x hx).2.1⟩)
  have hbd : ∀ x ∈ (resv l).map itemAt, x.1 < 18446744073709551616 ∧ 1 ≤ x.2 ∧ x.2 ≤ 1099511627776 := fun x hx => by
    obtain ⟨y, hy, rfl⟩ := List.mem_map.1 hx
    have := resv_bd l y hy
    exact ⟨(item_bd y ⟨this.1, this.2.1, this.2.2⟩).1, this.2.2⟩
  have hlen : ((resv l).map itemAt).length ≤ 64 := by rw [List.length_map]; exact resv_len l
  rw [hk]
  generalize (resv l).map itemAt = ys at *
  have HBD := Lib.hid hbd
  clear hr hk hbd
  go_enter Try.func20, Try.ntmps20
  go_wp2_with fail
  refine HSP.out.mono ?_
  rintro e w1 ⟨v, rfl, hR, hb1⟩
  obtain ⟨A1, c1, rfl, hl1, hC⟩ := Kd.R_reads hR
  have HC := Lib.hid hC
  have HB1 := Lib.hid hb1
  have H0 := Lib.hid (show ys.foldl (refStep s) 0 = (ys.drop 0).foldl (refStep s) 0 from rfl)
  clear hR hC hb1
  go_wp2
  go_loop [6, 7] (fun o i => ∃ (k : Nat) (q : Int), k ≤ ys.length ∧ i = .int .i64 k ∧ o = .int .i64 q ∧ 0 ≤ q ∧ q ≤ k * 1099511627776 ∧ Hid (ys.foldl (refStep s) 0 = (ys.drop k).foldl (refStep s) q)) (fun _ i => (ys.length - intOf i).toNat)
  case atStart => exact ⟨0, 0, by omega, rfl, rfl, by omega, by omega, H0⟩
  case round =>
    obtain ⟨k, q, hk, rfl, rfl, hq1, hq2, HE⟩ := hrel
    clear H0
    by_cases hlt : k < ys.length
    · obtain ⟨ad, ⟨x1, x2⟩, rfl, hx, hc1, hc2⟩ := at_at HC.out k (by omega)
      have hxb := HBD.out (x1, x2) (List.mem_of_getElem? hx)
      obtain ⟨hx1, hx2, hx3⟩ := hxb
      have hd := drop_at hx
      have HE2 := HE.out
      rw [hd, List.foldl_cons] at HE2
      clear hx hd HE
      dsimp only at hx1 hx2 hx3
      rcases hw : wthB x1 s with _ | _
      · rw [show refStep s q (x1, x2) = q by simp [refStep, hw]] at HE2
        have HW := Lib.hid hw
        have HE := Lib.hid HE2
        clear hw HE2
        go_wp2_with (go_at_call 37; refine (refwth_any x1 s _ hx1 hs).mono ?_; rintro e w' ⟨rfl, rfl⟩; rw [HW.out])
        go_round
        case rel => exact ⟨k + 1, q, by omega, by go_num, rfl, by omega, by omega, HE⟩
        case measure => simp [intOf]; omega
      · rw [show refStep s q (x1, x2) = q + x2 by simp [refStep, hw]] at HE2
        have HW := Lib.hid hw
        have HE := Lib.hid HE2
        clear hw HE2
        go_wp2_with (go_at_call 37; refine (refwth_any x1 s _ hx1 hs).mono ?_; rintro e w' ⟨rfl, rfl⟩; rw [HW.out])
        go_round
        case rel => exact ⟨k + 1, q + x2, by omega, by go_num, rfl, by omega, by omega, HE⟩
        case measure => simp [intOf]; omega
    · have hd : ys.drop k = [] := List.drop_eq_nil_of_le (by omega)
      have HE2 := HE.out
      rw [hd, List.foldl_nil] at HE2
      have HE3 := Lib.hid HE2
      clear HE HE2 hd
      go_wp2
      go_ret
      exact ⟨ret_i HE3.out.symm, HB1.out⟩
end Go.Proofs.Ytnaoemcekggloaa
