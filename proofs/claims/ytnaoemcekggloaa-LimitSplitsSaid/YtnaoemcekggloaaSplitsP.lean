/- The statement LimitSplits: the reserve bidders are as said, for every input. -/
import Derived.Test.YtnaoemcekggloaaRows
import Derived.WalkKit
import Derived.ProofKit
import Derived.OpenShut
import Derived.ShutString
import Derived.ChangeOld
import Derived.Below
import Derived.Test.YtnaoemcekggloaaRSplit
import Derived.Deep.RegionHeld3
import Derived.Deep.DrawnRows
namespace Go.Proofs.Ytnaoemcekggloaa.limitSplits
open Go.ChangeShapes Go.WideShapes Go.ChangeAt Go.RowKit
open Go.ChangeMaps (open_string shut_string)
open Go.Proofs.YtnaoemcekggloaaW.PrintWords
set_option linter.unusedVariables false

theorem own : ownKnob Try.prog.godebug = none := by kernel_rfl
theorem laidOut : laidOutB Try.prog = true := by kernel_rfl

/-- WHAT THE WALK IS TOLD OF A SLICE OF INTEGERS THAT CAME IN: it is nil; or it leads to a row of 'cap' cells, the numbers 'zs' (the first 'len' are its elements, the rest its spare room), each fitting its kind. -/
def IsRow (k : IntKind) (w : World) (a : Option Addr) (len cap : Nat) (zs : List Int) : Prop :=
  (a = none ∧ len = 0 ∧ cap = 0 ∧ zs = []) ∨
  ∃ x, a = some x ∧ len ≤ cap ∧ cap ≤ maxLen ∧ zs.length = cap ∧ (∀ i, i < zs.length → w.cell? (x.add i) = some (.int k (zs.getD i 0))) ∧ ∀ n ∈ zs, (Lit.int k n).wf = true

theorem I64_of {n : Int} (h : (Lit.int .i64 n).wf = true) : I64 n := by
  have h1 : IntKind.i64.min ≤ n ∧ n ≤ 9223372036854775807 := by simpa [Lit.wf] using h
  have h2 : IntKind.i64.min = -9223372036854775808 := by decide
  rw [h2] at h1
  exact h1
theorem C_row {w : World} {a : Option Addr} {len cap : Nat} {zs : List Int} (h : IsRow .i64 w a len cap zs) : (zs.take len).length = len ∧ len ≤ maxLen ∧ len ≤ cap ∧ Kd.C (Kd.int .i64) w a len (zs.take len) ∧ ∀ n ∈ zs.take len, I64 n := by
  rcases h with ⟨rfl, rfl, rfl, rfl⟩ | ⟨x, rfl, hlc, hcm, hz, hc, hw⟩
  · exact ⟨rfl, by decide, Nat.le_refl _, C_nil _ _, fun n hn => by cases hn⟩
  · have hl : (zs.take len).length = len := by rw [List.length_take]; omega
    refine ⟨hl, by omega, hlc, ⟨hl, by simp only [maxLen] at hcm; omega, fun _ => ⟨x, rfl, fun j p hj => ⟨[.int .i64 p], rfl, rfl, fun i u hu => ?_⟩⟩⟩, fun n hn => ?_⟩
    · obtain ⟨h1, h2⟩ := List.getElem?_eq_some_iff.1 hu
      simp at h1
      subst h1
      simp at h2
      subst h2
      obtain ⟨h3, h4⟩ := List.getElem?_eq_some_iff.1 hj
      have h5 : j < zs.length := by rw [List.length_take] at h3; omega
      show World.cell? _ (Addr.add _ (j * 1 + 0)) = _
      rw [Nat.mul_one, Nat.add_zero, hc j h5, List.getD_eq_getElem?_getD, List.getElem?_eq_getElem h5]
      rw [List.getElem_take] at h4
      simp [h4]
    · exact I64_of (hw n (List.mem_of_mem_take hn))

theorem U64_of {n : Int} (h : (Lit.int .u64 n).wf = true) : ∃ s : Nat, n = s ∧ s < 18446744073709551616 := by
  have h1 : IntKind.u64.min ≤ n ∧ n ≤ IntKind.u64.max := by simpa [Lit.wf] using h
  have h2 : IntKind.u64.min = 0 := by decide
  have h3 : IntKind.u64.max = 18446744073709551615 := by decide
  rw [h2, h3] at h1
  exact ⟨n.toNat, by omega, by omega⟩
theorem not_nat (s : Nat) (hs : s < 18446744073709551616) : bits .xor .u64 IntKind.u64.max (s : Int) = ((18446744073709551615 - s : Nat) : Int) := by
  have e : IntKind.u64.max = ((18446744073709551615 : Nat) : Int) := by decide
  rw [e, u64_xor_nat _ _ (by omega) hs]
  congr 1
  apply Nat.eq_of_testBit_eq
  intro i
  have h1 := Nat.testBit_two_pow_sub_one 64 i
  rw [show (2 : Nat) ^ 64 - 1 = 18446744073709551615 from rfl] at h1
  have h2 := Nat.testBit_two_pow_sub_succ (n := 64) (x := s) (by omega) i
  rw [show (2 : Nat) ^ 64 - (s + 1) = 18446744073709551615 - s by omega] at h2
  rw [Nat.testBit_xor, h1, h2]
  by_cases hi : i < 64
  · simp [hi]
  · have : Nat.testBit s i = false := Nat.testBit_lt_two_pow (Nat.lt_of_lt_of_le hs (by
      have : 2 ^ 64 ≤ 2 ^ i := Nat.pow_le_pow_right (by omega) (by omega)
      omega))
    simp [hi, this]
theorem kept_two (s : Nat) (hs : s < 18446744073709551616) : ∀ (xs : List (Int × Int)) (o p : Int), (∀ x ∈ xs, 0 ≤ x.1 ∧ x.1 < 64) →
    xs.foldl (keptStep s) o + xs.foldl (keptStep (18446744073709551615 - s)) p = xs.foldl (keptStep 18446744073709551615) (o + p)
  | [], o, p, _ => rfl
  | (i, n) :: xs, o, p, h => by
    obtain ⟨h1, h2⟩ := h (i, n) List.mem_cons_self
    dsimp only at h1 h2
    have hi : itemB i = true := by simp [itemB]; omega
    have e1 : hasB 18446744073709551615 i = true := by
      rw [hasB, hi, Bool.true_and]
      have := Nat.testBit_two_pow_sub_one 64 i.toNat
      rw [show (2 : Nat) ^ 64 - 1 = 18446744073709551615 from rfl] at this
      rw [this]
      simp
      omega
    have e2 : hasB (18446744073709551615 - s) i = !hasB s i := by
      rw [hasB, hasB, hi, Bool.true_and, Bool.true_and]
      have := Nat.testBit_two_pow_sub_succ (n := 64) (x := s) (by omega) i.toNat
      rw [show (2 : Nat) ^ 64 - (s + 1) = 18446744073709551615 - s by omega] at this
      rw [this]
      have : decide (i.toNat < 64) = true := by simp; omega
      rw [this, Bool.true_and]
    rw [List.foldl_cons, List.foldl_cons, List.foldl_cons, kept_two s hs xs _ _ (fun x hx => h x (List.mem_cons_of_mem _ hx))]
    congr 1
    simp only [keptStep, e1, e2, if_true]
    rcases hasB s i with _ | _
    · simp; omega
    · simp; omega

attribute [local go_sem ↓] Go.wp_at_zero Go.wp_at_succ
set_option maxHeartbeats 4000000 in
set_option maxRecDepth 20000 in
theorem walk (a0 : Option Addr) (len0 cap0 : Nat) (z0 : List Int) (a1 : Int) (w : World) (w0 : IsRow .i64 w a0 len0 cap0 z0) (w1 : (Lit.int .u64 a1).wf = true) :
    Calls Try.prog 5 #[.slice a0 len0 cap0, .int .u64 a1] w fun e w' => e = .returned (.bool true) ∧ Below w.heap.size w w' := by
  obtain ⟨hl, hm, hlc, hC, hz⟩ := C_row w0
  obtain ⟨s, rfl, hs⟩ := U64_of w1
  obtain ⟨l, hl2⟩ : ∃ l, z0.take len0 = l := ⟨_, rfl⟩
  rw [hl2] at hl hC
  subst hl
  have HC := Lib.hid hC
  clear hC w0 w1 hz hl2
  by_cases hlen : l.length > 100
  · go_enter Try.func5, Try.ntmps5
    go_wp2_with fail
    refine (alive_any w).mono ?_
    rintro e w1 ⟨rfl, hb1⟩
    go_wp2
    go_ret
    exact ⟨rfl, hb1⟩
  · have hsum : keptF l s + keptF l (18446744073709551615 - s) = keptF l 18446744073709551615 := kept_two s hs (resv l) 0 0 (fun x hx => ⟨(resv_bd l x hx).1, (resv_bd l x hx).2.1⟩)
    have hbd : ∀ q, 0 ≤ keptF l q ∧ keptF l q ≤ 70368744177664 := fun q => by
      have h1 := kept_bd q (resv l) 0 (fun x hx => (resv_bd l x hx).2.2)
      have h2 := resv_len l
      have e : keptF l q = (resv l).foldl (keptStep q) 0 := rfl
      rw [e]
      omega
    have HNOT := Lib.hid (not_nat s hs)
    have HSUM := Lib.hid hsum
    have HBD := Lib.hid hbd
    clear hsum hbd
    go_enter Try.func5, Try.ntmps5
    go_wp2_with fail
    refine (alive_any w).mono ?_
    rintro e w1 ⟨rfl, hb1⟩
    have HB1 := Lib.hid hb1
    have HC1 := Lib.hid (Kd.C_below HC.out hb1)
    clear hb1
    go_wp2_with fail
    refine (split_any a0 cap0 l w1 hlc HC1.out (by omega)).mono ?_
    rintro e w2 ⟨v, rfl, hR2, hb2⟩
    obtain ⟨A2, c2, rfl, _, hC2⟩ := Kd.R_reads hR2
    have HB2 := Lib.hid (HB1.out.trans (hb2.mono HB1.out.size))
    have HC2 := Lib.hid (Kd.C_below HC1.out hb2)
    have HV2 := Lib.hid hC2
    clear hb2 hR2 hC2
    go_wp2_with fail
    refine (refsplit_any a0 cap0 l w2 HC2.out (by omega)).mono ?_
    rintro e w3 ⟨v, rfl, hR3, hb3⟩
    obtain ⟨A3, c3, rfl, _, hC3⟩ := Kd.R_reads hR3
    have HB3 := Lib.hid (HB2.out.trans (hb3.mono HB2.out.size))
    have HC3 := Lib.hid (Kd.C_below HC2.out hb3)
    have HV3 := Lib.hid (Kd.C_below HV2.out hb3)
    have HW3 := Lib.hid hC3
    have hn2 : (splitF l).length = (resv l).length := List.length_map ..
    have hn3 : ((resv l).map itemAt).length = (resv l).length := List.length_map ..
    have hn64 := resv_len l
    rw [hn2] at HV3 ⊢
    rw [hn3] at HW3 ⊢
    have hget2 : ∀ k : Nat, (splitF l)[k]? = ((resv l)[k]?).map (fun x => [itemAt x]) := fun k => List.getElem?_map ..
    have hget3 : ∀ k : Nat, ((resv l).map itemAt)[k]? = ((resv l)[k]?).map itemAt := fun k => List.getElem?_map ..
    have HG2 := Lib.hid hget2
    have HG3 := Lib.hid hget3
    generalize (resv l).length = n at *
    clear hb3 hR3 hC3 hn2 hn3 hget2 hget3 HC HC1 HC2 HV2 HB1 HB2
    have HB0 := Lib.hid (Below.refl w3.heap.size w3)
    go_wp2_with fail
    go_loopw [31] (fun i wr => ∃ (k : Nat), k ≤ n ∧ i = .int .i64 k ∧ Hid (Below w3.heap.size w3 wr)) (fun i _ => (n - intOf i).toNat)
    case atStart => exact ⟨0, by omega, rfl, HB0⟩
    case round =>
      obtain ⟨k, hk, rfl, HB⟩ := hrel
      clear HB0
      by_cases hlt : k < n
      · obtain ⟨ad, x, Ax, cx, rfl, hx, hc, _, hCx⟩ := val_at (Kd.C_below HV3.out HB.out) k hlt
        obtain ⟨ad2, ⟨s1, v1⟩, rfl, hx2, hc1, hc2⟩ := at_at (Kd.C_below HW3.out HB.out) k hlt
        obtain rfl : x = [(s1, v1)] := by
          rw [HG2.out] at hx
          rw [HG3.out] at hx2
          rcases hq : (resv l)[k]? with _ | y
          · rw [hq] at hx; cases hx
          · rw [hq] at hx hx2
            simp only [Option.map_some, Option.some.injEq] at hx hx2
            rw [← hx, hx2]
        have hbA : Below wr.heap.size wr (wr.alloc (.cells #[.slice Ax 1 cx] 43)) := (Below.refl _ _).alloc (Nat.le_refl _) _
        have HAT := Lib.hid (valat0_any Ax cx (s1, v1) (wr.alloc (.cells #[.slice Ax 1 cx] 43)) (Kd.C_below hCx hbA))
        unfold encA at HAT
        have SK := Lib.hid (show ∀ w', Below wr.heap.size wr w' → w'.cell? (ad2.add (k * 2)) = some (.int .u64 s1) ∧ w'.cell? ⟨(ad2.add (k * 2)).block, (ad2.add (k * 2)).off + 1, none⟩ = some (.int .i64 v1) from fun w' hb => ⟨(hb.cell (cell_lt hc1)).trans hc1, (hb.cell (cell_lt hc2)).trans hc2⟩)
        have HBA := Lib.hid hbA
        clear hx hx2 hCx hbA hc1 hc2
        go_wp2_with fail
        refine HAT.out.mono ?_
        rintro e w4 ⟨rfl, hb4⟩
        have hbx : Boxed w4 wr.heap.size 43 (.slice Ax 1 cx) := (hb4.block _ (by simp)).trans (Boxed.new wr 43 _)
        have HBX := Lib.hid hbx
        have HB4 := Lib.hid (HBA.out.trans (hb4.mono HBA.out.size))
        have hs4 : wr.heap.size < w4.heap.size := hbx.lt
        have hcx := (hbx.alloc (.cells #[.int .u64 s1, .int .i64 v1] 45)).cell
        clear hb4 hbx
        go_wp2_with fail
        have hbb : AtBox (w4.alloc (.cells #[.int .u64 s1, .int .i64 v1] 45)) w4.heap.size (s1, v1) := World.alloc_heap_new w4 _
        have hb5 : Below wr.heap.size wr (w4.alloc (.cells #[.int .u64 s1, .int .i64 v1] 45)) := HB4.out.alloc (Nat.le_of_lt hs4) _
        have hl5 : w4.heap.size < (w4.alloc (.cells #[.int .u64 s1, .int .i64 v1] 45)).heap.size := by simp
        generalize hw5 : w4.alloc (.cells #[.int .u64 s1, .int .i64 v1] 45) = w5 at *
        have SF := Lib.hid (show ∀ w', Below w5.heap.size w5 w' → w'.cell? ⟨wr.heap.size, 0, none⟩ = some (.slice Ax 1 cx) ∧ w'.cell? ⟨w4.heap.size, 0, none⟩ = some (.int .u64 s1) ∧ w'.cell? ⟨w4.heap.size, 1, none⟩ = some (.int .i64 v1) ∧ w'.cell? (ad2.add (k * 2)) = some (.int .u64 s1) ∧ w'.cell? ⟨(ad2.add (k * 2)).block, (ad2.add (k * 2)).off + 1, none⟩ = some (.int .i64 v1) from fun w' hb =>
          ⟨(hb.cell (p := ⟨wr.heap.size, 0, none⟩) (by show wr.heap.size < _; omega)).trans hcx, (hb.cell (p := ⟨w4.heap.size, 0, none⟩) hl5).trans hbb.c0, (hb.cell (p := ⟨w4.heap.size, 1, none⟩) hl5).trans hbb.c1, (SK.out w' (hb5.trans (hb.mono hb5.size))).1, (SK.out w' (hb5.trans (hb.mono hb5.size))).2⟩)
        have HB5 := Lib.hid hb5
        clear hw5 hbb hb5 hcx hc hl5 hs4
        go_region_held3 (fun w' => w'.cell? ⟨wr.heap.size, 0, none⟩ = some (.slice Ax 1 cx) ∧ w'.cell? ⟨w4.heap.size, 0, none⟩ = some (.int .u64 s1) ∧ w'.cell? ⟨w4.heap.size, 1, none⟩ = some (.int .i64 v1) ∧ w'.cell? (ad2.add (k * 2)) = some (.int .u64 s1) ∧ w'.cell? ⟨(ad2.add (k * 2)).block, (ad2.add (k * 2)).off + 1, none⟩ = some (.int .i64 v1))
          (first | exact SF.out _ (below_drew _ _) | exact SF.out _ (((below_drew _ _)).alloc (Nat.le_refl _) _) | exact SF.out _ (((Below.refl _ _).alloc (Nat.le_refl _) _).drew) | go_keep)
          ((go_at_call 19; (with_reducible refine (vallen_any _ _ _ _).mono ?_); rintro e w' ⟨rfl, rfl⟩))
        have HB6 := Lib.hid (HB.out.trans ((HB5.out.trans ((((Below.refl w5.heap.size w5).alloc (Nat.le_refl _) (.cells #[.slice Ax 1 cx] 43)).drew).mono HB5.out.size)).mono HB.out.size))
        go_wp2
        go_roundw
        case rel => exact ⟨k + 1, by omega, by go_num, HB6⟩
        case measure => simp [intOf]; omega
      · have hkn : k = n := by omega
        subst hkn
        have HBr := Lib.hid (HB3.out.trans (HB.out.mono HB3.out.size))
        have hk0 := refkept_any a0 cap0 l 18446744073709551615 wr (by omega) (Kd.C_below HC3.out HB.out) (by omega)
        rw [show ((18446744073709551615 : Nat) : Int) = 18446744073709551615 from rfl] at hk0
        have HCr := Lib.hid (Kd.C_below HC3.out HB.out)
        have HK0 := Lib.hid hk0
        clear hk0 HB HC3
        go_wp2_with fail
        refine HK0.out.mono ?_
        rintro e w4 ⟨rfl, hb4⟩
        have HB4 := Lib.hid (HBr.out.trans (hb4.mono HBr.out.size))
        have HC4 := Lib.hid (Kd.C_below HCr.out hb4)
        clear hb4 HBr HCr
        go_wp2_with fail
        refine (kept_any a0 cap0 l s w4 hs hlc HC4.out (by omega)).mono ?_
        rintro e w5 ⟨rfl, hb5⟩
        have HB5 := Lib.hid (HB4.out.trans (hb5.mono HB4.out.size))
        have HC5 := Lib.hid (Kd.C_below HC4.out hb5)
        clear hb5 HB4 HC4
        go_wp2_with fail
        refine (refkept_any a0 cap0 l s w5 hs HC5.out (by omega)).mono ?_
        rintro e w6 ⟨rfl, hb6⟩
        have HB6 := Lib.hid (HB5.out.trans (hb6.mono HB5.out.size))
        have HC6 := Lib.hid (Kd.C_below HC5.out hb6)
        clear hb6 HB5 HC5
        go_wp2_with fail
        refine (kept_any a0 cap0 l s w6 hs hlc HC6.out (by omega)).mono ?_
        rintro e w7 ⟨rfl, hb7⟩
        have HB7 := Lib.hid (HB6.out.trans (hb7.mono HB6.out.size))
        have HC7 := Lib.hid (Kd.C_below HC6.out hb7)
        clear hb7 HB6 HC6
        go_wp2_with fail
        rw [HNOT.out]
        refine (kept_any a0 cap0 l (18446744073709551615 - s) w7 (by omega) hlc HC7.out (by omega)).mono ?_
        rintro e w8 ⟨rfl, hb8⟩
        have HB8 := Lib.hid (HB7.out.trans (hb8.mono HB7.out.size))
        have h1 := HBD.out s
        have h2 := HBD.out (18446744073709551615 - s)
        have h3 := HSUM.out
        obtain ⟨h11, h12⟩ := h1
        obtain ⟨h21, h22⟩ := h2
        generalize keptF l s = q1 at *
        generalize keptF l (18446744073709551615 - s) = q2 at *
        generalize keptF l 18446744073709551615 = q3 at *
        subst h3
        clear hb8 HB7 HC7
        go_wp2
        go_ret
        exact ⟨rfl, HB8.out⟩

/-! ### THE ROW's STEP: WRITTEN OUT: LEAVE IT -/
set_option maxRecDepth 100000 in
theorem lifted (os : Os) (started : os.Started) (H : Type) (enc : TypeId × Value → H) :
    ReturnsInHanded {} Try.checked os 5 .any (Rows.limitSplitsSpec.pre6 enc Try.prog Try.f5 Rows.limitSplitsRow.domain false) (Rows.limitSplitsSpec.post enc Try.prog Try.f5 false true false false) := by
  refine returnsInHanded_of_change (C := Try.checked) own started (by kernel_rfl) Try.func5
    (ChangeSpec.witness6 (enc := enc) (C := Try.checked) false ⟨#[], #[.slice none 0 0, .int .u64 0], []⟩ 8 (by kernel_rfl) (by kernel_rfl) (by kernel_rfl) (by kernel_rfl)) ?_
  intro W base args ds gs before hval0 hW hcnd _
  have hval : ∀ (j : Nat) t v, Try.f5.params[j]? = some t → args[j]? = some v → Value.okWide Try.prog W .any base t v := hval0
  have hW' := hW
  obtain ⟨p, q, hA0, hV, rfl, hfz, hnd⟩ := hW
  have hA : DataW.TrodAll enc Try.prog W 0 (fun _ => true) true Try.f5.params.toList args.toList ds p := hA0
  rw [Try.params5] at hA hval
  obtain ⟨v0, vs0, d0, ds0, p0, q0, hargs, rfl, rfl, h0, r0⟩ := trodAll_cons hA
  obtain ⟨v1, vs1, d1, ds1, p1, q1, rfl, rfl, rfl, h1, r1⟩ := trodAll_cons r0
  obtain ⟨rfl, rfl, rfl⟩ := trodAll_nil r1
  obtain rfl : args = #[v0, v1] := by cases args; simp_all
  obtain ⟨rfl, rfl⟩ := trodVars_none hV
  obtain ⟨a0, len0, cap0, rfl⟩ := okWide_slice Try.underlying22 (hval 0 22 v0 rfl rfl)
  have k0 := h0
  have lt0 : ∀ x ∈ p0, x.block < W.heap.size := by obtain ⟨m, hm⟩ := k0; exact DataW.trod_lt m _ _ _ hm
  obtain ⟨z0, w0⟩ : ∃ zs, IsRow .i64 W a0 len0 cap0 zs := by
    obtain ⟨fuel, hf⟩ := h0
    rcases open_ints Try.underlying22 Try.underlying2 (by kernel_rfl) hf with ⟨hcs, _⟩ | ⟨x, l, c, zs, hcs, _, hl, hm, hz, _, hcell, hwz⟩
    · simp [Value.cells] at hcs
      obtain ⟨rfl, rfl, rfl⟩ := hcs
      exact ⟨[], .inl ⟨rfl, rfl, rfl, rfl⟩⟩
    · simp [Value.cells] at hcs
      obtain ⟨rfl, rfl, rfl⟩ := hcs
      exact ⟨zs, .inr ⟨_, rfl, hl, hm, by simpa using hz, hcell, hwz⟩⟩
  obtain ⟨a1, rfl, rfl, rfl, w1⟩ := open_int Try.underlying36 (hval 1 36 v1 rfl rfl) h1
  clear hA0 hval0
  refine (walk a0 len0 cap0 z0 a1 W w0 w1).mono fun e W' ⟨he, bel⟩ => ?_
  subst he
  exact ⟨_, rfl, _, _, _, [], _, [], hW', trodAll_mk1 (shut_bool Try.underlying4 _), (trodAll_cons_mk (Below.trod laidOut (by kernel_rfl) (of_decide_eq_true (by kernel_rfl)) k0 bel lt0) (trodAll_cons_mk (shut_int Try.underlying36 w1) trodAll_mk0)), rfl, bel.frame _, fun h => by cases h⟩

theorem over : Rows.limitSplitsRow.holds Try.pinned (OpenSpec.ofChange Rows.limitSplitsSpec) :=
  OpenClaim.holds_of_wide 5 Try.f5 rfl rfl rfl rfl rfl rfl rfl ⟨rfl, rfl, rfl, rfl, rfl⟩ rfl rfl rfl rfl rfl (by kernel_rfl) Try.func5 (by kernel_rfl)
    (of_decide_eq_true (by kernel_rfl)) (by unfold Func.isWrapper; first | (rw [if_pos (by decide +kernel)]; kernel_rfl) | (rw [if_neg (by decide +kernel)]; exact ⟨rfl, rfl⟩))
    (fun os started H enc _ => lifted os started H enc)

/-- ████ THE STATEMENT ████ -/
theorem proved : Rows.LimitSplitsSaid := over
#print axioms proved
end Go.Proofs.Ytnaoemcekggloaa.limitSplits
