/- The value of a set by its atoms; a valuation's Value, At and Len. -/
import Derived.Test.YtnaoemcekggloaaWithin
import Derived.Laws.ResultCell
namespace Go.Proofs.Ytnaoemcekggloaa
open Go.RowKit Go.Shelf Go.Proofs.YtnaoemcekggloaaW.PrintWords Go.Proofs.YtnaoemcekggloaaW.PrintLast Go.Proofs.YtnaoemcekggloaaW.PrintMore It
attribute [local go_sem] Oper.semAt_some

def maxStep (o : Int) (x : Nat × Int) : Int := max o x.2
def valueF (l : List (Nat × Int)) (s : Nat) : Int := ((l.filter atR).filter (fun x => wthB x.1 s)).foldl maxStep 0

set_option maxHeartbeats 1000000 in
theorem value_any (A : Option Addr) (c : Nat) (l : List (Nat × Int)) (s : Nat) (w : World) (hs : s < 18446744073709551616) (hb : l.length ≤ 140737488355328)
    (hok : ∀ x ∈ l, x.1 < 18446744073709551616) (hr : Kd.C kdAt w A l.length l) :
    Calls Try.prog 44 #[.slice A l.length c, .int .u64 s] w fun e w' => e = .returned (.int .i64 (valueF l s)) ∧ Below w.heap.size w w' := by
  obtain ⟨V, hV⟩ : ∃ V, valueF l s = V := ⟨_, rfl⟩
  rw [hV]
  refine calls_of_wp_marks Try.func44 rfl ?_
  simp only [Try.ntmps44, List.size_toArray, List.length_cons, List.length_nil, Nat.reduceAdd, Nat.reduceSub, Array.replicate_succ, Array.replicate_zero, List.push_toArray, List.append_toArray, List.nil_append, List.cons_append]
  have HR := Lib.hid hr
  have HO := Lib.hid hok
  clear hr hok
  go_wp2_with (go_at_call 54; refine (within_any _ _ _ _ _).mono ?_; rintro e w' ⟨rfl, rfl⟩)
  obtain ⟨W0, hW0⟩ : ∃ W0, ((w.alloc (.cells #[.int .i64 0] 2)).alloc (.cells #[.slice A l.length c] 40)).alloc (.cells #[.int .u64 s] 36) = W0 := ⟨_, rfl⟩
  rw [hW0]
  have hsz : W0.heap.size = w.heap.size + 3 := by rw [← hW0]; simp
  have b1 : Boxed W0 w.heap.size 2 (.int .i64 0) := by rw [← hW0]; exact ((Boxed.new w 2 _).alloc _).alloc _
  have b2 : Boxed W0 (w.heap.size + 1) 40 (.slice A l.length c) := by rw [← hW0]; have := Boxed.new (w.alloc (.cells #[.int .i64 0] 2)) 40 (.slice A l.length c); simp only [World.size_alloc] at this; exact this.alloc _
  have b3 : Boxed W0 (w.heap.size + 1 + 1) 36 (.int .u64 s) := by rw [← hW0]; have := Boxed.new ((w.alloc (.cells #[.int .i64 0] 2)).alloc (.cells #[.slice A l.length c] 40)) 36 (.int .u64 s); simpa only [World.size_alloc] using this
  have hbw : Below w.heap.size w W0 := by rw [← hW0]; exact (((Below.refl _ _).alloc (Nat.le_refl _) _).alloc (by simp) _).alloc (by simp; omega) _
  clear hW0
  have hit := within1 A c (w.heap.size + 1) (w.heap.size + 1 + 1) l s w W0 b2 b3 hs hb HO.out HR.out hbw
  have hv : valueF l s = ((l.filter atR).filter (fun x => wthB x.1 s)).foldl maxStep 0 := rfl
  generalize (l.filter atR).filter (fun x => wthB x.1 s) = xs at hit hv
  rw [hV] at hv
  subst hv
  refine wp_range rfl (enters_of Try.func68 (by kernel_rfl) rfl) hit (Same.refl _ _) (fun _ => rfl)
    (fun k => k = w.heap.size) (fun k hk => ⟨by omega, by omega⟩)
    (fun pre S W => Boxed W w.heap.size 2 (.int .i64 (pre.foldl maxStep 0)) ∧ S w.heap.size)
    (fun _ _ _ _ => False)
    (stab_and (stab_box (fun (pre : List (Nat × Int)) => .int .i64 (pre.foldl maxStep 0)) (by omega)) (stab_pure (fun _ S => S w.heap.size))) (fun _ _ _ _ _ h _ _ _ _ _ => h) ⟨b1, rfl⟩
    (fun x a' S W' => ∃ b, S b ∧ a' = { tmps := #[.slice A l.length c, .int .u64 s, undef, undef, .int .i64 0, .pointer (some ⟨w.heap.size, 0, none⟩), .pointer (some ⟨b, 0, none⟩), .slice A l.length c, .int .u64 s, .func (.func 68) #[] #[.pointer (some ⟨w.heap.size + 1, 0, none⟩), .pointer (some ⟨w.heap.size + 1 + 1, 0, none⟩)], encA x, undef, undef, undef, undef, undef], defers := [] } ∧ AtBox W' b x)
    (fun a' => stab_at a' _) ?assign ?body ?done ?stop
  case assign =>
    rintro lb pre x post S W1 K he ⟨hb1, hS1⟩ hS hSl hlW hwl hK
    have hK2 := hK { tmps := #[.slice A l.length c, .int .u64 s, undef, undef, .int .i64 0, .pointer (some ⟨w.heap.size, 0, none⟩), .pointer (some ⟨W1.heap.size, 0, none⟩), .slice A l.length c, .int .u64 s, .func (.func 68) #[] #[.pointer (some ⟨w.heap.size + 1, 0, none⟩), .pointer (some ⟨w.heap.size + 1 + 1, 0, none⟩)], encA x, undef, undef, undef, undef, undef], defers := [] }
      (fun k => S k ∨ k = W1.heap.size) (W1.alloc (.cells #[.int .u64 x.1, .int .i64 x.2] 45)) (mv_new _ hS) ⟨hb1.alloc _, .inl hS1⟩ ⟨W1.heap.size, .inr rfl, rfl, World.alloc_heap_new _ _⟩
    have HK := Lib.hid hK2
    clear hK hK2
    unfold encA at HK ⊢
    gi_wp2
    exact HK.out
  case body =>
    rintro lb pre ⟨x1, x2⟩ post a' S W1 he hwl hry hSl hS ⟨hb1, hS1⟩ ⟨b, hSb, rfl, hbx⟩
    have hc0 := hbx.c0
    have hc1 := hbx.c1
    have hcb := hb1.cell
    have hfb := hb1.frozen
    have HF := Lib.hid (List.foldl_append (f := maxStep) (b := 0) (l := pre) (l' := [(x1, x2)]))
    generalize pre.foldl maxStep 0 = o at *
    clear he hwl hbx
    unfold encA
    by_cases hm : o < x2
    · have e : List.foldl maxStep o [(x1, x2)] = x2 := by simp [maxStep]; omega
      have HE := Lib.hid e
      clear e
      gi_wp2
      refine ⟨S, mv_set hS hS1 _, ?_, hS1⟩
      rw [HF.out, HE.out]
      exact hb1.set (.int .i64 x2)
    · have e : List.foldl maxStep o [(x1, x2)] = o := by simp [maxStep]; omega
      have HE := Lib.hid e
      clear e
      gi_wp2
      refine ⟨S, mv_set hS hS1 _, ?_, hS1⟩
      rw [HF.out, HE.out]
      exact hb1.set (.int .i64 o)
  case done =>
    rintro D S W1 hD hSD hmv ⟨hb1, hS1⟩ hK
    have hcb := hb1.cell
    go_wp2
    refine ⟨by simp, .inl ⟨_, _, rfl, run_takeDeferred hK, ?_⟩⟩
    exact ⟨_, results_tmp rfl _ _ _, rfl, below_putObj (hbw.trans (hmv.keep.below (by omega) (fun k hk => by omega))) (by omega) _⟩
  case stop =>
    rintro D c pre S W _ _ _ _ _ h _
    exact h.elim

theorem valvalue_any (A : Option Addr) (c : Nat) (l : List (Nat × Int)) (s : Nat) (w : World) (hs : s < 18446744073709551616) (hb : l.length ≤ 140737488355328)
    (hok : ∀ x ∈ l, x.1 < 18446744073709551616) (hr : Kd.C kdAt w A l.length l) :
    Calls Try.prog 28 #[.agg #[.slice A l.length c], .int .u64 s] w fun e w' => e = .returned (.int .i64 (valueF l s)) ∧ Below w.heap.size w w' := by
  have HR := Lib.hid (Kd.C_below hr ((Below.refl _ _).alloc (Nat.le_refl _) (.cells #[.slice A l.length c] 43)))
  have HO := Lib.hid hok
  clear hr hok
  go_enter Try.func28, Try.ntmps28
  go_wp2_with fail
  refine (value_any A c l s _ hs hb HO.out HR.out).mono ?_
  rintro e w' ⟨rfl, hbw⟩
  have HB := Lib.hid hbw
  clear hbw
  go_wp2
  go_ret
  exact ⟨rfl, ((Below.refl _ _).alloc (Nat.le_refl _) _).trans (HB.out.mono (by simp))⟩

theorem vallen_any (A : Option Addr) (n c : Nat) (w : World) :
    Calls Try.prog 19 #[.agg #[.slice A n c]] w fun e w' => e = .returned (.int .i64 n) ∧ w.alloc (.cells #[.slice A n c] 43) = w' := by
  go_enter Try.func19, Try.ntmps19
  go_wp2
  go_ret
  exact ⟨rfl, rfl⟩

theorem cell_lt {w : World} {p : Addr} {v : Value} (h : w.cell? p = some v) : p.block < w.heap.size := by
  rcases Nat.lt_or_ge p.block w.heap.size with h1 | h1
  · exact h1
  · rw [World.cell?, Array.getElem?_eq_none h1] at h; cases h
theorem cell_two {w : World} {p : Addr} {v : Value} (h : w.cell? p = some v) (o o' : Obj) : ((w.alloc o).alloc o').cell? p = some v := by
  have hl := cell_lt h
  rw [(((Below.refl w.heap.size w).alloc (Nat.le_refl _) o).alloc (by simp) o').cell hl, h]
theorem valat0_any (A : Option Addr) (c : Nat) (x : Nat × Int) (w : World) (hr : Kd.C kdAt w A 1 [x]) :
    Calls Try.prog 18 #[.agg #[.slice A 1 c], .int .i64 0] w fun e w' => e = .returned (.tuple #[encA x, .bool true]) ∧ Below w.heap.size w w' := by
  obtain ⟨ad, ⟨x1, x2⟩, rfl, hx, hc1, hc2⟩ := at_at hr 0 (by omega)
  obtain rfl : x = (x1, x2) := by simpa using hx
  have e1 : ad.add (0 * 2) = ad := rfl
  rw [e1] at hc1 hc2
  have h1 := cell_two hc1 (.cells #[.slice (some ad) 1 c] 43) (.cells #[.int .u64 0, .int .i64 0] 45)
  have h2 := cell_two hc2 (.cells #[.slice (some ad) 1 c] 43) (.cells #[.int .u64 0, .int .i64 0] 45)
  clear hr hx hc1 hc2 e1
  go_enter Try.func18, Try.ntmps18
  go_wp2
  have hb : Below w.heap.size w ((w.alloc (.cells #[.slice (some ad) 1 c] 43)).alloc (.cells #[.int .u64 x1, .int .i64 x2] 45)) := ((Below.refl _ _).alloc (Nat.le_refl _) _).alloc (by simp) _
  have hbx : AtBox ((w.alloc (.cells #[.slice (some ad) 1 c] 43)).alloc (.cells #[.int .u64 x1, .int .i64 x2] 45)) (w.heap.size + 1) (x1, x2) := by
    have := World.alloc_heap_new (w.alloc (.cells #[.slice (some ad) 1 c] 43)) (.cells #[.int .u64 x1, .int .i64 x2] 45)
    rwa [World.size_alloc] at this
  have hc0 := hbx.c0
  have hc1 := hbx.c1
  refine ⟨rfl, .tuple #[encA (x1, x2), .bool true], ?_, rfl, hb⟩
  rw [results_cell_tmp rfl]
  unfold encA
  clear hb hbx h1 h2
  go_simp
end Go.Proofs.Ytnaoemcekggloaa
