/- The reserves of the items of a set. -/
import Derived.Test.YtnaoemcekggloaaRes
import Derived.Test.YtnaoemcekggloaaHas
namespace Go.Proofs.Ytnaoemcekggloaa
open Go.RowKit Go.Shelf Go.Proofs.YtnaoemcekggloaaW.PrintWords Go.Proofs.YtnaoemcekggloaaW.PrintLast Go.Proofs.YtnaoemcekggloaaW.PrintMore It
attribute [local go_sem] Oper.semAt_some

theorem reserved_any (A : Option Addr) (c n : Nat) (w : World) :
    Calls Try.prog 34 #[.slice A n c] w fun e w' => e = .returned (.func (.func 46) #[] #[.pointer (some ⟨w.heap.size, 0, none⟩)]) ∧ w.alloc (.cells #[.slice A n c] 22) = w' := by
  go_enter Try.func34, Try.ntmps34
  go_wp2
  go_ret
  exact ⟨rfl, rfl⟩

def keptStep (s : Nat) (o : Int) (x : Int × Int) : Int := if hasB s x.1 = true then o + x.2 else o
def keptF (l : List Int) (s : Nat) : Int := (resv l).foldl (keptStep s) 0

theorem resFrom_bd : ∀ (l : List Int) (i : Nat) (x : Int × Int), x ∈ resFrom i l → (i : Int) ≤ x.1 ∧ x.1 < i + l.length ∧ 1 ≤ x.2 ∧ x.2 ≤ 1099511627776
  | [], _, _, h => by simp [resFrom] at h
  | n :: l, i, x, h => by
    rw [resFrom] at h
    split at h
    · rename_i hn
      rcases List.mem_cons.1 h with h | h
      · subst h
        exact ⟨by simp, by simp only [List.length_cons]; omega, hn.1, hn.2⟩
      · have := resFrom_bd l (i + 1) x h
        simp only [List.length_cons]
        omega
    · have := resFrom_bd l (i + 1) x h
      simp only [List.length_cons]
      omega
theorem resFrom_len : ∀ (l : List Int) (i : Nat), (resFrom i l).length ≤ l.length
  | [], _ => by simp [resFrom]
  | n :: l, i => by
    rw [resFrom]
    have := resFrom_len l (i + 1)
    split <;> simp only [List.length_cons] <;> omega
theorem resv_bd (l : List Int) (x : Int × Int) (h : x ∈ resv l) : 0 ≤ x.1 ∧ x.1 < 64 ∧ 1 ≤ x.2 ∧ x.2 ≤ 1099511627776 := by
  have h1 := resFrom_bd _ _ x h
  have h2 : (l.take 64).length ≤ 64 := by rw [List.length_take]; omega
  omega
theorem resv_len (l : List Int) : (resv l).length ≤ 64 := by
  have h1 := resFrom_len (l.take 64) 0
  have h2 : (l.take 64).length ≤ 64 := by rw [List.length_take]; omega
  exact Nat.le_trans h1 h2
theorem kept_bd (s : Nat) : ∀ (xs : List (Int × Int)) (o : Int), (∀ x ∈ xs, 1 ≤ x.2 ∧ x.2 ≤ 1099511627776) → o ≤ xs.foldl (keptStep s) o ∧ xs.foldl (keptStep s) o ≤ o + xs.length * 1099511627776
  | [], o, _ => by simp
  | x :: xs, o, h => by
    have h1 := kept_bd s xs (keptStep s o x) (fun y hy => h y (List.mem_cons_of_mem _ hy))
    have h2 := h x List.mem_cons_self
    simp only [List.foldl_cons, List.length_cons]
    have h3 : o ≤ keptStep s o x ∧ keptStep s o x ≤ o + 1099511627776 := by unfold keptStep; split <;> omega
    omega
theorem stab_box {β : Type} {B : Nat} {b : Nat} {t : TypeId} (f : β → Value) (hb : b < B) : Stab B (fun s (_ : Nat → Prop) W => Boxed W b t (f s)) := by
  intro s S W W' h _ _ _ _ hk
  exact (hk b h.lt (.inl hb)).trans h
theorem stab_and {β : Type} {B : Nat} {I I' : β → (Nat → Prop) → World → Prop} (h : Stab B I) (h' : Stab B I') : Stab B (fun s S W => I s S W ∧ I' s S W) :=
  fun s S W W' hs h1 h2 h3 h4 h5 => ⟨h s S W W' hs.1 h1 h2 h3 h4 h5, h' s S W W' hs.2 h1 h2 h3 h4 h5⟩
theorem stab_pure {β : Type} {B : Nat} (p : β → (Nat → Prop) → Prop) : Stab B (fun s S (_ : World) => p s S) := fun _ _ _ _ hs _ _ _ _ _ => hs
theorem mv_set {S : Nat → Prop} {W : World} {p : Addr} (hS : ∀ k, S k → k < W.heap.size) (hp : S p.block) (u : Value) : Mv S W S (W.setCell p u) :=
  ⟨⟨rfl, rfl, rfl, by simp [World.setCell], fun k _ hn => Below.heap_setCell W p u k (fun e => hn (e ▸ hp))⟩, fun k hk => ⟨.inl hk, by simpa [World.setCell] using hS k hk⟩⟩
theorem below_putObj {n : Nat} {w W : World} {D : Nat} (h : Below n w W) (hD : n ≤ D) (o : Obj) : Below n w (W.putObj D o) :=
  h.trans ⟨rfl, rfl, rfl, by simp, fun k hk => World.putObj_heap_other (by omega)⟩

set_option maxHeartbeats 1000000 in
theorem kept_any (A : Option Addr) (c : Nat) (l : List Int) (s : Nat) (w : World) (hs : s < 18446744073709551616) (hl : l.length ≤ c) (hr : Kd.C (Kd.int .i64) w A l.length l) (hb : l.length ≤ 140737488355328) :
    Calls Try.prog 21 #[.slice A l.length c, .int .u64 s] w fun e w' => e = .returned (.int .i64 (keptF l s)) ∧ Below w.heap.size w w' := by
  refine calls_of_wp_marks Try.func21 rfl ?_
  simp only [Try.ntmps21, List.size_toArray, List.length_cons, List.length_nil, Nat.reduceAdd, Nat.reduceSub, Array.replicate_succ, Array.replicate_zero, List.push_toArray, List.append_toArray, List.nil_append, List.cons_append]
  have HR := Lib.hid hr
  clear hr
  go_wp2_with (go_at_call 34; refine (reserved_any _ _ _ _).mono ?_; rintro e w' ⟨rfl, rfl⟩)
  obtain ⟨W0, hW0⟩ : ∃ W0, ((w.alloc (.cells #[.int .u64 s] 36)).alloc (.cells #[.int .i64 0] 2)).alloc (.cells #[.slice A l.length c] 22) = W0 := ⟨_, rfl⟩
  rw [hW0]
  have hsz : W0.heap.size = w.heap.size + 3 := by rw [← hW0]; simp
  have b0 : Boxed W0 w.heap.size 36 (.int .u64 s) := by rw [← hW0]; exact ((Boxed.new w 36 _).alloc _).alloc _
  have b1 : Boxed W0 (w.heap.size + 1) 2 (.int .i64 0) := by rw [← hW0]; have := Boxed.new (w.alloc (.cells #[.int .u64 s] 36)) 2 (.int .i64 0); simp only [World.size_alloc] at this; exact this.alloc _
  have b2 : Boxed W0 (w.heap.size + 2) 22 (.slice A l.length c) := by rw [← hW0]; have := Boxed.new ((w.alloc (.cells #[.int .u64 s] 36)).alloc (.cells #[.int .i64 0] 2)) 22 (.slice A l.length c); simpa only [World.size_alloc] using this
  have hbw : Below w.heap.size w W0 := by rw [← hW0]; exact (((Below.refl _ _).alloc (Nat.le_refl _) _).alloc (by simp) _).alloc (by simp; omega) _
  clear hW0
  refine wp_range rfl (enters_of Try.func46 (by kernel_rfl) rfl) (reserved1 A c (w.heap.size + 2) l w W0 b2.cell (by omega) hl hb HR.out hbw) (Same.refl _ _) (fun _ => rfl)
    (fun k => k = w.heap.size + 1) (fun k hk => ⟨by omega, by omega⟩)
    (fun pre S W => Boxed W (w.heap.size + 1) 2 (.int .i64 (pre.foldl (keptStep s) 0)) ∧ Boxed W w.heap.size 36 (.int .u64 s) ∧ S = fun k => k = w.heap.size + 1)
    (fun _ _ _ _ => False)
    (stab_and (stab_box _ (by omega)) (stab_and (stab_box (fun _ => _) (by omega)) (stab_pure (fun _ S => S = fun k => k = w.heap.size + 1)))) (fun _ _ _ _ _ h _ _ _ _ _ => h) ⟨b1, b0, rfl⟩
    (fun x a' _ _ => a' = { tmps := #[.slice A l.length c, .int .u64 s, undef, .pointer (some ⟨w.heap.size, 0, none⟩), .int .i64 0, .pointer (some ⟨w.heap.size + 1, 0, none⟩), .int .i64 x.1, .int .i64 x.2, .slice A l.length c, .func (.func 46) #[] #[.pointer (some ⟨w.heap.size + 2, 0, none⟩)], .int .i64 x.1, .int .i64 x.2, undef, undef, undef, undef, undef, undef, undef], defers := [] }) (fun a' => stab_pure (fun x _ => a' = _)) ?assign ?body ?done ?stop
  case assign =>
    intro y pre x post S W K he hi hS _ _ _ hK
    gi_wp2
    exact hK _ _ _ (Mv.refl hS) hi rfl
  case body =>
    rintro y pre x post a' S W he hwy hry hSy hS ⟨hb1, hb0, rfl⟩ rfl
    have hc1 := hb1.cell
    have hf1 := hb1.frozen
    have hc0 := hb0.cell
    have hmem : x ∈ resv l := by rw [he]; simp
    have hx := resv_bd l x hmem
    have hx3 := hx.2.2.1
    have hx4 := hx.2.2.2
    have hbd := kept_bd s pre 0 (fun y hy => (resv_bd l y (by rw [he]; simp [hy])).2.2)
    have hlen : pre.length ≤ 63 := by have := resv_len l; rw [he] at this; simp at this; omega
    have hbd1 := hbd.1
    have hbd2 := hbd.2
    have HF := Lib.hid (List.foldl_append (f := keptStep s) (b := 0) (l := pre) (l' := [x]))
    generalize pre.foldl (keptStep s) 0 = o at *
    rcases hh : hasB s x.1 with _ | _
    · have HH := Lib.hid hh
      clear hmem hx hbd he hh
      gi_wp2_with (refine ⟨trivial, ?_⟩; gi_at_call 38; refine (CallsIn.inRound y (callsIn_wide.2 (has_any _ _ _ hs))).mono ?_; rintro e w' ⟨rfl, rfl⟩; rw [HH.out])
      refine ⟨_, Mv.refl hS, ?_, hb0, rfl⟩
      rw [HF.out]
      simpa [keptStep, HH.out] using hb1
    · have HH := Lib.hid hh
      clear hmem hx hbd he hh
      gi_wp2_with (refine ⟨trivial, ?_⟩; gi_at_call 38; refine (CallsIn.inRound y (callsIn_wide.2 (has_any _ _ _ hs))).mono ?_; rintro e w' ⟨rfl, rfl⟩; rw [HH.out])
      refine ⟨_, mv_set hS rfl _, ?_, Boxed.other hb0 (by omega) _, rfl⟩
      rw [HF.out]
      simpa [keptStep, HH.out] using hb1.set (.int .i64 (o + x.2))
  case done =>
    rintro D S W hD hSD hmv ⟨hb1, hb0, rfl⟩ hK
    have hc1 := hb1.cell
    go_wp2
    refine ⟨by simp, .inl ⟨_, _, rfl, run_takeDeferred hK, ?_⟩⟩
    exact ⟨_, results_tmp rfl _ _ _, rfl, below_putObj (hbw.trans (hmv.keep.below (by omega) (fun k hk => by omega))) (by omega) _⟩
  case stop =>
    rintro D c pre S W _ _ _ _ _ h _
    exact h.elim
end Go.Proofs.Ytnaoemcekggloaa
