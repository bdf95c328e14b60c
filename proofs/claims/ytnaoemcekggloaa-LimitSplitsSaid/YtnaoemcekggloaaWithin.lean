/- The walk over the right atoms within a set, and the value of a set. -/
import Derived.Test.YtnaoemcekggloaaAtoms
import Derived.Test.YtnaoemcekggloaaKept
namespace Go.Proofs.Ytnaoemcekggloaa
open Go.RowKit Go.Shelf Go.Proofs.YtnaoemcekggloaaW.PrintWords Go.Proofs.YtnaoemcekggloaaW.PrintLast Go.Proofs.YtnaoemcekggloaaW.PrintMore It
attribute [local go_sem] Oper.semAt_some

def wthB (a b : Nat) : Bool := decide (a &&& (18446744073709551615 - b) = 0)
theorem wth_any (a b : Nat) (w : World) (ha : a < 18446744073709551616) (hb : b < 18446744073709551616) :
    Calls Try.prog 64 #[.int .u64 a, .int .u64 b] w fun e w' => e = .returned (.bool (wthB a b)) ∧ w = w' := by
  have h1 := Lib.hid (u64_andNot_nat a b ha hb)
  go_enter Try.func64, Try.ntmps64
  go_wp2
  go_ret
  refine ⟨ret_b ?_, rfl⟩
  rw [h1.out, wthB, Bool.eq_iff_iff]
  simp

theorem right_any55 (A : Option Addr) (n c : Nat) (w : World) :
    Calls Try.prog 55 #[.slice A n c] w fun e w' => e = .returned (.func (.func 69) #[] #[.pointer (some ⟨w.heap.size, 0, none⟩)]) ∧ w.alloc (.cells #[.slice A n c] 40) = w' := by
  go_enter Try.func55, Try.ntmps55
  go_wp2
  go_ret
  exact ⟨rfl, rfl⟩
theorem within_any (A : Option Addr) (n c : Nat) (s : Nat) (w : World) :
    Calls Try.prog 54 #[.slice A n c, .int .u64 s] w fun e w' => e = .returned (.func (.func 68) #[] #[.pointer (some ⟨w.heap.size, 0, none⟩), .pointer (some ⟨w.heap.size + 1, 0, none⟩)]) ∧ (w.alloc (.cells #[.slice A n c] 40)).alloc (.cells #[.int .u64 s] 36) = w' := by
  go_enter Try.func54, Try.ntmps54
  go_wp2
  go_ret
  exact ⟨rfl, rfl⟩

/-- what holds of some of the owned blocks -/
def Up {β : Type} (J : β → (Nat → Prop) → World → Prop) (s : β) (S : Nat → Prop) (W : World) : Prop := ∃ S1, (∀ k, S1 k → S k) ∧ J s S1 W
theorem stab_up {β : Type} {B : Nat} {J : β → (Nat → Prop) → World → Prop} (h : Stab B J) : Stab B (Up J) := by
  rintro s S W W' ⟨S1, hs, hj⟩ h1 h2 h3 h4 h5
  exact ⟨S1, hs, h s S1 W W' hj h1 h2 h3 h4 (fun k hk hx => h5 k hk (hx.imp id (hs k)))⟩
theorem stab_map {β γ : Type} {B : Nat} {J : β → (Nat → Prop) → World → Prop} (f : γ → β) (h : Stab B J) : Stab B (fun s => J (f s)) := fun s => h (f s)
theorem mv_up {S S1 S1' : Nat → Prop} {W W' : World} (h : Mv S1 W S1' W') (hs : ∀ k, S1 k → S k) (hS : ∀ k, S k → k < W.heap.size) : Mv S W (fun k => S1' k ∨ S k) W' :=
  ⟨h.keep.mono hs, fun k hk => by
    rcases hk with hk | hk
    · exact ⟨(h.sub k hk).1.imp (hs k) id, (h.sub k hk).2⟩
    · exact ⟨.inl hk, Nat.lt_of_lt_of_le (hS k hk) h.keep.size⟩⟩
theorem mv_down {S S' S1 : Nat → Prop} {W W' : World} (h : Mv S W S' W') (hs : ∀ k, S1 k → S' k) : Mv S W S1 W' := ⟨h.keep, fun k hk => h.sub k (hs k hk)⟩
theorem mv_new {S : Nat → Prop} {W : World} (o : Obj) (hS : ∀ k, S k → k < W.heap.size) : Mv S W (fun k => S k ∨ k = W.heap.size) (W.alloc o) :=
  ⟨⟨rfl, rfl, rfl, by simp, fun k hk _ => Below.heap_alloc W o k hk⟩, fun k hk => by
    rcases hk with hk | rfl
    · exact ⟨.inl hk, by have := hS k hk; simp; omega⟩
    · exact ⟨.inr (Nat.le_refl _), by simp⟩⟩
theorem mv_putNew {S S1 : Nat → Prop} {W W1 : World} {D : Nat} (h : Mv S W S1 W1) (hD : W.heap.size ≤ D) (o : Obj) : Mv S W S1 (W1.putObj D o) :=
  ⟨⟨h.keep.os, h.keep.tape, h.keep.output, by simpa using h.keep.size, fun k hk hn => (World.putObj_heap_other (by omega)).trans (h.keep.block k hk hn)⟩, fun k hk => ⟨(h.sub k hk).1, by simpa using (h.sub k hk).2⟩⟩
/-- The round's own block, of an atom. -/
def AtBox (W : World) (b : Nat) (x : Nat × Int) : Prop := W.heap[b]? = some (.cells #[.int .u64 x.1, .int .i64 x.2] 45 (0, 0))
theorem AtBox.c0 {W : World} {b : Nat} {x : Nat × Int} (h : AtBox W b x) : W.cell? ⟨b, 0, none⟩ = some (.int .u64 x.1) := cell_of_row _ _ 0 _ 45 (0, 0) h
theorem AtBox.c1 {W : World} {b : Nat} {x : Nat × Int} (h : AtBox W b x) : W.cell? ⟨b, 1, none⟩ = some (.int .i64 x.2) := cell_of_row _ _ 1 _ 45 (0, 0) h
theorem stab_at {B : Nat} (a' : Act) (f : Nat → (Nat × Int) → Act) : Stab B (fun x S W => ∃ b, S b ∧ a' = f b x ∧ AtBox W b x) := by
  rintro x S W W' ⟨b, hb, ha, hc⟩ _ _ _ _ h5
  exact ⟨b, hb, ha, (h5 b (Array.getElem?_eq_some_iff.1 hc).1 (.inr hb)).trans hc⟩

set_option maxHeartbeats 1000000 in
theorem within1 (A : Option Addr) (c X Y : Nat) (l : List (Nat × Int)) (s : Nat) (w1 w : World) (hX : Boxed w X 40 (.slice A l.length c)) (hY : Boxed w Y 36 (.int .u64 s)) (hs : s < 18446744073709551616) (hb : l.length ≤ 140737488355328)
    (hok : ∀ x ∈ l, x.1 < 18446744073709551616) (hr : Kd.C kdAt w1 A l.length l) (hw : Below w1.heap.size w1 w) :
    Iter Try.prog 68 #[.pointer (some ⟨X, 0, none⟩), .pointer (some ⟨Y, 0, none⟩)] (fun x => #[encA x]) ((l.filter atR).filter (fun x => wthB x.1 s)) (fun k => k < w1.heap.size ∨ k = X ∨ k = Y) w := by
  have hlt : ∀ k, (k < w1.heap.size ∨ k = X ∨ k = Y) → k < w.heap.size := fun k hk => by have := hw.size; have := hX.lt; have := hY.lt; rcases hk with h | h | h <;> omega
  refine ⟨hlt, fun y J Jx S0 W hW hS hJ hJx hYd h0 => ?_⟩
  refine calls_of_wp_marks Try.func68 rfl ?_
  simp only [Try.ntmps68, List.size_toArray, List.length_cons, List.length_nil, Nat.reduceAdd, Nat.reduceSub, Array.replicate_succ, Array.replicate_zero, List.push_toArray, List.append_toArray, List.nil_append, List.cons_append]
  have hXW : Boxed W X 40 (.slice A l.length c) := (hW.block X (.inr (.inl rfl))).trans hX
  have hcX := (hXW.alloc (.cells #[.func (.yield y) #[] #[]] 72)).cell
  have hYW : Boxed W Y 36 (.int .u64 s) := (hW.block Y (.inr (.inr rfl))).trans hY
  have hYl : Y < W.heap.size := hYW.lt
  have hwW : Below w1.heap.size w1 W := hw.trans (hW.below (fun k hk => .inl hk))
  have H1 := Lib.hid hYd
  have H2 := Lib.hid hS
  have H3 := Lib.hid hr
  have H4 := Lib.hid hok
  clear hX hY hW hlt hw hYd hS hr hok
  go_wp2_with (go_at_call 55; refine (right_any55 _ _ _ _).mono ?_; rintro e w' ⟨rfl, rfl⟩)
  obtain ⟨W0, hW0⟩ : ∃ W0, (W.alloc (.cells #[.func (.yield y) #[] #[]] 72)).alloc (.cells #[.slice A l.length c] 40) = W0 := ⟨_, rfl⟩
  rw [hW0]
  have hsz : W0.heap.size = W.heap.size + 2 := by rw [← hW0]; simp
  have b3 : Boxed W0 W.heap.size 72 (.func (.yield y) #[] #[]) := by rw [← hW0]; exact (Boxed.new W 72 _).alloc _
  have b4 : Boxed W0 (W.heap.size + 1) 40 (.slice A l.length c) := by rw [← hW0]; have := Boxed.new (W.alloc (.cells #[.func (.yield y) #[] #[]] 72)) 40 (.slice A l.length c); simpa only [World.size_alloc] using this
  have bY : Boxed W0 Y 36 (.int .u64 s) := by rw [← hW0]; exact (hYW.alloc _).alloc _
  have hbw : Below W.heap.size W W0 := by rw [← hW0]; exact ((Below.refl _ _).alloc (Nat.le_refl _) _).alloc (by simp) _
  have hw0 : Below w1.heap.size w1 W0 := hwW.trans (hbw.mono hwW.size)
  have hws := hwW.size
  have hS0 : ∀ k, S0 k → k < W.heap.size := fun k hk => (H2.out k hk).2
  have hj0 : J [] S0 W0 := Stab_below hJ h0 hbw
  clear hW0
  refine wp_range rfl (enters_of Try.func69 (by kernel_rfl) rfl) (right1 A c (W.heap.size + 1) l w1 W0 b4 hb H3.out hw0) (Same.refl _ _) (fun _ => rfl)
    S0 (fun k hk => ⟨by have := H2.out k hk; omega, by have := hS0 k hk; omega⟩)
    (fun pre S W' => Up J (pre.filter (fun x => wthB x.1 s)) S W' ∧ Boxed W' W.heap.size 72 (.func (.yield y) #[] #[]) ∧ Boxed W' Y 36 (.int .u64 s) ∧ ∀ k, S k → S0 k ∨ W0.heap.size ≤ k)
    (fun c pre S W' => (c = .ret ∧ pre.filter (fun x => wthB x.1 s) ≠ []) ∧ Up Jx (pre.filter (fun x => wthB x.1 s)) S W')
    (stab_and (stab_map (fun pre => List.filter (fun x => wthB x.1 s) pre) (stab_up (hJ.mono (by omega)))) (stab_and (stab_box (fun _ => _) (by omega)) (stab_and (stab_box (fun _ => _) (by omega)) (stab_pure (fun _ S => ∀ k, S k → S0 k ∨ W0.heap.size ≤ k)))))
    (fun c => stab_and (stab_pure (fun (pre : List (Nat × Int)) _ => c = .ret ∧ pre.filter (fun x => wthB x.1 s) ≠ [])) (stab_map (fun pre => List.filter (fun x => wthB x.1 s) pre) (stab_up (hJx.mono (by omega)))))
    ⟨⟨S0, fun _ h => h, hj0⟩, b3, bY, fun k hk => .inl hk⟩
    (fun x a' S W' => ∃ b, S b ∧ a' = { tmps := #[.func (.yield y) #[] #[], .pointer (some ⟨X, 0, none⟩), .pointer (some ⟨Y, 0, none⟩), .pointer (some ⟨W.heap.size, 0, none⟩), .pointer (some ⟨b, 0, none⟩), .slice A l.length c, .func (.func 69) #[] #[.pointer (some ⟨W.heap.size + 1, 0, none⟩)], encA x, undef, undef, undef, undef, undef, undef, undef, undef, undef, undef], defers := [] } ∧ AtBox W' b x)
    (fun a' => stab_at a' _) ?assign ?body ?done ?stop
  case assign =>
    rintro lb pre x post S W1 K he ⟨⟨S1, h1, hj⟩, hb3, hbY, hsub⟩ hS hSl hlW hwl hK
    have hK2 := hK { tmps := #[.func (.yield y) #[] #[], .pointer (some ⟨X, 0, none⟩), .pointer (some ⟨Y, 0, none⟩), .pointer (some ⟨W.heap.size, 0, none⟩), .pointer (some ⟨W1.heap.size, 0, none⟩), .slice A l.length c, .func (.func 69) #[] #[.pointer (some ⟨W.heap.size + 1, 0, none⟩)], encA x, undef, undef, undef, undef, undef, undef, undef, undef, undef, undef], defers := [] }
      (fun k => S k ∨ k = W1.heap.size) (W1.alloc (.cells #[.int .u64 x.1, .int .i64 x.2] 45)) (mv_new _ hS)
      ⟨⟨S1, fun k h => .inl (h1 k h), Stab_below hJ hj ((Below.refl _ _).alloc (Nat.le_refl _) _)⟩, hb3.alloc _, hbY.alloc _, fun k hk => by
        rcases hk with hk | rfl
        · exact hsub k hk
        · exact .inr (by omega)⟩ ⟨W1.heap.size, .inr rfl, rfl, World.alloc_heap_new _ _⟩
    have HK := Lib.hid hK2
    clear hK hK2
    unfold encA at HK ⊢
    gi_wp2
    exact HK.out
  case body =>
    rintro lb pre ⟨x1, x2⟩ post a' S W1 he hwl hry hSl hS ⟨⟨S1, h1, hj⟩, hb3, hbY, hsub⟩ ⟨b, hSb, rfl, hbx⟩
    have hc0 := hbx.c0
    have hc1 := hbx.c1
    have hc3 := hb3.cell
    have hcY := hbY.cell
    have hx1 : x1 < 18446744073709551616 := H4.out (x1, x2) (List.mem_filter.1 (show (x1, x2) ∈ l.filter atR by rw [he]; simp)).1
    rcases hR : wthB x1 s with _ | _
    · have HR := Lib.hid hR
      clear hR he hwl hbx
      unfold encA
      gi_wp2_with (refine ⟨trivial, ?_⟩; gi_at_call 64; refine (CallsIn.inRound lb (callsIn_wide.2 (wth_any _ _ _ hx1 hs))).mono ?_; rintro e w' ⟨rfl, rfl⟩; rw [HR.out])
      refine ⟨fun _ _ => trivial, ?_⟩
      gi_wp2
      refine ⟨S, Mv.refl hS, ⟨S1, h1, ?_⟩, hb3, hbY, hsub⟩
      rw [List.filter_append, List.filter_cons_of_neg (by simp [HR.out]), List.filter_nil, List.append_nil]
      exact hj
    · have he2 : List.filter (fun x => wthB x.1 s) (List.filter atR l) = pre.filter (fun x => wthB x.1 s) ++ (x1, x2) :: post.filter (fun x => wthB x.1 s) := by
        rw [he, List.filter_append, List.filter_cons_of_pos (by simp [hR])]
      obtain ⟨fn, tmps, assign, bd, hy, hRd⟩ := H1.out _ _ _ S1 W1 he2 hj
      have he3 : (pre ++ [(x1, x2)]).filter (fun x => wthB x.1 s) = pre.filter (fun x => wthB x.1 s) ++ [(x1, x2)] := by
        rw [List.filter_append, List.filter_cons_of_pos (by simp [hR]), List.filter_nil]
      have HRD := Lib.hid hRd
      have HR := Lib.hid hR
      have HE := Lib.hid he3
      have hWl : W0.heap.size ≤ W1.heap.size := by obtain ⟨r, hr⟩ := hry; have := (Array.getElem?_eq_some_iff.1 hr).1; omega
      clear hR hRd he he2 he3 hwl hbx
      unfold encA at hy ⊢
      gi_wp2_with (refine ⟨trivial, ?_⟩; gi_at_call 64; refine (CallsIn.inRound lb (callsIn_wide.2 (wth_any _ _ _ hx1 hs))).mono ?_; rintro e w' ⟨rfl, rfl⟩; rw [HR.out])
      refine (roundIn_wide_in HRD.out).mono ?_
      rintro e W3 ⟨S3, hmv, ⟨rfl, hJ3⟩ | ⟨rfl, hJ3⟩⟩
      · gi_wp2
        refine ⟨_, mv_up hmv h1 hS, ⟨S3, fun k hk => .inl hk, ?_⟩, ?_, ?_, ?_⟩
        · rw [HE.out]; exact hJ3
        · exact (hmv.keep.block _ hb3.lt (fun hk => by have := hsub _ (h1 _ hk); rcases this with h | h; have := hS0 _ h; omega; omega)).trans hb3
        · exact (hmv.keep.block _ hbY.lt (fun hk => by have := hsub _ (h1 _ hk); rcases this with h | h; exact (H2.out _ h).1 (.inr (.inr rfl)); omega)).trans hbY
        · rintro k (hk | hk)
          · rcases (hmv.sub k hk).1 with h | h
            · exact hsub k (h1 k h)
            · exact .inr (by omega)
          · exact hsub k hk
      · gi_wp2
        exact ⟨_, mv_up hmv h1 hS, ⟨rfl, by rw [HE.out]; simp⟩, S3, fun k hk => .inl hk, by rw [HE.out]; exact hJ3⟩
  case done =>
    rintro D S W1 hD hSD hmv ⟨⟨S1, h1, hj⟩, hb3, hbY, hsub⟩ hK
    simp only [Exit.inBlock]
    refine ⟨by simp, .inl ⟨_, _, rfl, run_takeDeferred hK, ?_⟩⟩
    exact ⟨_, results_none rfl _ _ _, ⟨_, rfl⟩, S1, mv_putNew ((mv_below hbw hS0).trans (mv_down hmv h1)) (by omega) _, .inl (hJ.putObj _ hj (by omega) (fun h => hSD (h1 _ h)))⟩
  case stop =>
    rintro D cc pre S W1 hD hSD hmv hne hpr ⟨⟨rfl, hne2⟩, S1, h1, hj⟩ hK
    go_wp2
    refine ⟨by simp, .inl ⟨_, _, rfl, run_takeDeferred hK, ?_⟩⟩
    exact ⟨_, results_none rfl _ _ _, ⟨_, rfl⟩, S1, mv_putNew ((mv_below hbw hS0).trans (mv_down hmv h1)) (by omega) _, .inr ⟨_, hne2, hpr.filter _, hJx.putObj _ hj (by omega) (fun h => hSD (h1 _ h))⟩⟩
end Go.Proofs.Ytnaoemcekggloaa
