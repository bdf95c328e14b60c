/- The greatest value of each set, in order. -/
import Derived.Test.YtnaoemcekggloaaApp
namespace Go.Proofs.Ytnaoemcekggloaa
open Go.RowKit Go.Shelf Go.Proofs.YtnaoemcekggloaaW.PrintWords Go.Proofs.YtnaoemcekggloaaW.PrintLast Go.Proofs.YtnaoemcekggloaaW.PrintMore It
attribute [local go_sem] Oper.semAt_some

def tabStep (t : Tr) (x : Nat × Int) : Tr := putT t x.1 (max ((findV t x.1).getD 0) x.2)
theorem tabStep_sz : ∀ (xs : List (Nat × Int)) (t : Tr), (xs.foldl tabStep t).sz ≤ t.sz + xs.length
  | [], t => by simp
  | x :: xs, t => by
    have h1 := tabStep_sz xs (tabStep t x)
    have h2 := putT_sz t x.1 (max ((findV t x.1).getD 0) x.2)
    simp only [List.foldl_cons, List.length_cons]
    simp only [tabStep] at *
    omega

/-- What a sorting of ys leaves. -/
def Sorts (So : List (Nat × Int) → Prop) (ys : List (Nat × Int)) : Prop :=
  ∀ (w : World) (base : Nat) (ok : Nat → Prop) (v : Value), Kd.R kdAt 45 w base ok v ys →
    Calls Try.prog 59 #[v, .func (.func 60) #[] #[]] w fun e w' => e = .returned (.tuple #[]) ∧ ∃ zs, zs.Perm ys ∧ So zs ∧ Kd.R kdAt 45 w' base ok v zs ∧ Keep (fun k => some k = v.ownBlock) w w'

theorem TabIn.new {T : Nat} {t : Tr} {S : Nat → Prop} {W : World} (h : TabIn T t S W) (o : Obj) : TabIn T t (fun k => S k ∨ k = W.heap.size) (W.alloc o) := by
  obtain ⟨hT, p, hp, ht⟩ := h
  refine ⟨.inl hT, p, hp.alloc o, IsTr.conv (Nat.le_refl _) (fun b hb hg => ⟨by simp; omega, .inr ?_, Below.heap_alloc W o b hb⟩) ht⟩
  rcases hg with hg | hg
  · exact absurd hg (by simp; omega)
  · exact .inl hg

theorem io_len : ∀ t : Tr, t.io.length = t.sz
  | .nil => rfl
  | .node k v l r => by simp only [Tr.io, Tr.sz, List.length_append, List.length_cons, io_len l, io_len r]; omega
/-- The box O holds an owned row of the atoms xs, which lies in the owned blocks. -/
def OutRow (O base : Nat) (xs : List (Nat × Int)) (S : Nat → Prop) (W : World) : Prop :=
  S O ∧ ∃ v, Boxed W O 40 v ∧ Kd.R kdAt 45 W base (fun k => S k ∧ k ≠ O) v xs
theorem stab_out {B : Nat} (O base : Nat) : Stab B (fun xs S W => OutRow O base xs S W) := by
  rintro xs S W W' ⟨hS, v, hb, hr⟩ _ _ _ _ hk
  exact ⟨hS, v, (hk O hb.lt (.inr hS)).trans hb, Kd.R_step hr (fun k h1 h2 => hk k h2 (.inr h1.1))⟩

set_option maxHeartbeats 1000000 in
theorem greatest_any (So : List (Nat × Int) → Prop) (A : Option Addr) (c : Nat) (l : List (Nat × Int)) (w : World) (hb : l.length ≤ 8796093022207)
    (hr : Kd.C kdAt w A l.length l) (hso : Sorts So ((l.filter atR).foldl tabStep .nil).io) :
    Calls Try.prog 49 #[.slice A l.length c] w fun e w' => ∃ v ys, e = .returned v ∧ ys.Perm ((l.filter atR).foldl tabStep .nil).io ∧ So ys ∧ Kd.R kdAt 45 w' w.heap.size (fun k => w.heap.size ≤ k) v ys ∧ Below w.heap.size w w' := by
  refine calls_of_wp_marks Try.func49 rfl ?_
  simp only [Try.ntmps49, List.size_toArray, List.length_cons, List.length_nil, Nat.reduceAdd, Nat.reduceSub, Array.replicate_succ, Array.replicate_zero, List.push_toArray, List.append_toArray, List.nil_append, List.cons_append]
  have HR := Lib.hid hr
  have HSO := Lib.hid hso
  clear hr hso
  go_wp2_with (go_at_call 55; refine (right_any55 _ _ _ _).mono ?_; rintro e w' ⟨rfl, rfl⟩)
  obtain ⟨W0, hW0⟩ : ∃ W0, (w.alloc (.cells #[.pointer none] 98)).alloc (.cells #[.slice A l.length c] 40) = W0 := ⟨_, rfl⟩
  rw [hW0]
  have hsz : W0.heap.size = w.heap.size + 2 := by rw [← hW0]; simp
  have b1 : Boxed W0 w.heap.size 98 (.pointer none) := by rw [← hW0]; exact (Boxed.new w 98 _).alloc _
  have b2 : Boxed W0 (w.heap.size + 1) 40 (.slice A l.length c) := by rw [← hW0]; have := Boxed.new (w.alloc (.cells #[.pointer none] 98)) 40 (.slice A l.length c); simpa only [World.size_alloc] using this
  have hbw : Below w.heap.size w W0 := by rw [← hW0]; exact ((Below.refl _ _).alloc (Nat.le_refl _) _).alloc (by simp) _
  clear hW0
  have hit := right1 A c (w.heap.size + 1) l w W0 b2 (by omega) HR.out hbw
  have hlen : (l.filter atR).length ≤ 8796093022207 := Nat.le_trans (List.length_filter_le _ _) hb
  obtain ⟨xs, hxs⟩ : ∃ xs, l.filter atR = xs := ⟨_, rfl⟩
  rw [hxs] at hit HSO hlen
  refine wp_range rfl (enters_of Try.func69 (by kernel_rfl) rfl) hit (Same.refl _ _) (fun _ => rfl)
    (fun k => k = w.heap.size) (fun k hk => ⟨by omega, by omega⟩)
    (fun pre S W => TabIn w.heap.size (pre.foldl tabStep .nil) S W)
    (fun _ _ _ _ => False)
    (stab_tab w.heap.size (fun (pre : List (Nat × Int)) => pre.foldl tabStep .nil)) (fun _ _ _ _ _ h _ _ _ _ _ => h) ⟨rfl, _, b1, rfl, Nat.le_refl _⟩
    (fun x a' S W' => ∃ b, S b ∧ a' = { tmps := #[.slice A l.length c, undef, .slice none 0 0, .pointer (some ⟨w.heap.size, 0, none⟩), .pointer (some ⟨b, 0, none⟩), undef, undef, undef, undef, undef, .slice A l.length c, .func (.func 69) #[] #[.pointer (some ⟨w.heap.size + 1, 0, none⟩)], encA x, undef, undef, undef, undef, undef, undef, undef, undef, undef, undef, undef, undef, undef, undef, undef, undef, undef, undef, undef, undef, undef, undef, undef, undef, undef], defers := [] } ∧ AtBox W' b x)
    (fun a' => stab_at a' _) ?assign ?body ?done ?stop
  case assign =>
    rintro lb pre x post S W1 K he htab hS hSl hlW hwl hK
    have hK2 := hK { tmps := #[.slice A l.length c, undef, .slice none 0 0, .pointer (some ⟨w.heap.size, 0, none⟩), .pointer (some ⟨W1.heap.size, 0, none⟩), undef, undef, undef, undef, undef, .slice A l.length c, .func (.func 69) #[] #[.pointer (some ⟨w.heap.size + 1, 0, none⟩)], encA x, undef, undef, undef, undef, undef, undef, undef, undef, undef, undef, undef, undef, undef, undef, undef, undef, undef, undef, undef, undef, undef, undef, undef, undef, undef], defers := [] }
      (fun k => S k ∨ k = W1.heap.size) (W1.alloc (.cells #[.int .u64 x.1, .int .i64 x.2] 45)) (mv_new _ hS) (TabIn.new htab _) ⟨W1.heap.size, .inr rfl, rfl, World.alloc_heap_new _ _⟩
    have HK := Lib.hid hK2
    clear hK hK2
    unfold encA at HK ⊢
    gi_wp2
    exact HK.out
  case body =>
    rintro lb pre ⟨x1, x2⟩ post a' S W1 he hwl hry hSl hS htab ⟨b, hSb, rfl, hbx⟩
    have hc0 := hbx.c0
    have hc1 := hbx.c1
    have hlen2 : pre.length + 1 ≤ 8796093022207 := by rw [he] at hlen; simp at hlen; omega
    have hsz2 := tabStep_sz pre .nil
    simp only [Tr.sz] at hsz2
    have HF := Lib.hid (show (pre ++ [(x1, x2)]).foldl tabStep .nil = putT (pre.foldl tabStep .nil) x1 (max ((findV (pre.foldl tabStep .nil) x1).getD 0) x2) by rw [List.foldl_append]; rfl)
    generalize pre.foldl tabStep .nil = t at *
    have HT := Lib.hid htab
    clear he hwl htab hry hbx
    unfold encA
    gi_wp2_with (refine ⟨trivial, ?_⟩; gi_at_call 56; refine (CallsIn.inRound lb (callsIn_wide.2 (get_any _ _ _ x1 _ HT.out.2))).mono ?_; rintro e w' ⟨rfl, rfl⟩)
    all_goals
      refine ⟨trivial, (CallsIn.inRound lb (callsIn_wide.2 (tput_any (G := (W1.heap.size, S)) w.heap.size t x1 _ W1 HT.out.2 (by omega)))).mono ?_⟩
      rintro e w2 ⟨rfl, htab2, hk2⟩
      gi_wp2
      obtain ⟨hm2, ht2⟩ := TabIn.put HT.out hS hk2 htab2
      refine ⟨_, hm2, ?_⟩
      show TabIn w.heap.size ((pre ++ [(x1, x2)]).foldl tabStep .nil) _ w2
      rw [HF.out]
      first
        | (rw [show max ((findV t x1).getD 0) x2 = x2 by omega]; exact ht2)
        | (rw [show max ((findV t x1).getD 0) x2 = (findV t x1).getD 0 by omega]; exact ht2)
  case done =>
    rintro D S W1 hD hSD hmv htab hK
    have hSl : ∀ k, S k → k < W1.heap.size := fun k hk => (hmv.sub k hk).2
    have hW01 := hmv.keep.size
    have hTl : w.heap.size < W1.heap.size := by omega
    have hbw1 : Below w.heap.size w W1 := hbw.trans (hmv.keep.below (by omega) (fun k hk => by omega))
    go_wp2_with (go_at_call 58; refine (all_any _ _).mono ?_; rintro e w' ⟨rfl, rfl⟩)
    obtain ⟨W2, hW2⟩ : ∃ W2, (W1.alloc (.cells #[.slice none 0 0] 40)).alloc (.cells #[.pointer (some ⟨w.heap.size, 0, none⟩)] 113) = W2 := ⟨_, rfl⟩
    rw [hW2]
    have hsz2 : W2.heap.size = W1.heap.size + 2 := by rw [← hW2]; simp
    have c1 : Boxed W2 W1.heap.size 40 (.slice none 0 0) := by rw [← hW2]; exact (Boxed.new W1 40 _).alloc _
    have c2 : Boxed W2 (W1.heap.size + 1) 113 (.pointer (some ⟨w.heap.size, 0, none⟩)) := by rw [← hW2]; have := Boxed.new (W1.alloc (.cells #[.slice none 0 0] 40)) 113 (.pointer (some ⟨w.heap.size, 0, none⟩)); simpa only [World.size_alloc] using this
    have hbw2 : Below W1.heap.size W1 W2 := by rw [← hW2]; exact ((Below.refl _ _).alloc (Nat.le_refl _) _).alloc (by simp) _
    have hKd : W2.heap[D]? = some (.deferred (some [])) := (hbw2.block D (Array.getElem?_eq_some_iff.1 hK).1).trans hK
    have hDl : D < W1.heap.size := (Array.getElem?_eq_some_iff.1 hK).1
    clear hW2
    have hit2 := all1 (G := (W1.heap.size, S)) W1.heap.size w.heap.size (W1.heap.size + 1) (xs.foldl tabStep .nil) W1 W2 c2 htab.2 (Nat.le_refl _) hTl hbw2
    have hiol := io_len (xs.foldl tabStep .nil)
    have htsz := tabStep_sz xs .nil
    simp only [Tr.sz] at htsz
    obtain ⟨t, ht⟩ : ∃ t, xs.foldl tabStep .nil = t := ⟨_, rfl⟩
    rw [ht] at hit2 HSO hiol htsz
    have hyl : t.io.length ≤ 8796093022207 := by omega
    obtain ⟨ys, hys⟩ : ∃ ys, t.io = ys := ⟨_, rfl⟩
    rw [hys] at hit2 HSO hyl
    refine wp_range rfl (enters_of Try.func73 (by kernel_rfl) rfl) hit2 (Same.refl _ _) (fun _ => rfl)
      (fun k => k = W1.heap.size) (fun k hk => ⟨by omega, by omega⟩)
      (fun pre S W => OutRow W1.heap.size w.heap.size pre S W)
      (fun _ _ _ _ => False)
      (stab_out _ _) (fun _ _ _ _ _ h _ _ _ _ _ => h) ⟨rfl, _, c1, Kd.R_nil _ _ _ _ _⟩
      (fun x a' _ _ => a' = { tmps := #[.slice A l.length c, undef, .slice none 0 0, .pointer (some ⟨w.heap.size, 0, none⟩), undef, undef, undef, .pointer (some ⟨W1.heap.size, 0, none⟩), .int .u64 x.1, .int .i64 x.2, .slice A l.length c, .func (.func 69) #[] #[.pointer (some ⟨w.heap.size + 1, 0, none⟩)], undef, undef, undef, undef, undef, undef, undef, undef, undef, undef, undef, undef, undef, undef, .func (.func 73) #[] #[.pointer (some ⟨W1.heap.size + 1, 0, none⟩)], .int .u64 x.1, .int .i64 x.2, undef, undef, undef, undef, undef, undef, undef, undef, undef], defers := [] })
      (fun a' => stab_pure (fun x _ => a' = _)) ?assign2 ?body2 ?done2 ?stop2
    case assign2 =>
      intro y pre x post S W K he hi hS _ _ _ hK
      gi_wp2
      exact hK _ _ _ (Mv.refl hS) hi rfl
    case body2 =>
      rintro lb pre ⟨x1, x2⟩ post a' S3 W3 he hwl hry hSl3 hS3 ⟨hSO, v, hbv, hRv⟩ rfl
      have hcv := hbv.cell
      have hlp : pre.length + 1 ≤ 8796093022207 := by rw [he] at hyl; simp at hyl; omega
      have HRV := Lib.hid (Kd.R_mono (ok' := fun k => (S3 k ∨ W3.heap.size ≤ k) ∧ k ≠ W1.heap.size) hRv (fun k hk => ⟨.inl hk.1, hk.2⟩))
      have hvne : some W1.heap.size ≠ v.ownBlock := fun e => (hRv.1 _ e.symm).2 rfl
      have hvS : ∀ k, v.ownBlock = some k → S3 k := fun k e => (hRv.1 k e).1
      have hOl := hbv.lt
      have hws : w.heap.size ≤ W3.heap.size := by omega
      clear hRv he hry hKd
      gi_wp2_with (gi_at_builtin; (refine R_appendIn kdAt w.heap.size rfl _ _ 40 45 (.agg #[.int .u64 0, .int .i64 0]) 16 rfl Try.underlying40 (by kernel_rfl) rfl (by decide) (by decide) v pre (x1, x2) [.int .u64 x1, .int .i64 x2] (fun k => (S3 k ∨ W3.heap.size ≤ k) ∧ k ≠ W1.heap.size) (fun _ => False) rfl rfl ⟨[_], [_], rfl, rfl, rfl⟩ (fun _ h => h.elim) (fun k hk => ⟨.inr hk, by omega⟩) HRV.out hws (by omega) ?_); intro v1 w3 hR1 hg1 hat1; have hbv1 : Boxed w3 W1.heap.size 40 v := hbv.kept hg1 hvne; have hcv1 := hbv1.cell; have hfv1 := hbv1.frozen; have hR1' := hR1; obtain ⟨A1, c1, hv1, hl1, hC1⟩ := Kd.R_reads hR1'; rw [List.length_append, List.length_singleton] at hv1; subst hv1; clear hC1 hR1' hbv hcv)
      have hsz3 : W3.heap.size ≤ w3.heap.size := hg1.size
      have hmv3 : Mv S3 W3 (fun k => S3 k ∨ (W3.heap.size ≤ k ∧ k < w3.heap.size)) (w3.setCell ⟨W1.heap.size, 0, none⟩ (.slice A1 (pre.length + 1) c1)) := by
        refine ⟨⟨hg1.os, hg1.tape, hg1.output, by simpa [World.setCell] using hsz3, fun k hk hn => ?_⟩, fun k hk => ?_⟩
        · rw [Below.heap_setCell _ _ _ k (fun e => hn (e ▸ hSO))]
          exact hg1.block k hk (fun e => hn (hvS k e.symm))
        · rcases hk with hk | hk
          · exact ⟨.inl hk, by have := hS3 k hk; simp [World.setCell]; omega⟩
          · exact ⟨.inr hk.1, by simpa [World.setCell] using hk.2⟩
      refine ⟨_, hmv3, .inl hSO, _, hbv1.set _, ?_⟩
      refine Kd.R_far (p := ⟨W1.heap.size, 0, none⟩) (Kd.R_mono (Kd.R_bound hR1) (fun k hk => ⟨?_, hk.1.2⟩)) (fun k hk => hk.2) _
      rcases hk.1.1 with h | h
      · exact .inl h
      · exact .inr ⟨h, hk.2.2.1⟩
    case done2 =>
      rintro D2 S3 W3 hD2 hSD2 hmv3 ⟨hSO, v, hbv, hRv⟩ hK2
      have hcv := hbv.cell
      have HRv := Lib.hid hRv
      have hbw3 : Below w.heap.size w W3 := hbw1.trans ((hbw2.mono (by omega)).trans (hmv3.keep.below (by omega) (fun k hk => by omega)))
      obtain ⟨Av, cv, rfl⟩ := Kd.R_slice hRv
      have hSD : ¬ S3 D := fun h => by
        rcases (hmv3.sub D h).1 with h | h
        · omega
        · omega
      have hKD3 : W3.heap[D]? = some (.deferred (some [])) := (hmv3.keep.block D (by omega) (by omega)).trans hKd
      clear hRv
      simp only [Exit.inBlock, Exit.then]
      go_wp2_with fail
      refine (HSO.out _ _ _ _ HRv.out).mono ?_
      rintro e W4 ⟨rfl, zs, hperm, hsoz, hR4, hk4⟩
      have hO4 : Boxed W4 W1.heap.size 40 _ := (hk4.block _ hbv.lt (fun e => (HRv.out.1 _ e.symm).2 rfl)).trans hbv
      have hcv4 := hO4.cell
      have HR4 := Lib.hid hR4
      have hDv : some D ≠ (Value.slice Av ys.length cv).ownBlock := fun e => hSD (HRv.out.1 _ e.symm).1
      have hD2v : some D2 ≠ (Value.slice Av ys.length cv).ownBlock := fun e => hSD2 (HRv.out.1 _ e.symm).1
      have hK4 : W4.heap[D]? = some (.deferred (some [])) := (hk4.block D (Array.getElem?_eq_some_iff.1 hKD3).1 (fun e => hDv e)).trans hKD3
      have hK24 : W4.heap[D2]? = some (.deferred (some [])) := (hk4.block D2 (Array.getElem?_eq_some_iff.1 hK2).1 (fun e => hD2v e)).trans hK2
      have hbw4 : Below w.heap.size w W4 := hbw3.trans (hk4.below (by have := hbw3.size; omega) (fun k hk => own_base HRv.out.2.choose_spec.1 k hk.symm))
      go_wp2
      refine ⟨by simp, .inl ⟨_, _, rfl, run_takeDeferred hK24, ?_⟩⟩
      have hDD : D ≠ D2 := by omega
      refine ⟨by simp, .inl ⟨_, _, rfl, run_takeDeferred ((World.putObj_heap_other hDD).trans hK4), ?_⟩⟩
      refine ⟨_, results_tmp rfl _ _ _, _, zs, rfl, by rw [hxs, ht, hys]; exact hperm, hsoz, ?_, below_putObj (below_putObj hbw4 (by omega) _) (by omega) _⟩
      have n1 : ∀ k, (S3 k ∧ k ≠ W1.heap.size) → k ≠ D2 := fun k hk e => hSD2 (e ▸ hk.1)
      have n2 : ∀ k, (S3 k ∧ k ≠ W1.heap.size) → k ≠ D := fun k hk e => hSD (e ▸ hk.1)
      refine Kd.R_mono (Kd.R_move (Kd.R_move HR4.out (fun k hk => World.putObj_heap_other (n1 k hk))) (fun k hk => World.putObj_heap_other (n2 k hk))) (fun k hk => ?_)
      have := (hmv3.sub k hk.1).1
      omega
    case stop2 =>
      rintro D c pre S W _ _ _ _ _ h _
      exact h.elim
  case stop =>
    rintro D c pre S W _ _ _ _ _ h _
    exact h.elim
end Go.Proofs.Ytnaoemcekggloaa
