/- The reserve bidders. -/
import Derived.Test.YtnaoemcekggloaaRIn
import Derived.Deep.RegionHeld3
import Derived.Deep.DrawnRows
namespace Go.Proofs.Ytnaoemcekggloaa
open Go.RowKit Go.Shelf Go.Proofs.YtnaoemcekggloaaW.PrintWords Go.Proofs.YtnaoemcekggloaaW.PrintLast Go.Proofs.YtnaoemcekggloaaW.PrintMore It
attribute [local go_sem] Oper.semAt_some
attribute [local go_sem ↓] Go.wp_at_zero Go.wp_at_succ

/-- The kind of a valuation: its atoms. -/
def kdVal : Kd (List (Nat × Int)) := Kd.slice 45 kdAt
def itemAt (x : Int × Int) : Nat × Int := (ofF [x.1], x.2)
def splitF (l : List Int) : List (List (Nat × Int)) := (resv l).map (fun x => [itemAt x])

theorem C_one {α : Type} {d : Kd α} {w : World} {e : Nat} {x : α} {cs : List Value} (hk : d.K (w.alloc (.cells cs.toArray e)) x cs) : d.C (w.alloc (.cells cs.toArray e)) (some ⟨w.heap.size, 0, none⟩) 1 [x] := by
  refine ⟨rfl, by omega, fun _ => ⟨_, rfl, fun j p hj => ?_⟩⟩
  obtain ⟨h1, h2⟩ := List.getElem?_eq_some_iff.1 hj
  simp at h1
  subst h1
  simp at h2
  subst h2
  refine ⟨cs, d.K_len hk, hk, fun i u hu => ?_⟩
  rw [Nat.zero_mul, Nat.zero_add]
  exact World.news_of_block (cs := cs.toArray) (t := e) (fr := (0, 0)) (heap_alloc_new w (.cells cs.toArray e)) i u (by simpa using hu)

theorem item_bd (x : Int × Int) (h : 0 ≤ x.1 ∧ x.1 < 64 ∧ 1 ≤ x.2 ∧ x.2 ≤ 1099511627776) : (itemAt x).1 < 18446744073709551616 ∧ atR (itemAt x) = true := by
  have h1 : itemB x.1 = true := by simp [itemB]; omega
  have e : (itemAt x).1 = 2 ^ x.1.toNat := by
    show addItem 0 x.1 = _
    rw [addItem, if_pos h1, Nat.zero_or]
  have h2 : (2 : Nat) ^ x.1.toNat < 2 ^ 64 := Nat.pow_lt_pow_right (by omega) (by omega)
  have h3 : 0 < (2 : Nat) ^ x.1.toNat := Nat.pow_pos (by omega)
  refine ⟨by rw [e]; exact h2, ?_⟩
  simp only [atR, decide_eq_true_eq]
  exact ⟨by rw [e]; omega, h.2.2.1, h.2.2.2⟩

theorem one_tab (a : Nat × Int) (h : atR a = true) : (([a].filter atR).foldl tabStep .nil).io = [a] := by
  have h2 : 1 ≤ a.2 := by simp only [atR, decide_eq_true_eq] at h; exact h.2.1
  rw [List.filter_cons_of_pos h, List.filter_nil]
  show [(a.1, max (0 : Int) a.2)] = [a]
  rw [show max (0 : Int) a.2 = a.2 by omega]

/-- New of one right atom. -/
theorem new_one (A : Option Addr) (c : Nat) (a : Nat × Int) (w : World) (h : atR a = true) (ha : a.1 < 18446744073709551616) (hr : Kd.C kdAt w A 1 [a]) :
    Calls Try.prog 24 #[.slice A 1 c] w fun e w' => ∃ A3 c3, e = .returned (.agg #[.slice A3 1 c3]) ∧ Hid (Kd.R kdAt 45 w' w.heap.size (fun k => w.heap.size ≤ k) (.slice A3 1 c3) [a]) ∧ Hid (Below w.heap.size w w') := by
  refine (new_any (fun _ => True) A c [a] w (by simp) (fun x hx => by simp at hx; subst hx; exact ha) hr (sorts_small _ (by rw [one_tab a h]; simp))).mono ?_
  rintro e w' ⟨v, ys, rfl, hp, _, hR, hb⟩
  rw [one_tab a h] at hp
  obtain rfl : ys = [a] := List.perm_singleton.1 hp
  obtain ⟨A3, c3, rfl⟩ := Kd.R_slice hR
  exact ⟨A3, c3, rfl, Lib.hid hR, Lib.hid hb⟩

/-- The box O holds an owned row of valuations, which lies in the owned blocks. -/
def OutV (O base : Nat) (xs : List (List (Nat × Int))) (S : Nat → Prop) (W : World) : Prop :=
  S O ∧ ∃ v, Boxed W O 37 v ∧ Kd.R kdVal 43 W base (fun k => S k ∧ k ≠ O) v xs
theorem stab_outv {B : Nat} (O base : Nat) {β : Type} (f : β → List (List (Nat × Int))) : Stab B (fun xs S W => OutV O base (f xs) S W) := by
  rintro xs S W W' ⟨hS, v, hb, hr⟩ _ _ _ _ hk
  exact ⟨hS, v, (hk O hb.lt (.inr hS)).trans hb, Kd.R_step hr (fun k h1 h2 => hk k h2 (.inr h1.1))⟩

/-- What stands behind the append and the store. -/
def SplitEnd (O base : Nat) (outs : List (List (Nat × Int))) (a : Nat × Int) (S : Nat → Prop) (W W5 : World) (v5 : Value) : Prop :=
  Mv S W (fun k => S k ∨ (W.heap.size ≤ k ∧ k < W5.heap.size)) (W5.setCell ⟨O, 0, none⟩ v5) ∧ OutV O base (outs ++ [[a]]) (fun k => S k ∨ (W.heap.size ≤ k ∧ k < W5.heap.size)) (W5.setCell ⟨O, 0, none⟩ v5)

theorem split_append (O base : Nat) (outs : List (List (Nat × Int))) (a : Nat × Int) (S : Nat → Prop) (W W2 : World) (hS : ∀ k, S k → k < W.heap.size) (hSO : S O) (v : Value) (hO : Boxed W O 37 v)
    (hR : Kd.R kdVal 43 W base (fun k => S k ∧ k ≠ O) v outs) (hb2 : Below W.heap.size W W2) (hbase : base ≤ W.heap.size) (hl : outs.length ≤ 64)
    (A3 : Option Addr) (c3 : Nat) (W3 : World) (hR3 : Hid (Kd.R kdAt 45 W3 W2.heap.size (fun k => W2.heap.size ≤ k) (.slice A3 1 c3) [a])) (hb3 : Hid (Below W2.heap.size W2 W3))
    (ops : Array Oper) (o : Oper) (act : Act) (K : Act → World → Prop) {Q : Exit → Act → World → Prop} {nF : Nat} (hw : Region.wanted o (yielded ops act.tmps) = true)
    (ho : o.op = .call { callee := .builtin .append, args := #[.tmp 11, .tmp 19], argTypes := #[37, 37] }) (hs : act.eval (.tmp 11) = v) (hx : act.eval (.tmp 19) = .slice (some ⟨W3.heap.size, 0, none⟩) 1 1)
    (hK : ∀ A5 c5 W5, Hid (SplitEnd O base outs a S W W5 (.slice A5 (outs.length + 1) c5)) → W5.cell? ⟨O, 0, none⟩ = some v → W5.frozen? ⟨O, 0, none⟩ = false → K (act.put o.dst (.slice A5 (outs.length + 1) c5)) W5) :
    if Region.wanted o (yielded ops act.tmps) = true then Oper.wpIn Fence.wide nF Try.prog o act (W3.alloc (.cells #[.slice A3 1 c3] 43)) K Q else (∀ f, o.about Try.prog (W3.alloc (.cells #[.slice A3 1 c3] 43)) act.eval = some f → Fence.wide.fn f) ∧ K (act.put o.dst undef) (W3.alloc (.cells #[.slice A3 1 c3] 43)) := by
  have hb23 : Below W.heap.size W W3 := hb2.trans (hb3.out.mono hb2.size)
  have hOl := hO.lt
  have hO3 : Boxed W3 O 37 v := (hb23.block O hOl).trans hO
  have hvne : some O ≠ v.ownBlock := fun e => (hR.1 _ e.symm).2 rfl
  have hvS : ∀ k, v.ownBlock = some k → S k := fun k e => (hR.1 k e).1
  have hs2 := hb2.size
  have hs3 := hb3.out.size
  have hR' := Kd.R_mono (ok' := fun k => (S k ∨ W.heap.size ≤ k) ∧ k ≠ O) (Kd.R_below hR hb23) (fun k hk => ⟨.inl hk.1, hk.2⟩)
  refine R_append_stepIn kdVal (cs := [.slice A3 1 c3]) base hw _ _ 37 43 (.agg #[.slice none 0 0]) 24 ho Try.underlying37 (by kernel_rfl) rfl (by decide) (by decide) v outs [a] (fun k => (S k ∨ W.heap.size ≤ k) ∧ k ≠ O) (fun k => W2.heap.size ≤ k) hs hx
    ⟨_, rfl, Kd.R_lower hR3.out (by omega)⟩ (fun k hk => ⟨⟨.inr (by omega), by omega⟩, fun e => by have := hS k (hvS k e.symm); omega⟩) (fun k hk => ⟨.inr (by omega), by omega⟩) hR' (by omega) (by omega) ?_
  intro v5 W5 hR5 hg5 _
  have hO5 : Boxed W5 O 37 v := hO3.kept hg5 hvne
  obtain ⟨A5, c5, hv5, _, _⟩ := Kd.R_reads hR5
  rw [List.length_append, List.length_singleton] at hv5
  subst hv5
  have hs5 := hg5.size
  refine hK A5 c5 W5 (Lib.hid ⟨⟨⟨hg5.os.trans hb23.os, hg5.tape.trans hb23.tape, hg5.output.trans hb23.output, by simp [World.setCell]; omega, fun k hk hn => ?_⟩, fun k hk => ?_⟩, .inl hSO, _, hO5.set _, ?_⟩) hO5.cell hO5.frozen
  · rw [Below.heap_setCell _ _ _ k (fun e => hn (e ▸ hSO))]
    exact (hg5.block k (by omega) (fun e => hn (hvS k e.symm))).trans (hb23.block k hk)
  · rcases hk with hk | hk
    · exact ⟨.inl hk, by have := hS k hk; simp [World.setCell]; omega⟩
    · exact ⟨.inr hk.1, by simpa [World.setCell] using hk.2⟩
  · refine Kd.R_far (p := ⟨O, 0, none⟩) (Kd.R_mono (Kd.R_bound hR5) (fun k hk => ⟨?_, hk.1.2⟩)) (fun k hk => hk.2) _
    rcases hk.1.1 with h | h
    · exact .inl h
    · exact .inr ⟨h, hk.2.2.1⟩

set_option maxHeartbeats 4000000 in
set_option maxRecDepth 4000 in
theorem split_any (A : Option Addr) (c : Nat) (l : List Int) (w : World) (hl : l.length ≤ c) (hr : Kd.C (Kd.int .i64) w A l.length l) (hb : l.length ≤ 140737488355328) :
    Calls Try.prog 16 #[.slice A l.length c] w fun e w' => ∃ v, e = .returned (.tuple #[v, .int .i64 (keptF l 18446744073709551615)]) ∧ Kd.R kdVal 43 w' w.heap.size (fun k => w.heap.size ≤ k) v (splitF l) ∧ Below w.heap.size w w' := by
  refine calls_of_wp_marks Try.func16 rfl ?_
  simp only [Try.ntmps16, List.size_toArray, List.length_cons, List.length_nil, Nat.reduceAdd, Nat.reduceSub, Array.replicate_succ, Array.replicate_zero, List.push_toArray, List.append_toArray, List.nil_append, List.cons_append]
  have HR := Lib.hid hr
  clear hr
  go_wp2_with (go_at_call 34; refine (reserved_any _ _ _ _).mono ?_; rintro e w' ⟨rfl, rfl⟩)
  obtain ⟨W0, hW0⟩ : ∃ W0, (w.alloc (.cells #[.slice none 0 0] 37)).alloc (.cells #[.slice A l.length c] 22) = W0 := ⟨_, rfl⟩
  rw [hW0]
  have hsz : W0.heap.size = w.heap.size + 2 := by rw [← hW0]; simp
  have b1 : Boxed W0 w.heap.size 37 (.slice none 0 0) := by rw [← hW0]; exact (Boxed.new w 37 _).alloc _
  have b2 : Boxed W0 (w.heap.size + 1) 22 (.slice A l.length c) := by rw [← hW0]; have := Boxed.new (w.alloc (.cells #[.slice none 0 0] 37)) 22 (.slice A l.length c); simpa only [World.size_alloc] using this
  have hbw : Below w.heap.size w W0 := by rw [← hW0]; exact ((Below.refl _ _).alloc (Nat.le_refl _) _).alloc (by simp) _
  clear hW0
  refine wp_range rfl (enters_of Try.func46 (by kernel_rfl) rfl) (reserved1 A c (w.heap.size + 1) l w W0 b2.cell b2.lt hl hb HR.out hbw) (Same.refl _ _) (fun _ => rfl)
    (fun k => k = w.heap.size) (fun k hk => ⟨by omega, by omega⟩)
    (fun pre S W => OutV w.heap.size w.heap.size (pre.map (fun x => [itemAt x])) S W)
    (fun _ _ _ _ => False)
    (stab_outv _ _ (fun (pre : List (Int × Int)) => pre.map (fun x => [itemAt x]))) (fun _ _ _ _ _ h _ _ _ _ _ => h) ⟨rfl, _, b1, Kd.R_nil _ _ _ _ _⟩
    (fun x a' _ _ => a' = { tmps := #[.slice A l.length c, undef, .slice none 0 0, .int .i64 0, .pointer (some ⟨w.heap.size, 0, none⟩), .int .i64 x.1, .int .i64 x.2, .slice A l.length c, .func (.func 46) #[] #[.pointer (some ⟨w.heap.size + 1, 0, none⟩)], .int .i64 x.1, .int .i64 x.2, undef, undef, undef, undef, undef, undef, undef, undef, undef, undef, undef, undef, undef], defers := [] }) (fun a' => stab_pure (fun x _ => a' = _)) ?assign ?body ?done ?stop
  case assign =>
    intro y pre x post S W K he hi hS _ _ _ hK
    gi_wp2
    exact hK _ _ _ (Mv.refl hS) hi rfl
  case body =>
    rintro y pre ⟨i, n⟩ post a' S W he hwy hry hSy hS ⟨hSO, v, hO, hRv⟩ rfl
    have hmem : (i, n) ∈ resv l := by rw [he]; simp
    have hx := resv_bd l _ hmem
    have hi := item_bd (i, n) ⟨hx.1, hx.2.1, hx.2.2⟩
    have hlen : (pre.map (fun x => [itemAt x])).length ≤ 64 := by have := resv_len l; rw [he] at this; simp at this ⊢; omega
    have HM := Lib.hid (show (pre ++ [(i, n)]).map (fun x => [itemAt x]) = pre.map (fun x => [itemAt x]) ++ [[itemAt (i, n)]] by simp)
    have hWW : W0.heap.size ≤ W.heap.size := by obtain ⟨r, hr⟩ := hry; have := (Array.getElem?_eq_some_iff.1 hr).1; omega
    obtain ⟨s, hs⟩ : ∃ s, itemAt (i, n) = (s, n) := ⟨_, rfl⟩
    have hof : ofF [i] = s := congrArg Prod.fst hs
    rw [hs] at HM hi
    generalize pre.map (fun x => [itemAt x]) = outs at *
    obtain ⟨Av, cv, rfl⟩ := Kd.R_slice hRv
    have HOF := Lib.hid (of_any (some ⟨W.heap.size, 0, none⟩) 1 [i] ((W.alloc (.cells #[.int .i64 i] 3)).drew) (Kd.C_below (C_one (d := Kd.int .i64) (cs := [.int .i64 i]) rfl) (below_drew _ _)) (by simp))
    have hb2 : Below W.heap.size W (((W.alloc (.cells #[.int .i64 i] 3)).alloc (.cells #[.int .u64 s, .int .i64 n] 45)).drew) := (((Below.refl _ _).alloc (Nat.le_refl _) _).alloc (by simp) _).drew
    have hOb : ∀ W', Below W.heap.size W W' → W'.cell? ⟨w.heap.size, 0, none⟩ = some (.slice Av outs.length cv) := fun W' hb => (hb.cell (p := ⟨w.heap.size, 0, none⟩) hO.lt).trans hO.cell
    have HNEW := Lib.hid (show Calls Try.prog 24 #[.slice (some ⟨W.heap.size + 1, 0, none⟩) 1 1] (((W.alloc (.cells #[.int .i64 i] 3)).alloc (.cells #[.int .u64 s, .int .i64 n] 45)).drew) (fun e w' => ∃ A3 c3, e = .returned (.agg #[.slice A3 1 c3]) ∧ Hid (Kd.R kdAt 45 w' (((W.alloc (.cells #[.int .i64 i] 3)).alloc (.cells #[.int .u64 s, .int .i64 n] 45)).drew).heap.size (fun k => (((W.alloc (.cells #[.int .i64 i] 3)).alloc (.cells #[.int .u64 s, .int .i64 n] 45)).drew).heap.size ≤ k) (.slice A3 1 c3) [(s, n)]) ∧ Hid (Below (((W.alloc (.cells #[.int .i64 i] 3)).alloc (.cells #[.int .u64 s, .int .i64 n] 45)).drew).heap.size (((W.alloc (.cells #[.int .i64 i] 3)).alloc (.cells #[.int .u64 s, .int .i64 n] 45)).drew) w') ∧ w'.cell? ⟨w.heap.size, 0, none⟩ = some (.slice Av outs.length cv) ∧ (w'.alloc (.cells #[.slice A3 1 c3] 43)).cell? ⟨w.heap.size, 0, none⟩ = some (.slice Av outs.length cv)) from
      (new_one (some ⟨W.heap.size + 1, 0, none⟩) 1 (s, n) (((W.alloc (.cells #[.int .i64 i] 3)).alloc (.cells #[.int .u64 s, .int .i64 n] 45)).drew) hi.2 hi.1 (by
        have hC := Kd.C_below (C_one (d := kdAt) (w := W.alloc (.cells #[.int .i64 i] 3)) (e := 45) (x := (s, n)) (cs := [.int .u64 s, .int .i64 n]) ⟨[_], [_], rfl, rfl, rfl⟩) (below_drew _ _)
        rwa [World.size_alloc] at hC)).mono (fun e w' ⟨A3, c3, he3, hR3, hb3⟩ =>
        ⟨A3, c3, he3, hR3, hb3, hOb w' (hb2.trans (hb3.out.mono hb2.size)), hOb (w'.alloc (.cells #[.slice A3 1 c3] 43)) ((hb2.trans (hb3.out.mono hb2.size)).alloc (Nat.le_trans hb2.size hb3.out.size) _)⟩))
    rw [hof] at HOF
    have hc0 := hOb W.drew (below_drew _ _)
    have hc1 := hOb ((W.alloc (.cells #[.int .i64 i] 3)).drew) (((Below.refl _ _).alloc (Nat.le_refl _) _).drew)
    have hc2 := hOb _ hb2
    have HAPP := Lib.hid (@split_append w.heap.size w.heap.size outs (s, n) S W _ hS hSO _ hO hRv hb2 (by omega) hlen)
    have HEND := Lib.hid (show ∀ A3 c3 W3, Hid (Kd.R kdAt 45 W3 (((W.alloc (.cells #[.int .i64 i] 3)).alloc (.cells #[.int .u64 s, .int .i64 n] 45)).drew).heap.size (fun k => ((W.alloc (.cells #[.int .i64 i] 3)).alloc (.cells #[.int .u64 s, .int .i64 n] 45)).drew.heap.size ≤ k) (.slice A3 1 c3) [(s, n)]) → Hid (Below ((W.alloc (.cells #[.int .i64 i] 3)).alloc (.cells #[.int .u64 s, .int .i64 n] 45)).drew.heap.size ((W.alloc (.cells #[.int .i64 i] 3)).alloc (.cells #[.int .u64 s, .int .i64 n] 45)).drew W3) →
        ∀ A5 c5 W5, Hid (SplitEnd w.heap.size w.heap.size outs (s, n) S W W5 (.slice A5 (outs.length + 1) c5)) → ∃ S', Mv S W S' (W5.setCell ⟨w.heap.size, 0, none⟩ (.slice A5 (outs.length + 1) c5)) ∧ OutV w.heap.size w.heap.size ((pre ++ [(i, n)]).map (fun x => [itemAt x])) S' (W5.setCell ⟨w.heap.size, 0, none⟩ (.slice A5 (outs.length + 1) c5)) from
      fun _ _ _ _ _ A5 c5 W5 h5 => ⟨_, h5.out.1, by rw [HM.out]; exact h5.out.2⟩)
    clear hmem hx hi hs hof hb2 hOb hRv hO HR he hwy hry hlen
    gi_wp2_with fail
    refine region_inRound hm_try (by kernel_rfl) ?_
    refine wpAnyIn_take (i := 1) (v := ?v1) rfl rfl (by kernel_rfl) (by kernel_rfl) (by kernel_rfl) (fun _ _ _ h => h) ⟨Or.inl ⟨by kernel_rfl, ?hy1⟩, fun _ => by kernel_rfl⟩ ?_
    case hy1 => intro w; go_simp; try with_reducible rfl
    refine wpAnyIn_take (i := 4) (v := ?v2) rfl rfl (by kernel_rfl) (by kernel_rfl) (by kernel_rfl) (fun _ _ _ h => h) ⟨Or.inl ⟨by kernel_rfl, ?hy2⟩, fun _ => by kernel_rfl⟩ ?_
    case hy2 => intro w; go_simp; try with_reducible rfl
    refine wpAnyIn_ready (rs := [0, 2]) (by kernel_rfl) (by simp) (AllReadyIn.cons rfl (fun K hK => ?_) (AllReadyIn.cons rfl (fun K hK => ?_) AllReadyIn.nil))
    · skip
      go_simp
      refine hK _ _ ?_
      clear hK K
      refine wpAnyIn_ready (rs := [2]) (by kernel_rfl) (by simp) (AllReadyIn.cons rfl (fun K hK => ?_) AllReadyIn.nil)
      go_simp
      refine hK _ _ ?_
      clear hK K
      refine wpAnyIn_ready (rs := [3]) (by kernel_rfl) (by simp) (AllReadyIn.cons rfl (fun K hK => ?_) AllReadyIn.nil)
      go_simp
      refine ⟨trivial, (callsIn_wide.2 HOF.out).mono ?_⟩
      rintro e w' ⟨rfl, rfl⟩
      refine hK _ _ ?_
      clear hK K
      refine wpAnyIn_take (i := 5) (v := ?v3) rfl rfl (by kernel_rfl) (by kernel_rfl) (by kernel_rfl) (fun _ _ _ h => h) ⟨Or.inl ⟨by kernel_rfl, ?hy3⟩, fun _ => by kernel_rfl⟩ ?_
      case hy3 => intro w; go_simp; try with_reducible rfl
      refine wpAnyIn_ready (rs := [6]) (by kernel_rfl) (by simp) (AllReadyIn.cons rfl (fun K hK => ?_) AllReadyIn.nil)
      go_simp
      refine hK _ _ ?_
      clear hK K
      refine wpAnyIn_ready (rs := [7]) (by kernel_rfl) (by simp) (AllReadyIn.cons rfl (fun K hK => ?_) AllReadyIn.nil)
      go_simp
      refine ⟨trivial, (callsIn_wide.2 HNEW.out).mono ?_⟩
      rintro e W3 ⟨A3, c3, rfl, HR3, HB3, hO3, hO4⟩
      refine hK _ _ ?_
      clear hK K
      refine wpAnyIn_ready (rs := [8]) (by kernel_rfl) (by simp) (AllReadyIn.cons rfl (fun K hK => ?_) AllReadyIn.nil)
      go_simp
      refine hK _ _ ?_
      clear hK K
      refine wpAnyIn_ready (rs := [9]) (by kernel_rfl) (by simp) (AllReadyIn.cons rfl (fun K hK => ?_) AllReadyIn.nil)
      refine HAPP.out _ _ _ HR3 HB3 _ _ _ _ rfl rfl rfl rfl ?_
      intro A5 c5 W5 H5 hc5 hf5
      refine hK _ _ ?_
      clear hK K hO3
      refine wpAnyIn_ready (rs := [10]) (by kernel_rfl) (by simp) (AllReadyIn.cons rfl (fun K hK => ?_) AllReadyIn.nil)
      go_simp
      refine hK _ _ ?_
      clear hK K
      refine wpAnyIn_done (by kernel_rfl) ?_ _
      go_simp
      exact HEND.out _ _ _ HR3 HB3 _ _ _ H5
    · skip
      go_simp
      refine hK _ _ ?_
      clear hK K
      refine wpAnyIn_ready (rs := [0, 3]) (by kernel_rfl) (by simp) (AllReadyIn.cons rfl (fun K hK => ?_) (AllReadyIn.cons rfl (fun K hK => ?_) AllReadyIn.nil))
      · skip
        go_simp
        refine hK _ _ ?_
        clear hK K
        refine wpAnyIn_ready (rs := [3]) (by kernel_rfl) (by simp) (AllReadyIn.cons rfl (fun K hK => ?_) AllReadyIn.nil)
        go_simp
        refine ⟨trivial, (callsIn_wide.2 HOF.out).mono ?_⟩
        rintro e w' ⟨rfl, rfl⟩
        refine hK _ _ ?_
        clear hK K
        refine wpAnyIn_take (i := 5) (v := ?v4) rfl rfl (by kernel_rfl) (by kernel_rfl) (by kernel_rfl) (fun _ _ _ h => h) ⟨Or.inl ⟨by kernel_rfl, ?hy4⟩, fun _ => by kernel_rfl⟩ ?_
        case hy4 => intro w; go_simp; try with_reducible rfl
        refine wpAnyIn_ready (rs := [6]) (by kernel_rfl) (by simp) (AllReadyIn.cons rfl (fun K hK => ?_) AllReadyIn.nil)
        go_simp
        refine hK _ _ ?_
        clear hK K
        refine wpAnyIn_ready (rs := [7]) (by kernel_rfl) (by simp) (AllReadyIn.cons rfl (fun K hK => ?_) AllReadyIn.nil)
        go_simp
        refine ⟨trivial, (callsIn_wide.2 HNEW.out).mono ?_⟩
        rintro e W3 ⟨A3, c3, rfl, HR3, HB3, hO3, hO4⟩
        refine hK _ _ ?_
        clear hK K
        refine wpAnyIn_ready (rs := [8]) (by kernel_rfl) (by simp) (AllReadyIn.cons rfl (fun K hK => ?_) AllReadyIn.nil)
        go_simp
        refine hK _ _ ?_
        clear hK K
        refine wpAnyIn_ready (rs := [9]) (by kernel_rfl) (by simp) (AllReadyIn.cons rfl (fun K hK => ?_) AllReadyIn.nil)
        refine HAPP.out _ _ _ HR3 HB3 _ _ _ _ rfl rfl rfl rfl ?_
        intro A5 c5 W5 H5 hc5 hf5
        refine hK _ _ ?_
        clear hK K hO3
        refine wpAnyIn_ready (rs := [10]) (by kernel_rfl) (by simp) (AllReadyIn.cons rfl (fun K hK => ?_) AllReadyIn.nil)
        go_simp
        refine hK _ _ ?_
        clear hK K
        refine wpAnyIn_done (by kernel_rfl) ?_ _
        go_simp
        exact HEND.out _ _ _ HR3 HB3 _ _ _ H5
      · skip
        go_simp
        refine ⟨trivial, (callsIn_wide.2 HOF.out).mono ?_⟩
        rintro e w' ⟨rfl, rfl⟩
        refine hK _ _ ?_
        clear hK K
        refine wpAnyIn_take (i := 5) (v := ?v5) rfl rfl (by kernel_rfl) (by kernel_rfl) (by kernel_rfl) (fun _ _ _ h => h) ⟨Or.inl ⟨by kernel_rfl, ?hy5⟩, fun _ => by kernel_rfl⟩ ?_
        case hy5 => intro w; go_simp; try with_reducible rfl
        refine wpAnyIn_ready (rs := [0, 6]) (by kernel_rfl) (by simp) (AllReadyIn.cons rfl (fun K hK => ?_) (AllReadyIn.cons rfl (fun K hK => ?_) AllReadyIn.nil))
        · skip
          go_simp
          refine hK _ _ ?_
          clear hK K
          refine wpAnyIn_ready (rs := [6]) (by kernel_rfl) (by simp) (AllReadyIn.cons rfl (fun K hK => ?_) AllReadyIn.nil)
          go_simp
          refine hK _ _ ?_
          clear hK K
          refine wpAnyIn_ready (rs := [7]) (by kernel_rfl) (by simp) (AllReadyIn.cons rfl (fun K hK => ?_) AllReadyIn.nil)
          go_simp
          refine ⟨trivial, (callsIn_wide.2 HNEW.out).mono ?_⟩
          rintro e W3 ⟨A3, c3, rfl, HR3, HB3, hO3, hO4⟩
          refine hK _ _ ?_
          clear hK K
          refine wpAnyIn_ready (rs := [8]) (by kernel_rfl) (by simp) (AllReadyIn.cons rfl (fun K hK => ?_) AllReadyIn.nil)
          go_simp
          refine hK _ _ ?_
          clear hK K
          refine wpAnyIn_ready (rs := [9]) (by kernel_rfl) (by simp) (AllReadyIn.cons rfl (fun K hK => ?_) AllReadyIn.nil)
          refine HAPP.out _ _ _ HR3 HB3 _ _ _ _ rfl rfl rfl rfl ?_
          intro A5 c5 W5 H5 hc5 hf5
          refine hK _ _ ?_
          clear hK K hO3
          refine wpAnyIn_ready (rs := [10]) (by kernel_rfl) (by simp) (AllReadyIn.cons rfl (fun K hK => ?_) AllReadyIn.nil)
          go_simp
          refine hK _ _ ?_
          clear hK K
          refine wpAnyIn_done (by kernel_rfl) ?_ _
          go_simp
          exact HEND.out _ _ _ HR3 HB3 _ _ _ H5
        · skip
          go_simp
          refine hK _ _ ?_
          clear hK K
          refine wpAnyIn_ready (rs := [0, 7]) (by kernel_rfl) (by simp) (AllReadyIn.cons rfl (fun K hK => ?_) (AllReadyIn.cons rfl (fun K hK => ?_) AllReadyIn.nil))
          · skip
            go_simp
            refine hK _ _ ?_
            clear hK K
            refine wpAnyIn_ready (rs := [7]) (by kernel_rfl) (by simp) (AllReadyIn.cons rfl (fun K hK => ?_) AllReadyIn.nil)
            go_simp
            refine ⟨trivial, (callsIn_wide.2 HNEW.out).mono ?_⟩
            rintro e W3 ⟨A3, c3, rfl, HR3, HB3, hO3, hO4⟩
            refine hK _ _ ?_
            clear hK K
            refine wpAnyIn_ready (rs := [8]) (by kernel_rfl) (by simp) (AllReadyIn.cons rfl (fun K hK => ?_) AllReadyIn.nil)
            go_simp
            refine hK _ _ ?_
            clear hK K
            refine wpAnyIn_ready (rs := [9]) (by kernel_rfl) (by simp) (AllReadyIn.cons rfl (fun K hK => ?_) AllReadyIn.nil)
            refine HAPP.out _ _ _ HR3 HB3 _ _ _ _ rfl rfl rfl rfl ?_
            intro A5 c5 W5 H5 hc5 hf5
            refine hK _ _ ?_
            clear hK K hO3
            refine wpAnyIn_ready (rs := [10]) (by kernel_rfl) (by simp) (AllReadyIn.cons rfl (fun K hK => ?_) AllReadyIn.nil)
            go_simp
            refine hK _ _ ?_
            clear hK K
            refine wpAnyIn_done (by kernel_rfl) ?_ _
            go_simp
            exact HEND.out _ _ _ HR3 HB3 _ _ _ H5
          · skip
            go_simp
            refine ⟨trivial, (callsIn_wide.2 HNEW.out).mono ?_⟩
            rintro e W3 ⟨A3, c3, rfl, HR3, HB3, hO3, hO4⟩
            refine hK _ _ ?_
            clear hK K
            refine wpAnyIn_ready (rs := [0, 8]) (by kernel_rfl) (by simp) (AllReadyIn.cons rfl (fun K hK => ?_) (AllReadyIn.cons rfl (fun K hK => ?_) AllReadyIn.nil))
            · skip
              go_simp
              refine hK _ _ ?_
              clear hK K
              refine wpAnyIn_ready (rs := [8]) (by kernel_rfl) (by simp) (AllReadyIn.cons rfl (fun K hK => ?_) AllReadyIn.nil)
              go_simp
              refine hK _ _ ?_
              clear hK K
              refine wpAnyIn_ready (rs := [9]) (by kernel_rfl) (by simp) (AllReadyIn.cons rfl (fun K hK => ?_) AllReadyIn.nil)
              refine HAPP.out _ _ _ HR3 HB3 _ _ _ _ rfl rfl rfl rfl ?_
              intro A5 c5 W5 H5 hc5 hf5
              refine hK _ _ ?_
              clear hK K hO3
              refine wpAnyIn_ready (rs := [10]) (by kernel_rfl) (by simp) (AllReadyIn.cons rfl (fun K hK => ?_) AllReadyIn.nil)
              go_simp
              refine hK _ _ ?_
              clear hK K
              refine wpAnyIn_done (by kernel_rfl) ?_ _
              go_simp
              exact HEND.out _ _ _ HR3 HB3 _ _ _ H5
            · skip
              go_simp
              refine hK _ _ ?_
              clear hK K
              refine wpAnyIn_ready (rs := [0]) (by kernel_rfl) (by simp) (AllReadyIn.cons rfl (fun K hK => ?_) AllReadyIn.nil)
              go_simp
              refine hK _ _ ?_
              clear hK K
              refine wpAnyIn_ready (rs := [9]) (by kernel_rfl) (by simp) (AllReadyIn.cons rfl (fun K hK => ?_) AllReadyIn.nil)
              refine HAPP.out _ _ _ HR3 HB3 _ _ _ _ rfl rfl rfl rfl ?_
              intro A5 c5 W5 H5 hc5 hf5
              refine hK _ _ ?_
              clear hK K hO3
              refine wpAnyIn_ready (rs := [10]) (by kernel_rfl) (by simp) (AllReadyIn.cons rfl (fun K hK => ?_) AllReadyIn.nil)
              go_simp
              refine hK _ _ ?_
              clear hK K
              refine wpAnyIn_done (by kernel_rfl) ?_ _
              go_simp
              exact HEND.out _ _ _ HR3 HB3 _ _ _ H5
  case done =>
    rintro D S W hD hSD hmv ⟨hSO, v, hO, hRv⟩ hK
    obtain ⟨Av, cv, hv⟩ := Kd.R_slice hRv
    generalize ((resv l).map (fun x => [itemAt x])).length = len at hv
    subst hv
    have hOl := hO.lt
    have hc0 := hO.cell
    have hbW : Below w.heap.size w W := hbw.trans (hmv.keep.below (by omega) (fun k hk => by omega))
    have SK := Lib.hid (show ∀ w', Below W.heap.size W w' → w'.cell? ⟨w.heap.size, 0, none⟩ = some (.slice Av len cv) from fun w' hb => (hb.cell (p := ⟨w.heap.size, 0, none⟩) hOl).trans hc0)
    have HRv := Lib.hid hRv
    have hk0 := kept_any A c l 18446744073709551615 W.drew (by omega) hl (Kd.C_below HR.out (hbW.trans (below_drew _ _))) hb
    rw [show ((18446744073709551615 : Nat) : Int) = 18446744073709551615 from rfl] at hk0
    have HK := Lib.hid hk0
    clear hRv hk0
    simp only [Exit.inBlock, Exit.then]
    go_wp2_with fail
    go_region_held3 (fun w' => w'.cell? ⟨w.heap.size, 0, none⟩ = some (.slice Av len cv))
      (first | go_keep | exact SK.out _ ((below_drew _ _).trans hb1))
      ((go_at_call 21; (with_reducible refine HK.out.mono ?_); rintro e w1 ⟨rfl, hb1⟩))
    have hb3 := (below_drew W.heap.size W).trans hb1
    go_wp2
    refine ⟨by simp, .inl ⟨_, _, rfl, run_takeDeferred ((hb3.block D (Array.getElem?_eq_some_iff.1 hK).1).trans hK), ?_⟩⟩
    refine ⟨_, results_tmp2 rfl _ _ _, _, rfl, ?_, below_putObj (hbW.trans (hb3.mono (by omega))) (by omega) _⟩
    have n1 : ∀ k, (S k ∧ k ≠ w.heap.size) → k ≠ D := fun k hk e => hSD (e ▸ hk.1)
    refine Kd.R_mono (Kd.R_move (Kd.R_below HRv.out hb3) (fun k hk => World.putObj_heap_other (n1 k hk))) (fun k hk => ?_)
    have := (hmv.sub k hk.1).1
    omega
  case stop =>
    rintro D c pre S W _ _ _ _ _ h _
    exact h.elim
end Go.Proofs.Ytnaoemcekggloaa
