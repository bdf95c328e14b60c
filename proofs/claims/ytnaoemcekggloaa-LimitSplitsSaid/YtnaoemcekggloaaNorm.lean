/- The normal atoms: those that no earlier one beats. -/
import Derived.Test.YtnaoemcekggloaaBeat
namespace Go.Proofs.Ytnaoemcekggloaa
open Go.RowKit Go.Shelf Go.Proofs.YtnaoemcekggloaaW.PrintWords Go.Proofs.YtnaoemcekggloaaW.PrintLast Go.Proofs.YtnaoemcekggloaaW.PrintMore It

theorem rotR_io : ∀ t : Tr, (rotR t).io = t.io
  | .nil => rfl
  | .node k v .nil r => rfl
  | .node k v (.node k1 v1 ll lr) r => by simp [rotR, Tr.io]
theorem rotL_io : ∀ t : Tr, (rotL t).io = t.io
  | .nil => rfl
  | .node k v l .nil => rfl
  | .node k v l (.node k1 v1 rl rr) => by simp [rotL, Tr.io]
theorem evenT_io (k : Nat) (v : Int) (l r : Tr) : (evenT k v l r).io = l.io ++ (k, v) :: r.io := by
  unfold evenT
  split
  · split <;> simp only [rotR_io, Tr.io, rotL_io]
  · split
    · split <;> simp only [rotL_io, Tr.io, rotR_io]
    · rfl
theorem putT_mem : ∀ (t : Tr) (k : Nat) (v : Int) (x : Nat × Int), x ∈ (putT t k v).io → x = (k, v) ∨ x ∈ t.io
  | .nil, k, v, x, h => by simpa [putT, Tr.io] using h
  | .node a b l r, k, v, x, h => by
    rw [putT] at h
    split at h
    · rw [evenT_io] at h
      rcases List.mem_append.1 h with h | h
      · exact (putT_mem l k v x h).imp id (fun h => by simp [Tr.io, h])
      · exact .inr (by rw [Tr.io]; exact List.mem_append_right _ h)
    · split at h
      · rw [evenT_io] at h
        rcases List.mem_append.1 h with h | h
        · exact .inr (by rw [Tr.io]; exact List.mem_append_left _ h)
        · rcases List.mem_cons.1 h with h | h
          · exact .inr (by simp [Tr.io, h])
          · exact (putT_mem r k v x h).imp id (fun h => by simp [Tr.io, h])
      · simp only [Tr.io] at h ⊢
        rcases List.mem_append.1 h with h | h
        · exact .inr (List.mem_append_left _ h)
        · rcases List.mem_cons.1 h with h | h
          · exact .inl h
          · exact .inr (by simp [h])
theorem tab_mem : ∀ (xs : List (Nat × Int)) (t : Tr) (x : Nat × Int), x ∈ (xs.foldl tabStep t).io → (∃ y ∈ xs, y.1 = x.1) ∨ x ∈ t.io
  | [], t, x, h => .inr h
  | y :: xs, t, x, h => by
    rcases tab_mem xs (tabStep t y) x h with ⟨z, hz, e⟩ | h
    · exact .inl ⟨z, List.mem_cons_of_mem _ hz, e⟩
    · rcases putT_mem t y.1 _ x h with rfl | h
      · exact .inl ⟨y, List.mem_cons_self, rfl⟩
      · exact .inr h

def normStep (out : List (Nat × Int)) (a : Nat × Int) : List (Nat × Int) := if out.any (btB a) = true then out else out ++ [a]
theorem norm_len : ∀ (l out : List (Nat × Int)), (l.foldl normStep out).length ≤ out.length + l.length
  | [], out => by simp
  | x :: l, out => by
    have h := norm_len l (normStep out x)
    have h2 : (normStep out x).length ≤ out.length + 1 := by unfold normStep; split <;> simp
    simp only [List.foldl_cons, List.length_cons]
    omega
theorem norm_mem : ∀ (l out : List (Nat × Int)) (x : Nat × Int), x ∈ l.foldl normStep out → x ∈ out ∨ x ∈ l
  | [], out, x, h => .inl h
  | y :: l, out, x, h => by
    rcases norm_mem l (normStep out y) x h with h | h
    · unfold normStep at h
      split at h
      · exact .inl h
      · rcases List.mem_append.1 h with h | h
        · exact .inl h
        · exact .inr (by simp at h; simp [h])
    · exact .inr (List.mem_cons_of_mem _ h)

set_option maxHeartbeats 1000000 in
theorem normal_any (So : List (Nat × Int) → Prop) (A : Option Addr) (c : Nat) (l : List (Nat × Int)) (w : World) (hb : l.length ≤ 8796093022207)
    (hok : ∀ x ∈ l, x.1 < 18446744073709551616) (hr : Kd.C kdAt w A l.length l) (hso : Sorts So ((l.filter atR).foldl tabStep .nil).io) :
    Calls Try.prog 40 #[.slice A l.length c] w fun e w' => ∃ v ys, e = .returned v ∧ ys.Perm ((l.filter atR).foldl tabStep .nil).io ∧ So ys ∧ Kd.R kdAt 45 w' w.heap.size (fun k => w.heap.size ≤ k) v (ys.foldl normStep []) ∧ Below w.heap.size w w' := by
  have HG := Lib.hid (greatest_any So A c l w hb hr hso)
  have hyok : ∀ ys : List (Nat × Int), ys.Perm ((l.filter atR).foldl tabStep .nil).io → (∀ x ∈ ys, x.1 < 18446744073709551616) ∧ ys.length ≤ 8796093022207 := fun ys hp => ⟨fun x hx => by
      rcases tab_mem _ _ x (hp.subset hx) with ⟨z, hz, e⟩ | h
      · rw [← e]; exact hok z (List.mem_filter.1 hz).1
      · simp [Tr.io] at h, by
      rw [hp.length_eq, io_len]
      have h1 := tabStep_sz (l.filter atR) .nil
      have h2 := List.length_filter_le atR l
      simp only [Tr.sz] at h1
      omega⟩
  have HYO := Lib.hid hyok
  clear hr hso hok hyok
  go_enter Try.func40, Try.ntmps40
  go_wp2_with fail
  refine HG.out.mono ?_
  rintro e w1 ⟨v, ys, rfl, hp, hso, hR1, hb1⟩
  obtain ⟨hyo, hyl⟩ := HYO.out ys hp
  obtain ⟨A1, c1, rfl, hl1, hC1⟩ := Kd.R_reads hR1
  have HP := Lib.hid hp
  have HS := Lib.hid hso
  have HY := Lib.hid hyo
  have HC := Lib.hid hC1
  have HB1 := Lib.hid hb1
  have hws := hb1.size
  clear HG HYO hp hso hR1 hC1 hb1 hyo
  go_wp2
  go_loopw [9, 3] (fun i ov wr => ∃ (k : Nat) (out : List (Nat × Int)), k ≤ ys.length ∧ i = .int .i64 k ∧ out.length ≤ k ∧ Hid (ys.foldl normStep [] = (ys.drop k).foldl normStep out) ∧ Hid (Kd.R kdAt 45 wr w1.heap.size (fun k => w1.heap.size ≤ k) ov out) ∧ Hid (Below w1.heap.size w1 wr) ∧ Hid (∀ x ∈ out, x.1 < 18446744073709551616)) (fun i _ _ => ys.length - (intOf i).toNat)
  case atStart => exact ⟨0, [], by omega, rfl, by simp, Lib.hid rfl, Lib.hid (Kd.R_nil _ _ _ _ _), Lib.hid (Below.refl _ _), Lib.hid (fun x hx => by cases hx)⟩
  case round =>
    obtain ⟨k, out, hk, rfl, hol, HE, HR, HB, HOK⟩ := hrel
    obtain ⟨A2, c2, rfl, hl2, hC2⟩ := Kd.R_reads HR.out
    by_cases hlt : k < ys.length
    · obtain ⟨ad, ⟨s, v⟩, rfl, hx, hc1, hc2⟩ := at_at (Kd.C_below HC.out HB.out) k (by omega)
      have hd := drop_at hx
      have HE2 := HE.out
      rw [hd, List.foldl_cons] at HE2
      have hxs := HY.out (s, v) (List.mem_of_getElem? hx)
      have hbw : Below wr.heap.size wr (wr.alloc (.cells #[.int .u64 s, .int .i64 v] 45)) := (Below.refl _ _).alloc (Nat.le_refl _) _
      have HBT := Lib.hid (beaten_any A2 c2 (s, v) out _ (by omega) hxs HOK.out (Kd.C_below hC2 hbw))
      have HBW := Lib.hid hbw
      unfold encA at HBT
      clear hx hd hC2 hbw
      rcases hR : out.any (btB (s, v)) with _ | _
      · have HRR := Lib.hid hR
        rw [normStep, hR, if_neg (by simp)] at HE2
        have HE3 := Lib.hid HE2
        clear HE HE2 hR
        go_wp2_with fail
        refine HBT.out.mono ?_
        rintro e w2 ⟨rfl, hb2⟩
        rw [HRR.out]
        have hbx : AtBox w2 wr.heap.size (s, v) := (hb2.block _ (by simp)).trans (World.alloc_heap_new wr _)
        have hbc0 := hbx.c0
        have hbc1 := hbx.c1
        have HB3 := Lib.hid (HBW.out.trans (hb2.mono HBW.out.size))
        have HR3 := Lib.hid (Kd.R_below HR.out HB3.out)
        have HB4 := Lib.hid (HB.out.trans (HB3.out.mono HB.out.size))
        have hs4 := HB4.out.size
        clear hbx hb2
        go_wp2_with (at_builtin; (refine Kd.R_append kdAt (w0 := w1) w1.heap.size rfl _ _ 40 45 (.agg #[.int .u64 0, .int .i64 0]) 16 rfl Try.underlying40 (by kernel_rfl) rfl (by decide) (by decide) (.slice A2 out.length c2) out (s, v) [.int .u64 s, .int .i64 v] (fun k => w1.heap.size ≤ k) (fun _ => False) rfl rfl ⟨[_], [_], rfl, rfl, rfl⟩ (fun _ h => h.elim) (fun k hk => Nat.le_trans hs4 hk) HR3.out HB4.out hs4 (by omega) ?_); intro v1 w3 hR1 hb5 hg1 hat1)
        go_roundw
        case rel => exact ⟨k + 1, out ++ [(s, v)], by omega, by go_num, by simp; omega, HE3, Lib.hid hR1, Lib.hid hb5, Lib.hid (fun x hx => by
          rcases List.mem_append.1 hx with hx | hx
          · exact HOK.out x hx
          · simp at hx; subst hx; exact hxs)⟩
        case measure => simp [intOf]; omega
      · have HRR := Lib.hid hR
        rw [normStep, hR, if_pos rfl] at HE2
        have HE3 := Lib.hid HE2
        clear HE HE2 hR
        go_wp2_with fail
        refine HBT.out.mono ?_
        rintro e w2 ⟨rfl, hb2⟩
        rw [HRR.out]
        have HB3 := Lib.hid (HBW.out.trans (hb2.mono HBW.out.size))
        have HR3 := Lib.hid (Kd.R_below HR.out HB3.out)
        have HB4 := Lib.hid (HB.out.trans (HB3.out.mono HB.out.size))
        go_wp2
        go_roundw
        case rel => exact ⟨k + 1, out, by omega, by go_num, by omega, HE3, HR3, HB4, HOK⟩
        case measure => simp [intOf]; omega
    · have hd : ys.drop k = [] := List.drop_eq_nil_of_le (by omega)
      have HE2 := HE.out
      rw [hd, List.foldl_nil] at HE2
      have HE3 := Lib.hid HE2
      clear HE HE2 hd
      go_wp2
      go_ret
      refine ⟨_, ys, rfl, HP.out, HS.out, ?_, HB1.out.trans (HB.out.mono hws)⟩
      rw [HE3.out]
      exact Kd.R_mono (Kd.R_lower HR.out hws) (fun k hk => Nat.le_trans hws hk)

theorem results_cell1 {fn : Func} {p : Tmp} {ty : TypeId} (h : fn.results = #[.cell p ty]) (tmps : Array Value) (P : Program) (w : World) :
    (results fn tmps).run P w = ((asAddr (tmps.getD p undef)).run P w).andThen fun a w₁ => (loadVar ty a).run P w₁ := by
  simp only [results, h]
  simp [Sem.run_bind, Result.andThen]

set_option maxHeartbeats 1000000 in
theorem new_any (So : List (Nat × Int) → Prop) (A : Option Addr) (c : Nat) (l : List (Nat × Int)) (w : World) (hb : l.length ≤ 8796093022207)
    (hok : ∀ x ∈ l, x.1 < 18446744073709551616) (hr : Kd.C kdAt w A l.length l) (hso : Sorts So ((l.filter atR).foldl tabStep .nil).io) :
    Calls Try.prog 24 #[.slice A l.length c] w fun e w' => ∃ v ys, e = .returned (.agg #[v]) ∧ ys.Perm ((l.filter atR).foldl tabStep .nil).io ∧ So ys ∧ Kd.R kdAt 45 w' w.heap.size (fun k => w.heap.size ≤ k) v (ys.foldl normStep []) ∧ Below w.heap.size w w' := by
  have hbw : Below w.heap.size w (w.alloc (.cells #[.slice none 0 0] 43)) := (Below.refl _ _).alloc (Nat.le_refl _) _
  have HN := Lib.hid (normal_any So A c l _ hb hok (Kd.C_below hr hbw) hso)
  have HB := Lib.hid hbw
  clear hr hso hok hbw
  go_enter Try.func24, Try.ntmps24
  go_wp2_with fail
  refine HN.out.mono ?_
  rintro e w1 ⟨v, ys, rfl, hp, hso, hR1, hb1⟩
  obtain ⟨A1, c1, rfl, hl1, hC1⟩ := Kd.R_reads hR1
  have hbx : Boxed w1 w.heap.size 43 (.slice none 0 0) := (hb1.block _ (by simp)).trans (World.alloc_heap_new w _)
  have hc0 := hbx.cell
  have hf0 := hbx.frozen
  go_wp2
  have hset := (hbx.set (.slice A1 (ys.foldl normStep []).length c1)).cell
  refine ⟨rfl, .agg #[.slice A1 (ys.foldl normStep []).length c1], ?_, _, ys, rfl, hp, hso, ?_, ?_⟩
  · rw [results_cell1 rfl]
    generalize (w1.setCell ⟨w.heap.size, 0, none⟩ (.slice A1 (ys.foldl normStep []).length c1)) = w5 at hset
    clear hbx hc0 hf0 hR1 hC1
    go_simp
  · refine Kd.R_mono (Kd.R_lower (Kd.R_far (p := ⟨w.heap.size, 0, none⟩) hR1 (fun k hk => ?_) _) (by simp)) (fun k hk => by simp at hk; omega)
    simp at hk
    show k ≠ w.heap.size
    omega
  · exact (HB.out.trans (hb1.mono (by simp))).setCell (p := ⟨w.heap.size, 0, none⟩) (Nat.le_refl _) _
end Go.Proofs.Ytnaoemcekggloaa
