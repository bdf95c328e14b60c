/- The table's walk over its tree: what yield is given, in which order. -/
import Derived.Test.YtnaoemcekggloaaPut
import Derived.Test.YtnaoemcekggloaaRes
namespace Go.Proofs.Ytnaoemcekggloaa
open Go.RowKit Go.Shelf Go.Proofs.YtnaoemcekggloaaW.PrintWords Go.Proofs.YtnaoemcekggloaaW.PrintLast Go.Proofs.YtnaoemcekggloaaW.PrintMore It
variable {G : Nat × (Nat → Prop)}
attribute [local go_sem] Oper.semAt_some

/-- the tree's pairs in their order -/
def Tr.io : Tr → List (Nat × Int)
  | .nil => []
  | .node k v l r => l.io ++ (k, v) :: r.io

theorem mv_drew {S : Nat → Prop} {W : World} (h : ∀ k, S k → k < W.heap.size) : Mv S W S W.drew := ⟨⟨rfl, rfl, rfl, Nat.le_refl _, fun _ _ _ => rfl⟩, fun k x => ⟨.inl x, h k x⟩⟩

theorem hm_try : Try.prog.follows .mixedOrders = true := by kernel_rfl

def RiseEnd (J Jx : List (Nat × Int) → (Nat → Prop) → World → Prop) (xs pre : List (Nat × Int)) (S : Nat → Prop) (W : World) (e : Ending) (W' : World) : Prop :=
  (e = .returned (.bool true) ∧ ∃ S', Mv S W S' W' ∧ J pre S' W') ∨ (e = .returned (.bool false) ∧ ∃ S' pre', Mv S W S' W' ∧ pre' ≠ [] ∧ pre' <+: xs ∧ Jx pre' S' W')

/-- what holds behind the left side's walk -/
def RiseT (y : Nat) (xs : List (Nat × Int)) (J Jx : List (Nat × Int) → (Nat → Prop) → World → Prop) (k : Nat) (v : Int) (pr : Option Addr) (b : Nat) (r : Tr) (S : Nat → Prop) (W : World) (pre : List (Nat × Int)) (S2 : Nat → Prop) (W2 : World) {l : Tr} : Prop :=
  (W2.cell? ⟨b, 0, none⟩ = some (.int .u64 k) ∧ W2.cell? ⟨b, 1, none⟩ = some (.int .i64 v) ∧ W2.cell? ⟨b, 3, none⟩ = some (.pointer pr)) ∧
  (YieldW Try.prog y #[.int .u64 k, .int .i64 v] W2 fun e W' => ∃ S', Mv S2 W2 S' W' ∧
      ((e = .returned (.bool true) ∧ J (pre ++ l.io ++ [(k, v)]) S' W') ∨ (e = .returned (.bool false) ∧ Jx (pre ++ l.io ++ [(k, v)]) S' W'))) ∧
  (∀ S3 W3, Mv S2 W2 S3 W3 → J (pre ++ l.io ++ [(k, v)]) S3 W3 → W3.cell? ⟨b, 3, none⟩ = some (.pointer pr) ∧
    Calls Try.prog 74 #[.pointer pr, .pointer none, .func (.yield y) #[] #[]] W3 (RiseEnd J Jx xs (pre ++ l.io ++ [(k, v)] ++ r.io) S3 W3) ∧
    ∀ e W4, RiseEnd J Jx xs (pre ++ l.io ++ [(k, v)] ++ r.io) S3 W3 e W4 → RiseEnd J Jx xs (pre ++ (Tr.node k v l r).io) S W e W4) ∧
  (∀ S3 W3, Mv S2 W2 S3 W3 → Jx (pre ++ l.io ++ [(k, v)]) S3 W3 → RiseEnd J Jx xs (pre ++ (Tr.node k v l r).io) S W (.returned (.bool false)) W3)

set_option maxHeartbeats 4000000 in
theorem rise_any (n y : Nat) (xs : List (Nat × Int)) (J Jx : List (Nat × Int) → (Nat → Prop) → World → Prop) (B : Nat) (hSt : Stab B J)
    (hY : ∀ pre x post S W1, xs = pre ++ x :: post → J pre S W1 → YieldW Try.prog y #[.int .u64 x.1, .int .i64 x.2] W1 fun e W' => ∃ S', Mv S W1 S' W' ∧
      ((e = .returned (.bool true) ∧ J (pre ++ [x]) S' W') ∨ (e = .returned (.bool false) ∧ Jx (pre ++ [x]) S' W'))) :
    ∀ (t : Tr) (p : Option Addr) (pre post : List (Nat × Int)) (S : Nat → Prop) (W : World), IsTr G n W p t → xs = pre ++ t.io ++ post → (∀ k, S k → n ≤ k ∧ k < W.heap.size) → n ≤ W.heap.size → J pre S W →
      Calls Try.prog 74 #[.pointer p, .pointer none, .func (.yield y) #[] #[]] W (RiseEnd J Jx xs (pre ++ t.io) S W) := by
  intro t
  induction t with
  | nil =>
    intro p pre post S W hT hx hS hn hJ
    obtain rfl : p = none := hT.1
    have HJ := Lib.hid hJ
    have HM := Lib.hid (Mv.refl (W := W) (fun k hk => (hS k hk).2))
    clear hJ hY hS
    rw [← callsIn_wide (n := 99)]
    refine callsIn_of_wp Try.func74 rfl trivial ?_ rfl
    simp only [Try.ntmps74, List.size_toArray, List.length_cons, List.length_nil, Nat.reduceAdd, Nat.reduceSub, Array.replicate_succ, Array.replicate_zero, List.push_toArray, List.append_toArray, List.nil_append, List.cons_append]
    gi_wp2
    refine bodyPost_ret (results_tmp rfl _ _ _) rfl ?_
    exact .inl ⟨rfl, S, HM.out, by simpa [Tr.io] using HJ.out⟩
  | node k v l r ihl ihr =>
    intro p pre post S W hT hx hS hn hJ
    obtain ⟨b, pl, pr, rfl, hlt, h0, h1, h2, h3, h4, h5, hl, hr, -⟩ := hT
    have hSl : ∀ k, S k → k < W.heap.size := fun k hk => (hS k hk).2
    have HD := Lib.hid (mv_drew hSl)
    have HD2 := Lib.hid (mv_drew (W := W.drew) hSl)
    have hJd : J pre S W.drew.drew := hSt _ _ _ _ hJ rfl rfl rfl (Nat.le_refl _) (fun _ _ _ => rfl)
    have IHL := Lib.hid (ihl pl pre ((k, v) :: r.io ++ post) S W.drew.drew (hl.below ((below_drew n W).trans (below_drew n W.drew))) (by rw [hx]; simp [Tr.io]) hS hn hJd)
    have HTrue := Lib.hid (show ∀ S2 W2, Mv S W.drew.drew S2 W2 → J (pre ++ l.io) S2 W2 → RiseT y xs J Jx k v pr b r S W pre S2 W2 (l := l) from fun S2 W2 hm2 hJ2 => by
      have hb2 : Below n W W2 := ((below_drew n W).trans (below_drew n W.drew)).trans (hm2.keep.below hn (fun k hk => (hS k hk).1))
      have hS2 : ∀ k, S2 k → n ≤ k ∧ k < W2.heap.size := fun k hk => ⟨by
        rcases (hm2.sub k hk).1 with h | h
        · exact (hS k h).1
        · exact Nat.le_trans hn h, (hm2.sub k hk).2⟩
      refine ⟨⟨(hb2.cell (p := ⟨b, 0, none⟩) hlt).trans h0, (hb2.cell (p := ⟨b, 1, none⟩) hlt).trans h1, (hb2.cell (p := ⟨b, 3, none⟩) hlt).trans h3⟩, hY _ (k, v) (r.io ++ post) S2 W2 (by rw [hx]; simp [Tr.io]) hJ2, ?_, ?_⟩
      · intro S3 W3 hm3 hJ3
        have hn2 : n ≤ W2.heap.size := Nat.le_trans hn hb2.size
        have hb3 : Below n W W3 := hb2.trans (hm3.keep.below hn2 (fun k hk => (hS2 k hk).1))
        have hS3 : ∀ k, S3 k → n ≤ k ∧ k < W3.heap.size := fun k hk => ⟨by
          rcases (hm3.sub k hk).1 with h | h
          · exact (hS2 k h).1
          · exact Nat.le_trans hn2 h, (hm3.sub k hk).2⟩
        have hm13 : Mv S W S3 W3 := (mv_drew hSl).trans ((mv_drew (W := W.drew) hSl).trans (hm2.trans hm3))
        refine ⟨(hb3.cell (p := ⟨b, 3, none⟩) hlt).trans h3, ihr pr _ post S3 W3 (hr.below hb3) (by rw [hx]; simp [Tr.io]) hS3 (Nat.le_trans hn hb3.size) hJ3, ?_⟩
        rintro e W4 (⟨rfl, S4, h4, hJ4⟩ | ⟨rfl, S4, pre4, h4, hne, hpr, hJ4⟩)
        · exact .inl ⟨rfl, S4, hm13.trans h4, by simpa [Tr.io] using hJ4⟩
        · exact .inr ⟨rfl, S4, pre4, hm13.trans h4, hne, hpr, hJ4⟩
      · intro S3 W3 hm3 hJ3
        exact .inr ⟨rfl, S3, _, (mv_drew hSl).trans ((mv_drew (W := W.drew) hSl).trans (hm2.trans hm3)), by simp, ⟨r.io ++ post, by rw [hx]; simp [Tr.io]⟩, hJ3⟩)
    clear hx hS hn hJ h0 h1 h3 h4 h5 hl hr ihl ihr hY hSt hSl hJd
    rw [← callsIn_wide (n := 99)]
    refine callsIn_of_wp Try.func74 rfl trivial ?_ rfl
    simp only [Try.ntmps74, List.size_toArray, List.length_cons, List.length_nil, Nat.reduceAdd, Nat.reduceSub, Array.replicate_succ, Array.replicate_zero, List.push_toArray, List.append_toArray, List.nil_append, List.cons_append]
    have hm := hm_try
    gi_wp2
    refine wpIn_region_any hm ?_
    change wpAnyIn _ _ _ _ _ _ _ _ _ (World.drew _)
    refine wpAnyIn_take (i := 0) (v := ?v1) rfl rfl (by kernel_rfl) (by kernel_rfl) (by kernel_rfl) (fun _ _ _ h => h) ⟨Or.inl ⟨by kernel_rfl, ?hy1⟩, fun _ => by kernel_rfl⟩ ?_
    case hy1 => intro w; go_simp; try with_reducible rfl
    refine wpAnyIn_take (i := 1) (v := ?v2) rfl rfl (by kernel_rfl) (by kernel_rfl) (by kernel_rfl) (fun _ _ _ h => h) ⟨Or.inl ⟨by kernel_rfl, ?hy2⟩, fun _ => by kernel_rfl⟩ ?_
    case hy2 => intro w; go_simp; try with_reducible rfl
    refine wpAnyIn_take (i := 2) (v := ?v3) rfl rfl (by kernel_rfl) (by kernel_rfl) (by kernel_rfl) (fun _ _ _ h => h) ⟨Or.inl ⟨by kernel_rfl, ?hy3⟩, fun _ => by kernel_rfl⟩ ?_
    case hy3 => intro w; go_simp; try with_reducible rfl
    refine wpAnyIn_take (i := 3) (v := undef) rfl rfl (by kernel_rfl) (by kernel_rfl) (by kernel_rfl) (fun _ _ _ h => h) ⟨Or.inr ⟨by kernel_rfl, rfl⟩, fun _ => by kernel_rfl⟩ ?_
    refine wpAnyIn_take (i := 4) (v := undef) rfl rfl (by kernel_rfl) (by kernel_rfl) (by kernel_rfl) (fun _ _ _ h => h) ⟨Or.inr ⟨by kernel_rfl, rfl⟩, fun _ => by kernel_rfl⟩ ?_
    refine wpAnyIn_take (i := 5) (v := undef) rfl rfl (by kernel_rfl) (by kernel_rfl) (by kernel_rfl) (fun _ _ _ h => h) ⟨Or.inr ⟨by kernel_rfl, rfl⟩, fun _ => by kernel_rfl⟩ ?_
    refine wpAnyIn_take (i := 6) (v := undef) rfl rfl (by kernel_rfl) (by kernel_rfl) (by kernel_rfl) (fun _ _ _ h => h) ⟨Or.inr ⟨by kernel_rfl, rfl⟩, fun _ => by kernel_rfl⟩ ?_
    refine wpAnyIn_take (i := 7) (v := undef) rfl rfl (by kernel_rfl) (by kernel_rfl) (by kernel_rfl) (fun _ _ _ h => h) ⟨Or.inr ⟨by kernel_rfl, rfl⟩, fun _ => by kernel_rfl⟩ ?_
    refine wpAnyIn_take (i := 8) (v := undef) rfl rfl (by kernel_rfl) (by kernel_rfl) (by kernel_rfl) (fun _ _ _ h => h) ⟨Or.inr ⟨by kernel_rfl, rfl⟩, fun _ => by kernel_rfl⟩ ?_
    refine wpAnyIn_take (i := 9) (v := undef) rfl rfl (by kernel_rfl) (by kernel_rfl) (by kernel_rfl) (fun _ _ _ h => h) ⟨Or.inr ⟨by kernel_rfl, rfl⟩, fun _ => by kernel_rfl⟩ ?_
    refine wpAnyIn_ready (rs := [10]) (by kernel_rfl) (by simp) (AllReadyIn.cons rfl (fun K hK => ?_) AllReadyIn.nil)
    go_simp
    refine ⟨trivial, hK _ _ ?_⟩
    clear hK K
    refine wpAnyIn_take (i := 11) (v := undef) rfl rfl (by kernel_rfl) (by kernel_rfl) (by kernel_rfl) (fun _ _ _ h => h) ⟨Or.inr ⟨by kernel_rfl, rfl⟩, fun _ => by kernel_rfl⟩ ?_
    refine wpAnyIn_take (i := 12) (v := ?v4) rfl rfl (by kernel_rfl) (by kernel_rfl) (by kernel_rfl) (fun _ _ _ h => h) ⟨Or.inl ⟨by kernel_rfl, ?hy4⟩, fun _ => by kernel_rfl⟩ ?_
    case hy4 => intro w; go_simp; try with_reducible rfl
    refine wpAnyIn_done (by kernel_rfl) ?_ _
    go_simp
    gi_wp2
    refine wpIn_region_any hm ?_
    change wpAnyIn _ _ _ _ _ _ _ _ _ (World.drew _)
    refine wpAnyIn_take (i := 0) (v := ?v5) rfl rfl (by kernel_rfl) (by kernel_rfl) (by kernel_rfl) (fun _ _ _ h => h) ⟨Or.inl ⟨by kernel_rfl, ?hy5⟩, fun _ => by kernel_rfl⟩ ?_
    case hy5 => intro w; go_simp; try with_reducible rfl
    refine wpAnyIn_take (i := 1) (v := ?v6) rfl rfl (by kernel_rfl) (by kernel_rfl) (by kernel_rfl) (fun _ _ _ h => h) ⟨Or.inl ⟨by kernel_rfl, ?hy6⟩, fun _ => by kernel_rfl⟩ ?_
    case hy6 => intro w; go_simp; try with_reducible rfl
    refine wpAnyIn_take (i := 2) (v := ?v7) rfl rfl (by kernel_rfl) (by kernel_rfl) (by kernel_rfl) (fun _ _ _ h => h) ⟨Or.inl ⟨by kernel_rfl, ?hy7⟩, fun _ => by kernel_rfl⟩ ?_
    case hy7 => intro w; go_simp; try with_reducible rfl
    refine wpAnyIn_take (i := 4) (v := ?v8) rfl rfl (by kernel_rfl) (by kernel_rfl) (by kernel_rfl) (fun _ _ _ h => h) ⟨Or.inl ⟨by kernel_rfl, ?hy8⟩, fun _ => by kernel_rfl⟩ ?_
    case hy8 => intro w; go_simp; try with_reducible rfl
    refine wpAnyIn_take (i := 5) (v := ?v9) rfl rfl (by kernel_rfl) (by kernel_rfl) (by kernel_rfl) (fun _ _ _ h => h) ⟨Or.inl ⟨by kernel_rfl, ?hy9⟩, fun _ => by kernel_rfl⟩ ?_
    case hy9 => intro w; go_simp; try with_reducible rfl
    refine wpAnyIn_ready (rs := [3]) (by kernel_rfl) (by simp) (AllReadyIn.cons rfl (fun K hK => ?_) AllReadyIn.nil)
    go_simp
    refine hK _ _ ?_
    clear hK K
    refine wpAnyIn_ready (rs := [6]) (by kernel_rfl) (by simp) (AllReadyIn.cons rfl (fun K hK => ?_) AllReadyIn.nil)
    go_simp
    refine ⟨trivial, (callsIn_wide.2 (IHL.out)).mono ?_⟩
    rintro e W2 (⟨rfl, S2, hm2, hJ2⟩ | ⟨rfl, S2, pre2, hm2, hne, hpr, hJ2⟩)
    · have HX := Lib.hid (HTrue.out S2 W2 hm2 hJ2)
      clear hm2 hJ2
      obtain ⟨g0, g1, g3⟩ := (show W2.cell? ⟨b, 0, none⟩ = some (.int .u64 k) ∧ W2.cell? ⟨b, 1, none⟩ = some (.int .i64 v) ∧ W2.cell? ⟨b, 3, none⟩ = some (.pointer pr) from HX.out.1)
      obtain ⟨fn, tmps, assign, body, hy, hR⟩ := HX.out.2.1
      have HR := Lib.hid hR
      clear hR
      refine hK _ _ ?_
      clear hK K
      refine wpAnyIn_take (i := 7) (v := ?v10) rfl rfl (by kernel_rfl) (by kernel_rfl) (by kernel_rfl) (fun _ _ _ h => h) ⟨Or.inl ⟨by kernel_rfl, ?hy10⟩, fun _ => by kernel_rfl⟩ ?_
      case hy10 => intro w; go_simp; try with_reducible rfl
      refine wpAnyIn_take (i := 8) (v := ?v11) rfl rfl (by kernel_rfl) (by kernel_rfl) (by kernel_rfl) (fun _ _ _ h => h) ⟨Or.inl ⟨by kernel_rfl, ?hy11⟩, fun _ => by kernel_rfl⟩ ?_
      case hy11 => intro w; go_simp; try with_reducible rfl
      refine wpAnyIn_take (i := 9) (v := ?v12) rfl rfl (by kernel_rfl) (by kernel_rfl) (by kernel_rfl) (fun _ _ _ h => h) ⟨Or.inl ⟨by kernel_rfl, ?hy12⟩, fun _ => by kernel_rfl⟩ ?_
      case hy12 => intro w; go_simp; try with_reducible rfl
      refine wpAnyIn_take (i := 10) (v := ?v13) rfl rfl (by kernel_rfl) (by kernel_rfl) (by kernel_rfl) (fun _ _ _ h => h) ⟨Or.inl ⟨by kernel_rfl, ?hy13⟩, fun _ => by kernel_rfl⟩ ?_
      case hy13 => intro w; go_simp; try with_reducible rfl
      refine wpAnyIn_take (i := 11) (v := ?v14) rfl rfl (by kernel_rfl) (by kernel_rfl) (by kernel_rfl) (fun _ _ _ h => h) ⟨Or.inl ⟨by kernel_rfl, ?hy14⟩, fun _ => by kernel_rfl⟩ ?_
      case hy14 => intro w; go_simp; try with_reducible rfl
      refine wpAnyIn_take (i := 13) (v := ?v15) rfl rfl (by kernel_rfl) (by kernel_rfl) (by kernel_rfl) (fun _ _ _ h => h) ⟨Or.inl ⟨by kernel_rfl, ?hy15⟩, fun _ => by kernel_rfl⟩ ?_
      case hy15 => intro w; go_simp; try with_reducible rfl
      refine wpAnyIn_take (i := 14) (v := ?v16) rfl rfl (by kernel_rfl) (by kernel_rfl) (by kernel_rfl) (fun _ _ _ h => h) ⟨Or.inl ⟨by kernel_rfl, ?hy16⟩, fun _ => by kernel_rfl⟩ ?_
      case hy16 => intro w; go_simp; try with_reducible rfl
      refine wpAnyIn_take (i := 15) (v := ?v17) rfl rfl (by kernel_rfl) (by kernel_rfl) (by kernel_rfl) (fun _ _ _ h => h) ⟨Or.inl ⟨by kernel_rfl, ?hy17⟩, fun _ => by kernel_rfl⟩ ?_
      case hy17 => intro w; go_simp; try with_reducible rfl
      refine wpAnyIn_ready (rs := [12, 16]) (by kernel_rfl) (by simp) (AllReadyIn.cons rfl (fun K hK => ?_) (AllReadyIn.cons rfl (fun K hK => ?_) AllReadyIn.nil))
      · go_simp
        refine hK _ _ ?_
        clear hK K
        refine wpAnyIn_ready (rs := [16]) (by kernel_rfl) (by simp) (AllReadyIn.cons rfl (fun K hK => ?_) AllReadyIn.nil)
        go_simp
        refine hK _ _ ?_
        clear hK K
        -- YIELD
        refine wpAnyIn_ready (rs := [17]) (by kernel_rfl) (by simp) (AllReadyIn.cons rfl (fun K hK => ?_) AllReadyIn.nil)
        go_simp
        refine (roundIn_wide HR.out).mono ?_
        rintro e W3 ⟨S3, hm3, ⟨rfl, hJ3⟩ | ⟨rfl, hJ3⟩⟩
        · have HZ := Lib.hid (HX.out.2.2.1 _ _ hm3 hJ3)
          have g4 := HZ.out.1
          clear hm3 hJ3 g0 g1 g3 hy
          refine hK _ _ ?_
          clear hK K
          refine wpAnyIn_take (i := 18) (v := ?v18) rfl rfl (by kernel_rfl) (by kernel_rfl) (by kernel_rfl) (fun _ _ _ h => h) ⟨Or.inl ⟨by kernel_rfl, ?hy18⟩, fun _ => by kernel_rfl⟩ ?_
          case hy18 => intro w; go_simp; try with_reducible rfl
          refine wpAnyIn_take (i := 19) (v := ?v19) rfl rfl (by kernel_rfl) (by kernel_rfl) (by kernel_rfl) (fun _ _ _ h => h) ⟨Or.inl ⟨by kernel_rfl, ?hy19⟩, fun _ => by kernel_rfl⟩ ?_
          case hy19 => intro w; go_simp; try with_reducible rfl
          refine wpAnyIn_take (i := 20) (v := ?v20) rfl rfl (by kernel_rfl) (by kernel_rfl) (by kernel_rfl) (fun _ _ _ h => h) ⟨Or.inl ⟨by kernel_rfl, ?hy20⟩, fun _ => by kernel_rfl⟩ ?_
          case hy20 => intro w; go_simp; try with_reducible rfl
          refine wpAnyIn_take (i := 21) (v := ?v21) rfl rfl (by kernel_rfl) (by kernel_rfl) (by kernel_rfl) (fun _ _ _ h => h) ⟨Or.inl ⟨by kernel_rfl, ?hy21⟩, fun _ => by kernel_rfl⟩ ?_
          case hy21 => intro w; go_simp; try with_reducible rfl
          refine wpAnyIn_take (i := 22) (v := ?v22) rfl rfl (by kernel_rfl) (by kernel_rfl) (by kernel_rfl) (fun _ _ _ h => h) ⟨Or.inl ⟨by kernel_rfl, ?hy22⟩, fun _ => by kernel_rfl⟩ ?_
          case hy22 => intro w; go_simp; try with_reducible rfl
          refine wpAnyIn_take (i := 24) (v := ?v23) rfl rfl (by kernel_rfl) (by kernel_rfl) (by kernel_rfl) (fun _ _ _ h => h) ⟨Or.inl ⟨by kernel_rfl, ?hy23⟩, fun _ => by kernel_rfl⟩ ?_
          case hy23 => intro w; go_simp; try with_reducible rfl
          refine wpAnyIn_ready (rs := [23]) (by kernel_rfl) (by simp) (AllReadyIn.cons rfl (fun K hK => ?_) AllReadyIn.nil)
          go_simp
          refine hK _ _ ?_
          clear hK K
          refine wpAnyIn_ready (rs := [25]) (by kernel_rfl) (by simp) (AllReadyIn.cons rfl (fun K hK => ?_) AllReadyIn.nil)
          go_simp
          refine ⟨trivial, (callsIn_wide.2 HZ.out.2.1).mono ?_⟩
          rintro e W4 h4
          rcases h4 with ⟨rfl, h4⟩ | ⟨rfl, h4⟩
          · refine hK _ _ ?_
            clear hK K
            refine wpAnyIn_take (i := 26) (v := ?v24) rfl rfl (by kernel_rfl) (by kernel_rfl) (by kernel_rfl) (fun _ _ _ h => h) ⟨Or.inl ⟨by kernel_rfl, ?hy24⟩, fun _ => by kernel_rfl⟩ ?_
            case hy24 => intro w; go_simp; try with_reducible rfl
            refine wpAnyIn_take (i := 27) (v := ?v25) rfl rfl (by kernel_rfl) (by kernel_rfl) (by kernel_rfl) (fun _ _ _ h => h) ⟨Or.inl ⟨by kernel_rfl, ?hy25⟩, fun _ => by kernel_rfl⟩ ?_
            case hy25 => intro w; go_simp; try with_reducible rfl
            refine wpAnyIn_done (by kernel_rfl) ?_ _
            go_simp
            gi_wp2
            refine bodyPost_ret (results_tmp rfl _ _ _) rfl ?_
            exact HZ.out.2.2 _ _ (.inl ⟨rfl, h4⟩)
          · refine hK _ _ ?_
            clear hK K
            refine wpAnyIn_take (i := 26) (v := ?v26) rfl rfl (by kernel_rfl) (by kernel_rfl) (by kernel_rfl) (fun _ _ _ h => h) ⟨Or.inl ⟨by kernel_rfl, ?hy26⟩, fun _ => by kernel_rfl⟩ ?_
            case hy26 => intro w; go_simp; try with_reducible rfl
            refine wpAnyIn_take (i := 27) (v := ?v27) rfl rfl (by kernel_rfl) (by kernel_rfl) (by kernel_rfl) (fun _ _ _ h => h) ⟨Or.inl ⟨by kernel_rfl, ?hy27⟩, fun _ => by kernel_rfl⟩ ?_
            case hy27 => intro w; go_simp; try with_reducible rfl
            refine wpAnyIn_done (by kernel_rfl) ?_ _
            go_simp
            gi_wp2
            refine bodyPost_ret (results_tmp rfl _ _ _) rfl ?_
            exact HZ.out.2.2 _ _ (.inr ⟨rfl, h4⟩)
        · refine hK _ _ ?_
          clear hK K g0 g1 g3 hy
          refine wpAnyIn_take (i := 18) (v := ?v28) rfl rfl (by kernel_rfl) (by kernel_rfl) (by kernel_rfl) (fun _ _ _ h => h) ⟨Or.inl ⟨by kernel_rfl, ?hy28⟩, fun _ => by kernel_rfl⟩ ?_
          case hy28 => intro w; go_simp; try with_reducible rfl
          refine wpAnyIn_take (i := 19) (v := ?v29) rfl rfl (by kernel_rfl) (by kernel_rfl) (by kernel_rfl) (fun _ _ _ h => h) ⟨Or.inl ⟨by kernel_rfl, ?hy29⟩, fun _ => by kernel_rfl⟩ ?_
          case hy29 => intro w; go_simp; try with_reducible rfl
          refine wpAnyIn_take (i := 20) (v := undef) rfl rfl (by kernel_rfl) (by kernel_rfl) (by kernel_rfl) (fun _ _ _ h => h) ⟨Or.inr ⟨by kernel_rfl, rfl⟩, fun _ => by kernel_rfl⟩ ?_
          refine wpAnyIn_take (i := 21) (v := undef) rfl rfl (by kernel_rfl) (by kernel_rfl) (by kernel_rfl) (fun _ _ _ h => h) ⟨Or.inr ⟨by kernel_rfl, rfl⟩, fun _ => by kernel_rfl⟩ ?_
          refine wpAnyIn_take (i := 22) (v := undef) rfl rfl (by kernel_rfl) (by kernel_rfl) (by kernel_rfl) (fun _ _ _ h => h) ⟨Or.inr ⟨by kernel_rfl, rfl⟩, fun _ => by kernel_rfl⟩ ?_
          refine wpAnyIn_take (i := 23) (v := undef) rfl rfl (by kernel_rfl) (by kernel_rfl) (by kernel_rfl) (fun _ _ _ h => h) ⟨Or.inr ⟨by kernel_rfl, rfl⟩, fun _ => by kernel_rfl⟩ ?_
          refine wpAnyIn_take (i := 24) (v := undef) rfl rfl (by kernel_rfl) (by kernel_rfl) (by kernel_rfl) (fun _ _ _ h => h) ⟨Or.inr ⟨by kernel_rfl, rfl⟩, fun _ => by kernel_rfl⟩ ?_
          refine wpAnyIn_ready (rs := [25]) (by kernel_rfl) (by simp) (AllReadyIn.cons rfl (fun K hK => ?_) AllReadyIn.nil)
          go_simp
          refine ⟨trivial, hK _ _ ?_⟩
          clear hK K
          refine wpAnyIn_take (i := 26) (v := ?v30) rfl rfl (by kernel_rfl) (by kernel_rfl) (by kernel_rfl) (fun _ _ _ h => h) ⟨Or.inl ⟨by kernel_rfl, ?hy30⟩, fun _ => by kernel_rfl⟩ ?_
          case hy30 => intro w; go_simp; try with_reducible rfl
          refine wpAnyIn_take (i := 27) (v := ?v31) rfl rfl (by kernel_rfl) (by kernel_rfl) (by kernel_rfl) (fun _ _ _ h => h) ⟨Or.inl ⟨by kernel_rfl, ?hy31⟩, fun _ => by kernel_rfl⟩ ?_
          case hy31 => intro w; go_simp; try with_reducible rfl
          refine wpAnyIn_done (by kernel_rfl) ?_ _
          go_simp
          gi_wp2
          refine bodyPost_ret (results_tmp rfl _ _ _) rfl ?_
          exact HX.out.2.2.2 _ _ hm3 hJ3
      · go_simp
        refine hK _ _ ?_
        clear hK K
        refine wpAnyIn_ready (rs := [12]) (by kernel_rfl) (by simp) (AllReadyIn.cons rfl (fun K hK => ?_) AllReadyIn.nil)
        go_simp
        refine hK _ _ ?_
        clear hK K
        -- YIELD
        refine wpAnyIn_ready (rs := [17]) (by kernel_rfl) (by simp) (AllReadyIn.cons rfl (fun K hK => ?_) AllReadyIn.nil)
        go_simp
        refine (roundIn_wide HR.out).mono ?_
        rintro e W3 ⟨S3, hm3, ⟨rfl, hJ3⟩ | ⟨rfl, hJ3⟩⟩
        · have HZ := Lib.hid (HX.out.2.2.1 _ _ hm3 hJ3)
          have g4 := HZ.out.1
          clear hm3 hJ3 g0 g1 g3 hy
          refine hK _ _ ?_
          clear hK K
          refine wpAnyIn_take (i := 18) (v := ?v32) rfl rfl (by kernel_rfl) (by kernel_rfl) (by kernel_rfl) (fun _ _ _ h => h) ⟨Or.inl ⟨by kernel_rfl, ?hy32⟩, fun _ => by kernel_rfl⟩ ?_
          case hy32 => intro w; go_simp; try with_reducible rfl
          refine wpAnyIn_take (i := 19) (v := ?v33) rfl rfl (by kernel_rfl) (by kernel_rfl) (by kernel_rfl) (fun _ _ _ h => h) ⟨Or.inl ⟨by kernel_rfl, ?hy33⟩, fun _ => by kernel_rfl⟩ ?_
          case hy33 => intro w; go_simp; try with_reducible rfl
          refine wpAnyIn_take (i := 20) (v := ?v34) rfl rfl (by kernel_rfl) (by kernel_rfl) (by kernel_rfl) (fun _ _ _ h => h) ⟨Or.inl ⟨by kernel_rfl, ?hy34⟩, fun _ => by kernel_rfl⟩ ?_
          case hy34 => intro w; go_simp; try with_reducible rfl
          refine wpAnyIn_take (i := 21) (v := ?v35) rfl rfl (by kernel_rfl) (by kernel_rfl) (by kernel_rfl) (fun _ _ _ h => h) ⟨Or.inl ⟨by kernel_rfl, ?hy35⟩, fun _ => by kernel_rfl⟩ ?_
          case hy35 => intro w; go_simp; try with_reducible rfl
          refine wpAnyIn_take (i := 22) (v := ?v36) rfl rfl (by kernel_rfl) (by kernel_rfl) (by kernel_rfl) (fun _ _ _ h => h) ⟨Or.inl ⟨by kernel_rfl, ?hy36⟩, fun _ => by kernel_rfl⟩ ?_
          case hy36 => intro w; go_simp; try with_reducible rfl
          refine wpAnyIn_take (i := 24) (v := ?v37) rfl rfl (by kernel_rfl) (by kernel_rfl) (by kernel_rfl) (fun _ _ _ h => h) ⟨Or.inl ⟨by kernel_rfl, ?hy37⟩, fun _ => by kernel_rfl⟩ ?_
          case hy37 => intro w; go_simp; try with_reducible rfl
          refine wpAnyIn_ready (rs := [23]) (by kernel_rfl) (by simp) (AllReadyIn.cons rfl (fun K hK => ?_) AllReadyIn.nil)
          go_simp
          refine hK _ _ ?_
          clear hK K
          refine wpAnyIn_ready (rs := [25]) (by kernel_rfl) (by simp) (AllReadyIn.cons rfl (fun K hK => ?_) AllReadyIn.nil)
          go_simp
          refine ⟨trivial, (callsIn_wide.2 HZ.out.2.1).mono ?_⟩
          rintro e W4 h4
          rcases h4 with ⟨rfl, h4⟩ | ⟨rfl, h4⟩
          · refine hK _ _ ?_
            clear hK K
            refine wpAnyIn_take (i := 26) (v := ?v38) rfl rfl (by kernel_rfl) (by kernel_rfl) (by kernel_rfl) (fun _ _ _ h => h) ⟨Or.inl ⟨by kernel_rfl, ?hy38⟩, fun _ => by kernel_rfl⟩ ?_
            case hy38 => intro w; go_simp; try with_reducible rfl
            refine wpAnyIn_take (i := 27) (v := ?v39) rfl rfl (by kernel_rfl) (by kernel_rfl) (by kernel_rfl) (fun _ _ _ h => h) ⟨Or.inl ⟨by kernel_rfl, ?hy39⟩, fun _ => by kernel_rfl⟩ ?_
            case hy39 => intro w; go_simp; try with_reducible rfl
            refine wpAnyIn_done (by kernel_rfl) ?_ _
            go_simp
            gi_wp2
            refine bodyPost_ret (results_tmp rfl _ _ _) rfl ?_
            exact HZ.out.2.2 _ _ (.inl ⟨rfl, h4⟩)
          · refine hK _ _ ?_
            clear hK K
            refine wpAnyIn_take (i := 26) (v := ?v40) rfl rfl (by kernel_rfl) (by kernel_rfl) (by kernel_rfl) (fun _ _ _ h => h) ⟨Or.inl ⟨by kernel_rfl, ?hy40⟩, fun _ => by kernel_rfl⟩ ?_
            case hy40 => intro w; go_simp; try with_reducible rfl
            refine wpAnyIn_take (i := 27) (v := ?v41) rfl rfl (by kernel_rfl) (by kernel_rfl) (by kernel_rfl) (fun _ _ _ h => h) ⟨Or.inl ⟨by kernel_rfl, ?hy41⟩, fun _ => by kernel_rfl⟩ ?_
            case hy41 => intro w; go_simp; try with_reducible rfl
            refine wpAnyIn_done (by kernel_rfl) ?_ _
            go_simp
            gi_wp2
            refine bodyPost_ret (results_tmp rfl _ _ _) rfl ?_
            exact HZ.out.2.2 _ _ (.inr ⟨rfl, h4⟩)
        · refine hK _ _ ?_
          clear hK K g0 g1 g3 hy
          refine wpAnyIn_take (i := 18) (v := ?v42) rfl rfl (by kernel_rfl) (by kernel_rfl) (by kernel_rfl) (fun _ _ _ h => h) ⟨Or.inl ⟨by kernel_rfl, ?hy42⟩, fun _ => by kernel_rfl⟩ ?_
          case hy42 => intro w; go_simp; try with_reducible rfl
          refine wpAnyIn_take (i := 19) (v := ?v43) rfl rfl (by kernel_rfl) (by kernel_rfl) (by kernel_rfl) (fun _ _ _ h => h) ⟨Or.inl ⟨by kernel_rfl, ?hy43⟩, fun _ => by kernel_rfl⟩ ?_
          case hy43 => intro w; go_simp; try with_reducible rfl
          refine wpAnyIn_take (i := 20) (v := undef) rfl rfl (by kernel_rfl) (by kernel_rfl) (by kernel_rfl) (fun _ _ _ h => h) ⟨Or.inr ⟨by kernel_rfl, rfl⟩, fun _ => by kernel_rfl⟩ ?_
          refine wpAnyIn_take (i := 21) (v := undef) rfl rfl (by kernel_rfl) (by kernel_rfl) (by kernel_rfl) (fun _ _ _ h => h) ⟨Or.inr ⟨by kernel_rfl, rfl⟩, fun _ => by kernel_rfl⟩ ?_
          refine wpAnyIn_take (i := 22) (v := undef) rfl rfl (by kernel_rfl) (by kernel_rfl) (by kernel_rfl) (fun _ _ _ h => h) ⟨Or.inr ⟨by kernel_rfl, rfl⟩, fun _ => by kernel_rfl⟩ ?_
          refine wpAnyIn_take (i := 23) (v := undef) rfl rfl (by kernel_rfl) (by kernel_rfl) (by kernel_rfl) (fun _ _ _ h => h) ⟨Or.inr ⟨by kernel_rfl, rfl⟩, fun _ => by kernel_rfl⟩ ?_
          refine wpAnyIn_take (i := 24) (v := undef) rfl rfl (by kernel_rfl) (by kernel_rfl) (by kernel_rfl) (fun _ _ _ h => h) ⟨Or.inr ⟨by kernel_rfl, rfl⟩, fun _ => by kernel_rfl⟩ ?_
          refine wpAnyIn_ready (rs := [25]) (by kernel_rfl) (by simp) (AllReadyIn.cons rfl (fun K hK => ?_) AllReadyIn.nil)
          go_simp
          refine ⟨trivial, hK _ _ ?_⟩
          clear hK K
          refine wpAnyIn_take (i := 26) (v := ?v44) rfl rfl (by kernel_rfl) (by kernel_rfl) (by kernel_rfl) (fun _ _ _ h => h) ⟨Or.inl ⟨by kernel_rfl, ?hy44⟩, fun _ => by kernel_rfl⟩ ?_
          case hy44 => intro w; go_simp; try with_reducible rfl
          refine wpAnyIn_take (i := 27) (v := ?v45) rfl rfl (by kernel_rfl) (by kernel_rfl) (by kernel_rfl) (fun _ _ _ h => h) ⟨Or.inl ⟨by kernel_rfl, ?hy45⟩, fun _ => by kernel_rfl⟩ ?_
          case hy45 => intro w; go_simp; try with_reducible rfl
          refine wpAnyIn_done (by kernel_rfl) ?_ _
          go_simp
          gi_wp2
          refine bodyPost_ret (results_tmp rfl _ _ _) rfl ?_
          exact HX.out.2.2.2 _ _ hm3 hJ3
    · refine hK _ _ ?_
      clear hK K
      refine wpAnyIn_take (i := 7) (v := ?v46) rfl rfl (by kernel_rfl) (by kernel_rfl) (by kernel_rfl) (fun _ _ _ h => h) ⟨Or.inl ⟨by kernel_rfl, ?hy46⟩, fun _ => by kernel_rfl⟩ ?_
      case hy46 => intro w; go_simp; try with_reducible rfl
      refine wpAnyIn_take (i := 8) (v := undef) rfl rfl (by kernel_rfl) (by kernel_rfl) (by kernel_rfl) (fun _ _ _ h => h) ⟨Or.inr ⟨by kernel_rfl, rfl⟩, fun _ => by kernel_rfl⟩ ?_
      refine wpAnyIn_take (i := 9) (v := undef) rfl rfl (by kernel_rfl) (by kernel_rfl) (by kernel_rfl) (fun _ _ _ h => h) ⟨Or.inr ⟨by kernel_rfl, rfl⟩, fun _ => by kernel_rfl⟩ ?_
      refine wpAnyIn_take (i := 10) (v := undef) rfl rfl (by kernel_rfl) (by kernel_rfl) (by kernel_rfl) (fun _ _ _ h => h) ⟨Or.inr ⟨by kernel_rfl, rfl⟩, fun _ => by kernel_rfl⟩ ?_
      refine wpAnyIn_take (i := 11) (v := undef) rfl rfl (by kernel_rfl) (by kernel_rfl) (by kernel_rfl) (fun _ _ _ h => h) ⟨Or.inr ⟨by kernel_rfl, rfl⟩, fun _ => by kernel_rfl⟩ ?_
      refine wpAnyIn_take (i := 12) (v := undef) rfl rfl (by kernel_rfl) (by kernel_rfl) (by kernel_rfl) (fun _ _ _ h => h) ⟨Or.inr ⟨by kernel_rfl, rfl⟩, fun _ => by kernel_rfl⟩ ?_
      refine wpAnyIn_take (i := 13) (v := undef) rfl rfl (by kernel_rfl) (by kernel_rfl) (by kernel_rfl) (fun _ _ _ h => h) ⟨Or.inr ⟨by kernel_rfl, rfl⟩, fun _ => by kernel_rfl⟩ ?_
      refine wpAnyIn_take (i := 14) (v := undef) rfl rfl (by kernel_rfl) (by kernel_rfl) (by kernel_rfl) (fun _ _ _ h => h) ⟨Or.inr ⟨by kernel_rfl, rfl⟩, fun _ => by kernel_rfl⟩ ?_
      refine wpAnyIn_take (i := 15) (v := undef) rfl rfl (by kernel_rfl) (by kernel_rfl) (by kernel_rfl) (fun _ _ _ h => h) ⟨Or.inr ⟨by kernel_rfl, rfl⟩, fun _ => by kernel_rfl⟩ ?_
      refine wpAnyIn_take (i := 16) (v := undef) rfl rfl (by kernel_rfl) (by kernel_rfl) (by kernel_rfl) (fun _ _ _ h => h) ⟨Or.inr ⟨by kernel_rfl, rfl⟩, fun _ => by kernel_rfl⟩ ?_
      refine wpAnyIn_take (i := 17) (v := undef) rfl rfl (by kernel_rfl) (by kernel_rfl) (by kernel_rfl) (fun _ _ _ h => h) ⟨Or.inr ⟨by kernel_rfl, rfl⟩, fun _ => by kernel_rfl⟩ ?_
      refine wpAnyIn_take (i := 18) (v := ?v47) rfl rfl (by kernel_rfl) (by kernel_rfl) (by kernel_rfl) (fun _ _ _ h => h) ⟨Or.inl ⟨by kernel_rfl, ?hy47⟩, fun _ => by kernel_rfl⟩ ?_
      case hy47 => intro w; go_simp; try with_reducible rfl
      refine wpAnyIn_take (i := 19) (v := ?v48) rfl rfl (by kernel_rfl) (by kernel_rfl) (by kernel_rfl) (fun _ _ _ h => h) ⟨Or.inl ⟨by kernel_rfl, ?hy48⟩, fun _ => by kernel_rfl⟩ ?_
      case hy48 => intro w; go_simp; try with_reducible rfl
      refine wpAnyIn_take (i := 20) (v := undef) rfl rfl (by kernel_rfl) (by kernel_rfl) (by kernel_rfl) (fun _ _ _ h => h) ⟨Or.inr ⟨by kernel_rfl, rfl⟩, fun _ => by kernel_rfl⟩ ?_
      refine wpAnyIn_take (i := 21) (v := undef) rfl rfl (by kernel_rfl) (by kernel_rfl) (by kernel_rfl) (fun _ _ _ h => h) ⟨Or.inr ⟨by kernel_rfl, rfl⟩, fun _ => by kernel_rfl⟩ ?_
      refine wpAnyIn_take (i := 22) (v := undef) rfl rfl (by kernel_rfl) (by kernel_rfl) (by kernel_rfl) (fun _ _ _ h => h) ⟨Or.inr ⟨by kernel_rfl, rfl⟩, fun _ => by kernel_rfl⟩ ?_
      refine wpAnyIn_take (i := 23) (v := undef) rfl rfl (by kernel_rfl) (by kernel_rfl) (by kernel_rfl) (fun _ _ _ h => h) ⟨Or.inr ⟨by kernel_rfl, rfl⟩, fun _ => by kernel_rfl⟩ ?_
      refine wpAnyIn_take (i := 24) (v := undef) rfl rfl (by kernel_rfl) (by kernel_rfl) (by kernel_rfl) (fun _ _ _ h => h) ⟨Or.inr ⟨by kernel_rfl, rfl⟩, fun _ => by kernel_rfl⟩ ?_
      refine wpAnyIn_ready (rs := [25]) (by kernel_rfl) (by simp) (AllReadyIn.cons rfl (fun K hK => ?_) AllReadyIn.nil)
      go_simp
      refine ⟨trivial, hK _ _ ?_⟩
      clear hK K
      refine wpAnyIn_take (i := 26) (v := ?v49) rfl rfl (by kernel_rfl) (by kernel_rfl) (by kernel_rfl) (fun _ _ _ h => h) ⟨Or.inl ⟨by kernel_rfl, ?hy49⟩, fun _ => by kernel_rfl⟩ ?_
      case hy49 => intro w; go_simp; try with_reducible rfl
      refine wpAnyIn_take (i := 27) (v := ?v50) rfl rfl (by kernel_rfl) (by kernel_rfl) (by kernel_rfl) (fun _ _ _ h => h) ⟨Or.inl ⟨by kernel_rfl, ?hy50⟩, fun _ => by kernel_rfl⟩ ?_
      case hy50 => intro w; go_simp; try with_reducible rfl
      refine wpAnyIn_done (by kernel_rfl) ?_ _
      go_simp
      gi_wp2
      refine bodyPost_ret (results_tmp rfl _ _ _) rfl ?_
      exact .inr ⟨rfl, S2, pre2, HD.out.trans (HD2.out.trans hm2), hne, hpr, hJ2⟩
end Go.Proofs.Ytnaoemcekggloaa
