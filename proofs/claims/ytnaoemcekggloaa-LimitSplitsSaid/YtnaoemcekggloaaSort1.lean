/- The sorting of at most one atom. -/
import Derived.Test.YtnaoemcekggloaaNorm
import Derived.Test.YtnaoemcekggloaaLen
namespace Go.Proofs.Ytnaoemcekggloaa
open Go.RowKit Go.Shelf Go.Proofs.YtnaoemcekggloaaW.PrintWords Go.Proofs.YtnaoemcekggloaaW.PrintLast Go.Proofs.YtnaoemcekggloaaW.PrintMore It

theorem insert_small (A : Option Addr) (n c : Nat) (f : Value) (w : World) (hn : n ≤ 1) :
    Calls Try.prog 87 #[.slice A n c, .int .i64 0, .int .i64 n, f] w fun e w' => e = .returned (.tuple #[]) ∧ w = w' := by
  have hn2 : ¬ ((1 : Int) < n) := by omega
  go_enter Try.func87, Try.ntmps87
  go_wp2
  refine wp_loop_rounds 1 ?_
  rw [rounds_succ]
  go_wp2
  go_end0
  exact ⟨rfl, rfl⟩

theorem pdq_small (A : Option Addr) (n c : Nat) (L : Int) (f : Value) (w : World) (hn : n ≤ 1) :
    Calls Try.prog 75 #[.slice A n c, .int .i64 0, .int .i64 n, .int .i64 L, f] w fun e w' => e = .returned (.tuple #[]) ∧ w = w' := by
  have h12 : (n : Int) ≤ 12 := by omega
  go_enter Try.func75, Try.ntmps75
  go_wp2
  refine wp_loop_rounds 1 ?_
  rw [rounds_succ]
  go_wp2_with (go_at_call 87; refine (insert_small _ _ _ _ _ hn).mono ?_; rintro e w' ⟨rfl, rfl⟩)
  (try simp only [Exit.inBlock, Exit.then]); refine bodyPost_ret (results_none rfl _ _ _) rfl ?_
  exact ⟨rfl, rfl⟩

theorem sorts_small (ys : List (Nat × Int)) (hn : ys.length ≤ 1) : Sorts (fun _ => True) ys := by
  intro w base ok v hR
  obtain ⟨A1, c1, rfl, hl1, hC1⟩ := Kd.R_reads hR
  have HR := Lib.hid hR
  generalize hk : ys.length = n at *
  clear hR hC1
  have e1 : (Lib.bitLen ((n : Int)).toNat : Int) = Lib.bitLen ((n : Int)).toNat := rfl
  generalize Lib.bitLen ((n : Int)).toNat = L at e1
  go_enter Try.func59, Try.ntmps59
  go_wp2_with (first | (go_at_call 76; refine (len_any _ _ (by omega) (by omega)).mono ?_; rintro e w' ⟨rfl, rfl⟩) | (go_at_call 75; refine (pdq_small _ _ _ _ _ _ hn).mono ?_; rintro e w' ⟨rfl, rfl⟩))
  go_end0
  exact ⟨rfl, ys, List.Perm.refl _, trivial, HR.out, Keep.refl _ _⟩
end Go.Proofs.Ytnaoemcekggloaa
