/- The document's examples are so. -/
import Derived.Test.YtnaoemcekggloaaSplit
namespace Go.Proofs.Ytnaoemcekggloaa
open Go.RowKit Go.Shelf Go.Proofs.YtnaoemcekggloaaW.PrintWords Go.Proofs.YtnaoemcekggloaaW.PrintLast Go.Proofs.YtnaoemcekggloaaW.PrintMore It

theorem C_ints (w : World) (k : IntKind) (e : Nat) (l : List Int) (hl : l.length ≤ 9223372036854775807) : Kd.C (Kd.int k) (w.alloc (.cells (l.map (Value.int k)).toArray e)) (some ⟨w.heap.size, 0, none⟩) l.length l := by
  refine ⟨rfl, hl, fun _ => ⟨_, rfl, fun j p hj => ⟨[.int k p], rfl, rfl, fun i u hu => ?_⟩⟩⟩
  obtain ⟨h1, h2⟩ := List.getElem?_eq_some_iff.1 hu
  simp at h1
  subst h1
  simp at h2
  subst h2
  show World.cell? _ (Addr.add _ (j * 1 + 0)) = _
  rw [Nat.mul_one, Nat.add_zero]
  exact World.news_of_block (cs := (l.map (Value.int k)).toArray) (t := e) (fr := (0, 0)) (heap_alloc_new w _) j _ (by simp [hj])
theorem C_nil (w : World) (k : IntKind) : Kd.C (Kd.int k) w none 0 [] := ⟨rfl, by omega, fun h => absurd h (by omega)⟩
theorem val_at {w : World} {A : Option Addr} {n : Nat} {xs : List (List (Nat × Int))} (h : Kd.C kdVal w A n xs) (i : Nat) (hi : i < n) :
    ∃ ad x Ax cx, A = some ad ∧ xs[i]? = some x ∧ w.cell? (ad.add i) = some (.slice Ax x.length cx) ∧ x.length ≤ cx ∧ Kd.C kdAt w Ax x.length x := by
  obtain ⟨ad, e, hc⟩ := h.2.2 (by omega)
  have hl : i < xs.length := by have := h.1; omega
  obtain ⟨c, _, hR, hc⟩ := hc i xs[i] (List.getElem?_eq_getElem hl)
  obtain ⟨Ax, cx, rfl, hlen, hC⟩ := hR
  have := hc 0 _ rfl
  exact ⟨ad, xs[i], Ax, cx, e, List.getElem?_eq_getElem hl, by simpa [kdVal, Kd.slice] using this, hlen, hC⟩

def O53 : Obj := .cells #[.int .i64 5, .int .i64 3] 2
def O072 : Obj := .cells #[.int .i64 0, .int .i64 7, .int .i64 2] 2
theorem C53 (w : World) : Kd.C (Kd.int .i64) (w.alloc (.cells #[.int .i64 5, .int .i64 3] 2)) (some ⟨w.heap.size, 0, none⟩) 2 [5, 3] := C_ints w .i64 2 [5, 3] (by decide)
theorem C072 (w : World) : Kd.C (Kd.int .i64) (w.alloc (.cells #[.int .i64 0, .int .i64 7, .int .i64 2] 2)) (some ⟨w.heap.size, 0, none⟩) 3 [0, 7, 2] := C_ints w .i64 2 [0, 7, 2] (by decide)
theorem al_rounds (w : World) : Calls Try.prog 9 #[.slice (some ⟨w.heap.size, 0, none⟩) 2 2, .int .i64 2] (w.alloc (.cells #[.int .i64 5, .int .i64 3] 2)) fun e w' => e = .returned (.tuple #[.int .i64 5, .bool true]) ∧ w.alloc (.cells #[.int .i64 5, .int .i64 3] 2) = w' :=
  rounds_any _ 2 [5, 3] 2 _ ⟨by decide, by decide⟩ (C53 w) (by decide)
theorem al_rounds0 (w : World) : Calls Try.prog 9 #[.slice none 0 0, .int .i64 0] w fun e w' => e = .returned (.tuple #[.int .i64 0, .bool false]) ∧ w = w' :=
  rounds_any none 0 [] 0 w ⟨by decide, by decide⟩ (C_nil _ _) (by decide)
theorem al_check5 (w : World) : Calls Try.prog 11 #[.agg #[.int .i64 2, .int .i64 5, .slice (some ⟨w.heap.size, 0, none⟩) 2 2, .int .i64 2]] (w.alloc (.cells #[.int .i64 5, .int .i64 3] 2)) fun e w' => e = .returned (.tuple #[.int .i64 5, .int .i64 0]) ∧ Below w.heap.size w w' :=
  (check_any 2 5 _ 2 [5, 3] 2 _ ⟨by decide, by decide⟩ ⟨by decide, by decide⟩ (C53 w) (by decide)).mono fun _ _ ⟨h, hb⟩ => ⟨h, ((Below.refl _ _).alloc (Nat.le_refl _) _).trans (hb.mono (by simp))⟩
theorem al_check4 (w : World) : Calls Try.prog 11 #[.agg #[.int .i64 2, .int .i64 4, .slice (some ⟨w.heap.size, 0, none⟩) 2 2, .int .i64 2]] (w.alloc (.cells #[.int .i64 5, .int .i64 3] 2)) fun e w' => e = .returned (.tuple #[.int .i64 0, .int .i64 61]) ∧ Below w.heap.size w w' :=
  (check_any 2 4 _ 2 [5, 3] 2 _ ⟨by decide, by decide⟩ ⟨by decide, by decide⟩ (C53 w) (by decide)).mono fun _ _ ⟨h, hb⟩ => ⟨h, ((Below.refl _ _).alloc (Nat.le_refl _) _).trans (hb.mono (by simp))⟩
theorem al_split (w : World) : Calls Try.prog 16 #[.slice (some ⟨w.heap.size, 0, none⟩) 3 3] (w.alloc (.cells #[.int .i64 0, .int .i64 7, .int .i64 2] 2)) fun e w' =>
    ∃ ad c Ax cx, e = .returned (.tuple #[.slice (some ad) 2 c, .int .i64 9]) ∧ w'.cell? ad = some (.slice Ax 1 cx) ∧ Hid (Kd.C kdAt w' Ax 1 [(2, 7)]) ∧ Hid (Below w.heap.size w w') := by
  refine (split_any _ 3 [0, 7, 2] _ (by decide) (C072 w) (by decide)).mono ?_
  rintro e w' ⟨v, rfl, hR, hb⟩
  obtain ⟨A, c, rfl, _, hC⟩ := Kd.R_reads hR
  obtain ⟨ad, x, Ax, cx, rfl, hx, hc, _, hC2⟩ := val_at hC 0 (by decide)
  obtain rfl : x = [(2, 7)] := by
    have : (splitF [0, 7, 2])[0]? = some [(2, 7)] := by decide
    rw [this] at hx
    exact (Option.some.inj hx).symm
  refine ⟨ad, c, Ax, cx, ?_, hc, Lib.hid hC2, Lib.hid (((Below.refl _ _).alloc (Nat.le_refl _) _).trans (hb.mono (by simp)))⟩
  rw [show keptF [0, 7, 2] 18446744073709551615 = 9 by decide]
  rfl
theorem al_value (Ax : Option Addr) (cx : Nat) (w : World) (h : Kd.C kdAt w Ax 1 [(2, 7)]) : Calls Try.prog 28 #[.agg #[.slice Ax 1 cx], .int .u64 2] w fun e w' => e = .returned (.int .i64 7) ∧ Below w.heap.size w w' :=
  valvalue_any Ax cx [(2, 7)] 2 w (by decide) (by decide) (by decide) h
theorem al_kept (w : World) : Calls Try.prog 21 #[.slice (some ⟨w.heap.size, 0, none⟩) 3 3, .int .u64 5] (w.alloc (.cells #[.int .i64 0, .int .i64 7, .int .i64 2] 2)) fun e w' => e = .returned (.int .i64 2) ∧ Below w.heap.size w w' :=
  (kept_any _ 3 [0, 7, 2] 5 _ (by decide) (by decide) (C072 w) (by decide)).mono fun _ _ ⟨h, hb⟩ => ⟨h, ((Below.refl _ _).alloc (Nat.le_refl _) _).trans (hb.mono (by simp))⟩
theorem al_room (w : World) : Calls Try.prog 14 #[.int .i64 5, .int .i64 2] w fun e w' => e = .returned (.int .i64 640) ∧ w = w' := room_any 5 2 w
theorem al_fits (w : World) : Calls Try.prog 15 #[.int .i64 5, .int .i64 2, .int .i64 640] w fun e w' => e = .returned (.bool true) ∧ w = w' := fits_any 5 2 640 w
theorem al_fits9 (w : World) : Calls Try.prog 15 #[.int .i64 5, .int .i64 2, .int .i64 639] w fun e w' => e = .returned (.bool false) ∧ w = w' := fits_any 5 2 639 w

set_option maxHeartbeats 4000000 in
theorem alive_any (w : World) : Calls Try.prog 8 #[] w fun e w' => e = .returned (.bool true) ∧ Below w.heap.size w w' := by
  have HB0 : Below w.heap.size w (w.alloc (.cells #[.int .i64 5, .int .i64 3] 2)) := (Below.refl _ _).alloc (Nat.le_refl _) _
  go_enter Try.func8, Try.ntmps8
  go_wp2_with fail
  refine (al_rounds w).mono ?_
  rintro e w' ⟨rfl, rfl⟩
  go_wp2_with fail
  refine (al_rounds0 _).mono ?_
  rintro e w' ⟨rfl, rfl⟩
  generalize w.alloc (.cells #[.int .i64 5, .int .i64 3] 2) = w1 at HB0
  go_wp2_with fail
  refine (al_check5 w1).mono ?_
  rintro e w2 ⟨rfl, hb2⟩
  have HB2 := HB0.trans (hb2.mono HB0.size)
  clear hb2 HB0
  go_wp2_with fail
  refine (al_check4 w2).mono ?_
  rintro e w3 ⟨rfl, hb3⟩
  have HB3 := HB2.trans (hb3.mono HB2.size)
  clear hb3 HB2
  go_wp2_with fail
  refine (al_split w3).mono ?_
  rintro e w4 ⟨ad, c, Ax, cx, rfl, hc4, hC4, hb4⟩
  have HB4 := HB3.trans (hb4.out.mono HB3.size)
  clear hb4 HB3
  go_wp2_with fail
  refine (al_room w4).mono ?_
  rintro e w' ⟨rfl, rfl⟩
  go_wp2_with fail
  refine (al_fits w4).mono ?_
  rintro e w' ⟨rfl, rfl⟩
  go_wp2_with fail
  refine (al_fits9 w4).mono ?_
  rintro e w' ⟨rfl, rfl⟩
  go_wp2_with fail
  refine (al_value Ax cx w4 hC4.out).mono ?_
  rintro e w5 ⟨rfl, hb5⟩
  have HB5 := HB4.trans (hb5.mono HB4.size)
  clear hb5 HB4
  go_wp2_with fail
  refine (al_kept w5).mono ?_
  rintro e w6 ⟨rfl, hb6⟩
  have HB6 := HB5.trans (hb6.mono HB5.size)
  clear hb6 HB5
  go_wp2
  go_ret
  exact ⟨rfl, HB6⟩
end Go.Proofs.Ytnaoemcekggloaa
