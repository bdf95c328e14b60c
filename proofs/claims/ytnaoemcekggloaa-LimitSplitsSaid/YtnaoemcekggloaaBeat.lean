/- Whether an atom is beaten by one of a list. -/
import Derived.Test.YtnaoemcekggloaaGreat
namespace Go.Proofs.Ytnaoemcekggloaa
open Go.RowKit Go.Shelf Go.Proofs.YtnaoemcekggloaaW.PrintWords Go.Proofs.YtnaoemcekggloaaW.PrintLast Go.Proofs.YtnaoemcekggloaaW.PrintMore It

/-- b beats a -/
def btB (a b : Nat × Int) : Bool := wthB b.1 a.1 && decide (a.2 ≤ b.2)

theorem beat_any (X : Nat) (a b : Nat × Int) (w : World) (hX : AtBox w X a) (ha : a.1 < 18446744073709551616) (hb : b.1 < 18446744073709551616) :
    Calls Try.prog 63 #[encA b, .pointer (some ⟨X, 0, none⟩)] w fun e w' => e = .returned (.bool (btB a b)) ∧ Below w.heap.size w w' := by
  obtain ⟨b1, b2⟩ := b
  obtain ⟨a1, a2⟩ := a
  have hXl : X < w.heap.size := (Array.getElem?_eq_some_iff.1 hX).1
  have hbw : Below w.heap.size w (w.alloc (.cells #[.int .u64 b1, .int .i64 b2] 45)) := (Below.refl _ _).alloc (Nat.le_refl _) _
  have h0 : (w.alloc (.cells #[.int .u64 b1, .int .i64 b2] 45)).cell? ⟨X, 0, none⟩ = some (.int .u64 a1) := (hbw.cell (p := ⟨X, 0, none⟩) hXl).trans hX.c0
  have h1 : (w.alloc (.cells #[.int .u64 b1, .int .i64 b2] 45)).cell? ⟨X, 1, none⟩ = some (.int .i64 a2) := (hbw.cell (p := ⟨X, 1, none⟩) hXl).trans hX.c1
  have HB := Lib.hid hbw
  clear hX hbw
  unfold encA
  dsimp only at ha hb
  rcases hR : wthB b1 a1 with _ | _
  · have HR := Lib.hid hR
    clear hR
    go_enter Try.func63, Try.ntmps63
    go_wp2_with (go_at_call 64; refine (wth_any _ _ _ hb ha).mono ?_; rintro e w' ⟨rfl, rfl⟩; rw [HR.out])
    go_ret
    exact ⟨ret_b (by simp [btB, HR.out]), HB.out⟩
  · have HR := Lib.hid hR
    clear hR
    go_enter Try.func63, Try.ntmps63
    go_wp2_with (go_at_call 64; refine (wth_any _ _ _ hb ha).mono ?_; rintro e w' ⟨rfl, rfl⟩; rw [HR.out])
    go_ret
    exact ⟨ret_b (by simp [btB, HR.out]), HB.out⟩

def idxF (p : Nat × Int → Bool) : Nat → List (Nat × Int) → Int
  | _, [] => -1
  | k, x :: l => if p x = true then (k : Int) else idxF p (k + 1) l
theorem idx_any (p : Nat × Int → Bool) : ∀ (l : List (Nat × Int)) (k : Nat), decide (idxF p k l ≥ 0) = l.any p
  | [], k => rfl
  | x :: l, k => by
    rw [idxF, List.any_cons]
    split
    · rename_i h; simp [h]
    · rename_i h
      rw [idx_any p l (k + 1)]
      simp [h]

theorem index_any (A : Option Addr) (c X : Nat) (a : Nat × Int) (l : List (Nat × Int)) (w : World) (hb : l.length ≤ 140737488355328)
    (hX : AtBox w X a) (ha : a.1 < 18446744073709551616) (hok : ∀ x ∈ l, x.1 < 18446744073709551616) (hr : Kd.C kdAt w A l.length l) :
    Calls Try.prog 81 #[.slice A l.length c, .func (.func 63) #[] #[.pointer (some ⟨X, 0, none⟩)]] w fun e w' => e = .returned (.int .i64 (idxF (btB a) 0 l)) ∧ Below w.heap.size w w' := by
  have HR := Lib.hid hr
  have HX := Lib.hid hX
  have HO := Lib.hid hok
  have HA := Lib.hid ha
  have HB0 := Lib.hid (Below.refl w.heap.size w)
  clear hr hX hok ha
  go_enter Try.func81, Try.ntmps81
  go_wp2
  have H0 := Lib.hid (show idxF (btB a) 0 l = idxF (btB a) 0 (l.drop 0) from rfl)
  go_loopw [8] (fun i wr => ∃ (k : Nat), k ≤ l.length ∧ i = .int .i64 k ∧ Hid (idxF (btB a) 0 l = idxF (btB a) k (l.drop k)) ∧ Hid (Below w.heap.size w wr)) (fun i _ => l.length - (intOf i).toNat)
  case atStart => exact ⟨0, by omega, rfl, H0, HB0⟩
  case round =>
    obtain ⟨k, hk, rfl, HE, HB⟩ := hrel
    clear H0 HB0
    by_cases hlt : k < l.length
    · obtain ⟨ad, ⟨s, v⟩, rfl, hx, hc1, hc2⟩ := at_at (Kd.C_below HR.out HB.out) k (by omega)
      have hd := drop_at hx
      have HE2 := HE.out
      rw [hd, idxF] at HE2
      have hxs := HO.out (s, v) (List.mem_of_getElem? hx)
      have HXr := Lib.hid (show AtBox wr X a from (HB.out.block X (Array.getElem?_eq_some_iff.1 HX.out).1).trans HX.out)
      clear hx hd
      rcases hR : btB a (s, v) with _ | _
      · have HRR := Lib.hid hR
        rw [hR, if_neg (by simp)] at HE2
        have HE3 := Lib.hid HE2
        clear HE HE2 hR
        go_wp2_with (go_at_call 63; refine (beat_any X a (s, v) _ HXr.out HA.out hxs).mono ?_; rintro e w' ⟨rfl, hb2⟩; rw [HRR.out])
        have HB3 := Lib.hid (HB.out.trans (hb2.mono HB.out.size))
        go_roundw
        case rel => exact ⟨k + 1, by omega, by go_num, HE3, HB3⟩
        case measure => simp [intOf]; omega
      · have HRR := Lib.hid hR
        rw [hR, if_pos rfl] at HE2
        have HE3 := Lib.hid HE2
        clear HE HE2 hR
        go_wp2_with (go_at_call 63; refine (beat_any X a (s, v) _ HXr.out HA.out hxs).mono ?_; rintro e w' ⟨rfl, hb2⟩; rw [HRR.out])
        go_ret
        exact ⟨ret_i HE3.out.symm, HB.out.trans (hb2.mono HB.out.size)⟩
    · have hd : l.drop k = [] := List.drop_eq_nil_of_le (by omega)
      have HE2 := HE.out
      rw [hd, idxF] at HE2
      have HE3 := Lib.hid HE2
      clear HE HE2 hd
      go_wp2
      go_ret
      exact ⟨ret_i HE3.out.symm, HB.out⟩

theorem contains_any (A : Option Addr) (c X : Nat) (a : Nat × Int) (l : List (Nat × Int)) (w : World) (hb : l.length ≤ 140737488355328)
    (hX : AtBox w X a) (ha : a.1 < 18446744073709551616) (hok : ∀ x ∈ l, x.1 < 18446744073709551616) (hr : Kd.C kdAt w A l.length l) :
    Calls Try.prog 62 #[.slice A l.length c, .func (.func 63) #[] #[.pointer (some ⟨X, 0, none⟩)]] w fun e w' => e = .returned (.bool (l.any (btB a))) ∧ Below w.heap.size w w' := by
  have H := Lib.hid (index_any A c X a l w hb hX ha hok hr)
  have HI := Lib.hid (idx_any (btB a) l 0)
  clear hX ha hok hr
  go_enter Try.func62, Try.ntmps62
  go_wp2_with (go_at_call 81; refine H.out.mono ?_; rintro e w' ⟨rfl, hb2⟩)
  go_ret
  exact ⟨ret_b HI.out, hb2⟩

theorem beaten_any (A : Option Addr) (c : Nat) (a : Nat × Int) (l : List (Nat × Int)) (w : World) (hb : l.length ≤ 140737488355328)
    (ha : a.1 < 18446744073709551616) (hok : ∀ x ∈ l, x.1 < 18446744073709551616) (hr : Kd.C kdAt w A l.length l) :
    Calls Try.prog 50 #[encA a, .slice A l.length c] w fun e w' => e = .returned (.bool (l.any (btB a))) ∧ Below w.heap.size w w' := by
  have hbw : Below w.heap.size w (w.alloc (.cells #[.int .u64 a.1, .int .i64 a.2] 45)) := (Below.refl _ _).alloc (Nat.le_refl _) _
  have H := Lib.hid (contains_any A c w.heap.size a l _ hb (World.alloc_heap_new w _) ha hok (Kd.C_below hr hbw))
  have HB := Lib.hid hbw
  clear hr hok ha hbw
  unfold encA
  go_enter Try.func50, Try.ntmps50
  go_wp2_with (go_at_call 62; refine H.out.mono ?_; rintro e w' ⟨rfl, hb2⟩)
  go_ret
  exact ⟨rfl, HB.out.trans (hb2.mono HB.out.size)⟩
end Go.Proofs.Ytnaoemcekggloaa
