/- A law of my own for a range over a function, with footprints: what an iterator value gives, in terms of the list of its elements, and what a loop over it does. It holds of every program. -/
import Derived.RangeFuncNested
import Derived.RangeFuncBound
import Derived.RangeFuncCalls
import Derived.RangeFuncLeaves
namespace Go.Proofs.Ytnaoemcekggloaa.It
open Go Go.RowKit

/-- From W to W' nothing that lay in W has turned but blocks of S. -/
structure Keep (S : Nat → Prop) (W W' : World) : Prop where
  os : W'.os = W.os
  tape : W'.tape = W.tape
  output : W'.output = W.output
  size : W.heap.size ≤ W'.heap.size
  block : ∀ k, k < W.heap.size → ¬ S k → W'.heap[k]? = W.heap[k]?

theorem Keep.refl (S : Nat → Prop) (W : World) : Keep S W W := ⟨rfl, rfl, rfl, Nat.le_refl _, fun _ _ _ => rfl⟩
theorem Keep.mono {S S' : Nat → Prop} {W W' : World} (h : Keep S W W') (hs : ∀ k, S k → S' k) : Keep S' W W' :=
  ⟨h.os, h.tape, h.output, h.size, fun k hk hn => h.block k hk (fun x => hn (hs k x))⟩
theorem Keep.of_below {S : Nat → Prop} {W W' : World} (h : Below W.heap.size W W') : Keep S W W' :=
  ⟨h.os, h.tape, h.output, h.size, fun k hk _ => h.block k hk⟩
theorem Keep.of_grownBy {S : Nat → Prop} {W W' : World} {row : Option Nat} (h : W.grownBy W' row) (hr : ∀ k, row = some k → S k) : Keep S W W' :=
  ⟨h.os, h.tape, h.output, h.size, fun k hk hn => h.block k hk (fun e => hn (hr k e.symm))⟩
theorem Keep.below {S : Nat → Prop} {W W' : World} {n : Nat} (h : Keep S W W') (hn : n ≤ W.heap.size) (hs : ∀ k, S k → n ≤ k) : Below n W W' :=
  ⟨h.os, h.tape, h.output, h.size, fun k hk => h.block k (by omega) (fun x => by have := hs k x; omega)⟩

/-- A step: nothing but S turns; what is owned behind it was owned, or is new. -/
structure Mv (S : Nat → Prop) (W : World) (S' : Nat → Prop) (W' : World) : Prop where
  keep : Keep S W W'
  sub : ∀ k, S' k → (S k ∨ W.heap.size ≤ k) ∧ k < W'.heap.size

theorem Mv.trans {S S1 S2 : Nat → Prop} {W W1 W2 : World} (h : Mv S W S1 W1) (k : Mv S1 W1 S2 W2) : Mv S W S2 W2 :=
  ⟨⟨k.keep.os.trans h.keep.os, k.keep.tape.trans h.keep.tape, k.keep.output.trans h.keep.output, Nat.le_trans h.keep.size k.keep.size, fun i hi hn => by
      have h1 := h.keep.block i hi hn
      refine (k.keep.block i (Nat.lt_of_lt_of_le hi h.keep.size) (fun x => ?_)).trans h1
      rcases (h.sub i x).1 with y | y
      · exact hn y
      · omega⟩,
   fun i x => ⟨by
      rcases (k.sub i x).1 with y | y
      · rcases (h.sub i y).1 with z | z
        · exact .inl z
        · exact .inr z
      · exact .inr (Nat.le_trans h.keep.size y), (k.sub i x).2⟩⟩

theorem Mv.refl {S : Nat → Prop} {W : World} (h : ∀ k, S k → k < W.heap.size) : Mv S W S W := ⟨Keep.refl S W, fun k x => ⟨.inl x, h k x⟩⟩

/-- An invariant minds its own blocks, and what lies below B. -/
def Stab {β : Type} (B : Nat) (J : β → (Nat → Prop) → World → Prop) : Prop :=
  ∀ s S W W', J s S W → W'.os = W.os → W'.tape = W.tape → W'.output = W.output → W.heap.size ≤ W'.heap.size →
    (∀ k, k < W.heap.size → k < B ∨ S k → W'.heap[k]? = W.heap[k]?) → J s S W'

/-- A call of yield. -/
def YieldW (P : Program) (l : Nat) (args : Array Value) (W : World) (R : Ending → World → Prop) : Prop :=
  ∃ fn tmps assign body, (Instr.yield l args).run P W = .ok (.round l fn tmps assign body) W ∧ RoundIn Fence.wide 99 P l fn tmps assign body W R

theorem YieldW.mono {P : Program} {l : Nat} {args : Array Value} {W : World} {R R' : Ending → World → Prop} (h : YieldW P l args W R) (hr : ∀ e w, R e w → R' e w) : YieldW P l args W R' := by
  obtain ⟨fn, tmps, assign, body, hy, hR⟩ := h
  exact ⟨fn, tmps, assign, body, hy, hR.mono hr⟩

theorem roundIn_wide {n m : Nat} {P : Program} {l : Nat} {f : FuncId} {tmps : Array Value} {assign body : Code} {w : World} {R : Ending → World → Prop}
    (h : RoundIn Fence.wide n P l f tmps assign body w R) : RoundIn Fence.wide m P l f tmps assign body w R :=
  ⟨h.1, fun c cs _ => h.2 c cs (room_wide _)⟩

theorem roundIn_wide_in {n m l0 : Nat} {P : Program} {l : Nat} {f : FuncId} {tmps : Array Value} {assign body : Code} {w : World} {R : Ending → World → Prop}
    (h : RoundIn Fence.wide n P l f tmps assign body w R) : RoundIn (Fence.wide.inRound l0) m P l f tmps assign body w R :=
  ⟨h.1, fun c cs _ => h.2 c cs (room_wide _)⟩

theorem wpIn_any {n m : Nat} {P : Program} {F : Fence} (hd : F.depth = none) {c : Code} {Q : Exit → Act → World → Prop} {a : Act} {w : World} (h : c.wpIn F n P Q a w) : c.wpIn F m P Q a w :=
  fun b k cs h1 h2 _ => h b k cs h1 h2 (fun d e => by rw [hd] at e; cases e)

/-- What Rd names lies as it lay. -/
structure Same (Rd : Nat → Prop) (w W : World) : Prop where
  os : W.os = w.os
  tape : W.tape = w.tape
  output : W.output = w.output
  size : w.heap.size ≤ W.heap.size
  block : ∀ k, Rd k → W.heap[k]? = w.heap[k]?

theorem Same.refl (Rd : Nat → Prop) (w : World) : Same Rd w w := ⟨rfl, rfl, rfl, Nat.le_refl _, fun _ _ => rfl⟩
theorem Same.trans {Rd : Nat → Prop} {a b c : World} (h : Same Rd a b) (k : Same Rd b c) : Same Rd a c :=
  ⟨k.os.trans h.os, k.tape.trans h.tape, k.output.trans h.output, Nat.le_trans h.size k.size, fun i hi => (k.block i hi).trans (h.block i hi)⟩
theorem Same.of_keep {Rd S : Nat → Prop} {w W : World} (h : Keep S w W) (hd : ∀ k, S k → ¬ Rd k) (hl : ∀ k, Rd k → k < w.heap.size) : Same Rd w W :=
  ⟨h.os, h.tape, h.output, h.size, fun k hk => h.block k (hl k hk) (fun hs => hd k hs hk)⟩
theorem Same.of_below {Rd : Nat → Prop} {w W : World} (h : Below w.heap.size w W) (hl : ∀ k, Rd k → k < w.heap.size) : Same Rd w W :=
  ⟨h.os, h.tape, h.output, h.size, fun k hk => h.block k (hl k hk)⟩
theorem Same.below {Rd : Nat → Prop} {n : Nat} {w W : World} (h : Same Rd w W) (hn : ∀ k, k < n → Rd k) : Below n w W :=
  ⟨h.os, h.tape, h.output, h.size, fun k hk => h.block k (hn k hk)⟩
theorem Same.cell {Rd : Nat → Prop} {w W : World} (h : Same Rd w W) {p : Addr} (hp : Rd p.block) : W.cell? p = w.cell? p := World.cell?_of_block (h.block _ hp)

/-- What an iterator value (function g, its captured values lb) made in w gives: the elements of xs, one by one; it reads the blocks of Rd alone. -/
structure Iter {α : Type} (P : Program) (g : Nat) (lb : Array Value) (encs : α → Array Value) (xs : List α) (Rd : Nat → Prop) (w : World) : Prop where
  lt : ∀ k, Rd k → k < w.heap.size
  run : ∀ (l : Nat) (J Jx : List α → (Nat → Prop) → World → Prop) (S0 : Nat → Prop) (W : World), Same Rd w W →
    (∀ k, S0 k → ¬ Rd k ∧ k < W.heap.size) → Stab W.heap.size J → Stab W.heap.size Jx →
    (∀ pre x post S W1, xs = pre ++ x :: post → J pre S W1 → YieldW P l (encs x) W1 fun e W' => ∃ S', Mv S W1 S' W' ∧
      ((e = .returned (.bool true) ∧ J (pre ++ [x]) S' W') ∨ (e = .returned (.bool false) ∧ Jx (pre ++ [x]) S' W'))) →
    J [] S0 W →
    Calls P g (#[.func (.yield l) #[] #[]] ++ lb) W fun e W' => (∃ v, e = .returned v) ∧ ∃ S', Mv S0 W S' W' ∧ (J xs S' W' ∨ ∃ pre, pre ≠ [] ∧ pre <+: xs ∧ Jx pre S' W')

theorem Iter.later {α : Type} {P : Program} {g : Nat} {lb : Array Value} {encs : α → Array Value} {xs : List α} {Rd : Nat → Prop} {w w' : World}
    (h : Iter P g lb encs xs Rd w) (hb : Same Rd w w') : Iter P g lb encs xs Rd w' :=
  ⟨fun k hk => Nat.lt_of_lt_of_le (h.lt k hk) hb.size, fun l J Jx S0 W hW => h.run l J Jx S0 W (hb.trans hW)⟩

/-- Behind some rounds what the iterator reads lies as it lay. -/
theorem Mv.same {Rd S0 S : Nat → Prop} {W wr : World} (h : Mv S0 W S wr) (hd : ∀ k, S0 k → ¬ Rd k ∧ k < W.heap.size) (hl : ∀ k, Rd k → k < W.heap.size) : Same Rd W wr :=
  Same.of_keep h.keep (fun k hk => (hd k hk).1) hl

/-- How the body of a round may be left. -/
def roundEnd {α : Type} (I : List α → (Nat → Prop) → World → Prop) (Ix : Code → List α → (Nat → Prop) → World → Prop) (xs : List α) (S : Nat → Prop) (W : World) : Exit → Act → World → Prop
  | .normal, _, W' => ∃ S', Mv S W S' W' ∧ I xs S' W'
  | .ret, _, W' => ∃ S', Mv S W S' W' ∧ Ix .ret xs S' W'
  | .exit id, _, W' => ∃ S', Mv S W S' W' ∧ Ix (.exit id) xs S' W'
  | .goto t, _, W' => ∃ S', Mv S W S' W' ∧ Ix (.goto t) xs S' W'
  | .panic _, _, _ => False
  | .outgrown, _, _ => False

theorem mv_putObj {S : Nat → Prop} {W : World} {l : Nat} (o : Obj) (hS : ∀ k, S k → k < W.heap.size) (hl : S l) : Mv S W S (W.putObj l o) :=
  ⟨⟨rfl, rfl, rfl, by simp, fun k _ hn => World.putObj_heap_other (fun e => hn (e ▸ hl))⟩, fun k x => ⟨.inl x, by simpa using hS k x⟩⟩

theorem Stab.putObj {β : Type} {B : Nat} {J : β → (Nat → Prop) → World → Prop} (h : Stab B J) {s : β} {S : Nat → Prop} {W : World} {l : Nat} (o : Obj) (hs : J s S W) (hB : B ≤ l) (hl : ¬ S l) : J s S (W.putObj l o) :=
  h s S W _ hs rfl rfl rfl (by simp) (fun k _ hk => World.putObj_heap_other (fun e => by subst e; rcases hk with hk | hk; omega; exact hl hk))
theorem Stab.alloc {β : Type} {B : Nat} {J : β → (Nat → Prop) → World → Prop} (h : Stab B J) {s : β} {S : Nat → Prop} {W : World} (o : Obj) (hs : J s S W) : J s S (W.alloc o) :=
  h s S W _ hs rfl rfl rfl (by simp) (fun k hk _ => Below.heap_alloc W o k hk)
theorem Stab.mono {β : Type} {B B' : Nat} {J : β → (Nat → Prop) → World → Prop} (h : Stab B J) (hB : B ≤ B') : Stab B' J :=
  fun s S W W' hs h1 h2 h3 h4 h5 => h s S W W' hs h1 h2 h3 h4 (fun k hk hx => h5 k hk (by rcases hx with hx | hx; exact .inl (by omega); exact .inr hx))

variable {P : Program}

/-- The loop's body-side premises, over a world w with the loop's record at l: shared by both laws. -/
theorem rounds_of {α : Type} {w : World} {ps : Array Tmp} {assign body : Code} {a : Act} {fn : FuncId} {d l : Nat}
    {encs : α → Array Value} {xs : List α}
    (I : List α → (Nat → Prop) → World → Prop) (Ix : Code → List α → (Nat → Prop) → World → Prop) (hI : Stab w.heap.size I) (hIx : ∀ c, Stab w.heap.size (Ix c))
    (hps : ∀ x, (encs x).size = ps.size) (X : Nat → Prop) (hXl : X l)
    (Ax : α → Act → (Nat → Prop) → World → Prop) (hAx : ∀ a', Stab w.heap.size (fun x S W => Ax x a' S W))
    (hassign : ∀ (pre : List α) (x : α) (post : List α) (S : Nat → Prop) (W : World) (K : Act → World → Prop), xs = pre ++ x :: post → I pre S W → (∀ k, S k → k < W.heap.size) → (∀ k, X k → ¬ S k) → l < W.heap.size →
      (∀ a' S' W', Mv S W S' W' → I pre S' W' → Ax x a' S' W' → K a' W') →
      assign.wpIn (Fence.wide.inRound l) 99 P (Exit.then K (fun _ _ _ => False)) { tmps := (ps.zip (encs x)).foldl (fun t (p, v) => t.setIfInBounds p v) a.tmps, defers := [] } W)
    (hbody : ∀ (pre : List α) (x : α) (post : List α) (a' : Act) (S : Nat → Prop) (W : World), xs = pre ++ x :: post → w.heap.size ≤ l → (∃ r, W.heap[l]? = some (.loop r)) → ¬ S l → (∀ k, S k → k < W.heap.size) → I pre S W → Ax x a' S W →
      body.wpIn (Fence.wide.inRound l) 99 P (roundEnd I Ix (pre ++ [x]) S W) a' W)
    (rec : LoopState → Option Code → Loop) (hrec : rec = fun st pe => { state := st, pending := pe, fn, tmps := a.tmps, params := ps, assign, body, defers := d })
    (hwl : w.heap.size ≤ l) (Dk : World → Prop)
    (hDk : ∀ W W' : World, Dk W → (∀ k, X k → k ≠ l → k < W.heap.size → W'.heap[k]? = W.heap[k]?) → Dk W')
    (pre : List α) (x : α) (post : List α) (T : Nat → Prop) (W1 : World) (he : xs = pre ++ x :: post)
    (hJ : ∃ S, (∀ k, T k ↔ S k ∨ X k) ∧ (∀ k, T k → k < W1.heap.size) ∧ (∀ k, X k → ¬ S k) ∧ I pre S W1 ∧ W1.heap[l]? = some (.loop (rec .ready none)) ∧ Dk W1) :
    YieldW P l (encs x) W1 fun e W' => ∃ T', Mv T W1 T' W' ∧
      ((e = .returned (.bool true) ∧ ∃ S, (∀ k, T' k ↔ S k ∨ X k) ∧ (∀ k, T' k → k < W'.heap.size) ∧ (∀ k, X k → ¬ S k) ∧ I (pre ++ [x]) S W' ∧ W'.heap[l]? = some (.loop (rec .ready none)) ∧ Dk W') ∨
       (e = .returned (.bool false) ∧ ∃ S c, (∀ k, T' k ↔ S k ∨ X k) ∧ (∀ k, T' k → k < W'.heap.size) ∧ (∀ k, X k → ¬ S k) ∧ Ix c (pre ++ [x]) S W' ∧ W'.heap[l]? = some (.loop (rec .done (some c))) ∧ Dk W')) := by
  obtain ⟨S, hT, hTl, hXS, hi, hl, hd⟩ := hJ
  have hlt : l < W1.heap.size := (Array.getElem?_eq_some_iff.1 hl).1
  have hXlt : ∀ k, X k → k < W1.heap.size := fun k hk => hTl k ((hT k).2 (.inr hk))
  have hSlt : ∀ k, S k → k < W1.heap.size := fun k hk => hTl k ((hT k).2 (.inl hk))
  have hy := run_yield (P := P) (args := encs x) hl (by rw [hrec]; exact hps x)
  rw [hrec] at hy
  refine ⟨fn, _, assign, body, hy, roundIn_of_wpIn (n := 99) trivial (hassign pre x post S W1 _ he hi hSlt hXS hlt ?_)⟩
  clear hy
  intro a' Sa Wa hmv hia hax
  have hXSa : ∀ k, X k → ¬ Sa k := fun k hx hs => by
    rcases (hmv.sub k hs).1 with h1 | h1
    · exact hXS k hx h1
    · have := hXlt k hx; omega
  have hla : Wa.heap[l]? = some (.loop (rec .ready none)) := (hmv.keep.block l hlt (hXS l hXl)).trans hl
  have hlta : l < Wa.heap.size := (Array.getElem?_eq_some_iff.1 hla).1
  have hda : Dk Wa := hDk W1 Wa hd (fun k hx _ hk => hmv.keep.block k hk (hXS k hx))
  refine ⟨_, run_beginRound hla (by rw [hrec]), ?_⟩
  generalize hWb : Wa.putObj l (.loop { rec .ready none with state := .busy }) = Wb
  have hSa : ∀ k, Sa k → k < Wa.heap.size := fun k hk => (hmv.sub k hk).2
  have hl2 : Wb.heap[l]? = some (.loop { rec .ready none with state := .busy }) := by rw [← hWb]; exact World.putObj_heap_same hlta
  have hd2 : Dk Wb := by rw [← hWb]; exact hDk Wa _ hda (fun k _ hne _ => World.putObj_heap_other hne)
  have hsz2 : Wb.heap.size = Wa.heap.size := by rw [← hWb]; simp
  have hi2 : I pre Sa Wb := by rw [← hWb]; exact hI.putObj _ hia hwl (hXSa l hXl)
  have hax2 : Ax x a' Sa Wb := by rw [← hWb]; exact (hAx a').putObj (s := x) _ hax hwl (hXSa l hXl)
  -- the whole round's step, with X owned too
  have up : ∀ {S S' : Nat → Prop} {A B : World}, Mv S A S' B → (∀ k, X k → k < A.heap.size) → Mv (fun k => S k ∨ X k) A (fun k => S' k ∨ X k) B := fun h hx =>
    ⟨h.keep.mono (fun k y => .inl y), fun k y => by
      rcases y with y | y
      · exact ⟨(h.sub k y).1.elim (fun z => .inl (.inl z)) .inr, (h.sub k y).2⟩
      · exact ⟨.inl (.inr y), Nat.lt_of_lt_of_le (hx k y) h.keep.size⟩⟩
  have m1 : Mv (fun k => S k ∨ X k) W1 (fun k => Sa k ∨ X k) Wa := up hmv hXlt
  have hXa : ∀ k, X k → k < Wa.heap.size := fun k hk => (m1.sub k (.inr hk)).2
  have m2 : Mv (fun k => Sa k ∨ X k) Wa (fun k => Sa k ∨ X k) Wb := by
    rw [← hWb]; exact mv_putObj _ (fun k y => y.elim (hSa k) (hXa k)) (.inr hXl)
  have hXb : ∀ k, X k → k < Wb.heap.size := fun k hk => by rw [hsz2]; exact hXa k hk
  have eT : T = fun k => S k ∨ X k := funext fun k => propext (hT k)
  subst eT
  refine wpIn_mono (hbody pre x post a' Sa Wb he hwl ⟨_, hl2⟩ (hXSa l hXl) (fun k hk => by rw [hsz2]; exact hSa k hk) hi2 hax2) ?_
  have fin : ∀ (jump : Option Code) (S3 : Nat → Prop) (W3 : World), Mv Sa Wb S3 W3 →
      (Instr.endRound l jump).run P W3 = .ok (.bool jump.isNone) (W3.putObj l (.loop (rec (if jump.isNone then .ready else .done) jump))) ∧
      Mv (fun k => S k ∨ X k) W1 (fun k => S3 k ∨ X k) (W3.putObj l (.loop (rec (if jump.isNone then .ready else .done) jump))) ∧
      (∀ k, X k → ¬ S3 k) ∧ l < W3.heap.size ∧
      (W3.putObj l (.loop (rec (if jump.isNone then .ready else .done) jump))).heap[l]? = some (.loop (rec (if jump.isNone then .ready else .done) jump)) ∧
      Dk (W3.putObj l (.loop (rec (if jump.isNone then .ready else .done) jump))) := fun jump S3 W3 h3 => by
    have hl3 : W3.heap[l]? = some (.loop { rec .ready none with state := .busy }) := (h3.keep.block l (by rw [hsz2]; exact hlta) (hXSa l hXl)).trans hl2
    have hr := run_endRound (P := P) jump hl3
    have hXS3 : ∀ k, X k → ¬ S3 k := fun k hx hs => by
      rcases (h3.sub k hs).1 with h1 | h1
      · exact hXSa k hx h1
      · have := hXb k hx; omega
    have hlt3 : l < W3.heap.size := (Array.getElem?_eq_some_iff.1 hl3).1
    have m3 := up h3 hXb
    have m4 : Mv (fun k => S3 k ∨ X k) W3 (fun k => S3 k ∨ X k) (W3.putObj l (.loop (rec (if jump.isNone then .ready else .done) jump))) :=
      mv_putObj _ (fun k y => (m3.sub k y).2) (.inr hXl)
    have hd3 : Dk W3 := hDk Wb W3 hd2 (fun k hx _ hk => h3.keep.block k hk (hXSa k hx))
    refine ⟨?_, (m1.trans m2).trans (m3.trans m4), hXS3, hlt3, World.putObj_heap_same hlt3, hDk W3 _ hd3 (fun k _ hne _ => World.putObj_heap_other hne)⟩
    rw [hr, hrec]
  rintro e a3 W3 hp
  cases e with
  | normal =>
    obtain ⟨S3, hm, hi3⟩ := hp
    obtain ⟨hr, hmv3, hx3, hlt3, hl4, hd4⟩ := fin none S3 W3 hm
    exact ⟨_, _, hr, _, hmv3, .inl ⟨rfl, S3, fun k => Iff.rfl, fun k hk => (hmv3.sub k hk).2, hx3, hI.putObj _ hi3 hwl (hx3 l hXl), hl4, hd4⟩⟩
  | ret =>
    obtain ⟨S3, hm, hi3⟩ := hp
    obtain ⟨hr, hmv3, hx3, hlt3, hl4, hd4⟩ := fin (some .ret) S3 W3 hm
    exact ⟨_, _, hr, _, hmv3, .inr ⟨rfl, S3, .ret, fun k => Iff.rfl, fun k hk => (hmv3.sub k hk).2, hx3, (hIx _).putObj _ hi3 hwl (hx3 l hXl), hl4, hd4⟩⟩
  | exit id =>
    obtain ⟨S3, hm, hi3⟩ := hp
    obtain ⟨hr, hmv3, hx3, hlt3, hl4, hd4⟩ := fin (some (.exit id)) S3 W3 hm
    exact ⟨_, _, hr, _, hmv3, .inr ⟨rfl, S3, .exit id, fun k => Iff.rfl, fun k hk => (hmv3.sub k hk).2, hx3, (hIx _).putObj _ hi3 hwl (hx3 l hXl), hl4, hd4⟩⟩
  | goto t =>
    obtain ⟨S3, hm, hi3⟩ := hp
    obtain ⟨hr, hmv3, hx3, hlt3, hl4, hd4⟩ := fin (some (.goto t)) S3 W3 hm
    exact ⟨_, _, hr, _, hmv3, .inr ⟨rfl, S3, .goto t, fun k => Iff.rfl, fun k hk => (hmv3.sub k hk).2, hx3, (hIx _).putObj _ hi3 hwl (hx3 l hXl), hl4, hd4⟩⟩
  | panic ch => exact hp.elim
  | outgrown => exact hp.elim

/-- What holds between two rounds, the loop's own blocks X beside. -/
def Between {α : Type} (I : List α → (Nat → Prop) → World → Prop) (X : Nat → Prop) (E : World → Prop) (pre : List α) (T : Nat → Prop) (W : World) : Prop :=
  ∃ S, (∀ k, T k ↔ S k ∨ X k) ∧ (∀ k, T k → k < W.heap.size) ∧ (∀ k, X k → ¬ S k) ∧ I pre S W ∧ E W

theorem Between.stab {α : Type} {I : List α → (Nat → Prop) → World → Prop} {X : Nat → Prop} {E : World → Prop} {B B' : Nat} (hI : Stab B I) (hB : B ≤ B')
    (hE : ∀ W W' : World, E W → (∀ k, X k → k < W.heap.size → W'.heap[k]? = W.heap[k]?) → E W') : Stab B' (Between I X E) := by
  rintro s T W W' ⟨S, hT, hTl, hX, hi, he⟩ h1 h2 h3 h4 h5
  refine ⟨S, hT, fun k hk => Nat.lt_of_lt_of_le (hTl k hk) h4, hX, (hI.mono hB) s S W W' hi h1 h2 h3 h4 (fun k hk hx => h5 k hk (hx.imp id (fun y => (hT k).2 (.inl y)))), hE W W' he (fun k hk hlt => h5 k hlt (.inr ((hT k).2 (.inr hk))))⟩

/-- **A LOOP OVER AN ITERATOR, outside every round.** -/
theorem wp_range {α : Type} {g : Operand} {ps : Array Tmp} {assign body : Code} {Q : Exit → Act → World → Prop} {a : Act} {w : World}
    {gf : Nat} {lb : Array Value} (hg : a.eval g = .func (.func gf) #[] lb) (eg : ∀ args w, (callFunc gf args).run P w = .ok (.enter gf args) w)
    {encs : α → Array Value} {xs : List α} {Rd : Nat → Prop} {w0 : World} (hit : Iter P gf lb encs xs Rd w0) (hb0 : Same Rd w0 w) (hps : ∀ x, (encs x).size = ps.size)
    (S0 : Nat → Prop) (hS0 : ∀ k, S0 k → ¬ Rd k ∧ k < w.heap.size)
    (I : List α → (Nat → Prop) → World → Prop) (Ix : Code → List α → (Nat → Prop) → World → Prop) (hI : Stab w.heap.size I) (hIx : ∀ c, Stab w.heap.size (Ix c)) (h0 : I [] S0 w)
    (Ax : α → Act → (Nat → Prop) → World → Prop) (hAx : ∀ a', Stab w.heap.size (fun x S W => Ax x a' S W))
    (hassign : ∀ (l : Nat) (pre : List α) (x : α) (post : List α) (S : Nat → Prop) (W : World) (K : Act → World → Prop), xs = pre ++ x :: post → I pre S W → (∀ k, S k → k < W.heap.size) → ¬ S l → l < W.heap.size → w.heap.size < l →
      (∀ a' S' W', Mv S W S' W' → I pre S' W' → Ax x a' S' W' → K a' W') →
      assign.wpIn (Fence.wide.inRound l) 99 P (Exit.then K (fun _ _ _ => False)) { tmps := (ps.zip (encs x)).foldl (fun t (p, v) => t.setIfInBounds p v) a.tmps, defers := [] } W)
    (hbody : ∀ (l : Nat) (pre : List α) (x : α) (post : List α) (a' : Act) (S : Nat → Prop) (W : World), xs = pre ++ x :: post → w.heap.size ≤ l → (∃ r, W.heap[l]? = some (.loop r)) → ¬ S l → (∀ k, S k → k < W.heap.size) → I pre S W → Ax x a' S W →
      body.wpIn (Fence.wide.inRound l) 99 P (roundEnd I Ix (pre ++ [x]) S W) a' W)
    (hdone : ∀ (D : Nat) (S : Nat → Prop) (W : World), w.heap.size ≤ D → ¬ S D → Mv S0 w S W → I xs S W → W.heap[D]? = some (.deferred (some [])) → Q .normal { a with defers := { target := .collected D, args := #[] } :: a.defers } W)
    (hstop : ∀ (D : Nat) (c : Code) (pre : List α) (S : Nat → Prop) (W : World), w.heap.size ≤ D → ¬ S D → Mv S0 w S W → pre ≠ [] → pre <+: xs → Ix c pre S W → W.heap[D]? = some (.deferred (some [])) → c.wp P Q { a with defers := { target := .collected D, args := #[] } :: a.defers } W) :
    (Code.rangeFunc g ps assign body).wp P Q a w := by
  rw [← wpIn_wide (n := 99)]
  refine wpIn_rangeFunc ?_
  intro fn _
  obtain ⟨rec, hrec⟩ : ∃ rec : LoopState → Option Code → Loop, rec = fun st pe => { state := st, pending := pe, fn, tmps := a.tmps, params := ps, assign, body, defers := w.heap.size } := ⟨_, rfl⟩
  obtain ⟨W1, hW1⟩ : ∃ W1, (w.alloc (.deferred (some []))).alloc (.loop (rec .ready none)) = W1 := ⟨_, rfl⟩
  have hL1 : W1.heap[w.heap.size + 1]? = some (.loop (rec .ready none)) := by
    rw [← hW1]; have := World.alloc_heap_new (w.alloc (.deferred (some []))) (.loop (rec .ready none)); rwa [World.size_alloc] at this
  have hK1 : W1.heap[w.heap.size]? = some (.deferred (some [])) := by
    rw [← hW1]; exact (Below.heap_alloc _ _ _ (by simp)).trans (World.alloc_heap_new w _)
  have hI1 : I [] S0 W1 := by rw [← hW1]; exact hI.alloc _ (hI.alloc _ h0)
  have hbw : Below w.heap.size w W1 := by rw [← hW1]; exact ((Below.refl _ w).alloc (Nat.le_refl _) _).alloc (by simp) _
  have hRw : ∀ k, Rd k → k < w.heap.size := fun k hk => Nat.lt_of_lt_of_le (hit.lt k hk) hb0.size
  have hb1 : Same Rd w0 W1 := hb0.trans (Same.of_below hbw hRw)
  have hsz1 : W1.heap.size = w.heap.size + 2 := by rw [← hW1]; simp
  refine ⟨w.heap.size + 1, [{ target := .collected w.heap.size, args := #[] }], W1, { target := .fn (.func gf) lb, args := #[.func (.yield (w.heap.size + 1)) #[] #[]] }, W1, gf,
    #[.func (.yield (w.heap.size + 1)) #[] #[]] ++ lb, W1, ?_, ?_, ?_, ?_, fun _ => by decide, ?_⟩
  · rw [← hW1, hrec]; exact run_enterLoop_outer _ _ _ _ _
  · simp only [resolve, hg]
    simp [go_sem]
  · intro f' hf'; trivial
  · simp [invoke, go_sem, eg]
  · rw [callsIn_wide]
    let X : Nat → Prop := fun k => k = w.heap.size ∨ k = w.heap.size + 1
    let Dk : World → Prop := fun W => W.heap[w.heap.size]? = some (.deferred (some []))
    have hDk : ∀ W W' : World, Dk W → (∀ k, X k → k ≠ w.heap.size + 1 → k < W.heap.size → W'.heap[k]? = W.heap[k]?) → Dk W' := fun W W' h hk =>
      (hk _ (.inl rfl) (by omega) (Array.getElem?_eq_some_iff.1 h).1).trans h
    let J : List α → (Nat → Prop) → World → Prop := Between I X (fun W => W.heap[w.heap.size + 1]? = some (.loop (rec .ready none)) ∧ Dk W)
    let Jx : List α → (Nat → Prop) → World → Prop := fun pre T W => ∃ c, Between (Ix c) X (fun W => W.heap[w.heap.size + 1]? = some (.loop (rec .done (some c))) ∧ Dk W) pre T W
    have hE : ∀ (o : Obj) (W W' : World), (W.heap[w.heap.size + 1]? = some o ∧ Dk W) → (∀ k, X k → k < W.heap.size → W'.heap[k]? = W.heap[k]?) → (W'.heap[w.heap.size + 1]? = some o ∧ Dk W') := fun o W W' h hk =>
      ⟨(hk _ (.inr rfl) (Array.getElem?_eq_some_iff.1 h.1).1).trans h.1, (hk _ (.inl rfl) (Array.getElem?_eq_some_iff.1 h.2).1).trans h.2⟩
    have hJ : Stab W1.heap.size J := Between.stab hI (by omega) (hE _)
    have hJx : Stab W1.heap.size Jx := by
      rintro s T W W' ⟨c, hc⟩ h1 h2 h3 h4 h5
      exact ⟨c, Between.stab (hIx c) (B' := W1.heap.size) (by omega) (hE _) s T W W' hc h1 h2 h3 h4 h5⟩
    have tr : ∀ {T S : Nat → Prop} {W : World}, Mv (fun k => S0 k ∨ X k) W1 T W → (∀ k, T k ↔ S k ∨ X k) → Mv S0 w S W := fun hm hT =>
      ⟨⟨hm.keep.os.trans hbw.os, hm.keep.tape.trans hbw.tape, hm.keep.output.trans hbw.output, Nat.le_trans hbw.size hm.keep.size, fun k hk hn => by
          refine (hm.keep.block k (by omega) (fun y => ?_)).trans (hbw.block k hk)
          rcases y with y | y | y
          · exact hn y
          · omega
          · omega⟩,
       fun k hk => by
          have h1 := hm.sub k ((hT k).2 (.inl hk))
          refine ⟨?_, h1.2⟩
          rcases h1.1 with (y | y | y) | y
          · exact .inl y
          · right; omega
          · right; omega
          · right; omega⟩
    have hend : ∀ {S T : Nat → Prop} {W : World} (o : Obj), Mv (fun k => S0 k ∨ X k) W1 T W → (∀ k, T k ↔ S k ∨ X k) → Mv S0 w S (W.putObj (w.heap.size + 1) o) := fun {S T W} o hm hT => by
      have hTb : ∀ k, T k → k < W.heap.size := fun k hk => (hm.sub k hk).2
      exact tr (hm.trans (mv_putObj (S := T) (l := w.heap.size + 1) o hTb ((hT _).2 (.inr (.inr rfl))))) hT
    refine (hit.run (w.heap.size + 1) J Jx (fun k => S0 k ∨ X k) W1 hb1 ?_ hJ hJx ?_ ?_).mono ?_
    · rintro k (y | y | y)
      · exact ⟨(hS0 k y).1, by have := (hS0 k y).2; omega⟩
      · subst y; exact ⟨fun hr => absurd (hRw _ hr) (by omega), by omega⟩
      · subst y; exact ⟨fun hr => absurd (hRw _ hr) (by omega), by omega⟩
    · intro pre x post T W2 he hJ2
      refine (rounds_of I Ix hI hIx hps X (.inr rfl) Ax hAx
        (fun pre x post S W K he hi hS hX hl hK => hassign (w.heap.size + 1) pre x post S W K he hi hS (hX _ (.inr rfl)) hl (by omega) hK)
        (fun pre x post a' S W he hw hr hl hS hi hax => hbody (w.heap.size + 1) pre x post a' S W he hw hr hl hS hi hax)
        rec hrec (by omega) Dk hDk pre x post T W2 he ?_).mono ?_
      · obtain ⟨S, h1, h2, h3, h4, h5, h6⟩ := hJ2
        exact ⟨S, h1, h2, h3, h4, h5, h6⟩
      · rintro e W' ⟨T', hm, ⟨he, S, h1, h2, h3, h4, h5, h6⟩ | ⟨he, S, c, h1, h2, h3, h4, h5, h6⟩⟩
        · exact ⟨T', hm, .inl ⟨he, S, h1, h2, h3, h4, h5, h6⟩⟩
        · exact ⟨T', hm, .inr ⟨he, c, S, h1, h2, h3, h4, h5, h6⟩⟩
    · refine ⟨S0, fun k => Iff.rfl, ?_, ?_, hI1, hL1, hK1⟩
      · rintro k (y | y | y)
        · have := (hS0 k y).2; omega
        · omega
        · omega
      · rintro k (y | y) z
        · have := (hS0 k z).2; omega
        · have := (hS0 k z).2; omega
    · rintro e W2 ⟨⟨v, rfl⟩, T, hm, ⟨S, hT, hTl, hX, hi, hl, hk⟩ | ⟨pre, hne, hpre, c, S, hT, hTl, hX, hi, hl, hk⟩⟩
      · refine ⟨none, _, by have := run_endLoop (P := P) hl (by rw [hrec]; simp); rw [hrec] at this; exact this, ?_⟩
        exact hdone w.heap.size S _ (Nat.le_refl _) (hX _ (.inl rfl)) (hend _ hm hT) (hI.putObj _ hi (by omega) (hX _ (.inr rfl))) ((World.putObj_heap_other (by omega)).trans hk)
      · refine ⟨some c, _, by have := run_endLoop (P := P) hl (by rw [hrec]; simp); rw [hrec] at this; exact this, ?_⟩
        exact wpIn_wide.2 (hstop w.heap.size c pre S _ (Nat.le_refl _) (hX _ (.inl rfl)) (hend _ hm hT) hne hpre ((hIx c).putObj _ hi (by omega) (hX _ (.inr rfl))) ((World.putObj_heap_other (by omega)).trans hk))

/-- **A LOOP OVER AN ITERATOR IN A ROUND OF ANOTHER.** -/
theorem wpIn_range {α : Type} {g : Operand} {ps : Array Tmp} {assign body : Code} {Q : Exit → Act → World → Prop} {a : Act} {w : World} {l₀ : Nat} (hl₀ : ∃ r, w.heap[l₀]? = some (.loop r))
    {gf : Nat} {lb : Array Value} (hg : a.eval g = .func (.func gf) #[] lb) (eg : ∀ args w, (callFunc gf args).run P w = .ok (.enter gf args) w)
    {encs : α → Array Value} {xs : List α} {Rd : Nat → Prop} {w0 : World} (hit : Iter P gf lb encs xs Rd w0) (hb0 : Same Rd w0 w) (hps : ∀ x, (encs x).size = ps.size)
    (S0 : Nat → Prop) (hS0 : ∀ k, S0 k → ¬ Rd k ∧ k < w.heap.size)
    (I : List α → (Nat → Prop) → World → Prop) (Ix : Code → List α → (Nat → Prop) → World → Prop) (hI : Stab w.heap.size I) (hIx : ∀ c, Stab w.heap.size (Ix c)) (h0 : I [] S0 w)
    (Ax : α → Act → (Nat → Prop) → World → Prop) (hAx : ∀ a', Stab w.heap.size (fun x S W => Ax x a' S W))
    (hassign : ∀ (l : Nat) (pre : List α) (x : α) (post : List α) (S : Nat → Prop) (W : World) (K : Act → World → Prop), xs = pre ++ x :: post → I pre S W → (∀ k, S k → k < W.heap.size) → ¬ S l → l < W.heap.size → w.heap.size ≤ l →
      (∀ a' S' W', Mv S W S' W' → I pre S' W' → Ax x a' S' W' → K a' W') →
      assign.wpIn (Fence.wide.inRound l) 99 P (Exit.then K (fun _ _ _ => False)) { tmps := (ps.zip (encs x)).foldl (fun t (p, v) => t.setIfInBounds p v) a.tmps, defers := [] } W)
    (hbody : ∀ (l : Nat) (pre : List α) (x : α) (post : List α) (a' : Act) (S : Nat → Prop) (W : World), xs = pre ++ x :: post → w.heap.size ≤ l → (∃ r, W.heap[l]? = some (.loop r)) → ¬ S l → (∀ k, S k → k < W.heap.size) → I pre S W → Ax x a' S W →
      body.wpIn (Fence.wide.inRound l) 99 P (roundEnd I Ix (pre ++ [x]) S W) a' W)
    (hdone : ∀ (S : Nat → Prop) (W : World), Mv S0 w S W → I xs S W → Q .normal a W)
    (hstop : ∀ (c : Code) (pre : List α) (S : Nat → Prop) (W : World), Mv S0 w S W → pre ≠ [] → pre <+: xs → Ix c pre S W → c.wpIn (Fence.wide.inRound l₀) 99 P Q a W) :
    (Code.rangeFunc g ps assign body).wpIn (Fence.wide.inRound l₀) 99 P Q a w := by
  obtain ⟨r₀, hl₀⟩ := hl₀
  refine wpIn_rangeFunc ?_
  intro fn _
  obtain ⟨rec, hrec⟩ : ∃ rec : LoopState → Option Code → Loop, rec = fun st pe => { state := st, pending := pe, fn, tmps := a.tmps, params := ps, assign, body, defers := r₀.defers } := ⟨_, rfl⟩
  obtain ⟨W1, hW1⟩ : ∃ W1, w.alloc (.loop (rec .ready none)) = W1 := ⟨_, rfl⟩
  have hL1 : W1.heap[w.heap.size]? = some (.loop (rec .ready none)) := by rw [← hW1]; exact World.alloc_heap_new w _
  have hI1 : I [] S0 W1 := by rw [← hW1]; exact hI.alloc _ h0
  have hbw : Below w.heap.size w W1 := by rw [← hW1]; exact (Below.refl _ w).alloc (Nat.le_refl _) _
  have hRw : ∀ k, Rd k → k < w.heap.size := fun k hk => Nat.lt_of_lt_of_le (hit.lt k hk) hb0.size
  have hb1 : Same Rd w0 W1 := hb0.trans (Same.of_below hbw hRw)
  have hsz1 : W1.heap.size = w.heap.size + 1 := by rw [← hW1]; simp
  refine ⟨w.heap.size, [], W1, { target := .fn (.func gf) lb, args := #[.func (.yield w.heap.size) #[] #[]] }, W1, gf,
    #[.func (.yield w.heap.size) #[] #[]] ++ lb, W1, ?_, ?_, ?_, ?_, fun _ => by decide, ?_⟩
  · rw [← hW1, hrec]; exact run_enterLoop_inner hl₀ _ _ _ _ _
  · simp only [resolve, hg]
    simp [go_sem]
  · intro f' hf'; trivial
  · simp [invoke, go_sem, eg]
  · refine CallsIn.inRound l₀ ?_
    rw [callsIn_wide]
    let X : Nat → Prop := fun k => k = w.heap.size
    let Dk : World → Prop := fun _ => True
    let J : List α → (Nat → Prop) → World → Prop := Between I X (fun W => W.heap[w.heap.size]? = some (.loop (rec .ready none)))
    let Jx : List α → (Nat → Prop) → World → Prop := fun pre T W => ∃ c, Between (Ix c) X (fun W => W.heap[w.heap.size]? = some (.loop (rec .done (some c)))) pre T W
    have hE : ∀ (o : Obj) (W W' : World), W.heap[w.heap.size]? = some o → (∀ k, X k → k < W.heap.size → W'.heap[k]? = W.heap[k]?) → W'.heap[w.heap.size]? = some o := fun o W W' h hk =>
      (hk _ rfl (Array.getElem?_eq_some_iff.1 h).1).trans h
    have hJ : Stab W1.heap.size J := Between.stab hI (by omega) (hE _)
    have hJx : Stab W1.heap.size Jx := by
      rintro s T W W' ⟨c, hc⟩ h1 h2 h3 h4 h5
      exact ⟨c, Between.stab (hIx c) (B' := W1.heap.size) (by omega) (hE _) s T W W' hc h1 h2 h3 h4 h5⟩
    have tr : ∀ {T S : Nat → Prop} {W : World}, Mv (fun k => S0 k ∨ X k) W1 T W → (∀ k, T k ↔ S k ∨ X k) → Mv S0 w S W := fun hm hT =>
      ⟨⟨hm.keep.os.trans hbw.os, hm.keep.tape.trans hbw.tape, hm.keep.output.trans hbw.output, Nat.le_trans hbw.size hm.keep.size, fun k hk hn => by
          refine (hm.keep.block k (by omega) (fun y => ?_)).trans (hbw.block k hk)
          rcases y with y | y
          · exact hn y
          · have : k = w.heap.size := y
            omega⟩,
       fun k hk => by
          have h1 := hm.sub k ((hT k).2 (.inl hk))
          refine ⟨?_, h1.2⟩
          rcases h1.1 with (y | y) | y
          · exact .inl y
          · have : k = w.heap.size := y
            right; omega
          · right; omega⟩
    have hend : ∀ {S T : Nat → Prop} {W : World} (o : Obj), Mv (fun k => S0 k ∨ X k) W1 T W → (∀ k, T k ↔ S k ∨ X k) → Mv S0 w S (W.putObj w.heap.size o) := fun {S T W} o hm hT => by
      have hTb : ∀ k, T k → k < W.heap.size := fun k hk => (hm.sub k hk).2
      exact tr (hm.trans (mv_putObj (S := T) (l := w.heap.size) o hTb ((hT _).2 (.inr rfl)))) hT
    refine (hit.run w.heap.size J Jx (fun k => S0 k ∨ X k) W1 hb1 ?_ hJ hJx ?_ ?_).mono ?_
    · rintro k (y | y)
      · exact ⟨(hS0 k y).1, by have := (hS0 k y).2; omega⟩
      · have e : k = w.heap.size := y
        subst e; exact ⟨fun hr => absurd (hRw _ hr) (by omega), by omega⟩
    · intro pre x post T W2 he hJ2
      refine (rounds_of I Ix hI hIx hps X rfl Ax hAx
        (fun pre x post S W K he hi hS hX hl hK => hassign w.heap.size pre x post S W K he hi hS (hX _ rfl) hl (Nat.le_refl _) hK)
        (fun pre x post a' S W he hw hr hl hS hi hax => hbody w.heap.size pre x post a' S W he hw hr hl hS hi hax)
        rec hrec (Nat.le_refl _) Dk (fun _ _ _ _ => trivial) pre x post T W2 he ?_).mono ?_
      · obtain ⟨S, h1, h2, h3, h4, h5⟩ := hJ2
        exact ⟨S, h1, h2, h3, h4, h5, trivial⟩
      · rintro e W' ⟨T', hm, ⟨he, S, h1, h2, h3, h4, h5, _⟩ | ⟨he, S, c, h1, h2, h3, h4, h5, _⟩⟩
        · exact ⟨T', hm, .inl ⟨he, S, h1, h2, h3, h4, h5⟩⟩
        · exact ⟨T', hm, .inr ⟨he, c, S, h1, h2, h3, h4, h5⟩⟩
    · refine ⟨S0, fun k => Iff.rfl, ?_, ?_, hI1, hL1⟩
      · rintro k (y | y)
        · have := (hS0 k y).2; omega
        · have : k = w.heap.size := y
          omega
      · intro k y z
        have : k = w.heap.size := y
        have := (hS0 k z).2; omega
    · rintro e W2 ⟨⟨v, rfl⟩, T, hm, ⟨S, hT, hTl, hX, hi, hl⟩ | ⟨pre, hne, hpre, c, S, hT, hTl, hX, hi, hl⟩⟩
      · refine ⟨none, _, by have := run_endLoop (P := P) hl (by rw [hrec]; simp); rw [hrec] at this; exact this, ?_⟩
        exact hdone S _ (hend _ hm hT) (hI.putObj _ hi (Nat.le_refl _) (hX _ rfl))
      · refine ⟨some c, _, by have := run_endLoop (P := P) hl (by rw [hrec]; simp); rw [hrec] at this; exact this, ?_⟩
        exact hstop c pre S _ (hend _ hm hT) hne hpre ((hIx c).putObj _ hi (Nat.le_refl _) (hX _ rfl))

/-- A function's contract from its body, where the body holds a range over a function: the body is walked by the plain walk. -/
theorem calls_of_wp_marks {f : FuncId} {fn : Func} {c : Code} {args : Array Value} {w : World} {R : Ending → World → Prop}
    (hf : P.funcs[f]? = some fn) (hb : fn.body = some c)
    (h : c.wp P (bodyPostM Fence.wide 99 P fn R) { tmps := args ++ Array.replicate (fn.ntmps - args.size) undef, defers := [] } w) : Calls P f args w R :=
  callsIn_wide.1 (callsIn_of_wp_marks (n := 99) hf hb trivial (wpIn_wide.2 h))
end Go.Proofs.Ytnaoemcekggloaa.It
