/- A range over a function whose iterator keeps state of its own in memory: a contract for iterators, and the law of the statement over it. -/
import Derived.Test.YtmpafnhaigfopaaLib2
import Derived.RangeFuncWrites
import Derived.RangeFuncBox
import Derived.RangeFuncLeaves
import Derived.Shelf.Abstract
import Derived.WalkKit
import Derived.OwnWalkIn
import Derived.TacticsInMore
import Derived.LoopNIn
import Derived.LoopIn
set_option linter.unusedSimpArgs false
set_option linter.unusedVariables false
namespace Go.Proofs.Ytmpafnhaigfopaa
open Go.RowKit

/-- From W to W' every block that was there is as it was, but for those of M. -/
structure Keep (M : Nat → Prop) (W W' : World) : Prop where
  os : W'.os = W.os
  tape : W'.tape = W.tape
  output : W'.output = W.output
  size : W.heap.size ≤ W'.heap.size
  block : ∀ k, k < W.heap.size → ¬ M k → W'.heap[k]? = W.heap[k]?

theorem Keep.refl (M : Nat → Prop) (W : World) : Keep M W W := ⟨rfl, rfl, rfl, Nat.le_refl _, fun _ _ _ => rfl⟩
theorem Keep.trans {M : Nat → Prop} {A B C : World} (h : Keep M A B) (k : Keep M B C) : Keep M A C :=
  ⟨k.os.trans h.os, k.tape.trans h.tape, k.output.trans h.output, Nat.le_trans h.size k.size, fun i hi hm => (k.block i (Nat.lt_of_lt_of_le hi h.size) hm).trans (h.block i hi hm)⟩
theorem Keep.more {M M' : Nat → Prop} {A B : World} (h : Keep M A B) (hM : ∀ k, M k → M' k) : Keep M' A B :=
  ⟨h.os, h.tape, h.output, h.size, fun k hk hm => h.block k hk (fun e => hm (hM k e))⟩
theorem Keep.of_below {M : Nat → Prop} {A B : World} (h : Below A.heap.size A B) : Keep M A B := ⟨h.os, h.tape, h.output, h.size, fun k hk _ => h.block k hk⟩
theorem Keep.set {M : Nat → Prop} {A B : World} {b o : Nat} (h : Keep M A B) (hM : M b) (v : Value) : Keep M A (B.setCell ⟨b, o, none⟩ v) :=
  h.trans ⟨rfl, rfl, rfl, by simp [World.setCell], fun k _ hm => Below.heap_setCell _ _ _ _ (fun e => hm (by rw [e]; exact hM))⟩
theorem Keep.alloc {M : Nat → Prop} {A B : World} (h : Keep M A B) (o : Obj) : Keep M A (B.alloc o) :=
  h.trans ⟨rfl, rfl, rfl, by simp, fun k hk _ => Below.heap_alloc _ _ _ hk⟩
theorem Keep.drew {M : Nat → Prop} {A B : World} (h : Keep M A B) : Keep M A B.drew := ⟨h.os, h.tape, h.output, h.size, h.block⟩
theorem Keep.put {M : Nat → Prop} {A B : World} {l : Nat} (h : Keep M A B) (hM : M l) (o : Obj) : Keep M A (B.putObj l o) :=
  h.trans ⟨rfl, rfl, rfl, by simp, fun k _ hm => World.putObj_heap_other (fun e => hm (by rw [e]; exact hM))⟩
theorem Keep.below {M : Nat → Prop} {B : Nat} {A C : World} (h : Keep M A C) (hB : B ≤ A.heap.size) (hM : ∀ k, k < B → ¬ M k) : Below B A C :=
  ⟨h.os, h.tape, h.output, h.size, fun k hk => h.block k (by omega) (hM k hk)⟩
theorem Keep.blk {M : Nat → Prop} {A B : World} (h : Keep M A B) {b : Nat} {t : TypeId} {cs : List Value} (hb : Blk A b t cs) (hM : ¬ M b) : Blk B b t cs := by
  have := hb.lt
  unfold Blk at *
  rw [h.block b this hM]; exact hb
theorem Keep.grown {M : Nat → Prop} {A B : World} {b : Nat} (h : A.grownBy B (some b)) (hM : M b) : Keep M A B :=
  ⟨h.os, h.tape, h.output, h.size, fun k hk hm => h.block k hk (fun e => hm (by injection e with e; rw [e]; exact hM))⟩

theorem putBelow {B l : Nat} {W W' : World} (h : Below B W W') (hB : B ≤ l) (o : Obj) : Below B W (W'.putObj l o) :=
  h.trans ⟨rfl, rfl, rfl, by simp, fun k hk => World.putObj_heap_other (by omega)⟩

theorem Blk.put {W : World} {b l : Nat} {t : TypeId} {cs : List Value} (h : Blk W b t cs) (hne : b ≠ l) (o : Obj) : Blk (W.putObj l o) b t cs := by
  unfold Blk at *
  rw [World.putObj_heap_other hne]; exact h

section
variable {P : Program} {α : Type}

/-- AN ITERATOR's CONTRACT at the world W: called with yield it hands over xs, in order, till a round says 'no more'. J: what the caller holds between two rounds: it may lean on blocks below the heap's size at the call alone. Mb: the blocks that a round may write: below that size too; 'need': the blocks that the iterator reads. -/
def Iter (P : Program) (g : Nat) (lb : Array Value) (encs : α → Array Value) (xs : List α) (need : Nat → Prop) (W : World) : Prop :=
  ∀ (m l : Nat) (J Jx : List α → World → Prop) (M : Nat → Prop), (∀ k, M k → k < W.heap.size ∧ ¬ need k) →
    (∀ pre A B, J pre A → Below W.heap.size A B → J pre B) →
    (∀ pre x A, J pre A → W.heap.size ≤ A.heap.size → pre ++ [x] <+: xs → YieldAt Fence.wide m P l (encs x) A fun e B =>
      (e = .returned (.bool true) ∧ J (pre ++ [x]) B ∧ Keep M A B) ∨ (e = .returned (.bool false) ∧ Jx (pre ++ [x]) B)) →
    J [] W →
    CallsIn Fence.wide (m + 1) P g (#[.func (.yield l) #[] #[]] ++ lb) W fun e W' => (∃ v, e = .returned v) ∧ (J xs W' ∨ ∃ pre, pre <+: xs ∧ Jx pre W')

/-- HOW THE BODY OF A ROUND MAY BE LEFT: off its end, or by a return of the function's. -/
def roundEnd (M : Nat → Prop) (I Ix : List α → World → Prop) (pre : List α) (W : World) : Exit → Act → World → Prop
  | .normal, _, W' => Keep M W W' ∧ I pre W'
  | .ret, _, W' => Keep M W W' ∧ Ix pre W'
  | _, _, _ => False

/-- THE STATEMENT. I: what holds between two rounds, of blocks that lay when the statement began; Ix: what holds where a round has returned. -/
theorem wp_range {g : Operand} {ps : Array Tmp} {assign body : Code} {Q : Exit → Act → World → Prop} {a : Act} {w : World}
    {gf : Nat} {lb : Array Value} (hg : a.eval g = .func (.func gf) #[] lb) (eg : ∀ args w, (callFunc gf args).run P w = .ok (.enter gf args) w)
    {encs : α → Array Value} {xs : List α} {need : Nat → Prop} (hps : ∀ x, (encs x).size = ps.size)
    (M : Nat → Prop) (hM : ∀ k, M k → k < w.heap.size ∧ ¬ need k) (hneed : ∀ k, need k → k < w.heap.size)
    (hit : ∀ W, Below w.heap.size w W → Iter P gf lb encs xs need W)
    (I Ix : List α → World → Prop) (hI : ∀ pre A B, I pre A → Below w.heap.size A B → I pre B) (hIx : ∀ pre A B, Ix pre A → Below w.heap.size A B → Ix pre B) (h0 : I [] w)
    (hround : ∀ (l : Nat) (pre : List α) (x : α) (W : World), w.heap.size ≤ l → l < W.heap.size → I pre W → pre ++ [x] <+: xs → w.heap.size ≤ W.heap.size →
      assign.wpIn (Fence.wide.inRound l) 0 P (Exit.then (fun a₁ W₁ => Keep M W W₁ ∧ ∀ W₂, Keep (· = l) W₁ W₂ → body.wpIn (Fence.wide.inRound l) 0 P (roundEnd M I Ix (pre ++ [x]) W₂) a₁ W₂) (fun _ _ _ => False))
        { tmps := (ps.zip (encs x)).foldl (fun t (p, v) => t.setIfInBounds p v) a.tmps, defers := [] } W)
    (hdone : ∀ (D : Nat) (W : World), w.heap.size ≤ D → I xs W → W.heap[D]? = some (.deferred (some [])) → w.heap.size ≤ W.heap.size → Q .normal { a with defers := { target := .collected D, args := #[] } :: a.defers } W)
    (hstop : ∀ (D : Nat) (pre : List α) (W : World), w.heap.size ≤ D → pre <+: xs → Ix pre W → W.heap[D]? = some (.deferred (some [])) → w.heap.size ≤ W.heap.size → Q .ret { a with defers := { target := .collected D, args := #[] } :: a.defers } W) :
    (Code.rangeFunc g ps assign body).wp P Q a w := by
  refine (wpIn_wide (n := 2)).1 (wpIn_rangeFunc ?_)
  intro fn hfn
  obtain ⟨rec, hrec⟩ : ∃ rec : LoopState → Option Code → Loop, rec = fun st pe => { state := st, pending := pe, fn, tmps := a.tmps, params := ps, assign, body, defers := w.heap.size } := ⟨_, rfl⟩
  obtain ⟨W1, hW1⟩ : ∃ W1, (w.alloc (.deferred (some []))).alloc (.loop (rec .ready none)) = W1 := ⟨_, rfl⟩
  have hL1 : W1.heap[w.heap.size + 1]? = some (.loop (rec .ready none)) := by
    rw [← hW1]; have := World.alloc_heap_new (w.alloc (.deferred (some []))) (.loop (rec .ready none)); rwa [World.size_alloc] at this
  have hK1 : W1.heap[w.heap.size]? = some (.deferred (some [])) := by
    rw [← hW1]; exact (Below.heap_alloc _ _ _ (by simp)).trans (World.alloc_heap_new w _)
  have hb1 : Below w.heap.size w W1 := by rw [← hW1]; exact belowAlloc (belowAlloc (Below.refl _ _) _) _
  have hs1 : W1.heap.size = w.heap.size + 2 := by rw [← hW1]; simp
  have hro : Fence.wide.round = none := rfl
  rw [hro]
  refine ⟨w.heap.size + 1, [{ target := .collected w.heap.size, args := #[] }], W1, { target := .fn (.func gf) lb, args := #[.func (.yield (w.heap.size + 1)) #[] #[]] }, W1, gf,
    #[.func (.yield (w.heap.size + 1)) #[] #[]] ++ lb, W1, ?_, ?_, ?_, ?_, fun h => by simp [Fence.wide] at h, ?_⟩
  · rw [← hW1, hrec]; exact run_enterLoop_outer _ _ _ _ _
  · simp only [resolve, hg]
    simp [go_sem]
  · intro f' _; trivial
  · simp [invoke, go_sem, eg]
  · refine (hit W1 hb1 0 (w.heap.size + 1)
      (fun pre W => I pre W ∧ W.heap[w.heap.size + 1]? = some (.loop (rec .ready none)) ∧ W.heap[w.heap.size]? = some (.deferred (some [])) ∧ w.heap.size + 2 ≤ W.heap.size)
      (fun pre W => Ix pre W ∧ W.heap[w.heap.size + 1]? = some (.loop (rec .done (some .ret))) ∧ W.heap[w.heap.size]? = some (.deferred (some [])) ∧ w.heap.size + 2 ≤ W.heap.size)
      (fun k => M k ∨ k = w.heap.size + 1) ?_ ?_ ?_ ⟨hI _ _ _ h0 hb1, hL1, hK1, by omega⟩).mono ?_
    · rintro k (hk | rfl)
      · exact ⟨by have := (hM k hk).1; omega, (hM k hk).2⟩
      · exact ⟨by omega, fun h => by have := hneed _ h; omega⟩
    · rintro pre A B ⟨g1, g2, g3, g4⟩ hAB
      exact ⟨hI _ _ _ g1 (hAB.mono (by omega)), (hAB.block _ (by omega)).trans g2, (hAB.block _ (by omega)).trans g3, Nat.le_trans g4 hAB.size⟩
    · rintro pre x W ⟨hi, hl, hk, hsz⟩ _ hpx
      have hy := run_yield (P := P) (args := encs x) hl (by rw [hrec]; exact hps x)
      rw [hrec] at hy
      refine ⟨fn, _, assign, body, hy, roundIn_of_wpIn hfn ?_⟩
      refine wpIn_mono (hround (w.heap.size + 1) pre x W (by omega) (by omega) hi hpx (by omega)) ?_
      intro e a₁ W2 hpost
      have hnm : ¬ M (w.heap.size + 1) := fun h => by have := (hM _ h).1; omega
      have hnd : ¬ M w.heap.size := fun h => by have := (hM _ h).1; omega
      cases e with
      | normal =>
        obtain ⟨hkp, hb⟩ := hpost
        have hl2 : W2.heap[w.heap.size + 1]? = some (.loop (rec .ready none)) := (hkp.block _ (by omega) hnm).trans hl
        have hk2 : W2.heap[w.heap.size]? = some (.deferred (some [])) := (hkp.block _ (by omega) hnd).trans hk
        have hlt2 := (Array.getElem?_eq_some_iff.1 hl2).1
        obtain ⟨W3, hW3⟩ : ∃ W3, W2.putObj (w.heap.size + 1) (.loop { rec .ready none with state := .busy }) = W3 := ⟨_, rfl⟩
        refine ⟨W3, by rw [← hW3]; exact run_beginRound hl2 (by rw [hrec]), ?_⟩
        have hkp3 : Keep (· = w.heap.size + 1) W2 W3 := by rw [← hW3]; exact Keep.put (M := (· = w.heap.size + 1)) (Keep.refl _ _) rfl _
        refine wpIn_mono (hb W3 hkp3) ?_
        have hl3 : W3.heap[w.heap.size + 1]? = some (.loop { rec .ready none with state := .busy }) := by rw [← hW3]; exact World.putObj_heap_same hlt2
        have hk3 : W3.heap[w.heap.size]? = some (.deferred (some [])) := (hkp3.block _ (by omega) (by omega)).trans hk2
        have hs3 : w.heap.size + 2 ≤ W3.heap.size := Nat.le_trans (Nat.le_trans hsz hkp.size) hkp3.size
        intro e₂ a₂ W4 hp
        cases e₂ with
        | normal =>
          obtain ⟨hkp4, hi4⟩ := hp
          have hl4 := (hkp4.block _ (by omega) hnm).trans hl3
          have hk4 := (hkp4.block _ (by omega) hnd).trans hk3
          have hlt4 := (Array.getElem?_eq_some_iff.1 hl4).1
          have hend := run_endRound (P := P) none hl4
          refine ⟨_, _, hend, .inl ⟨rfl, ⟨hI _ _ _ hi4 (putBelow (Below.refl _ _) (by omega) _), ?_, (World.putObj_heap_other (by omega)).trans hk4, ?_⟩, ?_⟩⟩
          · rw [World.putObj_heap_same hlt4, hrec]; rfl
          · have := hkp4.size; simp; omega
          · exact (((hkp.more fun k h => .inl h).trans (hkp3.more fun k h => .inr h)).trans (hkp4.more fun k h => .inl h)).put (.inr rfl) _
        | ret =>
          obtain ⟨hkp4, hi4⟩ := hp
          have hl4 := (hkp4.block _ (by omega) hnm).trans hl3
          have hk4 := (hkp4.block _ (by omega) hnd).trans hk3
          have hlt4 := (Array.getElem?_eq_some_iff.1 hl4).1
          have hend := run_endRound (P := P) (some .ret) hl4
          refine ⟨_, _, hend, .inr ⟨rfl, hIx _ _ _ hi4 (putBelow (Below.refl _ _) (by omega) _), ?_, (World.putObj_heap_other (by omega)).trans hk4, ?_⟩⟩
          · rw [World.putObj_heap_same hlt4, hrec]; rfl
          · have := hkp4.size; simp; omega
        | exit id => exact hp.elim
        | goto t => exact hp.elim
        | panic ch => exact hp.elim
        | outgrown => exact hp.elim
      | exit id => exact hpost.elim
      | goto t => exact hpost.elim
      | ret => exact hpost.elim
      | panic ch => exact hpost.elim
      | outgrown => exact hpost.elim
    · rintro e W2 ⟨⟨v, rfl⟩, (⟨hi, hl, hk, hs⟩ | ⟨pre, hpre, hi, hl, hk, hs⟩)⟩
      · refine ⟨none, _, by have := run_endLoop (P := P) hl (by rw [hrec]; simp); rw [hrec] at this; exact this, ?_⟩
        exact hdone w.heap.size _ (Nat.le_refl _) (hI _ _ _ hi (putBelow (Below.refl _ _) (by omega) _)) ((World.putObj_heap_other (by omega)).trans hk) (by simp; omega)
      · refine ⟨some .ret, _, by have := run_endLoop (P := P) hl (by rw [hrec]; simp); rw [hrec] at this; exact this, ?_⟩
        exact wpIn_ret (hstop w.heap.size pre _ (Nat.le_refl _) hpre (hIx _ _ _ hi (putBelow (Below.refl _ _) (by omega) _)) ((World.putObj_heap_other (by omega)).trans hk) (by simp; omega))

/-- A function whose body holds such statements: its contract from its body. -/
theorem calls_of_marks {f : FuncId} {fn : Func} {c : Code} {args : Array Value} {w : World} {R : Ending → World → Prop}
    (hf : P.funcs[f]? = some fn) (hb : fn.body = some c)
    (h : c.wp P (bodyPostM Fence.wide 2 P fn R) { tmps := args ++ Array.replicate (fn.ntmps - args.size) undef, defers := [] } w) : Calls P f args w R :=
  callsIn_wide.1 (callsIn_of_wp_marks (n := 2) hf hb trivial (wpIn_wide.2 h))

/-- The end of such a function, one statement of the kind behind it. -/
theorem marks_end {fn : Func} {R : Ending → World → Prop} {tmps : Array Value} {D : Nat} {w : World} {v : Value} (hK : w.heap[D]? = some (.deferred (some [])))
    (hr : (results fn tmps).run P (w.putObj D (.deferred none)) = .ok v (w.putObj D (.deferred none))) (hR : R (.returned v) (w.putObj D (.deferred none))) :
    LeavesInM Fence.wide 2 P fn tmps R [{ target := .collected D, args := #[] }] .returning w :=
  ⟨by simp, .inl ⟨D, _, rfl, run_takeDeferred hK, v, hr, hR⟩⟩
end
end Go.Proofs.Ytmpafnhaigfopaa
