import Derived.Test.YtdbdnlchmmedhaaServo
import Derived.RegionTactic
import Derived.ChangeAlike
namespace Go.Proofs.Ytdbdnlchmmedhaa
open Go.RowKit

set_option maxRecDepth 100000 in
set_option maxHeartbeats 400000 in
theorem hear_good (l s a o n : Int) (g : Bool) (b : Nat) (w : World) (hb : Blk w b 80 [.int .i64 l, .int .i64 s, .int .i64 a, .int .i64 o, .bool g]) :
    Calls Try.prog 28 #[.pointer (some ⟨b, 0, none⟩), .int .i64 1, .int .i64 n] w fun e w' =>
      e = .returned (.tuple #[]) ∧ Blk w' b 80 [.int .i64 n, .int .i64 0, .int .i64 0, .int .i64 o, .bool g] ∧ w.grownBy w' (some b) := by
  have hc := hb.cell
  have hf := hb.frozen
  go_enter Try.func28, Try.ntmps28
  go_wp2_with (go_at_call 42; refine Calls.mono (observe_good _ _ _ _ _) ?_; rintro e w1 ⟨rfl, hb1⟩; have hb2 := hb.below hb1; have hc2 := hb2.cell; have hf2 := hb2.frozen)
  go_end0
  exact ⟨rfl, ((hb2.set 0 _).set 1 _).set 2 _, grownSet (grownSet (grownSet (grownOfBelow _ hb1) _ _) _ _) _ _⟩

set_option maxRecDepth 100000 in
set_option maxHeartbeats 400000 in
theorem hear_bad (l s a o k n : Int) (g : Bool) (b : Nat) (w : World) (hk : (k == 1) = false) (hb : Blk w b 80 [.int .i64 l, .int .i64 s, .int .i64 a, .int .i64 o, .bool g]) :
    Calls Try.prog 28 #[.pointer (some ⟨b, 0, none⟩), .int .i64 k, .int .i64 n] w fun e w' =>
      e = .returned (.tuple #[]) ∧ Blk w' b 80 [.int .i64 l, .int .i64 s, .int .i64 (wrap64 (a + 1)), .int .i64 o, .bool (g || decide (6 < wrap64 (a + 1)))] ∧ w.grownBy w' (some b) := by
  have hc := hb.cell
  have hf := hb.frozen
  obtain ⟨x, hx⟩ : ∃ x, x = wrap64 (a + 1) := ⟨_, rfl⟩
  have hobs := observe_bad l s a k n w hk
  rw [← hx] at hobs ⊢
  clear hx
  have H := hid hobs
  clear hobs
  by_cases h6 : 6 < x
  · have e1 : (g || decide (6 < x)) = true := by simp [h6]
    rw [e1]; clear e1
    go_enter Try.func28, Try.ntmps28
    go_wp2_with (go_at_call 42; refine Calls.mono H.out ?_; rintro e w1 ⟨rfl, hb1⟩; have hb2 := hb.below hb1; have hc2 := hb2.cell; have hf2 := hb2.frozen)
    go_end0
    exact ⟨rfl, (((hb2.set 0 _).set 1 _).set 2 _).set 4 _, grownSet (grownSet (grownSet (grownSet (grownOfBelow _ hb1) _ _) _ _) _ _) _ _⟩
  · have e1 : (g || decide (6 < x)) = g := by simp [h6]
    rw [e1]; clear e1
    go_enter Try.func28, Try.ntmps28
    go_wp2_with (go_at_call 42; refine Calls.mono H.out ?_; rintro e w1 ⟨rfl, hb1⟩; have hb2 := hb.below hb1; have hc2 := hb2.cell; have hf2 := hb2.frozen)
    go_end0
    exact ⟨rfl, ((hb2.set 0 _).set 1 _).set 2 _, grownSet (grownSet (grownSet (grownOfBelow _ hb1) _ _) _ _) _ _⟩

set_option maxRecDepth 100000 in
set_option maxHeartbeats 400000 in
theorem order_any (l s a o n : Int) (g : Bool) (b : Nat) (w : World) (hb : Blk w b 80 [.int .i64 l, .int .i64 s, .int .i64 a, .int .i64 o, .bool g]) :
    Calls Try.prog 29 #[.pointer (some ⟨b, 0, none⟩), .int .i64 n] w fun e w' =>
      e = .returned (.tuple #[]) ∧ Blk w' b 80 [.int .i64 l, .int .i64 (wrap64 (s + n)), .int .i64 a, .int .i64 n, .bool g] ∧ w.grownBy w' (some b) := by
  have hc := hb.cell
  have hf := hb.frozen
  go_enter Try.func29, Try.ntmps29
  go_wp2_with (go_at_call 43; refine Calls.mono (command_any _ _ _ _ _) ?_; rintro e w1 ⟨rfl, hb1⟩; have hb2 := (hb.set 3 (.int .i64 n)).below hb1; have hc2 := hb2.cell; have hf2 := hb2.frozen)
  go_end0
  exact ⟨rfl, ((hb2.set 0 _).set 1 _).set 2 _, grownSet (grownSet (grownSet (grownTrans (grownSet (grownRefl _ _) _ _) (grownOfBelow _ hb1)) _ _) _ _) _ _⟩

def track (l s target : Int) : Int := wrap64 (wrap64 (wrap64 (target * 16) + 8) - wrap64 (wrap64 (wrap64 (l*16)+s)+8))

set_option maxRecDepth 100000 in
set_option maxHeartbeats 400000 in
theorem track_any (l s a o t : Int) (b : Bool) (w : World) :
    Calls Try.prog 26 #[.agg #[.int .i64 l, .int .i64 s, .int .i64 a, .int .i64 o, .bool b], .int .i64 t] w fun e w' => e = .returned (.int .i64 (track l s t)) ∧ Below w.heap.size w w' := by
  go_enter Try.func26, Try.ntmps26
  go_wp2_with (go_at_call 40; refine Calls.mono (estimate_any _ _ _ _) ?_; rintro e w' ⟨rfl, hb⟩)
  go_ret
  exact ⟨rfl, belowAfter (belowAlloc (Below.refl _ _) _) hb⟩

/-- What the loop knows behind a sample: the last reading, the orders since, the age, whether it is lost. -/
def hL (k l n : Int) : Int := if k = 1 then n else l
def hS (k s : Int) : Int := if k = 1 then 0 else s
def hA (k a : Int) : Int := if k = 1 then 0 else wrap64 (a + 1)
def hG (k a : Int) (g : Bool) : Bool := if k = 1 then g else g || decide (6 < wrap64 (a + 1))

theorem hear_any (l s a o k n : Int) (g : Bool) (b : Nat) (w : World) (hb : Blk w b 80 [.int .i64 l, .int .i64 s, .int .i64 a, .int .i64 o, .bool g]) :
    Calls Try.prog 28 #[.pointer (some ⟨b, 0, none⟩), .int .i64 k, .int .i64 n] w fun e w' =>
      e = .returned (.tuple #[]) ∧ Blk w' b 80 [.int .i64 (hL k l n), .int .i64 (hS k s), .int .i64 (hA k a), .int .i64 o, .bool (hG k a g)] ∧ w.grownBy w' (some b) := by
  by_cases h : k = 1
  · subst h; exact hear_good l s a o n g b w hb
  · have := hear_bad l s a o k n g b w (by simp [h]) hb
    simpa only [hL, hS, hA, hG, if_neg h] using this

def clamp (n : Int) : Int := max (-128) (min n 128)
/-- The command of a period. -/
def ordF (g : Bool) (l s t : Int) : Int := if g then 0 else clamp (track l s t)

set_option maxRecDepth 100000 in
set_option maxHeartbeats 400000 in
theorem step_lost (l s a o k n t l1 s1 a1 : Int) (g : Bool) (w : World)
    (hh : ∀ b w, Blk w b 80 [.int .i64 l, .int .i64 s, .int .i64 a, .int .i64 o, .bool g] → Calls Try.prog 28 #[.pointer (some ⟨b, 0, none⟩), .int .i64 k, .int .i64 n] w fun e w' =>
      e = .returned (.tuple #[]) ∧ Blk w' b 80 [.int .i64 l1, .int .i64 s1, .int .i64 a1, .int .i64 o, .bool true] ∧ w.grownBy w' (some b)) :
    Calls Try.prog 9 #[.agg #[.int .i64 l, .int .i64 s, .int .i64 a, .int .i64 o, .bool g], .int .i64 k, .int .i64 n, .int .i64 t] w fun e w' =>
      e = .returned (.tuple #[.agg #[.int .i64 l1, .int .i64 (wrap64 (s1 + 0)), .int .i64 a1, .int .i64 0, .bool true], .int .i64 0]) ∧ Below w.heap.size w w' := by
  have Hh := hid hh
  clear hh
  obtain ⟨B, hB⟩ : ∃ B, w.heap.size + 1 = B := ⟨_, rfl⟩
  obtain ⟨C, hC⟩ : ∃ C, B + 1 = C := ⟨_, rfl⟩
  go_enter Try.func9, Try.ntmps9
  go_wp2_with fail
  refine calls_with (fun W => Blk W C 80 [.int .i64 l, .int .i64 s, .int .i64 a, .int .i64 o, .bool g] ∧ Blk W B 28 [.int .i64 0, .int .i64 0, .int .i64 0, .int .i64 0, .bool false] ∧ Below w.heap.size w W) ?_ ?_
  · refine ⟨?_, ?_, ?_⟩
    · simp [Blk.alloc_iff, ← hB, ← hC]
    · simp [Blk.alloc_iff, ← hB]
    · repeat (first | exact Below.refl _ _ | apply belowAlloc)
  rintro W ⟨h1, h2, h3⟩
  refine Calls.mono (Hh.out _ _ h1) ?_; rintro e w1 ⟨rfl, hb1, hg1⟩
  have hb2 : Blk w1 B 28 [.int .i64 0, .int .i64 0, .int .i64 0, .int .i64 0, .bool false] := h2.grown hg1 (by omega)
  have h4 : Below w.heap.size w w1 := h3.grown hg1 h3.size (by intro k hk; cases hk; omega)
  have hc1 := hb1.cell; have hc2 := hb1.frozen; have hc3 := hb2.cell; have hc4 := hb2.frozen
  clear h1 h2 h3 hg1 Hh
  have hne : B ≠ C := by omega
  have hne2 : w.heap.size ≤ C := by omega
  have hne3 : w.heap.size ≤ B := by omega
  have Hb := hid (And.intro hne (And.intro hne2 hne3))
  clear hB hC hne hne2 hne3
  go_wp2_with fail
  refine Calls.mono (order_any _ _ _ _ _ _ _ _ hb1) ?_; rintro e w3 ⟨rfl, hb3, hg3⟩
  obtain ⟨hne, hne2, hne3⟩ := Hb.out
  have hb5 : Blk w3 B 28 [.int .i64 0, .int .i64 0, .int .i64 0, .int .i64 0, .bool false] := hb2.grown hg3 hne
  have h5 : Below w.heap.size w w3 := h4.grown hg3 h4.size (by intro k hk; cases hk; omega)
  clear hb1 hb2 h4 hg3
  have hc1 := hb3.cell; have hc2 := hb3.frozen; have hc3 := hb5.cell; have hc4 := hb5.frozen
  go_wp2_with fail
  go_region
  go_wp2_with fail
  refine bodyPost_ret (v := .tuple #[.agg #[.int .i64 l1, .int .i64 (wrap64 (s1 + 0)), .int .i64 a1, .int .i64 0, .bool true], .int .i64 0]) ?_ rfl ⟨rfl, ?_⟩
  · simp [results, Try.results9, go_sem, hc3]
  · refine belowDrew ?_
    repeat (first | exact h5 | refine belowSet ?_ hne3 _)

set_option maxRecDepth 100000 in
set_option maxHeartbeats 400000 in
theorem step_ok (l s a o k n t l1 s1 a1 : Int) (g : Bool) (w : World)
    (hh : ∀ b w, Blk w b 80 [.int .i64 l, .int .i64 s, .int .i64 a, .int .i64 o, .bool g] → Calls Try.prog 28 #[.pointer (some ⟨b, 0, none⟩), .int .i64 k, .int .i64 n] w fun e w' =>
      e = .returned (.tuple #[]) ∧ Blk w' b 80 [.int .i64 l1, .int .i64 s1, .int .i64 a1, .int .i64 o, .bool false] ∧ w.grownBy w' (some b)) :
    Calls Try.prog 9 #[.agg #[.int .i64 l, .int .i64 s, .int .i64 a, .int .i64 o, .bool g], .int .i64 k, .int .i64 n, .int .i64 t] w fun e w' =>
      e = .returned (.tuple #[.agg #[.int .i64 l1, .int .i64 (wrap64 (s1 + (clamp (track l1 s1 t)))), .int .i64 a1, .int .i64 (clamp (track l1 s1 t)), .bool false], .int .i64 (clamp (track l1 s1 t))]) ∧ Below w.heap.size w w' := by
  have Hh := hid hh
  clear hh
  obtain ⟨B, hB⟩ : ∃ B, w.heap.size + 1 = B := ⟨_, rfl⟩
  obtain ⟨C, hC⟩ : ∃ C, B + 1 = C := ⟨_, rfl⟩
  go_enter Try.func9, Try.ntmps9
  go_wp2_with fail
  refine calls_with (fun W => Blk W C 80 [.int .i64 l, .int .i64 s, .int .i64 a, .int .i64 o, .bool g] ∧ Blk W B 28 [.int .i64 0, .int .i64 0, .int .i64 0, .int .i64 0, .bool false] ∧ Below w.heap.size w W) ?_ ?_
  · refine ⟨?_, ?_, ?_⟩
    · simp [Blk.alloc_iff, ← hB, ← hC]
    · simp [Blk.alloc_iff, ← hB]
    · repeat (first | exact Below.refl _ _ | apply belowAlloc)
  rintro W ⟨h1, h2, h3⟩
  refine Calls.mono (Hh.out _ _ h1) ?_; rintro e w1 ⟨rfl, hb1, hg1⟩
  have hb2 : Blk w1 B 28 [.int .i64 0, .int .i64 0, .int .i64 0, .int .i64 0, .bool false] := h2.grown hg1 (by omega)
  have h4 : Below w.heap.size w w1 := h3.grown hg1 h3.size (by intro k hk; cases hk; omega)
  have hc1 := hb1.cell; have hc2 := hb1.frozen; have hc3 := hb2.cell; have hc4 := hb2.frozen
  clear h1 h2 h3 hg1 Hh
  have hne : B ≠ C := by omega
  have hne2 : w.heap.size ≤ C := by omega
  have hne3 : w.heap.size ≤ B := by omega
  have Hb := hid (And.intro hne (And.intro hne2 hne3))
  clear hB hC hne hne2 hne3
  go_wp2_with fail
  clear hc1 hc2 hc3 hc4
  refine Calls.mono (track_any _ _ _ _ _ _ _) ?_; rintro e w2 ⟨rfl, hb⟩
  have hb1' := hb1.below hb; have hb2' := hb2.below hb; have h4' := belowAfter h4 hb
  clear hb1 hb2 h4 hb
  have hb1 := hb1'; have hb2 := hb2'; have h4 := h4'
  clear hb1' hb2' h4'
  go_wp2_with fail
  refine Calls.mono (within_any _ _ _ _) ?_; rintro e w2 ⟨rfl, rfl⟩
  rw [show max (-128) (min (track l1 s1 t) 128) = clamp (track l1 s1 t) from rfl]
  go_wp2_with fail
  refine Calls.mono (order_any _ _ _ _ _ _ _ _ hb1) ?_; rintro e w3 ⟨rfl, hb3, hg3⟩
  obtain ⟨hne, hne2, hne3⟩ := Hb.out
  have hb5 : Blk w3 B 28 [.int .i64 0, .int .i64 0, .int .i64 0, .int .i64 0, .bool false] := hb2.grown hg3 hne
  have h5 : Below w.heap.size w w3 := h4.grown hg3 h4.size (by intro k hk; cases hk; omega)
  clear hb1 hb2 h4 hg3
  have hc1 := hb3.cell; have hc2 := hb3.frozen; have hc3 := hb5.cell; have hc4 := hb5.frozen
  go_wp2_with fail
  go_region
  go_wp2_with fail
  refine bodyPost_ret (v := .tuple #[.agg #[.int .i64 l1, .int .i64 (wrap64 (s1 + (clamp (track l1 s1 t)))), .int .i64 a1, .int .i64 (clamp (track l1 s1 t)), .bool false], .int .i64 (clamp (track l1 s1 t))]) ?_ rfl ⟨rfl, ?_⟩
  · simp [results, Try.results9, go_sem, hc3]
  · refine belowDrew ?_
    repeat (first | exact h5 | refine belowSet ?_ hne3 _)

theorem step_any (l s a o k n t : Int) (g : Bool) (w : World) :
    Calls Try.prog 9 #[.agg #[.int .i64 l, .int .i64 s, .int .i64 a, .int .i64 o, .bool g], .int .i64 k, .int .i64 n, .int .i64 t] w fun e w' =>
      e = .returned (.tuple #[.agg #[.int .i64 (hL k l n), .int .i64 (wrap64 (hS k s + ordF (hG k a g) (hL k l n) (hS k s) t)), .int .i64 (hA k a), .int .i64 (ordF (hG k a g) (hL k l n) (hS k s) t), .bool (hG k a g)], .int .i64 (ordF (hG k a g) (hL k l n) (hS k s) t)]) ∧ Below w.heap.size w w' := by
  have hh := fun b w hb => hear_any l s a o k n g b w hb
  cases h : hG k a g with
  | true => rw [h] at hh; exact step_lost l s a o k n t _ _ _ g w hh
  | false => rw [h] at hh; exact step_ok l s a o k n t _ _ _ g w hh

set_option maxRecDepth 100000 in
set_option maxHeartbeats 400000 in
theorem servoNew_any (n : Int) (w : World) :
    Calls Try.prog 8 #[.int .i64 n] w fun e w' => e = .returned (.agg #[.int .i64 (quant n), .int .i64 0, .int .i64 0, .int .i64 0, .bool false]) ∧ Below w.heap.size w w' := by
  go_enter Try.func8, Try.ntmps8
  go_wp2_with fail
  refine Calls.mono (encNew_any _ _) ?_; rintro e w1 ⟨rfl, hb⟩
  have h2 : Blk w1 w.heap.size 28 [.int .i64 0, .int .i64 0, .int .i64 0, .int .i64 0, .bool false] := Blk.below (by simp [Blk.alloc_iff]) hb
  have h3 := belowAfter (belowAlloc (Below.refl _ _) _) hb
  have hc := h2.cell; have hf := h2.frozen
  clear hb
  go_wp2_with fail
  refine bodyPost_ret (v := .agg #[.int .i64 (quant n), .int .i64 0, .int .i64 0, .int .i64 0, .bool false]) ?_ rfl ⟨rfl, ?_⟩
  · simp [results, Try.results8, go_sem, hc]
  · repeat (first | exact h3 | refine belowSet ?_ (Nat.le_refl _) _)
end Go.Proofs.Ytdbdnlchmmedhaa
