import Derived.Test.YtdbdnlchmmedhaaServo2
set_option linter.unusedSimpArgs false
set_option linter.unusedVariables false
namespace Go.Proofs.Ytdbdnlchmmedhaa
open Go.RowKit

theorem hd1 (w : World) : Calls Try.prog 8 #[.int .i64 0] w fun e w' => e = .returned (.agg #[.int .i64 0, .int .i64 0, .int .i64 0, .int .i64 0, .bool false]) ∧ Below w.heap.size w w' := by
  refine Calls.mono (servoNew_any 0 w) ?_; rintro e w' ⟨rfl, hb⟩; exact ⟨by simp [hL, hS, hA, hG, ordF, track, clamp, wrap64, quant] <;> decide, hb⟩
theorem hd2 (w : World) : Calls Try.prog 8 #[.int .i64 40] w fun e w' => e = .returned (.agg #[.int .i64 2, .int .i64 0, .int .i64 0, .int .i64 0, .bool false]) ∧ Below w.heap.size w w' := by
  refine Calls.mono (servoNew_any 40 w) ?_; rintro e w' ⟨rfl, hb⟩; exact ⟨by simp [hL, hS, hA, hG, ordF, track, clamp, wrap64, quant] <;> decide, hb⟩
theorem hd3 (w : World) : Calls Try.prog 8 #[.int .i64 (-1)] w fun e w' => e = .returned (.agg #[.int .i64 (-1), .int .i64 0, .int .i64 0, .int .i64 0, .bool false]) ∧ Below w.heap.size w w' := by
  refine Calls.mono (servoNew_any (-1) w) ?_; rintro e w' ⟨rfl, hb⟩; exact ⟨by simp [hL, hS, hA, hG, ordF, track, clamp, wrap64, quant] <;> decide, hb⟩
theorem hd4 (w : World) : Calls Try.prog 9 #[.agg #[.int .i64 0, .int .i64 0, .int .i64 0, .int .i64 0, .bool false], .int .i64 1, .int .i64 0, .int .i64 3] w fun e w' =>
    e = .returned (.tuple #[.agg #[.int .i64 0, .int .i64 48, .int .i64 0, .int .i64 48, .bool false], .int .i64 48]) ∧ Below w.heap.size w w' := by
  refine Calls.mono (step_any 0 0 0 0 1 0 3 false w) ?_; rintro e w' ⟨rfl, hb⟩; exact ⟨by simp [hL, hS, hA, hG, ordF, track, clamp, wrap64, quant] <;> decide, hb⟩
theorem hd5 (w : World) : Calls Try.prog 9 #[.agg #[.int .i64 0, .int .i64 48, .int .i64 0, .int .i64 48, .bool false], .int .i64 2, .int .i64 0, .int .i64 100] w fun e w' =>
    e = .returned (.tuple #[.agg #[.int .i64 0, .int .i64 176, .int .i64 1, .int .i64 128, .bool false], .int .i64 128]) ∧ Below w.heap.size w w' := by
  refine Calls.mono (step_any 0 48 0 48 2 0 100 false w) ?_; rintro e w' ⟨rfl, hb⟩; exact ⟨by simp [hL, hS, hA, hG, ordF, track, clamp, wrap64, quant] <;> decide, hb⟩
theorem hd6 (w : World) : Calls Try.prog 9 #[.agg #[.int .i64 2, .int .i64 0, .int .i64 0, .int .i64 0, .bool false], .int .i64 3, .int .i64 9, .int .i64 2] w fun e w' =>
    e = .returned (.tuple #[.agg #[.int .i64 2, .int .i64 0, .int .i64 1, .int .i64 0, .bool false], .int .i64 0]) ∧ Below w.heap.size w w' := by
  refine Calls.mono (step_any 2 0 0 0 3 9 2 false w) ?_; rintro e w' ⟨rfl, hb⟩; exact ⟨by simp [hL, hS, hA, hG, ordF, track, clamp, wrap64, quant] <;> decide, hb⟩
theorem hd7 (w : World) : Calls Try.prog 26 #[.agg #[.int .i64 0, .int .i64 176, .int .i64 1, .int .i64 128, .bool false], .int .i64 100] w fun e w' => e = .returned (.int .i64 1424) ∧ Below w.heap.size w w' := by
  refine Calls.mono (track_any 0 176 1 128 100 false w) ?_; rintro e w' ⟨rfl, hb⟩; exact ⟨by simp [hL, hS, hA, hG, ordF, track, clamp, wrap64, quant] <;> decide, hb⟩
theorem hd8 (w : World) : Calls Try.prog 26 #[.agg #[.int .i64 (-1), .int .i64 0, .int .i64 0, .int .i64 0, .bool false], .int .i64 0] w fun e w' => e = .returned (.int .i64 16) ∧ Below w.heap.size w w' := by
  refine Calls.mono (track_any (-1) 0 0 0 0 false w) ?_; rintro e w' ⟨rfl, hb⟩; exact ⟨by simp [hL, hS, hA, hG, ordF, track, clamp, wrap64, quant] <;> decide, hb⟩

set_option maxRecDepth 100000 in
set_option maxHeartbeats 1000000 in
theorem head_any (w : World) : Calls Try.prog 7 #[] w fun e w' => e = .returned (.bool true) ∧ Below w.heap.size w w' := by
  go_enter Try.func7, Try.ntmps7
  go_wp2_with fail
  refine Calls.mono (hd1 _) ?_; rintro e w1 ⟨rfl, hb1⟩
  go_wp2_with fail
  refine Calls.mono (hd4 _) ?_; rintro e w2 ⟨rfl, hb2⟩
  have hb := belowAfter hb1 hb2
  clear hb1 hb2
  go_wp2_with fail
  obtain ⟨S1, hS1⟩ : ∃ x, x = w2.heap.size := ⟨_, rfl⟩
  rw [← hS1]
  have hz := hb.size
  refine calls_with (fun W => Blk W S1 28 [.int .i64 0, .int .i64 48, .int .i64 0, .int .i64 48, .bool false] ∧ Below w.heap.size w W) ⟨by simp [Blk.alloc_iff, hS1], belowAlloc hb _⟩ ?_
  clear hS1 hb hz
  rintro W ⟨g1, hb⟩
  refine Calls.mono (hd5 _) ?_; rintro e w3 ⟨rfl, hb3⟩
  have g1' := g1.below hb3
  have hb' := belowAfter hb hb3
  clear g1 hb hb3
  go_wp2_with fail
  obtain ⟨S2, hS2⟩ : ∃ x, x = w3.heap.size := ⟨_, rfl⟩
  rw [← hS2]
  refine calls_with (fun W => Blk W S1 28 [.int .i64 0, .int .i64 48, .int .i64 0, .int .i64 48, .bool false] ∧ Blk W S2 28 [.int .i64 0, .int .i64 176, .int .i64 1, .int .i64 128, .bool false] ∧ Below w.heap.size w W) ⟨g1'.alloc _, by simp [Blk.alloc_iff, hS2], belowAlloc hb' _⟩ ?_
  clear hS2 hb' g1'
  rintro W ⟨g1, g2, hb⟩
  refine Calls.mono (hd2 _) ?_; rintro e w4 ⟨rfl, hb4⟩
  have g1' := g1.below hb4
  have g2' := g2.below hb4
  have hb' := belowAfter hb hb4
  clear g1 g2 hb hb4
  go_wp2_with fail
  refine Calls.mono (hd6 _) ?_; rintro e w5 ⟨rfl, hb5⟩
  have g1 := g1'.below hb5
  have g2 := g2'.below hb5
  have hb := belowAfter hb' hb5
  clear g1' g2' hb' hb5
  have c1 := fun ob => (g1.alloc ob).cell
  have c2 := fun ob => (g2.alloc ob).cell
  go_wp2_with fail
  refine calls_with (fun W => Blk W S2 28 [.int .i64 0, .int .i64 176, .int .i64 1, .int .i64 128, .bool false] ∧ Blk W w5.heap.size 28 [.int .i64 2, .int .i64 0, .int .i64 1, .int .i64 0, .bool false] ∧ Below w.heap.size w W) ⟨g2.alloc _, by simp [Blk.alloc_iff], belowAlloc hb _⟩ ?_
  clear hb g1 g2 c1 c2
  rintro W ⟨g2, g3, hb⟩
  refine Calls.mono (hd7 _) ?_; rintro e w6 ⟨rfl, hb6⟩
  have g3' := g3.below hb6
  have c3 := g3'.cell
  have hb' := belowAfter hb hb6
  clear g2 g3 hb hb6
  go_wp2_with fail
  refine Calls.mono (hd3 _) ?_; rintro e w7 ⟨rfl, hb7⟩
  have hb := belowAfter hb' hb7
  clear g3' c3 hb' hb7
  go_wp2_with fail
  refine Calls.mono (hd8 _) ?_; rintro e w8 ⟨rfl, hb8⟩
  go_wp2_with fail
  go_ret
  exact ⟨rfl, belowAfter hb hb8⟩
end Go.Proofs.Ytdbdnlchmmedhaa
