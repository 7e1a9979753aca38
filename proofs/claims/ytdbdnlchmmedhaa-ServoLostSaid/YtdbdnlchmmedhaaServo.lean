/- The contracts of the packages encoder and servo: what each function returns, and that nothing that lay before the call has turned. -/
import Derived.Test.YtdbdnlchmmedhaaProg
import Derived.Test.YtdbdnlchmmedhaaLib
namespace Go.Proofs.Ytdbdnlchmmedhaa
open Go.RowKit
theorem zero117 (w : World) : (zeroValue 117).run Try.prog w = .ok .nilFunc w := by kernel_rfl

set_option maxRecDepth 100000 in
set_option maxHeartbeats 400000 in
theorem observe1_any (n : Int) (b : Nat) (w : World) (hc : w.cell? ⟨b, 0, none⟩ = some (.int .i64 n)) :
    Calls Try.prog 53 #[.pointer (some ⟨b, 0, none⟩)] w fun e w' => e = .returned (.agg #[.int .i64 n, .int .i64 0, .int .i64 0]) ∧ w.alloc (.cells #[.int .i64 n, .int .i64 0, .int .i64 0] 26) = w' := by
  have hb := World.block_lt_of_cell? w _ hc
  simp only at hb
  go_enter Try.func53, Try.ntmps53
  go_wp2
  refine bodyPost_ret (v := .agg #[.int .i64 n, .int .i64 0, .int .i64 0]) ?_ rfl ⟨rfl, rfl⟩
  simp [results, Try.results53, go_sem]

theorem clamp_eq (n a b m : Int) (h : m = if b < n then b else n) : max a (min n b) = if a < m then m else a := by
  subst h; omega

set_option maxRecDepth 100000 in
set_option maxHeartbeats 400000 in
theorem within_any (n a b : Int) (w : World) :
    Calls Try.prog 30 #[.int .i64 n, .int .i64 a, .int .i64 b] w fun e w' => e = .returned (.int .i64 (max a (min n b))) ∧ w = w' := by
  go_enter Try.func30, Try.ntmps30
  by_cases h1 : b < n
  · by_cases h2 : a < b
    · go_wp2
      go_ret
      exact ⟨congrArg (fun x => Ending.returned (.int .i64 x)) (by omega), rfl⟩
    · go_wp2
      go_ret
      exact ⟨congrArg (fun x => Ending.returned (.int .i64 x)) (by omega), rfl⟩
  · by_cases h2 : a < n
    · go_wp2
      go_ret
      exact ⟨congrArg (fun x => Ending.returned (.int .i64 x)) (by omega), rfl⟩
    · go_wp2
      go_ret
      exact ⟨congrArg (fun x => Ending.returned (.int .i64 x)) (by omega), rfl⟩

set_option maxRecDepth 100000 in
set_option maxHeartbeats 400000 in
theorem command_any (l s a n : Int) (w : World) :
    Calls Try.prog 43 #[.agg #[.int .i64 l, .int .i64 s, .int .i64 a], .int .i64 n] w fun e w' => e = .returned (.agg #[.int .i64 l, .int .i64 (wrap64 (s + n)), .int .i64 a]) ∧ Below w.heap.size w w' := by
  go_enter Try.func43, Try.ntmps43
  go_wp2
  refine bodyPost_ret (v := .agg #[.int .i64 l, .int .i64 (wrap64 (s + n)), .int .i64 a]) ?_ rfl ⟨rfl, ?_⟩
  · simp [results, Try.results43, go_sem]
  · exact ((Below.refl _ _).alloc (Nat.le_refl _) _).alloc (by simp) _

set_option maxRecDepth 100000 in
set_option maxHeartbeats 400000 in
theorem estimate_any (l s a : Int) (w : World) :
    Calls Try.prog 40 #[.agg #[.int .i64 l, .int .i64 s, .int .i64 a]] w fun e w' => e = .returned (.int .i64 (wrap64 (wrap64 (wrap64 (l*16)+s)+8))) ∧ Below w.heap.size w w' := by
  go_enter Try.func40, Try.ntmps40
  go_wp2
  go_ret
  exact ⟨rfl, (Below.refl _ _).alloc (Nat.le_refl _) _⟩

def quant (n : Int) : Int := if n.tmod 16 < 0 then wrap64 (wrap64 (n.tdiv 16) - 1) else wrap64 (n.tdiv 16)

set_option maxRecDepth 100000 in
set_option maxHeartbeats 400000 in
theorem quant_any (n : Int) (w : World) :
    Calls Try.prog 41 #[.int .i64 n] w fun e w' => e = .returned (.int .i64 (quant n)) ∧ w = w' := by
  by_cases h : n.tmod 16 < 0
  · have e1 : wrap64 (wrap64 (n.tdiv 16) - 1) = quant n := by unfold quant; rw [if_pos h]
    have H := hid e1; clear e1
    go_enter Try.func41, Try.ntmps41
    go_wp2
    go_ret

    exact ⟨by simp [← H.out], rfl⟩
  · have e1 : wrap64 (n.tdiv 16) = quant n := by unfold quant; rw [if_neg h]
    have H := hid e1; clear e1
    go_enter Try.func41, Try.ntmps41
    go_wp2
    go_ret
    exact ⟨by simp [← H.out], rfl⟩

set_option maxRecDepth 100000 in
set_option maxHeartbeats 400000 in
theorem encNew_any (n : Int) (w : World) :
    Calls Try.prog 27 #[.int .i64 n] w fun e w' => e = .returned (.agg #[.int .i64 (quant n), .int .i64 0, .int .i64 0]) ∧ Below w.heap.size w w' := by
  go_enter Try.func27, Try.ntmps27
  go_wp2_with (go_at_call 41; refine (quant_any _ _).mono ?_; rintro e w' ⟨rfl, rfl⟩)
  refine bodyPost_ret (v := .agg #[.int .i64 (quant n), .int .i64 0, .int .i64 0]) ?_ rfl ⟨rfl, ?_⟩
  · simp [results, Try.results27, go_sem]
  · exact ((Below.refl _ _).alloc (Nat.le_refl _) _)
set_option maxRecDepth 100000 in
set_option maxHeartbeats 400000 in
theorem observe_good (l s a n : Int) (w : World) :
    Calls Try.prog 42 #[.agg #[.int .i64 l, .int .i64 s, .int .i64 a], .int .i64 1, .int .i64 n] w fun e w' => e = .returned (.agg #[.int .i64 n, .int .i64 0, .int .i64 0]) ∧ Below w.heap.size w w' := by
  have hmm := @run_makeMap Try.prog
  have hin := fun w r v => run_insert_at (P := Try.prog) (t := 118) (K := 3) (E := 117) (q := .i64) [] Try.underlying118 Try.underlying3 1 rfl 0 rfl w r v
  have hlk := fun w r v => run_lookup_at (P := Try.prog) (t := 118) (K := 3) (E := 117) (q := .i64) [(1, v)] 1 Try.underlying118 Try.underlying3 zero117 1 w r
  simp only [ents, List.toArray, List.nil_append, findK, Option.getD, Option.isSome, Nat.zero_add] at hin hlk
  go_enter Try.func42, Try.ntmps42
  go_wp2_with (go_at_call 53; refine Calls.mono (observe1_any n _ _ (by go_simp)) ?_; rintro e w' ⟨rfl, rfl⟩)
  refine bodyPost_ret (v := .agg #[.int .i64 n, .int .i64 0, .int .i64 0]) ?_ rfl ⟨rfl, ?_⟩
  · simp [results, Try.results42, go_sem]
  · repeat (first | exact Below.refl _ _ | apply belowAlloc)

set_option maxRecDepth 100000 in
set_option maxHeartbeats 400000 in
theorem observe_bad (l s a k n : Int) (w : World) (hk : (k == 1) = false) :
    Calls Try.prog 42 #[.agg #[.int .i64 l, .int .i64 s, .int .i64 a], .int .i64 k, .int .i64 n] w fun e w' => e = .returned (.agg #[.int .i64 l, .int .i64 s, .int .i64 (wrap64 (a + 1))]) ∧ Below w.heap.size w w' := by
  have hmm := @run_makeMap Try.prog
  have hin := fun w r v => run_insert_at (P := Try.prog) (t := 118) (K := 3) (E := 117) (q := .i64) [] Try.underlying118 Try.underlying3 1 rfl 0 rfl w r v
  have hlk := fun w r v => run_lookup_at (P := Try.prog) (t := 118) (K := 3) (E := 117) (q := .i64) [(1, v)] 1 Try.underlying118 Try.underlying3 zero117 k w r
  simp only [ents, List.toArray, List.nil_append, findK, hk, Option.getD, Option.isSome, Nat.zero_add] at hin hlk
  go_enter Try.func42, Try.ntmps42
  go_wp2
  refine bodyPost_ret (v := .agg #[.int .i64 l, .int .i64 s, .int .i64 (wrap64 (a + 1))]) ?_ rfl ⟨rfl, ?_⟩
  · simp [results, Try.results42, go_sem]
  · repeat (first | exact Below.refl _ _ | apply belowAlloc)
end Go.Proofs.Ytdbdnlchmmedhaa
