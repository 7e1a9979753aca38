/- The examples of the law of mintime (head). -/
import Derived.Test.YtmpafnhaigfopaaLocalPlain
set_option linter.unusedSimpArgs false
set_option linter.unusedVariables false
namespace Go.Proofs.Ytmpafnhaigfopaa
open Go.RowKit

theorem profile_none {V A J D : Int} (h : prof ⟨V, A, J, D⟩ = none) (w : World) : Calls Try.prog 22 #[.agg #[.int .i64 V, .int .i64 A, .int .i64 J], .int .i64 D] w fun e w' => e = .returned (.tuple #[.slice none 0 0, .bool false]) ∧ Below w.heap.size w w' := by
  have := profile_any V A J D w
  unfold ProfLeft at this
  rw [h] at this; exact this
theorem profile_some {V A J D : Int} {l : List Int} (h : prof ⟨V, A, J, D⟩ = some l) (w : World) : Calls Try.prog 22 #[.agg #[.int .i64 V, .int .i64 A, .int .i64 J], .int .i64 D] w fun e w' =>
    (∃ A c, e = .returned (.tuple #[.slice A l.length c, .bool true]) ∧ w'.ownsRow w.heap.size 3 1 (.slice A l.length c) l.length (ints l)) ∧ Below w.heap.size w w' := by
  have := profile_any V A J D w
  unfold ProfLeft at this
  rw [h] at this; exact this
theorem duration_val {V A J D n : Int} {b : Bool} (h1 : len2 (prof ⟨V, A, J, D⟩) = n) (h2 : (prof ⟨V, A, J, D⟩).isSome = b) (w : World) : Calls Try.prog 17 #[.agg #[.int .i64 V, .int .i64 A, .int .i64 J], .int .i64 D] w fun e w' => e = .returned (.tuple #[.int .i64 n, .bool b]) ∧ Below w.heap.size w w' := by
  have := duration_any V A J D w
  rw [h1, h2] at this; exact this

set_option maxRecDepth 100000 in
set_option maxHeartbeats 1000000 in
theorem head22 (w : World) : Calls Try.prog 20 #[] w fun e w' => e = .returned (.bool true) ∧ Below w.heap.size w w' := by
  have Pa := hid (profile_some prof_a)
  have Pb := hid (profile_some prof_b)
  have Pc := hid (profile_none prof_c)
  have Pd := hid (profile_some prof_d)
  have Pe := hid (profile_none prof_e)
  have Pf := hid (profile_none prof_f)
  have Pg := hid (duration_val (n := 4) (b := true) (by rw [prof_b]; rfl) (by rw [prof_b]; rfl))
  go_enter Try.func20, Try.ntmps20
  go_wp2_with fail
  refine Calls.mono (Pa.out _) ?_; rintro e w1 ⟨⟨A1, c1, rfl, o1⟩, b1⟩
  have O1 := Rd.of_own o1
  go_wp2_with fail
  refine Calls.mono (Pb.out _) ?_; rintro e w2 ⟨⟨A2, c2, rfl, o2⟩, b2⟩
  have O2 := Rd.of_own o2
  have O1' := (O1.below b2).wider b2.size
  have B2 := belowAfter b1 b2
  clear O1 o1 o2 b1 b2
  go_wp2_with fail
  refine Calls.mono (Pc.out _) ?_; rintro e w3 ⟨rfl, b3⟩
  have O1 := (O1'.below b3).wider b3.size
  have O2' := (O2.below b3).wider b3.size
  have B3 := belowAfter B2 b3
  clear O1' O2 B2 b3
  go_wp2_with fail
  refine Calls.mono (Pd.out _) ?_; rintro e w4 ⟨⟨A4, c4, rfl, _⟩, b4⟩
  have O1' := (O1.below b4).wider b4.size
  have O2 := (O2'.below b4).wider b4.size
  have B4 := belowAfter B3 b4
  clear O1 O2' B3 b4
  go_wp2_with fail
  refine Calls.mono (Pe.out _) ?_; rintro e w5 ⟨rfl, b5⟩
  have O1 := (O1'.below b5).wider b5.size
  have O2' := (O2.below b5).wider b5.size
  have B5 := belowAfter B4 b5
  clear O1' O2 B4 b5
  go_wp2_with fail
  refine Calls.mono (Pf.out _) ?_; rintro e w6 ⟨rfl, b6⟩
  have O1' := (O1.below b6).wider b6.size
  have O2 := (O2'.below b6).wider b6.size
  have B6 := belowAfter B5 b6
  clear O1 O2' B5 b6
  go_wp2_with fail
  refine Calls.mono (Pg.out _) ?_; rintro e w7 ⟨rfl, b7⟩
  have O1 := (O1'.below b7).wider b7.size
  have O2' := (O2.below b7).wider b7.size
  have B7 := belowAfter B6 b7
  clear O1' O2 B6 b7
  have q1 := Blk.new w7 3 [.int .i64 1, .int .i64 (-2), .int .i64 1]
  have s1 := same_any [1, -2, 1] [1, -2, 1] A1 (some ⟨w7.heap.size, 0, none⟩) 3 c1 3 3 (w7.alloc (Obj.cells #[.int .i64 1, .int .i64 (-2), .int .i64 1] 3)) ((O1.below (Below.alloc (Below.refl _ _) (Nat.le_refl _) _)).wider (by simp)) (Rd.of_blk q1 rfl) (by omega) (by omega)
  have S1 := hid s1
  clear s1 q1
  go_wp2_with fail
  refine Calls.mono S1.out ?_; rintro e w8 ⟨rfl, b8⟩
  have O2 : Rd w8 w8.heap.size 1 A2 4 (ints [1, -1, -1, 1]) := ((O2'.below (Below.alloc (Below.refl _ _) (Nat.le_refl _) _)).below (b8.mono (by simp))).wider (by have := b8.size; simp at this; omega)
  have B8 := belowAfter (belowAlloc B7 (Obj.cells #[.int .i64 1, .int .i64 (-2), .int .i64 1] 3)) b8
  have s2 := same_any [1, -1, -1, 1] [1, -1, -1, 1] A2 (some ⟨w8.heap.size, 0, none⟩) 4 c2 4 4 (w8.alloc (Obj.cells #[.int .i64 1, .int .i64 (-1), .int .i64 (-1), .int .i64 1] 3)) ((O2.below (Below.alloc (Below.refl _ _) (Nat.le_refl _) _)).wider (by simp)) (Rd.of_blk (Blk.new w8 3 [.int .i64 1, .int .i64 (-1), .int .i64 (-1), .int .i64 1]) rfl) (by omega) (by omega)
  have S2 := hid s2
  clear s2 O2 O2' O1 b8 B7 S1
  go_wp2_with fail
  refine Calls.mono S2.out ?_; rintro e w9 ⟨rfl, b9⟩
  have B9 := belowAfter (belowAlloc B8 (Obj.cells #[.int .i64 1, .int .i64 (-1), .int .i64 (-1), .int .i64 1] 3)) b9
  go_wp2_with fail
  go_ret
  exact ⟨rfl, B9⟩
end Go.Proofs.Ytmpafnhaigfopaa
