/- Package mintime: the contracts of its small functions. -/
import Derived.Test.YtmpafnhaigfopaaFinal
set_option linter.unusedSimpArgs false
set_option linter.unusedVariables false
namespace Go.Proofs.Ytmpafnhaigfopaa
open Go.RowKit

def Sp.val (s : Sp) : Value := .agg #[.int .i64 s.V, .int .i64 s.A, .int .i64 s.J, .int .i64 s.D]
theorem w64 {x : Int} (h1 : -9223372036854775808 ≤ x) (h2 : x ≤ 9223372036854775807) : wrap64 x = x := by unfold wrap64; omega

theorem Sp.idx_wrap (s : Sp) (hs : s.ok) (m : Mo) (h : s.has m) :
    wrap64 (wrap64 (wrap64 (wrap64 (wrap64 (wrap64 (m.p * (2 * s.V + 1)) + m.v) + s.V) * (2 * s.A + 1)) + m.a) + s.A) = s.idx m := by
  obtain ⟨hv1, hv2, ha1, ha2, hj1, hj2, hd1, hd2⟩ := hs
  obtain ⟨h1, h2, h3, h4, h5, h6⟩ := h
  unfold Sp.idx
  have e1 : 0 ≤ m.p * (2 * s.V + 1) := Int.mul_nonneg h1 (by omega)
  have e2 : m.p * (2 * s.V + 1) ≤ 420 * 17 := Int.mul_le_mul (by omega) (by omega) (by omega) (by omega)
  generalize m.p * (2 * s.V + 1) = x at *
  rw [w64 (x := x) (by omega) (by omega), w64 (x := x + m.v) (by omega) (by omega), w64 (x := x + m.v + s.V) (by omega) (by omega)]
  have f1 : 0 ≤ (x + m.v + s.V) * (2 * s.A + 1) := Int.mul_nonneg (by omega) (by omega)
  have f2 : (x + m.v + s.V) * (2 * s.A + 1) ≤ 7200 * 9 := Int.mul_le_mul (by omega) (by omega) (by omega) (by omega)
  generalize (x + m.v + s.V) * (2 * s.A + 1) = y at *
  rw [w64 (x := y) (by omega) (by omega), w64 (x := y + m.a) (by omega) (by omega), w64 (x := y + m.a + s.A) (by omega) (by omega)]

theorem Sp.many_wrap (s : Sp) (hs : s.ok) : wrap64 (wrap64 ((s.D + 1) * (2 * s.V + 1)) * (2 * s.A + 1)) = s.many ∧ 1 ≤ s.many ∧ s.many ≤ 64413 := by
  obtain ⟨hv1, hv2, ha1, ha2, hj1, hj2, hd1, hd2⟩ := hs
  unfold Sp.many
  have e1 : 1 * 1 ≤ (s.D + 1) * (2 * s.V + 1) := Int.mul_le_mul (by omega) (by omega) (by omega) (by omega)
  have e2 : (s.D + 1) * (2 * s.V + 1) ≤ 421 * 17 := Int.mul_le_mul (by omega) (by omega) (by omega) (by omega)
  generalize (s.D + 1) * (2 * s.V + 1) = x at *
  rw [w64 (x := x) (by omega) (by omega)]
  have f1 : 1 * 1 ≤ x * (2 * s.A + 1) := Int.mul_le_mul (by omega) (by omega) (by omega) (by omega)
  have f2 : x * (2 * s.A + 1) ≤ 7157 * 9 := Int.mul_le_mul (by omega) (by omega) (by omega) (by omega)
  generalize x * (2 * s.A + 1) = y at *
  exact ⟨w64 (by omega) (by omega), by omega, by omega⟩

set_option maxRecDepth 100000 in
set_option maxHeartbeats 1000000 in
theorem of_in (s : Sp) (m : Mo) (hs : s.ok) (h : s.has m) (w : World) :
    Calls Try.prog 51 #[s.val, m.val] w fun e w' => e = .returned (.tuple #[.int .i64 (s.idx m), .bool true]) ∧ Below w.heap.size w w' := by
  have hw := hid (Sp.idx_wrap _ hs _ h)
  obtain ⟨V, A, J, D⟩ := s
  obtain ⟨p, v, a⟩ := m
  obtain ⟨hv1, hv2, ha1, ha2, hj1, hj2, hd1, hd2⟩ := hs
  obtain ⟨h1, h2, h3, h4, h5, h6⟩ := h
  simp only [Sp.val, Mo.val] at *
  have t1 : decide (p < 0) = false := by simp; omega
  have t2 : decide (D < p) = false := by simp; omega
  have t3 : decide (v < -V) = false := by simp; omega
  have t4 : decide (V < v) = false := by simp; omega
  have t5 : decide (a < -A) = false := by simp; omega
  have t6 : decide (A < a) = false := by simp; omega
  go_enter Try.func51, Try.ntmps51
  go_wp2_with fail
  go_ret2
  exact ⟨ret_int_bool hw.out rfl, belowAlloc (belowAlloc (Below.refl _ _) _) _⟩

set_option maxRecDepth 100000 in
set_option maxHeartbeats 2000000 in
theorem of_out (s : Sp) (m : Mo) (hs : s.ok) (h : ¬ s.has m) (w : World) :
    Calls Try.prog 51 #[s.val, m.val] w fun e w' => e = .returned (.tuple #[.int .i64 0, .bool false]) ∧ Below w.heap.size w w' := by
  obtain ⟨V, A, J, D⟩ := s
  obtain ⟨p, v, a⟩ := m
  obtain ⟨hv1, hv2, ha1, ha2, hj1, hj2, hd1, hd2⟩ := hs
  simp only [Sp.val, Mo.val] at *
  unfold Sp.has at h
  simp only at h
  have H := hid h
  clear h
  go_enter Try.func51, Try.ntmps51
  go_wp2_with fail
  all_goals first | (go_ret2; exact ⟨ret_int_bool rfl rfl, belowAlloc (belowAlloc (Below.refl _ _) _) _⟩) | (exfalso; have := H.out; omega)

set_option maxRecDepth 100000 in
set_option maxHeartbeats 1000000 in
theorem many_any (s : Sp) (hs : s.ok) (w : World) :
    Calls Try.prog 67 #[s.val] w fun e w' => e = .returned (.int .i64 s.many) ∧ Below w.heap.size w w' := by
  have hw := hid (Sp.many_wrap _ hs)
  obtain ⟨V, A, J, D⟩ := s
  obtain ⟨hv1, hv2, ha1, ha2, hj1, hj2, hd1, hd2⟩ := hs
  simp only [Sp.val] at *
  go_enter Try.func67, Try.ntmps67
  go_wp2_with fail
  go_ret
  exact ⟨ret_int hw.out.1, belowAlloc (Below.refl _ _) _⟩

def Mo.back (m : Mo) (j : Int) : Mo := ⟨wrap64 (m.p - m.v), wrap64 (m.v - m.a), wrap64 (m.a - j)⟩

set_option maxRecDepth 100000 in
set_option maxHeartbeats 1000000 in
theorem ahead_any (m : Mo) (j : Int) (w : World) :
    Calls Try.prog 68 #[m.val, .int .i64 j] w fun e w' => e = .returned (m.back j).val ∧ Below w.heap.size w w' := by
  obtain ⟨p, v, a⟩ := m
  simp only [Mo.val, Mo.back] at *
  go_enter Try.func68, Try.ntmps68
  go_wp2_with fail
  refine bodyPost_ret (v := .agg #[.int .i64 (wrap64 (p - v)), .int .i64 (wrap64 (v - a)), .int .i64 (wrap64 (a - j))]) ?_ rfl ⟨rfl, ?_⟩
  · simp [results, Try.results68, go_sem]
  · exact belowAlloc (belowAlloc (Below.refl _ _) _) _

def within1 (n most : Int) : Bool := decide (1 ≤ n) && decide (n ≤ most)
set_option maxRecDepth 100000 in
set_option maxHeartbeats 1000000 in
theorem from_any (n most : Int) (w : World) :
    Calls Try.prog 65 #[.int .i64 n, .int .i64 most] w fun e w' => e = .returned (.bool (within1 n most)) ∧ w = w' := by
  unfold within1
  by_cases h : 1 ≤ n
  · go_enter Try.func65, Try.ntmps65
    go_wp2_with fail
    go_ret
    exact ⟨ret_bool (by simp [h]), rfl⟩
  · have h' : decide (1 ≤ n) = false := by simp; omega
    go_enter Try.func65, Try.ntmps65
    go_wp2_with fail
    go_ret
    exact ⟨ret_bool (by simp [h]), rfl⟩

def validF (V A J : Int) : Bool := within1 V 8 && within1 A 4 && within1 J 2
set_option maxRecDepth 100000 in
set_option maxHeartbeats 1000000 in
theorem valid_any (V A J : Int) (w : World) :
    Calls Try.prog 44 #[.agg #[.int .i64 V, .int .i64 A, .int .i64 J]] w fun e w' => e = .returned (.bool (validF V A J)) ∧ Below w.heap.size w w' := by
  unfold validF
  cases h1 : within1 V 8 with
  | false =>
    have f1 := fun w => from_any V 8 w
    rw [h1] at f1
    have F1 := hid f1; clear f1 h1
    go_enter Try.func44, Try.ntmps44
    go_wp2_with (go_at_call 65; refine Calls.mono (F1.out _) ?_; rintro e w1 ⟨rfl, rfl⟩)
    go_ret
    exact ⟨ret_bool (by simp), belowAlloc (Below.refl _ _) _⟩
  | true =>
    cases h2 : within1 A 4 with
    | false =>
      have f1 := fun w => from_any V 8 w
      have f2 := fun w => from_any A 4 w
      rw [h1] at f1; rw [h2] at f2
      have F1 := hid f1; clear f1 h1
      have F2 := hid f2; clear f2 h2
      go_enter Try.func44, Try.ntmps44
      go_wp2_with fail
      refine Calls.mono (F1.out _) ?_; rintro e w1 ⟨rfl, rfl⟩
      go_wp2_with fail
      refine Calls.mono (F2.out _) ?_; rintro e w1 ⟨rfl, rfl⟩
      go_wp2_with fail
      go_ret
      exact ⟨ret_bool (by simp), belowAlloc (Below.refl _ _) _⟩
    | true =>
      have f1 := fun w => from_any V 8 w
      have f2 := fun w => from_any A 4 w
      have f3 := fun w => from_any J 2 w
      rw [h1] at f1; rw [h2] at f2
      generalize within1 J 2 = g at *
      have F1 := hid f1; clear f1 h1
      have F2 := hid f2; clear f2 h2
      have F3 := hid f3; clear f3
      go_enter Try.func44, Try.ntmps44
      go_wp2_with fail
      refine Calls.mono (F1.out _) ?_; rintro e w1 ⟨rfl, rfl⟩
      go_wp2_with fail
      refine Calls.mono (F2.out _) ?_; rintro e w1 ⟨rfl, rfl⟩
      go_wp2_with fail
      refine Calls.mono (F3.out _) ?_; rintro e w1 ⟨rfl, rfl⟩
      go_wp2_with fail
      go_ret
      exact ⟨ret_bool (by simp), belowAlloc (Below.refl _ _) _⟩
end Go.Proofs.Ytmpafnhaigfopaa
