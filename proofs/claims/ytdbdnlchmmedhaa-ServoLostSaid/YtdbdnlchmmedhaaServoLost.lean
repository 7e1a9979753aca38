/-
  Whatever the initial position and the two lists of samples: ServoLost returns true, and its arguments read afterwards as before.
  Conditions: none beyond the row's own.
-/
import Derived.Test.YtdbdnlchmmedhaaServo4
import Derived.Test.YtdbdnlchmmedhaaRows
import Derived.ProofKit
import Derived.ChangeOld
import Derived.Below
set_option linter.unusedSimpArgs false
set_option linter.unusedVariables false
namespace Go.Proofs.Ytdbdnlchmmedhaa
open Go.ChangeShapes Go.WideShapes Go.ChangeAt Go.RowKit

set_option maxRecDepth 100000 in
set_option maxHeartbeats 1000000 in
theorem servo_long1 (x : Int) (A1 A2 : Option Addr) (n1 c1 n2 c2 : Nat) (w : World) (hn : 300 < n1) :
    Calls Try.prog 3 #[.int .i16 x, .slice A1 n1 c1, .slice A2 n2 c2] w fun e w' => e = .returned (.bool true) ∧ Below w.heap.size w w' := by
  have g1 : decide (300 < n1) = true := by simp; omega
  go_enter Try.func3, Try.ntmps3
  go_wp2_with fail
  refine Calls.mono (head_any _) ?_; rintro e w1 ⟨rfl, hb1⟩
  go_wp2_with fail
  go_ret
  exact ⟨rfl, hb1⟩

set_option maxRecDepth 100000 in
set_option maxHeartbeats 1000000 in
theorem servo_long2 (x : Int) (A1 A2 : Option Addr) (n1 c1 n2 c2 : Nat) (w : World) (hn1 : n1 ≤ 300) (hn : 300 < n2) :
    Calls Try.prog 3 #[.int .i16 x, .slice A1 n1 c1, .slice A2 n2 c2] w fun e w' => e = .returned (.bool true) ∧ Below w.heap.size w w' := by
  have g1 : decide (300 < n1) = false := by simp; omega
  have g2 : decide (300 < n2) = true := by simp; omega
  go_enter Try.func3, Try.ntmps3
  go_wp2_with fail
  refine Calls.mono (head_any _) ?_; rintro e w1 ⟨rfl, hb1⟩
  go_wp2_with fail
  go_ret
  exact ⟨rfl, hb1⟩

theorem servo_all (x : Int) (A1 A2 : Option Addr) (n1 c1 n2 c2 : Nat) (l1 l2 : List Sight) (w : World) (hx : -32768 ≤ x ∧ x ≤ 32767) (h1 : l1.length = n1) (h2 : l2.length = n2)
    (k1 : ∀ s ∈ l1, s.ok) (k2 : ∀ s ∈ l2, s.ok) (r1 : Rd w w.heap.size 3 A1 n1 (l1.flatMap Sight.cells)) (r2 : Rd w w.heap.size 3 A2 n2 (l2.flatMap Sight.cells)) :
    Calls Try.prog 3 #[.int .i16 x, .slice A1 n1 c1, .slice A2 n2 c2] w fun e w' => e = .returned (.bool true) ∧ Below w.heap.size w w' := by
  by_cases g1 : n1 ≤ 300
  · by_cases g2 : n2 ≤ 300
    · exact servo_walk x A1 A2 n1 c1 n2 c2 l1 l2 w hx h1 h2 k1 k2 r1 r2 g1 g2
    · exact servo_long2 x A1 A2 n1 c1 n2 c2 w g1 (by omega)
  · exact servo_long1 x A1 A2 n1 c1 n2 c2 w (by omega)

theorem own : ownKnob Try.prog.godebug = none := by kernel_rfl
theorem laidOut : laidOutB Try.prog = true := by kernel_rfl
theorem cells31 : Try.prog.cellsOf 31 = 3 := by kernel_rfl
theorem cells5 : Try.prog.cellsOf 5 = 1 := by kernel_rfl
theorem cells22 : Try.prog.cellsOf 22 = 1 := by kernel_rfl

set_option maxRecDepth 100000 in
/-- One element of a slice of samples. -/
theorem open_sight {H : Type} {enc : TypeId × Value → H} {w : World} {spare : Nat → Bool} {held : Bool} (n : Nat) (cs : List Value) (y : DataW H × List MemPlace)
    (h : DataW.trod enc Try.prog w 0 spare held n 31 cs = some y) : ∃ z : Sight, cs = z.cells ∧ z.ok := by
  obtain ⟨xs, m, _, _, hlen, hxl, hf⟩ := DataW.trod_struct Try.underlying31 h
  rw [cells31] at hlen
  match cs, hlen with
  | [v0, v1, v2], _ =>
    match xs, hxl with
    | [y0, y1, y2], _ =>
      have t0 := hf 0 _ rfl
      have t1 := hf 1 _ rfl
      have t2 := hf 2 _ rfl
      simp only [cells5, cells22, List.drop_zero, List.drop_succ_cons, List.take_succ_cons, List.take_zero, List.getElem?_cons_zero, List.getElem?_cons_succ] at t0 t1 t2
      obtain ⟨a, ha, _, wa⟩ := DataW.trod_int Try.underlying5 t0
      obtain ⟨b, hb, _, wb⟩ := DataW.trod_int Try.underlying22 t1
      obtain ⟨c, hc, _, wc⟩ := DataW.trod_int Try.underlying22 t2
      injection ha with ha; injection hb with hb; injection hc with hc
      subst ha hb hc
      have ba := bounds_u8 wa
      have bb := bounds_i16 wb
      have bc := bounds_i16 wc
      exact ⟨⟨a, b, c⟩, rfl, by omega, by omega, by omega⟩

set_option maxRecDepth 100000 in
theorem lifted (os : Os) (started : os.Started) (H : Type) (enc : TypeId × Value → H) :
    ReturnsInHanded {} Try.checked os 3 .any (Rows.servoLostSpec.pre6 enc Try.prog Try.f3 Rows.servoLostRow.domain false) (Rows.servoLostSpec.post enc Try.prog Try.f3 false true false false) := by
  refine returnsInHanded_of_change (C := Try.checked) own started (by kernel_rfl) Try.func3
    (ChangeSpec.witness6 (enc := enc) (C := Try.checked) false ⟨#[], #[.int .i16 0, .slice none 0 0, .slice none 0 0], []⟩ 8 (by kernel_rfl) (by kernel_rfl) (by kernel_rfl) (by kernel_rfl)) ?_
  intro W base args ds gs before hval0 hW hcnd _
  have hval : ∀ (j : Nat) t v, Try.f3.params[j]? = some t → args[j]? = some v → Value.okWide Try.prog W .any base t v := hval0
  have hW' := hW
  obtain ⟨p, q, hA0, hV, rfl, hfz, hnd⟩ := hW
  have hA : DataW.TrodAll enc Try.prog W 0 (fun _ => true) true Try.f3.params.toList args.toList ds p := hA0
  rw [Try.params3] at hA hval
  obtain ⟨v0, vs0, d0, ds0, p0, q0, hargs, rfl, rfl, h0, r0⟩ := trodAll_cons hA
  obtain ⟨v1, vs1, d1, ds1, p1, q1, rfl, rfl, rfl, h1, r1⟩ := trodAll_cons r0
  obtain ⟨v2, vs2, d2, ds2, p2, q2, rfl, rfl, rfl, h2, r2⟩ := trodAll_cons r1
  obtain ⟨rfl, rfl, rfl⟩ := trodAll_nil r2
  obtain rfl : args = #[v0, v1, v2] := by cases args; simp_all
  obtain ⟨rfl, rfl⟩ := trodVars_none hV
  have k1 := h1
  have k2 := h2
  have lt1 : ∀ x ∈ p1, x.block < W.heap.size := by obtain ⟨m, hm⟩ := k1; exact DataW.trod_lt m _ _ _ hm
  have lt2 : ∀ x ∈ p2, x.block < W.heap.size := by obtain ⟨m, hm⟩ := k2; exact DataW.trod_lt m _ _ _ hm
  obtain ⟨x, rfl, rfl, rfl, wx⟩ := open_int Try.underlying22 (hval 0 22 v0 rfl rfl) h0
  obtain ⟨a1, n1, c1, rfl⟩ := okWide_slice Try.underlying23 (hval 1 23 v1 rfl rfl)
  obtain ⟨a2, n2, c2, rfl⟩ := okWide_slice Try.underlying23 (hval 2 23 v2 rfl rfl)
  obtain ⟨m1, g1⟩ := h1
  obtain ⟨m2, g2⟩ := h2
  obtain ⟨A1, N1, C1, l1, e1, _, _, hl1, ok1, rd1, _⟩ := open_list Sight.cells Sight.ok 3 Try.underlying23 cells31 (by decide) Sight.len open_sight g1
  obtain ⟨A2, N2, C2, l2, e2, _, _, hl2, ok2, rd2, _⟩ := open_list Sight.cells Sight.ok 3 Try.underlying23 cells31 (by decide) Sight.len open_sight g2
  simp [Value.cells] at e1 e2
  obtain ⟨rfl, rfl, rfl⟩ := e1
  obtain ⟨rfl, rfl, rfl⟩ := e2
  have bx := bounds_i16 wx
  clear hA0 hval0
  refine (servo_all x a1 a2 n1 c1 n2 c2 l1 l2 W (by omega) hl1 hl2 ok1 ok2 rd1 rd2).mono fun e W' ⟨he, bel⟩ => ?_
  subst he
  exact ⟨_, rfl, _, _, _, [], _, [], hW', trodAll_mk1 (shut_bool Try.underlying4 _), (trodAll_cons_mk (shut_int Try.underlying22 wx) (trodAll_cons_mk (Below.trod laidOut (by kernel_rfl) (of_decide_eq_true (by kernel_rfl)) k1 bel lt1) (trodAll_cons_mk (Below.trod laidOut (by kernel_rfl) (of_decide_eq_true (by kernel_rfl)) k2 bel lt2) trodAll_mk0))), rfl, bel.frame _, fun h => by cases h⟩

theorem over : Rows.servoLostRow.holds Try.pinned (OpenSpec.ofChange Rows.servoLostSpec) :=
  OpenClaim.holds_of_wide 3 Try.f3 rfl rfl rfl rfl rfl rfl rfl ⟨rfl, rfl, rfl, rfl, rfl⟩ rfl rfl rfl rfl rfl (by kernel_rfl) Try.func3 (by kernel_rfl)
    (of_decide_eq_true (by kernel_rfl)) (by unfold Func.isWrapper; first | (rw [if_pos (by decide +kernel)]; kernel_rfl) | (rw [if_neg (by decide +kernel)]; exact ⟨rfl, rfl⟩))
    (fun os started H enc _ => lifted os started H enc)

theorem servoLost_holds : Rows.ServoLostSaid := over
end Go.Proofs.Ytdbdnlchmmedhaa
