/- Package profile: the tick of a player. -/
import Derived.Test.YtmpafnhaigfopaaProg
import Derived.Test.YtmpafnhaigfopaaLib2
import Derived.Test.YtmpafnhaigfopaaBfs
import Derived.RegionTactic
import Derived.ChangeAlike
set_option linter.unusedSimpArgs false
set_option linter.unusedVariables false
namespace Go.Proofs.Ytmpafnhaigfopaa
open Go.RowKit

def Mo.cells (m : Mo) : List Value := [.int .i64 m.p, .int .i64 m.v, .int .i64 m.a]
def Mo.val (m : Mo) : Value := .agg #[.int .i64 m.p, .int .i64 m.v, .int .i64 m.a]
theorem Mo.len (m : Mo) : m.cells.length = 3 := rfl

/-- One tick, as the machine computes it. -/
def Mo.step (m : Mo) (j : Int) : Mo :=
  let a := wrap64 (m.a + j)
  let v := wrap64 (m.v + a)
  ⟨wrap64 (m.p + v), v, a⟩

set_option maxRecDepth 100000 in
set_option maxHeartbeats 400000 in
theorem tick_any (p v a j : Int) (b : Nat) (w : World) (hb : Blk w b 120 [.int .i64 p, .int .i64 v, .int .i64 a]) :
    Calls Try.prog 71 #[.pointer (some ⟨b, 0, none⟩), .int .i64 j] w fun e w' =>
      e = .returned (.tuple #[]) ∧ Blk w' b 120 ((⟨p, v, a⟩ : Mo).step j).cells ∧ w.grownBy w' (some b) := by
  have hc := hb.cell
  have hf := hb.frozen
  go_enter Try.func71, Try.ntmps71
  go_wp2_with fail
  go_region
  go_wp2_with fail
  go_region
  go_wp2_with fail
  go_end0
  exact ⟨rfl, (((hb.set 2 _).set 1 _).set 0 _), grownDrew (grownDrew (grownSet (grownSet (grownSet (grownRefl _ _) _ _) _ _) _ _))⟩
end Go.Proofs.Ytmpafnhaigfopaa
