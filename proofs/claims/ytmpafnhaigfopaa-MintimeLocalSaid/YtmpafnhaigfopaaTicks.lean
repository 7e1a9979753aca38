/- Package profile: the iterator 'ticks', by the contract of iterators. -/
import Derived.Test.YtmpafnhaigfopaaTick
import Derived.Test.YtmpafnhaigfopaaRange
set_option linter.unusedSimpArgs false
set_option linter.unusedVariables false
namespace Go.Proofs.Ytmpafnhaigfopaa
open Go.RowKit

attribute [local go_sem] Oper.semAt_some

/-- The state behind a profile. -/
def Mo.run (m : Mo) (js : List Int) : Mo := js.foldl Mo.step m
/-- Each jerk with the state behind it. -/
def Mo.trail (m : Mo) : List Int → List (Int × Mo)
  | [] => []
  | j :: js => (j, m.step j) :: (m.step j).trail js
theorem Mo.trail_length (m : Mo) (js : List Int) : (m.trail js).length = js.length := by
  induction js generalizing m with
  | nil => rfl
  | cons j js ih => simp [Mo.trail, ih]
theorem Mo.trail_get (m : Mo) (js : List Int) (k : Nat) (j : Int) (h : js[k]? = some j) : (m.trail js)[k]? = some (j, (m.run (js.take k)).step j) := by
  induction js generalizing m k with
  | nil => simp at h
  | cons i js ih =>
    cases k with
    | zero => simp at h; subst h; simp [Mo.trail, Mo.run]
    | succ k => simp only [List.getElem?_cons_succ] at h; simp [Mo.trail, ih (m.step i) k h, Mo.run]
theorem Mo.run_snoc (m : Mo) (js : List Int) (j : Int) : m.run (js ++ [j]) = (m.run js).step j := by simp [Mo.run]

def encT (x : Int × Mo) : Array Value := #[.int .i64 x.1, x.2.val]
def ints (js : List Int) : List Value := js.map (Value.int .i64)
theorem ints_get (js : List Int) (k : Nat) : (ints js)[k]? = (js[k]?).map (Value.int .i64) := by simp [ints]
theorem ints_length (js : List Int) : (ints js).length = js.length := by simp [ints]

def needT (Bm Bl n : Nat) (A : Option Addr) (k : Nat) : Prop := k = Bm ∨ k = Bl ∨ (0 < n ∧ ∃ a, A = some a ∧ a.block = k)

theorem Rd.intAt {w : World} {B n : Nat} {A : Option Addr} {js : List Int} (h : Rd w B 1 A n (ints js)) {k : Nat} (hk : k < n) :
    ∃ b off j, A = some ⟨b, off, none⟩ ∧ b < B ∧ js[k]? = some j ∧ w.cell? ⟨b, off + k, none⟩ = some (.int .i64 j) := by
  obtain ⟨b, off, hA, hb, hc⟩ := h.2 (by omega)
  have hl : js.length = n := by have := h.1; rw [ints_length] at this; omega
  have hx : js[k]? = some (js[k]'(by omega)) := List.getElem?_eq_getElem (by omega)
  exact ⟨b, off, _, hA, hb, hx, hc k _ (by rw [ints_get, hx]; rfl)⟩

set_option maxRecDepth 100000 in
set_option maxHeartbeats 1000000 in
theorem ticks1_iter (p v a : Int) (js : List Int) (A : Option Addr) (n c Bm Bl : Nat) (W : World) (hm : Blk W Bm 81 [.int .i64 p, .int .i64 v, .int .i64 a]) (hl : Blk W Bl 44 [.slice A n c]) (hr : Rd W W.heap.size 1 A n (ints js)) (hn : n ≤ 2147483647) :
    Iter Try.prog 70 #[.pointer (some ⟨Bm, 0, none⟩), .pointer (some ⟨Bl, 0, none⟩)] encT ((⟨p, v, a⟩ : Mo).trail js) (needT Bm Bl n A) W := by
  intro mm l J Jx M hM hJ hY h0
  have hlen : js.length = n := by have := hr.1; rw [ints_length] at this; omega
  have hcm := hm.cell
  have hcl := fun ob => (hl.alloc ob).cell
  refine callsIn_of_wp Try.func70 rfl trivial ?_ rfl
  simp only [Try.ntmps70, List.size_toArray, List.length_cons, List.length_nil, Nat.reduceAdd, Nat.reduceSub, Array.replicate_succ, Array.replicate_zero, List.push_toArray, List.append_toArray, List.nil_append, List.cons_append]
  gi_wp2
  obtain ⟨P, hP⟩ : ∃ P, W.heap.size = P := ⟨_, rfl⟩
  rw [hP]
  have hb0 : Blk (W.alloc (.cells #[.int .i64 p, .int .i64 v, .int .i64 a] 120)) P 120 [.int .i64 p, .int .i64 v, .int .i64 a] := by rw [← hP]; exact Blk.new W 120 [.int .i64 p, .int .i64 v, .int .i64 a]
  have hMP : ¬ M P := fun h => by have := (hM P h).1; omega
  have hK0 : Keep (fun k => M k ∨ k = P) W (W.alloc (.cells #[.int .i64 p, .int .i64 v, .int .i64 a] 120)) := (Keep.refl _ _).alloc _
  have hJ0 := hJ _ _ _ h0 (Below.alloc (Below.refl _ W) (Nat.le_refl _) (.cells #[.int .i64 p, .int .i64 v, .int .i64 a] 120))
  gi_loopw [11] (fun i wr => ∃ (k : Nat) (s : Mo), k ≤ n ∧ i = .int .i64 k ∧ s = (⟨p, v, a⟩ : Mo).run (js.take k) ∧ J (((⟨p, v, a⟩ : Mo).trail js).take k) wr ∧ Blk wr P 120 s.cells ∧ Keep (fun k => M k ∨ k = P) W wr)
    (fun i _ => n - (intOf i).toNat)
  case atStart => exact ⟨0, ⟨p, v, a⟩, Nat.zero_le _, rfl, rfl, hJ0, hb0, hK0⟩
  case round =>
    obtain ⟨k, s, hk, rfl, hs, hJk, hbk, hKk⟩ := hrel
    by_cases hlt : k < n
    · obtain ⟨b, off, j, rfl, hbl, hj, hcell⟩ := hr.intAt hlt
      have hnb : ¬ (M b ∨ b = P) := by
        rintro (h | h)
        · exact (hM b h).2 (.inr (.inr ⟨by omega, _, rfl, rfl⟩))
        · omega
      have hcell2 : wr.cell? ⟨b, off + k, none⟩ = some (.int .i64 j) := by
        rw [World.cell?_of_block (w := W) (hKk.block b hbl hnb)]; exact hcell
      have Hs := hid hs
      have Hj := hid hj
      clear hcell hs hj hl hm hr hcl hcm hb0 hK0 hJ0
      gi_wp2_with fail
      refine ⟨trivial, (callsIn_wide.2 (tick_any s.p s.v s.a j P wr hbk)).mono ?_⟩
      rintro e w1 ⟨rfl, hb1, hg1⟩
      obtain ⟨t, ht⟩ : ∃ t, t = s.step j := ⟨_, rfl⟩
      have hb1 : Blk w1 P 120 [.int .i64 t.p, .int .i64 t.v, .int .i64 t.a] := by rw [ht]; exact hb1
      have hJ1 := hJ _ _ _ hJk (grownBelow hg1 (by omega) hKk.size)
      have hK1 : Keep (fun k => M k ∨ k = P) W w1 := hKk.trans (Keep.grown hg1 (.inr rfl))
      have hs1 : W.heap.size ≤ w1.heap.size := hK1.size
      have hx : ((⟨p, v, a⟩ : Mo).trail js)[k]? = some (j, t) := by rw [Mo.trail_get _ _ _ _ Hj.out, ← Hs.out, ht]
      have htk : ((⟨p, v, a⟩ : Mo).trail js).take k ++ [(j, t)] = ((⟨p, v, a⟩ : Mo).trail js).take (k + 1) := by
        rw [List.take_add_one, hx]; rfl
      have hst : t = (⟨p, v, a⟩ : Mo).run (js.take (k + 1)) := by
        rw [List.take_add_one, Hj.out]; simp only [Option.toList]; rw [Mo.run_snoc, ← Hs.out]; exact ht
      obtain ⟨fn, tmps, assign, body, hy, hR⟩ := hY _ (j, t) w1 hJ1 hs1 (by rw [htk]; exact List.take_prefix _ _)
      rw [htk] at hR
      have Hst := hid hst
      clear hst htk hx ht hJ1 hs1 hJk hbk hKk Hs Hj
      have hc1 := hb1.cell
      have hf1 := hb1.frozen
      simp only [encT, Mo.val] at hy
      gi_wp2_with fail
      clear hy
      refine hR.mono ?_
      rintro e w2 (⟨rfl, hJ2, hk2⟩ | ⟨rfl, hJx⟩)
      · have hb2 : Blk w2 P 120 t.cells := hk2.blk hb1 hMP
        have hK2 : Keep (fun k => M k ∨ k = P) W w2 := hK1.trans (hk2.more fun k h => .inl h)
        clear hb1 hc1 hf1 hK1 hk2 hR hcell2
        gi_wp2_with fail
        go_roundw
        case rel => exact ⟨k + 1, t, by omega, by go_num, Hst.out, hJ2, hb2, hK2⟩
        case measure => simp [intOf]; omega
      · gi_wp2_with fail
        refine bodyPost_ret (results_none rfl _ _ _) rfl ?_
        exact ⟨⟨_, rfl⟩, .inr ⟨_, List.take_prefix _ _, hJx⟩⟩
    · gi_wp2_with fail
      go_end0
      have e1 : ((⟨p, v, a⟩ : Mo).trail js).take k = (⟨p, v, a⟩ : Mo).trail js := List.take_of_length_le (by rw [Mo.trail_length]; omega)
      rw [e1] at hJk
      exact ⟨⟨_, rfl⟩, .inl hJk⟩
end Go.Proofs.Ytmpafnhaigfopaa
