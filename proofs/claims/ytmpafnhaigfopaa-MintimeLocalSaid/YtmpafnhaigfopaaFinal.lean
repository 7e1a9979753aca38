/- Package profile: Final. -/
import Derived.Test.YtmpafnhaigfopaaTicks
set_option linter.unusedSimpArgs false
set_option linter.unusedVariables false
namespace Go.Proofs.Ytmpafnhaigfopaa
open Go.RowKit
attribute [local go_sem] Oper.semAt_some

set_option maxRecDepth 100000 in
set_option maxHeartbeats 400000 in
theorem ticks_any (p v a : Int) (A : Option Addr) (n c : Nat) (w : World) :
    Calls Try.prog 62 #[.agg #[.int .i64 p, .int .i64 v, .int .i64 a], .slice A n c] w fun e w' =>
      e = .returned (.func (.func 70) #[] #[.pointer (some ⟨w.heap.size, 0, none⟩), .pointer (some ⟨w.heap.size + 1, 0, none⟩)]) ∧
      (w.alloc (.cells #[.int .i64 p, .int .i64 v, .int .i64 a] 81)).alloc (.cells #[.slice A n c] 44) = w' := by
  go_enter Try.func62, Try.ntmps62
  go_wp2
  go_ret
  exact ⟨rfl, rfl⟩

/-- The state behind the rounds so far. -/
def lastS (m : Mo) (pre : List (Int × Mo)) : Mo := pre.foldl (fun _ x => x.2) m
theorem lastS_snoc (m : Mo) (pre : List (Int × Mo)) (x : Int × Mo) : lastS m (pre ++ [x]) = x.2 := by simp [lastS]
theorem lastS_trail (m : Mo) (js : List Int) : lastS m (m.trail js) = m.run js := by
  induction js generalizing m with
  | nil => rfl
  | cons j js ih => exact ih (m.step j)

set_option maxRecDepth 100000 in
set_option maxHeartbeats 1000000 in
theorem final_any (p v a : Int) (js : List Int) (A : Option Addr) (n c : Nat) (w : World) (hr : Rd w w.heap.size 1 A n (ints js)) (hn : n ≤ 2147483647) :
    Calls Try.prog 41 #[.agg #[.int .i64 p, .int .i64 v, .int .i64 a], .slice A n c] w fun e w' => e = .returned ((⟨p, v, a⟩ : Mo).run js).val ∧ Below w.heap.size w w' := by
  have hlen : js.length = n := by have := hr.1; rw [ints_length] at this; omega
  refine calls_of_marks Try.func41 rfl ?_
  simp only [Try.ntmps41, List.size_toArray, List.length_cons, List.length_nil, Nat.reduceAdd, Nat.reduceSub, Array.replicate_succ, Array.replicate_zero, List.push_toArray, List.append_toArray, List.nil_append, List.cons_append]
  go_wp2_with fail
  refine Calls.mono (ticks_any _ _ _ _ _ _ _) ?_; rintro e w1 ⟨rfl, rfl⟩
  go_wp2_with fail
  obtain ⟨S0, h0⟩ : ∃ S, w.heap.size = S := ⟨_, rfl⟩
  obtain ⟨S1, h1⟩ : ∃ S, S0 + 1 = S := ⟨_, rfl⟩
  obtain ⟨S2, h2⟩ : ∃ S, S1 + 1 = S := ⟨_, rfl⟩
  obtain ⟨S3, h3⟩ : ∃ S, S2 + 1 = S := ⟨_, rfl⟩
  rw [h0, h1, h2, h3]
  refine wp_with (fun W => Blk W S0 81 [.int .i64 p, .int .i64 v, .int .i64 a] ∧ Blk W S1 81 [.int .i64 0, .int .i64 0, .int .i64 0] ∧ Blk W S2 81 [.int .i64 p, .int .i64 v, .int .i64 a] ∧ Blk W S3 44 [.slice A n c] ∧ Below w.heap.size w W ∧ W.heap.size = S3 + 1) ?_ ?_
  · subst h0 h1 h2 h3
    refine ⟨by simp [Blk.alloc_iff] <;> omega, by simp [Blk.alloc_iff] <;> omega, by simp [Blk.alloc_iff] <;> omega, by simp [Blk.alloc_iff] <;> omega, ?_, by simp⟩
    repeat (first | exact Below.refl _ _ | apply belowAlloc)
  rintro W ⟨b0, b1, b2, b3, hbw, hsz⟩
  refine wp_range (gf := 70) (lb := #[.pointer (some ⟨S2, 0, none⟩), .pointer (some ⟨S3, 0, none⟩)]) rfl (enters_of Try.func70 (by kernel_rfl) rfl) (encs := encT) (xs := (⟨p, v, a⟩ : Mo).trail js) (need := needT S2 S3 n A) (fun _ => rfl)
    (· = S0) ?_ ?_ (fun W' hW' => ticks1_iter p v a js A n c S2 S3 W' (b2.below hW') (b3.below hW') (((hr.below (by rw [h0] at hbw ⊢; exact hbw)).wider hbw.size).below hW' |>.wider hW'.size) hn)
    (fun pre W' => Blk W' S0 81 (lastS ⟨p, v, a⟩ pre).cells ∧ Blk W' S1 81 [.int .i64 0, .int .i64 0, .int .i64 0] ∧ Below w.heap.size w W') (fun _ _ => False) ?_ (fun _ _ _ h _ => h) ⟨b0, b1, hbw⟩ ?_ ?_ (fun _ _ _ _ _ h _ _ => h.elim)
  · rintro k rfl
    refine ⟨by omega, ?_⟩
    rintro (h | h | ⟨hn0, ad, hA, h⟩)
    · omega
    · omega
    · obtain ⟨b, off, e, hb, _⟩ := hr.2 hn0
      rw [hA] at e; injection e with e; subst e; simp at h; omega
  · rintro k (h | h | ⟨hn0, ad, hA, h⟩)
    · omega
    · omega
    · obtain ⟨b, off, e, hb, _⟩ := hr.2 hn0
      rw [hA] at e; injection e with e; subst e; simp at h; omega
  · rintro pre X Y ⟨g0, g1, g2⟩ hXY
    exact ⟨g0.at_ hXY (by omega), g1.at_ hXY (by omega), g2.trans (hXY.mono (by omega))⟩
  · intro l pre x W' hl1 hl2 ⟨g0, g1, g2⟩ hpx hs
    simp only [encT, Mo.val]
    gi_wp2
    refine ⟨(Keep.refl _ _).alloc _, ?_⟩
    intro W2 hk2
    have q0 := hk2.blk (g0.alloc _) (by omega)
    have q1 := hk2.blk (g1.alloc _) (by omega)
    have q2 := hk2.blk (Blk.new W' 81 [.int .i64 x.2.p, .int .i64 x.2.v, .int .i64 x.2.a]) (by omega)
    have hb2 : Below w.heap.size w W2 := (belowAlloc g2 _).trans (hk2.below (by have := g2.size; simp; omega) (fun k hk => by omega))
    have c0 := q0.cell; have f0 := q0.frozen; have c2 := q2.cell
    simp only [Mo.cells] at c0
    clear hk2 b0 b1 b2 b3 g0 g1 g2
    gi_wp2
    refine ⟨((Keep.refl (fun x => x = S0) W2).set rfl _ |>.set rfl _ |>.set rfl _), ?_, ?_, ?_⟩
    · rw [lastS_snoc]; exact ((q0.set 0 _).set 1 _).set 2 _
    · exact ((q1.setOther 0 _ (by omega)).setOther 1 _ (by omega)).setOther 2 _ (by omega)
    · exact belowSet (belowSet (belowSet hb2 (by omega) _) (by omega) _) (by omega) _
  · intro D W' hD ⟨g0, g1, g2⟩ hK hs
    rw [lastS_trail] at g0
    obtain ⟨t, ht⟩ : ∃ t, (⟨p, v, a⟩ : Mo).run js = t := ⟨_, rfl⟩
    rw [ht] at g0
    have c0 := g0.cell; have f0 := g0.frozen; have c1 := g1.cell; have f1 := g1.frozen
    simp only [Mo.cells] at c0
    have Ht := hid ht
    have q1 := ((g1.set 0 (.int .i64 t.p)).set 1 (.int .i64 t.v)).set 2 (.int .i64 t.a)
    clear ht b0 b1 b2 b3
    go_wp2_with fail
    have hD1 : D ≠ S1 := by omega
    refine marks_end (v := t.val) ?_ ?_ ⟨by rw [Ht.out], ?_⟩
    · rw [Below.heap_setCell _ _ _ _ hD1, Below.heap_setCell _ _ _ _ hD1, Below.heap_setCell _ _ _ _ hD1]; exact hK
    · have q2 := Blk.put q1 (Ne.symm hD1) (.deferred none)
      have c2 := q2.cell
      simp [results, Try.results41, go_sem, c2, Mo.val]
    · exact putBelow (belowSet (belowSet (belowSet g2 (by omega) _) (by omega) _) (by omega) _) (by have := g2.size; omega) _
end Go.Proofs.Ytmpafnhaigfopaa
