import Derived.Test.YtdbdnlchmmedhaaServo3
import Derived.Test.YtdbdnlchmmedhaaLib2
import Derived.Deep.RegionHeld3
import Derived.LoopTactic
set_option linter.unusedSimpArgs false
set_option linter.unusedVariables false
namespace Go.Proofs.Ytdbdnlchmmedhaa
open Go.RowKit

structure Sight where
  k : Int
  n : Int
  t : Int
def Sight.cells (s : Sight) : List Value := [.int .u8 s.k, .int .i16 s.n, .int .i16 s.t]
def Sight.ok (s : Sight) : Prop := (0 ≤ s.k ∧ s.k ≤ 255) ∧ (-32768 ≤ s.n ∧ s.n ≤ 32767) ∧ (-32768 ≤ s.t ∧ s.t ≤ 32767)
theorem Sight.len (s : Sight) : s.cells.length = 3 := rfl
theorem info31 : (Try.prog.info? 31).map (fun i => (i.zero, i.size, i.bytes)) = some (some (.agg #[.int .u8 0, .int .i16 0, .int .i16 0]), 3, 6) := by kernel_rfl

theorem step_case (l s a o k n t a' : Int) (g g' : Bool) (ha' : hA k a = a') (hg' : hG k a g = g') (w : World) :
    Calls Try.prog 9 #[.agg #[.int .i64 l, .int .i64 s, .int .i64 a, .int .i64 o, .bool g], .int .i64 k, .int .i64 n, .int .i64 t] w fun e w' =>
      ∃ l' s' z : Int, e = .returned (.tuple #[.agg #[.int .i64 l', .int .i64 s', .int .i64 a', .int .i64 z, .bool g'], .int .i64 z]) ∧ (g' = true → z = 0) ∧ Below w.heap.size w w' := by
  refine Calls.mono (step_any l s a o k n t g w) ?_
  rintro e w' ⟨rfl, hb⟩
  subst ha' hg'
  refine ⟨_, _, _, rfl, ?_, hb⟩
  intro h
  simp [ordF, h]

set_option maxRecDepth 100000 in
set_option maxHeartbeats 1000000 in
theorem servo_walk (x : Int) (A1 A2 : Option Addr) (n1 c1 n2 c2 : Nat) (l1 l2 : List Sight) (w : World) (hx : -32768 ≤ x ∧ x ≤ 32767) (h1 : l1.length = n1) (h2 : l2.length = n2)
    (k1 : ∀ s ∈ l1, s.ok) (k2 : ∀ s ∈ l2, s.ok) (r1 : Rd w w.heap.size 3 A1 n1 (l1.flatMap Sight.cells)) (r2 : Rd w w.heap.size 3 A2 n2 (l2.flatMap Sight.cells)) (hn1 : n1 ≤ 300) (hn2 : n2 ≤ 300) :
    Calls Try.prog 3 #[.int .i16 x, .slice A1 n1 c1, .slice A2 n2 c2] w fun e w' => e = .returned (.bool true) ∧ Below w.heap.size w w' := by
  obtain ⟨i0, hi0, hz0, hz1, hz2⟩ := info_parts info31
  obtain ⟨hx1, hx2⟩ := hx
  have g1 : decide (300 < n1) = false := by simp; omega
  have g2 : decide (300 < n2) = false := by simp; omega
  go_enter Try.func3, Try.ntmps3
  go_wp2_with fail
  refine Calls.mono (head_any _) ?_; rintro e w1 ⟨rfl, hb1⟩
  go_wp2_with fail
  refine Calls.mono (servoNew_any _ _) ?_; rintro e w2 ⟨rfl, hb2⟩
  have hb := belowAfter hb1 hb2
  clear hb1 hb2
  have hz := hb.size
  obtain ⟨S, hS⟩ : ∃ S, S = w2.heap.size := ⟨_, rfl⟩
  have o0 : ∀ ob, ((w2.alloc ob).alloc (.cells #[] 31)).ownsRow w.heap.size 31 3 (.slice (some ⟨w2.heap.size + 1, 0, none⟩) 0 0) 0 [] := fun ob => by
    have := World.ownsRow_made (base := w.heap.size) (w := w2.alloc ob) (e := 31) (size := 3) #[] 0 (by simp; omega) (by simp [maxLen]) rfl
    simpa using this
  have b0 : ∀ cs, Blk ((w2.alloc (.cells (List.toArray cs) 28)).alloc (.cells #[] 31)) S 28 cs := fun cs => by simp [Blk.alloc_iff, hS]
  have hb0 : ∀ o1 o2, Below w.heap.size w ((w2.alloc o1).alloc o2) := fun o1 o2 => belowAlloc (belowAlloc hb _) _
  have oc1 : ∀ u ∈ l1.flatMap Sight.cells, u.oneCell' = true := by simp [Sight.cells]; rintro a s _ (rfl | rfl | rfl) <;> rfl
  have oc2 : ∀ u ∈ l2.flatMap Sight.cells, u.oneCell' = true := by simp [Sight.cells]; rintro a s _ (rfl | rfl | rfl) <;> rfl
  have hne : S ≠ w2.heap.size + 1 := by omega
  clear hz
  have HS := hid hS
  clear hS
  go_wp2_with (at_builtin; refine stop ?_)
  refine unstop (wpList_append_rd _ rfl (.tmp 29) (.tmp 30) _ rfl w.heap.size 31 i0 _ 3 6 Try.underlying23 hi0 hz0 hz1 hz2 rfl (by decide) (.slice (some ⟨w2.heap.size + 1, 0, none⟩) 0 0) 0 [] rfl (o0 _) _ A1 n1 c1 _ rfl (r1.below (hb0 _ _)) oc1 (by simp only [maxLen]; omega) (by omega) (hb0 _ _).size ?_)
  intro A3 c3 w3 o3 hg3 ht3
  have b3 := (b0 _).grown hg3 hne
  have hb3 := (hb0 _ _).grown hg3 (hb0 _ _).size (by intro k hk; simp [Value.ownBlock] at hk; have := hb.size; omega)
  clear b0 hb0 o0 hg3
  simp only [Nat.zero_add, List.nil_append] at o3 ht3
  have hS3 : Value.ownBlock (.slice A3 n1 c3) ≠ some S := by
    have := HS.out
    rcases ht3 with h | h <;> rw [h] <;> simp [Value.ownBlock] <;> omega
  rw [← HS.out]
  have hSb0 : Hid (w.heap.size ≤ S) := hid (by rw [HS.out]; exact hb.size)
  clear ht3 HS hne
  go_wp2_with (at_builtin; refine stop ?_)
  refine unstop (wpList_append_rd _ rfl (.tmp 31) (.tmp 32) _ rfl w.heap.size 31 i0 _ 3 6 Try.underlying23 hi0 hz0 hz1 hz2 rfl (by decide) (.slice A3 n1 c3) n1 _ rfl o3 _ A2 n2 c2 _ rfl (r2.below hb3) oc2 (by simp only [maxLen]; omega) (by omega) hb3.size ?_)
  intro A4 c4 w4 o4 hg4 ht4
  have hS4 : Value.ownBlock (.slice A4 (n1 + n2) c4) ≠ some S := by
    have := b3.lt
    rcases ht4 with h | h
    · rw [h]; exact hS3
    · rw [h]; simp; omega
  have b4 := b3.kept hg4 (by simpa using hS3)
  have hb4 := hb3.grown hg4 hb3.size (fun k hk => (o3.lt k hk).1)
  have hSb : w.heap.size ≤ S := hSb0.out
  have HS4 := hid (And.intro hS4 hSb)
  obtain ⟨N, hN⟩ : ∃ N, n1 + n2 = N := ⟨_, rfl⟩
  rw [hN] at o4 HS4 ⊢
  obtain ⟨L, hL, hLn, hLk⟩ : ∃ L : List Sight, l1.flatMap Sight.cells ++ l2.flatMap Sight.cells = L.flatMap Sight.cells ∧ L.length = N ∧ ∀ s ∈ L, s.ok :=
    ⟨l1 ++ l2, by simp, by simp [h1, h2, hN], by intro s hs; rcases List.mem_append.1 hs with h | h; exact k1 s h; exact k2 s h⟩
  rw [hL] at o4
  have hN6 : N ≤ 600 := by omega
  clear hg4 ht4 o3 hS3 b3 hb3 hb hSb0 hS4 hSb hN hL r1 r2 oc1 oc2 k1 k2 h1 h2 g1 g2 hi0 hz0 hz1 hz2
  go_wp2_with fail
  go_loopw [9, 10, 12] (fun si lo i wr => ∃ (k : Nat) (l s a o : Int) (g : Bool), k ≤ N ∧ i = .int .i64 k ∧ si = .int .i64 a ∧ lo = .bool g ∧ 0 ≤ a ∧ a ≤ k ∧ Blk wr S 28 [.int .i64 l, .int .i64 s, .int .i64 a, .int .i64 o, .bool g] ∧
      wr.ownsRow w.heap.size 31 3 (.slice A4 N c4) N (L.flatMap Sight.cells) ∧ Below w.heap.size w wr) (fun _ _ i _ => N - (intOf i).toNat)
  case atStart => exact ⟨0, _, _, _, _, _, Nat.zero_le _, rfl, rfl, rfl, by omega, by omega, b4, o4, hb4⟩
  case round =>
    obtain ⟨k, l, s, a, o, g, hk, rfl, rfl, rfl, ha0, hak, hB, hO, hbw⟩ := hrel
    by_cases hlt : k < N
    · obtain ⟨b, off, x, rfl, hbl, hx, hcells⟩ := Rd.elem Sight.len (Rd.of_own hO) hLn hlt
      have hxo := hLk x (List.mem_of_getElem? hx)
      obtain ⟨⟨q1, q2⟩, ⟨q3, q4⟩, ⟨q5, q6⟩⟩ := hxo
      have e0 := hcells 0 (by omega)
      have e1 := hcells 1 (by omega)
      have e2 := hcells 2 (by omega)
      simp only [Sight.cells, List.getElem?_cons_zero, List.getElem?_cons_succ, Nat.add_zero, ← Nat.add_assoc] at e0 e1 e2
      have Hx := hid hx
      clear hcells hx
      have hS := HS4.out
      have hbS : b ≠ S := by intro e; apply hS.1; simp [Value.ownBlock, e]
      have hSlt := hB.lt
      have hbw' := hbw.size
      have hSlt' : S < wr.heap.size + 1 := by omega
      have hbl' : b < wr.heap.size + 1 := by omega
      by_cases hk1 : x.k % 4 = 1
      · cases g with
        | true =>
          have c1 : (x.k % 4 == 1) = true := by simp [hk1]
          have hst := fun n t => step_case l s a o (x.k % 4) n t 0 true true (by simp [hA, hk1]) (by simp [hG, hk1])
          have Hst := hid hst
          clear hst hk1
          have s0 := hB.cell 0
          have s1 := hB.cell 1
          have s2 := hB.cell 2
          have s3 := hB.cell 3
          have s4 := hB.cell 4
          simp only [List.getElem?_cons_zero, List.getElem?_cons_succ] at s0 s1 s2 s3 s4
          have hkeep : ∀ W W' : World, (W.cell? ⟨S, 0, none⟩ = some (.int .i64 l) ∧ W.cell? ⟨S, 1, none⟩ = some (.int .i64 s) ∧ W.cell? ⟨S, 2, none⟩ = some (.int .i64 a) ∧ W.cell? ⟨S, 3, none⟩ = some (.int .i64 o) ∧ W.cell? ⟨S, 4, none⟩ = some (.bool true) ∧
              W.cell? ⟨b, off + k * 3 + 1, none⟩ = some (.int .i16 x.n) ∧ W.cell? ⟨b, off + k * 3 + 2, none⟩ = some (.int .i16 x.t)) → Below W.heap.size W W' → (W'.cell? ⟨S, 0, none⟩ = some (.int .i64 l) ∧ W'.cell? ⟨S, 1, none⟩ = some (.int .i64 s) ∧ W'.cell? ⟨S, 2, none⟩ = some (.int .i64 a) ∧ W'.cell? ⟨S, 3, none⟩ = some (.int .i64 o) ∧ W'.cell? ⟨S, 4, none⟩ = some (.bool true) ∧
              W'.cell? ⟨b, off + k * 3 + 1, none⟩ = some (.int .i16 x.n) ∧ W'.cell? ⟨b, off + k * 3 + 2, none⟩ = some (.int .i16 x.t)) := by
            rintro W W' ⟨z0, z1, z2, z3, z4, z5, z6⟩ hb
            exact ⟨belowCell hb z0, belowCell hb z1, belowCell hb z2, belowCell hb z3, belowCell hb z4, belowCell hb z5, belowCell hb z6⟩
          have n3 := World.new_ne _ _ s0
          have n4 := World.new_ne _ _ e1
          simp only at n3 n4
          have Hkeep := hid hkeep
          clear hkeep
          go_wp2_with fail
          go_region_held3 (fun W => W.cell? ⟨S, 0, none⟩ = some (.int .i64 l) ∧ W.cell? ⟨S, 1, none⟩ = some (.int .i64 s) ∧ W.cell? ⟨S, 2, none⟩ = some (.int .i64 a) ∧ W.cell? ⟨S, 3, none⟩ = some (.int .i64 o) ∧ W.cell? ⟨S, 4, none⟩ = some (.bool true) ∧
              W.cell? ⟨b, off + k * 3 + 1, none⟩ = some (.int .i16 x.n) ∧ W.cell? ⟨b, off + k * 3 + 2, none⟩ = some (.int .i16 x.t))
            (first | go_keep | assumption)
            ((first | (go_at_call 9; refine Calls.mono (Hst.out _ _ _) ?_; rintro e w' ⟨l', s', z, rfl, hz, hb'⟩; have hk' := Hkeep.out _ _ (by assumption) hb'; have n1 := World.new_ne _ _ hk'.1; have n2 := World.new_ne _ _ hk'.2.2.2.2.2.1; simp only at n1 n2; first | (with_reducible (have hB5 := Blk.below ((Blk.drew_iff _ _ _ _).2 (Blk.new wr 28 [.int .i64 0, .int .i64 0, .int .i64 0, .int .i64 0, .bool false])) hb'); have c50 := hB5.cell 0; have c51 := hB5.cell 1; have c52 := hB5.cell 2; have c53 := hB5.cell 3; have c54 := hB5.cell 4; have f50 := hB5.frozen 0; have f51 := hB5.frozen 1; have f52 := hB5.frozen 2; have f53 := hB5.frozen 3; have f54 := hB5.frozen 4; simp only [List.getElem?_cons_zero, List.getElem?_cons_succ] at c50 c51 c52 c53 c54) | skip)))
          · have hO2 := ownKept (w := wr.drew) hO hb'
            have hB2 := Blk.below ((Blk.drew_iff _ _ _ _).2 hB) hb'
            have hbw2 := belowAfter (belowDrew hbw) hb'
            refine exit_with (fun W => Blk W w'.heap.size 28 [.int .i64 l', .int .i64 s', .int .i64 0, .int .i64 0, .bool true] ∧ Blk W S 28 [.int .i64 l, .int .i64 s, .int .i64 a, .int .i64 o, .bool true] ∧ W.ownsRow w.heap.size 31 3 (.slice (some ⟨b, off, none⟩) N c4) N (L.flatMap Sight.cells) ∧ Below w.heap.size w W) ⟨by simp [Blk.alloc_iff], hB2.alloc _, hO2.alloc _, belowAlloc hbw2 _⟩ ?_
            clear hB hO hbw hB2 hO2 hbw2 hb' hk' Hst Hkeep s0 s1 s2 s3 s4 e0 e1 e2 n2 n3 n4 hbl hSlt hSlt' hbl'
            rintro W ⟨b1, b2, o2, bw2⟩
            have m1 := b1.cell; have m2 := b1.frozen; have m3 := b2.cell; have m4 := b2.frozen
            go_wp2_with fail
            go_roundw
            case rel => exact ⟨k + 1, l', s', 0, 0, true, by omega, by go_num, rfl, rfl, by omega, by omega, ((((b2.set 0 _).set 1 _).set 2 _).set 3 _).set 4 _, ownSet (ownSet (ownSet (ownSet (ownSet o2 hS.1 _) hS.1 _) hS.1 _) hS.1 _) hS.1 _, belowSet (belowSet (belowSet (belowSet (belowSet bw2 hS.2 _) hS.2 _) hS.2 _) hS.2 _) hS.2 _⟩
            case measure => simp [intOf]; omega
          · have hO2 := ownKept (w := (wr.alloc _).drew) (hO.alloc _) hb'
            have hB2 := Blk.below ((Blk.drew_iff _ _ _ _).2 (hB.alloc _)) hb'
            have hbw2 := belowAfter (belowDrew (belowAlloc hbw _)) hb'
            have hbo : Value.ownBlock (.slice (some ⟨b, off, none⟩) N c4) ≠ some wr.heap.size := by simp [Value.ownBlock]; omega
            have hbS2 : S ≠ wr.heap.size := by omega
            refine exit_with (fun W => Blk W wr.heap.size 28 [.int .i64 l', .int .i64 s', .int .i64 0, .int .i64 0, .bool true] ∧ Blk W S 28 [.int .i64 l, .int .i64 s, .int .i64 a, .int .i64 o, .bool true] ∧ W.ownsRow w.heap.size 31 3 (.slice (some ⟨b, off, none⟩) N c4) N (L.flatMap Sight.cells) ∧ Below w.heap.size w W) ⟨((((hB5.set 0 _).set 1 _).set 2 _).set 3 _).set 4 _, ((((hB2.setOther 0 _ hbS2).setOther 1 _ hbS2).setOther 2 _ hbS2).setOther 3 _ hbS2).setOther 4 _ hbS2,
              ownSet (ownSet (ownSet (ownSet (ownSet hO2 hbo _) hbo _) hbo _) hbo _) hbo _, belowSet (belowSet (belowSet (belowSet (belowSet hbw2 hbw' _) hbw' _) hbw' _) hbw' _) hbw' _⟩ ?_
            clear hB hO hbw hB2 hO2 hbw2 hb' hk' Hst Hkeep s0 s1 s2 s3 s4 e0 e1 e2 n1 n2 n4 hbl hSlt hSlt' hbl' hB5 c50 c51 c52 c53 c54 f50 f51 f52 f53 f54
            rintro W ⟨b1, b2, o2, bw2⟩
            have m1 := b1.cell; have m2 := b1.frozen; have m3 := b2.cell; have m4 := b2.frozen
            go_wp2_with fail
            go_roundw
            case rel => exact ⟨k + 1, l', s', 0, 0, true, by omega, by go_num, rfl, rfl, by omega, by omega, ((((b2.set 0 _).set 1 _).set 2 _).set 3 _).set 4 _, ownSet (ownSet (ownSet (ownSet (ownSet o2 hS.1 _) hS.1 _) hS.1 _) hS.1 _) hS.1 _, belowSet (belowSet (belowSet (belowSet (belowSet bw2 hS.2 _) hS.2 _) hS.2 _) hS.2 _) hS.2 _⟩
            case measure => simp [intOf]; omega
        | false =>
          have c1 : (x.k % 4 == 1) = true := by simp [hk1]
          have hst := fun n t => step_case l s a o (x.k % 4) n t 0 false false (by simp [hA, hk1]) (by simp [hG, hk1])
          have Hst := hid hst
          clear hst hk1
          have s0 := hB.cell 0
          have s1 := hB.cell 1
          have s2 := hB.cell 2
          have s3 := hB.cell 3
          have s4 := hB.cell 4
          simp only [List.getElem?_cons_zero, List.getElem?_cons_succ] at s0 s1 s2 s3 s4
          have hkeep : ∀ W W' : World, (W.cell? ⟨S, 0, none⟩ = some (.int .i64 l) ∧ W.cell? ⟨S, 1, none⟩ = some (.int .i64 s) ∧ W.cell? ⟨S, 2, none⟩ = some (.int .i64 a) ∧ W.cell? ⟨S, 3, none⟩ = some (.int .i64 o) ∧ W.cell? ⟨S, 4, none⟩ = some (.bool false) ∧
              W.cell? ⟨b, off + k * 3 + 1, none⟩ = some (.int .i16 x.n) ∧ W.cell? ⟨b, off + k * 3 + 2, none⟩ = some (.int .i16 x.t)) → Below W.heap.size W W' → (W'.cell? ⟨S, 0, none⟩ = some (.int .i64 l) ∧ W'.cell? ⟨S, 1, none⟩ = some (.int .i64 s) ∧ W'.cell? ⟨S, 2, none⟩ = some (.int .i64 a) ∧ W'.cell? ⟨S, 3, none⟩ = some (.int .i64 o) ∧ W'.cell? ⟨S, 4, none⟩ = some (.bool false) ∧
              W'.cell? ⟨b, off + k * 3 + 1, none⟩ = some (.int .i16 x.n) ∧ W'.cell? ⟨b, off + k * 3 + 2, none⟩ = some (.int .i16 x.t)) := by
            rintro W W' ⟨z0, z1, z2, z3, z4, z5, z6⟩ hb
            exact ⟨belowCell hb z0, belowCell hb z1, belowCell hb z2, belowCell hb z3, belowCell hb z4, belowCell hb z5, belowCell hb z6⟩
          have n3 := World.new_ne _ _ s0
          have n4 := World.new_ne _ _ e1
          simp only at n3 n4
          have Hkeep := hid hkeep
          clear hkeep
          go_wp2_with fail
          go_region_held3 (fun W => W.cell? ⟨S, 0, none⟩ = some (.int .i64 l) ∧ W.cell? ⟨S, 1, none⟩ = some (.int .i64 s) ∧ W.cell? ⟨S, 2, none⟩ = some (.int .i64 a) ∧ W.cell? ⟨S, 3, none⟩ = some (.int .i64 o) ∧ W.cell? ⟨S, 4, none⟩ = some (.bool false) ∧
              W.cell? ⟨b, off + k * 3 + 1, none⟩ = some (.int .i16 x.n) ∧ W.cell? ⟨b, off + k * 3 + 2, none⟩ = some (.int .i16 x.t))
            (first | go_keep | assumption)
            ((first | (go_at_call 9; refine Calls.mono (Hst.out _ _ _) ?_; rintro e w' ⟨l', s', z, rfl, hz, hb'⟩; have hk' := Hkeep.out _ _ (by assumption) hb'; have n1 := World.new_ne _ _ hk'.1; have n2 := World.new_ne _ _ hk'.2.2.2.2.2.1; simp only at n1 n2; first | (with_reducible (have hB5 := Blk.below ((Blk.drew_iff _ _ _ _).2 (Blk.new wr 28 [.int .i64 0, .int .i64 0, .int .i64 0, .int .i64 0, .bool false])) hb'); have c50 := hB5.cell 0; have c51 := hB5.cell 1; have c52 := hB5.cell 2; have c53 := hB5.cell 3; have c54 := hB5.cell 4; have f50 := hB5.frozen 0; have f51 := hB5.frozen 1; have f52 := hB5.frozen 2; have f53 := hB5.frozen 3; have f54 := hB5.frozen 4; simp only [List.getElem?_cons_zero, List.getElem?_cons_succ] at c50 c51 c52 c53 c54) | skip)))
          · have hO2 := ownKept (w := wr.drew) hO hb'
            have hB2 := Blk.below ((Blk.drew_iff _ _ _ _).2 hB) hb'
            have hbw2 := belowAfter (belowDrew hbw) hb'
            refine exit_with (fun W => Blk W w'.heap.size 28 [.int .i64 l', .int .i64 s', .int .i64 0, .int .i64 z, .bool false] ∧ Blk W S 28 [.int .i64 l, .int .i64 s, .int .i64 a, .int .i64 o, .bool false] ∧ W.ownsRow w.heap.size 31 3 (.slice (some ⟨b, off, none⟩) N c4) N (L.flatMap Sight.cells) ∧ Below w.heap.size w W) ⟨by simp [Blk.alloc_iff], hB2.alloc _, hO2.alloc _, belowAlloc hbw2 _⟩ ?_
            clear hB hO hbw hB2 hO2 hbw2 hb' hk' Hst Hkeep s0 s1 s2 s3 s4 e0 e1 e2 n2 n3 n4 hbl hSlt hSlt' hbl'
            rintro W ⟨b1, b2, o2, bw2⟩
            have m1 := b1.cell; have m2 := b1.frozen; have m3 := b2.cell; have m4 := b2.frozen
            go_wp2_with fail
            go_roundw
            case rel => exact ⟨k + 1, l', s', 0, z, false, by omega, by go_num, rfl, rfl, by omega, by omega, ((((b2.set 0 _).set 1 _).set 2 _).set 3 _).set 4 _, ownSet (ownSet (ownSet (ownSet (ownSet o2 hS.1 _) hS.1 _) hS.1 _) hS.1 _) hS.1 _, belowSet (belowSet (belowSet (belowSet (belowSet bw2 hS.2 _) hS.2 _) hS.2 _) hS.2 _) hS.2 _⟩
            case measure => simp [intOf]; omega
          · have hO2 := ownKept (w := (wr.alloc _).drew) (hO.alloc _) hb'
            have hB2 := Blk.below ((Blk.drew_iff _ _ _ _).2 (hB.alloc _)) hb'
            have hbw2 := belowAfter (belowDrew (belowAlloc hbw _)) hb'
            have hbo : Value.ownBlock (.slice (some ⟨b, off, none⟩) N c4) ≠ some wr.heap.size := by simp [Value.ownBlock]; omega
            have hbS2 : S ≠ wr.heap.size := by omega
            refine exit_with (fun W => Blk W wr.heap.size 28 [.int .i64 l', .int .i64 s', .int .i64 0, .int .i64 z, .bool false] ∧ Blk W S 28 [.int .i64 l, .int .i64 s, .int .i64 a, .int .i64 o, .bool false] ∧ W.ownsRow w.heap.size 31 3 (.slice (some ⟨b, off, none⟩) N c4) N (L.flatMap Sight.cells) ∧ Below w.heap.size w W) ⟨((((hB5.set 0 _).set 1 _).set 2 _).set 3 _).set 4 _, ((((hB2.setOther 0 _ hbS2).setOther 1 _ hbS2).setOther 2 _ hbS2).setOther 3 _ hbS2).setOther 4 _ hbS2,
              ownSet (ownSet (ownSet (ownSet (ownSet hO2 hbo _) hbo _) hbo _) hbo _) hbo _, belowSet (belowSet (belowSet (belowSet (belowSet hbw2 hbw' _) hbw' _) hbw' _) hbw' _) hbw' _⟩ ?_
            clear hB hO hbw hB2 hO2 hbw2 hb' hk' Hst Hkeep s0 s1 s2 s3 s4 e0 e1 e2 n1 n2 n4 hbl hSlt hSlt' hbl' hB5 c50 c51 c52 c53 c54 f50 f51 f52 f53 f54
            rintro W ⟨b1, b2, o2, bw2⟩
            have m1 := b1.cell; have m2 := b1.frozen; have m3 := b2.cell; have m4 := b2.frozen
            go_wp2_with fail
            go_roundw
            case rel => exact ⟨k + 1, l', s', 0, z, false, by omega, by go_num, rfl, rfl, by omega, by omega, ((((b2.set 0 _).set 1 _).set 2 _).set 3 _).set 4 _, ownSet (ownSet (ownSet (ownSet (ownSet o2 hS.1 _) hS.1 _) hS.1 _) hS.1 _) hS.1 _, belowSet (belowSet (belowSet (belowSet (belowSet bw2 hS.2 _) hS.2 _) hS.2 _) hS.2 _) hS.2 _⟩
            case measure => simp [intOf]; omega
      · have hw : wrap64 (a + 1) = a + 1 := by unfold wrap64; omega
        cases g with
        | true =>
          have c1 : (x.k % 4 == 1) = false := by simp [hk1]
          have hst := fun n t => step_case l s a o (x.k % 4) n t (a + 1) true true (by simp only [hA, if_neg hk1]; exact hw) (by simp [hG, hk1])
          have Hst := hid hst
          clear hst hk1
          have s0 := hB.cell 0
          have s1 := hB.cell 1
          have s2 := hB.cell 2
          have s3 := hB.cell 3
          have s4 := hB.cell 4
          simp only [List.getElem?_cons_zero, List.getElem?_cons_succ] at s0 s1 s2 s3 s4
          have hkeep : ∀ W W' : World, (W.cell? ⟨S, 0, none⟩ = some (.int .i64 l) ∧ W.cell? ⟨S, 1, none⟩ = some (.int .i64 s) ∧ W.cell? ⟨S, 2, none⟩ = some (.int .i64 a) ∧ W.cell? ⟨S, 3, none⟩ = some (.int .i64 o) ∧ W.cell? ⟨S, 4, none⟩ = some (.bool true) ∧
              W.cell? ⟨b, off + k * 3 + 1, none⟩ = some (.int .i16 x.n) ∧ W.cell? ⟨b, off + k * 3 + 2, none⟩ = some (.int .i16 x.t)) → Below W.heap.size W W' → (W'.cell? ⟨S, 0, none⟩ = some (.int .i64 l) ∧ W'.cell? ⟨S, 1, none⟩ = some (.int .i64 s) ∧ W'.cell? ⟨S, 2, none⟩ = some (.int .i64 a) ∧ W'.cell? ⟨S, 3, none⟩ = some (.int .i64 o) ∧ W'.cell? ⟨S, 4, none⟩ = some (.bool true) ∧
              W'.cell? ⟨b, off + k * 3 + 1, none⟩ = some (.int .i16 x.n) ∧ W'.cell? ⟨b, off + k * 3 + 2, none⟩ = some (.int .i16 x.t)) := by
            rintro W W' ⟨z0, z1, z2, z3, z4, z5, z6⟩ hb
            exact ⟨belowCell hb z0, belowCell hb z1, belowCell hb z2, belowCell hb z3, belowCell hb z4, belowCell hb z5, belowCell hb z6⟩
          have n3 := World.new_ne _ _ s0
          have n4 := World.new_ne _ _ e1
          simp only at n3 n4
          have Hkeep := hid hkeep
          clear hkeep
          go_wp2_with fail
          go_region_held3 (fun W => W.cell? ⟨S, 0, none⟩ = some (.int .i64 l) ∧ W.cell? ⟨S, 1, none⟩ = some (.int .i64 s) ∧ W.cell? ⟨S, 2, none⟩ = some (.int .i64 a) ∧ W.cell? ⟨S, 3, none⟩ = some (.int .i64 o) ∧ W.cell? ⟨S, 4, none⟩ = some (.bool true) ∧
              W.cell? ⟨b, off + k * 3 + 1, none⟩ = some (.int .i16 x.n) ∧ W.cell? ⟨b, off + k * 3 + 2, none⟩ = some (.int .i16 x.t))
            (first | go_keep | assumption)
            ((first | (go_at_call 9; refine Calls.mono (Hst.out _ _ _) ?_; rintro e w' ⟨l', s', z, rfl, hz, hb'⟩; have hk' := Hkeep.out _ _ (by assumption) hb'; have n1 := World.new_ne _ _ hk'.1; have n2 := World.new_ne _ _ hk'.2.2.2.2.2.1; simp only at n1 n2; first | (with_reducible (have hB5 := Blk.below ((Blk.drew_iff _ _ _ _).2 (Blk.new wr 28 [.int .i64 0, .int .i64 0, .int .i64 0, .int .i64 0, .bool false])) hb'); have c50 := hB5.cell 0; have c51 := hB5.cell 1; have c52 := hB5.cell 2; have c53 := hB5.cell 3; have c54 := hB5.cell 4; have f50 := hB5.frozen 0; have f51 := hB5.frozen 1; have f52 := hB5.frozen 2; have f53 := hB5.frozen 3; have f54 := hB5.frozen 4; simp only [List.getElem?_cons_zero, List.getElem?_cons_succ] at c50 c51 c52 c53 c54) | skip)))
          · have hO2 := ownKept (w := wr.drew) hO hb'
            have hB2 := Blk.below ((Blk.drew_iff _ _ _ _).2 hB) hb'
            have hbw2 := belowAfter (belowDrew hbw) hb'
            refine exit_with (fun W => Blk W w'.heap.size 28 [.int .i64 l', .int .i64 s', .int .i64 (a + 1), .int .i64 0, .bool true] ∧ Blk W S 28 [.int .i64 l, .int .i64 s, .int .i64 a, .int .i64 o, .bool true] ∧ W.ownsRow w.heap.size 31 3 (.slice (some ⟨b, off, none⟩) N c4) N (L.flatMap Sight.cells) ∧ Below w.heap.size w W) ⟨by simp [Blk.alloc_iff], hB2.alloc _, hO2.alloc _, belowAlloc hbw2 _⟩ ?_
            clear hB hO hbw hB2 hO2 hbw2 hb' hk' Hst Hkeep s0 s1 s2 s3 s4 e0 e1 e2 n2 n3 n4 hbl hSlt hSlt' hbl'
            rintro W ⟨b1, b2, o2, bw2⟩
            have m1 := b1.cell; have m2 := b1.frozen; have m3 := b2.cell; have m4 := b2.frozen
            go_wp2_with fail
            go_roundw
            case rel => exact ⟨k + 1, l', s', (a + 1), 0, true, by omega, by go_num, rfl, rfl, by omega, by omega, ((((b2.set 0 _).set 1 _).set 2 _).set 3 _).set 4 _, ownSet (ownSet (ownSet (ownSet (ownSet o2 hS.1 _) hS.1 _) hS.1 _) hS.1 _) hS.1 _, belowSet (belowSet (belowSet (belowSet (belowSet bw2 hS.2 _) hS.2 _) hS.2 _) hS.2 _) hS.2 _⟩
            case measure => simp [intOf]; omega
          · have hO2 := ownKept (w := (wr.alloc _).drew) (hO.alloc _) hb'
            have hB2 := Blk.below ((Blk.drew_iff _ _ _ _).2 (hB.alloc _)) hb'
            have hbw2 := belowAfter (belowDrew (belowAlloc hbw _)) hb'
            have hbo : Value.ownBlock (.slice (some ⟨b, off, none⟩) N c4) ≠ some wr.heap.size := by simp [Value.ownBlock]; omega
            have hbS2 : S ≠ wr.heap.size := by omega
            refine exit_with (fun W => Blk W wr.heap.size 28 [.int .i64 l', .int .i64 s', .int .i64 (a + 1), .int .i64 0, .bool true] ∧ Blk W S 28 [.int .i64 l, .int .i64 s, .int .i64 a, .int .i64 o, .bool true] ∧ W.ownsRow w.heap.size 31 3 (.slice (some ⟨b, off, none⟩) N c4) N (L.flatMap Sight.cells) ∧ Below w.heap.size w W) ⟨((((hB5.set 0 _).set 1 _).set 2 _).set 3 _).set 4 _, ((((hB2.setOther 0 _ hbS2).setOther 1 _ hbS2).setOther 2 _ hbS2).setOther 3 _ hbS2).setOther 4 _ hbS2,
              ownSet (ownSet (ownSet (ownSet (ownSet hO2 hbo _) hbo _) hbo _) hbo _) hbo _, belowSet (belowSet (belowSet (belowSet (belowSet hbw2 hbw' _) hbw' _) hbw' _) hbw' _) hbw' _⟩ ?_
            clear hB hO hbw hB2 hO2 hbw2 hb' hk' Hst Hkeep s0 s1 s2 s3 s4 e0 e1 e2 n1 n2 n4 hbl hSlt hSlt' hbl' hB5 c50 c51 c52 c53 c54 f50 f51 f52 f53 f54
            rintro W ⟨b1, b2, o2, bw2⟩
            have m1 := b1.cell; have m2 := b1.frozen; have m3 := b2.cell; have m4 := b2.frozen
            go_wp2_with fail
            go_roundw
            case rel => exact ⟨k + 1, l', s', (a + 1), 0, true, by omega, by go_num, rfl, rfl, by omega, by omega, ((((b2.set 0 _).set 1 _).set 2 _).set 3 _).set 4 _, ownSet (ownSet (ownSet (ownSet (ownSet o2 hS.1 _) hS.1 _) hS.1 _) hS.1 _) hS.1 _, belowSet (belowSet (belowSet (belowSet (belowSet bw2 hS.2 _) hS.2 _) hS.2 _) hS.2 _) hS.2 _⟩
            case measure => simp [intOf]; omega
        | false =>
          by_cases h6 : 6 < a + 1
          · have hst0 : hG (x.k % 4) a false = true := by simp [hG, hk1, hw, h6]
            have c1 : (x.k % 4 == 1) = false := by simp [hk1]
            have hst := fun n t => step_case l s a o (x.k % 4) n t (a + 1) false true (by simp only [hA, if_neg hk1]; exact hw) hst0
            have Hst := hid hst
            clear hst hw hst0 hk1
            have s0 := hB.cell 0
            have s1 := hB.cell 1
            have s2 := hB.cell 2
            have s3 := hB.cell 3
            have s4 := hB.cell 4
            simp only [List.getElem?_cons_zero, List.getElem?_cons_succ] at s0 s1 s2 s3 s4
            have hkeep : ∀ W W' : World, (W.cell? ⟨S, 0, none⟩ = some (.int .i64 l) ∧ W.cell? ⟨S, 1, none⟩ = some (.int .i64 s) ∧ W.cell? ⟨S, 2, none⟩ = some (.int .i64 a) ∧ W.cell? ⟨S, 3, none⟩ = some (.int .i64 o) ∧ W.cell? ⟨S, 4, none⟩ = some (.bool false) ∧
                W.cell? ⟨b, off + k * 3 + 1, none⟩ = some (.int .i16 x.n) ∧ W.cell? ⟨b, off + k * 3 + 2, none⟩ = some (.int .i16 x.t)) → Below W.heap.size W W' → (W'.cell? ⟨S, 0, none⟩ = some (.int .i64 l) ∧ W'.cell? ⟨S, 1, none⟩ = some (.int .i64 s) ∧ W'.cell? ⟨S, 2, none⟩ = some (.int .i64 a) ∧ W'.cell? ⟨S, 3, none⟩ = some (.int .i64 o) ∧ W'.cell? ⟨S, 4, none⟩ = some (.bool false) ∧
                W'.cell? ⟨b, off + k * 3 + 1, none⟩ = some (.int .i16 x.n) ∧ W'.cell? ⟨b, off + k * 3 + 2, none⟩ = some (.int .i16 x.t)) := by
              rintro W W' ⟨z0, z1, z2, z3, z4, z5, z6⟩ hb
              exact ⟨belowCell hb z0, belowCell hb z1, belowCell hb z2, belowCell hb z3, belowCell hb z4, belowCell hb z5, belowCell hb z6⟩
            have n3 := World.new_ne _ _ s0
            have n4 := World.new_ne _ _ e1
            simp only at n3 n4
            have Hkeep := hid hkeep
            clear hkeep
            go_wp2_with fail
            go_region_held3 (fun W => W.cell? ⟨S, 0, none⟩ = some (.int .i64 l) ∧ W.cell? ⟨S, 1, none⟩ = some (.int .i64 s) ∧ W.cell? ⟨S, 2, none⟩ = some (.int .i64 a) ∧ W.cell? ⟨S, 3, none⟩ = some (.int .i64 o) ∧ W.cell? ⟨S, 4, none⟩ = some (.bool false) ∧
                W.cell? ⟨b, off + k * 3 + 1, none⟩ = some (.int .i16 x.n) ∧ W.cell? ⟨b, off + k * 3 + 2, none⟩ = some (.int .i16 x.t))
              (first | go_keep | assumption)
              ((first | (go_at_call 9; refine Calls.mono (Hst.out _ _ _) ?_; rintro e w' ⟨l', s', z, rfl, hz, hb'⟩; have hk' := Hkeep.out _ _ (by assumption) hb'; have n1 := World.new_ne _ _ hk'.1; have n2 := World.new_ne _ _ hk'.2.2.2.2.2.1; simp only at n1 n2; first | (with_reducible (have hB5 := Blk.below ((Blk.drew_iff _ _ _ _).2 (Blk.new wr 28 [.int .i64 0, .int .i64 0, .int .i64 0, .int .i64 0, .bool false])) hb'); have c50 := hB5.cell 0; have c51 := hB5.cell 1; have c52 := hB5.cell 2; have c53 := hB5.cell 3; have c54 := hB5.cell 4; have f50 := hB5.frozen 0; have f51 := hB5.frozen 1; have f52 := hB5.frozen 2; have f53 := hB5.frozen 3; have f54 := hB5.frozen 4; simp only [List.getElem?_cons_zero, List.getElem?_cons_succ] at c50 c51 c52 c53 c54) | skip)))
            · have hO2 := ownKept (w := wr.drew) hO hb'
              have hB2 := Blk.below ((Blk.drew_iff _ _ _ _).2 hB) hb'
              have hbw2 := belowAfter (belowDrew hbw) hb'
              refine exit_with (fun W => Blk W w'.heap.size 28 [.int .i64 l', .int .i64 s', .int .i64 (a + 1), .int .i64 0, .bool true] ∧ Blk W S 28 [.int .i64 l, .int .i64 s, .int .i64 a, .int .i64 o, .bool false] ∧ W.ownsRow w.heap.size 31 3 (.slice (some ⟨b, off, none⟩) N c4) N (L.flatMap Sight.cells) ∧ Below w.heap.size w W) ⟨by simp [Blk.alloc_iff], hB2.alloc _, hO2.alloc _, belowAlloc hbw2 _⟩ ?_
              clear hB hO hbw hB2 hO2 hbw2 hb' hk' Hst Hkeep s0 s1 s2 s3 s4 e0 e1 e2 n2 n3 n4 hbl hSlt hSlt' hbl'
              rintro W ⟨b1, b2, o2, bw2⟩
              have m1 := b1.cell; have m2 := b1.frozen; have m3 := b2.cell; have m4 := b2.frozen
              go_wp2_with fail
              go_roundw
              case rel => exact ⟨k + 1, l', s', (a + 1), 0, true, by omega, by go_num, rfl, rfl, by omega, by omega, ((((b2.set 0 _).set 1 _).set 2 _).set 3 _).set 4 _, ownSet (ownSet (ownSet (ownSet (ownSet o2 hS.1 _) hS.1 _) hS.1 _) hS.1 _) hS.1 _, belowSet (belowSet (belowSet (belowSet (belowSet bw2 hS.2 _) hS.2 _) hS.2 _) hS.2 _) hS.2 _⟩
              case measure => simp [intOf]; omega
            · have hO2 := ownKept (w := (wr.alloc _).drew) (hO.alloc _) hb'
              have hB2 := Blk.below ((Blk.drew_iff _ _ _ _).2 (hB.alloc _)) hb'
              have hbw2 := belowAfter (belowDrew (belowAlloc hbw _)) hb'
              have hbo : Value.ownBlock (.slice (some ⟨b, off, none⟩) N c4) ≠ some wr.heap.size := by simp [Value.ownBlock]; omega
              have hbS2 : S ≠ wr.heap.size := by omega
              refine exit_with (fun W => Blk W wr.heap.size 28 [.int .i64 l', .int .i64 s', .int .i64 (a + 1), .int .i64 0, .bool true] ∧ Blk W S 28 [.int .i64 l, .int .i64 s, .int .i64 a, .int .i64 o, .bool false] ∧ W.ownsRow w.heap.size 31 3 (.slice (some ⟨b, off, none⟩) N c4) N (L.flatMap Sight.cells) ∧ Below w.heap.size w W) ⟨((((hB5.set 0 _).set 1 _).set 2 _).set 3 _).set 4 _, ((((hB2.setOther 0 _ hbS2).setOther 1 _ hbS2).setOther 2 _ hbS2).setOther 3 _ hbS2).setOther 4 _ hbS2,
                ownSet (ownSet (ownSet (ownSet (ownSet hO2 hbo _) hbo _) hbo _) hbo _) hbo _, belowSet (belowSet (belowSet (belowSet (belowSet hbw2 hbw' _) hbw' _) hbw' _) hbw' _) hbw' _⟩ ?_
              clear hB hO hbw hB2 hO2 hbw2 hb' hk' Hst Hkeep s0 s1 s2 s3 s4 e0 e1 e2 n1 n2 n4 hbl hSlt hSlt' hbl' hB5 c50 c51 c52 c53 c54 f50 f51 f52 f53 f54
              rintro W ⟨b1, b2, o2, bw2⟩
              have m1 := b1.cell; have m2 := b1.frozen; have m3 := b2.cell; have m4 := b2.frozen
              go_wp2_with fail
              go_roundw
              case rel => exact ⟨k + 1, l', s', (a + 1), 0, true, by omega, by go_num, rfl, rfl, by omega, by omega, ((((b2.set 0 _).set 1 _).set 2 _).set 3 _).set 4 _, ownSet (ownSet (ownSet (ownSet (ownSet o2 hS.1 _) hS.1 _) hS.1 _) hS.1 _) hS.1 _, belowSet (belowSet (belowSet (belowSet (belowSet bw2 hS.2 _) hS.2 _) hS.2 _) hS.2 _) hS.2 _⟩
              case measure => simp [intOf]; omega
          · have hst0 : hG (x.k % 4) a false = false := by simp [hG, hk1, hw, h6]
            have c1 : (x.k % 4 == 1) = false := by simp [hk1]
            have hst := fun n t => step_case l s a o (x.k % 4) n t (a + 1) false false (by simp only [hA, if_neg hk1]; exact hw) hst0
            have Hst := hid hst
            clear hst hw hst0 hk1
            have s0 := hB.cell 0
            have s1 := hB.cell 1
            have s2 := hB.cell 2
            have s3 := hB.cell 3
            have s4 := hB.cell 4
            simp only [List.getElem?_cons_zero, List.getElem?_cons_succ] at s0 s1 s2 s3 s4
            have hkeep : ∀ W W' : World, (W.cell? ⟨S, 0, none⟩ = some (.int .i64 l) ∧ W.cell? ⟨S, 1, none⟩ = some (.int .i64 s) ∧ W.cell? ⟨S, 2, none⟩ = some (.int .i64 a) ∧ W.cell? ⟨S, 3, none⟩ = some (.int .i64 o) ∧ W.cell? ⟨S, 4, none⟩ = some (.bool false) ∧
                W.cell? ⟨b, off + k * 3 + 1, none⟩ = some (.int .i16 x.n) ∧ W.cell? ⟨b, off + k * 3 + 2, none⟩ = some (.int .i16 x.t)) → Below W.heap.size W W' → (W'.cell? ⟨S, 0, none⟩ = some (.int .i64 l) ∧ W'.cell? ⟨S, 1, none⟩ = some (.int .i64 s) ∧ W'.cell? ⟨S, 2, none⟩ = some (.int .i64 a) ∧ W'.cell? ⟨S, 3, none⟩ = some (.int .i64 o) ∧ W'.cell? ⟨S, 4, none⟩ = some (.bool false) ∧
                W'.cell? ⟨b, off + k * 3 + 1, none⟩ = some (.int .i16 x.n) ∧ W'.cell? ⟨b, off + k * 3 + 2, none⟩ = some (.int .i16 x.t)) := by
              rintro W W' ⟨z0, z1, z2, z3, z4, z5, z6⟩ hb
              exact ⟨belowCell hb z0, belowCell hb z1, belowCell hb z2, belowCell hb z3, belowCell hb z4, belowCell hb z5, belowCell hb z6⟩
            have n3 := World.new_ne _ _ s0
            have n4 := World.new_ne _ _ e1
            simp only at n3 n4
            have Hkeep := hid hkeep
            clear hkeep
            go_wp2_with fail
            go_region_held3 (fun W => W.cell? ⟨S, 0, none⟩ = some (.int .i64 l) ∧ W.cell? ⟨S, 1, none⟩ = some (.int .i64 s) ∧ W.cell? ⟨S, 2, none⟩ = some (.int .i64 a) ∧ W.cell? ⟨S, 3, none⟩ = some (.int .i64 o) ∧ W.cell? ⟨S, 4, none⟩ = some (.bool false) ∧
                W.cell? ⟨b, off + k * 3 + 1, none⟩ = some (.int .i16 x.n) ∧ W.cell? ⟨b, off + k * 3 + 2, none⟩ = some (.int .i16 x.t))
              (first | go_keep | assumption)
              ((first | (go_at_call 9; refine Calls.mono (Hst.out _ _ _) ?_; rintro e w' ⟨l', s', z, rfl, hz, hb'⟩; have hk' := Hkeep.out _ _ (by assumption) hb'; have n1 := World.new_ne _ _ hk'.1; have n2 := World.new_ne _ _ hk'.2.2.2.2.2.1; simp only at n1 n2; first | (with_reducible (have hB5 := Blk.below ((Blk.drew_iff _ _ _ _).2 (Blk.new wr 28 [.int .i64 0, .int .i64 0, .int .i64 0, .int .i64 0, .bool false])) hb'); have c50 := hB5.cell 0; have c51 := hB5.cell 1; have c52 := hB5.cell 2; have c53 := hB5.cell 3; have c54 := hB5.cell 4; have f50 := hB5.frozen 0; have f51 := hB5.frozen 1; have f52 := hB5.frozen 2; have f53 := hB5.frozen 3; have f54 := hB5.frozen 4; simp only [List.getElem?_cons_zero, List.getElem?_cons_succ] at c50 c51 c52 c53 c54) | skip)))
            · have hO2 := ownKept (w := wr.drew) hO hb'
              have hB2 := Blk.below ((Blk.drew_iff _ _ _ _).2 hB) hb'
              have hbw2 := belowAfter (belowDrew hbw) hb'
              refine exit_with (fun W => Blk W w'.heap.size 28 [.int .i64 l', .int .i64 s', .int .i64 (a + 1), .int .i64 z, .bool false] ∧ Blk W S 28 [.int .i64 l, .int .i64 s, .int .i64 a, .int .i64 o, .bool false] ∧ W.ownsRow w.heap.size 31 3 (.slice (some ⟨b, off, none⟩) N c4) N (L.flatMap Sight.cells) ∧ Below w.heap.size w W) ⟨by simp [Blk.alloc_iff], hB2.alloc _, hO2.alloc _, belowAlloc hbw2 _⟩ ?_
              clear hB hO hbw hB2 hO2 hbw2 hb' hk' Hst Hkeep s0 s1 s2 s3 s4 e0 e1 e2 n2 n3 n4 hbl hSlt hSlt' hbl'
              rintro W ⟨b1, b2, o2, bw2⟩
              have m1 := b1.cell; have m2 := b1.frozen; have m3 := b2.cell; have m4 := b2.frozen
              go_wp2_with fail
              go_roundw
              case rel => exact ⟨k + 1, l', s', (a + 1), z, false, by omega, by go_num, rfl, rfl, by omega, by omega, ((((b2.set 0 _).set 1 _).set 2 _).set 3 _).set 4 _, ownSet (ownSet (ownSet (ownSet (ownSet o2 hS.1 _) hS.1 _) hS.1 _) hS.1 _) hS.1 _, belowSet (belowSet (belowSet (belowSet (belowSet bw2 hS.2 _) hS.2 _) hS.2 _) hS.2 _) hS.2 _⟩
              case measure => simp [intOf]; omega
            · have hO2 := ownKept (w := (wr.alloc _).drew) (hO.alloc _) hb'
              have hB2 := Blk.below ((Blk.drew_iff _ _ _ _).2 (hB.alloc _)) hb'
              have hbw2 := belowAfter (belowDrew (belowAlloc hbw _)) hb'
              have hbo : Value.ownBlock (.slice (some ⟨b, off, none⟩) N c4) ≠ some wr.heap.size := by simp [Value.ownBlock]; omega
              have hbS2 : S ≠ wr.heap.size := by omega
              refine exit_with (fun W => Blk W wr.heap.size 28 [.int .i64 l', .int .i64 s', .int .i64 (a + 1), .int .i64 z, .bool false] ∧ Blk W S 28 [.int .i64 l, .int .i64 s, .int .i64 a, .int .i64 o, .bool false] ∧ W.ownsRow w.heap.size 31 3 (.slice (some ⟨b, off, none⟩) N c4) N (L.flatMap Sight.cells) ∧ Below w.heap.size w W) ⟨((((hB5.set 0 _).set 1 _).set 2 _).set 3 _).set 4 _, ((((hB2.setOther 0 _ hbS2).setOther 1 _ hbS2).setOther 2 _ hbS2).setOther 3 _ hbS2).setOther 4 _ hbS2,
                ownSet (ownSet (ownSet (ownSet (ownSet hO2 hbo _) hbo _) hbo _) hbo _) hbo _, belowSet (belowSet (belowSet (belowSet (belowSet hbw2 hbw' _) hbw' _) hbw' _) hbw' _) hbw' _⟩ ?_
              clear hB hO hbw hB2 hO2 hbw2 hb' hk' Hst Hkeep s0 s1 s2 s3 s4 e0 e1 e2 n1 n2 n4 hbl hSlt hSlt' hbl' hB5 c50 c51 c52 c53 c54 f50 f51 f52 f53 f54
              rintro W ⟨b1, b2, o2, bw2⟩
              have m1 := b1.cell; have m2 := b1.frozen; have m3 := b2.cell; have m4 := b2.frozen
              go_wp2_with fail
              go_roundw
              case rel => exact ⟨k + 1, l', s', (a + 1), z, false, by omega, by go_num, rfl, rfl, by omega, by omega, ((((b2.set 0 _).set 1 _).set 2 _).set 3 _).set 4 _, ownSet (ownSet (ownSet (ownSet (ownSet o2 hS.1 _) hS.1 _) hS.1 _) hS.1 _) hS.1 _, belowSet (belowSet (belowSet (belowSet (belowSet bw2 hS.2 _) hS.2 _) hS.2 _) hS.2 _) hS.2 _⟩
              case measure => simp [intOf]; omega
    · go_wp2_with fail
      go_ret
      exact ⟨rfl, hbw⟩
end Go.Proofs.Ytdbdnlchmmedhaa
