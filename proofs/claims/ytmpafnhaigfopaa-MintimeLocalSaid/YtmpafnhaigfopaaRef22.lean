/- Packages ambidexterref21 and ambidexterref22: the contracts of Tick, may, Leads, Less, Same. -/
import Derived.Test.YtmpafnhaigfopaaProfile
import Derived.StillTailTactics
set_option linter.unusedSimpArgs false
set_option linter.unusedVariables false
namespace Go.Proofs.Ytmpafnhaigfopaa
open Go.RowKit

set_option maxRecDepth 100000 in
set_option maxHeartbeats 400000 in
theorem rtick_any (p v a j : Int) (w : World) :
    Calls Try.prog 52 #[.agg #[.int .i64 p, .int .i64 v, .int .i64 a], .int .i64 j] w fun e w' => e = .returned ((⟨p, v, a⟩ : Mo).step j).val ∧ Below w.heap.size w w' := by
  go_enter Try.func52, Try.ntmps52
  go_wp2_with fail
  refine bodyPost_ret (v := ((⟨p, v, a⟩ : Mo).step j).val) ?_ rfl ⟨rfl, ?_⟩
  · simp [results, Try.results52, go_sem, Mo.step, Mo.val]
  · exact belowAlloc (belowAlloc (Below.refl _ _) _) _

set_option maxRecDepth 100000 in
set_option maxHeartbeats 2000000 in
theorem rmay_any (V A J D p v a : Int) (hs : (⟨V, A, J, D⟩ : Sp).ok) (w : World) :
    Calls Try.prog 53 #[.agg #[.int .i64 V, .int .i64 A, .int .i64 J], .int .i64 D, .agg #[.int .i64 p, .int .i64 v, .int .i64 a]] w fun e w' => e = .returned (.bool (decide ((⟨V, A, J, D⟩ : Sp).has ⟨p, v, a⟩))) ∧ Below w.heap.size w w' := by
  obtain ⟨hv1, hv2, ha1, ha2, hj1, hj2, hd1, hd2⟩ := hs
  simp only at *
  have hb : (decide ((⟨V, A, J, D⟩ : Sp).has ⟨p, v, a⟩)) = (decide (0 ≤ p) && decide (p ≤ D) && decide (-V ≤ v) && decide (v ≤ V) && decide (-A ≤ a) && decide (a ≤ A)) := by
    rw [Bool.eq_iff_iff, decide_eq_true_iff]
    simp [Sp.has, and_assoc]
  rw [hb]
  go_enter Try.func53, Try.ntmps53
  go_wp2_with fail
  all_goals
    go_ret
    exact ⟨ret_bool (by simp [*] <;> omega), belowAlloc (belowAlloc (Below.refl _ _) _) _⟩

/-- Do the jerks lead to the goal? -/
def leadsB (s : Sp) : Mo → List Int → Bool
  | m, [] => decide (m = s.goal)
  | m, j :: l => decide (-s.J ≤ j) && decide (j ≤ s.J) && decide (s.has (m.tick j)) && leadsB s (m.tick j) l
theorem leadsB_iff (s : Sp) : ∀ (l : List Int) (m : Mo), leadsB s m l = true ↔ leads s m l
  | [], m => by simp [leadsB, leads]
  | j :: l, m => by simp [leadsB, leads, leadsB_iff s l, Sp.jerk, and_assoc]

set_option maxRecDepth 100000 in
set_option maxHeartbeats 1000000 in
theorem leads_any (V A J D : Int) (l : List Int) (Ao : Option Addr) (n c : Nat) (hs : (⟨V, A, J, D⟩ : Sp).ok) (w : World) (hr : Rd w w.heap.size 1 Ao n (ints l)) (hn : n ≤ 2147483647) :
    Calls Try.prog 23 #[.agg #[.int .i64 V, .int .i64 A, .int .i64 J], .int .i64 D, .slice Ao n c] w fun e w' => e = .returned (.bool (leadsB ⟨V, A, J, D⟩ Mo.zero l)) ∧ Below w.heap.size w w' := by
  have hlen : l.length = n := by have := hr.1; rw [ints_length] at this; omega
  have HS := hid hs
  have hj1 : 1 ≤ J := hs.j1
  have hj2 : J ≤ 2 := hs.j2
  clear hs
  obtain ⟨s, hS⟩ : ∃ s : Sp, ⟨V, A, J, D⟩ = s := ⟨_, rfl⟩
  have hJJ : s.J = J := by rw [← hS]
  rw [hS] at HS ⊢
  obtain ⟨B, hB⟩ : ∃ B, w.heap.size = B := ⟨_, rfl⟩
  go_enter Try.func23, Try.ntmps23
  go_wp2_with fail
  have hl0 : Blk ((w.alloc (Obj.cells #[.int .i64 V, .int .i64 A, .int .i64 J] 27)).alloc (Obj.cells #[.int .i64 0, .int .i64 0, .int .i64 0] 81)) B 27 [.int .i64 V, .int .i64 A, .int .i64 J] := (hB ▸ Blk.new w 27 [.int .i64 V, .int .i64 A, .int .i64 J]).alloc _
  have hm0 : Blk ((w.alloc (Obj.cells #[.int .i64 V, .int .i64 A, .int .i64 J] 27)).alloc (Obj.cells #[.int .i64 0, .int .i64 0, .int .i64 0] 81)) (B + 1) 81 [.int .i64 0, .int .i64 0, .int .i64 0] := by
    have := Blk.new (w.alloc (Obj.cells #[.int .i64 V, .int .i64 A, .int .i64 J] 27)) 81 [.int .i64 0, .int .i64 0, .int .i64 0]
    rw [World.size_alloc, hB] at this; exact this
  have hb0 : Below B w ((w.alloc (Obj.cells #[.int .i64 V, .int .i64 A, .int .i64 J] 27)).alloc (Obj.cells #[.int .i64 0, .int .i64 0, .int .i64 0] 81)) := hB ▸ belowAlloc (belowAlloc (Below.refl _ _) _) _
  go_loopw [8] (fun i wr => ∃ (k : Nat) (m : Mo), k ≤ n ∧ i = .int .i64 k ∧ Blk wr B 27 [.int .i64 V, .int .i64 A, .int .i64 J] ∧ Blk wr (B + 1) 81 [.int .i64 m.p, .int .i64 m.v, .int .i64 m.a] ∧ Below B w wr ∧ s.has m ∧ leadsB s Mo.zero l = leadsB s m (l.drop k))
    (fun i _ => n - (intOf i).toNat)
  case atStart => exact ⟨0, Mo.zero, by omega, rfl, hl0, hm0, hb0, has_zero s HS.out, rfl⟩
  case round =>
    obtain ⟨k, m, hk, rfl, hl, hm, hb, hhas, hle⟩ := hrel
    have hcl := hl.cell
    have hcm := hm.cell
    have Hle := hid hle
    clear hle
    by_cases hlt : k < n
    · obtain ⟨b, off, j, rfl, hbB, hj, hcj⟩ := hr.intAt hlt
      have hcj2 : wr.cell? ⟨b, off + k, none⟩ = some (.int .i64 j) := (hb.cell (p := ⟨b, off + k, none⟩) (by show b < B; omega)).trans hcj
      have hdrop : l.drop k = j :: l.drop (k + 1) := by
        rw [List.getElem?_eq_some_iff] at hj
        obtain ⟨h1, h2⟩ := hj
        rw [← h2]; exact List.drop_eq_getElem_cons h1
      have Hle2 := hid (show leadsB s Mo.zero l = (decide (-J ≤ j) && decide (j ≤ J) && decide (s.has (m.tick j)) && leadsB s (m.tick j) (l.drop (k + 1))) by rw [Hle.out, hdrop, leadsB, hJJ])
      have hik : (k : Int) < (n : Int) := by omega
      have hwJ : wrap64 (-J) = -J := w64 (by omega) (by omega)
      clear hcj hj hdrop Hle
      by_cases hj1 : j < -J
      · have hd1 : decide (j < -J) = true := by simp [hj1]
        have HR := hid (show leadsB s Mo.zero l = false by rw [Hle2.out]; simp; omega)
        go_wp2_with fail
        go_quiet (fail)
        go_wp2_with fail
        go_ret
        exact ⟨ret_bool HR.out.symm, hB ▸ below_drewN hb nq⟩
      · have hd1 : decide (j < -J) = false := by simp [hj1]
        by_cases hj2 : J < j
        · have HR := hid (show leadsB s Mo.zero l = false by rw [Hle2.out]; simp; omega)
          go_wp2_with fail
          go_quiet (fail)
          go_wp2_with fail
          go_ret
          exact ⟨ret_bool HR.out.symm, hB ▸ below_drewN hb nq⟩
        · have hd2 : decide (J < j) = false := by simp [hj2]
          go_wp2_with fail
          go_quiet (fail)
          have hl2 : Blk (wr.drewN nq) B 27 _ := hl
          have hm2 : Blk (wr.drewN nq) (B + 1) 81 _ := hm
          have hb2 := below_drewN hb nq
          have hcj3 : (wr.drewN nq).cell? ⟨b, off + k, none⟩ = some (.int .i64 j) := hcj2
          clear hl hm hb hcj2 hcl hcm
          generalize wr.drewN nq = w3 at *
          have s0 := hm2.cell 0
          have s1 := hm2.cell 1
          have s2 := hm2.cell 2
          have s3 := hm2.frozen 0
          have s4 := hm2.frozen 1
          have s5 := hm2.frozen 2
          simp only [List.getElem?_cons_zero, List.getElem?_cons_succ] at s0 s1 s2
          have htk := rtick_any m.p m.v m.a j
          rw [show (⟨m.p, m.v, m.a⟩ : Mo).step j = m.tick j from step_tick s HS.out m hhas j (by omega) (by omega)] at htk
          obtain ⟨x, hx⟩ : ∃ x, m.tick j = x := ⟨_, rfl⟩
          rw [hx] at htk Hle2
          simp only [Mo.val] at htk
          have Htk := hid htk
          clear htk
          go_wp2_with fail
          go_still_tail 5, (by kernel_rfl)
          change wpList _ _ _ _ _ w3.drew
          have hl4 : Blk w3.drew B 27 _ := hl2
          have hm4 : Blk w3.drew (B + 1) 81 _ := hm2
          have hb4 := belowDrew hb2
          clear hl2 hm2 hb2 hcj3 s0 s1 s2 s3 s4 s5
          generalize w3.drew = w4 at *
          go_wp2_with fail
          refine Calls.mono (Htk.out _) ?_; rintro e w5 ⟨rfl, hb5⟩
          have hl5 := hl4.below hb5
          have hm5 := hm4.below hb5
          have hb5' := hb4.trans (hb5.mono (by have := hl4.lt; omega))
          clear hl4 hm4 hb4 hb5
          have hcl := hl5.cell
          have hcm := hm5.cell
          have hfm := hm5.frozen
          have hmy := rmay_any V A J D x.p x.v x.a (hS ▸ HS.out)
          rw [hS, show (⟨x.p, x.v, x.a⟩ : Mo) = x from rfl] at hmy
          have Hmy := hid hmy
          clear hmy
          go_wp2_with fail
          have hl6 := (((hl5.setOther (c := B + 1) 0 (.int .i64 x.p) (by omega)).setOther (c := B + 1) 1 (.int .i64 x.v) (by omega)).setOther (c := B + 1) 2 (.int .i64 x.a) (by omega))
          have hm6 := ((hm5.set 0 (.int .i64 x.p)).set 1 (.int .i64 x.v)).set 2 (.int .i64 x.a)
          have hb6 := belowSet (b := B + 1) (o := 2) (belowSet (b := B + 1) (o := 1) (belowSet (b := B + 1) (o := 0) hb5' (by omega) (.int .i64 x.p)) (by omega) (.int .i64 x.v)) (by omega) (.int .i64 x.a)
          refine Calls.mono (Hmy.out _) ?_; rintro e w7 ⟨rfl, hb7⟩
          have hl7 := hl6.below hb7
          have hm7 := hm6.below hb7
          have hb7' := hb6.trans (hb7.mono (by have := hl6.lt; omega))
          clear hl6 hm6 hb6 hb7 hl5 hm5 hb5' hcl hcm hfm
          by_cases hxh : s.has x
          · have hdx : decide (s.has x) = true := by simp [hxh]
            rw [hdx]
            go_wp2_with fail
            go_roundw
            case rel => exact ⟨k + 1, x, by omega, by go_num, hl7, hm7, hb7', hxh, by rw [Hle2.out]; simp [hxh]; omega⟩
            case measure => simp [intOf]; omega
          · have hdx : decide (s.has x) = false := by simp [hxh]
            rw [hdx]
            have HR := hid (show leadsB s Mo.zero l = false by rw [Hle2.out]; simp [hxh])
            go_wp2_with fail
            go_ret
            exact ⟨ret_bool HR.out.symm, hB ▸ hb7'⟩
    · have hk0 : k = n := by omega
      have HR := hid (show leadsB s Mo.zero l = decide (m = s.goal) by rw [Hle.out, hk0, ← hlen, List.drop_length, leadsB])
      have hgl : s.goal = ⟨D, 0, 0⟩ := by rw [← hS]; rfl
      go_wp2_with fail
      all_goals
        go_ret
        exact ⟨ret_bool (by rw [HR.out, hgl, show m = ⟨m.p, m.v, m.a⟩ from rfl]; simp [Mo.mk.injEq, *]), hB ▸ hb⟩

theorem less_nil (a : List Int) : less [] a = false := by cases a <;> rfl
theorem less_nil' (a : List Int) : less a [] = false := by cases a <;> rfl
theorem drop_some {l : List Int} {k : Nat} {j : Int} (h : l[k]? = some j) : l.drop k = j :: l.drop (k + 1) := by
  rw [List.getElem?_eq_some_iff] at h
  obtain ⟨h1, h2⟩ := h
  rw [← h2]; exact List.drop_eq_getElem_cons h1

set_option maxRecDepth 100000 in
set_option maxHeartbeats 1000000 in
theorem less_any (la lb : List Int) (A1 A2 : Option Addr) (n1 c1 n2 c2 : Nat) (w : World) (h1 : Rd w w.heap.size 1 A1 n1 (ints la)) (h2 : Rd w w.heap.size 1 A2 n2 (ints lb)) (hn1 : n1 ≤ 2147483647) (hn2 : n2 ≤ 2147483647) :
    Calls Try.prog 24 #[.slice A1 n1 c1, .slice A2 n2 c2] w fun e w' => e = .returned (.bool (less la lb)) ∧ Below w.heap.size w w' := by
  have hl1 : la.length = n1 := by have := h1.1; rw [ints_length] at this; omega
  have hl2 : lb.length = n2 := by have := h2.1; rw [ints_length] at this; omega
  go_enter Try.func24, Try.ntmps24
  go_wp2_with fail
  go_loopw [5] (fun i wr => ∃ (k : Nat), k ≤ n1 ∧ k ≤ n2 ∧ i = .int .i64 k ∧ Below w.heap.size w wr ∧ less la lb = less (la.drop k) (lb.drop k))
    (fun i _ => n1 - (intOf i).toNat)
  case atStart => exact ⟨0, by omega, by omega, rfl, Below.refl _ _, rfl⟩
  case round =>
    obtain ⟨k, hk1, hk2, rfl, hb, hle⟩ := hrel
    have Hle := hid hle
    clear hle
    by_cases hlt1 : k < n1
    · by_cases hlt2 : k < n2
      · obtain ⟨b1, o1, x, rfl, hb1, hx, hcx⟩ := h1.intAt hlt1
        obtain ⟨b2, o2, y, rfl, hb2, hy, hcy⟩ := h2.intAt hlt2
        have hcx2 : wr.cell? ⟨b1, o1 + k, none⟩ = some (.int .i64 x) := (hb.cell (p := ⟨b1, o1 + k, none⟩) hb1).trans hcx
        have hcy2 : wr.cell? ⟨b2, o2 + k, none⟩ = some (.int .i64 y) := (hb.cell (p := ⟨b2, o2 + k, none⟩) hb2).trans hcy
        have Hle2 := hid (show less la lb = if x ≠ y then decide (x < y) else less (la.drop (k + 1)) (lb.drop (k + 1)) by rw [Hle.out, drop_some hx, drop_some hy, less])
        have hi1 : (k : Int) < (n1 : Int) := by omega
        have hi2 : (k : Int) < (n2 : Int) := by omega
        clear Hle hx hy hcx hcy h1 h2
        by_cases hxy : x = y
        · have hxb : (x == y) = true := by simp [hxy]
          subst hxy
          go_wp2_with fail
          go_quiet (fail)
          have hb2 := below_drewN hb nq
          clear hb hcx2 hcy2
          generalize wr.drewN nq = w2 at *
          go_wp2_with fail
          go_roundw
          case rel => exact ⟨k + 1, by omega, by omega, by go_num, hb2, by rw [Hle2.out]; simp⟩
          case measure => simp [intOf]; omega
        · have hxb : (x == y) = false := by simp [hxy]
          have HR := hid (show less la lb = decide (x < y) by rw [Hle2.out]; simp [hxy])
          go_wp2_with fail
          go_quiet (fail)
          have hb2 := below_drewN hb nq
          have hcx3 : (wr.drewN nq).cell? ⟨b1, o1 + k, none⟩ = some (.int .i64 x) := hcx2
          have hcy3 : (wr.drewN nq).cell? ⟨b2, o2 + k, none⟩ = some (.int .i64 y) := hcy2
          clear hb hcx2 hcy2
          generalize wr.drewN nq = w2 at *
          go_wp2_with fail
          go_quiet (fail)
          go_wp2_with fail
          go_ret
          exact ⟨ret_bool HR.out.symm, below_drewN hb2 nq⟩
      · have HR := hid (show less la lb = false by rw [Hle.out, List.drop_of_length_le (l := lb) (by omega), less_nil'])
        go_wp2_with fail
        go_ret
        exact ⟨ret_bool HR.out.symm, hb⟩
    · have HR := hid (show less la lb = false by rw [Hle.out, List.drop_of_length_le (l := la) (by omega), less_nil])
      go_wp2_with fail
      go_ret
      exact ⟨ret_bool HR.out.symm, hb⟩

set_option maxRecDepth 100000 in
set_option maxHeartbeats 1000000 in
theorem same_any (la lb : List Int) (A1 A2 : Option Addr) (n1 c1 n2 c2 : Nat) (w : World) (h1 : Rd w w.heap.size 1 A1 n1 (ints la)) (h2 : Rd w w.heap.size 1 A2 n2 (ints lb)) (hn1 : n1 ≤ 2147483647) (hn2 : n2 ≤ 2147483647) :
    Calls Try.prog 49 #[.slice A1 n1 c1, .slice A2 n2 c2] w fun e w' => e = .returned (.bool (decide (la = lb))) ∧ Below w.heap.size w w' := by
  have hl1 : la.length = n1 := by have := h1.1; rw [ints_length] at this; omega
  have hl2 : lb.length = n2 := by have := h2.1; rw [ints_length] at this; omega
  by_cases hn : n1 = n2
  · subst hn
    go_enter Try.func49, Try.ntmps49
    go_wp2_with fail
    go_loopw [5] (fun i wr => ∃ (k : Nat), k ≤ n1 ∧ i = .int .i64 k ∧ Below w.heap.size w wr ∧ (la = lb ↔ la.drop k = lb.drop k))
      (fun i _ => n1 - (intOf i).toNat)
    case atStart => exact ⟨0, by omega, rfl, Below.refl _ _, Iff.rfl⟩
    case round =>
      obtain ⟨k, hk1, rfl, hb, hle⟩ := hrel
      have Hle := hid hle
      clear hle
      by_cases hlt1 : k < n1
      · obtain ⟨b1, o1, x, rfl, hb1, hx, hcx⟩ := h1.intAt hlt1
        obtain ⟨b2, o2, y, rfl, hb2, hy, hcy⟩ := h2.intAt hlt1
        have hcx2 : wr.cell? ⟨b1, o1 + k, none⟩ = some (.int .i64 x) := (hb.cell (p := ⟨b1, o1 + k, none⟩) hb1).trans hcx
        have hcy2 : wr.cell? ⟨b2, o2 + k, none⟩ = some (.int .i64 y) := (hb.cell (p := ⟨b2, o2 + k, none⟩) hb2).trans hcy
        have Hle2 := hid (show la = lb ↔ x = y ∧ la.drop (k + 1) = lb.drop (k + 1) by rw [Hle.out, drop_some hx, drop_some hy, List.cons.injEq])
        have hi1 : (k : Int) < (n1 : Int) := by omega
        clear Hle hx hy hcx hcy h1 h2
        by_cases hxy : x = y
        · have hxb : (x == y) = true := by simp [hxy]
          subst hxy
          go_wp2_with fail
          go_quiet (fail)
          have hb2 := below_drewN hb nq
          clear hb hcx2 hcy2
          generalize wr.drewN nq = w2 at *
          go_wp2_with fail
          go_roundw
          case rel => exact ⟨k + 1, by omega, by go_num, hb2, by rw [Hle2.out]; simp⟩
          case measure => simp [intOf]; omega
        · have hxb : (x == y) = false := by simp [hxy]
          have HR := hid (show decide (la = lb) = false by rw [decide_eq_false_iff_not, Hle2.out]; simp [hxy])
          go_wp2_with fail
          go_quiet (fail)
          have hb2 := below_drewN hb nq
          clear hb hcx2 hcy2
          generalize wr.drewN nq = w2 at *
          go_wp2_with fail
          go_ret
          exact ⟨ret_bool HR.out.symm, hb2⟩
      · have HR := hid (show decide (la = lb) = true by rw [decide_eq_true_iff, Hle.out, List.drop_of_length_le (l := la) (by omega), List.drop_of_length_le (l := lb) (by omega)])
        go_wp2_with fail
        go_ret
        exact ⟨ret_bool HR.out.symm, hb⟩
  · have HR := hid (show decide (la = lb) = false by rw [decide_eq_false_iff_not]; intro e; subst e; omega)
    go_enter Try.func49, Try.ntmps49
    go_wp2_with fail
    go_ret
    exact ⟨ret_bool HR.out.symm, Below.refl _ _⟩

set_option maxRecDepth 100000 in
set_option maxHeartbeats 400000 in
theorem limits_any (v a j : Int) (h1 : 0 ≤ v) (h2 : v ≤ 255) (h3 : 0 ≤ a) (h4 : a ≤ 255) (h5 : 0 ≤ j) (h6 : j ≤ 255) (w : World) :
    Calls Try.prog 21 #[.int .u8 v, .int .u8 a, .int .u8 j] w fun e w' => e = .returned (.agg #[.int .i64 (1 + v % 8), .int .i64 (1 + a % 4), .int .i64 (1 + j % 2)]) ∧ Below w.heap.size w w' := by
  have e1 : wrap64 (1 + v.tmod 8) = 1 + v % 8 := by rw [Int.tmod_eq_emod_of_nonneg h1]; exact w64 (by omega) (by omega)
  have e2 : wrap64 (1 + a.tmod 4) = 1 + a % 4 := by rw [Int.tmod_eq_emod_of_nonneg h3]; exact w64 (by omega) (by omega)
  have e3 : wrap64 (1 + j.tmod 2) = 1 + j % 2 := by rw [Int.tmod_eq_emod_of_nonneg h5]; exact w64 (by omega) (by omega)
  have E := hid (And.intro e1 (And.intro e2 e3))
  go_enter Try.func21, Try.ntmps21
  go_wp2_with fail
  refine bodyPost_ret (v := .agg #[.int .i64 (1 + v % 8), .int .i64 (1 + a % 4), .int .i64 (1 + j % 2)]) ?_ rfl ⟨rfl, ?_⟩
  · simp [results, Try.results21, go_sem]
  · exact belowAlloc (Below.refl _ _) _
end Go.Proofs.Ytmpafnhaigfopaa
