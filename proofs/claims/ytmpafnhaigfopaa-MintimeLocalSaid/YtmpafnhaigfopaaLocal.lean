/- MintimeLocal. -/
import Derived.Test.YtmpafnhaigfopaaHead22
set_option linter.unusedSimpArgs false
set_option linter.unusedVariables false
namespace Go.Proofs.Ytmpafnhaigfopaa
open Go.RowKit

theorem own_cell {w : World} {base : Nat} {e : TypeId} {b n c : Nat} {xs : List Value} (h : w.ownsRow base e 1 (.slice (some ⟨b, 0, none⟩) n c) n xs) {i : Nat} {u : Value} (hu : xs[i]? = some u) : w.cell? ⟨b, i, none⟩ = some u := by
  rcases h.2 with ⟨h0, _⟩ | ⟨g, cap, cur, hv, h2, h3, h4, h5, h6, h7⟩
  · cases h0
  · injection hv with hv
    injection hv with hv
    injection hv with hv
    subst hv
    have : w.cell? ⟨b, i, none⟩ = cur[i]? := by simp [World.cell?, h3]
    rw [this]
    rw [← h7, List.getElem?_take] at hu
    split at hu
    · simpa using hu
    · cases hu
theorem own_frozen {w : World} {base : Nat} {e : TypeId} {b n c : Nat} {xs : List Value} (h : w.ownsRow base e 1 (.slice (some ⟨b, 0, none⟩) n c) n xs) (i : Nat) : w.frozen? ⟨b, i, none⟩ = false := by
  rcases h.2 with ⟨h0, _⟩ | ⟨g, cap, cur, hv, h2, h3, h4, h5, h6, h7⟩
  · cases h0
  · injection hv with hv
    injection hv with hv
    injection hv with hv
    subst hv
    simp [World.frozen?, h3]
theorem own_put {w : World} {base : Nat} {e : TypeId} {b n c : Nat} {xs : List Value} (h : w.ownsRow base e 1 (.slice (some ⟨b, 0, none⟩) n c) n xs) (i : Nat) (u : Value) : (w.setCell ⟨b, i, none⟩ u).ownsRow base e 1 (.slice (some ⟨b, 0, none⟩) n c) n (xs.set i u) := by
  refine ⟨by rw [List.length_set]; exact h.1, ?_⟩
  rcases h.2 with ⟨h0, _⟩ | ⟨g, cap, cur, hv, h2, h3, h4, h5, h6, h7⟩
  · cases h0
  · have hv' := hv
    injection hv with hv
    injection hv with hv
    injection hv with hv
    subst hv
    refine .inr ⟨b, cap, cur.setIfInBounds i u, hv', h2, ?_, h4, h5, by simpa using h6, ?_⟩
    · simp [World.setCell, Array.getElem?_modify, h3]
    · rw [← h7]
      simp [List.take_set]
/-- A walk stops ahead of an append. -/
theorem stop_app {P : Program} {w : World} {ops : Array Oper} {rest : List Oper} {o : Oper} {a : Act} {Q : Exit → Act → World → Prop} (s x : Operand) (t : TypeId)
    (ho : o.op = .call { callee := .builtin .append, args := #[s, x], argTypes := #[t, t] }) (h : Stop (wpList P ops Q (o :: rest) a w)) : wpList P ops Q (o :: rest) a w := h
/-- A slice that is not empty lies somewhere. -/
theorem own_some {w : World} {base : Nat} {e : TypeId} {size n c : Nat} {A : Option Addr} {xs : List Value} (h : w.ownsRow base e size (.slice A n c) n xs) (hn : 0 < n) : ∃ b, A = some ⟨b, 0, none⟩ ∧ base ≤ b ∧ b < w.heap.size ∧ n ≤ c := by
  rcases h.2 with ⟨h0, h1⟩ | ⟨g, cap, cur, hv, h2, h3, h4, h5, h6, h7⟩
  · omega
  · injection hv with hv hv2 hv3
    exact ⟨g, hv, h2, (Array.getElem?_eq_some_iff.1 h3).1, by omega⟩
theorem own_new (w : World) (base : Nat) (e : TypeId) (hb : base ≤ w.heap.size) : (w.alloc (.cells #[] e)).ownsRow base e 1 (.slice (some ⟨w.heap.size, 0, none⟩) 0 0) 0 [] :=
  ⟨rfl, .inr ⟨w.heap.size, 0, #[], rfl, hb, heap_alloc_new w _, Nat.le_refl _, by simp [maxLen], rfl, rfl⟩⟩

theorem info3 : ∃ i0, Try.prog.info? 3 = some i0 ∧ i0.zero = some (.int .i64 0) ∧ i0.size = 1 ∧ i0.bytes = 8 := by
  have hi9 : (Try.prog.info? 3).map (fun i => (i.zero, i.size, i.bytes)) = some (some (.int .i64 0), 1, 8) := by kernel_rfl
  obtain ⟨i0, hi, hx9⟩ := Option.map_eq_some_iff.1 hi9
  simp only [Prod.mk.injEq] at hx9
  exact ⟨i0, hi, hx9⟩
theorem ints_one (l : List Int) : ∀ u ∈ ints l, u.oneCell' = true := by
  intro u hu
  obtain ⟨x, _, rfl⟩ := List.mem_map.1 hu
  rfl
theorem ints_take (l : List Int) (k : Nat) : (ints l).take (k * 1) = ints (l.take k) := by simp [ints, List.map_take]
theorem ints_drop (l : List Int) (k : Nat) : (ints l).drop (k * 1) = ints (l.drop k) := by simp [ints, List.map_drop]
theorem ints_app (a b : List Int) : ints a ++ ints b = ints (a ++ b) := by simp [ints]

set_option maxRecDepth 100000 in
set_option maxHeartbeats 2000000 in
theorem local_any (k0 k1 k2 far at_ to_ : Int) (hk0 : 0 ≤ k0 ∧ k0 ≤ 255) (hk1 : 0 ≤ k1 ∧ k1 ≤ 255) (hk2 : 0 ≤ k2 ∧ k2 ≤ 255) (hf : 0 ≤ far ∧ far ≤ 65535) (ha : 0 ≤ at_ ∧ at_ ≤ 255) (ht : 0 ≤ to_ ∧ to_ ≤ 255) (w : World) :
    Calls Try.prog 4 #[.agg #[.int .u8 k0, .int .u8 k1, .int .u8 k2], .int .u16 far, .int .u8 at_, .int .u8 to_] w fun e w' => e = .returned (.bool true) ∧ Below w.heap.size w w' := by
  have hlim := hid (limits_any k0 k1 k2 hk0.1 hk0.2 hk1.1 hk1.2 hk2.1 hk2.2)
  obtain ⟨V, hV⟩ : ∃ V, 1 + k0 % 8 = V := ⟨_, rfl⟩
  obtain ⟨A, hA⟩ : ∃ A, 1 + k1 % 4 = A := ⟨_, rfl⟩
  obtain ⟨J, hJ⟩ : ∃ J, 1 + k2 % 2 = J := ⟨_, rfl⟩
  obtain ⟨D, hD⟩ : ∃ D, far % 121 = D := ⟨_, rfl⟩
  rw [hV, hA, hJ] at hlim
  have hok : (⟨V, A, J, D⟩ : Sp).ok := ⟨by simp only; omega, by simp only; omega, by simp only; omega, by simp only; omega, by simp only; omega, by simp only; omega, by simp only; omega, by simp only; omega⟩
  have HF := hid hf
  obtain ⟨B, hB⟩ : ∃ B, w.heap.size = B := ⟨_, rfl⟩
  go_enter Try.func4, Try.ntmps4
  go_wp2_with fail
  refine calls_with (fun w0 => Blk w0 B 23 [.int .u8 k0, .int .u8 k1, .int .u8 k2] ∧ Below B w w0 ∧ B < w0.heap.size) ⟨hB ▸ Blk.new w 23 [_, _, _], hB ▸ belowAlloc (Below.refl _ _) _, by simp; omega⟩ ?_
  rintro w0 ⟨hk, hb0, hlt0⟩
  refine Calls.mono (head22 w0) ?_; rintro e w1 ⟨rfl, hb1⟩
  have hk1 := hk.below hb1
  replace hb1 := hb0.trans (hb1.mono (by omega))
  clear hk hb0 hlt0
  have hck := hk1.cell
  have hlt1 := hk1.lt
  go_wp2_with fail
  refine Calls.mono (hlim.out _) ?_; rintro e w2 ⟨rfl, hb2⟩
  replace hb2 := hb1.trans (hb2.mono (by omega))
  obtain ⟨L, hL⟩ : ∃ L, w2.heap.size = L := ⟨_, rfl⟩
  clear hk1 hck hb1
  have e1 : far.tmod 121 = D := by rw [Int.tmod_eq_emod_of_nonneg hf.1]; exact hD
  go_wp2_with fail
  have hl2 : Blk (w2.alloc (Obj.cells #[.int .i64 V, .int .i64 A, .int .i64 J] 27)) L 27 [.int .i64 V, .int .i64 A, .int .i64 J] := hL ▸ Blk.new w2 27 [_, _, _]
  have hBL : B ≤ L := by have := hb2.size; omega
  replace hb2 := hb2.alloc (by omega) (Obj.cells #[.int .i64 V, .int .i64 A, .int .i64 J] 27)
  cases hp : prof ⟨V, A, J, D⟩ with
  | none =>
    obtain ⟨d1, d2⟩ := prof_none_when _ hok hp
    simp only at d1 d2
    have hp' := hid (profile_none hp)
    have x1 : (D == 0) = false := by simp [d1]
    have x2 : (D == 1) = true := by simp [d1]
    have x3 : (J == 1) = true := by simp [d2]
    clear hp d1 d2
    refine Calls.mono (hp'.out _) ?_; rintro e w3 ⟨rfl, hb3⟩
    have hl3 := hl2.below hb3
    replace hb3 := hb2.trans (hb3.mono (by simp; omega))
    have hcl := hl3.cell
    go_wp2_with fail
    go_ret
    exact ⟨rfl, hB ▸ hb3⟩
  | some l =>
    have hp' := hid (profile_some hp)
    have hplen := prof_length hp
    have HP := hid hp
    by_cases hl0 : l = []
    · subst hl0
      have d1 := prof_empty_when _ hp
      simp only at d1
      have x1 : (D == 0) = true := by simp [d1]
      clear hp d1
      refine Calls.mono (hp'.out _) ?_; rintro e w3 ⟨⟨Ao, c, rfl, ho⟩, hb3⟩
      replace hb3 := hb2.trans (hb3.mono (by simp; omega))
      clear ho
      go_wp2_with fail
      go_ret
      exact ⟨rfl, hB ▸ hb3⟩
    · obtain ⟨n, hn⟩ : ∃ n, l.length = n := ⟨_, rfl⟩
      have hn0 : 0 < n := by have := List.length_pos_iff.2 hl0; omega
      have hnm : n ≤ 122 := by simp only at hplen; omega
      clear hp hplen hl0
      have hq := hp'.out
      rw [hn] at hq
      refine Calls.mono (hq _) ?_; rintro e w3 ⟨⟨Ao, c, rfl, ho⟩, hb3⟩
      obtain ⟨P, rfl, hP1, hP2, hnc⟩ := own_some ho hn0
      have hl3 := hl2.below hb3
      replace hb3 := hb2.trans (hb3.mono (by simp; omega))
      have hLP : L < P := by have := hl2.lt; omega
      have hr3 := Rd.of_own ho
      obtain ⟨M, hM⟩ : ∃ M, w3.heap.size = M := ⟨_, rfl⟩
      rw [hM] at hr3
      obtain ⟨i, hi⟩ : ∃ i : Nat, at_ % (n : Int) = i := ⟨(at_ % (n : Int)).toNat, by have := Int.emod_nonneg at_ (show (n : Int) ≠ 0 by omega); omega⟩
      obtain ⟨j, hj⟩ : ∃ j : Nat, to_ % (n : Int) = j := ⟨(to_ % (n : Int)).toNat, by have := Int.emod_nonneg to_ (show (n : Int) ≠ 0 by omega); omega⟩
      have hin : i < n := by have := Int.emod_lt_of_pos at_ (show 0 < (n : Int) by omega); omega
      have hjn : j < n := by have := Int.emod_lt_of_pos to_ (show 0 < (n : Int) by omega); omega
      have e2 : at_.tmod (n : Int) = i := by rw [Int.tmod_eq_emod_of_nonneg ha.1]; exact hi
      have e3 : to_.tmod (n : Int) = j := by rw [Int.tmod_eq_emod_of_nonneg ht.1]; exact hj
      have hnz : ((n : Int) == 0) = false := by simp; omega
      clear ho hq hl2 hb2
      have HK := hid hk0
      go_wp2_with (at_builtin; refine stop_app _ _ _ rfl ?_)
      obtain ⟨i0, hi0, hz0, hz1, hz2⟩ := info3
      have hA3 : Below M w3 (w3.alloc (Obj.cells #[] 3)) := Below.alloc (Below.refl _ _) (by omega) _
      have on3 : (w3.alloc (Obj.cells #[] 3)).ownsRow M 3 1 (.slice (some ⟨M, 0, none⟩) 0 0) 0 (ints []) := by have := own_new w3 M 3 (by omega); rw [hM] at this; exact this
      have hrt := (hr3.below hA3).take (k := i) (by omega)
      rw [ints_take] at hrt
      refine unstop (wpList_append_rd _ rfl _ _ 44 rfl M 3 i0 _ 1 8 Try.underlying44 hi0 hz0 hz1 hz2 rfl (by omega) _ 0 (ints []) rfl on3 M (some ⟨P, 0, none⟩) i c (ints (l.take i)) rfl hrt (ints_one _) (by simp [maxLen]; omega) (by omega) (by simp; omega) ?_)
      intro A4 c4 w4 o4 g4 _
      rw [ints_app, List.nil_append, Nat.zero_add] at o4
      have hB4 : Below M w3 w4 := hA3.trans (grownOwn g4 on3 (Nat.le_refl _) (by simp; omega))
      rw [Nat.zero_add]
      clear g4 hA3 hrt
      go_wp2_with (at_builtin; refine stop_app _ _ _ rfl ?_)
      all_goals
        have hr4 := hr3.below hB4
        have hcut := hr4.cut (k := i + 1) (cap := c) (by omega) hnc
        rw [ints_drop] at hcut
        first | rw [if_pos (by assumption)] at hcut | rw [if_neg (by assumption)] at hcut
        refine unstop (wpList_append_rd _ rfl _ _ 44 rfl M 3 i0 _ 1 8 Try.underlying44 hi0 hz0 hz1 hz2 rfl (by omega) (.slice A4 i c4) i (ints (l.take i)) rfl o4 M _ (n - (i + 1)) _ (ints (l.drop (i + 1))) rfl (by simpa [Addr.add] using hcut) (ints_one _) (by simp [maxLen]; omega) (by omega) (by have := hB4.size; omega) ?_)
        intro A5 c5 w5 o5 g5 _
        have en : i + (n - (i + 1)) = n - 1 := by omega
        rw [ints_app, en] at o5
        rw [en]
        have hB5 : Below M w3 w5 := hB4.trans (grownOwn g5 o4 (Nat.le_refl _) (by have := hB4.size; omega))
        obtain ⟨M2, hM2⟩ : ∃ M2, w5.heap.size = M2 := ⟨_, rfl⟩
        have hMM2 : M ≤ M2 := by have := hB5.size; omega
        have rl5 := Rd.of_own o5
        rw [hM2] at rl5
        have hA6 : Below M2 w5 (w5.alloc (Obj.cells #[] 3)) := Below.alloc (Below.refl _ _) (by omega) _
        have on5 : (w5.alloc (Obj.cells #[] 3)).ownsRow M2 3 1 (.slice (some ⟨M2, 0, none⟩) 0 0) 0 (ints []) := by have := own_new w5 M2 3 (by omega); rw [hM2] at this; exact this
        have hr5 := hr3.below hB5
        have hr5' := (hr5.wider hMM2).below hA6
        clear hcut g5 o4 hB4 hr4
        go_wp2_with (at_builtin; refine stop_app _ _ _ rfl ?_)
        refine unstop (wpList_append_rd _ rfl _ _ 44 rfl M2 3 i0 _ 1 8 Try.underlying44 hi0 hz0 hz1 hz2 rfl (by omega) _ 0 (ints []) rfl on5 M2 (some ⟨P, 0, none⟩) n _ (ints l) rfl hr5' (ints_one _) (by simp [maxLen]; omega) (by omega) (by simp; omega) ?_)
        intro A6 c6 w6 o6 g6 _
        rw [ints_app, List.nil_append, Nat.zero_add] at o6
        have hB6 : Below M2 w5 w6 := hA6.trans (grownOwn g6 on5 (Nat.le_refl _) (by simp; omega))
        rw [Nat.zero_add]
        obtain ⟨P6, rfl, hP61, hP62, hc6⟩ := own_some o6 hn0
        have hr6 := (hr5.wider hMM2).below hB6
        obtain ⟨xi, hxi⟩ : ∃ x, l[i]? = some x := ⟨_, List.getElem?_eq_getElem (by omega)⟩
        obtain ⟨xj, hxj⟩ : ∃ x, l[j]? = some x := ⟨_, List.getElem?_eq_getElem (by omega)⟩
        have hPi : ∀ (k : Nat) (x : Int), l[k]? = some x → w6.cell? ⟨P, k, none⟩ = some (.int .i64 x) := by
          intro k x hk
          obtain ⟨_, hd⟩ := hr6
          obtain ⟨b, off, he, hlt, hc⟩ := hd (by omega)
          injection he with he
          injection he with he1 he2 he3
          subst he1 he2
          have := hc k (.int .i64 x) (by rw [ints_get, hk]; rfl)
          rwa [Nat.zero_add] at this
        have cj := hPi j xj hxj
        have ci := hPi i xi hxi
        have c6i := own_cell o6 (i := i) (by rw [ints_get, hxi]; rfl)
        have c6j := own_cell o6 (i := j) (by rw [ints_get, hxj]; rfl)
        have f6i := own_frozen o6 i
        have f6j := own_frozen o6 j
        have hPP : P < P6 := by omega
        have hPP' : P ≠ P6 := by omega
        have o7 := own_put o6 i (.int .i64 xj)
        have c7j : (w6.setCell ⟨P6, i, none⟩ (.int .i64 xj)).cell? ⟨P6, j, none⟩ = some (.int .i64 xj) := by
          refine own_cell o7 ?_
          rw [List.getElem?_set]
          split
          · rw [if_pos (by rw [ints_length]; omega)]
          · rw [ints_get, hxj]; rfl
        have o8 := own_put o7 j (.int .i64 xi)
        have oset : ((ints l).set i (.int .i64 xj)).set j (.int .i64 xi) = ints ((l.set i xj).set j xi) := by simp [ints, List.map_set]
        rw [oset] at o8
        clear g6 on5 hA6 hr5' hPi oset
        obtain ⟨M3, hM3⟩ : ∃ M3, w6.heap.size = M3 := ⟨_, rfl⟩
        have hB8 := hB6.trans (belowSet (o := j) (belowSet (o := i) (Below.refl M2 w6) hP61 (.int .i64 xj)) hP61 (.int .i64 xi))
        go_wp2_with (at_builtin; refine stop_app _ _ _ rfl ?_)
        have hM3' : ((w6.setCell ⟨P6, i, none⟩ (.int .i64 xj)).setCell ⟨P6, j, none⟩ (.int .i64 xi)).heap.size = M3 := by simp; exact hM3
        generalize (w6.setCell ⟨P6, i, none⟩ (.int .i64 xj)).setCell ⟨P6, j, none⟩ (.int .i64 xi) = w8 at *
        clear c7j o7 c6i c6j f6i f6j o6 hB6 hr6 hM3
        have hM23 : M2 ≤ M3 := by have := hB8.size; omega
        have rl8 := (rl5.below hB8).wider hM23
        have rt8 := Rd.of_own o8
        rw [hM3'] at rt8
        have hr8 := ((hr5.wider hMM2).below hB8).wider hM23
        have hA9 : Below M3 w8 (w8.alloc (Obj.cells #[] 3)) := Below.alloc (Below.refl _ _) (by omega) _
        have on8 : (w8.alloc (Obj.cells #[] 3)).ownsRow M3 3 1 (.slice (some ⟨M3, 0, none⟩) 0 0) 0 (ints []) := by have := own_new w8 M3 3 (by omega); rw [hM3'] at this; exact this
        refine unstop (wpList_append_rd _ rfl _ _ 44 rfl M3 3 i0 _ 1 8 Try.underlying44 hi0 hz0 hz1 hz2 rfl (by omega) _ 0 (ints []) rfl on8 M3 (some ⟨P, 0, none⟩) n _ (ints l) rfl (hr8.below hA9) (ints_one _) (by simp [maxLen]; omega) (by omega) (by simp; omega) ?_)
        intro A9 c9 w9 o9 g9 _
        rw [ints_app, List.nil_append, Nat.zero_add] at o9
        have hB9 : Below M3 w8 w9 := hA9.trans (grownOwn g9 on8 (Nat.le_refl _) (by simp; omega))
        rw [Nat.zero_add]
        obtain ⟨P9, rfl, hP91, hP92, hc9⟩ := own_some o9 hn0
        have hl9 := (((hl3.at_ hB5 (by omega)).at_ hB8 (by omega)).at_ hB9 (by omega))
        have rl9 := rl8.below hB9
        have rt9 := rt8.below hB9
        have hr9 := hr8.below hB9
        have hB9' : Below B w w9 := ((hb3.trans (hB5.mono (by omega))).trans (hB8.mono (by omega))).trans (hB9.mono (by omega))
        clear rl8 rt8 hr8 hA9 on8 g9 hB8 hB5 hB9 hr5 rl5 o8 o5
        have hcl := hl9.cell
        have f9 := own_frozen o9 i
        have c9i := own_cell o9 (i := i) (by rw [ints_get, hxi]; rfl)
        obtain ⟨r, hr⟩ : ∃ r : Int, to_ % (2 * J + 1) = r := ⟨_, rfl⟩
        have hr0 : 0 ≤ r := by rw [← hr]; exact Int.emod_nonneg _ (by omega)
        have hr1 : r < 2 * J + 1 := by rw [← hr]; exact Int.emod_lt_of_pos _ (by omega)
        have e4 : to_.tmod (2 * J + 1) = r := by rw [Int.tmod_eq_emod_of_nonneg ht.1]; exact hr
        have hwj : wrap64 (2 * J) = 2 * J := w64 (by omega) (by omega)
        have hwj1 : wrap64 (2 * J + 1) = 2 * J + 1 := w64 (by omega) (by omega)
        have hwr : wrap64 (r - J) = r - J := w64 (by omega) (by omega)
        have hjz : (2 * J + 1 == 0) = false := by simp; omega
        have hjz2 : ¬ (2 * J + 1 = 0) := by omega
        have hjz3 : decide (2 * J + 1 = 0) = false := by simp; omega
        have kw : ∀ x, IntKind.i64.wrap x = wrap64 x := fun x => by rw [IntKind.wrap_i64]; unfold wrap64; first | rfl | omega
        have kk1 : IntKind.i64.wrap (2 * J) = 2 * J := by rw [kw]; exact hwj
        have kk2 : IntKind.i64.wrap (2 * J + 1) = 2 * J + 1 := by rw [kw]; exact hwj1
        have kk3 : IntKind.i64.wrap to_ = to_ := by rw [kw]; exact w64 (by omega) (by omega)
        have kk4 : IntKind.i64.wrap (r - J) = r - J := by rw [kw]; exact hwr
        clear kw
        go_wp2_with fail
        go_still_tail 13, (by kernel_rfl)
        change wpList _ _ _ _ _ w9.drew
        have hl10 : Blk w9.drew L 27 _ := hl9
        have o10 : w9.drew.ownsRow M3 3 1 _ n (ints l) := o9
        have rl10 : Rd w9.drew M3 1 _ (n - 1) _ := rl9
        have rt10 : Rd w9.drew M3 1 _ n _ := rt9
        have hr10 : Rd w9.drew M3 1 _ n _ := hr9
        have hB10 := belowDrew hB9'
        have hP92' : P9 < w9.drew.heap.size := hP92
        have hM310 : M3 ≤ w9.drew.heap.size := Nat.le_trans hP91 (Nat.le_of_lt hP92)
        clear hl9 o9 rl9 rt9 hr9 hB9' hcl f9 c9i hP92
        generalize w9.drew = w10 at *
        have f10 := own_frozen o10 i
        have c10i := own_cell o10 (i := i) (by rw [ints_get, hxi]; rfl)
        have hcl10 := hl10.cell
        have hLP9 : L < P9 := by omega
        have hLP9' : L ≠ P9 := by omega
        have o11 := own_put o10 i (.int .i64 (r - J))
        rw [show (ints l).set i (.int .i64 (r - J)) = ints (l.set i (r - J)) by simp [ints, List.map_set]] at o11
        have hl11 := hl10.setOther (c := P9) i (.int .i64 (r - J)) hLP9'
        have hS11 : Below M3 w10 (w10.setCell ⟨P9, i, none⟩ (.int .i64 (r - J))) := belowSet (Below.refl _ _) hP91 _
        have hsz : (w10.setCell ⟨P9, i, none⟩ (.int .i64 (r - J))).heap.size = w10.heap.size := by simp
        have rl11 := (rl10.below hS11).wider (hsz ▸ hM310)
        have rt11 := (rt10.below hS11).wider (hsz ▸ hM310)
        have hr11 := (hr10.below hS11).wider (hsz ▸ hM310)
        have ro11 := Rd.of_own o11
        have hB11 := belowSet (b := P9) (o := i) hB10 (by omega) (.int .i64 (r - J))
        have hB11s : B ≤ (w10.setCell ⟨P9, i, none⟩ (.int .i64 (r - J))).heap.size := by rw [hsz]; omega
        -- what is claimed of the three
        obtain ⟨hokk, hbest⟩ := prof_some HP.out
        have hlen3 : (l.set i (r - J)).length = n := by rw [List.length_set]; exact hn
        have hlen2 : ((l.set i xj).set j xi).length = n := by rw [List.length_set, List.length_set]; exact hn
        have hlen1 : (l.take i ++ l.drop (i + 1)).length = n - 1 := by rw [List.length_append, List.length_take, List.length_drop]; omega
        have L1 : leadsB ⟨V, A, J, D⟩ Mo.zero (l.take i ++ l.drop (i + 1)) = false := by
          rw [Bool.eq_false_iff]
          intro h
          have := hbest.short _ ((leadsB_iff _ _ _).1 h)
          omega
        have L2 := hbest.least ((l.set i xj).set j xi)
        have L3 := hbest.least (l.set i (r - J))
        rw [← leadsB_iff] at L2 L3
        have H2 := hid (fun h => L2 h (by omega))
        have H3 := hid (fun h => L3 h (by omega))
        have HL1 := hid L1
        clear L1 L2 L3 hbest hl10 o10 rl10 rt10 hr10 hB10 hS11 o11 hokk hlen1 hlen2 hlen3
        go_wp2_with fail
        refine Calls.mono (leads_any V A J D (l.take i ++ l.drop (i + 1)) A5 (n - 1) c5 hok _ rl11 (by omega)) ?_; rintro e w12 ⟨rfl, b12⟩
        rw [HL1.out]
        have hl12 := hl11.below b12
        have rt12 := (rt11.below b12).wider b12.size
        have hr12 := (hr11.below b12).wider b12.size
        have ro12 := (ro11.below b12).wider b12.size
        have hB12 := hB11.trans (b12.mono hB11s)
        have hB12s : B ≤ w12.heap.size := by have := hB12.size; omega
        clear hl11 rt11 hr11 ro11 hB11 b12 rl11 hcl10 hsz
        have hcl12 := hl12.cell
        go_wp2_with fail
        refine Calls.mono (leads_any V A J D ((l.set i xj).set j xi) (some ⟨P6, 0, none⟩) n c6 hok _ rt12 (by omega)) ?_; rintro e w13 ⟨rfl, b13⟩
        have hl13 := hl12.below b13
        have rt13 := (rt12.below b13).wider b13.size
        have hr13 := (hr12.below b13).wider b13.size
        have ro13 := (ro12.below b13).wider b13.size
        have hB13 := hB12.trans (b13.mono hB12s)
        have hB13s : B ≤ w13.heap.size := by have := hB13.size; omega
        clear hl12 rt12 hr12 ro12 hB12 b13 hcl12
        have hcl13 := hl13.cell
        cases hb2 : leadsB ⟨V, A, J, D⟩ Mo.zero ((l.set i xj).set j xi) with
        | false =>
          go_wp2_with fail
          refine Calls.mono (leads_any V A J D (l.set i (r - J)) (some ⟨P9, 0, none⟩) n c9 hok _ ro13 (by omega)) ?_; rintro e w15 ⟨rfl, b15⟩
          have hl15 := hl13.below b15
          have ro15 := (ro13.below b15).wider b15.size
          have hr15 := (hr13.below b15).wider b15.size
          have hB15 := hB13.trans (b15.mono hB13s)
          clear b15
          cases hb3 : leadsB ⟨V, A, J, D⟩ Mo.zero (l.set i (r - J)) with
          | false =>
            go_wp2_with fail
            go_ret
            exact ⟨rfl, hB ▸ hB15⟩
          | true =>
            have hless3 := H3.out hb3
            go_wp2_with fail
            refine Calls.mono (less_any (l.set i (r - J)) l (some ⟨P9, 0, none⟩) (some ⟨P, 0, none⟩) n c9 n _ _ ro15 hr15 (by omega) (by omega)) ?_; rintro e w16 ⟨rfl, b16⟩
            rw [hless3]
            have hB16 := hB15.trans (b16.mono (by have := hB15.size; omega))
            go_wp2_with fail
            go_ret
            exact ⟨rfl, hB ▸ hB16⟩
        | true =>
          have hless2 := H2.out hb2
          go_wp2_with fail
          refine Calls.mono (less_any ((l.set i xj).set j xi) l (some ⟨P6, 0, none⟩) (some ⟨P, 0, none⟩) n c6 n _ _ rt13 hr13 (by omega) (by omega)) ?_; rintro e w14 ⟨rfl, b14⟩
          rw [hless2]
          have hl14 := hl13.below b14
          have hr14 := (hr13.below b14).wider b14.size
          have ro14 := (ro13.below b14).wider b14.size
          have hB14 := hB13.trans (b14.mono hB13s)
          have hB14s : B ≤ w14.heap.size := by have := hB14.size; omega
          clear hl13 rt13 hr13 ro13 hB13 b14 hcl13
          have hcl14 := hl14.cell
          go_wp2_with fail
          refine Calls.mono (leads_any V A J D (l.set i (r - J)) (some ⟨P9, 0, none⟩) n c9 hok _ ro14 (by omega)) ?_; rintro e w15 ⟨rfl, b15⟩
          have hl15 := hl14.below b15
          have ro15 := (ro14.below b15).wider b15.size
          have hr15 := (hr14.below b15).wider b15.size
          have hB15 := hB14.trans (b15.mono hB14s)
          clear b15
          cases hb3 : leadsB ⟨V, A, J, D⟩ Mo.zero (l.set i (r - J)) with
          | false =>
            go_wp2_with fail
            go_ret
            exact ⟨rfl, hB ▸ hB15⟩
          | true =>
            have hless3 := H3.out hb3
            go_wp2_with fail
            refine Calls.mono (less_any (l.set i (r - J)) l (some ⟨P9, 0, none⟩) (some ⟨P, 0, none⟩) n c9 n _ _ ro15 hr15 (by omega) (by omega)) ?_; rintro e w16 ⟨rfl, b16⟩
            rw [hless3]
            have hB16 := hB15.trans (b16.mono (by have := hB15.size; omega))
            go_wp2_with fail
            go_ret
            exact ⟨rfl, hB ▸ hB16⟩
end Go.Proofs.Ytmpafnhaigfopaa
