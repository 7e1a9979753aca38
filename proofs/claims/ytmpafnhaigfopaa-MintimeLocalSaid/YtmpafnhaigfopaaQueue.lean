/- A queue: a slice of the call's own that begins anywhere in its row: appended to at its end, cut at its head. -/
import Derived.Test.YtmpafnhaigfopaaLib2
set_option linter.unusedSimpArgs false
set_option linter.unusedVariables false
namespace Go.Proofs.Ytmpafnhaigfopaa
open Go.RowKit

/-- The slice '.slice (some ⟨g, off⟩) n cap' is the call's own (its row lies from base on) and holds the cells xs. -/
structure Qu (w : World) (base : Nat) (e : TypeId) (size g off n cap : Nat) (xs : List Value) : Prop where
  len : xs.length = n * size
  fit : n ≤ cap
  most : cap ≤ maxLen
  low : base ≤ g
  row : ∃ cur, w.heap[g]? = some (.cells cur e (0, 0)) ∧ off + cap * size ≤ cur.size ∧ (cur.toList.drop off).take (n * size) = xs

section
variable {w w' : World} {base : Nat} {e : TypeId} {size g off n cap : Nat} {xs : List Value}
theorem Qu.lt (h : Qu w base e size g off n cap xs) : g < w.heap.size := by
  obtain ⟨cur, hg, _⟩ := h.row; exact (Array.getElem?_eq_some_iff.1 hg).1
theorem Qu.keep (h : Qu w base e size g off n cap xs) (hb : w'.heap[g]? = w.heap[g]?) : Qu w' base e size g off n cap xs :=
  ⟨h.len, h.fit, h.most, h.low, by rw [hb]; exact h.row⟩
theorem Qu.below (h : Qu w base e size g off n cap xs) (hb : Below w.heap.size w w') : Qu w' base e size g off n cap xs := h.keep (hb.block g h.lt)
theorem Qu.grown {r : Option Nat} (h : Qu w base e size g off n cap xs) (hb : w.grownBy w' r) (hne : r ≠ some g) : Qu w' base e size g off n cap xs := h.keep (hb.block g h.lt (Ne.symm hne))
theorem Qu.alloc (h : Qu w base e size g off n cap xs) (o : Obj) : Qu (w.alloc o) base e size g off n cap xs := h.keep (Below.heap_alloc _ _ _ h.lt)
theorem Qu.set (h : Qu w base e size g off n cap xs) {b o : Nat} (hne : g ≠ b) (v : Value) : Qu (w.setCell ⟨b, o, none⟩ v) base e size g off n cap xs := h.keep (Below.heap_setCell _ _ _ _ hne)
theorem Qu.ne_blk (h : Qu w base e size g off n cap xs) {b : Nat} {t : TypeId} {cs : List Value} (hb : Blk w b t cs) (hte : e ≠ t) : g ≠ b := by
  rintro rfl
  obtain ⟨cur, hg, _⟩ := h.row
  unfold Blk at hb
  rw [hg] at hb
  injection hb with hb
  injection hb with _ ht
  exact hte ht
theorem Qu.cell (h : Qu w base e size g off n cap xs) {j : Nat} {u : Value} (hu : xs[j]? = some u) : w.cell? ⟨g, off + j, none⟩ = some u := by
  obtain ⟨cur, hg, _, ht⟩ := h.row
  have hc : w.cell? ⟨g, off + j, none⟩ = cur[off + j]? := by simp [World.cell?, hg]
  rw [hc]
  rw [← ht, List.getElem?_take] at hu
  split at hu
  · rw [List.getElem?_drop] at hu; simpa using hu
  · cases hu
theorem Qu.new (w : World) (base : Nat) (e : TypeId) (size : Nat) (cs : List Value) (n : Nat) (hb : base ≤ w.heap.size) (hl : cs.length = n * size) (hm : n ≤ maxLen) : Qu (w.alloc (.cells cs.toArray e)) base e size w.heap.size 0 n n cs :=
  ⟨hl, Nat.le_refl _, hm, hb, cs.toArray, heap_alloc_new w _, by simp [hl], by simp [← hl]⟩
/-- The head is cut off. -/
theorem Qu.tail (h : Qu w base e size g off n cap xs) (hn : 0 < n) : Qu w base e size g (if cap = 1 then off else off + size) (n - 1) (cap - 1) (xs.drop size) := by
  have hle : size ≤ n * size := Nat.le_mul_of_pos_left _ hn
  obtain ⟨cur, hg, hfit, ht⟩ := h.row
  refine ⟨by rw [List.length_drop, h.len, Nat.sub_mul]; simp, by have := h.fit; omega, by have := h.most; omega, h.low, cur, hg, ?_, ?_⟩
  · by_cases hc : cap = 1
    · subst hc; simp; simp at hfit; omega
    · rw [if_neg hc]
      have : (cap - 1) * size + size = cap * size := by rw [Nat.sub_mul]; have := h.fit; have hh : size ≤ cap * size := Nat.le_trans hle (Nat.mul_le_mul_right _ this); omega
      omega
  · by_cases hc : cap = 1
    · have hn1 : n = 1 := by have := h.fit; omega
      subst hn1
      have : xs.drop size = [] := List.drop_eq_nil_of_le (by rw [h.len]; simp)
      rw [this]; simp
    · rw [if_neg hc, ← ht, List.drop_take, List.drop_drop, Nat.sub_mul]; simp
end

section
variable {P : Program} {w : World}
theorem growCap_ok (need old : Nat) (e : TypeId) (h : need ≤ maxLen) : need ≤ grownCap w need old e ∧ grownCap w need old e ≤ maxLen := ⟨grownCap_ge _ _ _ _, grownCap_le_maxLen _ _ _ _ h⟩

/-- An append to such a slice: in its row where there is room, else in a new one. -/
theorem run_append_q {base : Nat} {t ty e : TypeId} {i : TypeInfo} {z : Value} {size bytes : Nat} (ht : P.underlying t = some (.slice e)) (hi : P.info? e = some i) (hz : i.zero = some z)
    (hsize : i.size = size) (hby : i.bytes = bytes) (hzs : z.cells.size = size)
    {g off n cap : Nat} {xs : List Value} (hq : Qu w base e size g off n cap xs)
    {b o m c : Nat} {news : List Value} (hl : news.length = m * size) (hnews : ∀ j u, news[j]? = some u → w.cell? ⟨b, o + j, none⟩ = some u) (h1 : ∀ u ∈ news, u.oneCell' = true)
    (h63 : n + m ≤ maxLen) (hbytes : (n + m) * bytes ≤ 140737488355328) (hbase : base ≤ w.heap.size) :
    ∃ g' off' cap' w', (Builtin.append_ #[t, t] ty #[.slice (some ⟨g, off, none⟩) n cap, .slice (some ⟨b, o, none⟩) m c]).run P w = .ok (.slice (some ⟨g', off', none⟩) (n + m) cap') w' ∧
      Qu w' base e size g' off' (n + m) cap' (xs ++ news) ∧ w.grownBy w' (some g) ∧ (g' = g ∨ g' = w.heap.size) := by
  subst hsize
  subst hby
  have hsmall : n + m ≤ 9223372036854775807 := by simp only [maxLen] at h63; omega
  have hlen : (xs ++ news).length = (n + m) * i.size := by rw [List.length_append, hq.len, hl, Nat.add_mul]
  have add_lit : ∀ (b o j : Nat), (⟨b, o, none⟩ : Addr).add j = ⟨b, o + j, none⟩ := by intro b o j; unfold Addr.add; split <;> simp_all
  have hn' : ∀ j u, news[j]? = some u → w.cell? ((⟨b, o, none⟩ : Addr).add j) = some u := fun j u h => by rw [add_lit]; exact hnews j u h
  by_cases hroom : n + m ≤ cap
  · obtain ⟨cur, hg, hfit, htk⟩ := hq.row
    have hf := run_firstCells_some (P := P) w i.size m ⟨b, o, none⟩ m c news hl hn'
    have hmul : (n + m) * i.size ≤ cap * i.size := Nat.mul_le_mul_right _ hroom
    have hst := run_storeCells_at P g (off + n * i.size) e news 0 cur w hg (by rw [hl]; rw [Nat.add_mul] at hmul; omega) h1
    simp only [Nat.add_zero] at hst
    refine ⟨g, off, cap, w.setRow g (cur.toList.take (off + n * i.size) ++ news ++ cur.toList.drop (off + n * i.size + news.length)).toArray, ?_, ?_, ⟨rfl, rfl, rfl, by simp, fun k _ hk => setRow_other w g k _ (fun e => hk (by simp [e]))⟩, .inl rfl⟩
    · simp [Builtin.append_, run_underlying ht, sizeOf, typeInfo, hi, Builtin.lenOf, hroom, hf, Addr.add_lit, hst]
    · refine ⟨hlen, hroom, hq.most, hq.low, _, setRow_heap w g cur _ e _ hg, ?_, ?_⟩
      · simp only [List.size_toArray, List.length_append, List.length_take, List.length_drop, Array.length_toList]
        rw [hl]; rw [Nat.add_mul] at hmul; omega
      · have hxl := hq.len
        have hcl : cur.toList.length = cur.size := Array.length_toList
        rw [Nat.add_mul] at hmul
        have e1 : (cur.toList.take (off + n * i.size)).drop off = xs := by rw [List.drop_take, show off + n * i.size - off = n * i.size by omega]; exact htk
        have e2 : ((cur.toList.take (off + n * i.size) ++ news ++ cur.toList.drop (off + n * i.size + news.length)).toArray.toList).drop off = xs ++ news ++ cur.toList.drop (off + n * i.size + news.length) := by
          rw [List.toList_toArray, List.append_assoc, List.drop_append_of_le_length (by rw [List.length_take, hcl]; omega), e1, List.append_assoc]
        rw [e2, ← hlen]
        exact List.take_left
  · have holds : ∀ j u, xs[j]? = some u → w.cell? ((⟨g, off, none⟩ : Addr).add j) = some u := fun j u h => by rw [add_lit]; exact hq.cell h
    have hr := run_append_grow (P := P) w t ty e i z ht hi hz ⟨g, off, none⟩ n cap xs hq.len holds ⟨b, o, none⟩ m c news hl hn' (by omega) (by omega) (growslice_fits (by omega) hbytes)
    obtain ⟨hge, hcm⟩ := growCap_ok (w := w) (n + m) cap e h63
    refine ⟨w.heap.size, 0, _, _, hr, ⟨hlen, hge, hcm, hbase, _, heap_alloc_new w.drew _, ?_, ?_⟩, ⟨rfl, rfl, rfl, by simp, fun k hk _ => Below.heap_alloc w.drew _ k hk⟩, .inr rfl⟩
    · simp only [Array.size_append, List.size_toArray, size_zeroCells, hzs, hq.len, hl, ← Nat.add_mul, Nat.zero_add]
      exact Nat.mul_le_mul_right _ (by omega)
    · simp only [Array.toList_append, List.append_assoc, List.drop_zero]
      rw [← List.append_assoc, ← hlen]
      exact List.take_left

theorem wpList_append_q {ops : Array Oper} {rest : List Oper} {o' : Oper} {a : Act} {Q : Exit → Act → World → Prop} (hgd : o'.guard = none) (s x : Operand) (t : TypeId)
    (ho : o'.op = .call { callee := .builtin .append, args := #[s, x], argTypes := #[t, t] })
    (base : Nat) (e : TypeId) (i : TypeInfo) (z : Value) (size bytes : Nat) (ht : P.underlying t = some (.slice e)) (hi : P.info? e = some i) (hz : i.zero = some z)
    (hsize : i.size = size) (hby : i.bytes = bytes) (hzs : z.cells.size = size)
    (g off n cap : Nat) (xs : List Value) (hs : a.eval s = .slice (some ⟨g, off, none⟩) n cap) (hq : Qu w base e size g off n cap xs)
    (b o m c : Nat) (news : List Value) (hx : a.eval x = .slice (some ⟨b, o, none⟩) m c) (hl : news.length = m * size) (hnews : ∀ j u, news[j]? = some u → w.cell? ⟨b, o + j, none⟩ = some u) (h1 : ∀ u ∈ news, u.oneCell' = true)
    (h63 : n + m ≤ maxLen) (hbytes : (n + m) * bytes ≤ 140737488355328) (hbase : base ≤ w.heap.size)
    (h : ∀ g' off' cap' w', Qu w' base e size g' off' (n + m) cap' (xs ++ news) → w.grownBy w' (some g) → (g' = g ∨ g' = w.heap.size) → wpList P ops Q rest (a.put o'.dst (.slice (some ⟨g', off', none⟩) (n + m) cap')) w') : wpList P ops Q (o' :: rest) a w := by
  refine wpList_plain hgd fun K hK => ?_
  obtain ⟨g', off', cap', w', hrun, h2, h3, h4⟩ := run_append_q (P := P) (w := w) (t := t) (ty := o'.type) ht hi hz hsize hby hzs hq hl hnews h1 h63 hbytes hbase (c := c)
  unfold Oper.wp execOp
  simp only [ho, resolve, invoke, builtin, Sem.run_bind, Sem.run_pure, Result.andThen_ok, List.map_toArray, List.map_cons, List.map_nil, hs, hx, hrun]
  exact hK _ _ (h g' off' cap' w' h2 h3 h4)
end
end Go.Proofs.Ytmpafnhaigfopaa
