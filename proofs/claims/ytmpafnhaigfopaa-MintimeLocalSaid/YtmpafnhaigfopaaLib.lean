/- Small laws on maps with integer keys: what a make, an insert and a look-up do in a world where the map's block is known. -/
import Derived.WalkKit
import Derived.WalkSpells
import Derived.WalkLawsBesides
import Derived.Maps.OwnOps
import Derived.MapKept
namespace Go.Proofs.Ytmpafnhaigfopaa
open Go.RowKit Go.MapKept

/-- The walk stops before an operation that a law of its own is for. -/
def Stop (p : Prop) : Prop := p
theorem stop {p : Prop} (h : Stop p) : p := h
theorem unstop {p : Prop} (h : p) : Stop p := h

theorem hid {p : Prop} (h : p) : Hid p := h

theorem belowAlloc {w w' : World} (h : Below w.heap.size w w') (o : Obj) : Below w.heap.size w (w'.alloc o) := h.alloc h.size o
theorem belowSet {B b o : Nat} {w w' : World} (h : Below B w w') (hB : B ≤ b) (v : Value) : Below B w (w'.setCell ⟨b, o, none⟩ v) := h.setCell hB v
theorem belowDrew {B : Nat} {w w' : World} (h : Below B w w') : Below B w w'.drew := h.drew
theorem belowAfter {w w' w'' : World} (h : Below w.heap.size w w') (h' : Below w'.heap.size w' w'') : Below w.heap.size w w'' := h.trans (h'.mono h.size)

theorem belowCell {w w' : World} {a : Addr} {v : Value} (hb : Below w.heap.size w w') (h : w.cell? a = some v) : w'.cell? a = some v := (hb.cell (World.block_lt_of_cell? w _ h)).trans h

theorem bcell {W w1 : World} (hb : Below W.heap.size W w1) : (∀ b o, b < W.heap.size → w1.cell? ⟨b, o, none⟩ = W.cell? ⟨b, o, none⟩) ∧ (∀ b o, b < W.heap.size → w1.frozen? ⟨b, o, none⟩ = W.frozen? ⟨b, o, none⟩) :=
  ⟨fun b o h => hb.cell (p := ⟨b, o, none⟩) h, fun b o h => hb.frozen (p := ⟨b, o, none⟩) h⟩

/-- A block whose cells are all known, none frozen. -/
def Blk (w : World) (b : Nat) (t : TypeId) (cs : List Value) : Prop := w.heap[b]? = some (.cells cs.toArray t (0, 0))

theorem Blk.cell {w : World} {b : Nat} {t : TypeId} {cs : List Value} (h : Blk w b t cs) (o : Nat) : w.cell? ⟨b, o, none⟩ = cs[o]? := by
  unfold Blk at h; simp [World.cell?, h]
theorem Blk.frozen {w : World} {b : Nat} {t : TypeId} {cs : List Value} (h : Blk w b t cs) (o : Nat) : w.frozen? ⟨b, o, none⟩ = false := by
  unfold Blk at h; simp [World.frozen?, h]
theorem Blk.lt {w : World} {b : Nat} {t : TypeId} {cs : List Value} (h : Blk w b t cs) : b < w.heap.size := (Array.getElem?_eq_some_iff.1 h).1
theorem Blk.set {w : World} {b : Nat} {t : TypeId} {cs : List Value} (h : Blk w b t cs) (o : Nat) (v : Value) : Blk (w.setCell ⟨b, o, none⟩ v) b t (cs.set o v) := by
  unfold Blk at *
  simp [World.setCell, Array.getElem?_modify, h]
theorem Blk.setOther {w : World} {b c : Nat} {t : TypeId} {cs : List Value} (h : Blk w b t cs) (o : Nat) (v : Value) (hne : b ≠ c) : Blk (w.setCell ⟨c, o, none⟩ v) b t cs := by
  unfold Blk at *
  rw [Below.heap_setCell _ _ _ _ (by simpa using hne)]; exact h
theorem Blk.alloc {w : World} {b : Nat} {t : TypeId} {cs : List Value} (h : Blk w b t cs) (o : Obj) : Blk (w.alloc o) b t cs := by
  have := h.lt
  unfold Blk at *
  rw [Below.heap_alloc _ _ _ this]; exact h
theorem Blk.alloc_iff (w : World) (o : Obj) (k : Nat) (t : TypeId) (cs : List Value) : Blk (w.alloc o) k t cs ↔ if k = w.heap.size then o = .cells cs.toArray t (0, 0) else Blk w k t cs := by
  unfold Blk
  rw [show (w.alloc o).heap[k]? = if k = w.heap.size then some o else w.heap[k]? from by show (w.heap.push o)[k]? = _; rw [Array.getElem?_push]]
  split <;> simp
theorem Blk.drew_iff (w : World) (k : Nat) (t : TypeId) (cs : List Value) : Blk w.drew k t cs ↔ Blk w k t cs := Iff.rfl
theorem Blk.new (w : World) (t : TypeId) (cs : List Value) : Blk (w.alloc (.cells cs.toArray t)) w.heap.size t cs := heap_alloc_new w _
theorem Blk.below {w w' : World} {b : Nat} {t : TypeId} {cs : List Value} (h : Blk w b t cs) (hb : Below w.heap.size w w') : Blk w' b t cs := by
  have := h.lt
  unfold Blk at *
  rw [hb.block b this]; exact h

theorem Blk.at_ {w w' : World} {b B : Nat} {t : TypeId} {cs : List Value} (h : Blk w b t cs) (hb : Below B w w') (hlt : b < B) : Blk w' b t cs := by
  unfold Blk at *
  rw [hb.block b hlt]; exact h
theorem Blk.grown {w w' : World} {b c : Nat} {t : TypeId} {cs : List Value} (h : Blk w b t cs) (hg : w.grownBy w' (some c)) (hne : b ≠ c) : Blk w' b t cs := by
  have := h.lt
  unfold Blk at *
  rw [hg.block b this (by simpa using hne)]; exact h

theorem Blk.kept {w w' : World} {b : Nat} {t : TypeId} {cs : List Value} {r : Option Nat} (h : Blk w b t cs) (hg : w.grownBy w' r) (hne : r ≠ some b) : Blk w' b t cs := by
  have := h.lt
  unfold Blk at *
  rw [hg.block b this (Ne.symm hne)]; exact h

theorem grownBelow {w w' : World} {B b : Nat} (h : w.grownBy w' (some b)) (hB : B ≤ b) (hs : B ≤ w.heap.size) : Below B w w' :=
  ⟨h.os, h.tape, h.output, h.size, fun k hk => h.block k (by omega) (by simp; omega)⟩
theorem grownRefl (w : World) (r : Option Nat) : w.grownBy w r := ⟨rfl, rfl, rfl, Nat.le_refl _, fun _ _ _ => rfl⟩
theorem grownTrans {a b c : World} {r : Option Nat} (h : a.grownBy b r) (h' : b.grownBy c r) : a.grownBy c r :=
  ⟨h'.os.trans h.os, h'.tape.trans h.tape, h'.output.trans h.output, Nat.le_trans h.size h'.size, fun k hk hn => (h'.block k (Nat.lt_of_lt_of_le hk h.size) hn).trans (h.block k hk hn)⟩
theorem grownSet {w w' : World} {b : Nat} (h : w.grownBy w' (some b)) (o : Nat) (v : Value) : w.grownBy (w'.setCell ⟨b, o, none⟩ v) (some b) :=
  grownTrans h ⟨rfl, rfl, rfl, by simp [World.setCell], fun k _ hn => Below.heap_setCell _ _ _ _ (by simpa using hn)⟩
theorem grownAlloc {w w' : World} {r : Option Nat} (h : w.grownBy w' r) (o : Obj) : w.grownBy (w'.alloc o) r := grownTrans h (World.grownBy_alloc _ _ _)
theorem grownDrew {w w' : World} {r : Option Nat} (h : w.grownBy w' r) : w.grownBy w'.drew r := ⟨h.os, h.tape, h.output, h.size, h.block⟩
theorem grownOfBelow {w w' : World} (r : Option Nat) (h : Below w.heap.size w w') : w.grownBy w' r := ⟨h.os, h.tape, h.output, h.size, fun k hk _ => h.block k hk⟩

theorem alloc_get (w : World) (o : Obj) (k : Nat) : (w.alloc o).heap[k]? = if k = w.heap.size then some o else w.heap[k]? := by
  show (w.heap.push o)[k]? = _
  rw [Array.getElem?_push]

/-- At a call the world is forgotten, but for some facts. -/
theorem calls_with {P : Program} {f : FuncId} {args : Array Value} {W : World} {R : Ending → World → Prop} (Φ : World → Prop) (hΦ : Φ W) (h : ∀ w0, Φ w0 → Calls P f args w0 R) : Calls P f args W R := h W hΦ

theorem exit_with {K : Act → World → Prop} {Q : Exit → Act → World → Prop} {a : Act} {W : World} (Φ : World → Prop) (hΦ : Φ W) (h : ∀ W', Φ W' → Exit.then K Q .normal a W') : Exit.then K Q .normal a W := h W hΦ
theorem ownKept {w w' : World} {base : Nat} {e : TypeId} {size : Nat} {v : Value} {n : Nat} {xs : List Value} (h : w.ownsRow base e size v n xs) (hb : Below w.heap.size w w') : w'.ownsRow base e size v n xs :=
  h.kept (grownOfBelow none hb) (by cases hv : v.ownBlock <;> simp)
theorem ownSet {w : World} {base : Nat} {e : TypeId} {size : Nat} {v : Value} {n b o : Nat} {xs : List Value} (h : w.ownsRow base e size v n xs) (hne : v.ownBlock ≠ some b) (u : Value) : (w.setCell ⟨b, o, none⟩ u).ownsRow base e size v n xs :=
  h.kept (grownSet (grownRefl w (some b)) o u) (.inr hne)

theorem wp_with {P : Program} {c : Code} {Q : Exit → Act → World → Prop} {a : Act} {W : World} (Φ : World → Prop) (hΦ : Φ W) (h : ∀ W', Φ W' → c.wp P Q a W') : c.wp P Q a W := h W hΦ

theorem ret_int {k : IntKind} {a b : Int} (h : a = b) : Ending.returned (.int k a) = .returned (.int k b) := by rw [h]
theorem ret_bool {a b : Bool} (h : a = b) : Ending.returned (.bool a) = .returned (.bool b) := by rw [h]
theorem ret_int_bool {k : IntKind} {a b : Int} {c d : Bool} (h : a = b) (h' : c = d) : Ending.returned (.tuple #[.int k a, .bool c]) = .returned (.tuple #[.int k b, .bool d]) := by rw [h, h']

/-- The entries of a map with integer keys. -/
def ents (q : IntKind) : List (Int × Value) → Nat → List MapEntry
  | [], _ => []
  | (k, v) :: r, n => ⟨.int q k, v, n⟩ :: ents q r (n + 1)

def findK (k : Int) : List (Int × Value) → Option Value
  | [] => none
  | (j, v) :: r => if k == j then some v else findK k r

theorem findNow_ents (q : IntKind) (k : Int) : ∀ (l : List (Int × Value)) (n i : Nat), ∃ r, Instr.findNow (.int q) (.int q k) (ents q l n) i = some r ∧ r.map (·.2) = findK k l
  | [], n, i => ⟨none, rfl, rfl⟩
  | (j, v) :: l, n, i => by
    by_cases h : k == j
    · exact ⟨some (i, v), by simp [ents, Instr.findNow, Instr.sameNow, h], by simp [findK, h]⟩
    · obtain ⟨r, hr, hf⟩ := findNow_ents q k l (n + 1) (i + 1)
      refine ⟨r, ?_, ?_⟩
      · simp only [ents, Instr.findNow, Instr.sameNow, if_true]
        simp only [h]
        exact hr
      · simp only [findK, h]
        exact hf

theorem run_lookup_ok {P : Program} {t K E : TypeId} {q : IntKind} {w : World} {r c : Nat} {k : Int} {z : Value} {l : List (Int × Value)} {n : Nat}
    (ht : P.underlying t = some (.map K E)) (hK : P.underlying K = some (.int q)) (hz : (zeroValue E).run P w = .ok z w) (hr : w.heap[r]? = some (.map (ents q l n).toArray c)) :
    (Instr.lookup t (.map (some r)) (.int q k) true).run P w = .ok (.tuple #[(findK k l).getD z, .bool (findK k l).isSome]) w := by
  obtain ⟨x, hx, hf⟩ := findNow_ents q k l n 0
  have hck : ∀ e, (Instr.checkKey e 10000 K (.int q k)).run P w = .ok () w := fun e => run_checkKey hK (by simp [IsKey]) e 9999
  simp only [Instr.lookup, Sem.run_bind, run_underlying ht, Result.andThen_ok, MapKept.run_getObj_map hr, hck, Instr.findKey, run_underlying hK, hx, Sem.run_pure]
  cases x with
  | none =>
    simp only [Option.map_none] at hf
    simp [Result.andThen_ok, hz, ← hf]
  | some p =>
    simp only [Option.map_some] at hf
    simp [← hf]

theorem setLast (h : Array Obj) (o o' : Obj) : (h.push o).setIfInBounds h.size o' = h.push o' := by
  refine Array.ext_getElem? fun i => ?_
  rw [Array.getElem?_setIfInBounds, Array.getElem?_push, Array.getElem?_push, Array.size_push]
  by_cases h1 : h.size = i
  · subst h1; simp
  · rw [if_neg h1, if_neg (Ne.symm h1), if_neg (Ne.symm h1)]

theorem run_insert_new {P : Program} {t K E : TypeId} {q : IntKind} {w : World} {k : Int} {v : Value} {l : List (Int × Value)} {c : Nat}
    (ht : P.underlying t = some (.map K E)) (hK : P.underlying K = some (.int q)) (hl : findK k l = none) (hc : c = l.length) :
    (Instr.mapUpdate t (.map (some w.heap.size)) (.int q k) v).run P (w.alloc (.map (ents q l 0).toArray c)) = .ok () (w.alloc (.map (ents q (l ++ [(k, v)]) 0).toArray (c + 1))) := by
  obtain ⟨x, hx, hf⟩ := findNow_ents q k l 0 0
  have hr : (w.alloc (.map (ents q l 0).toArray c)).heap[w.heap.size]? = some (.map (ents q l 0).toArray c) := heap_alloc_new w _
  have hck : ∀ e, (Instr.checkKey e 10000 K (.int q k)).run P (w.alloc (.map (ents q l 0).toArray c)) = .ok () (w.alloc (.map (ents q l 0).toArray c)) := fun e => run_checkKey hK (by simp [IsKey]) e 9999
  rw [hl] at hf
  have hx' : x = none := by cases x <;> simp_all
  subst hx'
  have he : ∀ (l : List (Int × Value)) (n : Nat), ents q (l ++ [(k, v)]) n = ents q l n ++ [⟨.int q k, v, n + l.length⟩] := by
    intro l
    induction l with
    | nil => intro n; simp [ents]
    | cons x l ih => intro n; obtain ⟨j, u⟩ := x; simp only [List.cons_append, ents, ih, List.length_cons]; congr 4; omega
  simp only [Instr.mapUpdate, Sem.run_bind, run_underlying ht, Result.andThen_ok, MapKept.run_getObj_map hr, hck, Instr.findKey, run_underlying hK, hx, Sem.run_pure, run_setObj_map _ hr]
  rw [he l 0]
  subst hc
  have hs : (w.alloc (.map (ents q l 0).toArray l.length)).heap.setIfInBounds w.heap.size (.map (ents q (l ++ [(k, v)]) 0).toArray (l.length + 1)) = (w.alloc (.map (ents q (l ++ [(k, v)]) 0).toArray (l.length + 1))).heap := setLast _ _ _
  rw [he l 0] at hs
  simp only [List.push_toArray, Nat.zero_add] at hs ⊢
  rw [hs]
  rfl

/-- The first insert into a new map, as the walk meets it. -/
theorem run_insert_at {P : Program} {t K E : TypeId} {q : IntKind} (l : List (Int × Value)) (ht : P.underlying t = some (.map K E)) (hK : P.underlying K = some (.int q)) (k : Int) (hl : findK k l = none) (c : Nat) (hc : c = l.length)
    (w : World) (r : Nat) (v : Value) (hr : r = w.heap.size) :
    (Instr.mapUpdate t (.map (some r)) (.int q k) v).run P (w.alloc (.map (ents q l 0).toArray c)) = .ok () (w.alloc (.map (ents q (l ++ [(k, v)]) 0).toArray (c + 1))) := by
  subst hr; exact run_insert_new ht hK hl hc

theorem run_lookup_at {P : Program} {t K E : TypeId} {q : IntKind} {z : Value} (l : List (Int × Value)) (c : Nat) (ht : P.underlying t = some (.map K E)) (hK : P.underlying K = some (.int q))
    (hz : ∀ w, (zeroValue E).run P w = .ok z w) (k : Int) (w : World) (r : Nat) (hr : r = w.heap.size) :
    (Instr.lookup t (.map (some r)) (.int q k) true).run P (w.alloc (.map (ents q l 0).toArray c)) = .ok (.tuple #[(findK k l).getD z, .bool (findK k l).isSome]) (w.alloc (.map (ents q l 0).toArray c)) := by
  subst hr; exact run_lookup_ok ht hK (hz _) (heap_alloc_new w _)
end Go.Proofs.Ytmpafnhaigfopaa
