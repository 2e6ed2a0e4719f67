/- What holds while path searches: its boxes and rows. -/
import Derived.Test.YthchkddhibhenaaGraph
import Derived.Test.YthchkddhibhenaaEdges
namespace Go.Proofs.Ythchkddhibhenaa
open Go.RowKit Go.Shelf

/-- A step of a search: a state, the place of the step before, the event. -/
structure St where
  s : Int
  p : Int
  e : Int
def St.cells (x : St) : List Value := [.int .i64 x.s, .int .i64 x.p, .int .i64 x.e]
abbrev stCells (l : List St) : List Value := l.flatMap St.cells
theorem stCells_length (l : List St) : (stCells l).length = l.length * 3 := flat_length St.cells 3 (fun _ => rfl) l

/-- A turn of blocks that are no cells leaves what is owned. -/
theorem Own.others {w w' : World} {B : Nat} {tag : Nat → Nat} {k b : Nat} {cs : Array Value} {t : TypeId} {row : Option Nat} (h : Own w B tag k b cs t) (hg : w.grownBy w' row) (hr : ∀ r, row = some r → ∃ o : Obj, w.heap[r]? = some o ∧ o.isCells = false) : Own w' B tag k b cs t := by
  refine ⟨(hg.block b h.lt (fun e => ?_)).trans h.heap, h.htag, h.base⟩
  obtain ⟨o, ho, hc⟩ := hr b e.symm
  rw [h.heap] at ho
  cases ho
  cases hc
theorem Row.others {w w' : World} {B : Nat} {tag : Nat → Nat} {k : Nat} {t : TypeId} {sz : Nat} {v : Value} {n : Nat} {cs : List Value} {row : Option Nat} (h : Row w B tag k t sz v n cs) (hg : w.grownBy w' row) (hr : ∀ r, row = some r → ∃ o : Obj, w.heap[r]? = some o ∧ o.isCells = false) : Row w' B tag k t sz v n cs :=
  ⟨h.1, h.2.imp id fun ⟨b, off, cap, cur, h1, h2, h3⟩ => ⟨b, off, cap, cur, h1, h2.others hg hr, h3⟩⟩
theorem Marks.others {w w' : World} {B s : Nat} {ds : List Deferred} {row : Option Nat} (h : Marks B w ds) (hs : ∀ D, mark D ∈ ds → D < s) (hg : w.grownBy w' row) (hr : ∀ r, row = some r → s ≤ r) : Marks B w' ds := by
  obtain ⟨Ds, rfl, h2, h3⟩ := h
  refine ⟨Ds, rfl, h2, fun D hD => ⟨(h3 D hD).1, (hg.block D (Array.getElem?_eq_some_iff.1 (h3 D hD).2).1 (fun e => ?_)).trans (h3 D hD).2⟩⟩
  have := hs D (List.mem_map.2 ⟨D, hD, rfl⟩)
  have := hr D e.symm
  omega
theorem belOthers {a w w' : World} {B s : Nat} {row : Option Nat} (h : Below B a w) (hg : w.grownBy w' row) (hB : B ≤ w.heap.size) (hs : B ≤ s) (hr : ∀ r, row = some r → s ≤ r) : Below B a w' :=
  h.grown hg hB (fun k e => Nat.le_trans hs (hr k e))

/-- Another block is told apart by the type of its cells. -/
theorem Own.retag {w : World} {B : Nat} {tag : Nat → Nat} {k b : Nat} {cs : Array Value} {t : TypeId} (h : Own w B tag k b cs t) {bx kx : Nat} {cx : Array Value} {tx : TypeId} (hx : w.heap[bx]? = some (.cells cx tx (0, 0))) (ht : t ≠ tx) : Own w B (tagUp tag bx kx) k b cs t := by
  refine ⟨h.heap, ?_, h.base⟩
  unfold tagUp
  rw [if_neg ?_]
  · exact h.htag
  · rintro rfl
    rw [h.heap] at hx
    cases hx
    exact ht rfl
theorem Row.retag {w : World} {B : Nat} {tag : Nat → Nat} {k : Nat} {t : TypeId} {sz : Nat} {v : Value} {n : Nat} {cs : List Value} (h : Row w B tag k t sz v n cs) {bx kx : Nat} {cx : Array Value} {tx : TypeId} (hx : w.heap[bx]? = some (.cells cx tx (0, 0))) (ht : t ≠ tx) : Row w B (tagUp tag bx kx) k t sz v n cs :=
  ⟨h.1, h.2.imp id fun ⟨b, off, cap, cur, h1, h2, h3⟩ => ⟨b, off, cap, cur, h1, h2.retag hx ht, h3⟩⟩

structure PInv (w : World) (G : Array Value) (FP : Value) (n : Nat) (ds : List Deferred) (wr : World) (tag : Nat → Nat) (bi i : Nat) (vs : Value) (seen : List Bool) (steps : List St) : Prop where
  below : Below w.heap.size w wr
  marks : Marks w.heap.size wr ds
  g : Own wr w.heap.size tag 0 w.heap.size G 80
  fp : Own wr w.heap.size tag 0 (w.heap.size + 1) #[FP] 90
  sb : Own wr w.heap.size tag 3 (w.heap.size + 1 + 1 + 1) #[vs] 116
  st : Row wr w.heap.size tag 2 115 3 vs steps.length (stCells steps)
  eb : Own wr w.heap.size tag 0 (w.heap.size + 1 + 1 + 1 + 1 + 1) #[.slice (some ⟨w.heap.size + 1 + 1 + 1 + 1, 0, none⟩) n n] 86
  se : Row wr w.heap.size tag 1 4 1 (.slice (some ⟨w.heap.size + 1 + 1 + 1 + 1, 0, none⟩) n n) n (bools seen)
  ib : Own wr w.heap.size tag 4 bi #[.int .i64 i] 3

section
variable {w : World} {G : Array Value} {FP : Value} {n : Nat} {ds : List Deferred} {wr wr' : World} {tag tag' : Nat → Nat} {bi i : Nat} {vs : Value} {seen : List Bool} {steps : List St}
theorem PInv.size (h : PInv w G FP n ds wr tag bi i vs seen steps) : w.heap.size + 1 + 1 + 1 + 1 + 1 < wr.heap.size := h.eb.lt
theorem PInv.call (h : PInv w G FP n ds wr tag bi i vs seen steps) (hb : Below wr.heap.size wr wr') : PInv w G FP n ds wr' tag bi i vs seen steps :=
  ⟨belCall h.below hb h.below.size, h.marks.below hb, h.g.below hb, h.fp.below hb, h.sb.below hb, h.st.below hb, h.eb.below hb, h.se.below hb, h.ib.below hb⟩
theorem PInv.others {s : Nat} {row : Option Nat} (h : PInv w G FP n ds wr tag bi i vs seen steps) (hg : wr.grownBy wr' row) (hs : ∀ D, mark D ∈ ds → D < s) (hws : w.heap.size ≤ s) (hr : ∀ r, row = some r → s ≤ r ∧ ∃ o : Obj, wr.heap[r]? = some o ∧ o.isCells = false) : PInv w G FP n ds wr' tag bi i vs seen steps :=
  ⟨belOthers h.below hg h.below.size hws (fun r e => (hr r e).1), h.marks.others hs hg (fun r e => (hr r e).1), h.g.others hg (fun r e => (hr r e).2), h.fp.others hg (fun r e => (hr r e).2), h.sb.others hg (fun r e => (hr r e).2), h.st.others hg (fun r e => (hr r e).2), h.eb.others hg (fun r e => (hr r e).2), h.se.others hg (fun r e => (hr r e).2), h.ib.others hg (fun r e => (hr r e).2)⟩
theorem PInv.retag {bx : Nat} {cx : Array Value} (h : PInv w G FP n ds wr tag bi i vs seen steps) (hx : wr.heap[bx]? = some (.cells cx 45 (0, 0))) : PInv w G FP n ds wr (tagUp tag bx 5) bi i vs seen steps :=
  ⟨h.below, h.marks, h.g.retag hx (by decide), h.fp.retag hx (by decide), h.sb.retag hx (by decide), h.st.retag hx (by decide), h.eb.retag hx (by decide), h.se.retag hx (by decide), h.ib.retag hx (by decide)⟩
/-- A flag is set. -/
theorem PInv.setSeen (h : PInv w G FP n ds wr tag bi i vs seen steps) (j : Nat) : PInv w G FP n ds (wr.setCell ⟨w.heap.size + 1 + 1 + 1 + 1, j, none⟩ (.bool true)) tag bi i vs (seen.set j true) steps ∧ Turn w.heap.size tag tag 1 wr (wr.setCell ⟨w.heap.size + 1 + 1 + 1 + 1, j, none⟩ (.bool true)) := by
  have h1 := h.se.set j (.bool true)
  rw [Nat.zero_add] at h1
  refine ⟨⟨belTurn h.below h1.2 h.below.size, h.marks.turn h1.2, h.g.turn h1.2 (by decide), h.fp.turn h1.2 (by decide), h.sb.turn h1.2 (by decide), h.st.turn h1.2 (by decide), h.eb.turn h1.2 (by decide), ?_, h.ib.turn h1.2 (by decide)⟩, h1.2⟩
  have h2 := h1.1
  rwa [show bools (seen.set j true) = (bools seen).set j (.bool true) from List.map_set ..]
/-- The number in its box goes on. -/
theorem PInv.setI (h : PInv w G FP n ds wr tag bi i vs seen steps) (j : Nat) : PInv w G FP n ds (wr.setCell ⟨bi, 0, none⟩ (.int .i64 j)) tag bi j vs seen steps := by
  have h1 := Turn.setCell h.ib 0 (.int .i64 j)
  have h2 := h.ib.set 0 (.int .i64 j)
  exact ⟨belTurn h.below h1 h.below.size, h.marks.turn h1, h.g.turn h1 (by decide), h.fp.turn h1 (by decide), h.sb.turn h1 (by decide), h.st.turn h1 (by decide), h.eb.turn h1 (by decide), h.se.turn h1 (by decide), h2⟩
/-- A new box for the number. -/
theorem PInv.newI (h : PInv w G FP n ds wr tag bi i vs seen steps) (j : Nat) : PInv w G FP n ds (wr.alloc (.cells #[.int .i64 j] 3)) (tagUp tag wr.heap.size 4) wr.heap.size j vs seen steps := by
  have hb := bel_alloc wr (.cells #[.int .i64 j] 3)
  have ht : Turn w.heap.size tag (tagUp tag wr.heap.size 4) 9 wr (wr.alloc (.cells #[.int .i64 j] 3)) := { Turn.below (B := w.heap.size) (tag := tag) (k := 9) hb with tags := fun b hb => tagUp_lt hb }
  exact ⟨belTurn h.below ht h.below.size, h.marks.turn ht, h.g.turn ht (by decide), h.fp.turn ht (by decide), h.sb.turn ht (by decide), h.st.turn ht (by decide), h.eb.turn ht (by decide), h.se.turn ht (by decide), Own.new _ _ _ _ _ _ h.below.size (tagUp_at _ _ _)⟩
/-- A step more, and the box that holds the list. -/
theorem PInv.push {vs' : Value} {x : St} (h : PInv w G FP n ds wr tag bi i vs seen steps) (hr : Row wr' w.heap.size tag' 2 115 3 vs' (steps.length + 1) (stCells steps ++ x.cells)) (ht : Turn w.heap.size tag tag' 2 wr wr') :
    PInv w G FP n ds (wr'.setCell ⟨w.heap.size + 1 + 1 + 1, 0, none⟩ vs') tag' bi i vs' seen (steps ++ [x]) := by
  have hs := h.sb.turn ht (by decide)
  have h1 := Turn.setCell hs 0 vs'
  have h2 := hs.set 0 vs'
  have hB : w.heap.size ≤ wr'.heap.size := Nat.le_trans h.below.size ht.size
  exact ⟨belTurn (belTurn h.below ht h.below.size) h1 hB, (h.marks.turn ht).turn h1, (h.g.turn ht (by decide)).turn h1 (by decide), (h.fp.turn ht (by decide)).turn h1 (by decide), h2, by rw [List.length_append, show stCells (steps ++ [x]) = stCells steps ++ x.cells by simp [stCells]]; exact hr.turn h1 (by decide), (h.eb.turn ht (by decide)).turn h1 (by decide), (h.se.turn ht (by decide)).turn h1 (by decide), (h.ib.turn ht (by decide)).turn h1 (by decide)⟩
/-- What is of another tag turns. -/
theorem PInv.turn {k : Nat} (h : PInv w G FP n ds wr tag bi i vs seen steps) (ht : Turn w.heap.size tag tag' k wr wr') (hk : 4 < k) : PInv w G FP n ds wr' tag' bi i vs seen steps :=
  ⟨belTurn h.below ht h.below.size, h.marks.turn ht, h.g.turn ht (by omega), h.fp.turn ht (by omega), h.sb.turn ht (by omega), h.st.turn ht (by omega), h.eb.turn ht (by omega), h.se.turn ht (by omega), h.ib.turn ht (by omega)⟩
/-- Another mark. -/
theorem PInv.mark {s D : Nat} (h : PInv w G FP n ds wr tag bi i vs seen steps) (hs : ∀ D', Go.Proofs.Ythchkddhibhenaa.mark D' ∈ ds → D' < s) (hD : s ≤ D) (hB : w.heap.size ≤ s) (hd : wr.heap[D]? = some (.deferred (some []))) : PInv w G FP n (Go.Proofs.Ythchkddhibhenaa.mark D :: ds) wr tag bi i vs seen steps :=
  { h with marks := h.marks.cons hs hD (Nat.le_trans hB hD) hd }
end
/-- The cells of one step. -/
theorem Row.at_step {w : World} {B : Nat} {tag : Nat → Nat} {k : Nat} {t : TypeId} {v : Value} {l : List St} (h : Row w B tag k t 3 v l.length (stCells l)) (i : Nat) (hi : i < l.length) :
    ∃ b off cap, v = .slice (some ⟨b, off, none⟩) l.length cap ∧ b < w.heap.size ∧ w.cell? ⟨b, off + i * 3, none⟩ = some (.int .i64 l[i].s) ∧ w.cell? ⟨b, off + i * 3 + 1, none⟩ = some (.int .i64 l[i].p) ∧ w.cell? ⟨b, off + i * 3 + 2, none⟩ = some (.int .i64 l[i].e) := by
  obtain ⟨b, off, cap, rfl, hlt, _⟩ := h.addr (by omega)
  refine ⟨b, off, cap, rfl, hlt, ?_, ?_, ?_⟩
  · have := h.cellAt (i * 3 + 0) (by omega)
    rw [flat_at St.cells 3 (fun _ => rfl) l i 0 hi (by omega)] at this
    exact this
  · have := h.cellAt (i * 3 + 1) (by omega)
    rw [flat_at St.cells 3 (fun _ => rfl) l i 1 hi (by omega)] at this
    rw [Nat.add_assoc]; exact this
  · have := h.cellAt (i * 3 + 2) (by omega)
    rw [flat_at St.cells 3 (fun _ => rfl) l i 2 hi (by omega)] at this
    rw [Nat.add_assoc]; exact this
end Go.Proofs.Ythchkddhibhenaa
