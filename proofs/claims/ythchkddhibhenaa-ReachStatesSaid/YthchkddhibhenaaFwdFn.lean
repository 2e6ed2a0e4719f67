/- The search forward, as a plain function. -/
import Derived.Test.YthchkddhibhenaaPathFn
namespace Go.Proofs.Ythchkddhibhenaa
open Go.RowKit Go.Shelf

/-- An edge is looked at: the flags and the queue. -/
def fwStep (perm : Ed → Bool) (acc : List Bool × List Int) (x : Ed) : List Bool × List Int :=
  if acc.1[x.t.toNat]?.getD true = false ∧ perm x = true then (acc.1.set x.t.toNat true, acc.2 ++ [x.t]) else acc
/-- The search. -/
def fwd (sub : Int → List Ed) (perm : Ed → Bool) : Nat → List Bool → List Int → List Bool
  | 0, seen, _ => seen
  | _ + 1, seen, [] => seen
  | f + 1, seen, s :: q => fwd sub perm f ((sub s).foldl (fwStep perm) (seen, q)).1 ((sub s).foldl (fwStep perm) (seen, q)).2
structure FOk (n m : Nat) (seen : List Bool) (q : List Int) : Prop where
  len : seen.length = n
  range : ∀ s ∈ q, 0 ≤ s ∧ s < (n : Int)
  sum : seen.count false + q.length ≤ m
theorem count_set_false {l : List Bool} {j : Nat} (h : l[j]? = some false) : (l.set j true).count false + 1 = l.count false := by
  induction l generalizing j with
  | nil => simp at h
  | cons a l ih =>
    cases j with
    | zero => simp at h; subst h; simp
    | succ j =>
      simp at h
      rw [List.set_cons_succ, List.count_cons, List.count_cons, ← ih h]
      omega
theorem FOk.step {n m : Nat} {perm : Ed → Bool} {seen : List Bool} {q : List Int} (h : FOk n m seen q) (x : Ed) (h0 : 0 ≤ x.t) (h1 : x.t < (n : Int)) : FOk n m (fwStep perm (seen, q) x).1 (fwStep perm (seen, q) x).2 := by
  unfold fwStep
  dsimp only
  split
  · rename_i hc
    have hlt : x.t.toNat < seen.length := by rw [h.len]; omega
    have hs : seen[x.t.toNat]? = some false := by
      have := hc.1
      rw [List.getElem?_eq_getElem hlt] at this ⊢
      simpa using this
    have h2 := count_set_false hs
    have h3 := h.sum
    refine ⟨by simp [h.len], fun s hs => ?_, by simp only [List.length_append, List.length_singleton]; omega⟩
    rcases List.mem_append.1 hs with h4 | h4
    · exact h.range s h4
    · rw [List.mem_singleton.1 h4]; exact ⟨h0, h1⟩
  · exact h
theorem FOk.fold {n m : Nat} {perm : Ed → Bool} : ∀ (l : List Ed) {seen : List Bool} {q : List Int}, FOk n m seen q → (∀ x ∈ l, 0 ≤ x.t ∧ x.t < (n : Int)) → FOk n m (l.foldl (fwStep perm) (seen, q)).1 (l.foldl (fwStep perm) (seen, q)).2
  | [], _, _, h, _ => h
  | x :: l, seen, q, h, hx => by
    have h1 := h.step (perm := perm) x (hx x (List.mem_cons_self ..)).1 (hx x (List.mem_cons_self ..)).2
    exact FOk.fold l h1 (fun y hy => hx y (List.mem_cons_of_mem _ hy))
/-- What forward returns. -/
def forwardF (n : Nat) (es : List Ed) (perm : Ed → Bool) (start : List Int) : List Bool := fwd (subOf es) perm ((flagL n start).count false + start.length + 1) (flagL n start) start

theorem fwd_length {n : Nat} {es : List Ed} {perm : Ed → Bool} (hin : ∀ x ∈ es, 0 ≤ x.t ∧ x.t < (n : Int)) : ∀ (f m : Nat) {seen : List Bool} {q : List Int}, FOk n m seen q → (fwd (subOf es) perm f seen q).length = n
  | 0, _, _, _, h => h.len
  | f + 1, _, _, [], h => h.len
  | f + 1, m, seen, s :: q, h => by
    rw [fwd]
    have h0 : FOk n m seen q := ⟨h.len, fun t ht => h.range t (List.mem_cons_of_mem _ ht), by have := h.sum; simp only [List.length_cons] at this; omega⟩
    exact fwd_length hin f m (FOk.fold (perm := perm) (subOf es s) h0 (fun x hx => hin x (subOf_mem hx)))
theorem forwardF_length {perm : Ed → Bool} (n : Nat) (es : List Ed) (start : List Int) (hin : ∀ x ∈ es, 0 ≤ x.t ∧ x.t < (n : Int)) (hst : ∀ s ∈ start, 0 ≤ s ∧ s < (n : Int)) : (forwardF n es perm start).length = n :=
  fwd_length hin _ _ ⟨flagL_length n start, hst, Nat.le_refl _⟩
/-- What holds while forward searches. -/
structure FInv (w : World) (G : Array Value) (FP : Value) (n b7 b8 : Nat) (vs : Value) (ds : List Deferred) (wr : World) (tag : Nat → Nat) (vq : Value) (seen : List Bool) (q : List Int) : Prop where
  below : Below w.heap.size w wr
  marks : Marks w.heap.size wr ds
  g : Own wr w.heap.size tag 0 w.heap.size G 80
  fp : Own wr w.heap.size tag 0 (w.heap.size + 1) #[FP] 90
  eb : Own wr w.heap.size tag 0 b7 #[vs] 86
  qb : Own wr w.heap.size tag 3 b8 #[vq] 28
  se : Row wr w.heap.size tag 1 4 1 vs n (bools seen)
  st : Row wr w.heap.size tag 2 3 1 vq q.length (ints q)

section
variable {w : World} {G : Array Value} {FP : Value} {n b7 b8 : Nat} {vs : Value} {ds : List Deferred} {wr wr' : World} {tag tag' : Nat → Nat} {vq : Value} {seen : List Bool} {q : List Int}
theorem FInv.call (h : FInv w G FP n b7 b8 vs ds wr tag vq seen q) (hb : Below wr.heap.size wr wr') : FInv w G FP n b7 b8 vs ds wr' tag vq seen q :=
  ⟨belCall h.below hb h.below.size, h.marks.below hb, h.g.below hb, h.fp.below hb, h.eb.below hb, h.qb.below hb, h.se.below hb, h.st.below hb⟩
theorem FInv.others {s : Nat} {row : Option Nat} (h : FInv w G FP n b7 b8 vs ds wr tag vq seen q) (hg : wr.grownBy wr' row) (hs : ∀ D, mark D ∈ ds → D < s) (hws : w.heap.size ≤ s) (hr : ∀ r, row = some r → s ≤ r ∧ ∃ o : Obj, wr.heap[r]? = some o ∧ o.isCells = false) : FInv w G FP n b7 b8 vs ds wr' tag vq seen q :=
  ⟨belOthers h.below hg h.below.size hws (fun r e => (hr r e).1), h.marks.others hs hg (fun r e => (hr r e).1), h.g.others hg (fun r e => (hr r e).2), h.fp.others hg (fun r e => (hr r e).2), h.eb.others hg (fun r e => (hr r e).2), h.qb.others hg (fun r e => (hr r e).2), h.se.others hg (fun r e => (hr r e).2), h.st.others hg (fun r e => (hr r e).2)⟩
theorem FInv.retag {bx : Nat} {cx : Array Value} (h : FInv w G FP n b7 b8 vs ds wr tag vq seen q) (hx : wr.heap[bx]? = some (.cells cx 45 (0, 0))) : FInv w G FP n b7 b8 vs ds wr (tagUp tag bx 5) vq seen q :=
  ⟨h.below, h.marks, h.g.retag hx (by decide), h.fp.retag hx (by decide), h.eb.retag hx (by decide), h.qb.retag hx (by decide), h.se.retag hx (by decide), h.st.retag hx (by decide)⟩
/-- A flag is set. -/
theorem FInv.setSeen {bs os cs : Nat} (h : FInv w G FP n b7 b8 (.slice (some ⟨bs, os, none⟩) n cs) ds wr tag vq seen q) (j : Nat) : FInv w G FP n b7 b8 (.slice (some ⟨bs, os, none⟩) n cs) ds (wr.setCell ⟨bs, os + j, none⟩ (.bool true)) tag vq (seen.set j true) q ∧ Turn w.heap.size tag tag 1 wr (wr.setCell ⟨bs, os + j, none⟩ (.bool true)) := by
  have h1 := h.se.set j (.bool true)
  refine ⟨⟨belTurn h.below h1.2 h.below.size, h.marks.turn h1.2, h.g.turn h1.2 (by decide), h.fp.turn h1.2 (by decide), h.eb.turn h1.2 (by decide), h.qb.turn h1.2 (by decide), ?_, h.st.turn h1.2 (by decide)⟩, h1.2⟩
  have h2 := h1.1
  rwa [show bools (seen.set j true) = (bools seen).set j (.bool true) from List.map_set ..]
/-- The queue's box gets another value. -/
theorem FInv.setQ {vq' : Value} {q' : List Int} (h : FInv w G FP n b7 b8 vs ds wr tag vq seen q) (hr : Row wr w.heap.size tag 2 3 1 vq' q'.length (ints q')) : FInv w G FP n b7 b8 vs ds (wr.setCell ⟨b8, 0, none⟩ vq') tag vq' seen q' := by
  have h1 := Turn.setCell h.qb 0 vq'
  have h2 := h.qb.set 0 vq'
  exact ⟨belTurn h.below h1 h.below.size, h.marks.turn h1, h.g.turn h1 (by decide), h.fp.turn h1 (by decide), h.eb.turn h1 (by decide), h2, h.se.turn h1 (by decide), hr.turn h1 (by decide)⟩
/-- A state more in the queue, and the box that holds it. -/
theorem FInv.push {vq' : Value} {x : Int} (h : FInv w G FP n b7 b8 vs ds wr tag vq seen q) (hr : Row wr' w.heap.size tag' 2 3 1 vq' (q.length + 1) (ints q ++ [.int .i64 x])) (ht : Turn w.heap.size tag tag' 2 wr wr') :
    FInv w G FP n b7 b8 vs ds (wr'.setCell ⟨b8, 0, none⟩ vq') tag' vq' seen (q ++ [x]) := by
  have hs := h.qb.turn ht (by decide)
  have h1 := Turn.setCell hs 0 vq'
  have h2 := hs.set 0 vq'
  have hB : w.heap.size ≤ wr'.heap.size := Nat.le_trans h.below.size ht.size
  exact ⟨belTurn (belTurn h.below ht h.below.size) h1 hB, (h.marks.turn ht).turn h1, (h.g.turn ht (by decide)).turn h1 (by decide), (h.fp.turn ht (by decide)).turn h1 (by decide), (h.eb.turn ht (by decide)).turn h1 (by decide), h2, (h.se.turn ht (by decide)).turn h1 (by decide), by rw [List.length_append, show ints (q ++ [x]) = ints q ++ [.int .i64 x] by simp [ints]]; exact hr.turn h1 (by decide)⟩
/-- Another mark. -/
theorem FInv.mark {s D : Nat} (h : FInv w G FP n b7 b8 vs ds wr tag vq seen q) (hs : ∀ D', Go.Proofs.Ythchkddhibhenaa.mark D' ∈ ds → D' < s) (hD : s ≤ D) (hB : w.heap.size ≤ s) (hd : wr.heap[D]? = some (.deferred (some []))) : FInv w G FP n b7 b8 vs (Go.Proofs.Ythchkddhibhenaa.mark D :: ds) wr tag vq seen q :=
  { h with marks := h.marks.cons hs hD (Nat.le_trans hB hD) hd }
end
end Go.Proofs.Ythchkddhibhenaa
