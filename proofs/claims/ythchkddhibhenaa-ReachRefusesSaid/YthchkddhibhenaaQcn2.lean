/- Parts of the proof, without what nothing here names. -/
import Derived.RangeFuncBound
import Derived.RangeFuncCalls
import Derived.RangeFuncLeaves
import Derived.RangeFuncNested
import Derived.Shelf.Abstract
import Derived.OwnWalkIn
import Derived.Deep.DeepCutAuto
import Derived.StillTailTactics
import Derived.Deep.RegionLaw
import Derived.Deep.LoopGhost
import Derived.OrdersIn
import Derived.Test.YthchkddhibhenaaQcn1
namespace Go.Proofs.Ythchkddhibhenaa
open Go.RowKit Go.Shelf

theorem keepsBelow {B : Nat} {w w' : World} (h : Below w.heap.size w w') : KeepsFrom B w w' := ⟨h.size, fun k _ _ hk _ => (h.block k (Array.getElem?_eq_some_iff.1 hk).1).trans hk⟩
theorem keepsTurn {B B' : Nat} {w w' : World} {tag tag' : Nat → Nat} {k : Nat} (h : Turn B' tag tag' k w w') : KeepsFrom B w w' := ⟨h.size, fun b o _ hb hc => h.keep b o hb hc⟩

/-- The mark that a range over a function leaves among the deferred calls. -/
def mark (D : Nat) : Deferred := { target := .collected D, args := #[] }
/-- All deferred calls are such marks, still open, in blocks from B on. -/
def Marks (B : Nat) (w : World) (ds : List Deferred) : Prop := ∃ Ds : List Nat, ds = Ds.map mark ∧ Ds.Nodup ∧ ∀ D ∈ Ds, B ≤ D ∧ w.heap[D]? = some (.deferred (some []))
/-- All cells are as they were; below B all is. -/
structure Quiet (B : Nat) (w w' : World) : Prop where
  below : Below B w w'
  cells : ∀ (b : Nat) (cs : Array Value) (t : TypeId) (fr : Nat × Nat), w.heap[b]? = some (Obj.cells cs t fr) → w'.heap[b]? = some (Obj.cells cs t fr)
theorem Quiet.refl (B : Nat) (w : World) : Quiet B w w := ⟨Below.refl _ _, fun _ _ _ _ h => h⟩
theorem Quiet.trans {B : Nat} {a b c : World} (h : Quiet B a b) (k : Quiet B b c) : Quiet B a c := ⟨h.below.trans k.below, fun b cs t fr hb => k.cells b cs t fr (h.cells b cs t fr hb)⟩
theorem Quiet.row {w w' : World} {B B' : Nat} {tag : Nat → Nat} {k : Nat} {t : TypeId} {sz : Nat} {v : Value} {n : Nat} {cs : List Value} (hq : Quiet B w w') (h : Row w B' tag k t sz v n cs) : Row w' B' tag k t sz v n cs :=
  ⟨h.1, h.2.imp id fun ⟨b, off, cap, cur, h1, h2, h3⟩ => ⟨b, off, cap, cur, h1, ⟨hq.cells _ _ _ _ h2.heap, h2.htag, h2.base⟩, h3⟩⟩
theorem Quiet.own {w w' : World} {B B' : Nat} {tag : Nat → Nat} {k b : Nat} {cs : Array Value} {t : TypeId} (hq : Quiet B w w') (h : Own w B' tag k b cs t) : Own w' B' tag k b cs t := ⟨hq.cells _ _ _ _ h.heap, h.htag, h.base⟩
theorem Marks.nil (B : Nat) (w : World) : Marks B w [] := ⟨[], rfl, List.nodup_nil, fun _ h => by cases h⟩
theorem Marks.turn {B B' : Nat} {w w' : World} {tag tag' : Nat → Nat} {k : Nat} {ds : List Deferred} (h : Marks B w ds) (ht : Turn B' tag tag' k w w') : Marks B w' ds := by
  obtain ⟨Ds, h1, h2, h3⟩ := h
  exact ⟨Ds, h1, h2, fun D hD => ⟨(h3 D hD).1, ht.keep _ _ (h3 D hD).2 rfl⟩⟩
theorem Marks.below {B : Nat} {w w' : World} {ds : List Deferred} (h : Marks B w ds) (hb : Below w.heap.size w w') : Marks B w' ds :=
  h.turn (Turn.below (B := 0) (tag := fun _ => 0) (k := 0) hb)
theorem Marks.cons {B s D : Nat} {w : World} {ds : List Deferred} (h : Marks B w ds) (hs : ∀ D', mark D' ∈ ds → D' < s) (hD : s ≤ D) (hB : B ≤ D) (hd : w.heap[D]? = some (.deferred (some []))) : Marks B w (mark D :: ds) := by
  obtain ⟨Ds, rfl, h2, h3⟩ := h
  refine ⟨D :: Ds, rfl, List.nodup_cons.2 ⟨fun hm => ?_, h2⟩, fun D' hD' => ?_⟩
  · have := hs D (List.mem_map.2 ⟨D, hm, rfl⟩); omega
  · rcases List.mem_cons.1 hD' with rfl | h4
    · exact ⟨hB, hd⟩
    · exact h3 D' h4
theorem Marks.lt {B D : Nat} {w : World} {ds : List Deferred} (h : Marks B w ds) (hm : mark D ∈ ds) : D < w.heap.size := by
  obtain ⟨Ds, rfl, h2, h3⟩ := h
  obtain ⟨D', h4, h5⟩ := List.mem_map.1 hm
  cases h5
  exact (Array.getElem?_eq_some_iff.1 (h3 _ h4).2).1

theorem leavesM {F : Fence} {n : Nat} {P : Program} {fn : Func} {tmps : Array Value} {R : Ending → World → Prop} {B : Nat} : ∀ (Ds : List Nat) (w : World), Ds.Nodup → (∀ D ∈ Ds, B ≤ D ∧ w.heap[D]? = some (.deferred (some []))) →
    (∀ w', Quiet B w w' → ∃ v, (results fn tmps).run P w' = .ok v w' ∧ R (.returned v) w') → LeavesInM F n P fn tmps R (Ds.map mark) .returning w
  | [], w, _, _, hfin => hfin w (Quiet.refl _ _)
  | D :: Ds, w, hnd, hD, hfin => by
    obtain ⟨hB, hd⟩ := hD D (List.mem_cons_self ..)
    have hlt := (Array.getElem?_eq_some_iff.1 hd).1
    have hq : Quiet B w (w.putObj D (.deferred none)) := by
      refine ⟨(Below.refl B w).grown (grownBy_putObj' w D _) (by omega) (fun k e => by cases e; exact hB), fun b cs t fr h => ?_⟩
      rw [World.putObj_heap_other ?_, h]
      rintro rfl
      rw [hd] at h; cases h
    refine ⟨by simp, .inl ⟨D, _, rfl, run_takeDeferred hd, leavesM Ds _ (List.nodup_cons.1 hnd).2 (fun D' hD' => ⟨(hD D' (List.mem_cons_of_mem _ hD')).1, ?_⟩) fun w' hw' => hfin w' (hq.trans hw')⟩⟩
    rw [World.putObj_heap_other ?_]
    · exact (hD D' (List.mem_cons_of_mem _ hD')).2
    · rintro rfl; exact (List.nodup_cons.1 hnd).1 hD'
/-- A function that leaves with marks. -/
theorem bodyPostM_ret {n : Nat} {P : Program} {fn : Func} {R : Ending → World → Prop} {B : Nat} {tmps : Array Value} {ds : List Deferred} {w : World} (hM : Marks B w ds)
    (hfin : ∀ w', Quiet B w w' → ∃ v, (results fn tmps).run P w' = .ok v w' ∧ R (.returned v) w') : bodyPostM Fence.wide n P fn R .ret { tmps := tmps, defers := ds } w := by
  obtain ⟨Ds, rfl, h2, h3⟩ := hM
  exact leavesM Ds w h2 h3 hfin
/-- A contract out of a body that may leave with marks. -/
theorem calls_of_marks {P : Program} {f : FuncId} {fn : Func} {c : Code} {args : Array Value} {w : World} {R : Ending → World → Prop} (hf : P.funcs[f]? = some fn) (hb : fn.body = some c)
    (h : c.wp P (bodyPostM Fence.wide 4 P fn R) { tmps := args ++ Array.replicate (fn.ntmps - args.size) undef, defers := [] } w) : Calls P f args w R :=
  (callsIn_wide (n := 4)).1 (callsIn_of_wp_marks hf hb trivial (wpIn_wide.2 h) rfl)
end Go.Proofs.Ythchkddhibhenaa

namespace Go.Proofs.Ythchkddhibhenaa
open Go.RowKit Go.Shelf

theorem edges_any (aa am ae af : Option Addr) (la lm le lf ca cm ce cf : Nat) (n s : Int) (w : World) :
    Calls Try.prog 68 #[.agg #[.slice aa la ca, .int .i64 n, .slice am lm cm, .slice ae le ce, .slice af lf cf], .int .i64 s] w fun e w' =>
      e = .returned (.func (.func 84) #[] #[.pointer (some ⟨w.heap.size, 0, none⟩), .pointer (some ⟨w.heap.size + 1, 0, none⟩)]) ∧
      w' = (w.alloc (.cells #[.slice aa la ca, .int .i64 n, .slice am lm cm, .slice ae le ce, .slice af lf cf] 80)).alloc (.cells #[.int .i64 s] 3) := by
  have hmf : ∀ (fn : Fn) (first cap : Array Value) (w : World), (Instr.makeFunc fn first cap).run Try.prog w = .ok (.func fn first cap) w := fun _ _ _ _ => rfl
  go_enter Try.func68, Try.ntmps68
  go_wp2
  go_ret
  exact ⟨rfl, rfl⟩

/-- The edges of a part of the list. -/
def edSub (es : List Ed) (lo hi : Nat) : List Ed := (es.drop lo).take (hi - lo)

theorem edges_stops (bg bs n₀ : Nat) (ae af : Option Addr) (ce lf cf : Nat) (s : Int) (es : List Ed) (lo hi : Nat) (hlo : lo ≤ hi) (hhi : hi ≤ es.length) (hl : es.length ≤ 1000000) (w : World) (hn0 : n₀ ≤ w.heap.size)
    (hg3 : w.cell? ⟨bg, 3, none⟩ = some (.slice ae es.length ce)) (hg4 : w.cell? ⟨bg, 4, none⟩ = some (.slice af lf cf)) (hs : w.cell? ⟨bs, 0, none⟩ = some (.int .i64 s)) (hs0 : 0 ≤ s) (hs1 : s + 1 < lf)
    (bf offf : Nat) (haf : af = some ⟨bf, offf, none⟩) (hlf : lf ≤ 1000001) (hf0 : w.cell? ⟨bf, offf + s.toNat, none⟩ = some (.int .i64 lo)) (hf1 : w.cell? ⟨bf, offf + (s + 1).toNat, none⟩ = some (.int .i64 hi))
    (hre : RdS w 3 ae es.length ce (edCells es)) (hbe : 0 < es.length → ∀ ad, ae = some ad → ad.block < n₀) :
    SeqStopsK Fence.wide 3 Try.prog 84 #[.pointer (some ⟨bg, 0, none⟩), .pointer (some ⟨bs, 0, none⟩)] (edEnc (sub := edSub es lo hi)) (Below n₀) (fun ys => ys.map (·.1) = edSub es lo hi) (fun _ => True) (hi - lo) w := by
  intro l J Jx W hW hJ hJx hY h0
  by_cases h : lo < hi
  · have hb := edges1_in l bg bs n₀ ae af ce lf cf s es lo hi h hhi hl J Jx W hJ (Nat.le_trans hn0 hW.size) hY (keep0 hW hg3) (keep0 hW hg4) (keep0 hW hs) hs0 hs1 bf offf haf hlf (keep0 hW hf0) (keep0 hW hf1) (hre.mono hW) (hbe (by omega)) h0
    refine hb.mono ?_
    rintro e W' ⟨h1, h2⟩
    exact ⟨h1, h2.imp id fun ⟨pre, hp⟩ => ⟨pre, trivial, hp⟩⟩
  · obtain rfl : lo = hi := by omega
    subst haf
    have hb := edges0_in l bg bs ae ce lf cf s es lo hhi hl J W hJ hs0 hs1 bf offf (keep0 hW hg3) (keep0 hW hg4) (keep0 hW hs) hlf (keep0 hW hf0) (keep0 hW hf1) (hre.mono hW) h0
    refine hb.mono ?_
    rintro e W' ⟨h1, h2⟩
    exact ⟨h1, .inl ⟨[], by simp [edSub], h2⟩⟩


theorem wp_edges {g : Operand} {ps : Array Tmp} {assign body : Code} {Q : Exit → Act → World → Prop} {a : Act} {w : World} {bg bs n₀ N : Nat} {sub : List Ed} {w0 : World}
    (hg : a.eval g = .func (.func 84) #[] #[.pointer (some ⟨bg, 0, none⟩), .pointer (some ⟨bs, 0, none⟩)])
    (hseq : SeqStopsK Fence.wide 3 Try.prog 84 #[.pointer (some ⟨bg, 0, none⟩), .pointer (some ⟨bs, 0, none⟩)] (edEnc (sub := sub)) (Below n₀) (fun ys => ys.map (·.1) = sub) (fun _ => True) N w0)
    (hb0 : Below w0.heap.size w0 w) (hn0 : n₀ ≤ w.heap.size) (hps : ps.size = 1)
    (I : List Ed → World → Prop) (hI : OwnFrom w.heap.size I) (h0 : I [] w) (Ax : Ed → Act → World → Prop) (hAx : ∀ x a', OwnFrom w.heap.size (fun (_ : Unit) W => Ax x a' W))
    (hassign : ∀ (l : Nat) (pre : List Ed) (x : Ed) (W : World) (K : Act → World → Prop), x ∈ sub → I pre W → (∀ a' W', KeepsFrom w.heap.size W W' → Below n₀ W W' → I pre W' → Ax x a' W' → K a' W') →
      assign.wpIn (Fence.wide.inRound l) 2 Try.prog (Exit.then K (fun _ _ _ => False)) { tmps := (ps.zip #[x.val]).foldl (fun t (p, v) => t.setIfInBounds p v) a.tmps, defers := [] } W)
    (hbody : ∀ (l : Nat) (pre : List Ed) (x : Ed) (a' : Act) (W : World), x ∈ sub → w.heap.size ≤ l → I pre W → Ax x a' W →
      body.wpIn (Fence.wide.inRound l) 2 Try.prog (ownPostG w.heap.size (Below n₀) I (fun _ _ _ => False) (pre ++ [x]) W) a' W)
    (hdone : ∀ (D : Nat) (W : World), w.heap.size ≤ D → I sub W → W.heap[D]? = some (.deferred (some [])) → Q .normal { a with defers := mark D :: a.defers } W) :
    (Code.rangeFunc g ps assign body).wp Try.prog Q a w := by
  refine wpIn_wide.1 (wpIn_rangeFunc_ownH (n := 4) rfl (by decide) hg trivial (enters_of Try.func84 (by kernel_rfl) rfl) hseq belowK_t (belowK_b hn0) hb0 (fun _ => by simp [edEnc, hps])
    (fun (pre : List { x : Ed // x ∈ sub }) W => I (pre.map (fun y => y.1)) W) (fun _ _ _ => False) (fun pre W W' row h1 h2 h3 => hI (pre.map (fun y => y.1)) W W' row h1 h2 h3) (fun _ _ _ _ _ h _ _ => h) h0 (fun x a' W => Ax x.1 a' W) (fun x a' => hAx x.1 a')
    (fun l pre x W K hi hK => hassign l (pre.map (fun y => y.1)) x.1 W K x.2 hi hK) (fun l pre x a' W hl _ hi hax _ => ?_) (fun D ys W hD hS hi hd => ?_) (fun _ _ _ _ _ _ h => h.elim))
  · have := hbody l (pre.map (fun y => y.1)) x.1 a' W x.2 hl hi hax
    refine wpIn_mono this ?_
    intro e a2 W2 h2
    cases e <;> simp only [ownPostG] at h2 ⊢
    · exact ⟨h2.1, h2.2.1, by rw [List.map_append]; exact h2.2.2⟩
    all_goals exact h2
  · exact hdone D W hD (by rw [← hS]; exact hi) hd
end Go.Proofs.Ythchkddhibhenaa

namespace Go.Proofs.Ythchkddhibhenaa
open Go.RowKit Go.Shelf

/-- A step of a search: a state, the place of the step before, the event. -/
structure St where
  s : Int
  p : Int
  e : Int
def St.cells (x : St) : List Value := [.int .i64 x.s, .int .i64 x.p, .int .i64 x.e]
abbrev stCells (l : List St) : List Value := l.flatMap St.cells
/-- A turn of blocks that are no cells leaves what is owned. -/
theorem Own.others {w w' : World} {B : Nat} {tag : Nat → Nat} {k b : Nat} {cs : Array Value} {t : TypeId} {row : Option Nat} (h : Own w B tag k b cs t) (hg : w.grownBy w' row) (hr : ∀ r, row = some r → ∃ o : Obj, w.heap[r]? = some o ∧ o.isCells = false) : Own w' B tag k b cs t := by
  refine ⟨(hg.block b h.lt (fun e => ?_)).trans h.heap, h.htag, h.base⟩
  obtain ⟨o, ho, hc⟩ := hr b e.symm
  rw [h.heap] at ho
  cases ho
  cases hc
theorem Row.others {w w' : World} {B : Nat} {tag : Nat → Nat} {k : Nat} {t : TypeId} {sz : Nat} {v : Value} {n : Nat} {cs : List Value} {row : Option Nat} (h : Row w B tag k t sz v n cs) (hg : w.grownBy w' row) (hr : ∀ r, row = some r → ∃ o : Obj, w.heap[r]? = some o ∧ o.isCells = false) : Row w' B tag k t sz v n cs :=
  ⟨h.1, h.2.imp id fun ⟨b, off, cap, cur, h1, h2, h3⟩ => ⟨b, off, cap, cur, h1, h2.others hg hr, h3⟩⟩
theorem Marks.others {w w' : World} {B s : Nat} {ds : List Deferred} {row : Option Nat} (h : Marks B w ds) (hs : ∀ D, mark D ∈ ds → D < s) (hg : w.grownBy w' row) (hr : ∀ r, row = some r → s ≤ r) : Marks B w' ds := by
  obtain ⟨Ds, rfl, h2, h3⟩ := h
  refine ⟨Ds, rfl, h2, fun D hD => ⟨(h3 D hD).1, (hg.block D (Array.getElem?_eq_some_iff.1 (h3 D hD).2).1 (fun e => ?_)).trans (h3 D hD).2⟩⟩
  have := hs D (List.mem_map.2 ⟨D, hD, rfl⟩)
  have := hr D e.symm
  omega
theorem belOthers {a w w' : World} {B s : Nat} {row : Option Nat} (h : Below B a w) (hg : w.grownBy w' row) (hB : B ≤ w.heap.size) (hs : B ≤ s) (hr : ∀ r, row = some r → s ≤ r) : Below B a w' :=
  h.grown hg hB (fun k e => Nat.le_trans hs (hr k e))

/-- Another block is told apart by the type of its cells. -/
theorem Own.retag {w : World} {B : Nat} {tag : Nat → Nat} {k b : Nat} {cs : Array Value} {t : TypeId} (h : Own w B tag k b cs t) {bx kx : Nat} {cx : Array Value} {tx : TypeId} (hx : w.heap[bx]? = some (.cells cx tx (0, 0))) (ht : t ≠ tx) : Own w B (tagUp tag bx kx) k b cs t := by
  refine ⟨h.heap, ?_, h.base⟩
  unfold tagUp
  rw [if_neg ?_]
  · exact h.htag
  · rintro rfl
    rw [h.heap] at hx
    cases hx
    exact ht rfl
theorem Row.retag {w : World} {B : Nat} {tag : Nat → Nat} {k : Nat} {t : TypeId} {sz : Nat} {v : Value} {n : Nat} {cs : List Value} (h : Row w B tag k t sz v n cs) {bx kx : Nat} {cx : Array Value} {tx : TypeId} (hx : w.heap[bx]? = some (.cells cx tx (0, 0))) (ht : t ≠ tx) : Row w B (tagUp tag bx kx) k t sz v n cs :=
  ⟨h.1, h.2.imp id fun ⟨b, off, cap, cur, h1, h2, h3⟩ => ⟨b, off, cap, cur, h1, h2.retag hx ht, h3⟩⟩

structure PInv (w : World) (G : Array Value) (FP : Value) (n : Nat) (ds : List Deferred) (wr : World) (tag : Nat → Nat) (bi i : Nat) (vs : Value) (seen : List Bool) (steps : List St) : Prop where
  below : Below w.heap.size w wr
  marks : Marks w.heap.size wr ds
  g : Own wr w.heap.size tag 0 w.heap.size G 80
  fp : Own wr w.heap.size tag 0 (w.heap.size + 1) #[FP] 90
  sb : Own wr w.heap.size tag 3 (w.heap.size + 1 + 1 + 1) #[vs] 116
  st : Row wr w.heap.size tag 2 115 3 vs steps.length (stCells steps)
  eb : Own wr w.heap.size tag 0 (w.heap.size + 1 + 1 + 1 + 1 + 1) #[.slice (some ⟨w.heap.size + 1 + 1 + 1 + 1, 0, none⟩) n n] 86
  se : Row wr w.heap.size tag 1 4 1 (.slice (some ⟨w.heap.size + 1 + 1 + 1 + 1, 0, none⟩) n n) n (bools seen)
  ib : Own wr w.heap.size tag 4 bi #[.int .i64 i] 3

section
variable {w : World} {G : Array Value} {FP : Value} {n : Nat} {ds : List Deferred} {wr wr' : World} {tag tag' : Nat → Nat} {bi i : Nat} {vs : Value} {seen : List Bool} {steps : List St}
theorem PInv.size (h : PInv w G FP n ds wr tag bi i vs seen steps) : w.heap.size + 1 + 1 + 1 + 1 + 1 < wr.heap.size := h.eb.lt
theorem PInv.call (h : PInv w G FP n ds wr tag bi i vs seen steps) (hb : Below wr.heap.size wr wr') : PInv w G FP n ds wr' tag bi i vs seen steps :=
  ⟨belCall h.below hb h.below.size, h.marks.below hb, h.g.below hb, h.fp.below hb, h.sb.below hb, h.st.below hb, h.eb.below hb, h.se.below hb, h.ib.below hb⟩
theorem PInv.others {s : Nat} {row : Option Nat} (h : PInv w G FP n ds wr tag bi i vs seen steps) (hg : wr.grownBy wr' row) (hs : ∀ D, mark D ∈ ds → D < s) (hws : w.heap.size ≤ s) (hr : ∀ r, row = some r → s ≤ r ∧ ∃ o : Obj, wr.heap[r]? = some o ∧ o.isCells = false) : PInv w G FP n ds wr' tag bi i vs seen steps :=
  ⟨belOthers h.below hg h.below.size hws (fun r e => (hr r e).1), h.marks.others hs hg (fun r e => (hr r e).1), h.g.others hg (fun r e => (hr r e).2), h.fp.others hg (fun r e => (hr r e).2), h.sb.others hg (fun r e => (hr r e).2), h.st.others hg (fun r e => (hr r e).2), h.eb.others hg (fun r e => (hr r e).2), h.se.others hg (fun r e => (hr r e).2), h.ib.others hg (fun r e => (hr r e).2)⟩
theorem PInv.retag {bx : Nat} {cx : Array Value} (h : PInv w G FP n ds wr tag bi i vs seen steps) (hx : wr.heap[bx]? = some (.cells cx 45 (0, 0))) : PInv w G FP n ds wr (tagUp tag bx 5) bi i vs seen steps :=
  ⟨h.below, h.marks, h.g.retag hx (by decide), h.fp.retag hx (by decide), h.sb.retag hx (by decide), h.st.retag hx (by decide), h.eb.retag hx (by decide), h.se.retag hx (by decide), h.ib.retag hx (by decide)⟩
/-- A flag is set. -/
theorem PInv.setSeen (h : PInv w G FP n ds wr tag bi i vs seen steps) (j : Nat) : PInv w G FP n ds (wr.setCell ⟨w.heap.size + 1 + 1 + 1 + 1, j, none⟩ (.bool true)) tag bi i vs (seen.set j true) steps ∧ Turn w.heap.size tag tag 1 wr (wr.setCell ⟨w.heap.size + 1 + 1 + 1 + 1, j, none⟩ (.bool true)) := by
  have h1 := h.se.set j (.bool true)
  rw [Nat.zero_add] at h1
  refine ⟨⟨belTurn h.below h1.2 h.below.size, h.marks.turn h1.2, h.g.turn h1.2 (by decide), h.fp.turn h1.2 (by decide), h.sb.turn h1.2 (by decide), h.st.turn h1.2 (by decide), h.eb.turn h1.2 (by decide), ?_, h.ib.turn h1.2 (by decide)⟩, h1.2⟩
  have h2 := h1.1
  rwa [show bools (seen.set j true) = (bools seen).set j (.bool true) from List.map_set ..]
/-- A new box for the number. -/
theorem PInv.newI (h : PInv w G FP n ds wr tag bi i vs seen steps) (j : Nat) : PInv w G FP n ds (wr.alloc (.cells #[.int .i64 j] 3)) (tagUp tag wr.heap.size 4) wr.heap.size j vs seen steps := by
  have hb := bel_alloc wr (.cells #[.int .i64 j] 3)
  have ht : Turn w.heap.size tag (tagUp tag wr.heap.size 4) 9 wr (wr.alloc (.cells #[.int .i64 j] 3)) := { Turn.below (B := w.heap.size) (tag := tag) (k := 9) hb with tags := fun b hb => tagUp_lt hb }
  exact ⟨belTurn h.below ht h.below.size, h.marks.turn ht, h.g.turn ht (by decide), h.fp.turn ht (by decide), h.sb.turn ht (by decide), h.st.turn ht (by decide), h.eb.turn ht (by decide), h.se.turn ht (by decide), Own.new _ _ _ _ _ _ h.below.size (tagUp_at _ _ _)⟩
/-- A step more, and the box that holds the list. -/
theorem PInv.push {vs' : Value} {x : St} (h : PInv w G FP n ds wr tag bi i vs seen steps) (hr : Row wr' w.heap.size tag' 2 115 3 vs' (steps.length + 1) (stCells steps ++ x.cells)) (ht : Turn w.heap.size tag tag' 2 wr wr') :
    PInv w G FP n ds (wr'.setCell ⟨w.heap.size + 1 + 1 + 1, 0, none⟩ vs') tag' bi i vs' seen (steps ++ [x]) := by
  have hs := h.sb.turn ht (by decide)
  have h1 := Turn.setCell hs 0 vs'
  have h2 := hs.set 0 vs'
  have hB : w.heap.size ≤ wr'.heap.size := Nat.le_trans h.below.size ht.size
  exact ⟨belTurn (belTurn h.below ht h.below.size) h1 hB, (h.marks.turn ht).turn h1, (h.g.turn ht (by decide)).turn h1 (by decide), (h.fp.turn ht (by decide)).turn h1 (by decide), h2, by rw [List.length_append, show stCells (steps ++ [x]) = stCells steps ++ x.cells by simp [stCells]]; exact hr.turn h1 (by decide), (h.eb.turn ht (by decide)).turn h1 (by decide), (h.se.turn ht (by decide)).turn h1 (by decide), (h.ib.turn ht (by decide)).turn h1 (by decide)⟩
/-- What is of another tag turns. -/
theorem PInv.turn {k : Nat} (h : PInv w G FP n ds wr tag bi i vs seen steps) (ht : Turn w.heap.size tag tag' k wr wr') (hk : 4 < k) : PInv w G FP n ds wr' tag' bi i vs seen steps :=
  ⟨belTurn h.below ht h.below.size, h.marks.turn ht, h.g.turn ht (by omega), h.fp.turn ht (by omega), h.sb.turn ht (by omega), h.st.turn ht (by omega), h.eb.turn ht (by omega), h.se.turn ht (by omega), h.ib.turn ht (by omega)⟩
/-- Another mark. -/
theorem PInv.mark {s D : Nat} (h : PInv w G FP n ds wr tag bi i vs seen steps) (hs : ∀ D', Go.Proofs.Ythchkddhibhenaa.mark D' ∈ ds → D' < s) (hD : s ≤ D) (hB : w.heap.size ≤ s) (hd : wr.heap[D]? = some (.deferred (some []))) : PInv w G FP n (Go.Proofs.Ythchkddhibhenaa.mark D :: ds) wr tag bi i vs seen steps :=
  { h with marks := h.marks.cons hs hD (Nat.le_trans hB hD) hd }
end
/-- The cells of one step. -/
theorem Row.at_step {w : World} {B : Nat} {tag : Nat → Nat} {k : Nat} {t : TypeId} {v : Value} {l : List St} (h : Row w B tag k t 3 v l.length (stCells l)) (i : Nat) (hi : i < l.length) :
    ∃ b off cap, v = .slice (some ⟨b, off, none⟩) l.length cap ∧ b < w.heap.size ∧ w.cell? ⟨b, off + i * 3, none⟩ = some (.int .i64 l[i].s) ∧ w.cell? ⟨b, off + i * 3 + 1, none⟩ = some (.int .i64 l[i].p) ∧ w.cell? ⟨b, off + i * 3 + 2, none⟩ = some (.int .i64 l[i].e) := by
  obtain ⟨b, off, cap, rfl, hlt, _⟩ := h.addr (by omega)
  refine ⟨b, off, cap, rfl, hlt, ?_, ?_, ?_⟩
  · have := h.cellAt (i * 3 + 0) (by omega)
    rw [flat_at St.cells 3 (fun _ => rfl) l i 0 hi (by omega)] at this
    exact this
  · have := h.cellAt (i * 3 + 1) (by omega)
    rw [flat_at St.cells 3 (fun _ => rfl) l i 1 hi (by omega)] at this
    rw [Nat.add_assoc]; exact this
  · have := h.cellAt (i * 3 + 2) (by omega)
    rw [flat_at St.cells 3 (fun _ => rfl) l i 2 hi (by omega)] at this
    rw [Nat.add_assoc]; exact this
end Go.Proofs.Ythchkddhibhenaa

namespace Go.Proofs.Ythchkddhibhenaa

/-- How many edges begin before s. -/
def fstN (es : List Ed) (s : Int) : Nat := es.countP fun x => decide (x.f < s)
theorem fstN_le (es : List Ed) (s : Int) : fstN es s ≤ es.length := List.countP_le_length
theorem fstN_mono (es : List Ed) (s t : Int) (h : s ≤ t) : fstN es s ≤ fstN es t := by
  apply List.countP_mono_left
  intro x _ hx
  simp only [decide_eq_true_eq] at hx ⊢
  omega
theorem firsts_get (n : Nat) (es : List Ed) (s : Nat) (h : s ≤ n) : (ints (firsts n es))[s]? = some (.int .i64 (fstN es s)) := by
  rw [List.getElem?_map, firsts, List.getElem?_map, List.getElem?_range (by omega)]; rfl
/-- The edges of a state, as the graph gives them. -/
def subOf (es : List Ed) (s : Int) : List Ed := edSub es (fstN es s) (fstN es (s + 1))
theorem subOf_mem {es : List Ed} {s : Int} {x : Ed} (h : x ∈ subOf es s) : x ∈ es := List.mem_of_mem_drop (List.mem_of_mem_take h)

/-- An edge is looked at: acc has the flags and the steps. -/
def pStep (perm : Ed → Bool) (i : Nat) (acc : List Bool × List St) (x : Ed) : List Bool × List St :=
  if acc.1[x.t.toNat]?.getD true = false ∧ perm x = true then (acc.1.set x.t.toNat true, acc.2 ++ [⟨x.t, i, x.e⟩]) else acc
/-- The search: where it ends, and the steps. -/
def bfs (sub : Int → List Ed) (want : Int → Bool) (perm : Ed → Bool) : Nat → Nat → List Bool → List St → Option (List St × Nat)
  | 0, _, _, _ => none
  | f + 1, i, seen, steps => match steps[i]? with
    | none => none
    | some x => if want x.s = true then some (steps, i) else
      bfs sub want perm f (i + 1) ((sub x.s).foldl (pStep perm i) (seen, steps)).1 ((sub x.s).foldl (pStep perm i) (seen, steps)).2
/-- The events of the steps back from a place. -/
def back (steps : List St) : Nat → Int → List Int
  | 0, _ => []
  | f + 1, k => match steps[k.toNat]? with
    | none => []
    | some x => if 0 ≤ x.p then x.e :: back steps f x.p else []

structure POk (n : Nat) (seen : List Bool) (steps : List St) : Prop where
  len : seen.length = n
  count : steps.length = seen.count true
  range : ∀ x ∈ steps, 0 ≤ x.s ∧ x.s < n
  parent : ∀ j (h : j < steps.length), -1 ≤ steps[j].p ∧ steps[j].p < j

theorem count_set {l : List Bool} {j : Nat} (h : l[j]? = some false) : (l.set j true).count true = l.count true + 1 := by
  induction l generalizing j with
  | nil => simp at h
  | cons a l ih =>
    cases j with
    | zero => simp at h; subst h; simp
    | succ j =>
      simp at h
      rw [List.set_cons_succ, List.count_cons, List.count_cons, ih h]
      omega
theorem POk.le {n : Nat} {seen : List Bool} {steps : List St} (h : POk n seen steps) : steps.length ≤ n := by
  rw [h.count, ← h.len]; exact List.count_le_length
theorem POk.push {n i : Nat} {seen : List Bool} {steps : List St} (h : POk n seen steps) (hi : i < steps.length) (t e : Int) (h0 : 0 ≤ t) (h1 : t < n) (hs : seen[t.toNat]? = some false) : POk n (seen.set t.toNat true) (steps ++ [⟨t, i, e⟩]) := by
  refine ⟨by simp [h.len], by rw [List.length_append, count_set hs, h.count]; rfl, fun x hx => ?_, fun j hj => ?_⟩
  · rcases List.mem_append.1 hx with h2 | h2
    · exact h.range x h2
    · rw [List.mem_singleton.1 h2]; exact ⟨h0, h1⟩
  · by_cases hlt : j < steps.length
    · rw [List.getElem_append_left hlt]; exact h.parent j hlt
    · have : j = steps.length := by simp at hj; omega
      subst this
      simp only [List.getElem_append_right (Nat.le_refl _), Nat.sub_self, List.getElem_singleton]
      omega
theorem POk.step {n i : Nat} {perm : Ed → Bool} {seen : List Bool} {steps : List St} (h : POk n seen steps) (hi : i < steps.length) (x : Ed) (h0 : 0 ≤ x.t) (h1 : x.t < n) :
    POk n (pStep perm i (seen, steps) x).1 (pStep perm i (seen, steps) x).2 ∧ i < (pStep perm i (seen, steps) x).2.length := by
  unfold pStep
  dsimp only
  split
  · rename_i hc
    have hlt : x.t.toNat < seen.length := by rw [h.len]; omega
    have hs : seen[x.t.toNat]? = some false := by
      have := hc.1
      rw [List.getElem?_eq_getElem hlt] at this ⊢
      simpa using this
    exact ⟨h.push hi _ _ h0 h1 hs, by simp; omega⟩
  · exact ⟨h, hi⟩
theorem POk.fold {n i : Nat} {perm : Ed → Bool} : ∀ (l : List Ed) {seen : List Bool} {steps : List St}, POk n seen steps → i < steps.length → (∀ x ∈ l, 0 ≤ x.t ∧ x.t < n) →
    POk n (l.foldl (pStep perm i) (seen, steps)).1 (l.foldl (pStep perm i) (seen, steps)).2 ∧ i < (l.foldl (pStep perm i) (seen, steps)).2.length
  | [], _, _, h, hi, _ => ⟨h, hi⟩
  | x :: l, seen, steps, h, hi, hx => by
    have h1 := h.step (perm := perm) hi x (hx x (List.mem_cons_self ..)).1 (hx x (List.mem_cons_self ..)).2
    exact POk.fold l h1.1 h1.2 (fun y hy => hx y (List.mem_cons_of_mem _ hy))
theorem POk.start (n from_ : Nat) (h : from_ < n) : POk n ((List.replicate n false).set from_ true) [⟨from_, -1, -1⟩] := by
  refine ⟨by simp, ?_, fun x hx => ?_, fun j hj => ?_⟩
  · rw [count_set (by rw [List.getElem?_replicate, if_pos h]), List.count_replicate]; rfl
  · rw [List.mem_singleton.1 hx]; exact ⟨by simp, by simp; omega⟩
  · have : j = 0 := by simp at hj; omega
    subst this; simp
theorem bfs_found {sub : Int → List Ed} {want : Int → Bool} {perm : Ed → Bool} {f i : Nat} {seen : List Bool} {steps : List St} (hi : i < steps.length) (hw : want steps[i].s = true) : bfs sub want perm (f + 1) i seen steps = some (steps, i) := by
  rw [bfs, List.getElem?_eq_getElem hi]; simp [hw]
theorem bfs_next {sub : Int → List Ed} {want : Int → Bool} {perm : Ed → Bool} {f i : Nat} {seen : List Bool} {steps : List St} (hi : i < steps.length) (hw : want steps[i].s = false) :
    bfs sub want perm (f + 1) i seen steps = bfs sub want perm f (i + 1) ((sub steps[i].s).foldl (pStep perm i) (seen, steps)).1 ((sub steps[i].s).foldl (pStep perm i) (seen, steps)).2 := by
  rw [bfs, List.getElem?_eq_getElem hi]; simp [hw]
theorem bfs_end {sub : Int → List Ed} {want : Int → Bool} {perm : Ed → Bool} {f i : Nat} {seen : List Bool} {steps : List St} (hi : steps.length ≤ i) : bfs sub want perm (f + 1) i seen steps = none := by
  rw [bfs, List.getElem?_eq_none hi]
theorem back_next {steps : List St} {f k : Nat} (hk : k < steps.length) (hp : 0 ≤ steps[k].p) : back steps (f + 1) k = steps[k].e :: back steps f steps[k].p := by
  rw [back, Int.toNat_natCast, List.getElem?_eq_getElem hk]; simp [hp]
theorem back_end {steps : List St} {f k : Nat} (hk : k < steps.length) (hp : steps[k].p < 0) : back steps (f + 1) k = [] := by
  rw [back, Int.toNat_natCast, List.getElem?_eq_getElem hk]; simp; omega

/-- The word that path returns, and whether there is one. -/
def pathF (n : Nat) (es : List Ed) (want : Int → Bool) (perm : Ed → Bool) (from_ : Nat) : Option (List Int) :=
  (bfs (subOf es) want perm (n + 1) 0 ((List.replicate n false).set from_ true) [⟨from_, -1, -1⟩]).map fun r => (back r.1 (r.2 + 1) r.2).reverse
end Go.Proofs.Ythchkddhibhenaa

namespace Go.Proofs.Ythchkddhibhenaa
open Go.RowKit

/-- The first and the last k have changed places. -/
def revK (xs : List Int) (k : Nat) : List Int := (List.range xs.length).map fun m => if m < k ∨ xs.length - k ≤ m then xs.getD (xs.length - 1 - m) 0 else xs.getD m 0
theorem revK_zero (xs : List Int) : revK xs 0 = xs := by
  apply List.ext_getElem
  · simp [revK]
  · intro i h1 h2
    simp only [revK, List.getElem_map, List.getElem_range]
    rw [if_neg (by omega), List.getD_eq_getElem?_getD, List.getElem?_eq_getElem h2]; rfl
theorem revK_get (xs : List Int) (k m : Nat) (hm : m < xs.length) (h : ¬ (m < k ∨ xs.length - k ≤ m)) : (ints (revK xs k))[m]? = some (.int .i64 (xs.getD m 0)) := by
  rw [List.getElem?_map, revK, List.getElem?_map, List.getElem?_range hm]
  simp only [Option.map_some]
  rw [if_neg h]
theorem revK_step (xs : List Int) (k : Nat) (h : 2 * k + 1 < xs.length) : ints (revK xs (k + 1)) = ((ints (revK xs k)).set k (.int .i64 (xs.getD (xs.length - 1 - k) 0))).set (xs.length - 1 - k) (.int .i64 (xs.getD k 0)) := by
  apply List.ext_getElem
  · simp [revK]
  · intro i g1 g2
    have hi : i < xs.length := by simpa [revK] using g1
    rw [List.getElem_set, List.getElem_set]
    simp only [revK, List.getElem_map, List.getElem_range]
    by_cases e1 : xs.length - 1 - k = i
    · rw [if_pos e1, if_pos (by omega)]
      congr 2
      omega
    · rw [if_neg e1]
      by_cases e2 : k = i
      · rw [if_pos e2, if_pos (by omega)]
        congr 2
        omega
      · rw [if_neg e2]
        by_cases e3 : i < k ∨ xs.length - k ≤ i
        · rw [if_pos e3, if_pos (by omega)]
        · rw [if_neg e3, if_neg (by omega)]
theorem revK_all (xs : List Int) (k : Nat) (h : xs.length ≤ 2 * k + 1) : revK xs k = xs.reverse := by
  apply List.ext_getElem
  · simp [revK]
  · intro i h1 h2
    have hi : i < xs.length := by simpa using h2
    simp only [revK, List.getElem_map, List.getElem_range, List.getElem_reverse]
    split
    · rw [List.getD_eq_getElem?_getD, List.getElem?_eq_getElem (by omega)]; rfl
    · have : xs.length - 1 - i = i := by omega
      rw [List.getD_eq_getElem?_getD, List.getElem?_eq_getElem hi, Option.getD_some]
      congr 1
      exact this.symm

set_option maxRecDepth 100000 in
theorem reverse_any (v : Value) (xs : List Int) (w : World) (B : Nat) (tag : Nat → Nat) (k0 : Nat) (hr : Row w B tag k0 3 1 v xs.length (ints xs)) (hl : xs.length ≤ 1000000) :
    Calls Try.prog 79 #[v] w fun e w' => (∃ r, e = .returned r) ∧ Row w' B tag k0 3 1 v xs.length (ints xs.reverse) ∧ Turn B tag tag k0 w w' := by
  obtain ⟨a, cap, rfl⟩ := hr.val
  go_enter Try.func79, Try.ntmps79
  go_wp2_with fail
  go_loopw [2, 3] (fun i j wr => ∃ k : Nat, i = .int .i64 k ∧ j = .int .i64 ((xs.length : Int) - 1 - k) ∧ 2 * k ≤ xs.length + 1 ∧ Row wr B tag k0 3 1 (.slice a xs.length cap) xs.length (ints (revK xs k)) ∧ Turn B tag tag k0 w wr) (fun i _ _ => xs.length - (intOf i).toNat)
  case atStart => exact ⟨0, rfl, by simp, by omega, by rw [revK_zero]; exact hr, Turn.refl _ _ _ _⟩
  case round =>
    obtain ⟨k, rfl, rfl, hk, hrow, ht⟩ := hrel
    by_cases hlt : 2 * k + 1 < xs.length
    · obtain ⟨b, off, cap', e1, hbl, _⟩ := hrow.addr (by omega)
      cases e1
      have c1 := hrow.cellAt k (by omega)
      rw [revK_get xs k k (by omega) (by omega)] at c1
      have c2 := hrow.cellAt (xs.length - 1 - k) (by omega)
      rw [revK_get xs k (xs.length - 1 - k) (by omega) (by omega)] at c2
      have f1 := hrow.frozenAt (off + k)
      have f2 := hrow.frozenAt (off + (xs.length - 1 - k))
      have s1 := hrow.set k (.int .i64 (xs.getD (xs.length - 1 - k) 0))
      have s2 := s1.1.set (xs.length - 1 - k) (.int .i64 (xs.getD k 0))
      rw [← revK_step xs k hlt] at s2
      have S1 := Lib.hid s1.2
      have S2 := Lib.hid s2
      have c3 : (wr.setCell ⟨b, off + k, none⟩ (.int .i64 (xs.getD (xs.length - 1 - k) 0))).cell? ⟨b, off + (xs.length - 1 - k), none⟩ = some (.int .i64 (xs.getD (xs.length - 1 - k) 0)) := by
        rw [World.cell?_setCell_other, c2]
        intro e; simp at e; try omega
      clear s1 s2 hr
      generalize xs.getD (xs.length - 1 - k) 0 = p at *
      generalize xs.getD k 0 = q at *
      have hidx : ((xs.length : Int) - 1 - k).toNat = xs.length - 1 - k := by omega
      go_wp2
      go_region
      go_wp2
      go_roundw
      case rel => exact ⟨k + 1, by go_num, by congr 1; omega, by omega, S2.out.1.below (bel_drew _), ((ht.trans S1.out).trans S2.out.2).trans (Turn.below (bel_drew _))⟩
      case measure => simp [intOf]; omega
    · go_wp2
      refine ⟨rfl, .tuple #[], by simp [results, Try.results79], ⟨⟨_, rfl⟩, by rw [revK_all xs k (by omega)] at hrow; exact hrow, ht⟩⟩
end Go.Proofs.Ythchkddhibhenaa

namespace Go.Proofs.Ythchkddhibhenaa
open Go.RowKit

theorem wpListIn_append_row {F : Fence} {nF : Nat} {P : Program} {ops : Array Oper} {rest : List Oper} {o : Oper} {a : Act} {Q : Exit → Act → World → Prop}
    {w : World} {B : Nat} {tag : Nat → Nat} {k : Nat} {sz : Nat} {v : Value} {n : Nat} {cs : List Value} (hgd : o.guard = none) (s x : Operand) (tt : TypeId)
    (ho : o.op = .call { callee := .builtin .append, args := #[s, x], argTypes := #[tt, tt] })
    (e : TypeId) (i : TypeInfo) (z : Value) (bytes : Nat) (ht : P.underlying tt = some (.slice e)) (hi : P.info? e = some i) (hz : i.zero = some z)
    (hsize : i.size = sz) (hby : i.bytes = bytes) (hzs : z.cells.size = sz) (hs : a.eval s = v) (hrow : Row w B tag k e sz v n cs)
    (ao : Option Addr) (m c : Nat) (news : List Value) (hx : a.eval x = .slice ao m c) (hl : news.length = m * sz) (hnone : ao = none → m = 0 ∧ c = 0)
    (hnews : ∀ ad, ao = some ad → ∀ j u, news[j]? = some u → w.cell? (ad.add j) = some u) (h1 : ∀ u ∈ news, u.oneCell' = true)
    (h63 : n + m ≤ maxLen) (hbytes : (n + m) * bytes ≤ 140737488355328) (hB : B ≤ w.heap.size)
    (h : ∀ v' w' tag', Row w' B tag' k e sz v' (n + m) (cs ++ news) → Turn B tag tag' k w w' → wpListIn F nF P ops Q rest (a.put o.dst v') w') : wpListIn F nF P ops Q (o :: rest) a w := by
  refine wpListIn_plain hgd fun K hK' => ?_
  obtain ⟨v', w', tag', hrun, h2, h3⟩ := run_append_row (P := P) (w := w) (ty := o.type) tt e i z bytes ht hi hz hsize hby hzs hrow ao m c news hl hnone hnews h1 h63 hbytes hB
  unfold Oper.wpIn
  refine ⟨?_, ?_⟩
  · simp [Oper.about, ho, resolve, Target.leads, Sem.run_pure]
  · rw [Oper.semAt_plain F _ _ (by rw [ho]; intro c hc'; cases hc')]
    simp [execOp, ho, resolve, invoke, builtin, hs, hx, hrun, Result.andThen]
    exact hK' _ _ (h v' w' tag' h2 h3)
end Go.Proofs.Ythchkddhibhenaa

namespace Go.Proofs.Ythchkddhibhenaa
open Go.RowKit Go.Shelf
attribute [local go_sem] Oper.semAt_some

/-- What path returns. -/
def PathPost : Option (List Int) → Value → World → Prop
  | some xs, u, w' => ∃ v, u = .tuple #[v, .bool true] ∧ RdI w' v xs
  | none, u, _ => u = .tuple #[.slice none 0 0, .bool false]

def PathPostB (B : Nat) : Option (List Int) → Value → World → Prop
  | some xs, u, w' => ∃ v, u = .tuple #[v, .bool true] ∧ RdI w' v xs ∧ FreshV B v
  | none, u, _ => u = .tuple #[.slice none 0 0, .bool false]
theorem PathPostB.old {B : Nat} {r : Option (List Int)} {u : Value} {w' : World} (h : PathPostB B r u w') : PathPost r u w' := by
  cases r with
  | none => exact h
  | some xs => obtain ⟨v, h1, h2, _⟩ := h; exact ⟨v, h1, h2⟩
/-- How far the search is from its end: its place stands in the box that slot 12 points to. -/
def pathMu (n : Nat) (a : Act) (w : World) : Nat := match a.tmps.getD 12 undef with
  | .pointer (some ad) => n - (intOf ((w.cell? ad).getD undef)).toNat
  | _ => 0

theorem Try.info_step : (Try.prog.info? 115).map (fun i => (i.zero, i.size, i.bytes)) = some (some (.agg #[.int .i64 0, .int .i64 0, .int .i64 0]), 3, 24) := by kernel_rfl

set_option maxRecDepth 100000 in
set_option maxHeartbeats 4000000 in
theorem path_anyB (aa am ae af : Option Addr) (la lm ca cm ce cf : Nat) (n from_ : Nat) (es : List Ed) (fw fp : FuncId) (capw capp : Array Value) (want : Int → Bool) (perm : Ed → Bool) (w : World)
    (hre : RdS w 3 ae es.length ce (edCells es)) (hrf : RdS w 1 af (n + 1) cf (ints (firsts n es))) (hl : es.length ≤ 1000000) (hn : n ≤ 1000000) (hfrom : from_ < n) (hin : ∀ x ∈ es, 0 ≤ x.t ∧ x.t < n)
    (hew : Enters Try.prog fw) (hep : Enters Try.prog fp)
    (hw : ∀ (s : Int) (W : World), 0 ≤ s → s < n → Below w.heap.size w W → Calls Try.prog fw (#[.int .i64 s] ++ capw) W fun e w' => e = .returned (.bool (want s)) ∧ Below W.heap.size W w')
    (hp : ∀ (x : Ed) (W : World), x ∈ es → Below w.heap.size w W → Calls Try.prog fp (#[x.val] ++ capp) W fun e w' => e = .returned (.bool (perm x)) ∧ Below W.heap.size W w') :
    Calls Try.prog 53 #[.agg #[.slice aa la ca, .int .i64 n, .slice am lm cm, .slice ae es.length ce, .slice af (n + 1) cf], .int .i64 from_, .func (.func fw) #[] capw, .func (.func fp) #[] capp] w
      (Ret w fun u w' => PathPostB w.heap.size (pathF n es want perm from_) u w') := by
  obtain ⟨bf, offf, rfl, hcf⟩ := hrf.at_elem 0 (by omega)
  obtain ⟨i0, hi, hz0, hz1, hz2⟩ := info_parts Try.info_bool
  have hmk := fun W : World => run_make (P := Try.prog) W 86 4 i0 (.bool false) Try.underlying86 hi hz0 .i64 .i64 (n : Int) (n : Int) (by omega) (by omega) (by rw [hz2]; omega) (by omega)
  rw [hz1] at hmk
  simp only [Int.toNat_natCast, Nat.mul_one, Value.cells] at hmk
  have hmc : (madeCells #[Value.bool false] n)[from_]? = some (.bool false) := by
    rw [← Array.getElem?_toList, toList_madeCells_one, List.getElem?_replicate, if_pos hfrom]
  have Hcf := Lib.hid hcf
  clear hcf
  have Hw := Lib.hid hw
  have Hp := Lib.hid hp
  have Hin := Lib.hid hin
  have Hew := Lib.hid hew
  have Hep := Lib.hid hep
  clear hw hp hin hew hep
  refine calls_of_marks Try.func53 rfl ?_
  simp only [Try.ntmps53, List.size_toArray, List.length_cons, List.length_nil, Nat.reduceAdd, Nat.reduceSub, Array.replicate_succ, Array.replicate_zero, List.push_toArray, List.append_toArray, List.nil_append, List.cons_append]
  go_wp2_with fail
  clear hmk hmc
  refine wp_loop (fun a' wr => ∃ (v12 v13 v14 v15 v26 v27 v28 v29 v30 v31 v32 v33 v34 v35 v36 v37 v38 v39 v40 v41 v42 v43 v44 v45 v46 v47 v48 v49 v50 v51 v52 v53 v54 v55 v56 v57 v58 v59 v60 v61 v62 v63 v64 v65 v66 v67 v68 v69 v70 v71 v72 v73 v74 v75 v76 v77 v78 v79 v80 v81 v82 v83 v84 v85 v86 v87 v88 v89 v90 v91 v92 v93 v94 : Value) (ds : List Deferred) (tag : Nat → Nat) (bi i : Nat) (vs : Value) (seen : List Bool) (steps : List St), v12 = .pointer (some ⟨bi, 0, none⟩) ∧
      PInv w #[.slice aa la ca, .int .i64 n, .slice am lm cm, .slice ae es.length ce, .slice (some ⟨bf, offf, none⟩) (n + 1) cf] (.func (.func fp) #[] capp) n ds wr tag bi i vs seen steps ∧ POk n seen steps ∧ i ≤ steps.length ∧
      Hid (bfs (subOf es) want perm (n + 1) 0 ((List.replicate n false).set from_ true) [⟨from_, -1, -1⟩] = bfs (subOf es) want perm (n + 1 - i) i seen steps) ∧
      a' = { tmps := #[Value.agg #[.slice aa la ca, .int .i64 n, .slice am lm cm, .slice ae es.length ce, .slice (some ⟨bf, offf, none⟩) (n + 1) cf], Value.int .i64 from_, Value.func (.func fw) #[] capw, Value.func (.func fp) #[] capp, Value.pointer (some ⟨w.heap.size, 0, none⟩), undef, undef, Value.pointer (some ⟨w.heap.size + 1, 0, none⟩), Value.slice none 0 0, Value.bool false, Value.pointer (some ⟨w.heap.size + 1 + 1 + 1, 0, none⟩), Value.pointer (some ⟨w.heap.size + 1 + 1 + 1 + 1 + 1, 0, none⟩), v12, v13, v14, v15, Value.int .i64 from_, Value.agg #[.int .i64 from_, .int .i64 (-1), .int .i64 (-1)], Value.slice (some ⟨w.heap.size + 1 + 1, 0, none⟩) 1 1, Value.pointer (some ⟨w.heap.size, 0, none⟩), Value.pointer (some ⟨w.heap.size, 1, none⟩), Value.int .i64 n, Value.slice (some ⟨w.heap.size + 1 + 1 + 1 + 1, 0, none⟩) n n, Value.slice (some ⟨w.heap.size + 1 + 1 + 1 + 1, 0, none⟩) n n, Value.int .i64 from_, Value.pointer (some ⟨w.heap.size + 1 + 1 + 1 + 1, from_, none⟩), v26, v27, v28, v29, v30, v31, v32, v33, v34, v35, v36, v37, v38, v39, v40, v41, v42, v43, v44, v45, v46, v47, v48, v49, v50, v51, v52, v53, v54, v55, v56, v57, v58, v59, v60, v61, v62, v63, v64, v65, v66, v67, v68, v69, v70, v71, v72, v73, v74, v75, v76, v77, v78, v79, v80, v81, v82, v83, v84, v85, v86, v87, v88, v89, v90, v91, v92, v93, v94], defers := ds }) (fun a' wr => pathMu n a' wr) ?_ ?_
  · repeat apply Exists.intro
    refine ⟨rfl, (?_ : PInv _ _ _ _ _ _ (fun b => if b = w.heap.size + 1 + 1 then 2 else if b = w.heap.size + 1 + 1 + 1 then 3 else if b = w.heap.size + 1 + 1 + 1 + 1 then 1 else if b = w.heap.size + 1 + 1 + 1 + 1 + 1 + 1 then 4 else 0) _ 0 _ ((List.replicate n false).set from_ true) [⟨from_, -1, -1⟩]), POk.start n from_ hfrom, Nat.zero_le _, rfl, rfl⟩
    refine ⟨(by (repeat (first | with_reducible exact Below.refl _ _ | with_reducible exact hre | (with_reducible refine belCall ?_ hre (by first | omega | (simp; done) | (simp; omega) | (simp at *; omega))) | (with_reducible refine Below.alloc ?_ (by first | omega | (simp; done) | (simp; omega) | (simp at *; omega)) _) | (with_reducible refine Below.drew ?_) | (with_reducible refine Below.setCell ?_ (by first | omega | (simp; done) | (simp; omega) | (simp at *; omega)) _)))), Marks.nil _ _, ⟨(by repeat (first | with_reducible assumption | (refine heap_drewp ?_) | (refine heap_at ?_; (first | rfl | (simp; done) | (simp; omega))) | (refine heap_past ?_ ?_; (next => first | omega | (simp; done) | (simp; omega))))), (by (try dsimp only); (repeat' split); all_goals omega), by omega⟩, ⟨(by repeat (first | with_reducible assumption | (refine heap_drewp ?_) | (refine heap_at ?_; (first | rfl | (simp; done) | (simp; omega))) | (refine heap_past ?_ ?_; (next => first | omega | (simp; done) | (simp; omega))))), (by (try dsimp only); (repeat' split); all_goals omega), by omega⟩, ⟨(by repeat (first | with_reducible assumption | (refine heap_drewp ?_) | (refine heap_at ?_; (first | rfl | (simp; done) | (simp; omega))) | (refine heap_past ?_ ?_; (next => first | omega | (simp; done) | (simp; omega))))), (by (try dsimp only); (repeat' split); all_goals omega), by omega⟩, ⟨by simp [stCells, St.cells], .inr ⟨_, 0, 1, _, rfl, ⟨(by repeat (first | with_reducible assumption | (refine heap_drewp ?_) | (refine heap_at ?_; (first | rfl | (simp; done) | (simp; omega))) | (refine heap_past ?_ ?_; (next => first | omega | (simp; done) | (simp; omega))))), (by (try dsimp only); (repeat' split); all_goals omega), by omega⟩, Nat.le_refl _, by simp [maxLen], by simp, by simp [stCells, St.cells]⟩⟩, ⟨(by repeat (first | with_reducible assumption | (refine heap_drewp ?_) | (refine heap_at ?_; (first | rfl | (simp; done) | (simp; omega))) | (refine heap_past ?_ ?_; (next => first | omega | (simp; done) | (simp; omega))))), (by (try dsimp only); (repeat' split); all_goals omega), by omega⟩, ⟨by simp, .inr ⟨_, 0, n, _, rfl, ⟨(by repeat (first | with_reducible assumption | (refine heap_drewp ?_) | (refine heap_at ?_; (first | rfl | (simp; done) | (simp; omega))) | (refine heap_past ?_ ?_; (next => first | omega | (simp; done) | (simp; omega))))), (by (try dsimp only); (repeat' split); all_goals omega), by omega⟩, Nat.le_refl _, by unfold maxLen; omega, by simp [size_madeCells], ?_⟩⟩, ⟨(by repeat (first | with_reducible assumption | (refine heap_drewp ?_) | (refine heap_at ?_; (first | rfl | (simp; done) | (simp; omega))) | (refine heap_past ?_ ?_; (next => first | omega | (simp; done) | (simp; omega))))), (by (try dsimp only); (repeat' split); all_goals omega), by omega⟩⟩
    rw [List.drop_zero, Nat.mul_one, List.take_of_length_le (by simp [size_madeCells]), Array.toList_setIfInBounds, toList_madeCells_one]
    simp
  · intro _ wr h
    obtain ⟨v12, h⟩ := h
    obtain ⟨v13, h⟩ := h
    obtain ⟨v14, h⟩ := h
    obtain ⟨v15, h⟩ := h
    obtain ⟨v26, h⟩ := h
    obtain ⟨v27, h⟩ := h
    obtain ⟨v28, h⟩ := h
    obtain ⟨v29, h⟩ := h
    obtain ⟨v30, h⟩ := h
    obtain ⟨v31, h⟩ := h
    obtain ⟨v32, h⟩ := h
    obtain ⟨v33, h⟩ := h
    obtain ⟨v34, h⟩ := h
    obtain ⟨v35, h⟩ := h
    obtain ⟨v36, h⟩ := h
    obtain ⟨v37, h⟩ := h
    obtain ⟨v38, h⟩ := h
    obtain ⟨v39, h⟩ := h
    obtain ⟨v40, h⟩ := h
    obtain ⟨v41, h⟩ := h
    obtain ⟨v42, h⟩ := h
    obtain ⟨v43, h⟩ := h
    obtain ⟨v44, h⟩ := h
    obtain ⟨v45, h⟩ := h
    obtain ⟨v46, h⟩ := h
    obtain ⟨v47, h⟩ := h
    obtain ⟨v48, h⟩ := h
    obtain ⟨v49, h⟩ := h
    obtain ⟨v50, h⟩ := h
    obtain ⟨v51, h⟩ := h
    obtain ⟨v52, h⟩ := h
    obtain ⟨v53, h⟩ := h
    obtain ⟨v54, h⟩ := h
    obtain ⟨v55, h⟩ := h
    obtain ⟨v56, h⟩ := h
    obtain ⟨v57, h⟩ := h
    obtain ⟨v58, h⟩ := h
    obtain ⟨v59, h⟩ := h
    obtain ⟨v60, h⟩ := h
    obtain ⟨v61, h⟩ := h
    obtain ⟨v62, h⟩ := h
    obtain ⟨v63, h⟩ := h
    obtain ⟨v64, h⟩ := h
    obtain ⟨v65, h⟩ := h
    obtain ⟨v66, h⟩ := h
    obtain ⟨v67, h⟩ := h
    obtain ⟨v68, h⟩ := h
    obtain ⟨v69, h⟩ := h
    obtain ⟨v70, h⟩ := h
    obtain ⟨v71, h⟩ := h
    obtain ⟨v72, h⟩ := h
    obtain ⟨v73, h⟩ := h
    obtain ⟨v74, h⟩ := h
    obtain ⟨v75, h⟩ := h
    obtain ⟨v76, h⟩ := h
    obtain ⟨v77, h⟩ := h
    obtain ⟨v78, h⟩ := h
    obtain ⟨v79, h⟩ := h
    obtain ⟨v80, h⟩ := h
    obtain ⟨v81, h⟩ := h
    obtain ⟨v82, h⟩ := h
    obtain ⟨v83, h⟩ := h
    obtain ⟨v84, h⟩ := h
    obtain ⟨v85, h⟩ := h
    obtain ⟨v86, h⟩ := h
    obtain ⟨v87, h⟩ := h
    obtain ⟨v88, h⟩ := h
    obtain ⟨v89, h⟩ := h
    obtain ⟨v90, h⟩ := h
    obtain ⟨v91, h⟩ := h
    obtain ⟨v92, h⟩ := h
    obtain ⟨v93, h⟩ := h
    obtain ⟨v94, h⟩ := h
    obtain ⟨ds, tag, bi, i, vs, seen, steps, rfl, hI, hok, hi0, hbfs, rfl⟩ := h
    have hsz := hI.size
    have k0 : wr.cell? ⟨bi, 0, none⟩ = some (.int .i64 i) := hI.ib.cell 0
    have k1 : wr.cell? ⟨w.heap.size + 1 + 1 + 1, 0, none⟩ = some vs := hI.sb.cell 0
    have Hk0 := Lib.hid k0
    by_cases hlt : i < steps.length
    · obtain ⟨bs, os, cs, rfl, hbs, s0, s1, s2⟩ := hI.st.at_step i hlt
      have hen : ∀ args W, (callFunc fw args).run Try.prog W = .ok (.enter fw args) W := Hew.out
      have hHen := Lib.hid hen
      clear hen
      have hsr := hok.range steps[i] (List.getElem_mem hlt)
      cases hwant : want steps[i].s
      · have Hwant := Lib.hid hwant
        clear hwant
        go_wp2_with fail
        rw [hHen.out, Oper.upon_enter]
        refine (Hw.out steps[i].s wr hsr.1 hsr.2 hI.below).mono ?_
        rintro e w1 ⟨he, hb1⟩
        rw [Hwant.out] at he
        subst he
        dsimp only
        have hI1 := hI.call hb1
        clear k0 k1 s0 s1 s2
        have hsz1 := hI1.size
        have k0 : w1.cell? ⟨bi, 0, none⟩ = some (.int .i64 i) := hI1.ib.cell 0
        obtain ⟨bs', os', cs', e1, hbs', s0, s1, s2⟩ := hI1.st.at_step i hlt
        cases e1
        have k1 : w1.cell? ⟨w.heap.size + 1 + 1 + 1, 0, none⟩ = some (.slice (some ⟨bs, os, none⟩) steps.length cs) := hI1.sb.cell 0
        have g0 : w1.cell? ⟨w.heap.size, 0, none⟩ = some (Value.slice aa la ca) := hI1.g.cell 0
        have g1 : w1.cell? ⟨w.heap.size, 1, none⟩ = some (Value.int .i64 n) := hI1.g.cell 1
        have g2 : w1.cell? ⟨w.heap.size, 2, none⟩ = some (Value.slice am lm cm) := hI1.g.cell 2
        have g3 : w1.cell? ⟨w.heap.size, 3, none⟩ = some (Value.slice ae es.length ce) := hI1.g.cell 3
        have g4 : w1.cell? ⟨w.heap.size, 4, none⟩ = some (Value.slice (some ⟨bf, offf, none⟩) (n + 1) cf) := hI1.g.cell 4
        go_wp2_with fail
        go_still_tail 6, (by kernel_rfl)
        change wpList _ _ _ _ _ w1.drew
        have hI2 := hI1.call (bel_drew w1)
        clear g0 g1 g2 g3 g4 k0 k1 s0 s1 s2 hI1 hsz1 hb1 hbs' hbs hI
        generalize w1.drew = w2 at *
        go_wp2_with (go_at_call 68; refine (edges_any _ _ _ _ _ _ _ _ _ _ _ _ _ _ _).mono ?_; rintro e w3 ⟨rfl, rfl⟩)
        have hI3 := (hI2.call (bel_alloc w2 (.cells #[.slice aa la ca, .int .i64 n, .slice am lm cm, .slice ae es.length ce, .slice (some ⟨bf, offf, none⟩) (n + 1) cf] 80))).call (bel_alloc _ (.cells #[.int .i64 steps[i].s] 3))
        have hg3 : ((w2.alloc (.cells #[.slice aa la ca, .int .i64 n, .slice am lm cm, .slice ae es.length ce, .slice (some ⟨bf, offf, none⟩) (n + 1) cf] 80)).alloc (.cells #[.int .i64 steps[i].s] 3)).cell? ⟨w2.heap.size, 3, none⟩ = some (.slice ae es.length ce) := by simp [go_sem]
        have hg4 : ((w2.alloc (.cells #[.slice aa la ca, .int .i64 n, .slice am lm cm, .slice ae es.length ce, .slice (some ⟨bf, offf, none⟩) (n + 1) cf] 80)).alloc (.cells #[.int .i64 steps[i].s] 3)).cell? ⟨w2.heap.size, 4, none⟩ = some (.slice (some ⟨bf, offf, none⟩) (n + 1) cf) := by simp [go_sem]
        have hg5 : ((w2.alloc (.cells #[.slice aa la ca, .int .i64 n, .slice am lm cm, .slice ae es.length ce, .slice (some ⟨bf, offf, none⟩) (n + 1) cf] 80)).alloc (.cells #[.int .i64 steps[i].s] 3)).cell? ⟨w2.heap.size + 1, 0, none⟩ = some (.int .i64 steps[i].s) := by simp [go_sem]
        clear hI2
        generalize (w2.alloc (.cells #[.slice aa la ca, .int .i64 n, .slice am lm cm, .slice ae es.length ce, .slice (some ⟨bf, offf, none⟩) (n + 1) cf] 80)).alloc (.cells #[.int .i64 steps[i].s] 3) = w3 at *
        have hfc : ∀ s : Nat, s ≤ n → w3.cell? ⟨bf, offf + s, none⟩ = some (.int .i64 (fstN es s)) := by
          intro s hs
          have h1 := Hcf.out s (by simp [firsts]; omega)
          have h2 := firsts_get n es s hs
          rw [List.getElem?_eq_getElem (by simp [firsts]; omega)] at h2
          rw [Option.some.inj h2] at h1
          exact keep0 hI3.below h1
        have hseq := edges_stops w2.heap.size (w2.heap.size + 1) w.heap.size ae (some ⟨bf, offf, none⟩) ce (n + 1) cf steps[i].s es (fstN es steps[i].s) (fstN es (steps[i].s + 1)) (fstN_mono es _ _ (by omega)) (fstN_le es _) hl w3 hI3.below.size hg3 hg4 hg5 hsr.1 (by omega) bf offf rfl (by omega)
          (by have := hfc steps[i].s.toNat (by omega); rwa [Int.toNat_of_nonneg hsr.1] at this) (by have := hfc (steps[i].s + 1).toNat (by omega); rwa [Int.toNat_of_nonneg (by omega)] at this) (hre.mono hI3.below) (fun h0 ad e => World.block_lt_of_cell? w ⟨ad.block, ad.off + 0, none⟩ (hre.cell ad e 0 (by rw [hre.hlen]; omega)))
        clear hg3 hg4 hg5 hfc
        refine wp_edges (bg := w2.heap.size) (bs := w2.heap.size + 1) (n₀ := w.heap.size) rfl hseq (Below.refl _ _) hI3.below.size rfl
          (fun pre W => (∀ y ∈ pre, y ∈ subOf es steps[i].s) ∧ ∃ tag vs, PInv w #[.slice aa la ca, .int .i64 n, .slice am lm cm, .slice ae es.length ce, .slice (some ⟨bf, offf, none⟩) (n + 1) cf] (.func (.func fp) #[] capp) n ds W tag bi i vs (pre.foldl (pStep perm i) (seen, steps)).1 (pre.foldl (pStep perm i) (seen, steps)).2)
          ?hI ⟨by simp, tag, _, hI3⟩
          (fun x a' W => ∃ Bx, w.heap.size ≤ Bx ∧ W.heap[Bx]? = some (.cells #[.int .i64 x.f, .int .i64 x.e, .int .i64 x.t] 45 (0, 0)) ∧ a' = { tmps := #[Value.agg #[.slice aa la ca, .int .i64 n, .slice am lm cm, .slice ae es.length ce, .slice (some ⟨bf, offf, none⟩) (n + 1) cf], Value.int .i64 from_, Value.func (.func fw) #[] capw, Value.func (.func fp) #[] capp, Value.pointer (some ⟨w.heap.size, 0, none⟩), undef, undef, Value.pointer (some ⟨w.heap.size + 1, 0, none⟩), Value.slice none 0 0, Value.bool false, Value.pointer (some ⟨w.heap.size + 1 + 1 + 1, 0, none⟩), Value.pointer (some ⟨w.heap.size + 1 + 1 + 1 + 1 + 1, 0, none⟩), Value.pointer (some ⟨bi, 0, none⟩), v13, v14, Value.pointer (some ⟨Bx, 0, none⟩), Value.int .i64 from_, Value.agg #[.int .i64 from_, .int .i64 (-1), .int .i64 (-1)], Value.slice (some ⟨w.heap.size + 1 + 1, 0, none⟩) 1 1, Value.pointer (some ⟨w.heap.size, 0, none⟩), Value.pointer (some ⟨w.heap.size, 1, none⟩), Value.int .i64 n, Value.slice (some ⟨w.heap.size + 1 + 1 + 1 + 1, 0, none⟩) n n, Value.slice (some ⟨w.heap.size + 1 + 1 + 1 + 1, 0, none⟩) n n, Value.int .i64 from_, Value.pointer (some ⟨w.heap.size + 1 + 1 + 1 + 1, from_, none⟩), Value.int .i64 i, Value.slice (some ⟨bs, os, none⟩) steps.length cs, Value.int .i64 steps.length, Value.bool true, v30, v31, Value.func (.func fw) #[] capw, Value.slice (some ⟨bs, os, none⟩) steps.length cs, Value.int .i64 i, Value.pointer (some ⟨bs, os + i * 3, none⟩), Value.pointer (some ⟨bs, os + i * 3, none⟩), Value.int .i64 steps[i].s, Value.bool false, v39, v40, v41, v42, v43, v44, v45, v46, v47, v48, v49, v50, v51, v52, v53, v54, v55, v56, v57, v58, v59, v60, v61, Value.agg #[.slice aa la ca, .int .i64 n, .slice am lm cm, .slice ae es.length ce, .slice (some ⟨bf, offf, none⟩) (n + 1) cf], Value.slice (some ⟨bs, os, none⟩) steps.length cs, Value.int .i64 i, Value.pointer (some ⟨bs, os + i * 3, none⟩), Value.pointer (some ⟨bs, os + i * 3, none⟩), Value.int .i64 steps[i].s, Value.func (.func 84) #[] #[.pointer (some ⟨w2.heap.size, 0, none⟩), .pointer (some ⟨w2.heap.size + 1, 0, none⟩)], Value.agg #[.int .i64 x.f, .int .i64 x.e, .int .i64 x.t], v70, v71, v72, v73, v74, v75, v76, v77, v78, v79, v80, v81, v82, v83, v84, v85, v86, v87, v88, v89, v90, v91, v92, v93, v94], defers := [] })
          ?hAx ?assign ?body ?done
        case hI =>
          intro pre W W' row h1 hg hr
          obtain ⟨h1, tag, vs, h2⟩ := h1
          exact ⟨h1, tag, vs, h2.others hg (fun D hD => hI3.marks.lt hD) hI3.below.size hr⟩
        case hAx =>
          intro x a' u W W' row h1 hg hr
          obtain ⟨Bx, h1, h2, h3⟩ := h1
          refine ⟨Bx, h1, (hg.block Bx (Array.getElem?_eq_some_iff.1 h2).1 (fun e => ?_)).trans h2, h3⟩
          obtain ⟨o, ho, hc⟩ := (hr Bx e.symm).2
          rw [h2] at ho
          cases ho
          cases hc
        case assign =>
          intro l pre x W K hx hiW hK
          dsimp only [Ed.val]
          gi_wp2
          refine hK _ _ ((KeepsOthers.alloc _ _).from _) ((Below.refl _ W).alloc ?_ _) ?_ ⟨W.heap.size, ?_, (by repeat (first | with_reducible assumption | (refine heap_drewp ?_) | (refine heap_at ?_; (first | rfl | (simp; done) | (simp; omega))) | (refine heap_past ?_ ?_; (next => first | omega | (simp; done) | (simp; omega))))), rfl⟩
          · obtain ⟨_, _, _, h2⟩ := hiW; exact h2.below.size
          · obtain ⟨h1, tag, vs, h2⟩ := hiW; exact ⟨h1, tag, vs, h2.call (bel_alloc _ _)⟩
          · obtain ⟨_, _, _, h2⟩ := hiW; exact h2.below.size
        case body =>
          rintro l pre x a' W hx hl ⟨hpre, tag, vs, hJ⟩ ⟨Bx, hBx, hbx, rfl⟩
          have hJ2 := hJ.retag hbx
          have hOx : Own W w.heap.size (tagUp tag Bx 5) 5 Bx #[.int .i64 x.f, .int .i64 x.e, .int .i64 x.t] 45 := ⟨hbx, tagUp_at _ _ _, hBx⟩
          have hxe := subOf_mem hx
          have hxr := Hin.out x hxe
          obtain ⟨hok', hi'⟩ := POk.fold (perm := perm) pre hok hlt (fun y hy => Hin.out y (subOf_mem (hpre y hy)))
          have Hmem : Hid (∀ y ∈ pre ++ [x], y ∈ subOf es steps[i].s) := by
            intro y hy
            rcases List.mem_append.1 hy with h1 | h1
            · exact hpre y h1
            · rw [List.mem_singleton.1 h1]; exact hx
          have Hacc : Hid ((pre ++ [x]).foldl (pStep perm i) (seen, steps) = pStep perm i (pre.foldl (pStep perm i) (seen, steps)) x) := by
            show _ = _
            rw [List.foldl_append]; rfl
          clear hpre hx hJ
          generalize pre.foldl (pStep perm i) (seen, steps) = acc at *
          obtain ⟨se, st⟩ := acc
          dsimp only at hJ2 hok' hi'
          have hszW := hJ2.size
          have hBW := hJ2.below.size
          have hBxl := hOx.lt
          have x0 : W.cell? ⟨Bx, 0, none⟩ = some (.int .i64 x.f) := hOx.cell 0
          have x1 : W.cell? ⟨Bx, 1, none⟩ = some (.int .i64 x.e) := hOx.cell 1
          have x2 : W.cell? ⟨Bx, 2, none⟩ = some (.int .i64 x.t) := hOx.cell 2
          have e0 : W.cell? ⟨w.heap.size + 1 + 1 + 1 + 1 + 1, 0, none⟩ = some (.slice (some ⟨w.heap.size + 1 + 1 + 1 + 1, 0, none⟩) n n) := hJ2.eb.cell 0
          have hlen := hok'.len
          have e1 := hJ2.se.cellAt x.t.toNat (by omega)
          have hq : x.t.toNat < se.length := by omega
          clear hlen
          rw [List.getElem?_map, List.getElem?_eq_getElem hq, Nat.zero_add, Option.map_some] at e1
          cases hb : se[x.t.toNat]
          · rw [hb] at e1
            have e2 : W.cell? ⟨w.heap.size + 1, 0, none⟩ = some (.func (.func fp) #[] capp) := hJ2.fp.cell 0
            have Hb := Lib.hid hb
            clear hb
            have hHep : Hid (∀ args W, (callFunc fp args).run Try.prog W = .ok (.enter fp args) W) := Hep.out
            cases hpx : perm x
            · have Hpx := Lib.hid hpx
              clear hpx
              gi_wp2_with fail
              refine ⟨trivial, ?_⟩
              rw [hHep.out, Oper.uponIn_enter]
              refine ⟨fun _ => by decide, ?_⟩
              refine (CallsIn.inRound l (callsIn_wide.2 (Hp.out x W hxe hJ2.below))).mono ?_
              rintro e w4 ⟨he, hb4⟩
              rw [Hpx.out] at he
              subst he
              dsimp only
              gi_wp2
              refine ⟨(keepsBelow hb4), belCall (Below.refl _ _) hb4 hJ2.below.size, Hmem.out, tagUp tag Bx 5, vs, ?_⟩
              rw [Hacc.out, show pStep perm i (se, st) x = (se, st) from ?_]
              · exact hJ2.call hb4
              · unfold pStep
                rw [if_neg]
                rw [Hpx.out]
                simp
            · have Hpx := Lib.hid hpx
              clear hpx
              gi_wp2_with fail
              refine ⟨trivial, ?_⟩
              rw [hHep.out, Oper.uponIn_enter]
              refine ⟨fun _ => by decide, ?_⟩
              refine (CallsIn.inRound l (callsIn_wide.2 (Hp.out x W hxe hJ2.below))).mono ?_
              rintro e w4 ⟨he, hb4⟩
              rw [Hpx.out] at he
              subst he
              dsimp only
              have hJ4 := hJ2.call hb4
              have hO4 := hOx.below hb4
              obtain ⟨avs, cvs, rfl⟩ := hJ4.st.val
              clear x0 x1 x2 e0 e1 e2 hJ2 hOx
              have hle := hok'.le
              have hszW4 := hJ4.size
              have hBxl4 := hO4.lt
              have x2 : w4.cell? ⟨Bx, 2, none⟩ = some (.int .i64 x.t) := hO4.cell 2
              have e0 : w4.cell? ⟨w.heap.size + 1 + 1 + 1 + 1 + 1, 0, none⟩ = some (.slice (some ⟨w.heap.size + 1 + 1 + 1 + 1, 0, none⟩) n n) := hJ4.eb.cell 0
              have e1 := hJ4.se.cellAt x.t.toNat (by omega)
              rw [List.getElem?_map, List.getElem?_eq_getElem hq, Nat.zero_add, Option.map_some] at e1
              have e2 := hJ4.se.frozenAt x.t.toNat
              obtain ⟨hJ5, t5⟩ := hJ4.setSeen x.t.toNat
              have hO5 := hO4.turn t5 (by decide)
              have y1 : (w4.setCell ⟨w.heap.size + 1 + 1 + 1 + 1, x.t.toNat, none⟩ (.bool true)).cell? ⟨Bx, 1, none⟩ = some (.int .i64 x.e) := hO5.cell 1
              have y2 : (w4.setCell ⟨w.heap.size + 1 + 1 + 1 + 1, x.t.toNat, none⟩ (.bool true)).cell? ⟨Bx, 2, none⟩ = some (.int .i64 x.t) := hO5.cell 2
              have y3 : (w4.setCell ⟨w.heap.size + 1 + 1 + 1 + 1, x.t.toNat, none⟩ (.bool true)).cell? ⟨w.heap.size + 1 + 1 + 1, 0, none⟩ = some (.slice avs st.length cvs) := hJ5.sb.cell 0
              have y4 : (w4.setCell ⟨w.heap.size + 1 + 1 + 1 + 1, x.t.toNat, none⟩ (.bool true)).cell? ⟨bi, 0, none⟩ = some (.int .i64 i) := hJ5.ib.cell 0
              have T5 := Lib.hid t5
              clear t5 hO5 hJ4 hO4
              obtain ⟨i1, hi1, hw0, hw1, hw2⟩ := info_parts Try.info_step
              have hJ6 := hJ5.call (bel_alloc _ (.cells #[.int .i64 x.t, .int .i64 i, .int .i64 x.e] 115))
              gi_wp2_with (gi_at_builtin; (refine wpListIn_append_row rfl _ _ 116 rfl 115 i1 (.agg #[.int .i64 0, .int .i64 0, .int .i64 0]) 24 Try.underlying116 hi1 hw0 hw1 hw2 rfl rfl hJ6.st (some ⟨_, 0, none⟩) 1 1 [.int .i64 x.t, .int .i64 i, .int .i64 x.e] rfl rfl (by simp) (fun ad e => by cases e; exact new_cells_at _ _ (by simp)) (by simp [Value.oneCell']) (by unfold maxLen; omega) (by omega) hJ6.below.size ?_); intro v6 w6 tag6 hr6 ht6; have hJ7 := hJ6.push (x := ⟨x.t, i, x.e⟩) hr6 ht6; have s6 := hJ6.sb.turn ht6 (by decide); obtain ⟨a6, c6, rfl⟩ := hr6.val; have z0 := s6.cell 0; have z1 := s6.frozen 0; have z2 : w6.cell? ⟨w.heap.size + 1 + 1 + 1, 0, none⟩ = some (.slice avs st.length cvs) := z0; clear z0)
              refine ⟨(keepsBelow hb4).trans ((keepsTurn T5.out).trans ((keepsBelow (bel_alloc _ (.cells #[.int .i64 x.t, .int .i64 i, .int .i64 x.e] 115))).trans ((keepsTurn ht6).trans (keepsTurn (Turn.setCell s6 0 (.slice a6 (st.length + 1) c6)))))), ?_, Hmem.out, tag6, .slice a6 (st.length + 1) c6, ?_⟩
              · have q1 := belCall (Below.refl w.heap.size W) hb4 hBW
                have q2 := belTurn q1 T5.out (Nat.le_trans hBW hb4.size)
                have q3 := belCall q2 (bel_alloc _ (.cells #[.int .i64 x.t, .int .i64 i, .int .i64 x.e] 115)) (Nat.le_trans hBW q2.size)
                have q4 := belTurn q3 ht6 (Nat.le_trans hBW q3.size)
                exact belTurn q4 (Turn.setCell s6 0 (.slice a6 (st.length + 1) c6)) (Nat.le_trans hBW q4.size)
              · rw [Hacc.out, show pStep perm i (se, st) x = (se.set x.t.toNat true, st ++ [⟨x.t, i, x.e⟩]) from ?_]
                · exact hJ7
                · unfold pStep
                  rw [if_pos]
                  dsimp only
                  rw [List.getElem?_eq_getElem hq, Hb.out, Hpx.out]
                  exact ⟨rfl, rfl⟩
          · rw [hb] at e1
            have Hb := Lib.hid hb
            clear hb
            gi_wp2
            refine ⟨fun _ h => (by cases h), ?_⟩
            gi_wp2
            refine ⟨KeepsFrom.refl _ _, Below.refl _ _, Hmem.out, tagUp tag Bx 5, vs, ?_⟩
            rw [Hacc.out, show pStep perm i (se, st) x = (se, st) from ?_]
            · exact hJ2
            · unfold pStep
              rw [if_neg]
              dsimp only
              rw [List.getElem?_eq_getElem hq, Hb.out]
              simp
        case done =>
          rintro D W hD ⟨hpre, tag', vs', hW⟩ hd
          have hW2 := hW.mark (fun D' hD' => hI3.marks.lt hD') hD hI3.below.size hd
          have hszW := hW2.size
          have hibl := hW2.ib.lt
          have k2 : W.cell? ⟨bi, 0, none⟩ = some (.int .i64 i) := hW2.ib.cell 0
          have hile := hok.le
          have Hfin := Lib.hid (hW2.newI (i + 1))
          obtain ⟨hok', hi'⟩ := POk.fold (perm := perm) (subOf es steps[i].s) hok hlt (fun y hy => Hin.out y (subOf_mem hy))
          have Hb2 : Hid (bfs (subOf es) want perm (n + 1 - i) i seen steps = bfs (subOf es) want perm (n + 1 - (i + 1)) (i + 1) ((subOf es steps[i].s).foldl (pStep perm i) (seen, steps)).1 ((subOf es steps[i].s).foldl (pStep perm i) (seen, steps)).2) := by
            show _ = _
            rw [show n + 1 - i = n - i + 1 by omega, bfs_next hlt Hwant.out, show n + 1 - (i + 1) = n - i by omega]
          clear hpre hseq hd hW hW2
          go_wp2_with fail
          refine ⟨?_, ?_⟩
          · repeat apply Exists.intro
            exact ⟨rfl, Hfin.out, hok', hi', hbfs.out.trans Hb2.out, rfl⟩
          · unfold pathMu
            have Hk := Hk0.out
            simp [Hk, intOf]
            omega
      · have Hwant := Lib.hid hwant
        clear hwant
        go_wp2_with fail
        rw [hHen.out, Oper.upon_enter]
        refine (Hw.out steps[i].s wr hsr.1 hsr.2 hI.below).mono ?_
        rintro e w1 ⟨he, hb1⟩
        rw [Hwant.out] at he
        subst he
        dsimp only
        have hI1 := hI.call hb1
        clear k0 k1 s0 s1 s2 hI hb1 hbs
        have hsz1 := hI1.size
        have k0 : w1.cell? ⟨bi, 0, none⟩ = some (.int .i64 i) := hI1.ib.cell 0
        have hile := hok.le
        have Hpath : Hid (pathF n es want perm from_ = some (back steps (i + 1) i).reverse) := by
          show _ = _
          unfold pathF
          rw [hbfs.out, show n + 1 - i = n - i + 1 by omega, bfs_found hlt Hwant.out]; rfl
        obtain ⟨i2, hi2, hy0, hy1, hy2⟩ := info_parts Try.info_int
        go_wp2_with fail
        go_loopw [13, 14] (fun v k wr' => ∃ (xs : List Int) (kk f : Nat) (tag' : Nat → Nat), k = .int .i64 kk ∧ Row wr' w.heap.size tag' 6 3 1 v xs.length (ints xs) ∧ xs.length + kk ≤ i ∧ kk < f ∧ Hid (back steps (i + 1) i = xs ++ back steps f kk) ∧
          PInv w #[.slice aa la ca, .int .i64 n, .slice am lm cm, .slice ae es.length ce, .slice (some ⟨bf, offf, none⟩) (n + 1) cf] (.func (.func fp) #[] capp) n ds wr' tag' bi i (.slice (some ⟨bs, os, none⟩) steps.length cs) seen steps) (fun _ k _ => (intOf k).toNat)
        case atStart => exact ⟨[], i, i + 1, tag, rfl, Row.nil _ _ _ _ _ _, by simp, by omega, by simp [Hid], hI1⟩
        case round =>
          clear hI1 hsz1 k0
          obtain ⟨xs, kk, f, tag', rfl, hv, hxk, hkf, hbk, hI4⟩ := hrel
          obtain ⟨bs', os', cs', e1, hbs', s0, s1, s2⟩ := hI4.st.at_step kk (by omega)
          cases e1
          have hsz4 := hI4.size
          have k1 : wr.cell? ⟨w.heap.size + 1 + 1 + 1, 0, none⟩ = some (.slice (some ⟨bs, os, none⟩) steps.length cs) := hI4.sb.cell 0
          have hpar := hok.parent kk (by omega)
          obtain ⟨av, cv, rfl⟩ := hv.val
          by_cases hp : 0 ≤ steps[kk].p
          · obtain ⟨kp, hkp⟩ := Int.eq_ofNat_of_zero_le hp
            have Hnext : Hid (back steps f kk = steps[kk].e :: back steps (f - 1) kp) := by
              show _ = _
              obtain ⟨f', rfl⟩ : ∃ f', f = f' + 1 := ⟨f - 1, by omega⟩
              rw [back_next (by omega) hp, hkp]; rfl
            have hkk : kp < kk := by omega
            rw [hkp] at s1
            have Hkp := Lib.hid hkp
            clear hkp hp hpar
            generalize steps[kk].e = ev at *
            have hv2 := hv.below (bel_alloc wr (.cells #[.int .i64 ev] 3))
            have hI5 := hI4.call (bel_alloc wr (.cells #[.int .i64 ev] 3))
            go_wp2_with (at_builtin; refine wpList_append_row rfl _ _ 28 rfl 3 i2 (.int .i64 0) 8 Try.underlying28 hi2 hy0 hy1 hy2 rfl rfl hv2 (some ⟨_, 0, none⟩) 1 1 [.int .i64 ev] rfl rfl (by simp) (fun ad e => by cases e; exact new_cells_at _ _ rfl) (by simp [Value.oneCell']) (by unfold maxLen; omega) (by omega) hI5.below.size ?_; intro v6 w6 tag6 hr6 ht6; have hI6 := hI5.turn ht6 (by decide); have q1 : w6.cell? ⟨w.heap.size + 1 + 1 + 1, 0, none⟩ = some (.slice (some ⟨bs, os, none⟩) steps.length cs) := hI6.sb.cell 0; obtain ⟨bs6, os6, cs6, e6, hbs6, r0, r1, r2⟩ := hI6.st.at_step kk (by omega); cases e6; rw [Hkp.out] at r1; clear r0 r2)
            go_roundw
            case rel =>
              refine ⟨xs ++ [ev], kp, f - 1, tag6, rfl, ?_, by simp; omega, by omega, ?_, hI6⟩
              · have h1 := hr6
                rw [List.length_append]
                simpa [ints] using h1
              · show _ = _
                rw [hbk.out, Hnext.out]; simp
            case measure => simp [intOf]; omega
          · have Hend : Hid (back steps f kk = []) := by
              show _ = _
              obtain ⟨f', rfl⟩ : ∃ f', f = f' + 1 := ⟨f - 1, by omega⟩
              exact back_end (by omega) (by omega)
            have hp' : steps[kk].p < 0 := by omega
            go_wp2_with (go_at_call 79; refine (reverse_any _ xs _ w.heap.size tag' 6 hv (by omega)).mono ?_; rintro e w7 ⟨⟨r, rfl⟩, hv7, ht7⟩)
            refine bodyPostM_ret (hI4.turn ht7 (by decide)).marks (fun w' hq => ⟨.tuple #[.slice av xs.length cv, .bool true], by simp [results, Try.results53, go_sem], _, rfl, ?_, (hI4.turn ht7 (by decide)).below.trans hq.below⟩)
            rw [Hpath.out, hbk.out, Hend.out, List.append_nil]
            have h9 := hq.row hv7
            have h10 : Row w' w.heap.size tag' 6 3 1 (.slice av xs.length cv) xs.reverse.length (ints xs.reverse) := by rw [List.length_reverse]; exact h9
            exact ⟨_, rfl, h10.rdI, h10.frs⟩
    · have hie : i = steps.length := by omega
      have Hpath : Hid (pathF n es want perm from_ = none) := by
        show _ = _
        have := hok.le
        unfold pathF
        rw [hbfs.out, show n + 1 - i = n - i + 1 by omega, bfs_end (by omega)]; rfl
      clear hie
      obtain ⟨av, cv, rfl⟩ := hI.st.val
      go_wp2_with fail
      refine bodyPostM_ret hI.marks (fun w' hq => ⟨.tuple #[.slice none 0 0, .bool false], by simp [results, Try.results53, go_sem], _, rfl, ?_, hI.below.trans hq.below⟩)
      rw [Hpath.out]
      rfl
theorem path_any (aa am ae af : Option Addr) (la lm ca cm ce cf : Nat) (n from_ : Nat) (es : List Ed) (fw fp : FuncId) (capw capp : Array Value) (want : Int → Bool) (perm : Ed → Bool) (w : World)
    (hre : RdS w 3 ae es.length ce (edCells es)) (hrf : RdS w 1 af (n + 1) cf (ints (firsts n es))) (hl : es.length ≤ 1000000) (hn : n ≤ 1000000) (hfrom : from_ < n) (hin : ∀ x ∈ es, 0 ≤ x.t ∧ x.t < n)
    (hew : Enters Try.prog fw) (hep : Enters Try.prog fp)
    (hw : ∀ (s : Int) (W : World), 0 ≤ s → s < n → Below w.heap.size w W → Calls Try.prog fw (#[.int .i64 s] ++ capw) W fun e w' => e = .returned (.bool (want s)) ∧ Below W.heap.size W w')
    (hp : ∀ (x : Ed) (W : World), x ∈ es → Below w.heap.size w W → Calls Try.prog fp (#[x.val] ++ capp) W fun e w' => e = .returned (.bool (perm x)) ∧ Below W.heap.size W w') :
    Calls Try.prog 53 #[.agg #[.slice aa la ca, .int .i64 n, .slice am lm cm, .slice ae es.length ce, .slice af (n + 1) cf], .int .i64 from_, .func (.func fw) #[] capw, .func (.func fp) #[] capp] w
      (Ret w fun u w' => PathPost (pathF n es want perm from_) u w') :=
  (path_anyB aa am ae af la lm ca cm ce cf n from_ es fw fp capw capp want perm w hre hrf hl hn hfrom hin hew hep hw hp).mono fun _ _ ⟨v, h1, h2, h3⟩ => ⟨v, h1, h2.old, h3⟩
end Go.Proofs.Ythchkddhibhenaa

namespace Go.Proofs.Ythchkddhibhenaa
open Go.RowKit

theorem step_append_row {P : Program} {ops : Array Oper} {o : Oper} {a : Act} {K : Act → World → Prop} {Q : Exit → Act → World → Prop} {E : Prop}
    {w : World} {B : Nat} {tag : Nat → Nat} {k : Nat} {sz : Nat} {v : Value} {n : Nat} {cs : List Value} (hgd : o.guard = none) (s x : Operand) (tt : TypeId)
    (ho : o.op = .call { callee := .builtin .append, args := #[s, x], argTypes := #[tt, tt] })
    (e : TypeId) (i : TypeInfo) (z : Value) (bytes : Nat) (ht : P.underlying tt = some (.slice e)) (hi : P.info? e = some i) (hz : i.zero = some z)
    (hsize : i.size = sz) (hby : i.bytes = bytes) (hzs : z.cells.size = sz) (hs : a.eval s = v) (hrow : Row w B tag k e sz v n cs)
    (ao : Option Addr) (m c : Nat) (news : List Value) (hx : a.eval x = .slice ao m c) (hl : news.length = m * sz) (hnone : ao = none → m = 0 ∧ c = 0)
    (hnews : ∀ ad, ao = some ad → ∀ j u, news[j]? = some u → w.cell? (ad.add j) = some u) (h1 : ∀ u ∈ news, u.oneCell' = true)
    (h63 : n + m ≤ maxLen) (hbytes : (n + m) * bytes ≤ 140737488355328) (hB : B ≤ w.heap.size)
    (h : ∀ v' w' tag', Row w' B tag' k e sz v' (n + m) (cs ++ news) → Turn B tag tag' k w w' → K (a.put o.dst v') w') :
    if Region.wanted o (yielded ops a.tmps) = true then Oper.wp P o a w K Q else E := by
  have hw : Region.wanted o (yielded ops a.tmps) = true := by simp [Region.wanted, hgd]
  rw [if_pos hw]
  obtain ⟨v', w', tag', hrun, h2, h3⟩ := run_append_row (P := P) (w := w) (ty := o.type) tt e i z bytes ht hi hz hsize hby hzs hrow ao m c news hl hnone hnews h1 h63 hbytes hB
  unfold Oper.wp
  simp [execOp, ho, resolve, invoke, builtin, hs, hx, hrun, Result.andThen]
  exact h v' w' tag' h2 h3
end Go.Proofs.Ythchkddhibhenaa

namespace Go.Proofs.Ythchkddhibhenaa

/-- From where the edges into s come. -/
def inL (es : List Ed) (s : Nat) : List Int := (es.filter fun x => decide (x.t = (s : Int))).map Ed.f
theorem inL_same (es : List Ed) (x : Ed) (s : Nat) (h : x.t = (s : Int)) : inL (es ++ [x]) s = inL es s ++ [x.f] := by simp [inL, h]
theorem inL_other (es : List Ed) (x : Ed) (s : Nat) (h : ¬ x.t = (s : Int)) : inL (es ++ [x]) s = inL es s := by simp [inL, h]
theorem inL_le (es : List Ed) (s : Nat) : (inL es s).length ≤ es.length := by
  unfold inL; rw [List.length_map]; exact List.length_filter_le _ _
theorem inL_mem {es : List Ed} {s : Nat} {p : Int} (h : p ∈ inL es s) : ∃ x ∈ es, x.f = p ∧ x.t = (s : Int) := by
  unfold inL at h
  obtain ⟨x, hx, rfl⟩ := List.mem_map.1 h
  obtain ⟨h1, h2⟩ := List.mem_filter.1 hx
  exact ⟨x, h1, rfl, by simpa using h2⟩

/-- A state is looked at from which an edge leads to s: acc has the distances and the queue. -/
def bStep (s : Nat) (acc : List Int × List Int) (p : Int) : List Int × List Int :=
  if acc.1.getD p.toNat 0 < 0 then (acc.1.set p.toNat (acc.1.getD s 0 + 1), acc.2 ++ [p]) else acc
def bwd (inn : Nat → List Int) : Nat → List Int → List Int → List Int
  | 0, ds, _ => ds
  | _ + 1, ds, [] => ds
  | f + 1, ds, s :: q => bwd inn f ((inn s.toNat).foldl (bStep s.toNat) (ds, q)).1 ((inn s.toNat).foldl (bStep s.toNat) (ds, q)).2
def negs (ds : List Int) : Nat := ds.countP fun d => decide (d < 0)
/-- What holds of the distances and the queue. -/
structure BOk (n : Nat) (ds q : List Int) : Prop where
  len : ds.length = n
  lo : ∀ d ∈ ds, -1 ≤ d ∧ d ≤ 1000000 - negs ds
  qr : ∀ s ∈ q, 0 ≤ s ∧ s < n
  nn : ∀ s ∈ q, 0 ≤ ds.getD s.toNat 0
theorem negs_set {ds : List Int} {p : Nat} {d : Int} (hp : p < ds.length) (h : ds[p] < 0) (hd : 0 ≤ d) : negs (ds.set p d) + 1 = negs ds := by
  unfold negs
  induction ds generalizing p with
  | nil => simp at hp
  | cons a l ih =>
    cases p with
    | zero =>
      simp only [List.set_cons_zero, List.countP_cons, List.getElem_cons_zero] at h ⊢
      rw [decide_eq_true h, decide_eq_false (by omega)]; simp
    | succ p =>
      simp only [List.set_cons_succ, List.countP_cons]
      have := ih (p := p) (by simpa using hp) (by simpa using h)
      omega
theorem getD_set_ne {ds : List Int} {p s : Nat} {d : Int} (h : p ≠ s) : (ds.set p d).getD s 0 = ds.getD s 0 := by
  simp [List.getD_eq_getElem?_getD, List.getElem?_set_ne h]
theorem BOk.step {n s : Nat} {ds q : List Int} (h : BOk n ds q) (hs : s < n) (h0 : 0 ≤ ds.getD s 0) (p : Int) (hp0 : 0 ≤ p) (hp1 : p < n) :
    BOk n (bStep s (ds, q) p).1 (bStep s (ds, q) p).2 ∧ 0 ≤ (bStep s (ds, q) p).1.getD s 0 ∧ 2 * negs (bStep s (ds, q) p).1 + (bStep s (ds, q) p).2.length ≤ 2 * negs ds + q.length := by
  unfold bStep
  dsimp only
  have hpl : p.toNat < ds.length := by rw [h.len]; omega
  split
  · rename_i hc
    rw [List.getD_eq_getElem?_getD, List.getElem?_eq_getElem hpl, Option.getD_some] at hc
    have hsl : s < ds.length := by rw [h.len]; exact hs
    have hds : ds.getD s 0 ∈ ds := by rw [List.getD_eq_getElem?_getD, List.getElem?_eq_getElem hsl]; exact List.getElem_mem _
    have hn := negs_set hpl hc (d := ds.getD s 0 + 1) (by omega)
    have hne : p.toNat ≠ s := by
      rintro rfl
      rw [List.getD_eq_getElem?_getD, List.getElem?_eq_getElem hpl, Option.getD_some] at h0
      omega
    have hset : ∀ t : Nat, t < ds.length → 0 ≤ ds.getD t 0 ∨ t = p.toNat → 0 ≤ (ds.set p.toNat (ds.getD s 0 + 1)).getD t 0 := by
      intro t ht h2
      by_cases e : p.toNat = t
      · subst e
        rw [List.getD_eq_getElem?_getD, List.getElem?_set_self hpl, Option.getD_some]; omega
      · rw [getD_set_ne e]; exact h2.resolve_right (fun h3 => e h3.symm)
    refine ⟨⟨by simp [h.len], fun d hd => ?_, fun t ht => ?_, fun t ht => ?_⟩, ?_, ?_⟩
    · dsimp only at hd ⊢
      rcases List.mem_or_eq_of_mem_set hd with h1 | h1
      · have := h.lo d h1; omega
      · have := h.lo _ hds; omega
    · dsimp only at ht
      rcases List.mem_append.1 ht with h1 | h1
      · exact h.qr t h1
      · rw [List.mem_singleton.1 h1]; exact ⟨hp0, hp1⟩
    · dsimp only at ht ⊢
      rcases List.mem_append.1 ht with h1 | h1
      · exact hset _ (by have := h.qr t h1; rw [h.len]; omega) (.inl (h.nn t h1))
      · rw [List.mem_singleton.1 h1]; exact hset _ hpl (.inr rfl)
    · dsimp only
      rw [getD_set_ne hne]; exact h0
    · dsimp only
      rw [List.length_append, List.length_singleton]; omega
  · exact ⟨h, h0, Nat.le_refl _⟩
theorem BOk.fold {n s : Nat} (hs : s < n) : ∀ (l : List Int) {ds q : List Int}, BOk n ds q → 0 ≤ ds.getD s 0 → (∀ p ∈ l, 0 ≤ p ∧ p < (n : Int)) →
    BOk n (l.foldl (bStep s) (ds, q)).1 (l.foldl (bStep s) (ds, q)).2 ∧ 0 ≤ (l.foldl (bStep s) (ds, q)).1.getD s 0 ∧ 2 * negs (l.foldl (bStep s) (ds, q)).1 + (l.foldl (bStep s) (ds, q)).2.length ≤ 2 * negs ds + q.length
  | [], _, _, h, h0, _ => ⟨h, h0, Nat.le_refl _⟩
  | p :: l, ds, q, h, h0, hp => by
    obtain ⟨h1, h2, h3⟩ := h.step hs h0 p (hp p (List.mem_cons_self ..)).1 (hp p (List.mem_cons_self ..)).2
    obtain ⟨g1, g2, g3⟩ := BOk.fold hs l h1 h2 (fun y hy => hp y (List.mem_cons_of_mem _ hy))
    exact ⟨g1, g2, Nat.le_trans g3 h3⟩
/-- The distances at the start. -/
def bStart (n : Nat) (tg : List Int) : List Int := tg.foldl (fun ds (s : Int) => ds.set s.toNat 0) (List.replicate n (-1))
theorem bStart_snoc (n : Nat) (l : List Int) (x : Int) : bStart n (l ++ [x]) = (bStart n l).set x.toNat 0 := by simp [bStart]
/-- What backward returns. -/
def backward (n : Nat) (es : List Ed) (tg : List Int) : List Int := bwd (inL es) (2 * negs (bStart n tg) + tg.length + 1) (bStart n tg) tg

theorem foldSet_get : ∀ (l : List Int) (ds : List Int) (i : Nat), i < ds.length → (∀ s ∈ l, 0 ≤ s) → (l.foldl (fun ds (s : Int) => ds.set s.toNat 0) ds).getD i 0 = if (i : Int) ∈ l then 0 else ds.getD i 0
  | [], ds, i, _, _ => by simp
  | s :: l, ds, i, hi, hs => by
    rw [List.foldl_cons, foldSet_get l (ds.set s.toNat 0) i (by simpa using hi) (fun t ht => hs t (List.mem_cons_of_mem _ ht))]
    have h0 := hs s (List.mem_cons_self ..)
    by_cases h1 : (i : Int) ∈ l
    · rw [if_pos h1, if_pos (List.mem_cons_of_mem _ h1)]
    · rw [if_neg h1]
      by_cases h2 : (i : Int) = s
      · have : s.toNat = i := by omega
        rw [if_pos (by rw [h2]; exact List.mem_cons_self ..), this, List.getD_eq_getElem?_getD, List.getElem?_set_self hi]; rfl
      · rw [if_neg (by simp [h1, h2]), getD_set_ne (by omega)]
theorem foldSet_length : ∀ (l : List Int) (ds : List Int), (l.foldl (fun ds (s : Int) => ds.set s.toNat 0) ds).length = ds.length
  | [], _ => rfl
  | s :: l, ds => by rw [List.foldl_cons, foldSet_length]; simp
theorem bStart_length (n : Nat) (tg : List Int) : (bStart n tg).length = n := by rw [bStart, foldSet_length]; simp
theorem bStart_get (n : Nat) (tg : List Int) (h : ∀ s ∈ tg, 0 ≤ s) (i : Nat) (hi : i < n) : (bStart n tg).getD i 0 = if (i : Int) ∈ tg then 0 else -1 := by
  rw [bStart, foldSet_get tg _ i (by simpa using hi) h, List.getD_eq_getElem?_getD, List.getElem?_replicate, if_pos hi]; rfl
theorem negs_le (ds : List Int) : negs ds ≤ ds.length := List.countP_le_length
theorem BOk.start (n : Nat) (tg : List Int) (hn : n ≤ 1000000) (h : ∀ s ∈ tg, 0 ≤ s ∧ s < n) : BOk n (bStart n tg) tg := by
  have hl := bStart_length n tg
  refine ⟨hl, fun d hd => ?_, h, fun s hs => ?_⟩
  · obtain ⟨i, hi, rfl⟩ := List.getElem_of_mem hd
    have h1 := bStart_get n tg (fun s hs => (h s hs).1) i (by omega)
    rw [List.getD_eq_getElem?_getD, List.getElem?_eq_getElem hi, Option.getD_some] at h1
    have := negs_le (bStart n tg)
    rw [h1]
    split <;> omega
  · have h1 := h s hs
    rw [bStart_get n tg (fun s hs => (h s hs).1) s.toNat (by omega), if_pos (by rw [Int.toNat_of_nonneg h1.1]; exact hs)]
    exact Int.le_refl 0
theorem BOk.pop {n : Nat} {ds q : List Int} {s : Int} (h : BOk n ds (s :: q)) : BOk n ds q := ⟨h.len, h.lo, fun t ht => h.qr t (List.mem_cons_of_mem _ ht), fun t ht => h.nn t (List.mem_cons_of_mem _ ht)⟩
theorem inL_range {es : List Ed} {n s : Nat} (h : ∀ x ∈ es, 0 ≤ x.f ∧ x.f < n ∧ 0 ≤ x.t ∧ x.t < (n : Int)) : ∀ p ∈ inL es s, 0 ≤ p ∧ p < (n : Int) := by
  intro p hp
  obtain ⟨x, hx, rfl, _⟩ := inL_mem hp
  exact ⟨(h x hx).1, (h x hx).2.1⟩
end Go.Proofs.Ythchkddhibhenaa

namespace Go.Proofs.Ythchkddhibhenaa
open Go.RowKit

/-- What holds while backward runs: the graph's box, the lists of what leads into each state. -/
structure BInv (w : World) (G : Array Value) (n : Nat) (wr : World) (tag : Nat → Nat) (ivs : List Value) (es : List Ed) : Prop where
  below : Below w.heap.size w wr
  g : Own wr w.heap.size tag 0 w.heap.size G 80
  io : Row wr w.heap.size tag 1 28 1 (.slice (some ⟨w.heap.size + 1, 0, none⟩) n n) n ivs
  inn : ∀ s, s < n → Row wr w.heap.size tag (10 + s) 3 1 (ivs.getD s undef) (inL es s).length (ints (inL es s))
section
variable {w : World} {G : Array Value} {n : Nat} {wr wr' : World} {tag tag' : Nat → Nat} {ivs : List Value} {es : List Ed}
theorem BInv.call (h : BInv w G n wr tag ivs es) (hb : Below wr.heap.size wr wr') : BInv w G n wr' tag ivs es :=
  ⟨belCall h.below hb h.below.size, h.g.below hb, h.io.below hb, fun s hs => (h.inn s hs).below hb⟩
theorem BInv.turn {k : Nat} (h : BInv w G n wr tag ivs es) (ht : Turn w.heap.size tag tag' k wr wr') (h1 : 1 < k) (h2 : k < 10) : BInv w G n wr' tag' ivs es :=
  ⟨belTurn h.below ht h.below.size, h.g.turn ht (by omega), h.io.turn ht (by omega), fun s hs => (h.inn s hs).turn ht (by omega)⟩
theorem set_rep (k n : Nat) (h : k < n) : (ints (List.replicate k (-1) ++ List.replicate (n - k) 0)).set k (.int .i64 (-1)) = ints (List.replicate (k + 1) (-1) ++ List.replicate (n - (k + 1)) 0) := by
  apply List.ext_getElem
  · simp; omega
  · intro i h1 h2
    rw [List.getElem_set]
    simp only [List.getElem_map, List.getElem_append, List.length_replicate, List.getElem_replicate]
    by_cases e : k = i
    · subst e; simp
    · rw [if_neg e]
      by_cases e2 : i < k
      · rw [dif_pos e2, dif_pos (by omega)]
      · rw [dif_neg e2, dif_neg (by omega)]
/-- A new block, with a tag of its own. -/
theorem BInv.new {kk : Nat} (h : BInv w G n wr tag ivs es) (o : Obj) : BInv w G n (wr.alloc o) (tagUp tag wr.heap.size kk) ivs es := by
  have hb := bel_alloc wr o
  have ht : Turn w.heap.size tag (tagUp tag wr.heap.size kk) 9 wr (wr.alloc o) := { Turn.below (B := w.heap.size) (tag := tag) (k := 9) hb with tags := fun b hb => tagUp_lt hb }
  exact h.turn ht (by decide) (by decide)
/-- One edge more. -/
theorem BInv.push {x : Ed} {v' : Value} (h : BInv w G n wr tag ivs es) (t : Nat) (hx : x.t = (t : Int)) (htn : t < n) (hr : Row wr' w.heap.size tag' (10 + t) 3 1 v' ((inL es t).length + 1) (ints (inL es t) ++ [.int .i64 x.f])) (ht : Turn w.heap.size tag tag' (10 + t) wr wr') :
    BInv w G n (wr'.setCell ⟨w.heap.size + 1, t, none⟩ v') tag' (ivs.set t v') (es ++ [x]) := by
  have hB : w.heap.size ≤ wr'.heap.size := Nat.le_trans h.below.size ht.size
  have ho := h.io.turn ht (by omega)
  have h1 := ho.set t v'
  rw [Nat.zero_add] at h1
  have hl : ivs.length = n := by have := h.io.1; omega
  refine ⟨belTurn (belTurn h.below ht h.below.size) h1.2 hB, (h.g.turn ht (by omega)).turn h1.2 (by decide), h1.1, fun s hs => ?_⟩
  by_cases he : s = t
  · subst he
    rw [inL_same es x s hx, List.length_append, List.getD_eq_getElem?_getD, List.getElem?_set_self (by omega), Option.getD_some]
    have h2 := hr.turn h1.2 (k := 10 + s) (by omega)
    simpa [ints] using h2
  · rw [inL_other es x s (by omega), List.getD_eq_getElem?_getD, List.getElem?_set_ne (by omega), ← List.getD_eq_getElem?_getD]
    exact ((h.inn s hs).turn ht (by omega)).turn h1.2 (by omega)
end
theorem Try.info_ints : (Try.prog.info? 28).map (fun i => (i.zero, i.size, i.bytes)) = some (some (.slice none 0 0), 1, 24) := by kernel_rfl

set_option maxRecDepth 100000 in
set_option maxHeartbeats 4000000 in
theorem backward_anyB (aa am af : Option Addr) (la lm ca cm cf lf : Nat) (ve v : Value) (n : Nat) (es : List Ed) (tg : List Int) (w : World) (hre : RdE w ve es) (hrt : RdI w v tg) (hl : es.length ≤ 1000000) (hlt' : tg.length ≤ 1000000) (hn : n ≤ 1000000)
    (hin : ∀ x ∈ es, 0 ≤ x.f ∧ x.f < n ∧ 0 ≤ x.t ∧ x.t < n) (hit : ∀ s ∈ tg, 0 ≤ s ∧ s < n) :
    Calls Try.prog 49 #[.agg #[.slice aa la ca, .int .i64 n, .slice am lm cm, ve, .slice af lf cf], v] w (Ret w fun u w' => RdI w' u (backward n es tg) ∧ FreshV w.heap.size u) := by
  obtain ⟨ae, ce, rfl, hre⟩ := hre
  obtain ⟨at_, ct, rfl, hrt⟩ := hrt
  obtain ⟨i0, hi, hz0, hz1, hz2⟩ := info_parts Try.info_ints
  obtain ⟨i1, hi1, hy0, hy1, hy2⟩ := info_parts Try.info_int
  have hmk := fun W : World => run_make (P := Try.prog) W 65 28 i0 (.slice none 0 0) Try.underlying65 hi hz0 .i64 .i64 (n : Int) (n : Int) (by omega) (by omega) (by rw [hz2]; omega) (by omega)
  rw [hz1] at hmk
  simp only [Int.toNat_natCast, Nat.mul_one, Value.cells] at hmk
  have Hin := Lib.hid hin
  have Hit := Lib.hid hit
  clear hin hit
  go_enter Try.func49, Try.ntmps49
  go_wp2_with fail
  clear hmk
  have hI0 : BInv w #[.slice aa la ca, .int .i64 n, .slice am lm cm, .slice ae es.length ce, .slice af lf cf] n ((w.alloc (.cells #[.slice aa la ca, .int .i64 n, .slice am lm cm, .slice ae es.length ce, .slice af lf cf] 80)).alloc (.cells (madeCells #[.slice none 0 0] n) 28)) (fun b => if b = w.heap.size + 1 then 1 else 0) (List.replicate n (.slice none 0 0)) [] := by
    refine ⟨(by (repeat (first | with_reducible exact Below.refl _ _ | with_reducible exact hre | (with_reducible refine belCall ?_ hre (by first | omega | (simp; done) | (simp; omega) | (simp at *; omega))) | (with_reducible refine Below.alloc ?_ (by first | omega | (simp; done) | (simp; omega) | (simp at *; omega)) _) | (with_reducible refine Below.drew ?_) | (with_reducible refine Below.setCell ?_ (by first | omega | (simp; done) | (simp; omega) | (simp at *; omega)) _)))), ⟨(by repeat (first | with_reducible assumption | (refine heap_drewp ?_) | (refine heap_at ?_; (first | rfl | (simp; done) | (simp; omega))) | (refine heap_past ?_ ?_; (next => first | omega | (simp; done) | (simp; omega))))), (by (try dsimp only); (repeat' split); all_goals omega), Nat.le_refl _⟩, ⟨by simp, .inr ⟨_, 0, n, _, rfl, ⟨(by repeat (first | with_reducible assumption | (refine heap_drewp ?_) | (refine heap_at ?_; (first | rfl | (simp; done) | (simp; omega))) | (refine heap_past ?_ ?_; (next => first | omega | (simp; done) | (simp; omega))))), (by (try dsimp only); (repeat' split); all_goals omega), by omega⟩, Nat.le_refl _, by unfold maxLen; omega, by simp [size_madeCells], by simp [toList_madeCells_one]⟩⟩, fun s hs => ?_⟩
    rw [List.getD_eq_getElem?_getD, List.getElem?_replicate, if_pos hs]
    exact Row.nil _ _ _ _ _ _
  go_loopw [24] (fun j wr => ∃ (k : Nat) (tag : Nat → Nat) (ivs : List Value), k ≤ es.length ∧ j = .int .i64 k ∧ BInv w #[.slice aa la ca, .int .i64 n, .slice am lm cm, .slice ae es.length ce, .slice af lf cf] n wr tag ivs (es.take k)) (fun j _ => es.length - (intOf j).toNat)
  case atStart => exact ⟨0, _, _, Nat.zero_le _, rfl, hI0⟩
  case round =>
    clear hI0
    obtain ⟨k, tag, ivs, hk, rfl, hI⟩ := hrel
    by_cases hlt : k < es.length
    · obtain ⟨b, off, rfl, c0, c1, c2⟩ := hre.at_edge k hlt
      obtain ⟨hx0, hx1, hx2, hx3⟩ := Hin.out es[k] (List.getElem_mem hlt)
      replace c0 := keep0 hI.below c0
      replace c1 := keep0 hI.below c1
      replace c2 := keep0 hI.below c2
      have hbl := World.block_lt_of_cell? wr _ c0
      obtain ⟨t, ht⟩ := Int.eq_ofNat_of_zero_le hx2
      have htn : t < n := by omega
      have Ht := Lib.hid ht
      have hts := take_snoc es k hlt
      have Hts := Lib.hid hts
      clear hts
      rw [ht] at c2
      clear ht hx2 hx3
      have hil := inL_le (es.take k) t
      have hkl : (es.take k).length ≤ k := List.length_take_le _ _
      have hI2 := hI.new (kk := 5) (.cells #[.int .i64 es[k].f, .int .i64 es[k].e, .int .i64 t] 45)
      have hOx := Own.new wr w.heap.size (tagUp tag wr.heap.size 5) 5 #[.int .i64 es[k].f, .int .i64 es[k].e, .int .i64 t] 45 hI.below.size (tagUp_at _ _ _)
      have hb2 : Below (wr.alloc (.cells #[.int .i64 es[k].f, .int .i64 es[k].e, .int .i64 t] 45)).heap.size _ ((wr.alloc (.cells #[.int .i64 es[k].f, .int .i64 es[k].e, .int .i64 t] 45)).alloc (.cells #[.int .i64 es[k].f] 3)).drew := (bel_alloc _ _).drew
      have hI3 := hI2.call hb2
      have hO3 := hOx.below hb2
      have hiv := hI3.inn t htn
      obtain ⟨av, cv, hav⟩ := hiv.val
      have d0 := hI.io.cellAt t (by omega)
      rw [show ivs[t]? = some (.slice av (inL (es.take k) t).length cv) from by rw [← hav, List.getD_eq_getElem?_getD]; have := hI.io.1; rw [List.getElem?_eq_getElem (by omega)]; rfl, Nat.zero_add] at d0
      rw [hav] at hiv
      obtain ⟨_, _, _, e9, hrl, _⟩ := hI.io.addr (by omega)
      cases e9
      have hrl' : w.heap.size < wr.heap.size := by omega
      clear hav
      go_wp2_with fail
      go_region_law (refine step_append_row rfl _ _ 28 rfl 3 i1 (.int .i64 0) 8 Try.underlying28 hi1 hy0 hy1 hy2 rfl rfl hiv (some ⟨_, 0, none⟩) 1 1 [.int .i64 es[k].f] rfl rfl (by simp) (fun ad e => by cases e; exact new_cells_at _ _ (by simp)) (by simp [Value.oneCell']) (by unfold maxLen; omega) (by omega) hI3.below.size ?_; intro v6 w6 tag6 hr6 ht6; obtain ⟨a6, c6, rfl⟩ := hr6.val; have z2 : w6.cell? ⟨wr.heap.size, 2, none⟩ = some (.int .i64 t) := (hO3.turn ht6 (by omega)).cell 2; have z3 := (hI3.io.turn ht6 (by omega)).cellAt t (by omega); have z4 := (hI3.io.turn ht6 (by omega)).frozenAt t; rw [Nat.zero_add] at z3; rw [List.getElem?_eq_getElem (by have := hI3.io.1; omega)] at z3)
      all_goals
        have Hfin := Lib.hid (hI3.push t Ht.out htn hr6 ht6)
        clear hI hI2 hI3 hOx hO3 hiv d0 hr6 ht6 z2 z3 z4
        go_wp2_with fail
        go_roundw
        case rel => exact ⟨k + 1, tag6, _, by omega, by go_num, by rw [Hts.out]; exact Hfin.out⟩
        case measure => simp [intOf]; omega
    · obtain rfl : k = es.length := by omega
      rw [List.take_length] at hI
      have e1 : wr.cell? ⟨w.heap.size, 1, none⟩ = some (.int .i64 n) := hI.g.cell 1
      have hzl := hI.g.lt
      have hzo := hI.io.addr
      go_wp2_with (at_make; refine wpList_make_full _ rfl _ _ 28 rfl wr.heap.size 3 i1 (.int .i64 0) 1 Try.underlying28 hi1 hy0 hy1 .i64 .i64 _ _ n rfl rfl (by first | rfl | omega) (by first | rfl | omega) (by rw [hy2]; omega) (by unfold maxLen; omega) (Nat.le_refl _) ?_; intro w3 hown3 hgrow3)
      have hb3 : Below wr.heap.size wr w3 := Below.grown (Below.refl _ _) hgrow3 (Nat.le_refl _) (fun k e => (by cases e))
      obtain ⟨tag2, hI3, hrow⟩ : ∃ tag2, BInv w #[.slice aa la ca, .int .i64 n, .slice am lm cm, .slice ae es.length ce, .slice af lf cf] n w3 tag2 ivs es ∧ Row w3 w.heap.size tag2 2 3 1 (.slice (some ⟨wr.heap.size, 0, none⟩) n n) n (ints (List.replicate n 0)) := by
        have ht : Turn w.heap.size tag (fun b => if b < wr.heap.size then tag b else 2) 9 wr w3 := { Turn.below (B := w.heap.size) (tag := tag) (k := 9) hb3 with tags := fun b hb => if_pos hb }
        refine ⟨_, hI.turn ht (by decide) (by decide), Row.of_own (B' := wr.heap.size) ?_ hI.below.size (fun b hb _ => if_neg (by omega))⟩
        simpa [Value.cells, toList_madeCells_one] using hown3
      clear hI hown3 hgrow3 e1 hzl hzo
      generalize wr.heap.size = r at *
      go_wp2_with fail
      go_loopw [48] (fun j wr => ∃ (k : Nat), k ≤ n ∧ j = .int .i64 k ∧ BInv w #[.slice aa la ca, .int .i64 n, .slice am lm cm, .slice ae es.length ce, .slice af lf cf] n wr tag2 ivs es ∧ Row wr w.heap.size tag2 2 3 1 (.slice (some ⟨r, 0, none⟩) n n) n (ints (List.replicate k (-1) ++ List.replicate (n - k) 0))) (fun j _ => n - (intOf j).toNat)
      case atStart => exact ⟨0, Nat.zero_le _, rfl, hI3, by simpa using hrow⟩
      case round =>
        clear hI3 hrow
        obtain ⟨k, hk, rfl, hI, hrow⟩ := hrel
        by_cases hkn : k < n
        · have d0 := hrow.cellAt k (by omega)
          rw [Nat.zero_add, List.getElem?_eq_getElem (by simp; omega)] at d0
          have d1 := hrow.frozenAt k
          have hst := hrow.set k (.int .i64 (-1))
          rw [Nat.zero_add, show (ints (List.replicate k (-1) ++ List.replicate (n - k) 0)).set k (.int .i64 (-1)) = ints (List.replicate (k + 1) (-1) ++ List.replicate (n - (k + 1)) 0) from set_rep k n hkn] at hst
          obtain ⟨_, _, _, e9, hrl, _⟩ := hrow.addr (by omega)
          cases e9
          generalize (ints (List.replicate k (-1) ++ List.replicate (n - k) 0))[k]'_ = u at d0
          have Hst := Lib.hid hst
          clear hst
          go_wp2
          go_roundw
          case rel => exact ⟨k + 1, by omega, by go_num, hI.turn Hst.out.2 (by decide) (by decide), Hst.out.1⟩
          case measure => simp [intOf]; omega
        · obtain rfl : n = k := by omega
          rw [Nat.sub_self, List.replicate_zero, List.append_nil] at hrow
          have hzl := hI.below.size
          have hT : RdI wr (.slice at_ tg.length ct) tg := RdI.mono ⟨at_, ct, rfl, hrt⟩ hI.below
          go_wp2_with (go_at_call 67; refine (clone_any _ tg _ hT hlt').mono ?_; rintro e w4 ⟨vq, rfl, hq, hb4⟩)
          obtain ⟨tag3, hI4, hout, hqr⟩ : ∃ tag3, BInv w #[.slice aa la ca, .int .i64 n, .slice am lm cm, .slice ae es.length ce, .slice af lf cf] n w4 tag3 ivs es ∧ Row w4 w.heap.size tag3 2 3 1 (.slice (some ⟨r, 0, none⟩) n n) n (ints (List.replicate n (-1))) ∧ Row w4 w.heap.size tag3 3 3 1 vq tg.length (ints tg) := by
            have ht : Turn w.heap.size tag2 (fun b => if b < wr.heap.size then tag2 b else 3) 9 wr w4 := { Turn.below (B := w.heap.size) (tag := tag2) (k := 9) hb4 with tags := fun b hb => if_pos hb }
            exact ⟨_, hI.turn ht (by decide) (by decide), hrow.turn ht (by decide), Row.of_own (B' := wr.heap.size) hq hI.below.size (fun b hb _ => if_neg (by omega))⟩
          clear hI hrow hq hT hb4 hzl
          obtain ⟨aq, cq, rfl⟩ := hqr.val
          go_wp2_with fail
          go_loopw [59] (fun j wr => ∃ (k : Nat), k ≤ tg.length ∧ j = .int .i64 k ∧ BInv w #[.slice aa la ca, .int .i64 n, .slice am lm cm, .slice ae es.length ce, .slice af lf cf] n wr tag3 ivs es ∧ Row wr w.heap.size tag3 2 3 1 (.slice (some ⟨r, 0, none⟩) n n) n (ints (bStart n (tg.take k))) ∧ Row wr w.heap.size tag3 3 3 1 (.slice aq tg.length cq) tg.length (ints tg)) (fun j _ => tg.length - (intOf j).toNat)
          case atStart => exact ⟨0, Nat.zero_le _, rfl, hI4, by simpa [bStart] using hout, hqr⟩
          case round =>
            clear hI4 hout hqr
            obtain ⟨k, hk, rfl, hI, hout, hqr⟩ := hrel
            by_cases hkn : k < tg.length
            · obtain ⟨b, off, rfl, c0⟩ := hrt.at_int k hkn
              replace c0 := keep0 hI.below c0
              obtain ⟨hx0, hx1⟩ := Hit.out tg[k] (List.getElem_mem hkn)
              have d0 := hout.cellAt tg[k].toNat (by omega)
              rw [Nat.zero_add, List.getElem?_eq_getElem (by have := hout.1; omega)] at d0
              have d1 := hout.frozenAt tg[k].toNat
              have hst := hout.set tg[k].toNat (.int .i64 0)
              rw [Nat.zero_add, show (ints (bStart n (tg.take k))).set tg[k].toNat (.int .i64 0) = ints (bStart n (tg.take (k + 1))) from by rw [take_snoc tg k hkn, bStart_snoc]; exact (List.map_set ..).symm] at hst
              obtain ⟨_, _, _, e9, hrl, _⟩ := hout.addr (by omega)
              cases e9
              generalize (ints (bStart n (tg.take k)))[tg[k].toNat]'_ = u at d0
              have Hst := Lib.hid hst
              clear hst
              go_wp2
              go_roundw
              case rel => exact ⟨k + 1, by omega, by go_num, hI.turn Hst.out.2 (by decide) (by decide), Hst.out.1, hqr.turn Hst.out.2 (by decide)⟩
              case measure => simp [intOf]; omega
            · rw [List.take_of_length_le (by omega)] at hout
              have hok0 := BOk.start n tg hn Hit.out
              go_wp2_with fail
              go_loopg [10] (2 * negs (bStart n tg) + tg.length) (fun g q wr => ∃ (tag : Nat → Nat) (f : Nat) (ds qs : List Int), g < f ∧ g ≤ 3000000 ∧ g = 2 * negs ds + qs.length ∧ BInv w #[.slice aa la ca, .int .i64 n, .slice am lm cm, .slice ae es.length ce, .slice af lf cf] n wr tag ivs es ∧ Row wr w.heap.size tag 2 3 1 (.slice (some ⟨r, 0, none⟩) n n) n (ints ds) ∧ Row wr w.heap.size tag 3 3 1 q qs.length (ints qs) ∧ BOk n ds qs ∧ backward n es tg = bwd (inL es) f ds qs)
              case atStart => exact ⟨tag3, _, _, tg, Nat.lt_succ_self _, by have := negs_le (bStart n tg); have := bStart_length n tg; omega, rfl, hI, hout, hqr, hok0, rfl⟩
              case round =>
                clear hI hout hqr hok0
                obtain ⟨tag, f, ds, qs, hgf, hg3, hg, hI, hout, hqr, hok, hbk⟩ := hrel
                obtain ⟨aq, cq, rfl⟩ := hqr.val
                cases qs with
                | nil =>
                  simp only [List.length_nil] at hqr ⊢
                  have Hbk := Lib.hid (show backward n es tg = ds by rw [hbk]; cases f <;> rfl)
                  clear hbk
                  go_wp2
                  go_ret
                  refine ⟨_, rfl, ?_, hI.below⟩
                  rw [Hbk.out]
                  have hle := hok.len
                  subst hle
                  exact ⟨hout.rdI, hout.frs⟩
                | cons s q =>
                  obtain ⟨f', rfl⟩ : ∃ f', f = f' + 1 := ⟨f - 1, by omega⟩
                  have hsr := hok.qr s (List.mem_cons_self ..)
                  have hsn := hok.nn s (List.mem_cons_self ..)
                  obtain ⟨t, rfl⟩ := Int.eq_ofNat_of_zero_le hsr.1
                  have htn : t < n := by omega
                  rw [Int.toNat_natCast] at hsn
                  obtain ⟨bq, oq, cq', e9, hbq, _, c0⟩ := hqr.at_int 0 (by simp)
                  cases e9
                  simp only [List.getElem_cons_zero, Nat.add_zero, List.length_cons] at c0 hqr ⊢
                  obtain ⟨ht1, ht2⟩ := hqr.tail
                  have hiv := hI.inn t htn
                  obtain ⟨av, cv, hav⟩ := hiv.val
                  have hil := inL_le es t
                  have d0 := hI.io.cellAt t (by omega)
                  rw [show ivs[t]? = some (.slice av (inL es t).length cv) from by rw [← hav, List.getD_eq_getElem?_getD]; have := hI.io.1; rw [List.getElem?_eq_getElem (by omega)]; rfl, Nat.zero_add] at d0
                  have hfold := BOk.fold htn (inL es t) hok.pop hsn (inL_range Hin.out)
                  have Hbk : Hid (backward n es tg = bwd (inL es) f' ((inL es t).foldl (bStep t) (ds, q)).1 ((inL es t).foldl (bStep t) (ds, q)).2) := hbk
                  have Hok := Lib.hid hok
                  have hgl := hI.below.size
                  have hqlen : q.length ≤ 3000000 := by simp at hg; omega
                  have Hav := Lib.hid hav
                  have Hg := Lib.hid hg
                  clear hbk hok hqr hiv hg hav
                  obtain ⟨hf1, hf2, hf3⟩ := hfold
                  have Hf1 := Lib.hid hf1
                  have hrl := hout.addr (by omega)
                  obtain ⟨_, _, _, e8, hrl, hrB, _⟩ := hrl
                  cases e8
                  by_cases hc1 : cq = 1
                  all_goals
                    first | (have hq2 := ht1 hc1; subst hc1; simp only [Nat.sub_self] at hq2) | (have hq2 := ht2 hc1)
                    clear ht1 ht2
                    go_wp2_with fail
                    go_loopw [10, 80] (fun qv j wr => ∃ (k : Nat) (tag' : Nat → Nat), k ≤ (inL es t).length ∧ j = .int .i64 k ∧ BInv w #[.slice aa la ca, .int .i64 n, .slice am lm cm, .slice ae es.length ce, .slice af lf cf] n wr tag' ivs es ∧
                      Row wr w.heap.size tag' 2 3 1 (.slice (some ⟨r, 0, none⟩) n n) n (ints (((inL es t).take k).foldl (bStep t) (ds, q)).1) ∧ Row wr w.heap.size tag' 3 3 1 qv (((inL es t).take k).foldl (bStep t) (ds, q)).2.length (ints (((inL es t).take k).foldl (bStep t) (ds, q)).2)) (fun _ j _ => (inL es t).length - (intOf j).toNat)
                    case atStart => exact ⟨0, tag, Nat.zero_le _, rfl, hI, hout, hq2⟩
                    case round =>
                      clear hI hout hq2 d0 c0 hrl
                      obtain ⟨k, tag', hk, rfl, hI, hout, hqr⟩ := hrel
                      by_cases hkn : k < (inL es t).length
                      · have hpr := inL_range Hin.out (inL es t)[k] (List.getElem_mem hkn)
                        obtain ⟨hok', hsn', hms⟩ := BOk.fold htn ((inL es t).take k) Hok.out.pop hsn (fun p hp => inL_range Hin.out p (List.mem_of_mem_take hp))
                        have Hstep : Hid (((inL es t).take (k + 1)).foldl (bStep t) (ds, q) = bStep t (((inL es t).take k).foldl (bStep t) (ds, q)) (inL es t)[k]) := by
                          show _ = _
                          rw [take_snoc _ k hkn, List.foldl_append]; rfl
                        have hqb : (((inL es t).take k).foldl (bStep t) (ds, q)).2.length ≤ 3000000 := by have := Hg.out; simp at this; omega
                        clear hms
                        generalize ((inL es t).take k).foldl (bStep t) (ds, q) = acc at *
                        obtain ⟨ds2, q2⟩ := acc
                        dsimp only at hout hqr hok' hsn' hqb
                        have hiv := hI.inn t htn
                        rw [Hav.out] at hiv
                        obtain ⟨bi, oi, ci, e7, hbi, _, c1⟩ := hiv.at_int k hkn
                        cases e7
                        clear hiv
                        generalize hp : (inL es t)[k] = p at *
                        clear hp
                        obtain ⟨pn, rfl⟩ := Int.eq_ofNat_of_zero_le hpr.1
                        have hpn : pn < n := by omega
                        have hds2 := hok'.len
                        have l1 : pn < ds2.length := by omega
                        have l2 : t < ds2.length := by omega
                        have o1 := hout.cellAt pn (by omega)
                        rw [List.getElem?_map, List.getElem?_eq_getElem l1, Nat.zero_add, Option.map_some] at o1
                        have o2 := hout.cellAt t (by omega)
                        rw [List.getElem?_map, List.getElem?_eq_getElem l2, Nat.zero_add, Option.map_some] at o2
                        have o3 := hout.frozenAt pn
                        obtain ⟨_, _, _, e8, hrl, hrB', _⟩ := hout.addr (by omega)
                        cases e8
                        obtain ⟨aq2, cq2, rfl⟩ := hqr.val
                        have hlo := hok'.lo ds2[t] (List.getElem_mem l2)
                        have hge : 0 ≤ ds2[t] := by rw [List.getD_eq_getElem?_getD, List.getElem?_eq_getElem l2] at hsn'; exact hsn'
                        clear hds2 hsn' hok' hpr
                        by_cases hneg : ds2[pn] < 0
                        · have Hb : Hid (bStep t (ds2, q2) pn = (ds2.set pn (ds2[t] + 1), q2 ++ [(pn : Int)])) := by
                            show _ = _
                            unfold bStep
                            dsimp only
                            rw [Int.toNat_natCast, List.getD_eq_getElem?_getD, List.getElem?_eq_getElem l1, Option.getD_some, if_pos hneg, List.getD_eq_getElem?_getD, List.getElem?_eq_getElem l2, Option.getD_some]
                          have hst := hout.set pn (.int .i64 (ds2[t] + 1))
                          rw [Nat.zero_add, show (ints ds2).set pn (.int .i64 (ds2[t] + 1)) = ints (ds2.set pn (ds2[t] + 1)) from (List.map_set ..).symm] at hst
                          have hbA := bel_alloc (wr.setCell ⟨r, pn, none⟩ (.int .i64 (ds2[t] + 1))) (.cells #[.int .i64 pn] 3)
                          have hI2 := (hI.turn hst.2 (by decide) (by decide)).call hbA
                          have hq3 := (hqr.turn hst.2 (by decide)).below hbA
                          have ho3 := hst.1.below hbA
                          clear hbA hst hI hout hqr
                          generalize ds2[t] = dt at *
                          go_wp2_with (at_builtin; refine wpList_append_row rfl _ _ 28 rfl 3 i1 (.int .i64 0) 8 Try.underlying28 hi1 hy0 hy1 hy2 rfl rfl hq3 (some ⟨_, 0, none⟩) 1 1 [.int .i64 pn] rfl rfl (by simp) (fun ad e => by cases e; exact new_cells_at _ _ (by simp)) (by simp [Value.oneCell']) (by unfold maxLen; omega) (by omega) hI2.below.size ?_; intro v6 w6 tag6 hr6 ht6; have Hr6 := Lib.hid hr6; clear hr6)
                          go_roundw
                          case rel =>
                            refine ⟨k + 1, tag6, by omega, by go_num, hI2.turn ht6 (by decide) (by decide), ?_, ?_⟩
                            · rw [Hstep.out, Hb.out]; exact ho3.turn ht6 (by decide)
                            · rw [Hstep.out, Hb.out, List.length_append, List.length_singleton]
                              simpa [ints] using Hr6.out
                          case measure => simp [intOf]; omega
                        · have Hb : Hid (bStep t (ds2, q2) pn = (ds2, q2)) := by
                            show _ = _
                            unfold bStep
                            dsimp only
                            rw [Int.toNat_natCast, List.getD_eq_getElem?_getD, List.getElem?_eq_getElem l1, Option.getD_some, if_neg hneg]
                          have hneg' : 0 ≤ ds2[pn] := by omega
                          clear hneg
                          generalize ds2[t] = dt at *
                          generalize ds2[pn] = dp at *
                          go_wp2
                          go_roundw
                          case rel => exact ⟨k + 1, tag', by omega, by go_num, hI, by rw [Hstep.out, Hb.out]; exact hout, by rw [Hstep.out, Hb.out]; exact hqr⟩
                          case measure => simp [intOf]; omega
                      · rw [List.take_of_length_le (by omega)] at hout hqr
                        obtain ⟨aq2, cq2, rfl⟩ := hqr.val
                        clear hf1
                        go_wp2_with fail
                        go_roundg (2 * negs ((inL es t).foldl (bStep t) (ds, q)).1 + ((inL es t).foldl (bStep t) (ds, q)).2.length)
                        case measure => have := Hg.out; simp at this; omega
                        case rel => exact ⟨tag', f', _, _, by have := Hg.out; simp at this; omega, by have := Hg.out; simp at this; omega, rfl, hI, hout, hqr, Hf1.out, Hbk.out⟩
theorem backward_any (aa am af : Option Addr) (la lm ca cm cf lf : Nat) (ve v : Value) (n : Nat) (es : List Ed) (tg : List Int) (w : World) (hre : RdE w ve es) (hrt : RdI w v tg) (hl : es.length ≤ 1000000) (hlt' : tg.length ≤ 1000000) (hn : n ≤ 1000000)
    (hin : ∀ x ∈ es, 0 ≤ x.f ∧ x.f < n ∧ 0 ≤ x.t ∧ x.t < n) (hit : ∀ s ∈ tg, 0 ≤ s ∧ s < n) :
    Calls Try.prog 49 #[.agg #[.slice aa la ca, .int .i64 n, .slice am lm cm, ve, .slice af lf cf], v] w (Ret w fun u w' => RdI w' u (backward n es tg)) :=
  (backward_anyB aa am af la lm ca cm cf lf ve v n es tg w hre hrt hl hlt' hn hin hit).mono fun _ _ ⟨v, h1, h2, h3⟩ => ⟨v, h1, h2.1, h3⟩
end Go.Proofs.Ythchkddhibhenaa

namespace Go.Proofs.Ythchkddhibhenaa
open Go.RowKit

theorem setErr_zero {n : Int} : ∀ {p : Option Int} {xs : List Int}, setErr n p xs = 0 → ∀ x ∈ xs, 0 ≤ x ∧ x < n
  | _, [], _, x, hx => by cases hx
  | p, y :: ys, h, x, hx => by
    rw [setErr] at h
    split at h
    · cases h
    · rename_i h1
      split at h
      · cases h
      · rcases List.mem_cons.1 hx with rfl | h2
        · omega
        · exact setErr_zero h x h2
theorem edErr_zero {al : List Int} {n : Int} : ∀ {p : Option Ed} {xs : List Ed}, edErr al n p xs = 0 → ∀ x ∈ xs, 0 ≤ x.f ∧ x.f < n ∧ 0 ≤ x.t ∧ x.t < n
  | _, [], _, x, hx => by cases hx
  | p, y :: ys, h, x, hx => by
    rw [edErr] at h
    split at h
    · cases h
    · rename_i h1
      split at h
      · cases h
      · split at h
        · cases h
        · rcases List.mem_cons.1 hx with rfl | h2
          · omega
          · exact edErr_zero h x h2
/-- What a right automaton is. -/
structure Aut.Ok (a : Aut) : Prop where
  n0 : 0 ≤ a.n
  n1 : a.n ≤ 4096
  ms : ∀ s ∈ a.ms, 0 ≤ s ∧ s < a.n
  es : ∀ x ∈ a.es, 0 ≤ x.f ∧ x.f < a.n ∧ 0 ≤ x.t ∧ x.t < a.n
theorem Aut.ok_of {a : Aut} (h : a.err = 0) : a.Ok := by
  unfold Aut.err at h
  split at h
  · rename_i h1; rw [h] at h1; cases h1
  · split at h
    · cases h
    · split at h
      · cases h
      · split at h
        · rename_i h1; rw [h] at h1; cases h1
        · rename_i h1 h2 h3 h4
          have h5 : setErr a.n none a.ms = 0 := by simpa using h4
          exact ⟨by omega, by omega, setErr_zero h5, edErr_zero h⟩

theorem checkStates_any (aa am ae : Option Addr) (la lm le ca cm ce : Nat) (n : Int) (v : Value) (xs : List Int) (w : World) (hr : RdI w v xs) (hl : xs.length ≤ 1000000) :
    Calls Try.prog 47 #[.agg #[.slice aa la ca, .int .i64 n, .slice am lm cm, .slice ae le ce], v] w (Ret w fun u _ => u = .int .i64 (setErr n none xs)) := by
  go_enter Try.func47, Try.ntmps47
  go_wp2_with (go_at_call 61; ((with_reducible refine (rcheckSet_any _ _ _ _ (hr.mono (by (repeat (first | with_reducible exact Below.refl _ _ | with_reducible exact hr | (with_reducible refine belCall ?_ hr (by first | omega | (simp; done) | (simp; omega) | (simp at *; omega))) | (with_reducible refine Below.alloc ?_ (by first | omega | (simp; done) | (simp; omega) | (simp at *; omega)) _) | (with_reducible refine Below.drew ?_) | (with_reducible refine Below.setCell ?_ (by first | omega | (simp; done) | (simp; omega) | (simp at *; omega)) _))))) hl).mono ?_); rintro e w1 ⟨rfl, rfl⟩))
  go_ret
  exact ⟨_, rfl, rfl, (by (repeat (first | with_reducible exact Below.refl _ _ | with_reducible exact hr | (with_reducible refine belCall ?_ hr (by first | omega | (simp; done) | (simp; omega) | (simp at *; omega))) | (with_reducible refine Below.alloc ?_ (by first | omega | (simp; done) | (simp; omega) | (simp at *; omega)) _) | (with_reducible refine Below.drew ?_) | (with_reducible refine Below.setCell ?_ (by first | omega | (simp; done) | (simp; omega) | (simp at *; omega)) _))))⟩

/-- A box of four cells, and of five, behind a call. -/
theorem box4 {w w1 : World} {c0 c1 c2 c3 : Value} {t : TypeId} (hb : Below (w.alloc (.cells #[c0, c1, c2, c3] t)).heap.size (w.alloc (.cells #[c0, c1, c2, c3] t)) w1) :
    w1.cell? ⟨w.heap.size, 0, none⟩ = some c0 ∧ w1.cell? ⟨w.heap.size, 1, none⟩ = some c1 ∧ w1.cell? ⟨w.heap.size, 2, none⟩ = some c2 ∧ w1.cell? ⟨w.heap.size, 3, none⟩ = some c3 ∧ w.heap.size < w1.heap.size :=
  ⟨keep0 hb (by simp [go_sem]), keep0 hb (by simp [go_sem]), keep0 hb (by simp [go_sem]), keep0 hb (by simp [go_sem]), by have := hb.size; simp at this; omega⟩
theorem box4' {w w0 w1 : World} {c0 c1 c2 c3 : Value} (h : w0.cell? ⟨w.heap.size, 0, none⟩ = some c0 ∧ w0.cell? ⟨w.heap.size, 1, none⟩ = some c1 ∧ w0.cell? ⟨w.heap.size, 2, none⟩ = some c2 ∧ w0.cell? ⟨w.heap.size, 3, none⟩ = some c3 ∧ w.heap.size < w0.heap.size) (hb : Below w0.heap.size w0 w1) :
    w1.cell? ⟨w.heap.size, 0, none⟩ = some c0 ∧ w1.cell? ⟨w.heap.size, 1, none⟩ = some c1 ∧ w1.cell? ⟨w.heap.size, 2, none⟩ = some c2 ∧ w1.cell? ⟨w.heap.size, 3, none⟩ = some c3 ∧ w.heap.size < w1.heap.size :=
  ⟨keep0 hb h.1, keep0 hb h.2.1, keep0 hb h.2.2.1, keep0 hb h.2.2.2.1, Nat.lt_of_lt_of_le h.2.2.2.2 hb.size⟩

/-- What a function returns that gives a list or an error. -/
def ListPost (e : Int) (xs : List Int) (u : Value) (w' : World) : Prop := if e = 0 then ∃ v, u = .tuple #[v, .int .i64 0] ∧ RdI w' v xs else u = .tuple #[.slice none 0 0, .int .i64 e]
/-- The first of two errors. -/
def err2 (a b : Int) : Int := if a = 0 then b else a

theorem distances_any (v vt : Value) (a : Aut) (tg : List Int) (w : World) (ha : RdA w v a) (hs : a.small) (ht : RdI w vt tg) (hlt : tg.length ≤ 1000000) :
    Calls Try.prog 15 #[v, vt] w (Ret w (ListPost (err2 a.err (setErr a.n none tg)) (backward a.n.toNat a.es tg))) := by
  have ha0 := ha
  obtain ⟨va, vm, ve, rfl, ⟨aa, ca, rfl, hra⟩, ⟨am, cm, rfl, hrm⟩, ⟨ae, ce, rfl, hre⟩⟩ := ha
  have Ha0 := Lib.hid ha0
  have Ht := Lib.hid ht
  have Hs := Lib.hid hs
  clear ha0 ht hs
  go_enter Try.func15, Try.ntmps15
  go_wp2_with fail
  refine (check_any _ a _ (Ha0.out.mono (by (repeat (first | with_reducible exact Below.refl _ _ | with_reducible exact Ha0 | (with_reducible refine belCall ?_ Ha0 (by first | omega | (simp; done) | (simp; omega) | (simp at *; omega))) | (with_reducible refine Below.alloc ?_ (by first | omega | (simp; done) | (simp; omega) | (simp at *; omega)) _) | (with_reducible refine Below.drew ?_) | (with_reducible refine Below.setCell ?_ (by first | omega | (simp; done) | (simp; omega) | (simp at *; omega)) _))))) Hs.out).mono ?_
  rintro e w1 ⟨_, rfl, rfl, hb1⟩
  have hW1 : Below w.heap.size w w1 := ((Below.refl _ _).alloc (Nat.le_refl _) _).trans (hb1.mono (by simp))
  have hbx := box4 hb1
  clear hb1
  by_cases h1 : a.err = 0
  · have hok := Aut.ok_of h1
    have H1 := Lib.hid h1
    rw [h1]
    clear h1
    obtain ⟨x0, x1, x2, x3, x4⟩ := hbx
    have hbx' := And.intro x0 (And.intro x1 (And.intro x2 (And.intro x3 x4)))
    have Hbx := Lib.hid hbx'
    clear hbx'
    go_wp2_with fail
    refine (checkStates_any _ _ _ _ _ _ _ _ _ _ _ tg _ (Ht.out.mono hW1) hlt).mono ?_
    rintro e w2 ⟨_, rfl, rfl, hb2⟩
    have hW2 := hW1.trans (hb2.mono hW1.size)
    have hbx2 := box4' Hbx.out hb2
    clear x0 x1 x2 x3 x4
    by_cases h2 : setErr a.n none tg = 0
    · have hin := setErr_zero h2
      have H2 := Lib.hid h2
      have Hin := Lib.hid hin
      have Hes := Lib.hid hok.es
      rw [h2]
      clear h2 hin
      obtain ⟨x0, x1, x2, x3, x4⟩ := hbx2
      have hn0 := hok.n0
      have hn1 := hok.n1
      have hae := Hs.out.es
      clear hok
      generalize hn : a.n = an at *
      obtain ⟨n, rfl⟩ := Int.eq_ofNat_of_zero_le hn0
      have Hn := Lib.hid hn
      clear hn hn0
      go_wp2_with fail
      refine (newGraph_any _ _ _ _ _ _ _ n a.es _ (RdE.mono ⟨ae, ce, rfl, hre⟩ hW2) hae (by omega) (fun x hx => ⟨(Hes.out x hx).1, (Hes.out x hx).2.1⟩)).mono ?_
      rintro e w3 ⟨_, rfl, ⟨af, cf, rfl, hrf⟩, hb3⟩
      have hW3 := hW2.trans (hb3.mono hW2.size)
      go_wp2_with fail
      refine (backward_any _ _ _ _ _ _ _ _ _ _ _ n a.es tg _ (RdE.mono ⟨ae, ce, rfl, hre⟩ hW3) (Ht.out.mono hW3) hae hlt (by omega) Hes.out Hin.out).mono ?_
      rintro e w4 ⟨v4, rfl, hv4, hb4⟩
      go_wp2_with fail
      go_ret2
      refine ⟨_, rfl, ?_, hW3.trans (hb4.mono hW3.size)⟩
      rw [ListPost, if_pos (by rw [err2, if_pos H1.out, H2.out])]
      exact ⟨v4, rfl, by rw [Int.toNat_natCast]; exact hv4⟩
    · have H2 := Lib.hid h2
      have h2' : (setErr a.n none tg != 0) = true := by simpa using h2
      clear h2
      go_wp2_with fail
      go_ret2
      refine ⟨_, rfl, ?_, hW2⟩
      rw [ListPost, if_neg (by rw [err2, if_pos H1.out]; exact H2.out), err2, if_pos H1.out]
      rfl
  · have H1 := Lib.hid h1
    have h1' : (a.err != 0) = true := by simpa using h1
    clear h1
    go_wp2_with fail
    go_ret2
    refine ⟨_, rfl, ?_, hW1⟩
    rw [ListPost, if_neg (by rw [err2, if_neg H1.out]; exact H1.out), err2, if_neg H1.out]
    rfl

/-- The states whose distance is no less than 0. -/
def corea (a : Aut) : List Int := listL ((backward a.n.toNat a.es a.ms).map fun d => decide (0 ≤ d))
end Go.Proofs.Ythchkddhibhenaa

namespace Go.Proofs.Ythchkddhibhenaa
open Go.RowKit

theorem path1_any (be : Nat) (v : Value) (fl : List Bool) (s : Int) (w : World) (hb : w.cell? ⟨be, 0, none⟩ = some v) (hf : RdB w v fl) (h0 : 0 ≤ s) (h1 : s < fl.length) (hl : fl.length ≤ 1000000) :
    Calls Try.prog 54 #[.int .i64 s, .pointer (some ⟨be, 0, none⟩)] w fun e w' => e = .returned (.bool (fl.getD s.toNat false)) ∧ Below w.heap.size w w' := by
  obtain ⟨a, cap, rfl, hr⟩ := hf
  obtain ⟨b, off, rfl, hc⟩ := hr.at_bool s.toNat (by omega)
  have hg : fl.getD s.toNat false = fl[s.toNat] := by rw [List.getD_eq_getElem?_getD, List.getElem?_eq_getElem (by omega)]; rfl
  rw [hg]
  clear hg
  go_enter Try.func54, Try.ntmps54
  go_wp2
  go_ret
  exact ⟨rfl, Below.refl _ _⟩

theorem path2_any (be : Nat) (v : Value) (fl : List Bool) (x : Ed) (w : World) (hb : w.cell? ⟨be, 0, none⟩ = some v) (hf : RdB w v fl) (h0 : 0 ≤ x.t) (h1 : x.t < fl.length) (hl : fl.length ≤ 1000000) :
    Calls Try.prog 55 #[x.val, .pointer (some ⟨be, 0, none⟩)] w fun e w' => e = .returned (.bool (fl.getD x.t.toNat false)) ∧ Below w.heap.size w w' := by
  obtain ⟨a, cap, rfl, hr⟩ := hf
  obtain ⟨b, off, rfl, hc⟩ := hr.at_bool x.t.toNat (by omega)
  have hbl := World.block_lt_of_cell? w _ hb
  have hbl2 := World.block_lt_of_cell? w _ hc
  dsimp only at hbl hbl2
  have hg : fl.getD x.t.toNat false = fl[x.t.toNat] := by rw [List.getD_eq_getElem?_getD, List.getElem?_eq_getElem (by omega)]; rfl
  rw [hg]
  clear hg
  dsimp only [Ed.val]
  go_enter Try.func55, Try.ntmps55
  go_wp2
  go_ret
  exact ⟨rfl, (by (repeat (first | with_reducible exact Below.refl _ _ | with_reducible exact hb | (with_reducible refine belCall ?_ hb (by first | omega | (simp; done) | (simp; omega) | (simp at *; omega))) | (with_reducible refine Below.alloc ?_ (by first | omega | (simp; done) | (simp; omega) | (simp at *; omega)) _) | (with_reducible refine Below.drew ?_) | (with_reducible refine Below.setCell ?_ (by first | omega | (simp; done) | (simp; omega) | (simp at *; omega)) _))))⟩
end Go.Proofs.Ythchkddhibhenaa

namespace Go.Proofs.Ythchkddhibhenaa
open Go.RowKit

/-- What holds while both lists of flags are made, each in a box. -/
structure RBox (w : World) (aa am ae : Option Addr) (la lm le ca cm ce n : Nat) (v44 v47 : Value) (F1 F2 : List Bool) (l : Array Bool) (u43 u44 u45 u46 u47 u48 u15 u16 : Value) (tag : Nat → Nat) (W : World) : Prop where
  bel : Below w.heap.size w W
  box : Box4 W tag w.heap.size (.slice aa la ca) (.int .i64 n) (.slice am lm cm) (.slice ae le ce)
  s43 : l.getD 0 false = true → u43 = .agg #[.slice aa la ca, .int .i64 n, .slice am lm cm, .slice ae le ce]
  s44 : l.getD 1 false = true → u44 = v44
  s45 : l.getD 2 false = true → Row W w.heap.size tag 3 4 1 u45 n (bools F1)
  s46 : l.getD 3 false = true → u46 = .agg #[.slice aa la ca, .int .i64 n, .slice am lm cm, .slice ae le ce]
  s47 : l.getD 4 false = true → u47 = v47
  s48 : l.getD 5 false = true → Row W w.heap.size tag 4 4 1 u48 n (bools F2)
  s15 : l.getD 6 false = true → ∃ b, u15 = .pointer (some ⟨b, 0, none⟩) ∧ Own W w.heap.size tag 1 b #[if l.getD 8 false = true then u45 else .slice none 0 0] 86
  s16 : l.getD 7 false = true → ∃ b, u16 = .pointer (some ⟨b, 0, none⟩) ∧ Own W w.heap.size tag 2 b #[if l.getD 9 false = true then u48 else .slice none 0 0] 86
  o8 : l.getD 8 false = true → l.getD 2 false = true ∧ l.getD 6 false = true
  o9 : l.getD 9 false = true → l.getD 5 false = true ∧ l.getD 7 false = true
theorem RBox.start {w : World} {aa am ae : Option Addr} {la lm le ca cm ce n : Nat} {v44 v47 : Value} {F1 F2 : List Bool} {m : Nat} {u43 u44 u45 u46 u47 u48 u15 u16 : Value} {tag : Nat → Nat} {W : World} (hb : Below w.heap.size w W) (hx : Box4 W tag w.heap.size (.slice aa la ca) (.int .i64 n) (.slice am lm cm) (.slice ae le ce)) :
    RBox w aa am ae la lm le ca cm ce n v44 v47 F1 F2 (Array.replicate m false) u43 u44 u45 u46 u47 u48 u15 u16 tag W := by
  have h : ∀ j, (Array.replicate m false).getD j false = true → False := by
    intro j
    rw [Array.getD_eq_getD_getElem?, Array.getElem?_replicate]
    split <;> simp
  exact ⟨hb, hx, fun e => (h _ e).elim, fun e => (h _ e).elim, fun e => (h _ e).elim, fun e => (h _ e).elim, fun e => (h _ e).elim, fun e => (h _ e).elim, fun e => (h _ e).elim, fun e => (h _ e).elim, fun e => (h _ e).elim, fun e => (h _ e).elim⟩

section
variable {w : World} {aa am ae : Option Addr} {la lm le ca cm ce n : Nat} {v44 v47 : Value} {F1 F2 : List Bool} {l : Array Bool} {u43 u44 u45 u46 u47 u48 u15 u16 : Value} {tag : Nat → Nat} {W W' : World}
theorem RBox.op0 (hI : RBox w aa am ae la lm le ca cm ce n v44 v47 F1 F2 l u43 u44 u45 u46 u47 u48 u15 u16 tag W) (hl : ∀ j, j < 10 → (l.setIfInBounds 0 true).getD j false = (j == 0 || l.getD j false))  :
    RBox w aa am ae la lm le ca cm ce n v44 v47 F1 F2 (l.setIfInBounds 0 true) (.agg #[.slice aa la ca, .int .i64 n, .slice am lm cm, .slice ae le ce]) u44 u45 u46 u47 u48 u15 u16 tag W := by
  refine ⟨hI.bel, hI.box, ?_, ?_, ?_, ?_, ?_, ?_, ?_, ?_, ?_, ?_⟩
  · exact fun _ => rfl
  · exact fun h => (hI.s44 (by rwa [up_ne hl 1 (by decide) rfl] at h))
  · exact fun h => (hI.s45 (by rwa [up_ne hl 2 (by decide) rfl] at h))
  · exact fun h => (hI.s46 (by rwa [up_ne hl 3 (by decide) rfl] at h))
  · exact fun h => (hI.s47 (by rwa [up_ne hl 4 (by decide) rfl] at h))
  · exact fun h => (hI.s48 (by rwa [up_ne hl 5 (by decide) rfl] at h))
  · exact fun h => by
      obtain ⟨b, hb, ho⟩ := (hI.s15 (by rwa [up_ne hl 6 (by decide) rfl] at h))
      rw [up_ne hl 8 (by decide) rfl]
      exact ⟨b, hb, ho⟩
  · exact fun h => by
      obtain ⟨b, hb, ho⟩ := (hI.s16 (by rwa [up_ne hl 7 (by decide) rfl] at h))
      rw [up_ne hl 9 (by decide) rfl]
      exact ⟨b, hb, ho⟩
  · exact fun h => by
      rw [up_ne hl 8 (by decide) rfl] at h
      have := hI.o8 h
      exact ⟨by rw [hl 2 (by decide), this.1, Bool.or_true], by rw [hl 6 (by decide), this.2, Bool.or_true]⟩
  · exact fun h => by
      rw [up_ne hl 9 (by decide) rfl] at h
      have := hI.o9 h
      exact ⟨by rw [hl 5 (by decide), this.1, Bool.or_true], by rw [hl 7 (by decide), this.2, Bool.or_true]⟩
theorem RBox.op1 (hI : RBox w aa am ae la lm le ca cm ce n v44 v47 F1 F2 l u43 u44 u45 u46 u47 u48 u15 u16 tag W) (hl : ∀ j, j < 10 → (l.setIfInBounds 1 true).getD j false = (j == 1 || l.getD j false))  :
    RBox w aa am ae la lm le ca cm ce n v44 v47 F1 F2 (l.setIfInBounds 1 true) u43 v44 u45 u46 u47 u48 u15 u16 tag W := by
  refine ⟨hI.bel, hI.box, ?_, ?_, ?_, ?_, ?_, ?_, ?_, ?_, ?_, ?_⟩
  · exact fun h => (hI.s43 (by rwa [up_ne hl 0 (by decide) rfl] at h))
  · exact fun _ => rfl
  · exact fun h => (hI.s45 (by rwa [up_ne hl 2 (by decide) rfl] at h))
  · exact fun h => (hI.s46 (by rwa [up_ne hl 3 (by decide) rfl] at h))
  · exact fun h => (hI.s47 (by rwa [up_ne hl 4 (by decide) rfl] at h))
  · exact fun h => (hI.s48 (by rwa [up_ne hl 5 (by decide) rfl] at h))
  · exact fun h => by
      obtain ⟨b, hb, ho⟩ := (hI.s15 (by rwa [up_ne hl 6 (by decide) rfl] at h))
      rw [up_ne hl 8 (by decide) rfl]
      exact ⟨b, hb, ho⟩
  · exact fun h => by
      obtain ⟨b, hb, ho⟩ := (hI.s16 (by rwa [up_ne hl 7 (by decide) rfl] at h))
      rw [up_ne hl 9 (by decide) rfl]
      exact ⟨b, hb, ho⟩
  · exact fun h => by
      rw [up_ne hl 8 (by decide) rfl] at h
      have := hI.o8 h
      exact ⟨by rw [hl 2 (by decide), this.1, Bool.or_true], by rw [hl 6 (by decide), this.2, Bool.or_true]⟩
  · exact fun h => by
      rw [up_ne hl 9 (by decide) rfl] at h
      have := hI.o9 h
      exact ⟨by rw [hl 5 (by decide), this.1, Bool.or_true], by rw [hl 7 (by decide), this.2, Bool.or_true]⟩
theorem RBox.op3 (hI : RBox w aa am ae la lm le ca cm ce n v44 v47 F1 F2 l u43 u44 u45 u46 u47 u48 u15 u16 tag W) (hl : ∀ j, j < 10 → (l.setIfInBounds 3 true).getD j false = (j == 3 || l.getD j false))  :
    RBox w aa am ae la lm le ca cm ce n v44 v47 F1 F2 (l.setIfInBounds 3 true) u43 u44 u45 (.agg #[.slice aa la ca, .int .i64 n, .slice am lm cm, .slice ae le ce]) u47 u48 u15 u16 tag W := by
  refine ⟨hI.bel, hI.box, ?_, ?_, ?_, ?_, ?_, ?_, ?_, ?_, ?_, ?_⟩
  · exact fun h => (hI.s43 (by rwa [up_ne hl 0 (by decide) rfl] at h))
  · exact fun h => (hI.s44 (by rwa [up_ne hl 1 (by decide) rfl] at h))
  · exact fun h => (hI.s45 (by rwa [up_ne hl 2 (by decide) rfl] at h))
  · exact fun _ => rfl
  · exact fun h => (hI.s47 (by rwa [up_ne hl 4 (by decide) rfl] at h))
  · exact fun h => (hI.s48 (by rwa [up_ne hl 5 (by decide) rfl] at h))
  · exact fun h => by
      obtain ⟨b, hb, ho⟩ := (hI.s15 (by rwa [up_ne hl 6 (by decide) rfl] at h))
      rw [up_ne hl 8 (by decide) rfl]
      exact ⟨b, hb, ho⟩
  · exact fun h => by
      obtain ⟨b, hb, ho⟩ := (hI.s16 (by rwa [up_ne hl 7 (by decide) rfl] at h))
      rw [up_ne hl 9 (by decide) rfl]
      exact ⟨b, hb, ho⟩
  · exact fun h => by
      rw [up_ne hl 8 (by decide) rfl] at h
      have := hI.o8 h
      exact ⟨by rw [hl 2 (by decide), this.1, Bool.or_true], by rw [hl 6 (by decide), this.2, Bool.or_true]⟩
  · exact fun h => by
      rw [up_ne hl 9 (by decide) rfl] at h
      have := hI.o9 h
      exact ⟨by rw [hl 5 (by decide), this.1, Bool.or_true], by rw [hl 7 (by decide), this.2, Bool.or_true]⟩
theorem RBox.op4 (hI : RBox w aa am ae la lm le ca cm ce n v44 v47 F1 F2 l u43 u44 u45 u46 u47 u48 u15 u16 tag W) (hl : ∀ j, j < 10 → (l.setIfInBounds 4 true).getD j false = (j == 4 || l.getD j false))  :
    RBox w aa am ae la lm le ca cm ce n v44 v47 F1 F2 (l.setIfInBounds 4 true) u43 u44 u45 u46 v47 u48 u15 u16 tag W := by
  refine ⟨hI.bel, hI.box, ?_, ?_, ?_, ?_, ?_, ?_, ?_, ?_, ?_, ?_⟩
  · exact fun h => (hI.s43 (by rwa [up_ne hl 0 (by decide) rfl] at h))
  · exact fun h => (hI.s44 (by rwa [up_ne hl 1 (by decide) rfl] at h))
  · exact fun h => (hI.s45 (by rwa [up_ne hl 2 (by decide) rfl] at h))
  · exact fun h => (hI.s46 (by rwa [up_ne hl 3 (by decide) rfl] at h))
  · exact fun _ => rfl
  · exact fun h => (hI.s48 (by rwa [up_ne hl 5 (by decide) rfl] at h))
  · exact fun h => by
      obtain ⟨b, hb, ho⟩ := (hI.s15 (by rwa [up_ne hl 6 (by decide) rfl] at h))
      rw [up_ne hl 8 (by decide) rfl]
      exact ⟨b, hb, ho⟩
  · exact fun h => by
      obtain ⟨b, hb, ho⟩ := (hI.s16 (by rwa [up_ne hl 7 (by decide) rfl] at h))
      rw [up_ne hl 9 (by decide) rfl]
      exact ⟨b, hb, ho⟩
  · exact fun h => by
      rw [up_ne hl 8 (by decide) rfl] at h
      have := hI.o8 h
      exact ⟨by rw [hl 2 (by decide), this.1, Bool.or_true], by rw [hl 6 (by decide), this.2, Bool.or_true]⟩
  · exact fun h => by
      rw [up_ne hl 9 (by decide) rfl] at h
      have := hI.o9 h
      exact ⟨by rw [hl 5 (by decide), this.1, Bool.or_true], by rw [hl 7 (by decide), this.2, Bool.or_true]⟩
theorem RBox.op2 (hI : RBox w aa am ae la lm le ca cm ce n v44 v47 F1 F2 l u43 u44 u45 u46 u47 u48 u15 u16 tag W) (hl : ∀ j, j < 10 → (l.setIfInBounds 2 true).getD j false = (j == 2 || l.getD j false)) {u : Value} (hb : Below W.heap.size W W') (hown : W'.ownsRow W.heap.size 4 1 u n (bools F1)) (hn : l.getD 2 false = false) :
    RBox w aa am ae la lm le ca cm ce n v44 v47 F1 F2 (l.setIfInBounds 2 true) u43 u44 u u46 u47 u48 u15 u16 (tagFrom tag W.heap.size 3) W' := by
  have ht : Turn w.heap.size tag (tagFrom tag W.heap.size 3) 3 W W' := Turn.call hb
  have hsz := hI.bel.size
  refine ⟨belTurn hI.bel ht hsz, hI.box.turn ht (by decide), ?_, ?_, ?_, ?_, ?_, ?_, ?_, ?_, ?_, ?_⟩
  · exact fun h => (hI.s43 (by rwa [up_ne hl 0 (by decide) rfl] at h))
  · exact fun h => (hI.s44 (by rwa [up_ne hl 1 (by decide) rfl] at h))
  · exact fun _ => Row.of_call hown hsz
  · exact fun h => (hI.s46 (by rwa [up_ne hl 3 (by decide) rfl] at h))
  · exact fun h => (hI.s47 (by rwa [up_ne hl 4 (by decide) rfl] at h))
  · exact fun h => (hI.s48 (by rwa [up_ne hl 5 (by decide) rfl] at h)).turn ht (by decide)
  · exact fun h => by
      obtain ⟨b, hb, ho⟩ := hI.s15 (by rwa [up_ne hl 6 (by decide) rfl] at h)
      rw [up_ne hl 8 (by decide) rfl]
      have h8 : l.getD 8 false = false := by
        cases h8 : l.getD 8 false with
        | false => rfl
        | true => rw [(hI.o8 h8).1] at hn; cases hn
      rw [h8] at ho ⊢
      exact ⟨b, hb, ho.turn ht (by decide)⟩
  · exact fun h => by
      obtain ⟨b, hb, ho⟩ := (hI.s16 (by rwa [up_ne hl 7 (by decide) rfl] at h))
      rw [up_ne hl 9 (by decide) rfl]
      exact ⟨b, hb, ho.turn ht (by decide)⟩
  · exact fun h => by
      rw [up_ne hl 8 (by decide) rfl] at h
      have := hI.o8 h
      exact ⟨by rw [hl 2 (by decide), this.1, Bool.or_true], by rw [hl 6 (by decide), this.2, Bool.or_true]⟩
  · exact fun h => by
      rw [up_ne hl 9 (by decide) rfl] at h
      have := hI.o9 h
      exact ⟨by rw [hl 5 (by decide), this.1, Bool.or_true], by rw [hl 7 (by decide), this.2, Bool.or_true]⟩
theorem RBox.op5 (hI : RBox w aa am ae la lm le ca cm ce n v44 v47 F1 F2 l u43 u44 u45 u46 u47 u48 u15 u16 tag W) (hl : ∀ j, j < 10 → (l.setIfInBounds 5 true).getD j false = (j == 5 || l.getD j false)) {u : Value} (hb : Below W.heap.size W W') (hown : W'.ownsRow W.heap.size 4 1 u n (bools F2)) (hn : l.getD 5 false = false) :
    RBox w aa am ae la lm le ca cm ce n v44 v47 F1 F2 (l.setIfInBounds 5 true) u43 u44 u45 u46 u47 u u15 u16 (tagFrom tag W.heap.size 4) W' := by
  have ht : Turn w.heap.size tag (tagFrom tag W.heap.size 4) 4 W W' := Turn.call hb
  have hsz := hI.bel.size
  refine ⟨belTurn hI.bel ht hsz, hI.box.turn ht (by decide), ?_, ?_, ?_, ?_, ?_, ?_, ?_, ?_, ?_, ?_⟩
  · exact fun h => (hI.s43 (by rwa [up_ne hl 0 (by decide) rfl] at h))
  · exact fun h => (hI.s44 (by rwa [up_ne hl 1 (by decide) rfl] at h))
  · exact fun h => (hI.s45 (by rwa [up_ne hl 2 (by decide) rfl] at h)).turn ht (by decide)
  · exact fun h => (hI.s46 (by rwa [up_ne hl 3 (by decide) rfl] at h))
  · exact fun h => (hI.s47 (by rwa [up_ne hl 4 (by decide) rfl] at h))
  · exact fun _ => Row.of_call hown hsz
  · exact fun h => by
      obtain ⟨b, hb, ho⟩ := (hI.s15 (by rwa [up_ne hl 6 (by decide) rfl] at h))
      rw [up_ne hl 8 (by decide) rfl]
      exact ⟨b, hb, ho.turn ht (by decide)⟩
  · exact fun h => by
      obtain ⟨b, hb, ho⟩ := hI.s16 (by rwa [up_ne hl 7 (by decide) rfl] at h)
      rw [up_ne hl 9 (by decide) rfl]
      have h8 : l.getD 9 false = false := by
        cases h8 : l.getD 9 false with
        | false => rfl
        | true => rw [(hI.o9 h8).1] at hn; cases hn
      rw [h8] at ho ⊢
      exact ⟨b, hb, ho.turn ht (by decide)⟩
  · exact fun h => by
      rw [up_ne hl 8 (by decide) rfl] at h
      have := hI.o8 h
      exact ⟨by rw [hl 2 (by decide), this.1, Bool.or_true], by rw [hl 6 (by decide), this.2, Bool.or_true]⟩
  · exact fun h => by
      rw [up_ne hl 9 (by decide) rfl] at h
      have := hI.o9 h
      exact ⟨by rw [hl 5 (by decide), this.1, Bool.or_true], by rw [hl 7 (by decide), this.2, Bool.or_true]⟩
theorem RBox.op6 (hI : RBox w aa am ae la lm le ca cm ce n v44 v47 F1 F2 l u43 u44 u45 u46 u47 u48 u15 u16 tag W) (hl : ∀ j, j < 10 → (l.setIfInBounds 6 true).getD j false = (j == 6 || l.getD j false)) (hn : l.getD 6 false = false) :
    RBox w aa am ae la lm le ca cm ce n v44 v47 F1 F2 (l.setIfInBounds 6 true) u43 u44 u45 u46 u47 u48 (.pointer (some ⟨W.heap.size, 0, none⟩)) u16 (tagUp tag W.heap.size 1) (W.alloc (.cells #[.slice none 0 0] 86)) := by
  have ht : Turn w.heap.size tag (tagUp tag W.heap.size 1) 1 W (W.alloc (.cells #[.slice none 0 0] 86)) := Turn.alloc _
  have hsz := hI.bel.size
  refine ⟨belTurn hI.bel ht hsz, hI.box.turn ht (by decide), ?_, ?_, ?_, ?_, ?_, ?_, ?_, ?_, ?_, ?_⟩
  · exact fun h => (hI.s43 (by rwa [up_ne hl 0 (by decide) rfl] at h))
  · exact fun h => (hI.s44 (by rwa [up_ne hl 1 (by decide) rfl] at h))
  · exact fun h => (hI.s45 (by rwa [up_ne hl 2 (by decide) rfl] at h)).turn ht (by decide)
  · exact fun h => (hI.s46 (by rwa [up_ne hl 3 (by decide) rfl] at h))
  · exact fun h => (hI.s47 (by rwa [up_ne hl 4 (by decide) rfl] at h))
  · exact fun h => (hI.s48 (by rwa [up_ne hl 5 (by decide) rfl] at h)).turn ht (by decide)
  · exact fun _ => by
      have h8 : l.getD 8 false = false := by
        cases h8 : l.getD 8 false with
        | false => rfl
        | true => rw [(hI.o8 h8).2] at hn; cases hn
      rw [up_ne hl 8 (by decide) rfl, h8]
      exact ⟨_, rfl, Own.new W _ _ _ _ _ hsz (tagUp_at _ _ _)⟩
  · exact fun h => by
      obtain ⟨b, hb, ho⟩ := (hI.s16 (by rwa [up_ne hl 7 (by decide) rfl] at h))
      rw [up_ne hl 9 (by decide) rfl]
      exact ⟨b, hb, ho.turn ht (by decide)⟩
  · exact fun h => by
      rw [up_ne hl 8 (by decide) rfl] at h
      have := hI.o8 h
      exact ⟨by rw [hl 2 (by decide), this.1, Bool.or_true], by rw [hl 6 (by decide), this.2, Bool.or_true]⟩
  · exact fun h => by
      rw [up_ne hl 9 (by decide) rfl] at h
      have := hI.o9 h
      exact ⟨by rw [hl 5 (by decide), this.1, Bool.or_true], by rw [hl 7 (by decide), this.2, Bool.or_true]⟩
theorem RBox.op7 (hI : RBox w aa am ae la lm le ca cm ce n v44 v47 F1 F2 l u43 u44 u45 u46 u47 u48 u15 u16 tag W) (hl : ∀ j, j < 10 → (l.setIfInBounds 7 true).getD j false = (j == 7 || l.getD j false)) (hn : l.getD 7 false = false) :
    RBox w aa am ae la lm le ca cm ce n v44 v47 F1 F2 (l.setIfInBounds 7 true) u43 u44 u45 u46 u47 u48 u15 (.pointer (some ⟨W.heap.size, 0, none⟩)) (tagUp tag W.heap.size 2) (W.alloc (.cells #[.slice none 0 0] 86)) := by
  have ht : Turn w.heap.size tag (tagUp tag W.heap.size 2) 2 W (W.alloc (.cells #[.slice none 0 0] 86)) := Turn.alloc _
  have hsz := hI.bel.size
  refine ⟨belTurn hI.bel ht hsz, hI.box.turn ht (by decide), ?_, ?_, ?_, ?_, ?_, ?_, ?_, ?_, ?_, ?_⟩
  · exact fun h => (hI.s43 (by rwa [up_ne hl 0 (by decide) rfl] at h))
  · exact fun h => (hI.s44 (by rwa [up_ne hl 1 (by decide) rfl] at h))
  · exact fun h => (hI.s45 (by rwa [up_ne hl 2 (by decide) rfl] at h)).turn ht (by decide)
  · exact fun h => (hI.s46 (by rwa [up_ne hl 3 (by decide) rfl] at h))
  · exact fun h => (hI.s47 (by rwa [up_ne hl 4 (by decide) rfl] at h))
  · exact fun h => (hI.s48 (by rwa [up_ne hl 5 (by decide) rfl] at h)).turn ht (by decide)
  · exact fun h => by
      obtain ⟨b, hb, ho⟩ := (hI.s15 (by rwa [up_ne hl 6 (by decide) rfl] at h))
      rw [up_ne hl 8 (by decide) rfl]
      exact ⟨b, hb, ho.turn ht (by decide)⟩
  · exact fun _ => by
      have h8 : l.getD 9 false = false := by
        cases h8 : l.getD 9 false with
        | false => rfl
        | true => rw [(hI.o9 h8).2] at hn; cases hn
      rw [up_ne hl 9 (by decide) rfl, h8]
      exact ⟨_, rfl, Own.new W _ _ _ _ _ hsz (tagUp_at _ _ _)⟩
  · exact fun h => by
      rw [up_ne hl 8 (by decide) rfl] at h
      have := hI.o8 h
      exact ⟨by rw [hl 2 (by decide), this.1, Bool.or_true], by rw [hl 6 (by decide), this.2, Bool.or_true]⟩
  · exact fun h => by
      rw [up_ne hl 9 (by decide) rfl] at h
      have := hI.o9 h
      exact ⟨by rw [hl 5 (by decide), this.1, Bool.or_true], by rw [hl 7 (by decide), this.2, Bool.or_true]⟩
theorem RBox.op8 {bx : Nat} (hI : RBox w aa am ae la lm le ca cm ce n v44 v47 F1 F2 l u43 u44 u45 u46 u47 u48 (.pointer (some ⟨bx, 0, none⟩)) u16 tag W) (hl : ∀ j, j < 10 → (l.setIfInBounds 8 true).getD j false = (j == 8 || l.getD j false)) (h1 : l.getD 6 false = true) (h2 : l.getD 2 false = true) :
    RBox w aa am ae la lm le ca cm ce n v44 v47 F1 F2 (l.setIfInBounds 8 true) u43 u44 u45 u46 u47 u48 (.pointer (some ⟨bx, 0, none⟩)) u16 tag (W.setCell ⟨bx, 0, none⟩ u45) := by
  obtain ⟨b, hb, ho⟩ := hI.s15 h1
  cases hb
  have ht : Turn w.heap.size tag tag 1 W (W.setCell ⟨bx, 0, none⟩ u45) := Turn.setCell ho 0 _
  have hsz := hI.bel.size
  refine ⟨belTurn hI.bel ht hsz, hI.box.turn ht (by decide), ?_, ?_, ?_, ?_, ?_, ?_, ?_, ?_, ?_, ?_⟩
  · exact fun h => (hI.s43 (by rwa [up_ne hl 0 (by decide) rfl] at h))
  · exact fun h => (hI.s44 (by rwa [up_ne hl 1 (by decide) rfl] at h))
  · exact fun h => (hI.s45 (by rwa [up_ne hl 2 (by decide) rfl] at h)).turn ht (by decide)
  · exact fun h => (hI.s46 (by rwa [up_ne hl 3 (by decide) rfl] at h))
  · exact fun h => (hI.s47 (by rwa [up_ne hl 4 (by decide) rfl] at h))
  · exact fun h => (hI.s48 (by rwa [up_ne hl 5 (by decide) rfl] at h)).turn ht (by decide)
  · exact fun _ => by
      refine ⟨_, rfl, ?_⟩
      rw [hl 8 (by decide)]
      simpa using ho.set 0 u45
  · exact fun h => by
      obtain ⟨b, hb, ho⟩ := (hI.s16 (by rwa [up_ne hl 7 (by decide) rfl] at h))
      rw [up_ne hl 9 (by decide) rfl]
      exact ⟨b, hb, ho.turn ht (by decide)⟩
  · exact fun _ => ⟨by rw [hl 2 (by decide), h2, Bool.or_true], by rw [hl 6 (by decide), h1, Bool.or_true]⟩
  · exact fun h => by
      rw [up_ne hl 9 (by decide) rfl] at h
      have := hI.o9 h
      exact ⟨by rw [hl 5 (by decide), this.1, Bool.or_true], by rw [hl 7 (by decide), this.2, Bool.or_true]⟩
theorem RBox.op9 {bx : Nat} (hI : RBox w aa am ae la lm le ca cm ce n v44 v47 F1 F2 l u43 u44 u45 u46 u47 u48 u15 (.pointer (some ⟨bx, 0, none⟩)) tag W) (hl : ∀ j, j < 10 → (l.setIfInBounds 9 true).getD j false = (j == 9 || l.getD j false)) (h1 : l.getD 7 false = true) (h2 : l.getD 5 false = true) :
    RBox w aa am ae la lm le ca cm ce n v44 v47 F1 F2 (l.setIfInBounds 9 true) u43 u44 u45 u46 u47 u48 u15 (.pointer (some ⟨bx, 0, none⟩)) tag (W.setCell ⟨bx, 0, none⟩ u48) := by
  obtain ⟨b, hb, ho⟩ := hI.s16 h1
  cases hb
  have ht : Turn w.heap.size tag tag 2 W (W.setCell ⟨bx, 0, none⟩ u48) := Turn.setCell ho 0 _
  have hsz := hI.bel.size
  refine ⟨belTurn hI.bel ht hsz, hI.box.turn ht (by decide), ?_, ?_, ?_, ?_, ?_, ?_, ?_, ?_, ?_, ?_⟩
  · exact fun h => (hI.s43 (by rwa [up_ne hl 0 (by decide) rfl] at h))
  · exact fun h => (hI.s44 (by rwa [up_ne hl 1 (by decide) rfl] at h))
  · exact fun h => (hI.s45 (by rwa [up_ne hl 2 (by decide) rfl] at h)).turn ht (by decide)
  · exact fun h => (hI.s46 (by rwa [up_ne hl 3 (by decide) rfl] at h))
  · exact fun h => (hI.s47 (by rwa [up_ne hl 4 (by decide) rfl] at h))
  · exact fun h => (hI.s48 (by rwa [up_ne hl 5 (by decide) rfl] at h)).turn ht (by decide)
  · exact fun h => by
      obtain ⟨b, hb, ho⟩ := (hI.s15 (by rwa [up_ne hl 6 (by decide) rfl] at h))
      rw [up_ne hl 8 (by decide) rfl]
      exact ⟨b, hb, ho.turn ht (by decide)⟩
  · exact fun _ => by
      refine ⟨_, rfl, ?_⟩
      rw [hl 9 (by decide)]
      simpa using ho.set 0 u48
  · exact fun h => by
      rw [up_ne hl 8 (by decide) rfl] at h
      have := hI.o8 h
      exact ⟨by rw [hl 2 (by decide), this.1, Bool.or_true], by rw [hl 6 (by decide), this.2, Bool.or_true]⟩
  · exact fun _ => ⟨by rw [hl 5 (by decide), h2, Bool.or_true], by rw [hl 7 (by decide), h1, Bool.or_true]⟩
end

end Go.Proofs.Ythchkddhibhenaa

namespace Go.Proofs.Ythchkddhibhenaa
open Go.RowKit

/-- What Path returns. -/
def PPost (e : Int) (r : Option (List Int)) (u : Value) (w' : World) : Prop :=
  if e = 0 then match r with
    | some xs => ∃ v, u = .tuple #[v, .bool true, .int .i64 0] ∧ RdI w' v xs
    | none => u = .tuple #[.slice none 0 0, .bool false, .int .i64 0]
  else u = .tuple #[.slice none 0 0, .bool false, .int .i64 e]
def PPostB (B : Nat) (e : Int) (r : Option (List Int)) (u : Value) (w' : World) : Prop :=
  if e = 0 then match r with
    | some xs => ∃ v, u = .tuple #[v, .bool true, .int .i64 0] ∧ RdI w' v xs ∧ FreshV B v
    | none => u = .tuple #[.slice none 0 0, .bool false, .int .i64 0]
  else u = .tuple #[.slice none 0 0, .bool false, .int .i64 e]
theorem PPostB.old {B : Nat} {e : Int} {r : Option (List Int)} {u : Value} {w' : World} (h : PPostB B e r u w') : PPost e r u w' := by
  unfold PPostB at h
  unfold PPost
  split at h
  · rename_i h0
    rw [if_pos h0]
    cases r with
    | none => exact h
    | some xs => obtain ⟨v, h1, h2, _⟩ := h; exact ⟨v, h1, h2⟩
  · rename_i h0
    rw [if_neg h0]; exact h
theorem PPostB.err {B : Nat} {e : Int} {r : Option (List Int)} {w' : World} (h : e ≠ 0) : PPostB B e r (.tuple #[.slice none 0 0, .bool false, .int .i64 e]) w' := by
  unfold PPostB; rw [if_neg h]
/-- The error of Path. -/
def pathErr (a : Aut) (from_ : Int) (tg wi : List Int) : Int := err2 a.err (if from_ < 0 ∨ a.n ≤ from_ then 2 else err2 (setErr a.n none tg) (setErr a.n none wi))
/-- The word of Path. -/
def reachPath (a : Aut) (from_ : Int) (tg wi : List Int) : Option (List Int) := if hasB wi from_ = true then pathF a.n.toNat a.es (hasB tg) (fun x => hasB wi x.t) from_.toNat else none
/-- Where the loop over both sets is. -/
def PLoop (e1 e2 : Int) (j : Value) : Prop := j = .int .i64 0 ∨ (j = .int .i64 1 ∧ e1 = 0) ∨ (j = .int .i64 2 ∧ e1 = 0 ∧ e2 = 0)
theorem flagL_getD {n : Nat} {set : List Int} {s : Int} (h0 : 0 ≤ s) (h1 : s < n) : (flagL n set).getD s.toNat false = hasB set s := by
  rw [List.getD_eq_getElem?_getD, flagL, List.getElem?_map, List.getElem?_range (by omega)]
  simp [Int.toNat_of_nonneg h0]

set_option maxRecDepth 100000 in
set_option maxHeartbeats 800000 in
theorem rpath_anyB (v vt vw : Value) (a : Aut) (from_ : Int) (tg wi : List Int) (w : World) (ha : RdA w v a) (hs : a.small) (ht : RdI w vt tg) (hw : RdI w vw wi) (hlt : tg.length ≤ 1000000) (hlw : wi.length ≤ 1000000) :
    Calls Try.prog 17 #[v, .int .i64 from_, vt, vw] w (Ret w (PPostB w.heap.size (pathErr a from_ tg wi) (reachPath a from_ tg wi))) := by
  have ha0 := ha
  obtain ⟨va, vm, ve, rfl, ⟨aa, ca, rfl, hra⟩, ⟨am, cm, rfl, hrm⟩, ⟨ae, ce, rfl, hre⟩⟩ := ha
  have Ht := Lib.hid ht
  have Hw := Lib.hid hw
  obtain ⟨at_, ct, rfl, hrt⟩ := ht
  obtain ⟨aw, cw, rfl, hrw⟩ := hw
  have Ha0 := Lib.hid ha0
  have Hs := Lib.hid hs
  clear ha0 hs
  have hix0 : ∀ w, (Instr.index 85 (.agg #[.slice at_ tg.length ct, .slice aw wi.length cw]) (.int .i64 0)).run Try.prog w = .ok (.slice at_ tg.length ct) w := fun _ => by kernel_rfl
  have hix1 : ∀ w, (Instr.index 85 (.agg #[.slice at_ tg.length ct, .slice aw wi.length cw]) (.int .i64 1)).run Try.prog w = .ok (.slice aw wi.length cw) w := fun _ => by kernel_rfl
  go_enter Try.func17, Try.ntmps17
  go_wp2_with fail
  refine (check_any _ a _ (Ha0.out.mono (by (repeat (first | with_reducible exact Below.refl _ _ | with_reducible exact Ha0 | (with_reducible refine belCall ?_ Ha0 (by first | omega | (simp; done) | (simp; omega) | (simp at *; omega))) | (with_reducible refine Below.alloc ?_ (by first | omega | (simp; done) | (simp; omega) | (simp at *; omega)) _) | (with_reducible refine Below.drew ?_) | (with_reducible refine Below.setCell ?_ (by first | omega | (simp; done) | (simp; omega) | (simp at *; omega)) _))))) Hs.out).mono ?_
  rintro e w1 ⟨_, rfl, rfl, hb1⟩
  have hW1 : Below w.heap.size w w1 := ((Below.refl _ _).alloc (Nat.le_refl _) _).trans (hb1.mono (by simp))
  have hbx := box4 hb1
  clear hb1
  by_cases h1 : a.err = 0
  · have hok := Aut.ok_of h1
    have H1 := Lib.hid h1
    rw [h1]
    clear h1
    by_cases hf : from_ < 0 ∨ a.n ≤ from_
    · have Hf := Lib.hid hf
      obtain ⟨x0, x1, x2, x3, x4⟩ := hbx
      by_cases hlt0 : from_ < 0
      all_goals
        try have hge : a.n ≤ from_ := by omega
        clear hf
        go_wp2_with fail
        refine bodyPost_ret (v := .tuple #[.slice none 0 0, .bool false, .int .i64 2]) (by simp [results, Try.results17, go_sem]) rfl ⟨_, rfl, ?_, hW1⟩
        rw [show pathErr a from_ tg wi = 2 by rw [pathErr, err2, if_pos H1.out, if_pos Hf.out]]
        exact PPostB.err (by decide)
    · have hf0 : 0 ≤ from_ := by omega
      have hf1 : from_ < a.n := by omega
      have Hf := Lib.hid hf
      clear hf
      have Hes := Lib.hid hok.es
      have d1 : decide (from_ < 0) = false := by simpa using hf0
      have d2 : decide (a.n ≤ from_) = false := by simpa using hf1
      have hn0 := hok.n0
      have hn1 := hok.n1
      have hae := Hs.out.es
      clear hok
      obtain ⟨x0, x1, x2, x3, x4⟩ := hbx
      go_wp2_with fail
      clear d1 d2
      go_loopw [33] (fun j wr => PLoop (setErr a.n none tg) (setErr a.n none wi) j ∧ Below w.heap.size w wr ∧ wr.cell? ⟨w.heap.size, 0, none⟩ = some (.slice aa a.al.length ca) ∧ wr.cell? ⟨w.heap.size, 1, none⟩ = some (.int .i64 a.n) ∧ wr.cell? ⟨w.heap.size, 2, none⟩ = some (.slice am a.ms.length cm) ∧ wr.cell? ⟨w.heap.size, 3, none⟩ = some (.slice ae a.es.length ce) ∧ w.heap.size < wr.heap.size) (fun j _ => 2 - (intOf j).toNat)
      case atStart => exact ⟨.inl rfl, hW1, x0, x1, x2, x3, x4⟩
      case round =>
        clear x0 x1 x2 x3 x4 hW1
        obtain ⟨hj, hB, x0, x1, x2, x3, x4⟩ := hrel
        have hbx := And.intro x0 (And.intro x1 (And.intro x2 (And.intro x3 x4)))
        have Hbx := Lib.hid hbx
        clear hbx
        rcases hj with rfl | ⟨rfl, h2⟩ | ⟨rfl, h2, h3⟩
        · go_wp2_with fail
          refine (checkStates_any _ _ _ _ _ _ _ _ _ _ _ tg _ (Ht.out.mono hB) hlt).mono ?_
          rintro e w2 ⟨_, rfl, rfl, hb2⟩
          have hW2 := hB.trans (hb2.mono hB.size)
          have hbx2 := box4' Hbx.out hb2
          clear x0 x1 x2 x3 x4
          by_cases h2 : setErr a.n none tg = 0
          · have H2 := Lib.hid h2
            rw [h2]
            clear h2
            obtain ⟨x0, x1, x2, x3, x4⟩ := hbx2
            go_wp2_with fail
            go_roundw
            case rel => exact ⟨.inr (.inl ⟨rfl, H2.out⟩), hW2, x0, x1, x2, x3, x4⟩
            case measure => simp [intOf]
          · have H2 := Lib.hid h2
            have h2' : (setErr a.n none tg != 0) = true := by simpa using h2
            clear h2
            go_wp2_with fail
            refine bodyPost_ret (v := .tuple #[.slice none 0 0, .bool false, .int .i64 (setErr a.n none tg)]) (by simp [results, Try.results17, go_sem]) rfl ⟨_, rfl, ?_, hW2⟩
            rw [show pathErr a from_ tg wi = setErr a.n none tg by rw [pathErr, err2, if_pos H1.out, if_neg Hf.out, err2, if_neg H2.out]]
            exact PPostB.err H2.out
        · have H2 := Lib.hid h2
          clear h2
          go_wp2_with fail
          refine (checkStates_any _ _ _ _ _ _ _ _ _ _ _ wi _ (Hw.out.mono hB) hlw).mono ?_
          rintro e w2 ⟨_, rfl, rfl, hb2⟩
          have hW2 := hB.trans (hb2.mono hB.size)
          have hbx2 := box4' Hbx.out hb2
          clear x0 x1 x2 x3 x4
          by_cases h2 : setErr a.n none wi = 0
          · have H3 := Lib.hid h2
            rw [h2]
            clear h2
            obtain ⟨x0, x1, x2, x3, x4⟩ := hbx2
            go_wp2_with fail
            go_roundw
            case rel => exact ⟨.inr (.inr ⟨rfl, H2.out, H3.out⟩), hW2, x0, x1, x2, x3, x4⟩
            case measure => simp [intOf]
          · have H3 := Lib.hid h2
            have h2' : (setErr a.n none wi != 0) = true := by simpa using h2
            clear h2
            go_wp2_with fail
            refine bodyPost_ret (v := .tuple #[.slice none 0 0, .bool false, .int .i64 (setErr a.n none wi)]) (by simp [results, Try.results17, go_sem]) rfl ⟨_, rfl, ?_, hW2⟩
            rw [show pathErr a from_ tg wi = setErr a.n none wi by rw [pathErr, err2, if_pos H1.out, if_neg Hf.out, err2, if_pos H2.out]]
            exact PPostB.err H3.out
        · have Herr : Hid (pathErr a from_ tg wi = 0) := by
            show _ = _
            rw [pathErr, err2, if_pos H1.out, if_neg Hf.out, err2, if_pos h2, h3]
          have htin := setErr_zero h2
          have hwin := setErr_zero h3
          have Htin := Lib.hid htin
          have Hwin := Lib.hid hwin
          clear htin hwin h2 h3
          have Hpath : Hid (reachPath a from_ tg wi = if hasB wi from_ = true then pathF a.n.toNat a.es (hasB tg) (fun x => hasB wi x.t) from_.toNat else none) := rfl
          generalize hn : a.n = an at *
          obtain ⟨n, rfl⟩ := Int.eq_ofNat_of_zero_le hn0
          obtain ⟨fr, rfl⟩ := Int.eq_ofNat_of_zero_le hf0
          have hn' : n ≤ 4096 := by omega
          have hfr : fr < n := by omega
          have Hn := Lib.hid hn
          clear hn hn0 hn1 hf0 hf1
          have hbd := box4' Hbx.out (bel_drew wr)
          obtain ⟨y0, y1, y2, y3, y4⟩ := hbd
          go_upto_region 13 with fail
          go_cut [15, 16] (fun s15 s16 wx => ∃ (b1 b2 : Nat) (a1 a2 : Option Addr) (c1 c2 : Nat), s15 = .pointer (some ⟨b1, 0, none⟩) ∧ s16 = .pointer (some ⟨b2, 0, none⟩) ∧ Below w.heap.size w wx ∧
            wx.cell? ⟨w.heap.size, 0, none⟩ = some (.slice aa a.al.length ca) ∧ wx.cell? ⟨w.heap.size, 1, none⟩ = some (.int .i64 n) ∧ wx.cell? ⟨w.heap.size, 2, none⟩ = some (.slice am a.ms.length cm) ∧ wx.cell? ⟨w.heap.size, 3, none⟩ = some (.slice ae a.es.length ce) ∧ w.heap.size < wx.heap.size ∧
            wx.cell? ⟨b1, 0, none⟩ = some (.slice a1 n c1) ∧ wx.cell? ⟨b2, 0, none⟩ = some (.slice a2 n c2) ∧ RdS wx 1 a1 n c1 (bools (flagL n wi)) ∧ RdS wx 1 a2 n c2 (bools (flagL n tg)))
          case first =>
            refine wp_region_inv (fun l us W => ∃ u43 u44 u45 u46 u47 u48 u15 u16 tag, us = [u43, u44, u45, u46, u47, u48, u15, u16] ∧ RBox w aa am ae a.al.length a.ms.length a.es.length ca cm ce n (.slice aw wi.length cw) (.slice at_ tg.length ct) (flagL n wi) (flagL n tg) l u43 u44 u45 u46 u47 u48 u15 u16 tag W) [43, 44, 45, 46, 47, 48, 15, 16] (by kernel_rfl) (by kernel_rfl) ?_ ?_ ?_
            · exact ⟨_, _, _, _, _, _, _, _, fun _ => 0, rfl, RBox.start hB.drew ⟨rfl, x4, x0, x1, x2, x3⟩⟩
            · refine Steps.cons rfl ?_ ?_
              · rintro l us W hl ⟨u43, u44, u45, u46, u47, u48, u15, u16, tag, rfl, hI⟩ hd hn K' hK
                have Hl : Hid (∀ j, j < 10 → (l.setIfInBounds 0 true).getD j false = (j == 0 || l.getD j false)) := hl
                have Hn : Hid (l.getD 0 false = false) := hn
                have HI := Lib.hid hI
                have HK := Lib.hid hK
                have y1 := hI.box.x0
                have y2 := hI.box.x1
                have y3 := hI.box.x2
                have y4 := hI.box.x3
                clear hl hd hn hI hK
                refine StepG.mk ?_
                simp only [puts, Act.put]
                go_simp
                exact HK.out [.agg #[.slice aa a.al.length ca, .int .i64 n, .slice am a.ms.length cm, .slice ae a.es.length ce], u44, u45, u46, u47, u48, u15, u16] _ _ (by simp [puts, Act.put]) ⟨_, _, _, _, _, _, _, _, _, rfl, HI.out.op0 Hl.out⟩
              refine Steps.cons rfl ?_ ?_
              · rintro l us W hl ⟨u43, u44, u45, u46, u47, u48, u15, u16, tag, rfl, hI⟩ hd hn K' hK
                have Hl : Hid (∀ j, j < 10 → (l.setIfInBounds 1 true).getD j false = (j == 1 || l.getD j false)) := hl
                have Hn : Hid (l.getD 1 false = false) := hn
                have HI := Lib.hid hI
                have HK := Lib.hid hK
                clear hl hd hn hI hK
                refine StepG.mk ?_
                simp only [puts, Act.put]
                go_simp
                exact HK.out [u43, .slice aw wi.length cw, u45, u46, u47, u48, u15, u16] _ _ (by simp [puts, Act.put]) ⟨_, _, _, _, _, _, _, _, _, rfl, HI.out.op1 Hl.out⟩
              refine Steps.cons rfl ?_ ?_
              · rintro l us W hl ⟨u43, u44, u45, u46, u47, u48, u15, u16, tag, rfl, hI⟩ hd hn K' hK
                have Hl : Hid (∀ j, j < 10 → (l.setIfInBounds 2 true).getD j false = (j == 2 || l.getD j false)) := hl
                have Hn : Hid (l.getD 2 false = false) := hn
                have HI := Lib.hid hI
                have HK := Lib.hid hK
                have d : l.getD 0 false = true ∧ l.getD 1 false = true := by simpa [Region.binds] using hd
                obtain rfl := hI.s43 d.1
                obtain rfl := hI.s44 d.2
                have hB' := hI.bel
                clear hl hd hn hI hK d
                refine StepG.mk ?_
                simp only [puts, Act.put]
                go_simp
                refine (flags_any _ _ _ (.slice aw wi.length cw) n wi _ (Hw.out.mono hB') hlw (by omega) Hwin.out).mono ?_
                rintro e w3 ⟨v3, rfl, hown3, hb3⟩
                go_simp
                exact HK.out [.agg #[.slice aa a.al.length ca, .int .i64 n, .slice am a.ms.length cm, .slice ae a.es.length ce], .slice aw wi.length cw, v3, u46, u47, u48, u15, u16] _ _ (by simp [puts, Act.put]) ⟨_, _, _, _, _, _, _, _, _, rfl, HI.out.op2 Hl.out hb3 hown3 Hn.out⟩
              refine Steps.cons rfl ?_ ?_
              · rintro l us W hl ⟨u43, u44, u45, u46, u47, u48, u15, u16, tag, rfl, hI⟩ hd hn K' hK
                have Hl : Hid (∀ j, j < 10 → (l.setIfInBounds 3 true).getD j false = (j == 3 || l.getD j false)) := hl
                have Hn : Hid (l.getD 3 false = false) := hn
                have HI := Lib.hid hI
                have HK := Lib.hid hK
                have y1 := hI.box.x0
                have y2 := hI.box.x1
                have y3 := hI.box.x2
                have y4 := hI.box.x3
                clear hl hd hn hI hK
                refine StepG.mk ?_
                simp only [puts, Act.put]
                go_simp
                exact HK.out [u43, u44, u45, .agg #[.slice aa a.al.length ca, .int .i64 n, .slice am a.ms.length cm, .slice ae a.es.length ce], u47, u48, u15, u16] _ _ (by simp [puts, Act.put]) ⟨_, _, _, _, _, _, _, _, _, rfl, HI.out.op3 Hl.out⟩
              refine Steps.cons rfl ?_ ?_
              · rintro l us W hl ⟨u43, u44, u45, u46, u47, u48, u15, u16, tag, rfl, hI⟩ hd hn K' hK
                have Hl : Hid (∀ j, j < 10 → (l.setIfInBounds 4 true).getD j false = (j == 4 || l.getD j false)) := hl
                have Hn : Hid (l.getD 4 false = false) := hn
                have HI := Lib.hid hI
                have HK := Lib.hid hK
                clear hl hd hn hI hK
                refine StepG.mk ?_
                simp only [puts, Act.put]
                go_simp
                exact HK.out [u43, u44, u45, u46, .slice at_ tg.length ct, u48, u15, u16] _ _ (by simp [puts, Act.put]) ⟨_, _, _, _, _, _, _, _, _, rfl, HI.out.op4 Hl.out⟩
              refine Steps.cons rfl ?_ ?_
              · rintro l us W hl ⟨u43, u44, u45, u46, u47, u48, u15, u16, tag, rfl, hI⟩ hd hn K' hK
                have Hl : Hid (∀ j, j < 10 → (l.setIfInBounds 5 true).getD j false = (j == 5 || l.getD j false)) := hl
                have Hn : Hid (l.getD 5 false = false) := hn
                have HI := Lib.hid hI
                have HK := Lib.hid hK
                have d : l.getD 3 false = true ∧ l.getD 4 false = true := by
                  simp [Region.binds] at hd
                  exact ⟨by simp [hd], by simp [hd]⟩
                obtain rfl := hI.s46 d.1
                obtain rfl := hI.s47 d.2
                have hB' := hI.bel
                clear hl hd hn hI hK d
                refine StepG.mk ?_
                simp only [puts, Act.put]
                go_simp
                refine (flags_any _ _ _ (.slice at_ tg.length ct) n tg _ (Ht.out.mono hB') hlt (by omega) Htin.out).mono ?_
                rintro e w3 ⟨v3, rfl, hown3, hb3⟩
                go_simp
                exact HK.out [u43, u44, u45, .agg #[.slice aa a.al.length ca, .int .i64 n, .slice am a.ms.length cm, .slice ae a.es.length ce], .slice at_ tg.length ct, v3, u15, u16] _ _ (by simp [puts, Act.put]) ⟨_, _, _, _, _, _, _, _, _, rfl, HI.out.op5 Hl.out hb3 hown3 Hn.out⟩
              refine Steps.cons rfl ?_ ?_
              · rintro l us W hl ⟨u43, u44, u45, u46, u47, u48, u15, u16, tag, rfl, hI⟩ hd hn K' hK
                have Hl : Hid (∀ j, j < 10 → (l.setIfInBounds 6 true).getD j false = (j == 6 || l.getD j false)) := hl
                have Hn : Hid (l.getD 6 false = false) := hn
                have HI := Lib.hid hI
                have HK := Lib.hid hK
                clear hl hd hn hI hK
                refine StepG.mk ?_
                simp only [puts, Act.put]
                go_simp
                exact HK.out [u43, u44, u45, u46, u47, u48, .pointer (some ⟨W.heap.size, 0, none⟩), u16] _ _ (by simp [puts, Act.put]) ⟨_, _, _, _, _, _, _, _, _, rfl, HI.out.op6 Hl.out Hn.out⟩
              refine Steps.cons rfl ?_ ?_
              · rintro l us W hl ⟨u43, u44, u45, u46, u47, u48, u15, u16, tag, rfl, hI⟩ hd hn K' hK
                have Hl : Hid (∀ j, j < 10 → (l.setIfInBounds 7 true).getD j false = (j == 7 || l.getD j false)) := hl
                have Hn : Hid (l.getD 7 false = false) := hn
                have HI := Lib.hid hI
                have HK := Lib.hid hK
                clear hl hd hn hI hK
                refine StepG.mk ?_
                simp only [puts, Act.put]
                go_simp
                exact HK.out [u43, u44, u45, u46, u47, u48, u15, .pointer (some ⟨W.heap.size, 0, none⟩)] _ _ (by simp [puts, Act.put]) ⟨_, _, _, _, _, _, _, _, _, rfl, HI.out.op7 Hl.out Hn.out⟩
              refine Steps.cons rfl ?_ ?_
              · rintro l us W hl ⟨u43, u44, u45, u46, u47, u48, u15, u16, tag, rfl, hI⟩ hd hn K' hK
                have Hl : Hid (∀ j, j < 10 → (l.setIfInBounds 8 true).getD j false = (j == 8 || l.getD j false)) := hl
                have Hn : Hid (l.getD 8 false = false) := hn
                have HI := Lib.hid hI
                have HK := Lib.hid hK
                have d : l.getD 6 false = true ∧ l.getD 2 false = true := by
                  simp [Region.binds] at hd
                  exact ⟨by simp [hd], by simp [hd]⟩
                refine Exists.elim (hI.s15 d.1) (fun b hb => ?_)
                have hb1 := hb.1
                have ho := hb.2
                subst hb1
                refine Exists.elim (hI.s45 d.2).val (fun a3 h3 => Exists.elim h3 (fun c3 h4 => ?_))
                subst h4
                clear hb h3
                have q1 := ho.cell 0
                have q2 := ho.frozen 0
                simp at q1
                have D := Lib.hid d
                clear hl hd hn hI hK d ho
                refine StepG.mk ?_
                simp only [puts, Act.put]
                go_simp
                exact HK.out [u43, u44, .slice a3 n c3, u46, u47, u48, .pointer (some ⟨b, 0, none⟩), u16] _ _ (by simp [puts, Act.put]) ⟨_, _, _, _, _, _, _, _, _, rfl, HI.out.op8 Hl.out D.out.1 D.out.2⟩
              refine Steps.cons rfl ?_ ?_
              · rintro l us W hl ⟨u43, u44, u45, u46, u47, u48, u15, u16, tag, rfl, hI⟩ hd hn K' hK
                have Hl : Hid (∀ j, j < 10 → (l.setIfInBounds 9 true).getD j false = (j == 9 || l.getD j false)) := hl
                have Hn : Hid (l.getD 9 false = false) := hn
                have HI := Lib.hid hI
                have HK := Lib.hid hK
                have d : l.getD 7 false = true ∧ l.getD 5 false = true := by
                  simp [Region.binds] at hd
                  exact ⟨by simp [hd], by simp [hd]⟩
                refine Exists.elim (hI.s16 d.1) (fun b hb => ?_)
                have hb1 := hb.1
                have ho := hb.2
                subst hb1
                refine Exists.elim (hI.s48 d.2).val (fun a3 h3 => Exists.elim h3 (fun c3 h4 => ?_))
                subst h4
                clear hb h3
                have q1 := ho.cell 0
                have q2 := ho.frozen 0
                simp at q1
                have D := Lib.hid d
                clear hl hd hn hI hK d ho
                refine StepG.mk ?_
                simp only [puts, Act.put]
                go_simp
                exact HK.out [u43, u44, u45, u46, u47, .slice a3 n c3, u15, .pointer (some ⟨b, 0, none⟩)] _ _ (by simp [puts, Act.put]) ⟨_, _, _, _, _, _, _, _, _, rfl, HI.out.op9 Hl.out D.out.1 D.out.2⟩
              exact Steps.nil (Nat.le_refl _)
            · rintro l us W ⟨u43, u44, u45, u46, u47, u48, u15, u16, tag, rfl, hI⟩ hall
              have h2 := hI.s45 (hall 2 (by decide))
              have h5 := hI.s48 (hall 5 (by decide))
              refine Exists.elim (hI.s15 (hall 6 (by decide))) (fun b1 hb1 => ?_)
              refine Exists.elim (hI.s16 (hall 7 (by decide))) (fun b2 hb2 => ?_)
              have e1 := hb1.1
              have e2 := hb2.1
              have ho1 := hb1.2
              have ho2 := hb2.2
              clear hb1 hb2
              subst e1
              subst e2
              rw [if_pos (hall 8 (by decide))] at ho1
              rw [if_pos (hall 9 (by decide))] at ho2
              refine Exists.elim h2.rd (fun a1 g1 => Exists.elim g1 (fun c1 g2 => ?_))
              refine Exists.elim h5.rd (fun a2 g3 => Exists.elim g3 (fun c2 g4 => ?_))
              have e1 := g2.1
              have e2 := g4.1
              have hr1 := g2.2
              have hr2 := g4.2
              clear g1 g2 g3 g4
              subst e1
              subst e2
              have HI := Lib.hid (And.intro hI.bel (And.intro hI.box (And.intro hr1 (And.intro hr2 (And.intro ho1 ho2)))))
              clear hall h2 h5 hr1 hr2 ho1 ho2 hI
              simp only [puts, Act.put, List.setIfInBounds_toArray, List.set_cons_succ, List.set_cons_zero]
              go_wp2_with fail
              go_meet
              obtain ⟨g1, g2, g3, g4, g5, g6⟩ := HI.out
              exact ⟨b1, b2, a1, a2, c1, c2, rfl, rfl, g1, g2.x0, g2.x1, g2.x2, g2.x3, g2.lt, g5.cell 0, g6.cell 0, g3, g4⟩
          case rest =>
            obtain ⟨b1, b2, a1, a2, c1, c2, rfl, rfl, hW, q0, q1, q2, q3, q4, k1, k2, hr1, hr2⟩ := hcut
            have hfl1 : (flagL n wi).length = n := flagL_length n wi
            have hfl2 : (flagL n tg).length = n := flagL_length n tg
            have hR1 : RdB wc (.slice a1 n c1) (flagL n wi) := ⟨a1, c1, by rw [hfl1], by rw [hfl1]; exact hr1⟩
            have hR2 : RdB wc (.slice a2 n c2) (flagL n tg) := ⟨a2, c2, by rw [hfl2], by rw [hfl2]; exact hr2⟩
            have HR1 := Lib.hid hR1
            have HR2 := Lib.hid hR2
            have hr1' : RdS wc 1 a1 (flagL n wi).length c1 (bools (flagL n wi)) := by rw [hfl1]; exact hr1
            obtain ⟨bb, off, rfl, hcell⟩ := hr1'.at_bool fr (by omega)
            have hget : (flagL n wi)[fr]'(by omega) = hasB wi fr := by
              have := flagL_getD (n := n) (set := wi) (s := (fr : Int)) (by omega) (by omega)
              rw [Int.toNat_natCast, List.getD_eq_getElem?_getD, List.getElem?_eq_getElem (by omega)] at this
              exact this
            rw [hget] at hcell
            have Hfl1 := Lib.hid hfl1
            have Hfl2 := Lib.hid hfl2
            clear hget hfl1 hfl2 hr1' hR1 hR2
            cases hin : hasB wi fr with
            | false =>
              have Hin := Lib.hid hin
              rw [hin] at hcell
              clear hin
              go_wp2_with fail
              refine bodyPost_ret (v := .tuple #[.slice none 0 0, .bool false, .int .i64 0]) (by simp [results, Try.results17, go_sem]) rfl ⟨_, rfl, ?_, hW⟩
              rw [Herr.out, Hpath.out, if_neg (by rw [Hin.out]; decide)]
              unfold PPostB
              rw [if_pos rfl]
            | true =>
              have Hin := Lib.hid hin
              rw [hin] at hcell
              clear hin
              go_wp2_with fail
              refine (newGraph_any _ _ _ _ _ _ _ n a.es _ (RdE.mono ⟨ae, ce, rfl, hre⟩ hW) hae (by omega) (fun x hx => ⟨(Hes.out x hx).1, (Hes.out x hx).2.1⟩)).mono ?_
              rintro e w3 ⟨_, rfl, ⟨af, cf, rfl, hrf⟩, hb3⟩
              have hW3 := hW.trans (hb3.mono hW.size)
              have k1' := keep0 hb3 k1
              have k2' := keep0 hb3 k2
              have HR1' := HR1.out.mono hb3
              have HR2' := HR2.out.mono hb3
              have HE1 : Enters Try.prog 54 := fun _ _ => by kernel_rfl
              have HE2 : Enters Try.prog 55 := fun _ _ => by kernel_rfl
              have hEs := (RdS.mono hre hW3)
              have H1 : Hid (∀ (s : Int) (W : World), 0 ≤ s → s < n → Below w3.heap.size w3 W → Calls Try.prog 54 (#[.int .i64 s] ++ #[Value.pointer (some ⟨b2, 0, none⟩)]) W fun e w' => e = .returned (.bool (hasB tg s)) ∧ Below W.heap.size W w') := by
                intro s W h0 h1 hb
                have := path1_any b2 _ (flagL n tg) s W (keep0 hb k2') (HR2'.mono hb) h0 (by rw [Hfl2.out]; exact h1) (by rw [Hfl2.out]; omega)
                rw [flagL_getD h0 h1] at this
                exact this
              have H2 : Hid (∀ (x : Ed) (W : World), x ∈ a.es → Below w3.heap.size w3 W → Calls Try.prog 55 (#[x.val] ++ #[Value.pointer (some ⟨b1, 0, none⟩)]) W fun e w' => e = .returned (.bool (hasB wi x.t)) ∧ Below W.heap.size W w') := by
                intro x W hx hb
                have hx' := Hes.out x hx
                have := path2_any b1 _ (flagL n wi) x W (keep0 hb k1') (HR1'.mono hb) hx'.2.2.1 (by rw [Hfl1.out]; exact hx'.2.2.2) (by rw [Hfl1.out]; omega)
                rw [flagL_getD hx'.2.2.1 hx'.2.2.2] at this
                exact this
              go_wp2_with fail
              refine (path_anyB aa am ae af _ _ ca cm ce cf n fr a.es _ _ _ _ (hasB tg) (fun x => hasB wi x.t) w3 hEs hrf hae (by omega) hfr (fun x hx => ⟨(Hes.out x hx).2.2.1, (Hes.out x hx).2.2.2⟩) HE1 HE2 H1.out H2.out).mono ?_
              rintro e w4 ⟨v4, rfl, hp4, hb4⟩
              have hW4 := hW3.trans (hb4.mono hW3.size)
              have Hpath' : Hid (reachPath a fr tg wi = pathF n a.es (hasB tg) (fun x => hasB wi x.t) fr) := by
                show _ = _
                rw [Hpath.out, if_pos Hin.out]
                simp only [Int.toNat_natCast]
              clear H1 H2 HE1 HE2 k1 k1' k2 k2' HR1' HR2' hEs hb4 hb3
              generalize pathF n a.es (hasB tg) (fun x => hasB wi x.t) fr = r at hp4 Hpath'
              cases r with
              | none =>
                have hp5 : v4 = .tuple #[.slice none 0 0, .bool false] := hp4
                subst hp5
                go_wp2_with fail
                refine bodyPost_ret (v := .tuple #[.slice none 0 0, .bool false, .int .i64 0]) (by simp [results, Try.results17, go_sem]) rfl ⟨_, rfl, ?_, hW4⟩
                rw [Herr.out, Hpath'.out]
                unfold PPostB
                rw [if_pos rfl]
              | some xs =>
                obtain ⟨v5, rfl, hp5, hfr5⟩ := hp4
                have Hfr5 := Lib.hid (hfr5.mono hW3.size)
                clear hfr5
                have Hp5 := Lib.hid hp5
                obtain ⟨a5, c5, rfl, hp6⟩ := hp5
                clear hp6
                go_wp2_with fail
                refine bodyPost_ret (v := .tuple #[.slice a5 xs.length c5, .bool true, .int .i64 0]) (by simp [results, Try.results17, go_sem]) rfl ⟨_, rfl, ?_, hW4⟩
                rw [Herr.out, Hpath'.out]
                unfold PPostB
                rw [if_pos rfl]
                exact ⟨_, rfl, Hp5.out, Hfr5.out⟩
  · have H1 := Lib.hid h1
    have h1' : (a.err != 0) = true := by simpa using h1
    clear h1
    go_wp2_with fail
    refine bodyPost_ret (v := .tuple #[.slice none 0 0, .bool false, .int .i64 a.err]) (by simp [results, Try.results17, go_sem]) rfl ⟨_, rfl, ?_, hW1⟩
    rw [show pathErr a from_ tg wi = a.err by rw [pathErr, err2, if_neg H1.out]]
    exact PPostB.err H1.out
theorem rpath_any (v vt vw : Value) (a : Aut) (from_ : Int) (tg wi : List Int) (w : World) (ha : RdA w v a) (hs : a.small) (ht : RdI w vt tg) (hw : RdI w vw wi) (hlt : tg.length ≤ 1000000) (hlw : wi.length ≤ 1000000) :
    Calls Try.prog 17 #[v, .int .i64 from_, vt, vw] w (Ret w (PPost (pathErr a from_ tg wi) (reachPath a from_ tg wi))) :=
  (rpath_anyB v vt vw a from_ tg wi w ha hs ht hw hlt hlw).mono fun _ _ ⟨v, h1, h2, h3⟩ => ⟨v, h1, h2.old, h3⟩
end Go.Proofs.Ythchkddhibhenaa

namespace Go.Proofs.Ythchkddhibhenaa
open Go Go.RowKit
abbrev rEd : Rep (Int × Int × Int) := rP (rK .i64) (rP (rK .i64) (rK .i64))
abbrev AutT := List Int × Int × List Int × (List (Int × Int × Int))
def toEd (x : Int × Int × Int) : Ed := ⟨x.1, x.2.1, x.2.2⟩
def toAut (p : AutT) : Aut := ⟨p.1, p.2.1, p.2.2.1, p.2.2.2.map toEd⟩
theorem cells_ints {s : Sig} : ∀ {xs : List Int} {cs : List Value}, Cells (rK .i64) s cs xs → cs = ints xs
  | [], cs, h => h
  | x :: xs, cs, h => by
    obtain ⟨c, d, rfl, h1, h2⟩ := h
    have h1 : c = [.int .i64 x] := h1
    rw [h1, cells_ints h2]; rfl
theorem ints_cells {s : Sig} : ∀ (xs : List Int), Cells (rK .i64) s (ints xs) xs
  | [] => rfl
  | x :: xs => ⟨[.int .i64 x], ints xs, rfl, rfl, ints_cells xs⟩
theorem cells_eds {s : Sig} : ∀ {xs : List (Int × Int × Int)} {cs : List Value}, Cells rEd s cs xs → cs = edCells (xs.map toEd)
  | [], cs, h => h
  | x :: xs, cs, h => by
    obtain ⟨c, d, rfl, ⟨c1, c2, rfl, h1, d1, d2, rfl, h3, h4⟩, h2⟩ := h
    have h1 : c1 = [.int .i64 x.1] := h1
    have h3 : d1 = [.int .i64 x.2.1] := h3
    have h4 : d2 = [.int .i64 x.2.2] := h4
    rw [h1, h3, h4, cells_eds h2]; rfl
theorem RdL.rdI {s : Sig} {a : Option Addr} {c : Nat} {xs : List Int} (h : RdL (rK .i64) s a c xs) : RdI s.w (.slice a xs.length c) xs := by
  obtain ⟨cs, h1, _, h3⟩ := h
  rw [cells_ints h3] at h1
  exact ⟨a, c, rfl, h1⟩
theorem RdL.rdE {s : Sig} {a : Option Addr} {c : Nat} {xs : List (Int × Int × Int)} (h : RdL rEd s a c xs) : RdE s.w (.slice a xs.length c) (xs.map toEd) := by
  obtain ⟨cs, h1, _, h3⟩ := h
  rw [cells_eds h3] at h1
  exact ⟨a, c, by rw [List.length_map], by rw [List.length_map]; exact h1⟩
/-- The world behind a call, its new memory frozen. -/
def Sig.nw (s : Sig) (w' : World) : Sig := ⟨w', fun b => if b < s.w.heap.size then s.tag b else 0⟩
theorem Sig.nw_mv {s : Sig} {w' : World} (h : Below s.w.heap.size s.w w') : Mv No s (s.nw w') := Below.mv h fun b hb => if_pos hb
theorem RdI.rdL {s : Sig} {w' : World} {v : Value} {xs : List Int} (h : RdI w' v xs) (hf : FreshV s.w.heap.size v) : ∃ a c, v = .slice a xs.length c ∧ RdL (rK .i64) (s.nw w') a c xs := by
  obtain ⟨a, c, rfl, h1⟩ := h
  refine ⟨a, c, rfl, ints xs, h1, fun ad e _ => ?_, ints_cells xs⟩
  subst e
  exact if_neg (by have := hf ad _ _ rfl; omega)
/-- What reach.Path computes (short lists alone). -/
def m_reach_Path (p0 : AutT) (p1 : Int) (p2 p3 : List Int) : Option (List Int × Bool × Int) :=
  if p0.1.length ≤ 1000000 ∧ p0.2.2.1.length ≤ 1000000 ∧ p0.2.2.2.length ≤ 1000000 ∧ p2.length ≤ 1000000 ∧ p3.length ≤ 1000000 then
    if pathErr (toAut p0) p1 p2 p3 = 0 then some (match reachPath (toAut p0) p1 p2 p3 with
      | some xs => (xs, true, 0)
      | none => ([], false, 0))
    else some ([], false, pathErr (toAut p0) p1 p2 p3)
  else none
theorem m_reach_Path_c {s : Sig} {p0 : AutT} {p1 : Int} {p2 p3 : List Int} {a1 : Option Addr} {c1 : Nat} {a2 : Option Addr} {c2 : Nat} {a3 : Option Addr} {c3 : Nat} {a4 : Option Addr} {c4 : Nat} {a5 : Option Addr} {c5 : Nat} {r : List Int × Bool × Int} (h1 : RdL (rK .i64) s a1 c1 p0.1) (h2 : RdL (rK .i64) s a2 c2 p0.2.2.1) (h3 : RdL rEd s a3 c3 p0.2.2.2) (h4 : RdL (rK .i64) s a4 c4 p2) (h5 : RdL (rK .i64) s a5 c5 p3) (hm : m_reach_Path p0 p1 p2 p3 = some r) :
    Calls Try.prog 17 #[.agg #[.slice a1 p0.1.length c1, .int .i64 p0.2.1, .slice a2 p0.2.2.1.length c2, .slice a3 p0.2.2.2.length c3], .int .i64 p1, .slice a4 p2.length c4, .slice a5 p3.length c5] s.w (RetS No s fun v s' => ∃ (a6 : Option Addr) (c6 : Nat), v = .tuple #[.slice a6 r.1.length c6, .bool r.2.1, .int .i64 r.2.2] ∧ RdL (rK .i64) s' a6 c6 r.1) := by
  unfold m_reach_Path at hm
  split at hm
  · rename_i hc
    obtain ⟨g1, g2, g3, g4, g5⟩ := hc
    refine (rpath_anyB _ _ _ (toAut p0) p1 p2 p3 s.w ⟨_, _, _, rfl, h1.rdI, h2.rdI, h3.rdE⟩ ⟨g1, g2, by simpa [toAut] using g3⟩ h4.rdI h5.rdI g4 g5).mono fun en w' hh => ?_
    obtain ⟨u, rfl, hp, hb⟩ := hh
    refine ⟨u, s.nw w', rfl, rfl, Sig.nw_mv hb, ?_⟩
    unfold PPostB at hp
    split at hp
    · rename_i h0
      rw [if_pos h0] at hm
      cases hr : reachPath (toAut p0) p1 p2 p3 with
      | none =>
        rw [hr] at hm hp
        cases hm
        exact ⟨none, 0, hp, RdL.nil⟩
      | some xs =>
        rw [hr] at hm hp
        cases hm
        obtain ⟨v, rfl, h6, h7⟩ := hp
        obtain ⟨a, c, rfl, h8⟩ := h6.rdL h7
        exact ⟨a, c, rfl, h8⟩
    · rename_i h0
      rw [if_neg h0] at hm
      cases hm
      exact ⟨none, 0, hp, RdL.nil⟩
  · cases hm
end Go.Proofs.Ythchkddhibhenaa

namespace Go.Proofs.Ythchkddhibhenaa
open Go.RowKit

section
variable {w w' : World} {B : Nat} {tag : Nat → Nat} {k : Nat} {t : TypeId} {sz : Nat} {v : Value} {n : Nat} {cs : List Value}
/-- Tags may be named anew. -/
theorem Row.name (f : Nat → Nat) (h : Row w B tag k t sz v n cs) : Row w B (fun b => f (tag b)) (f k) t sz v n cs :=
  ⟨h.1, h.2.imp id fun ⟨b, off, cap, cur, h1, h2, h3⟩ => ⟨b, off, cap, cur, h1, ⟨h2.heap, by show f (tag b) = f k; rw [h2.htag], h2.base⟩, h3⟩⟩
/-- A callee's row, of a tag that is wanted. -/
theorem Row.of_row {B' : Nat} {tag' : Nat → Nat} {k' : Nat} (h : Row w B' tag' k' t sz v n cs) (hB : B ≤ B') (htag : ∀ b, B' ≤ b → tag b = k) : Row w B tag k t sz v n cs :=
  ⟨h.1, h.2.imp id fun ⟨b, off, cap, cur, h1, h2, h3⟩ => ⟨b, off, cap, cur, h1, ⟨h2.heap, htag b h2.base, Nat.le_trans hB h2.base⟩, h3⟩⟩
end

end Go.Proofs.Ythchkddhibhenaa

namespace Go.Proofs.Ythchkddhibhenaa
open Go Go.RowKit

section
variable {w w' : World} {B : Nat} {tag tag' : Nat → Nat} {k k' : Nat} {t : TypeId} {sz : Nat} {v : Value} {n : Nat} {cs : List Value}
theorem Row.up (h : Row w B tag k t sz v n cs) (o : Obj) (k' : Nat) : Row (w.alloc o) B (tagUp tag w.heap.size k') k t sz v n cs :=
  ⟨h.1, h.2.imp id fun ⟨b, off, cap, cur, h1, h2, h3⟩ => ⟨b, off, cap, cur, h1, ⟨((bel_alloc w o).block b h2.lt).trans h2.heap, (tagUp_lt h2.lt).trans h2.htag, h2.base⟩, h3⟩⟩
theorem Row.fresh (w : World) (B : Nat) (tag : Nat → Nat) (k : Nat) (t : TypeId) (cs : List Value) (hB : B ≤ w.heap.size) (hl : cs.length ≤ maxLen) :
    Row (w.alloc (.cells cs.toArray t)) B (tagUp tag w.heap.size k) k t 1 (.slice (some ⟨w.heap.size, 0, none⟩) cs.length cs.length) cs.length cs :=
  ⟨by simp, .inr ⟨w.heap.size, 0, cs.length, cs.toArray, rfl, Own.new w B _ k _ t hB (tagUp_at _ _ _), Nat.le_refl _, hl, by simp, by simp⟩⟩
end

/-- A slice as the source of an append. -/
theorem RdS.src {w : World} {sz len cap : Nat} {a : Option Addr} {cs : List Value} (h : RdS w sz a len cap cs) : (a = none → len = 0 ∧ cap = 0) ∧ ∀ ad, a = some ad → ∀ j u, cs[j]? = some u → w.cell? (ad.add j) = some u := by
  refine ⟨fun e => ⟨by have := h.hnil e; have := h.hcap; omega, h.hnil e⟩, fun ad e j u hu => ?_⟩
  subst e
  obtain ⟨b, off, sp⟩ := ad
  obtain rfl : sp = none := h.spot _ rfl
  exact own_src h j u hu

section
variable {Φ : (Nat → Nat) → World → Prop} {PR : Nat → Value → Prop} {B : Nat} {word : List Int} {x : Int} {l : Array Bool} {us : List Value} {tag tag' : Nat → Nat} {W W' : World} {k : Nat} {v : Value}
theorem set_self {us : List Value} {k n : Nat} {v : Value} (h : us.length = n) (hk : k < n) : (us.set k v).getD k undef = v := by
  rw [List.getD_eq_getElem?_getD, List.getElem?_set_self (by omega)]; rfl
theorem set_ne {us : List Value} {k j : Nat} {v : Value} (h : k ≠ j) : (us.set k v).getD j undef = us.getD j undef := by
  rw [List.getD_eq_getElem?_getD, List.getElem?_set_ne h, ← List.getD_eq_getElem?_getD]
end
end Go.Proofs.Ythchkddhibhenaa

namespace Go.Proofs.Ythchkddhibhenaa
open Go.RowKit Go.Shelf

/-- Numbers of the states (0: none yet), the states in order, the edges. -/
structure RSt where
  num : List Int
  q : List Int
  E : List Ed
/-- A state gets its number. -/
def rsNum (S : RSt) (x : Ed) : RSt := if S.num.getD x.t.toNat 0 = 0 then ⟨S.num.set x.t.toNat ((S.q.length : Int) + 1), S.q ++ [x.t], S.E⟩ else S
/-- An edge of state number i is looked at. -/
def rsStep (inF : List Bool) (i : Nat) (S : RSt) (x : Ed) : RSt :=
  if inF.getD x.t.toNat false = true then ⟨(rsNum S x).num, (rsNum S x).q, S.E ++ [⟨i, x.e, (rsNum S x).num.getD x.t.toNat 0 - 1⟩]⟩ else S
/-- The states in order. -/
def rsLoop (es : List Ed) (inF mkF : List Bool) : Nat → Nat → RSt → List Int → RSt × List Int
  | 0, _, S, ms => (S, ms)
  | f + 1, i, S, ms => if i < S.q.length then rsLoop es inF mkF f (i + 1) ((subOf es (S.q.getD i 0)).foldl (rsStep inF i) S) (if mkF.getD (S.q.getD i 0).toNat false = true then ms ++ [(i : Int)] else ms) else (S, ms)
/-- What Restrict returns. -/
def restrictF (al ms : List Int) (n : Nat) (es : List Ed) (keep : List Int) : Aut :=
  if keep.head? = some 0 then
    ⟨al, ((rsLoop es (flagL n keep) (flagL n ms) (n + 1) 0 ⟨(List.replicate n 0).set 0 1, [0], []⟩ []).1.q.length : Int), (rsLoop es (flagL n keep) (flagL n ms) (n + 1) 0 ⟨(List.replicate n 0).set 0 1, [0], []⟩ []).2, (rsLoop es (flagL n keep) (flagL n ms) (n + 1) 0 ⟨(List.replicate n 0).set 0 1, [0], []⟩ []).1.E⟩
  else ⟨al, 0, [], []⟩

section
variable {inF : List Bool} {i : Nat} {S : RSt} {x : Ed}
theorem rsStep_out (h : inF.getD x.t.toNat false = false) : rsStep inF i S x = S := by rw [rsStep, if_neg (by rw [h]; simp)]
theorem rsStep_old (h : inF.getD x.t.toNat false = true) (h0 : S.num.getD x.t.toNat 0 ≠ 0) : rsStep inF i S x = ⟨S.num, S.q, S.E ++ [⟨i, x.e, S.num.getD x.t.toNat 0 - 1⟩]⟩ := by rw [rsStep, if_pos h, rsNum, if_neg h0]
theorem rsStep_new (h : inF.getD x.t.toNat false = true) (h0 : S.num.getD x.t.toNat 0 = 0) (hl : x.t.toNat < S.num.length) : rsStep inF i S x = ⟨S.num.set x.t.toNat ((S.q.length : Int) + 1), S.q ++ [x.t], S.E ++ [⟨i, x.e, S.q.length⟩]⟩ := by
  rw [rsStep, if_pos h, rsNum, if_pos h0]
  dsimp only
  rw [List.getD_eq_getElem?_getD, List.getElem?_set_self hl]
  simp
end
/-- The numbers are right. -/
structure ROk (n m : Nat) (S : RSt) : Prop where
  len : S.num.length = n
  cnt : S.q.length + S.num.count 0 ≤ n
  rng : ∀ s ∈ S.q, 0 ≤ s ∧ s < (n : Int)
  bd : ∀ v ∈ S.num, 0 ≤ v ∧ v ≤ (n : Int)
  el : S.E.length ≤ m
theorem count_set0 {l : List Int} {j : Nat} {v : Int} (h : l[j]? = some 0) (hv : v ≠ 0) : (l.set j v).count 0 + 1 = l.count 0 := by
  induction l generalizing j with
  | nil => simp at h
  | cons a l ih =>
    cases j with
    | zero => simp at h; subst h; simp [hv]
    | succ j =>
      simp at h
      rw [List.set_cons_succ, List.count_cons, List.count_cons, ← ih h]
      omega
theorem ROk.step {n m : Nat} {inF : List Bool} {i : Nat} {S : RSt} {x : Ed} (h : ROk n m S) (h0 : 0 ≤ x.t) (h1 : x.t < (n : Int)) : ROk n (m + 1) (rsStep inF i S x) := by
  have hlt : x.t.toNat < S.num.length := by rw [h.len]; omega
  cases hi : inF.getD x.t.toNat false with
  | false => rw [rsStep_out hi]; exact ⟨h.len, h.cnt, h.rng, h.bd, by have := h.el; omega⟩
  | true =>
    by_cases hz : S.num.getD x.t.toNat 0 = 0
    · rw [rsStep_new hi hz hlt]
      have hs : S.num[x.t.toNat]? = some 0 := by
        rw [List.getD_eq_getElem?_getD, List.getElem?_eq_getElem hlt] at hz
        rw [List.getElem?_eq_getElem hlt]
        simpa using hz
      have hc := count_set0 (v := (S.q.length : Int) + 1) hs (by omega)
      have hcn := h.cnt
      refine ⟨by simp [h.len], by simp only [List.length_append, List.length_singleton]; omega, fun s hs => ?_, fun v hv => ?_, by simp only [List.length_append, List.length_singleton]; have := h.el; omega⟩
      · rcases List.mem_append.1 hs with h4 | h4
        · exact h.rng s h4
        · rw [List.mem_singleton.1 h4]; exact ⟨h0, h1⟩
      · rcases List.mem_or_eq_of_mem_set hv with h4 | h4
        · exact h.bd v h4
        · subst h4; omega
    · rw [rsStep_old hi hz]
      exact ⟨h.len, h.cnt, h.rng, h.bd, by simp only [List.length_append, List.length_singleton]; have := h.el; omega⟩
theorem ROk.fold {n : Nat} {inF : List Bool} {i : Nat} : ∀ (l : List Ed) {m : Nat} {S : RSt}, ROk n m S → (∀ x ∈ l, 0 ≤ x.t ∧ x.t < (n : Int)) → ROk n (m + l.length) (l.foldl (rsStep inF i) S)
  | [], _, _, h, _ => h
  | x :: l, m, S, h, hx => by
    have h1 := h.step (inF := inF) (i := i) (hx x (List.mem_cons_self ..)).1 (hx x (List.mem_cons_self ..)).2
    have h2 := ROk.fold (inF := inF) (i := i) l h1 (fun y hy => hx y (List.mem_cons_of_mem _ hy))
    rw [List.length_cons, List.foldl_cons, show m + (l.length + 1) = m + 1 + l.length by omega]
    exact h2
theorem rsStep_q {inF : List Bool} {i : Nat} {S : RSt} {x : Ed} : S.q.length ≤ (rsStep inF i S x).q.length := by
  unfold rsStep rsNum
  split
  · split
    · simp
    · exact Nat.le_refl _
  · exact Nat.le_refl _
theorem rsFold_q {inF : List Bool} {i : Nat} : ∀ (l : List Ed) (S : RSt), S.q.length ≤ (l.foldl (rsStep inF i) S).q.length
  | [], _ => Nat.le_refl _
  | x :: l, _S => Nat.le_trans (rsStep_q (x := x)) (rsFold_q l _)
theorem ROk.more {n m m' : Nat} {S : RSt} (h : ROk n m S) (hm : m ≤ m') : ROk n m' S := ⟨h.len, h.cnt, h.rng, h.bd, Nat.le_trans h.el hm⟩
theorem subOf_length (es : List Ed) (s : Int) : (subOf es s).length ≤ es.length := by
  unfold subOf edSub
  rw [List.length_take, List.length_drop]
  omega

/-- Blocks b8: out; b9: the box of the flags in; b11: the box of the numbers; b12: the graph; b13: the box of the queue; bi: the box of i. -/
structure XB (w : World) (G : Array Value) (n b8 b9 b11 b12 b13 : Nat) (va vin vnum vmk : Value) (alL : List Int) (inF mkF : List Bool) (ds : List Deferred) (wr : World) (tag : Nat → Nat) (bi i : Nat) (vm ve vq : Value) (S : RSt) (ms : List Int) : Prop where
  below : Below w.heap.size w wr
  marks : Marks w.heap.size wr ds
  rc : Own wr w.heap.size tag 0 (w.heap.size + 1) #[.slice none 0 0, .int .i64 0, .slice none 0 0, .slice none 0 0] 31
  ob : Own wr w.heap.size tag 6 b8 #[va, .int .i64 0, vm, ve] 31
  ib : Own wr w.heap.size tag 0 b9 #[vin] 86
  nb : Own wr w.heap.size tag 0 b11 #[vnum] 28
  g : Own wr w.heap.size tag 0 b12 G 80
  qb : Own wr w.heap.size tag 3 b13 #[vq] 28
  io : Own wr w.heap.size tag 5 bi #[.int .i64 i] 3
  al : Row wr w.heap.size tag 0 3 1 va alL.length (ints alL)
  inr : Row wr w.heap.size tag 1 4 1 vin n (bools inF)
  mkr : Row wr w.heap.size tag 1 4 1 vmk n (bools mkF)
  nr : Row wr w.heap.size tag 2 3 1 vnum n (ints S.num)
  qr : Row wr w.heap.size tag 4 3 1 vq S.q.length (ints S.q)
  mr : Row wr w.heap.size tag 7 3 1 vm ms.length (ints ms)

/-- A row lies in another block than b. -/
theorem Row.retagNe {w : World} {B : Nat} {tag : Nat → Nat} {k : Nat} {t : TypeId} {sz : Nat} {v : Value} {n : Nat} {cs : List Value} (h : Row w B tag k t sz v n cs) {bx : Nat} (kx : Nat) (hne : ∀ off c, v ≠ .slice (some ⟨bx, off, none⟩) n c) : Row w B (tagUp tag bx kx) k t sz v n cs :=
  ⟨h.1, h.2.imp id fun ⟨b, off, cap, cur, h1, h2, h3⟩ => ⟨b, off, cap, cur, h1, ⟨h2.heap, by
    unfold tagUp
    rw [if_neg (fun e => by subst e; exact hne off cap h1)]
    exact h2.htag, h2.base⟩, h3⟩⟩
theorem Own.upR {w : World} {B : Nat} {tag : Nat → Nat} {k b : Nat} {cs : Array Value} {t : TypeId} (h : Own w B tag k b cs t) (o : Obj) (k' : Nat) : Own (w.alloc o) B (tagUp tag w.heap.size k') k b cs t :=
  ⟨((bel_alloc w o).block b h.lt).trans h.heap, (tagUp_lt h.lt).trans h.htag, h.base⟩

section
variable {w : World} {G : Array Value} {n b8 b9 b11 b12 b13 : Nat} {va vin vnum vmk : Value} {alL : List Int} {inF mkF : List Bool} {ds : List Deferred} {wr wr' : World} {tag tag' : Nat → Nat} {bi i : Nat} {vm ve vq : Value} {S : RSt} {ms : List Int}
theorem XB.call (h : XB w G n b8 b9 b11 b12 b13 va vin vnum vmk alL inF mkF ds wr tag bi i vm ve vq S ms) (hb : Below wr.heap.size wr wr') : XB w G n b8 b9 b11 b12 b13 va vin vnum vmk alL inF mkF ds wr' tag bi i vm ve vq S ms :=
  ⟨belCall h.below hb h.below.size, h.marks.below hb, h.rc.below hb, h.ob.below hb, h.ib.below hb, h.nb.below hb, h.g.below hb, h.qb.below hb, h.io.below hb, h.al.below hb, h.inr.below hb, h.mkr.below hb, h.nr.below hb, h.qr.below hb, h.mr.below hb⟩
theorem XB.turn {k : Nat} (h : XB w G n b8 b9 b11 b12 b13 va vin vnum vmk alL inF mkF ds wr tag bi i vm ve vq S ms) (ht : Turn w.heap.size tag tag' k wr wr') (hk : 8 ≤ k) : XB w G n b8 b9 b11 b12 b13 va vin vnum vmk alL inF mkF ds wr' tag' bi i vm ve vq S ms :=
  ⟨belTurn h.below ht h.below.size, h.marks.turn ht, h.rc.turn ht (by omega), h.ob.turn ht (by omega), h.ib.turn ht (by omega), h.nb.turn ht (by omega), h.g.turn ht (by omega), h.qb.turn ht (by omega), h.io.turn ht (by omega), h.al.turn ht (by omega), h.inr.turn ht (by omega), h.mkr.turn ht (by omega), h.nr.turn ht (by omega), h.qr.turn ht (by omega), h.mr.turn ht (by omega)⟩
theorem XB.others {s : Nat} {row : Option Nat} (h : XB w G n b8 b9 b11 b12 b13 va vin vnum vmk alL inF mkF ds wr tag bi i vm ve vq S ms) (hg : wr.grownBy wr' row) (hs : ∀ D, mark D ∈ ds → D < s) (hws : w.heap.size ≤ s) (hr : ∀ r, row = some r → s ≤ r ∧ ∃ o : Obj, wr.heap[r]? = some o ∧ o.isCells = false) : XB w G n b8 b9 b11 b12 b13 va vin vnum vmk alL inF mkF ds wr' tag bi i vm ve vq S ms :=
  have h2 := fun r e => (hr r e).2
  ⟨belOthers h.below hg h.below.size hws (fun r e => (hr r e).1), h.marks.others hs hg (fun r e => (hr r e).1), h.rc.others hg h2, h.ob.others hg h2, h.ib.others hg h2, h.nb.others hg h2, h.g.others hg h2, h.qb.others hg h2, h.io.others hg h2, h.al.others hg h2, h.inr.others hg h2, h.mkr.others hg h2, h.nr.others hg h2, h.qr.others hg h2, h.mr.others hg h2⟩
theorem XB.retag {bx : Nat} {cx : Array Value} (h : XB w G n b8 b9 b11 b12 b13 va vin vnum vmk alL inF mkF ds wr tag bi i vm ve vq S ms) (hx : wr.heap[bx]? = some (.cells cx 45 (0, 0))) : XB w G n b8 b9 b11 b12 b13 va vin vnum vmk alL inF mkF ds wr (tagUp tag bx 10) bi i vm ve vq S ms :=
  ⟨h.below, h.marks, h.rc.retag hx (by decide), h.ob.retag hx (by decide), h.ib.retag hx (by decide), h.nb.retag hx (by decide), h.g.retag hx (by decide), h.qb.retag hx (by decide), h.io.retag hx (by decide), h.al.retag hx (by decide), h.inr.retag hx (by decide), h.mkr.retag hx (by decide), h.nr.retag hx (by decide), h.qr.retag hx (by decide), h.mr.retag hx (by decide)⟩
theorem XB.up (h : XB w G n b8 b9 b11 b12 b13 va vin vnum vmk alL inF mkF ds wr tag bi i vm ve vq S ms) (o : Obj) (k : Nat) : XB w G n b8 b9 b11 b12 b13 va vin vnum vmk alL inF mkF ds (wr.alloc o) (tagUp tag wr.heap.size k) bi i vm ve vq S ms :=
  ⟨h.below.alloc h.below.size o, h.marks.below (bel_alloc wr o), h.rc.upR o k, h.ob.upR o k, h.ib.upR o k, h.nb.upR o k, h.g.upR o k, h.qb.upR o k, h.io.upR o k, h.al.up o k, h.inr.up o k, h.mkr.up o k, h.nr.up o k, h.qr.up o k, h.mr.up o k⟩
/-- A number is set. -/
theorem XB.setNum {bn on cn : Nat} (h : XB w G n b8 b9 b11 b12 b13 va vin (.slice (some ⟨bn, on, none⟩) n cn) vmk alL inF mkF ds wr tag bi i vm ve vq S ms) (j : Nat) (v : Int) :
    XB w G n b8 b9 b11 b12 b13 va vin (.slice (some ⟨bn, on, none⟩) n cn) vmk alL inF mkF ds (wr.setCell ⟨bn, on + j, none⟩ (.int .i64 v)) tag bi i vm ve vq ⟨S.num.set j v, S.q, S.E⟩ ms ∧ Turn w.heap.size tag tag 2 wr (wr.setCell ⟨bn, on + j, none⟩ (.int .i64 v)) := by
  have h1 := h.nr.set j (.int .i64 v)
  have ht := h1.2
  have h2 := h1.1
  rw [show (ints S.num).set j (.int .i64 v) = ints (S.num.set j v) from (List.map_set ..).symm] at h2
  exact ⟨⟨belTurn h.below ht h.below.size, h.marks.turn ht, h.rc.turn ht (by decide), h.ob.turn ht (by decide), h.ib.turn ht (by decide), h.nb.turn ht (by decide), h.g.turn ht (by decide), h.qb.turn ht (by decide), h.io.turn ht (by decide), h.al.turn ht (by decide), h.inr.turn ht (by decide), h.mkr.turn ht (by decide), h2, h.qr.turn ht (by decide), h.mr.turn ht (by decide)⟩, ht⟩
/-- A state more in the queue, and the box that holds it. -/
theorem XB.push {vq' : Value} {x : Int} (h : XB w G n b8 b9 b11 b12 b13 va vin vnum vmk alL inF mkF ds wr tag bi i vm ve vq S ms) (hr : Row wr' w.heap.size tag' 4 3 1 vq' (S.q.length + 1) (ints S.q ++ [.int .i64 x])) (ht : Turn w.heap.size tag tag' 4 wr wr') :
    XB w G n b8 b9 b11 b12 b13 va vin vnum vmk alL inF mkF ds (wr'.setCell ⟨b13, 0, none⟩ vq') tag' bi i vm ve vq' ⟨S.num, S.q ++ [x], S.E⟩ ms := by
  have hs := h.qb.turn ht (by decide)
  have h1 := Turn.setCell hs 0 vq'
  have h2 := hs.set 0 vq'
  have hB : w.heap.size ≤ wr'.heap.size := Nat.le_trans h.below.size ht.size
  exact ⟨belTurn (belTurn h.below ht h.below.size) h1 hB, (h.marks.turn ht).turn h1, (h.rc.turn ht (by decide)).turn h1 (by decide), (h.ob.turn ht (by decide)).turn h1 (by decide), (h.ib.turn ht (by decide)).turn h1 (by decide), (h.nb.turn ht (by decide)).turn h1 (by decide), (h.g.turn ht (by decide)).turn h1 (by decide), h2, (h.io.turn ht (by decide)).turn h1 (by decide), (h.al.turn ht (by decide)).turn h1 (by decide), (h.inr.turn ht (by decide)).turn h1 (by decide), (h.mkr.turn ht (by decide)).turn h1 (by decide), (h.nr.turn ht (by decide)).turn h1 (by decide), by
    rw [List.length_append, show ints (S.q ++ [x]) = ints S.q ++ [.int .i64 x] by simp [ints]]; exact hr.turn h1 (by decide), (h.mr.turn ht (by decide)).turn h1 (by decide)⟩
/-- A marked state more. -/
theorem XB.markS {vm' : Value} {x : Int} (h : XB w G n b8 b9 b11 b12 b13 va vin vnum vmk alL inF mkF ds wr tag bi i vm ve vq S ms) (hr : Row wr' w.heap.size tag' 7 3 1 vm' (ms.length + 1) (ints ms ++ [.int .i64 x])) (ht : Turn w.heap.size tag tag' 7 wr wr') :
    XB w G n b8 b9 b11 b12 b13 va vin vnum vmk alL inF mkF ds (wr'.setCell ⟨b8, 2, none⟩ vm') tag' bi i vm' ve vq S (ms ++ [x]) := by
  have hs := h.ob.turn ht (by decide)
  have h1 := Turn.setCell hs 2 vm'
  have h2 := hs.set 2 vm'
  have hB : w.heap.size ≤ wr'.heap.size := Nat.le_trans h.below.size ht.size
  exact ⟨belTurn (belTurn h.below ht h.below.size) h1 hB, (h.marks.turn ht).turn h1, (h.rc.turn ht (by decide)).turn h1 (by decide), h2, (h.ib.turn ht (by decide)).turn h1 (by decide), (h.nb.turn ht (by decide)).turn h1 (by decide), (h.g.turn ht (by decide)).turn h1 (by decide), (h.qb.turn ht (by decide)).turn h1 (by decide), (h.io.turn ht (by decide)).turn h1 (by decide), (h.al.turn ht (by decide)).turn h1 (by decide), (h.inr.turn ht (by decide)).turn h1 (by decide), (h.mkr.turn ht (by decide)).turn h1 (by decide), (h.nr.turn ht (by decide)).turn h1 (by decide), (h.qr.turn ht (by decide)).turn h1 (by decide), by
    rw [List.length_append, show ints (ms ++ [x]) = ints ms ++ [.int .i64 x] by simp [ints]]; exact hr.turn h1 (by decide)⟩
/-- The edges' cell. -/
theorem XB.putE (h : XB w G n b8 b9 b11 b12 b13 va vin vnum vmk alL inF mkF ds wr tag bi i vm ve vq S ms) (ve' : Value) (S' : RSt) (hn : S'.num = S.num) (hq : S'.q = S.q) :
    XB w G n b8 b9 b11 b12 b13 va vin vnum vmk alL inF mkF ds (wr.setCell ⟨b8, 3, none⟩ ve') tag bi i vm ve' vq S' ms ∧ Turn w.heap.size tag tag 6 wr (wr.setCell ⟨b8, 3, none⟩ ve') := by
  have h1 := Turn.setCell h.ob 3 ve'
  have h2 := h.ob.set 3 ve'
  exact ⟨⟨belTurn h.below h1 h.below.size, h.marks.turn h1, h.rc.turn h1 (by decide), h2, h.ib.turn h1 (by decide), h.nb.turn h1 (by decide), h.g.turn h1 (by decide), h.qb.turn h1 (by decide), h.io.turn h1 (by decide), h.al.turn h1 (by decide), h.inr.turn h1 (by decide), h.mkr.turn h1 (by decide), by rw [hn]; exact h.nr.turn h1 (by decide), by rw [hq]; exact h.qr.turn h1 (by decide), h.mr.turn h1 (by decide)⟩, h1⟩
/-- The memory does not tell of the edges. -/
theorem XB.withE (h : XB w G n b8 b9 b11 b12 b13 va vin vnum vmk alL inF mkF ds wr tag bi i vm ve vq S ms) (E : List Ed) : XB w G n b8 b9 b11 b12 b13 va vin vnum vmk alL inF mkF ds wr tag bi i vm ve vq ⟨S.num, S.q, E⟩ ms := { h with }
/-- The box of i is left for another. -/
theorem XB.newI {b' j : Nat} (h : XB w G n b8 b9 b11 b12 b13 va vin vnum vmk alL inF mkF ds wr tag bi i vm ve vq S ms) (ho : Own wr w.heap.size tag 5 b' #[.int .i64 j] 3) : XB w G n b8 b9 b11 b12 b13 va vin vnum vmk alL inF mkF ds wr tag b' j vm ve vq S ms := { h with io := ho }
/-- Another mark. -/
theorem XB.mark {s D : Nat} (h : XB w G n b8 b9 b11 b12 b13 va vin vnum vmk alL inF mkF ds wr tag bi i vm ve vq S ms) (hs : ∀ D', Go.Proofs.Ythchkddhibhenaa.mark D' ∈ ds → D' < s) (hD : s ≤ D) (hB : w.heap.size ≤ s) (hd : wr.heap[D]? = some (.deferred (some []))) : XB w G n b8 b9 b11 b12 b13 va vin vnum vmk alL inF mkF (Go.Proofs.Ythchkddhibhenaa.mark D :: ds) wr tag bi i vm ve vq S ms :=
  { h with marks := h.marks.cons hs hD (Nat.le_trans hB hD) hd }
end
end Go.Proofs.Ythchkddhibhenaa

namespace Go.Proofs.Ythchkddhibhenaa
open Go Go.RowKit

/-- What was there keeps its tag when a callee's blocks take one. -/
theorem Own.late {w w' : World} {B : Nat} {tag : Nat → Nat} {k k' b : Nat} {cs : Array Value} {t : TypeId} (h : Own w B tag k b cs t) (hb : Below w.heap.size w w') : Own w' B (tagFrom tag w.heap.size k') k b cs t :=
  ⟨(hb.block b h.lt).trans h.heap, (if_pos h.lt).trans h.htag, h.base⟩
theorem Own.name {w : World} {B : Nat} {tag : Nat → Nat} {k b : Nat} {cs : Array Value} {t : TypeId} (f : Nat → Nat) (h : Own w B tag k b cs t) : Own w B (fun b => f (tag b)) (f k) b cs t :=
  ⟨h.heap, by show f (tag b) = f k; rw [h.htag], h.base⟩

structure RB10 (Φ : (Nat → Nat) → World → Prop) (PR : Nat → Value → Prop) (B n : Nat) (inF mkF : List Bool) (l : Array Bool) (us : List Value) (tag : Nat → Nat) (W : World) : Prop where
  len : us.length = 9
  size : B ≤ W.heap.size
  phi : Φ tag W
  pure : ∀ j, j < 6 → l.getD j false = true → PR j (us.getD j undef)
  s2 : l.getD 2 false = true → Row W B tag 1 4 1 (us.getD 2 undef) n (bools inF)
  s6 : l.getD 6 false = true → Row W B tag 1 4 1 (us.getD 6 undef) n (bools mkF)
  s7 : l.getD 7 false = true → ∃ b, us.getD 7 undef = .pointer (some ⟨b, 0, none⟩) ∧ Own W B tag 2 b #[if l.getD 8 false = true then us.getD 2 undef else .slice none 0 0] 86
  s9 : l.getD 9 false = true → Row W B tag 1 4 1 (us.getD 8 undef) n (bools mkF)
  o8 : l.getD 8 false = true → l.getD 2 false = true ∧ l.getD 7 false = true

section
variable {Φ : (Nat → Nat) → World → Prop} {PR : Nat → Value → Prop} {B n : Nat} {inF mkF : List Bool} {l : Array Bool} {us : List Value} {tag tag' : Nat → Nat} {W W' : World} {k : Nat} {v : Value}
theorem RB10.start (hlen : us.length = 9) (hs : B ≤ W.heap.size) (hphi : Φ tag W) : RB10 Φ PR B n inF mkF (Array.replicate 10 false) us tag W := by
  have h : ∀ j, (Array.replicate 10 false).getD j false = true → False := by
    intro j
    rw [Array.getD_eq_getD_getElem?, Array.getElem?_replicate]
    split <;> simp
  exact ⟨hlen, hs, hphi, fun j _ e => (h _ e).elim, fun e => (h _ e).elim, fun e => (h _ e).elim, fun e => (h _ e).elim, fun e => (h _ e).elim, fun e => (h _ e).elim⟩
theorem pure_nextB {PR : Nat → Value → Prop} {l : Array Bool} {us : List Value} {k m N : Nat} {v : Value} (hl : ∀ j, j < N → (l.setIfInBounds k true).getD j false = (j == k || l.getD j false)) (hm : m ≤ N) (hlen : m ≤ us.length) (hp : ∀ j, j < m → l.getD j false = true → PR j (us.getD j undef)) (hv : k < m → PR k v) : ∀ j, j < m → (l.setIfInBounds k true).getD j false = true → PR j ((us.set k v).getD j undef) := by
  intro j hj h
  by_cases e : k = j
  · subst e
    rw [List.getD_eq_getElem?_getD, List.getElem?_set_self (by omega)]
    exact hv hj
  · rw [hl j (by omega), show (j == k) = false by simp; omega, Bool.false_or] at h
    rw [set_ne e]
    exact hp j hj h
theorem RB10.pureStep (h : RB10 Φ PR B n inF mkF l us tag W) (hl : ∀ j, j < 10 → (l.setIfInBounds k true).getD j false = (j == k || l.getD j false)) (hk : k = 0 ∨ k = 1 ∨ k = 3 ∨ k = 4 ∨ k = 5) (hv : PR k v) : RB10 Φ PR B n inF mkF (l.setIfInBounds k true) (us.set k v) tag W := by
  have e2 := hl 2 (by decide)
  have e6 := hl 6 (by decide)
  have e7 := hl 7 (by decide)
  have e8 := hl 8 (by decide)
  have e9 := hl 9 (by decide)
  rw [show ((2 : Nat) == k) = false by simp; omega, Bool.false_or] at e2
  rw [show ((6 : Nat) == k) = false by simp; omega, Bool.false_or] at e6
  rw [show ((7 : Nat) == k) = false by simp; omega, Bool.false_or] at e7
  rw [show ((8 : Nat) == k) = false by simp; omega, Bool.false_or] at e8
  rw [show ((9 : Nat) == k) = false by simp; omega, Bool.false_or] at e9
  refine ⟨by rw [List.length_set]; exact h.len, h.size, h.phi, pure_nextB hl (by decide) (by rw [h.len]; decide) h.pure (fun _ => hv), ?_, ?_, ?_, ?_, ?_⟩
  · rw [e2, set_ne (by omega)]; exact h.s2
  · rw [e6, set_ne (by omega)]; exact h.s6
  · rw [e7, e8, set_ne (by omega), set_ne (by omega)]; exact h.s7
  · rw [e9, set_ne (by omega)]; exact h.s9
  · rw [e8, e2, e7]; exact h.o8
/-- A list of flags is made by a callee. -/
theorem RB10.op2 (h : RB10 Φ PR B n inF mkF l us tag W) (hl : ∀ j, j < 10 → (l.setIfInBounds 2 true).getD j false = (j == 2 || l.getD j false)) (hphi : Φ (tagFrom tag W.heap.size 1) W') (hpr : ∀ v, PR 2 v) (hn : l.getD 2 false = false) (hb : Below W.heap.size W W') (hown : W'.ownsRow W.heap.size 4 1 v n (bools inF)) :
    RB10 Φ PR B n inF mkF (l.setIfInBounds 2 true) (us.set 2 v) (tagFrom tag W.heap.size 1) W' := by
  have h8 : l.getD 8 false = false := by
    cases h8 : l.getD 8 false with
    | false => rfl
    | true => rw [(h.o8 h8).1] at hn; cases hn
  refine ⟨by rw [List.length_set]; exact h.len, Nat.le_trans h.size hb.size, hphi, pure_nextB hl (by decide) (by rw [h.len]; decide) h.pure (fun _ => hpr _), ?_, ?_, ?_, ?_, ?_⟩
  · intro _
    rw [set_self h.len (by decide)]
    exact Row.of_call hown h.size
  · rw [hl 6 (by decide), show ((6 : Nat) == 2) = false from rfl, Bool.false_or, set_ne (by decide)]
    intro e
    have h9 := h.s6 e
    exact ⟨h9.1, h9.2.imp id fun ⟨b, off, cap, cur, h1, h2, h3⟩ => ⟨b, off, cap, cur, h1, h2.late hb, h3⟩⟩
  · rw [hl 7 (by decide), hl 8 (by decide), show ((7 : Nat) == 2) = false from rfl, show ((8 : Nat) == 2) = false from rfl, Bool.false_or, Bool.false_or, set_ne (by decide), h8]
    intro e
    obtain ⟨b, h1, h2⟩ := h.s7 e
    rw [h8] at h2
    exact ⟨b, h1, h2.late hb⟩
  · rw [hl 9 (by decide), show ((9 : Nat) == 2) = false from rfl, Bool.false_or, set_ne (by decide)]
    intro e
    have h9 := h.s9 e
    exact ⟨h9.1, h9.2.imp id fun ⟨b, off, cap, cur, h1, h2, h3⟩ => ⟨b, off, cap, cur, h1, h2.late hb, h3⟩⟩
  · rw [hl 8 (by decide), show ((8 : Nat) == 2) = false from rfl, Bool.false_or, h8]
    intro e; cases e
theorem RB10.op6 (h : RB10 Φ PR B n inF mkF l us tag W) (hl : ∀ j, j < 10 → (l.setIfInBounds 6 true).getD j false = (j == 6 || l.getD j false)) (hphi : Φ (tagFrom tag W.heap.size 1) W') (hb : Below W.heap.size W W') (hown : W'.ownsRow W.heap.size 4 1 v n (bools mkF)) :
    RB10 Φ PR B n inF mkF (l.setIfInBounds 6 true) (us.set 6 v) (tagFrom tag W.heap.size 1) W' := by
  refine ⟨by rw [List.length_set]; exact h.len, Nat.le_trans h.size hb.size, hphi, pure_nextB hl (by decide) (by rw [h.len]; decide) h.pure (fun e => absurd e (by decide)), ?_, ?_, ?_, ?_, ?_⟩
  · rw [hl 2 (by decide), show ((2 : Nat) == 6) = false from rfl, Bool.false_or, set_ne (by decide)]
    intro e
    have h9 := h.s2 e
    exact ⟨h9.1, h9.2.imp id fun ⟨b, off, cap, cur, h1, h2, h3⟩ => ⟨b, off, cap, cur, h1, h2.late hb, h3⟩⟩
  · intro _
    rw [set_self h.len (by decide)]
    exact Row.of_call hown h.size
  · rw [hl 7 (by decide), hl 8 (by decide), show ((7 : Nat) == 6) = false from rfl, show ((8 : Nat) == 6) = false from rfl, Bool.false_or, Bool.false_or, set_ne (by decide), set_ne (by decide)]
    intro e
    obtain ⟨b, h1, h2⟩ := h.s7 e
    exact ⟨b, h1, h2.late hb⟩
  · rw [hl 9 (by decide), show ((9 : Nat) == 6) = false from rfl, Bool.false_or, set_ne (by decide)]
    intro e
    have h9 := h.s9 e
    exact ⟨h9.1, h9.2.imp id fun ⟨b, off, cap, cur, h1, h2, h3⟩ => ⟨b, off, cap, cur, h1, h2.late hb, h3⟩⟩
  · rw [hl 8 (by decide), hl 2 (by decide), hl 7 (by decide)]; exact h.o8
/-- The box. -/
theorem RB10.op7 (h : RB10 Φ PR B n inF mkF l us tag W) (hl : ∀ j, j < 10 → (l.setIfInBounds 7 true).getD j false = (j == 7 || l.getD j false)) (hphi : Φ (tagUp tag W.heap.size 2) (W.alloc (.cells #[.slice none 0 0] 86))) (hn : l.getD 7 false = false) :
    RB10 Φ PR B n inF mkF (l.setIfInBounds 7 true) (us.set 7 (.pointer (some ⟨W.heap.size, 0, none⟩))) (tagUp tag W.heap.size 2) (W.alloc (.cells #[.slice none 0 0] 86)) := by
  have h8 : l.getD 8 false = false := by
    cases h8 : l.getD 8 false with
    | false => rfl
    | true => rw [(h.o8 h8).2] at hn; cases hn
  refine ⟨by rw [List.length_set]; exact h.len, by have := h.size; simp; omega, hphi, pure_nextB hl (by decide) (by rw [h.len]; decide) h.pure (fun e => absurd e (by decide)), ?_, ?_, ?_, ?_, ?_⟩
  · rw [hl 2 (by decide), show ((2 : Nat) == 7) = false from rfl, Bool.false_or, set_ne (by decide)]; exact fun e => (h.s2 e).up _ _
  · rw [hl 6 (by decide), show ((6 : Nat) == 7) = false from rfl, Bool.false_or, set_ne (by decide)]; exact fun e => (h.s6 e).up _ _
  · intro _
    rw [set_self h.len (by decide), hl 8 (by decide), show ((8 : Nat) == 7) = false from rfl, Bool.false_or, h8]
    exact ⟨W.heap.size, rfl, Own.new W B _ 2 _ _ h.size (tagUp_at _ _ _)⟩
  · rw [hl 9 (by decide), show ((9 : Nat) == 7) = false from rfl, Bool.false_or, set_ne (by decide)]; exact fun e => (h.s9 e).up _ _
  · rw [hl 8 (by decide), show ((8 : Nat) == 7) = false from rfl, Bool.false_or, h8]; intro e; cases e
/-- The store into the box. -/
theorem RB10.op8 {b : Nat} (h : RB10 Φ PR B n inF mkF l us tag W) (hl : ∀ j, j < 10 → (l.setIfInBounds 8 true).getD j false = (j == 8 || l.getD j false)) (hphi : ∀ {tag tag' W W'}, Turn B tag tag' 2 W W' → B ≤ W.heap.size → Φ tag W → Φ tag' W') (h2 : l.getD 2 false = true) (h7 : l.getD 7 false = true) (hu : us.getD 7 undef = .pointer (some ⟨b, 0, none⟩)) :
    RB10 Φ PR B n inF mkF (l.setIfInBounds 8 true) us tag (W.setCell ⟨b, 0, none⟩ (us.getD 2 undef)) := by
  obtain ⟨b', e, ho⟩ := h.s7 h7
  rw [hu] at e
  cases e
  have t := Turn.setCell ho 0 (us.getD 2 undef)
  have ho2 := ho.set 0 (us.getD 2 undef)
  refine ⟨h.len, Nat.le_trans h.size t.size, hphi t h.size h.phi, ?_, ?_, ?_, ?_, ?_, ?_⟩
  · intro j hj; rw [hl j (by omega), show (j == 8) = false by simp; omega, Bool.false_or]; exact h.pure j hj
  · rw [hl 2 (by decide), show ((2 : Nat) == 8) = false from rfl, Bool.false_or]; exact fun e => (h.s2 e).turn t (by decide)
  · rw [hl 6 (by decide), show ((6 : Nat) == 8) = false from rfl, Bool.false_or]; exact fun e => (h.s6 e).turn t (by decide)
  · intro _
    rw [hl 8 (by decide)]
    exact ⟨b, hu, by simpa using ho2⟩
  · rw [hl 9 (by decide), show ((9 : Nat) == 8) = false from rfl, Bool.false_or]; exact fun e => (h.s9 e).turn t (by decide)
  · intro _; rw [hl 2 (by decide), hl 7 (by decide), h2, h7]; exact ⟨rfl, rfl⟩
/-- The variable of the second list. -/
theorem RB10.op9 (h : RB10 Φ PR B n inF mkF l us tag W) (hl : ∀ j, j < 10 → (l.setIfInBounds 9 true).getD j false = (j == 9 || l.getD j false)) (h6 : l.getD 6 false = true) :
    RB10 Φ PR B n inF mkF (l.setIfInBounds 9 true) (us.set 8 (us.getD 6 undef)) tag W := by
  refine ⟨by rw [List.length_set]; exact h.len, h.size, h.phi, ?_, ?_, ?_, ?_, ?_, ?_⟩
  · intro j hj; rw [hl j (by omega), show (j == 9) = false by simp; omega, Bool.false_or, set_ne (by omega)]; exact h.pure j hj
  · rw [hl 2 (by decide), set_ne (by decide)]; exact h.s2
  · rw [hl 6 (by decide), set_ne (by decide)]; exact h.s6
  · rw [hl 7 (by decide), hl 8 (by decide), set_ne (by decide), set_ne (by decide)]; exact h.s7
  · intro _
    rw [set_self h.len (by decide)]
    exact h.s6 h6
  · rw [hl 8 (by decide), hl 2 (by decide), hl 7 (by decide)]; exact h.o8
end
theorem list9r {us : List Value} (h : us.length = 9) : ∃ u0 u1 u2 u3 u4 u5 u6 u7 u8, us = [u0, u1, u2, u3, u4, u5, u6, u7, u8] := by
  match us, h with
  | [u0, u1, u2, u3, u4, u5, u6, u7, u8], _ => exact ⟨_, _, _, _, _, _, _, _, _, rfl⟩
theorem Row.late {w w' : World} {B : Nat} {tag : Nat → Nat} {k k' : Nat} {t : TypeId} {sz : Nat} {v : Value} {n : Nat} {cs : List Value} (h : Row w B tag k t sz v n cs) (hb : Below w.heap.size w w') : Row w' B (tagFrom tag w.heap.size k') k t sz v n cs :=
  ⟨h.1, h.2.imp id fun ⟨b, off, cap, cur, h1, h2, h3⟩ => ⟨b, off, cap, cur, h1, h2.late hb, h3⟩⟩
/-- What holds of the rest meanwhile. -/
def PhiD (w : World) (b8 : Nat) (c0 c1 c2 c3 va : Value) (alL : List Int) (tag : Nat → Nat) (W : World) : Prop :=
  Below w.heap.size w W ∧ Own W w.heap.size tag 0 w.heap.size #[c0, c1, c2, c3] 31 ∧ Own W w.heap.size tag 0 (w.heap.size + 1) #[.slice none 0 0, .int .i64 0, .slice none 0 0, .slice none 0 0] 31 ∧ Own W w.heap.size tag 6 b8 #[va, .int .i64 0, .slice none 0 0, .slice none 0 0] 31 ∧ Row W w.heap.size tag 0 3 1 va alL.length (ints alL)
theorem PhiD.call {w : World} {b8 k : Nat} {c0 c1 c2 c3 va : Value} {alL : List Int} {tag : Nat → Nat} {W W' : World} (h : PhiD w b8 c0 c1 c2 c3 va alL tag W) (hb : Below W.heap.size W W') : PhiD w b8 c0 c1 c2 c3 va alL (tagFrom tag W.heap.size k) W' :=
  ⟨belCall h.1 hb h.1.size, h.2.1.late hb, h.2.2.1.late hb, h.2.2.2.1.late hb, h.2.2.2.2.1, h.2.2.2.2.2.imp id fun ⟨b, off, cap, cur, h1, h2, h3⟩ => ⟨b, off, cap, cur, h1, h2.late hb, h3⟩⟩
theorem PhiD.up {w : World} {b8 : Nat} {c0 c1 c2 c3 va : Value} {alL : List Int} {tag : Nat → Nat} {W : World} (h : PhiD w b8 c0 c1 c2 c3 va alL tag W) (o : Obj) (k : Nat) : PhiD w b8 c0 c1 c2 c3 va alL (tagUp tag W.heap.size k) (W.alloc o) :=
  ⟨h.1.alloc h.1.size o, h.2.1.upR o k, h.2.2.1.upR o k, h.2.2.2.1.upR o k, h.2.2.2.2.up o k⟩
theorem PhiD.turn2 {w : World} {b8 : Nat} {c0 c1 c2 c3 va : Value} {alL : List Int} : ∀ {tag tag' : Nat → Nat} {W W' : World}, Turn w.heap.size tag tag' 2 W W' → w.heap.size ≤ W.heap.size → PhiD w b8 c0 c1 c2 c3 va alL tag W → PhiD w b8 c0 c1 c2 c3 va alL tag' W' :=
  fun ht hs h => ⟨belTurn h.1 ht hs, h.2.1.turn ht (by decide), h.2.2.1.turn ht (by decide), h.2.2.2.1.turn ht (by decide), h.2.2.2.2.turn ht (by decide)⟩
/-- What stands when both lists of flags are made. -/
structure YB (w : World) (b8 b9 n : Nat) (c0 c1 c2 c3 va vin vmk : Value) (alL : List Int) (inF mkF : List Bool) (tag : Nat → Nat) (W : World) : Prop where
  phi : PhiD w b8 c0 c1 c2 c3 va alL tag W
  ib : Own W w.heap.size tag 0 b9 #[vin] 86
  inr : Row W w.heap.size tag 1 4 1 vin n (bools inF)
  mkr : Row W w.heap.size tag 1 4 1 vmk n (bools mkF)
section
variable {w : World} {b8 b9 n : Nat} {c0 c1 c2 c3 va vin vmk : Value} {alL : List Int} {inF mkF : List Bool} {tag tag' : Nat → Nat} {W W' : World}
theorem YB.late (h : YB w b8 b9 n c0 c1 c2 c3 va vin vmk alL inF mkF tag W) (k : Nat) (hb : Below W.heap.size W W') : YB w b8 b9 n c0 c1 c2 c3 va vin vmk alL inF mkF (tagFrom tag W.heap.size k) W' :=
  ⟨h.phi.call hb, h.ib.late hb, h.inr.late hb, h.mkr.late hb⟩
theorem YB.up (h : YB w b8 b9 n c0 c1 c2 c3 va vin vmk alL inF mkF tag W) (o : Obj) (k : Nat) : YB w b8 b9 n c0 c1 c2 c3 va vin vmk alL inF mkF (tagUp tag W.heap.size k) (W.alloc o) :=
  ⟨h.phi.up o k, h.ib.upR o k, h.inr.up o k, h.mkr.up o k⟩
end
end Go.Proofs.Ythchkddhibhenaa

namespace Go.Proofs.Ythchkddhibhenaa
open Go.RowKit

/-- The automaton of the examples. -/
def exA : Aut := ⟨[0, 1], 4, [1], [⟨0, 0, 1⟩, ⟨0, 1, 2⟩, ⟨1, 0, 1⟩, ⟨2, 0, 3⟩, ⟨3, 1, 2⟩]⟩

/-- A new block read whole. -/
theorem RdS.lit {w : World} {sz b len : Nat} {cs : Array Value} {t : TypeId} (h : w.heap[b]? = some (.cells cs t (0, 0))) (hl : cs.size = len * sz) (hm : len ≤ 1000000) : RdS w sz (some ⟨b, 0, none⟩) len len cs.toList := by
  refine ⟨by simpa using hl, Nat.le_refl _, by unfold maxLen; omega, fun e => (by cases e), fun _ e => (by cases e; rfl), fun _ e j hj => ?_⟩
  cases e
  simp only [Nat.zero_add]
  rw [World.cell?, h]
  simp at hj
  simp [hj]

theorem example_any (w : World) : Calls Try.prog 46 #[] w (Ret w fun u w' => RdA w' u exA) := by
  go_enter Try.func46, Try.ntmps46
  go_wp2_with fail
  refine bodyPost_ret (v := .agg #[.slice (some ⟨w.heap.size + 1, 0, none⟩) 2 2, .int .i64 4, .slice (some ⟨w.heap.size + 1 + 1, 0, none⟩) 1 1, .slice (some ⟨w.heap.size + 1 + 1 + 1, 0, none⟩) 5 5]) (by simp [results, Try.results46, go_sem]) rfl ⟨_, rfl, ?_, (((((Below.refl _ _).alloc (Nat.le_refl _) _).alloc (by simp) _).alloc (by simp; omega) _).alloc (by simp; omega) _)⟩
  refine ⟨_, _, _, rfl, ⟨_, _, rfl, RdS.lit (cs := #[.int .i64 0, .int .i64 1]) (t := 3) (by repeat (first | with_reducible assumption | (with_reducible refine heap_at ?_; (first | (simp; done) | (simp; omega))) | (with_reducible refine heap_past ?_ ?_; (next => first | omega | (simp; done) | (simp; omega))))) rfl (by decide)⟩, ⟨_, _, rfl, RdS.lit (cs := #[.int .i64 1]) (t := 3) (by repeat (first | with_reducible assumption | (with_reducible refine heap_at ?_; (first | (simp; done) | (simp; omega))) | (with_reducible refine heap_past ?_ ?_; (next => first | omega | (simp; done) | (simp; omega))))) rfl (by decide)⟩, ⟨_, _, rfl, ?_⟩⟩
  exact RdS.lit (cs := #[.int .i64 0, .int .i64 0, .int .i64 1, .int .i64 0, .int .i64 1, .int .i64 2, .int .i64 1, .int .i64 0, .int .i64 1, .int .i64 2, .int .i64 0, .int .i64 3, .int .i64 3, .int .i64 1, .int .i64 2]) (t := 45) (len := 5) (by repeat (first | with_reducible assumption | (with_reducible refine heap_at ?_; (first | (simp; done) | (simp; omega))) | (with_reducible refine heap_past ?_ ?_; (next => first | omega | (simp; done) | (simp; omega))))) rfl (by decide)
end Go.Proofs.Ythchkddhibhenaa

namespace Go.Proofs.Ythchkddhibhenaa
open Go.RowKit

theorem Try.info_edge : (Try.prog.info? 45).map (fun i => (i.zero, i.size, i.bytes)) = some (some (.agg #[.int .i64 0, .int .i64 0, .int .i64 0]), 3, 24) := by kernel_rfl
end Go.Proofs.Ythchkddhibhenaa

namespace Go.Proofs.Ythchkddhibhenaa
open Go Go.RowKit

section
variable {F : Fence} {n : Nat} {P : Program} {ops : Array Oper} {Q : Exit → Act → World → Prop}

theorem wpAnyIn_inv {I : Array Bool → Act → World → Prop} (hB : afterC ops = true)
    (hstep : ∀ i listed a w, I listed a w → i ∈ Region.ready .any ops listed → wpOpIn F n P ops Q i (I (listed.setIfInBounds i true)) a w)
    (hend : ∀ listed a w, I listed a w → (∀ j, j < ops.size → listed.getD j true = true) → Q .normal a w) :
    ∀ (fuel : Nat) (listed : Array Bool) (a : Act) (w : World), listed.toList.count false ≤ fuel → I listed a w → wpAnyIn F n P .any ops Q fuel listed a w := by
  intro fuel
  induction fuel with
  | zero =>
    intro listed a w hc hI
    have hr : Region.ready .any ops listed = [] := by
      rw [List.eq_nil_iff_forall_not_mem]
      intro i hi
      have h1 := (mem_ready.1 hi).1
      have h2 : false ∈ listed.toList := by
        rcases Nat.lt_or_ge i listed.size with h' | h'
        · rw [Array.getD_eq_getD_getElem?, Array.getElem?_eq_getElem h'] at h1
          simp only [Option.getD_some] at h1
          rw [← h1, ← Array.getElem_toList]; exact List.getElem_mem _
        · rw [Array.getD_eq_getD_getElem?, Array.getElem?_eq_none h'] at h1; cases h1
      have := List.count_pos_iff.2 h2
      omega
    exact ⟨hr, hend _ _ _ hI (all_of_ready2 hB hr)⟩
  | succ fuel ih =>
    intro listed a w hc hI
    refine ⟨fun hr => hend _ _ _ hI (all_of_ready2 hB hr), fun i hi => wpOpIn_mono (fun a' w' h => ih _ a' w' ?_ h) (hstep i listed a w hI hi)⟩
    have h1 := (mem_ready.1 hi).1
    have hlt : i < listed.toList.length := by
      rcases Nat.lt_or_ge i listed.size with h' | h'
      · simpa using h'
      · rw [Array.getD_eq_getD_getElem?, Array.getElem?_eq_none h'] at h1; cases h1
    have h2 := count_falses hlt (by rw [List.getD_eq_getElem?_getD, Array.getElem?_toList, ← Array.getD_eq_getD_getElem?]; exact h1)
    rw [Array.toList_setIfInBounds]
    omega

/-- What one operation has to show. -/
structure StepGIn (F : Fence) (n : Nat) (P : Program) (ops : Array Oper) (Q : Exit → Act → World → Prop) (o : Oper) (a : Act) (w : World) (K' : Act → World → Prop) : Prop where
  out : if Region.wanted o (yielded ops a.tmps) = true then Oper.wpIn F n P o a w K' Q else (∀ f, o.about P w a.eval = some f → F.fn f) ∧ K' (a.put o.dst undef) w
/-- The steps from operation k on. -/
def StepsIn (F : Fence) (n : Nat) (P : Program) (ops : Array Oper) (Q : Exit → Act → World → Prop) (I : Array Bool → List Value → World → Prop) (a : Act) (ds : List Nat) (k : Nat) : Prop :=
  ∀ i, k ≤ i → i < ops.size → ∀ (listed : Array Bool) (us : List Value) (w : World), listed.size = ops.size → I listed us w → i ∈ Region.ready .any ops listed →
    wpOpIn F n P ops Q i (fun a' w' => ∃ us', puts a ds us' = a' ∧ I (listed.setIfInBounds i true) us' w') (puts a ds us) w
theorem StepsIn.nil {I : Array Bool → List Value → World → Prop} {a : Act} {ds : List Nat} {k : Nat} (h : ops.size ≤ k) : StepsIn F n P ops Q I a ds k := fun i h1 h2 => by omega
theorem StepsIn.cons {I : Array Bool → List Value → World → Prop} {a : Act} {ds : List Nat} {k : Nat} {o : Oper} (ho : ops[k]? = some o)
    (h : ∀ (listed : Array Bool) (us : List Value) (w : World), (∀ j, j < ops.size → (listed.setIfInBounds k true).getD j false = (j == k || listed.getD j false)) → I listed us w → (o.after.all fun e => !Region.binds .any e || listed.getD e.on false) = true →
      listed.getD k false = false → ∀ K' : Act → World → Prop, (∀ us' a' w', puts a ds us' = a' → I (listed.setIfInBounds k true) us' w' → K' a' w') →
      StepGIn F n P ops Q o (puts a ds us) w K')
    (hs : StepsIn F n P ops Q I a ds (k + 1)) : StepsIn F n P ops Q I a ds k := fun i hki hi listed us w hsz hI hr => by
  by_cases e : i = k
  · subst e
    refine wpOpIn_step ho fun K' hK => (h listed us w (fun j hj => ?_) hI ?_ ?_ K' (fun us' a' w' e h => hK a' w' ⟨us', e, h⟩)).out
    · rw [Array.getD_eq_getD_getElem?, Array.getD_eq_getD_getElem?, Array.getElem?_setIfInBounds]
      by_cases hij : i = j
      · subst hij; simp [hsz, hi]
      · have : (j == i) = false := by simp; omega
        rw [if_neg hij, this, Bool.false_or]
    · obtain ⟨h1, o', h2, h3⟩ := mem_ready.1 hr
      rw [ho] at h2
      cases h2
      rw [Array.all_eq_true_iff_forall_mem]
      intro e he
      by_cases hb : Region.binds .any e = true
      · rw [h3 e he hb]; simp
      · simp [hb]
    · have h1 := (mem_ready.1 hr).1
      rw [Array.getD_eq_getD_getElem?, Array.getElem?_eq_getElem (by omega)] at h1 ⊢
      exact h1
  · exact hs i (by omega) hi listed us w hsz hI hr
theorem wpIn_region_inv {id : Nat} {a : Act} {w : World} (I : Array Bool → List Value → World → Prop) (ds : List Nat) (hm : P.follows .mixedOrders = true) (hB : afterC ops = true)
    (hI : I (Array.replicate ops.size false) (ds.map fun d => a.tmps.getD d undef) w.drew)
    (hs : StepsIn F n P ops Q I a ds 0)
    (hend : ∀ listed us w, I listed us w → (∀ j, j < ops.size → listed.getD j false = true) → Q .normal (puts a ds us) w) : (Code.region id ops true).wpIn F n P Q a w := by
  refine wpIn_region_any hm ?_
  refine wpAnyIn_inv (I := fun listed a' w' => listed.size = ops.size ∧ ∃ us, puts a ds us = a' ∧ I listed us w') hB ?_ ?_ _ _ _ _ (by simp) ⟨by simp, _, puts_self a ds, hI⟩
  · rintro i listed a' w' ⟨hsz, us, rfl, hI⟩ hr
    have hi : i < ops.size := by
      obtain ⟨_, o, ho, _⟩ := mem_ready.1 hr
      exact (Array.getElem?_eq_some_iff.1 ho).1
    exact wpOpIn_mono (fun a w h => ⟨by simp [hsz], h⟩) (hs i (Nat.zero_le _) hi listed us w' hsz hI hr)
  · rintro listed a' w' ⟨hsz, us, rfl, hI⟩ hall
    refine hend listed us w' hI (fun j hj => ?_)
    have := hall j hj
    rw [Array.getD_eq_getD_getElem?, Array.getElem?_eq_getElem (by omega)] at this ⊢
    exact this
/-- append to a row, as an operation of a region that draws, inside a fence. -/
theorem StepGIn.append_row {o : Oper} {a : Act} {w : World} {K' : Act → World → Prop} {B : Nat} {tag : Nat → Nat} {k : Nat} {sz : Nat} {v : Value} {nn : Nat} {cs : List Value} (hgd : o.guard = none) (s x : Operand) (tt : TypeId)
    (ho : o.op = .call { callee := .builtin .append, args := #[s, x], argTypes := #[tt, tt] })
    (e : TypeId) (i : TypeInfo) (z : Value) (bytes : Nat) (ht : P.underlying tt = some (.slice e)) (hi : P.info? e = some i) (hz : i.zero = some z)
    (hsize : i.size = sz) (hby : i.bytes = bytes) (hzs : z.cells.size = sz) (hs : a.eval s = v) (hrow : Row w B tag k e sz v nn cs)
    (ao : Option Addr) (m c : Nat) (news : List Value) (hx : a.eval x = .slice ao m c) (hl : news.length = m * sz) (hnone : ao = none → m = 0 ∧ c = 0)
    (hnews : ∀ ad, ao = some ad → ∀ j u, news[j]? = some u → w.cell? (ad.add j) = some u) (h1 : ∀ u ∈ news, u.oneCell' = true)
    (h63 : nn + m ≤ maxLen) (hbytes : (nn + m) * bytes ≤ 140737488355328) (hB : B ≤ w.heap.size)
    (h : ∀ v' w' tag', Row w' B tag' k e sz v' (nn + m) (cs ++ news) → Turn B tag tag' k w w' → K' (a.put o.dst v') w') : StepGIn F n P ops Q o a w K' := by
  obtain ⟨v', w', tag', hrun, h2, h3⟩ := run_append_row (P := P) (w := w) (ty := o.type) tt e i z bytes ht hi hz hsize hby hzs hrow ao m c news hl hnone hnews h1 h63 hbytes hB
  refine StepGIn.mk ?_
  rw [if_pos (by simp [Region.wanted, hgd])]
  unfold Oper.wpIn
  refine ⟨?_, ?_⟩
  · simp [Oper.about, ho, resolve, Target.leads, Sem.run_pure]
  · rw [Oper.semAt_plain F _ _ (by rw [ho]; intro c hc'; cases hc')]
    simp [execOp, ho, resolve, invoke, builtin, hs, hx, hrun, Result.andThen]
    exact h v' w' tag' h2 h3
end
end Go.Proofs.Ythchkddhibhenaa

namespace Go.Proofs.Ythchkddhibhenaa
open Go Go.RowKit

theorem edCells_snoc (E : List Ed) (y : Ed) : edCells (E ++ [y]) = edCells E ++ y.cells := by simp [edCells, Ed.cells, List.flatMap_append]

/-- Φ c: the rest, where the edges' cell holds c; PR: the slots that hold no memory of the edges. -/
structure RX (Φ : Value → (Nat → Nat) → World → Prop) (PR : Nat → Value → Prop) (B : Nat) (E : List Ed) (y : Ed) (ve : Value) (l : Array Bool) (us : List Value) (tag : Nat → Nat) (W : World) : Prop where
  len : us.length = 15
  size : B ≤ W.heap.size
  phi : Φ (if l.getD 15 false = true then us.getD 13 undef else ve) tag W
  pure : ∀ j, j < 15 → l.getD j false = true → PR j (us.getD j undef)
  s1 : l.getD 13 false = false → Row W B tag 8 45 3 ve E.length (edCells E)
  s12 : l.getD 12 false = true → l.getD 13 false = false → Row W B tag 11 45 3 (us.getD 12 undef) 1 y.cells
  s13 : l.getD 13 false = true → Row W B tag 8 45 3 (us.getD 13 undef) (E.length + 1) (edCells (E ++ [y]))
  o13 : l.getD 13 false = true → l.getD 12 false = true ∧ l.getD 1 false = true
  o15 : l.getD 15 false = true → l.getD 13 false = true

section
variable {Φ : Value → (Nat → Nat) → World → Prop} {PR : Nat → Value → Prop} {B : Nat} {E : List Ed} {y : Ed} {ve : Value} {l : Array Bool} {us : List Value} {tag tag' : Nat → Nat} {W W' : World} {k : Nat} {v : Value}
theorem pure_nextC {PR : Nat → Value → Prop} {l : Array Bool} {us : List Value} {k m N : Nat} {v : Value} (hl : ∀ j, j < N → (l.setIfInBounds k true).getD j false = (j == k || l.getD j false)) (hm : m ≤ N) (hlen : m ≤ us.length) (hp : ∀ j, j < m → l.getD j false = true → PR j (us.getD j undef)) (hv : PR k v) : ∀ j, j < m → (l.setIfInBounds k true).getD j false = true → PR j ((us.set k v).getD j undef) := by
  intro j hj h
  by_cases e : k = j
  · subst e
    rw [List.getD_eq_getElem?_getD, List.getElem?_set_self (by omega)]
    exact hv
  · rw [hl j (by omega), show (j == k) = false by simp; omega, Bool.false_or] at h
    rw [set_ne e]
    exact hp j hj h
theorem RX.start (hlen : us.length = 15) (hs : B ≤ W.heap.size) (hphi : Φ ve tag W) (h1 : Row W B tag 8 45 3 ve E.length (edCells E)) : RX Φ PR B E y ve (Array.replicate 16 false) us tag W := by
  have h : ∀ j, (Array.replicate 16 false).getD j false = true → False := by
    intro j
    rw [Array.getD_eq_getD_getElem?, Array.getElem?_replicate]
    split <;> simp
  refine ⟨hlen, hs, ?_, fun j _ e => (h _ e).elim, fun _ => h1, fun e => (h _ e).elim, fun e => (h _ e).elim, fun e => (h _ e).elim, fun e => (h _ e).elim⟩
  rw [if_neg (fun e => h _ e)]
  exact hphi
theorem RX.pureStep (h : RX Φ PR B E y ve l us tag W) (hl : ∀ j, j < 16 → (l.setIfInBounds k true).getD j false = (j == k || l.getD j false)) (hk : k < 12 ∨ k = 14) (hv : PR k v) : RX Φ PR B E y ve (l.setIfInBounds k true) (us.set k v) tag W := by
  have e12 := hl 12 (by decide)
  have e13 := hl 13 (by decide)
  have e15 := hl 15 (by decide)
  rw [show ((12 : Nat) == k) = false by simp; omega, Bool.false_or] at e12
  rw [show ((13 : Nat) == k) = false by simp; omega, Bool.false_or] at e13
  rw [show ((15 : Nat) == k) = false by simp; omega, Bool.false_or] at e15
  refine ⟨by rw [List.length_set]; exact h.len, h.size, ?_, pure_nextC hl (by decide) (by rw [h.len]; decide) h.pure hv, ?_, ?_, ?_, ?_, ?_⟩
  · rw [e15, set_ne (by omega)]; exact h.phi
  · rw [e13]; exact h.s1
  · rw [e12, e13, set_ne (by omega)]; exact h.s12
  · rw [e13, set_ne (by omega)]; exact h.s13
  · rw [e12, e13]
    intro e
    refine ⟨(h.o13 e).1, ?_⟩
    rw [hl 1 (by decide), (h.o13 e).2, Bool.or_true]
  · rw [e15, e13]; exact h.o15
/-- The edge's own list. -/
theorem RX.op12 (h : RX Φ PR B E y ve l us tag W) (hl : ∀ j, j < 16 → (l.setIfInBounds 12 true).getD j false = (j == 12 || l.getD j false)) (hphi : ∀ c, Φ c tag W → Φ c (tagUp tag W.heap.size 11) (W.alloc (.cells y.cells.toArray 45))) (hn : l.getD 12 false = false) (hv : ∀ v, PR 12 v) :
    RX Φ PR B E y ve (l.setIfInBounds 12 true) (us.set 12 (.slice (some ⟨W.heap.size, 0, none⟩) 1 1)) (tagUp tag W.heap.size 11) (W.alloc (.cells y.cells.toArray 45)) := by
  have h13 : l.getD 13 false = false := by
    cases h13 : l.getD 13 false with
    | false => rfl
    | true => rw [(h.o13 h13).1] at hn; cases hn
  have h15 : l.getD 15 false = false := by
    cases h15 : l.getD 15 false with
    | false => rfl
    | true => rw [h.o15 h15] at h13; cases h13
  have hp := h.phi
  rw [h15] at hp
  refine ⟨by rw [List.length_set]; exact h.len, by have := h.size; simp; omega, ?_, pure_nextC hl (by decide) (by rw [h.len]; decide) h.pure (hv _), ?_, ?_, ?_, ?_, ?_⟩
  · rw [hl 15 (by decide), show ((15 : Nat) == 12) = false from rfl, Bool.false_or, h15]
    exact hphi _ hp
  · rw [hl 13 (by decide), show ((13 : Nat) == 12) = false from rfl, Bool.false_or]
    exact fun e => (h.s1 e).up _ _
  · intro _ _
    rw [set_self h.len (by decide)]
    refine ⟨by simp [Ed.cells], .inr ⟨W.heap.size, 0, 1, y.cells.toArray, rfl, Own.new W B _ 11 _ _ h.size (tagUp_at _ _ _), Nat.le_refl _, by show 1 ≤ maxLen; decide, by simp [Ed.cells], by simp [Ed.cells]⟩⟩
  · rw [hl 13 (by decide), show ((13 : Nat) == 12) = false from rfl, Bool.false_or, h13]; intro e; cases e
  · rw [hl 13 (by decide), show ((13 : Nat) == 12) = false from rfl, Bool.false_or, h13]; intro e; cases e
  · rw [hl 15 (by decide), hl 13 (by decide)]; exact h.o15
/-- The append. -/
theorem RX.op13 (h : RX Φ PR B E y ve l us tag W) (hl : ∀ j, j < 16 → (l.setIfInBounds 13 true).getD j false = (j == 13 || l.getD j false)) (hphi : ∀ c, Φ c tag W → Φ c tag' W') (hn : l.getD 13 false = false) (h12 : l.getD 12 false = true) (h1 : l.getD 1 false = true) (hv : ∀ v, PR 13 v)
    (ht : Turn B tag tag' 8 W W') (hr : Row W' B tag' 8 45 3 v (E.length + 1) (edCells E ++ y.cells)) :
    RX Φ PR B E y ve (l.setIfInBounds 13 true) (us.set 13 v) tag' W' := by
  have h15 : l.getD 15 false = false := by
    cases h15 : l.getD 15 false with
    | false => rfl
    | true => rw [h.o15 h15] at hn; cases hn
  have hp := h.phi
  rw [h15] at hp
  refine ⟨by rw [List.length_set]; exact h.len, Nat.le_trans h.size ht.size, ?_, pure_nextC hl (by decide) (by rw [h.len]; decide) h.pure (hv _), ?_, ?_, ?_, ?_, ?_⟩
  · rw [hl 15 (by decide), show ((15 : Nat) == 13) = false from rfl, Bool.false_or, h15]
    exact hphi _ hp
  · rw [hl 13 (by decide)]; intro e; cases e
  · rw [hl 13 (by decide)]; intro _ e; cases e
  · intro _
    rw [set_self h.len (by decide), edCells_snoc]
    exact hr
  · intro _; rw [hl 12 (by decide), h12, hl 1 (by decide), h1]; exact ⟨rfl, rfl⟩
  · intro _; rw [hl 13 (by decide)]; rfl
/-- The store of the edges. -/
theorem RX.op15 {b8 : Nat} (h : RX Φ PR B E y ve l us tag W) (hl : ∀ j, j < 16 → (l.setIfInBounds 15 true).getD j false = (j == 15 || l.getD j false)) (hphi : ∀ c c', Φ c tag W → Φ c' tag (W.setCell ⟨b8, 3, none⟩ c') ∧ Turn B tag tag 6 W (W.setCell ⟨b8, 3, none⟩ c')) (hn : l.getD 15 false = false) (h13 : l.getD 13 false = true) :
    RX Φ PR B E y ve (l.setIfInBounds 15 true) us tag (W.setCell ⟨b8, 3, none⟩ (us.getD 13 undef)) := by
  have hp := h.phi
  rw [hn] at hp
  obtain ⟨p1, p2⟩ := hphi _ (us.getD 13 undef) hp
  refine ⟨h.len, Nat.le_trans h.size p2.size, ?_, ?_, ?_, ?_, ?_, ?_, ?_⟩
  · rw [hl 15 (by decide)]; exact p1
  · intro j hj; rw [hl j (by omega), show (j == 15) = false by simp; omega, Bool.false_or]; exact h.pure j hj
  · rw [hl 13 (by decide), h13]; intro e; cases e
  · rw [hl 13 (by decide), h13]; intro _ e; cases e
  · rw [hl 13 (by decide), show ((13 : Nat) == 15) = false from rfl, Bool.false_or]; exact fun e => (h.s13 e).turn p2 (by decide)
  · rw [hl 13 (by decide), hl 12 (by decide), hl 1 (by decide)]; exact h.o13
  · intro _; rw [hl 13 (by decide), h13]; rfl
end
theorem list15 {us : List Value} (h : us.length = 15) : ∃ u0 u1 u2 u3 u4 u5 u6 u7 u8 u9 u10 u11 u12 u13 u14, us = [u0, u1, u2, u3, u4, u5, u6, u7, u8, u9, u10, u11, u12, u13, u14] := by
  match us, h with
  | [u0, u1, u2, u3, u4, u5, u6, u7, u8, u9, u10, u11, u12, u13, u14], _ => exact ⟨_, _, _, _, _, _, _, _, _, _, _, _, _, _, _, rfl⟩
end Go.Proofs.Ythchkddhibhenaa

namespace Go.Proofs.Ythchkddhibhenaa
open Go.RowKit

theorem newGraph_row (aa am : Option Addr) (la lm ca cm : Nat) (ve : Value) (n : Nat) (es : List Ed) (w : World) (hr : RdE w ve es) (hl : es.length ≤ 1000000) (hn : n ≤ 1000000) (hin : ∀ x ∈ es, 0 ≤ x.f ∧ x.f < n) :
    Calls Try.prog 48 #[.agg #[.slice aa la ca, .int .i64 n, .slice am lm cm, ve]] w (Ret w fun u w' => ∃ af cf tag, u = .agg #[.slice aa la ca, .int .i64 n, .slice am lm cm, ve, .slice af (n + 1) cf] ∧ Row w' w.heap.size tag 1 3 1 (.slice af (n + 1) cf) (n + 1) (ints (firsts n es))) := by
  obtain ⟨a, cap, rfl, hr⟩ := hr
  obtain ⟨i0, hi, hz0, hz1, hz2⟩ := info_parts Try.info_int
  have Hin := Lib.hid hin
  clear hin
  have hmk := fun W : World => run_make (P := Try.prog) W 28 3 i0 (.int .i64 0) Try.underlying28 hi hz0 .i64 .i64 ((n : Int) + 1) ((n : Int) + 1) (by omega) (by omega) (by rw [hz2]; omega) (by omega)
  have hwr : IntKind.i64.wrap ((n : Int) + 1) = (n : Int) + 1 := IntWalk.i64_in _ (by omega)
  go_enter Try.func48, Try.ntmps48
  go_upto_region 1 with fail
  go_cut [3] (fun s3 wx => ∃ (g r : Nat) (tag : Nat → Nat), s3 = .pointer (some ⟨g, 0, none⟩) ∧ Below w.heap.size w wx ∧
    Own wx w.heap.size tag 0 w.heap.size #[.slice aa la ca, .int .i64 n, .slice am lm cm, .slice a es.length cap] 31 ∧
    Own wx w.heap.size tag 0 (w.heap.size + 1) #[.slice none 0 0, .int .i64 0, .slice none 0 0, .slice none 0 0, .slice none 0 0] 80 ∧
    Own wx w.heap.size tag 0 g #[.slice aa la ca, .int .i64 n, .slice am lm cm, .slice a es.length cap, .slice (some ⟨r, 0, none⟩) (n + 1) (n + 1)] 80 ∧
    Row wx w.heap.size tag 1 3 1 (.slice (some ⟨r, 0, none⟩) (n + 1) (n + 1)) (n + 1) (List.replicate (n + 1) (.int .i64 0)))
  case first =>
    go_region
    all_goals go_wp2
    all_goals go_meet
    all_goals
      first
      | exact ⟨w.heap.size + 2, w.heap.size + 3, fun b => if b = w.heap.size + 3 then 1 else 0, rfl, (by (repeat (first | with_reducible exact Below.refl _ _ | with_reducible exact hr | (with_reducible refine belCall ?_ hr (by first | omega | (simp; done) | (simp; omega) | (simp at *; omega))) | (with_reducible refine Below.alloc ?_ (by first | omega | (simp; done) | (simp; omega) | (simp at *; omega)) _) | (with_reducible refine Below.drew ?_) | (with_reducible refine Below.setCell ?_ (by first | omega | (simp; done) | (simp; omega) | (simp at *; omega)) _)))), ⟨(by repeat (first | with_reducible assumption | (refine heap_drewp ?_) | (refine heap_at ?_; (first | rfl | (simp; done) | (simp; omega))) | (refine heap_past ?_ ?_; (next => first | omega | (simp; done) | (simp; omega))))), by simp, by omega⟩, ⟨(by repeat (first | with_reducible assumption | (refine heap_drewp ?_) | (refine heap_at ?_; (first | rfl | (simp; done) | (simp; omega))) | (refine heap_past ?_ ?_; (next => first | omega | (simp; done) | (simp; omega))))), by simp, by omega⟩, ⟨(by repeat (first | with_reducible assumption | (refine heap_drewp ?_) | (refine heap_at ?_; (first | rfl | (simp; done) | (simp; omega))) | (refine heap_past ?_ ?_; (next => first | omega | (simp; done) | (simp; omega))))), by simp, by omega⟩, ⟨by simp, .inr ⟨_, 0, _, madeCells #[.int .i64 0] (n + 1), rfl, ⟨(by repeat (first | with_reducible assumption | (refine heap_drewp ?_) | (refine heap_at ?_; (first | rfl | (simp; done) | (simp; omega))) | (refine heap_past ?_ ?_; (next => first | omega | (simp; done) | (simp; omega))))), by simp, by omega⟩, by omega, by unfold maxLen; omega, by simp [size_madeCells], by simp [toList_madeCells_one]⟩⟩⟩
      | exact ⟨w.heap.size + 3, w.heap.size + 2, fun b => if b = w.heap.size + 2 then 1 else 0, rfl, (by (repeat (first | with_reducible exact Below.refl _ _ | with_reducible exact hr | (with_reducible refine belCall ?_ hr (by first | omega | (simp; done) | (simp; omega) | (simp at *; omega))) | (with_reducible refine Below.alloc ?_ (by first | omega | (simp; done) | (simp; omega) | (simp at *; omega)) _) | (with_reducible refine Below.drew ?_) | (with_reducible refine Below.setCell ?_ (by first | omega | (simp; done) | (simp; omega) | (simp at *; omega)) _)))), ⟨(by repeat (first | with_reducible assumption | (refine heap_drewp ?_) | (refine heap_at ?_; (first | rfl | (simp; done) | (simp; omega))) | (refine heap_past ?_ ?_; (next => first | omega | (simp; done) | (simp; omega))))), by simp, by omega⟩, ⟨(by repeat (first | with_reducible assumption | (refine heap_drewp ?_) | (refine heap_at ?_; (first | rfl | (simp; done) | (simp; omega))) | (refine heap_past ?_ ?_; (next => first | omega | (simp; done) | (simp; omega))))), by simp, by omega⟩, ⟨(by repeat (first | with_reducible assumption | (refine heap_drewp ?_) | (refine heap_at ?_; (first | rfl | (simp; done) | (simp; omega))) | (refine heap_past ?_ ?_; (next => first | omega | (simp; done) | (simp; omega))))), by simp, by omega⟩, ⟨by simp, .inr ⟨_, 0, _, madeCells #[.int .i64 0] (n + 1), rfl, ⟨(by repeat (first | with_reducible assumption | (refine heap_drewp ?_) | (refine heap_at ?_; (first | rfl | (simp; done) | (simp; omega))) | (refine heap_past ?_ ?_; (next => first | omega | (simp; done) | (simp; omega))))), by simp, by omega⟩, by omega, by unfold maxLen; omega, by simp [size_madeCells], by simp [toList_madeCells_one]⟩⟩⟩
  case rest =>
    obtain ⟨g, r, tag, rfl, hB, hb0, hb1, hg, hrow⟩ := hcut
    clear hmk
    have e3 : wc.cell? ⟨w.heap.size, 3, none⟩ = some (.slice a es.length cap) := hb0.cell 3
    go_wp2_with fail
    clear e3
    go_loopw [16] (fun j wr => ∃ (k : Nat) (tag : Nat → Nat), k ≤ es.length ∧ j = .int .i64 k ∧ Below w.heap.size w wr ∧
      Own wr w.heap.size tag 0 w.heap.size #[.slice aa la ca, .int .i64 n, .slice am lm cm, .slice a es.length cap] 31 ∧
      Own wr w.heap.size tag 0 (w.heap.size + 1) #[.slice none 0 0, .int .i64 0, .slice none 0 0, .slice none 0 0, .slice none 0 0] 80 ∧
      Own wr w.heap.size tag 0 g #[.slice aa la ca, .int .i64 n, .slice am lm cm, .slice a es.length cap, .slice (some ⟨r, 0, none⟩) (n + 1) (n + 1)] 80 ∧
      Row wr w.heap.size tag 1 3 1 (.slice (some ⟨r, 0, none⟩) (n + 1) (n + 1)) (n + 1) (ints (cnt1 n (es.take k)))) (fun j _ => es.length - (intOf j).toNat)
    case atStart => exact ⟨0, tag, Nat.zero_le _, rfl, hB, hb0, hb1, hg, by rw [List.take_zero, cnt1_nil]; exact hrow⟩
    case round =>
      clear hB hb0 hb1 hg hrow
      obtain ⟨k, tag, hk, rfl, hB, hb0, hb1, hg, hrow⟩ := hrel
      by_cases hlt : k < es.length
      · obtain ⟨b, off, rfl, c0, c1, c2⟩ := hr.at_edge k hlt
        obtain ⟨hx0, hx1⟩ := Hin.out es[k] (List.getElem_mem hlt)
        replace c0 := keep0 hB c0
        replace c1 := keep0 hB c1
        replace c2 := keep0 hB c2
        obtain ⟨c, d0, d1, d2, d3⟩ := cnt1_snoc n (es.take k) es[k] hx0 hx1
        have hlk : (es.take k).length ≤ 1000000 := by simp; omega
        have hgl := hg.lt
        have e4 : wr.cell? ⟨g, 4, none⟩ = some (.slice (some ⟨r, 0, none⟩) (n + 1) (n + 1)) := hg.cell 4
        have e5 := hrow.cellAt (es[k].f + 1).toNat (by omega)
        rw [d2, Nat.zero_add] at e5
        have e6 := hrow.frozenAt (es[k].f + 1).toNat
        obtain ⟨_, _, _, e7, hrl, _⟩ := hrow.addr (by omega)
        cases e7
        have hst := hrow.set (es[k].f + 1).toNat (.int .i64 (c + 1))
        rw [Nat.zero_add, ← d3, ← take_snoc es k hlt] at hst
        have Hst := Lib.hid hst
        clear d2 d3 hst
        go_wp2
        go_roundw
        case rel => exact ⟨k + 1, tag, by omega, by go_num, (belTurn hB Hst.out.2 hB.size).alloc (by simp; exact hB.size) _, (hb0.turn Hst.out.2 (by decide)).below (bel_alloc _ _), (hb1.turn Hst.out.2 (by decide)).below (bel_alloc _ _), (hg.turn Hst.out.2 (by decide)).below (bel_alloc _ _), Hst.out.1.below (bel_alloc _ _)⟩
        case measure => simp [intOf]; omega
      · obtain rfl : k = es.length := by omega
        rw [List.take_length] at hrow
        have e1 : wr.cell? ⟨w.heap.size, 1, none⟩ = some (.int .i64 n) := hb0.cell 1
        rw [← cnt2_zero n es (fun x hx => (Hin.out x hx).1)] at hrow
        go_wp2_with fail
        clear e1
        go_loopw [32] (fun j wr => ∃ (k : Nat) (tag : Nat → Nat), k ≤ n ∧ j = .int .i64 k ∧ Below w.heap.size w wr ∧
          Own wr w.heap.size tag 0 (w.heap.size + 1) #[.slice none 0 0, .int .i64 0, .slice none 0 0, .slice none 0 0, .slice none 0 0] 80 ∧
          Own wr w.heap.size tag 0 g #[.slice aa la ca, .int .i64 n, .slice am lm cm, .slice a es.length cap, .slice (some ⟨r, 0, none⟩) (n + 1) (n + 1)] 80 ∧
          Row wr w.heap.size tag 1 3 1 (.slice (some ⟨r, 0, none⟩) (n + 1) (n + 1)) (n + 1) (ints (cnt2 n es k))) (fun j _ => n - (intOf j).toNat)
        case atStart => exact ⟨0, tag, Nat.zero_le _, rfl, hB, hb1, hg, hrow⟩
        case round =>
          clear hB hb0 hb1 hg hrow
          obtain ⟨k, tag, hk, rfl, hB, hb1, hg, hrow⟩ := hrel
          by_cases hlt : k < n
          · obtain ⟨c, d, d0, d1, d2, d3, d4, d5, d6⟩ := cnt2_step n es k hlt
            have hgl := hg.lt
            have e4 : wr.cell? ⟨g, 4, none⟩ = some (.slice (some ⟨r, 0, none⟩) (n + 1) (n + 1)) := hg.cell 4
            have e5 := hrow.cellAt (k + 1) (by omega)
            have e6 := hrow.cellAt k (by omega)
            rw [d4, Nat.zero_add] at e5
            rw [d5, Nat.zero_add] at e6
            have e7 := hrow.frozenAt (k + 1)
            obtain ⟨_, _, _, e8, hrl, _⟩ := hrow.addr (by omega)
            cases e8
            have hst := hrow.set (k + 1) (.int .i64 (c + d))
            rw [Nat.zero_add, ← d6] at hst
            have Hst := Lib.hid hst
            clear d4 d5 d6 hst
            go_wp2
            go_region
            go_wp2
            go_roundw
            case rel => exact ⟨k + 1, tag, by omega, by go_num, (belTurn hB Hst.out.2 hB.size).drew, (hb1.turn Hst.out.2 (by decide)).below (bel_drew _), (hg.turn Hst.out.2 (by decide)).below (bel_drew _), Hst.out.1.below (bel_drew _)⟩
            case measure => simp [intOf]; omega
          · obtain rfl : n = k := by omega
            have g0 : wr.cell? ⟨g, 0, none⟩ = some (Value.slice aa la ca) := hg.cell 0
            have g1 : wr.cell? ⟨g, 1, none⟩ = some (Value.int .i64 n) := hg.cell 1
            have g2 : wr.cell? ⟨g, 2, none⟩ = some (Value.slice am lm cm) := hg.cell 2
            have g3 : wr.cell? ⟨g, 3, none⟩ = some (Value.slice a es.length cap) := hg.cell 3
            have g4 : wr.cell? ⟨g, 4, none⟩ = some (Value.slice (some ⟨r, 0, none⟩) (n + 1) (n + 1)) := hg.cell 4
            have z0 : wr.cell? ⟨w.heap.size + 1, 0, none⟩ = some (Value.slice none 0 0) := hb1.cell 0
            have y0 := hb1.frozen 0
            have z1 : wr.cell? ⟨w.heap.size + 1, 1, none⟩ = some (Value.int .i64 0) := hb1.cell 1
            have y1 := hb1.frozen 1
            have z2 : wr.cell? ⟨w.heap.size + 1, 2, none⟩ = some (Value.slice none 0 0) := hb1.cell 2
            have y2 := hb1.frozen 2
            have z3 : wr.cell? ⟨w.heap.size + 1, 3, none⟩ = some (Value.slice none 0 0) := hb1.cell 3
            have y3 := hb1.frozen 3
            have z4 : wr.cell? ⟨w.heap.size + 1, 4, none⟩ = some (Value.slice none 0 0) := hb1.cell 4
            have y4 := hb1.frozen 4
            go_wp2
            have t0 := Turn.setCell hb1 0 (Value.slice aa la ca)
            have b0 := hb1.set 0 (Value.slice aa la ca)
            have t1 := Turn.setCell b0 1 (Value.int .i64 n)
            have b1 := b0.set 1 (Value.int .i64 n)
            have t2 := Turn.setCell b1 2 (Value.slice am lm cm)
            have b2 := b1.set 2 (Value.slice am lm cm)
            have t3 := Turn.setCell b2 3 (Value.slice a es.length cap)
            have b3 := b2.set 3 (Value.slice a es.length cap)
            have t4 := Turn.setCell b3 4 (Value.slice (some ⟨r, 0, none⟩) (n + 1) (n + 1))
            have b4 := b3.set 4 (Value.slice (some ⟨r, 0, none⟩) (n + 1) (n + 1))
            have T := t0.trans (t1.trans (t2.trans (t3.trans t4)))
            have hrow' := hrow.turn T (by decide)
            rw [cnt2_last] at hrow'
            exact bodyPost_ret (v := .agg #[.slice aa la ca, .int .i64 n, .slice am lm cm, .slice a es.length cap, .slice (some ⟨r, 0, none⟩) (n + 1) (n + 1)]) (by simp [results, Try.results48, go_sem, z0, z1, z2, z3, z4]) rfl ⟨_, rfl, ⟨_, _, _, rfl, hrow'⟩, belTurn hB T hB.size⟩
end Go.Proofs.Ythchkddhibhenaa

