/- Texts joined: IterB, Marks, Edges, PathInv, PathFn, Word, BfsSpec, RowStep, BackFn. Each is introduced by its own sentence. -/
import Derived.RangeFuncBound
import Derived.RangeFuncCalls
import Derived.RangeFuncLeaves
import Derived.RangeFuncNested
import Derived.Shelf.Abstract
import Derived.Deep.RegionLaw
import Derived.Deep.LoopGhost
import Derived.Test.YthchkddhibhenaaRS1
import Derived.Test.YthchkddhibhenaaRS2
import Derived.Test.YthchkddhibhenaaRS3
/- The contract of the iterator over the edges of a state, where there is none. -/
namespace Go.Proofs.Ythchkddhibhenaa
open Go.RowKit Go.Shelf
attribute [local go_sem] Oper.semAt_some

set_option maxRecDepth 100000 in
set_option maxHeartbeats 2000000 in
theorem edges0_in {α : Type} (l bg bs : Nat) (ae : Option Addr) (ce lf cf : Nat) (s : Int) (es : List Ed) (lo : Nat) (hhi : lo ≤ es.length) (hl : es.length ≤ 1000000)
    (J : List α → World → Prop) (W : World) (habJ : AbidesFrom W.heap.size J)
    (hs0 : 0 ≤ s) (hs1 : s + 1 < lf)
    (bf offf : Nat) (hg3 : W.cell? ⟨bg, 3, none⟩ = some (.slice ae es.length ce)) (hg4 : W.cell? ⟨bg, 4, none⟩ = some (.slice (some ⟨bf, offf, none⟩) lf cf)) (hs : W.cell? ⟨bs, 0, none⟩ = some (.int .i64 s)) (hlf : lf ≤ 1000001) (hf0 : W.cell? ⟨bf, offf + s.toNat, none⟩ = some (.int .i64 lo)) (hf1 : W.cell? ⟨bf, offf + (s + 1).toNat, none⟩ = some (.int .i64 lo))
    (hre : RdS W 3 ae es.length ce (edCells es)) (h0 : J [] W) :
    CallsIn Fence.wide 3 Try.prog 84 #[.func (.yield l) #[] #[], .pointer (some ⟨bg, 0, none⟩), .pointer (some ⟨bs, 0, none⟩)] W fun e W' => (∃ v, e = .returned v) ∧ J [] W' := by
  have hD := habJ [] W W.drew none h0 ⟨rfl, rfl, rfl, Nat.le_refl _, fun _ _ _ => rfl⟩ (fun r e => (by cases e))
  have HD := Lib.hid hD
  clear hD h0 habJ
  have w1 : IntKind.i64.wrap (s + 1) = s + 1 := IntWalk.i64_in _ (by omega)
  have hcap := hre.hcap
  refine callsIn_of_wp Try.func84 rfl trivial ?_ rfl
  simp only [Try.ntmps84, List.size_toArray, List.length_cons, List.length_nil, Nat.reduceAdd, Nat.reduceSub, Array.replicate_succ, Array.replicate_zero, List.push_toArray, List.append_toArray, List.nil_append, List.cons_append]
  cases ae with
  | none =>
    obtain rfl : ce = 0 := hre.hnil rfl
    have h1 : es = [] := List.eq_nil_of_length_eq_zero (by omega)
    subst h1
    obtain rfl : lo = 0 := by simpa using hhi
    simp only [List.length_nil] at hg3
    clear hre
    gi_wp2_with fail
    gi_region
    gi_wp2
    gi_loopw [22] (fun i wr => i = .int .i64 0 ∧ J [] wr) (fun i _ => 0)
    case atStart => exact ⟨rfl, HD.out⟩
    case round =>
      obtain ⟨rfl, hJ⟩ := hrel
      gi_wp2
      go_end0
      exact ⟨⟨_, rfl⟩, hJ⟩
  | some ad =>
    obtain ⟨be, offe, sp⟩ := ad
    obtain rfl : sp = none := hre.spot _ rfl
    clear hre
    by_cases hne : ce = lo
    all_goals
      gi_wp2_with fail
      gi_region
      gi_wp2
      gi_loopw [22] (fun i wr => i = .int .i64 0 ∧ J [] wr) (fun i _ => 0)
      case atStart => exact ⟨rfl, HD.out⟩
      case round =>
        obtain ⟨rfl, hJ⟩ := hrel
        gi_wp2
        go_end0
        exact ⟨⟨_, rfl⟩, hJ⟩
end Go.Proofs.Ythchkddhibhenaa

/- The marks that a range over a function leaves; a function that leaves with marks. -/
namespace Go.Proofs.Ythchkddhibhenaa
open Go.RowKit Go.Shelf

theorem keepsBelow {B : Nat} {w w' : World} (h : Below w.heap.size w w') : KeepsFrom B w w' := ⟨h.size, fun k _ _ hk _ => (h.block k (Array.getElem?_eq_some_iff.1 hk).1).trans hk⟩
theorem keepsTurn {B B' : Nat} {w w' : World} {tag tag' : Nat → Nat} {k : Nat} (h : Turn B' tag tag' k w w') : KeepsFrom B w w' := ⟨h.size, fun b o _ hb hc => h.keep b o hb hc⟩

/-- The mark that a range over a function leaves among the deferred calls. -/
def mark (D : Nat) : Deferred := { target := .collected D, args := #[] }
/-- All deferred calls are such marks, still open, in blocks from B on. -/
def Marks (B : Nat) (w : World) (ds : List Deferred) : Prop := ∃ Ds : List Nat, ds = Ds.map mark ∧ Ds.Nodup ∧ ∀ D ∈ Ds, B ≤ D ∧ w.heap[D]? = some (.deferred (some []))
/-- All cells are as they were; below B all is. -/
structure Quiet (B : Nat) (w w' : World) : Prop where
  below : Below B w w'
  cells : ∀ (b : Nat) (cs : Array Value) (t : TypeId) (fr : Nat × Nat), w.heap[b]? = some (Obj.cells cs t fr) → w'.heap[b]? = some (Obj.cells cs t fr)
theorem Quiet.refl (B : Nat) (w : World) : Quiet B w w := ⟨Below.refl _ _, fun _ _ _ _ h => h⟩
theorem Quiet.trans {B : Nat} {a b c : World} (h : Quiet B a b) (k : Quiet B b c) : Quiet B a c := ⟨h.below.trans k.below, fun b cs t fr hb => k.cells b cs t fr (h.cells b cs t fr hb)⟩
theorem Quiet.row {w w' : World} {B B' : Nat} {tag : Nat → Nat} {k : Nat} {t : TypeId} {sz : Nat} {v : Value} {n : Nat} {cs : List Value} (hq : Quiet B w w') (h : Row w B' tag k t sz v n cs) : Row w' B' tag k t sz v n cs :=
  ⟨h.1, h.2.imp id fun ⟨b, off, cap, cur, h1, h2, h3⟩ => ⟨b, off, cap, cur, h1, ⟨hq.cells _ _ _ _ h2.heap, h2.htag, h2.base⟩, h3⟩⟩
theorem Quiet.own {w w' : World} {B B' : Nat} {tag : Nat → Nat} {k b : Nat} {cs : Array Value} {t : TypeId} (hq : Quiet B w w') (h : Own w B' tag k b cs t) : Own w' B' tag k b cs t := ⟨hq.cells _ _ _ _ h.heap, h.htag, h.base⟩
theorem Marks.nil (B : Nat) (w : World) : Marks B w [] := ⟨[], rfl, List.nodup_nil, fun _ h => by cases h⟩
theorem Marks.turn {B B' : Nat} {w w' : World} {tag tag' : Nat → Nat} {k : Nat} {ds : List Deferred} (h : Marks B w ds) (ht : Turn B' tag tag' k w w') : Marks B w' ds := by
  obtain ⟨Ds, h1, h2, h3⟩ := h
  exact ⟨Ds, h1, h2, fun D hD => ⟨(h3 D hD).1, ht.keep _ _ (h3 D hD).2 rfl⟩⟩
theorem Marks.below {B : Nat} {w w' : World} {ds : List Deferred} (h : Marks B w ds) (hb : Below w.heap.size w w') : Marks B w' ds :=
  h.turn (Turn.below (B := 0) (tag := fun _ => 0) (k := 0) hb)
theorem Marks.keeps {B s : Nat} {w w' : World} {ds : List Deferred} (h : Marks B w ds) (hk : ∀ (b : Nat) (o : Obj), w.heap[b]? = some o → o.isCells = false → b < s → w'.heap[b]? = some o) (hs : w.heap.size ≤ s) : Marks B w' ds := by
  obtain ⟨Ds, h1, h2, h3⟩ := h
  exact ⟨Ds, h1, h2, fun D hD => ⟨(h3 D hD).1, hk _ _ (h3 D hD).2 rfl (Nat.lt_of_lt_of_le (Array.getElem?_eq_some_iff.1 (h3 D hD).2).1 hs)⟩⟩
theorem Marks.cons {B s D : Nat} {w : World} {ds : List Deferred} (h : Marks B w ds) (hs : ∀ D', mark D' ∈ ds → D' < s) (hD : s ≤ D) (hB : B ≤ D) (hd : w.heap[D]? = some (.deferred (some []))) : Marks B w (mark D :: ds) := by
  obtain ⟨Ds, rfl, h2, h3⟩ := h
  refine ⟨D :: Ds, rfl, List.nodup_cons.2 ⟨fun hm => ?_, h2⟩, fun D' hD' => ?_⟩
  · have := hs D (List.mem_map.2 ⟨D, hm, rfl⟩); omega
  · rcases List.mem_cons.1 hD' with rfl | h4
    · exact ⟨hB, hd⟩
    · exact h3 D' h4
theorem Marks.lt {B D : Nat} {w : World} {ds : List Deferred} (h : Marks B w ds) (hm : mark D ∈ ds) : D < w.heap.size := by
  obtain ⟨Ds, rfl, h2, h3⟩ := h
  obtain ⟨D', h4, h5⟩ := List.mem_map.1 hm
  cases h5
  exact (Array.getElem?_eq_some_iff.1 (h3 _ h4).2).1

theorem leavesM {F : Fence} {n : Nat} {P : Program} {fn : Func} {tmps : Array Value} {R : Ending → World → Prop} {B : Nat} : ∀ (Ds : List Nat) (w : World), Ds.Nodup → (∀ D ∈ Ds, B ≤ D ∧ w.heap[D]? = some (.deferred (some []))) →
    (∀ w', Quiet B w w' → ∃ v, (results fn tmps).run P w' = .ok v w' ∧ R (.returned v) w') → LeavesInM F n P fn tmps R (Ds.map mark) .returning w
  | [], w, _, _, hfin => hfin w (Quiet.refl _ _)
  | D :: Ds, w, hnd, hD, hfin => by
    obtain ⟨hB, hd⟩ := hD D (List.mem_cons_self ..)
    have hlt := (Array.getElem?_eq_some_iff.1 hd).1
    have hq : Quiet B w (w.putObj D (.deferred none)) := by
      refine ⟨(Below.refl B w).grown (grownBy_putObj' w D _) (by omega) (fun k e => by cases e; exact hB), fun b cs t fr h => ?_⟩
      rw [World.putObj_heap_other ?_, h]
      rintro rfl
      rw [hd] at h; cases h
    refine ⟨by simp, .inl ⟨D, _, rfl, run_takeDeferred hd, leavesM Ds _ (List.nodup_cons.1 hnd).2 (fun D' hD' => ⟨(hD D' (List.mem_cons_of_mem _ hD')).1, ?_⟩) fun w' hw' => hfin w' (hq.trans hw')⟩⟩
    rw [World.putObj_heap_other ?_]
    · exact (hD D' (List.mem_cons_of_mem _ hD')).2
    · rintro rfl; exact (List.nodup_cons.1 hnd).1 hD'
/-- A function that leaves with marks. -/
theorem bodyPostM_ret {n : Nat} {P : Program} {fn : Func} {R : Ending → World → Prop} {B : Nat} {tmps : Array Value} {ds : List Deferred} {w : World} (hM : Marks B w ds)
    (hfin : ∀ w', Quiet B w w' → ∃ v, (results fn tmps).run P w' = .ok v w' ∧ R (.returned v) w') : bodyPostM Fence.wide n P fn R .ret { tmps := tmps, defers := ds } w := by
  obtain ⟨Ds, rfl, h2, h3⟩ := hM
  exact leavesM Ds w h2 h3 hfin
theorem bodyPostM_end {n : Nat} {P : Program} {fn : Func} {R : Ending → World → Prop} {B : Nat} {tmps : Array Value} {ds : List Deferred} {w : World} (hM : Marks B w ds)
    (hfin : ∀ w', Quiet B w w' → ∃ v, (results fn tmps).run P w' = .ok v w' ∧ R (.returned v) w') : bodyPostM Fence.wide n P fn R .normal { tmps := tmps, defers := ds } w := by
  obtain ⟨Ds, rfl, h2, h3⟩ := hM
  exact leavesM Ds w h2 h3 hfin

/-- A contract out of a body that may leave with marks. -/
theorem calls_of_marks {P : Program} {f : FuncId} {fn : Func} {c : Code} {args : Array Value} {w : World} {R : Ending → World → Prop} (hf : P.funcs[f]? = some fn) (hb : fn.body = some c)
    (h : c.wp P (bodyPostM Fence.wide 4 P fn R) { tmps := args ++ Array.replicate (fn.ntmps - args.size) undef, defers := [] } w) : Calls P f args w R :=
  (callsIn_wide (n := 4)).1 (callsIn_of_wp_marks hf hb trivial (wpIn_wide.2 h) rfl)
end Go.Proofs.Ythchkddhibhenaa

/- Ranging over the edges of a state: the law for the caller; the marks that it leaves; a function that leaves with marks. -/
namespace Go.Proofs.Ythchkddhibhenaa
open Go.RowKit Go.Shelf

theorem edges_any (aa am ae af : Option Addr) (la lm le lf ca cm ce cf : Nat) (n s : Int) (w : World) :
    Calls Try.prog 68 #[.agg #[.slice aa la ca, .int .i64 n, .slice am lm cm, .slice ae le ce, .slice af lf cf], .int .i64 s] w fun e w' =>
      e = .returned (.func (.func 84) #[] #[.pointer (some ⟨w.heap.size, 0, none⟩), .pointer (some ⟨w.heap.size + 1, 0, none⟩)]) ∧
      w' = (w.alloc (.cells #[.slice aa la ca, .int .i64 n, .slice am lm cm, .slice ae le ce, .slice af lf cf] 80)).alloc (.cells #[.int .i64 s] 3) := by
  have hmf : ∀ (fn : Fn) (first cap : Array Value) (w : World), (Instr.makeFunc fn first cap).run Try.prog w = .ok (.func fn first cap) w := fun _ _ _ _ => rfl
  go_enter Try.func68, Try.ntmps68
  go_wp2
  go_ret
  exact ⟨rfl, rfl⟩

/-- The edges of a part of the list. -/
def edSub (es : List Ed) (lo hi : Nat) : List Ed := (es.drop lo).take (hi - lo)

theorem edges_stops (bg bs n₀ : Nat) (ae af : Option Addr) (ce lf cf : Nat) (s : Int) (es : List Ed) (lo hi : Nat) (hlo : lo ≤ hi) (hhi : hi ≤ es.length) (hl : es.length ≤ 1000000) (w : World) (hn0 : n₀ ≤ w.heap.size)
    (hg3 : w.cell? ⟨bg, 3, none⟩ = some (.slice ae es.length ce)) (hg4 : w.cell? ⟨bg, 4, none⟩ = some (.slice af lf cf)) (hs : w.cell? ⟨bs, 0, none⟩ = some (.int .i64 s)) (hs0 : 0 ≤ s) (hs1 : s + 1 < lf)
    (bf offf : Nat) (haf : af = some ⟨bf, offf, none⟩) (hlf : lf ≤ 1000001) (hf0 : w.cell? ⟨bf, offf + s.toNat, none⟩ = some (.int .i64 lo)) (hf1 : w.cell? ⟨bf, offf + (s + 1).toNat, none⟩ = some (.int .i64 hi))
    (hre : RdS w 3 ae es.length ce (edCells es)) (hbe : 0 < es.length → ∀ ad, ae = some ad → ad.block < n₀) :
    SeqStopsK Fence.wide 3 Try.prog 84 #[.pointer (some ⟨bg, 0, none⟩), .pointer (some ⟨bs, 0, none⟩)] (edEnc (sub := edSub es lo hi)) (Below n₀) (fun ys => ys.map (·.1) = edSub es lo hi) (fun _ => True) (hi - lo) w := by
  intro l J Jx W hW hJ hJx hY h0
  by_cases h : lo < hi
  · have hb := edges1_in l bg bs n₀ ae af ce lf cf s es lo hi h hhi hl J Jx W hJ (Nat.le_trans hn0 hW.size) hY (keep0 hW hg3) (keep0 hW hg4) (keep0 hW hs) hs0 hs1 bf offf haf hlf (keep0 hW hf0) (keep0 hW hf1) (hre.mono hW) (hbe (by omega)) h0
    refine hb.mono ?_
    rintro e W' ⟨h1, h2⟩
    exact ⟨h1, h2.imp id fun ⟨pre, hp⟩ => ⟨pre, trivial, hp⟩⟩
  · obtain rfl : lo = hi := by omega
    subst haf
    have hb := edges0_in l bg bs ae ce lf cf s es lo hhi hl J W hJ hs0 hs1 bf offf (keep0 hW hg3) (keep0 hW hg4) (keep0 hW hs) hlf (keep0 hW hf0) (keep0 hW hf1) (hre.mono hW) h0
    refine hb.mono ?_
    rintro e W' ⟨h1, h2⟩
    exact ⟨h1, .inl ⟨[], by simp [edSub], h2⟩⟩


theorem wp_edges {g : Operand} {ps : Array Tmp} {assign body : Code} {Q : Exit → Act → World → Prop} {a : Act} {w : World} {bg bs n₀ N : Nat} {sub : List Ed} {w0 : World}
    (hg : a.eval g = .func (.func 84) #[] #[.pointer (some ⟨bg, 0, none⟩), .pointer (some ⟨bs, 0, none⟩)])
    (hseq : SeqStopsK Fence.wide 3 Try.prog 84 #[.pointer (some ⟨bg, 0, none⟩), .pointer (some ⟨bs, 0, none⟩)] (edEnc (sub := sub)) (Below n₀) (fun ys => ys.map (·.1) = sub) (fun _ => True) N w0)
    (hb0 : Below w0.heap.size w0 w) (hn0 : n₀ ≤ w.heap.size) (hps : ps.size = 1)
    (I : List Ed → World → Prop) (hI : OwnFrom w.heap.size I) (h0 : I [] w) (Ax : Ed → Act → World → Prop) (hAx : ∀ x a', OwnFrom w.heap.size (fun (_ : Unit) W => Ax x a' W))
    (hassign : ∀ (l : Nat) (pre : List Ed) (x : Ed) (W : World) (K : Act → World → Prop), x ∈ sub → I pre W → (∀ a' W', KeepsFrom w.heap.size W W' → Below n₀ W W' → I pre W' → Ax x a' W' → K a' W') →
      assign.wpIn (Fence.wide.inRound l) 2 Try.prog (Exit.then K (fun _ _ _ => False)) { tmps := (ps.zip #[x.val]).foldl (fun t (p, v) => t.setIfInBounds p v) a.tmps, defers := [] } W)
    (hbody : ∀ (l : Nat) (pre : List Ed) (x : Ed) (a' : Act) (W : World), x ∈ sub → w.heap.size ≤ l → I pre W → Ax x a' W →
      body.wpIn (Fence.wide.inRound l) 2 Try.prog (ownPostG w.heap.size (Below n₀) I (fun _ _ _ => False) (pre ++ [x]) W) a' W)
    (hdone : ∀ (D : Nat) (W : World), w.heap.size ≤ D → I sub W → W.heap[D]? = some (.deferred (some [])) → Q .normal { a with defers := mark D :: a.defers } W) :
    (Code.rangeFunc g ps assign body).wp Try.prog Q a w := by
  refine wpIn_wide.1 (wpIn_rangeFunc_ownH (n := 4) rfl (by decide) hg trivial (enters_of Try.func84 (by kernel_rfl) rfl) hseq belowK_t (belowK_b hn0) hb0 (fun _ => by simp [edEnc, hps])
    (fun (pre : List { x : Ed // x ∈ sub }) W => I (pre.map (fun y => y.1)) W) (fun _ _ _ => False) (fun pre W W' row h1 h2 h3 => hI (pre.map (fun y => y.1)) W W' row h1 h2 h3) (fun _ _ _ _ _ h _ _ => h) h0 (fun x a' W => Ax x.1 a' W) (fun x a' => hAx x.1 a')
    (fun l pre x W K hi hK => hassign l (pre.map (fun y => y.1)) x.1 W K x.2 hi hK) (fun l pre x a' W hl _ hi hax _ => ?_) (fun D ys W hD hS hi hd => ?_) (fun _ _ _ _ _ _ h => h.elim))
  · have := hbody l (pre.map (fun y => y.1)) x.1 a' W x.2 hl hi hax
    refine wpIn_mono this ?_
    intro e a2 W2 h2
    cases e <;> simp only [ownPostG] at h2 ⊢
    · exact ⟨h2.1, h2.2.1, by rw [List.map_append]; exact h2.2.2⟩
    all_goals exact h2
  · exact hdone D W hD (by rw [← hS]; exact hi) hd
end Go.Proofs.Ythchkddhibhenaa

/- What holds while path searches: its boxes and rows. -/
namespace Go.Proofs.Ythchkddhibhenaa
open Go.RowKit Go.Shelf

/-- A step of a search: a state, the place of the step before, the event. -/
structure St where
  s : Int
  p : Int
  e : Int
def St.cells (x : St) : List Value := [.int .i64 x.s, .int .i64 x.p, .int .i64 x.e]
abbrev stCells (l : List St) : List Value := l.flatMap St.cells
theorem stCells_length (l : List St) : (stCells l).length = l.length * 3 := flat_length St.cells 3 (fun _ => rfl) l

/-- A turn of blocks that are no cells leaves what is owned. -/
theorem Own.others {w w' : World} {B : Nat} {tag : Nat → Nat} {k b : Nat} {cs : Array Value} {t : TypeId} {row : Option Nat} (h : Own w B tag k b cs t) (hg : w.grownBy w' row) (hr : ∀ r, row = some r → ∃ o : Obj, w.heap[r]? = some o ∧ o.isCells = false) : Own w' B tag k b cs t := by
  refine ⟨(hg.block b h.lt (fun e => ?_)).trans h.heap, h.htag, h.base⟩
  obtain ⟨o, ho, hc⟩ := hr b e.symm
  rw [h.heap] at ho
  cases ho
  cases hc
theorem Row.others {w w' : World} {B : Nat} {tag : Nat → Nat} {k : Nat} {t : TypeId} {sz : Nat} {v : Value} {n : Nat} {cs : List Value} {row : Option Nat} (h : Row w B tag k t sz v n cs) (hg : w.grownBy w' row) (hr : ∀ r, row = some r → ∃ o : Obj, w.heap[r]? = some o ∧ o.isCells = false) : Row w' B tag k t sz v n cs :=
  ⟨h.1, h.2.imp id fun ⟨b, off, cap, cur, h1, h2, h3⟩ => ⟨b, off, cap, cur, h1, h2.others hg hr, h3⟩⟩
theorem Marks.others {w w' : World} {B s : Nat} {ds : List Deferred} {row : Option Nat} (h : Marks B w ds) (hs : ∀ D, mark D ∈ ds → D < s) (hg : w.grownBy w' row) (hr : ∀ r, row = some r → s ≤ r) : Marks B w' ds := by
  obtain ⟨Ds, rfl, h2, h3⟩ := h
  refine ⟨Ds, rfl, h2, fun D hD => ⟨(h3 D hD).1, (hg.block D (Array.getElem?_eq_some_iff.1 (h3 D hD).2).1 (fun e => ?_)).trans (h3 D hD).2⟩⟩
  have := hs D (List.mem_map.2 ⟨D, hD, rfl⟩)
  have := hr D e.symm
  omega
theorem belOthers {a w w' : World} {B s : Nat} {row : Option Nat} (h : Below B a w) (hg : w.grownBy w' row) (hB : B ≤ w.heap.size) (hs : B ≤ s) (hr : ∀ r, row = some r → s ≤ r) : Below B a w' :=
  h.grown hg hB (fun k e => Nat.le_trans hs (hr k e))

/-- Another block is told apart by the type of its cells. -/
theorem Own.retag {w : World} {B : Nat} {tag : Nat → Nat} {k b : Nat} {cs : Array Value} {t : TypeId} (h : Own w B tag k b cs t) {bx kx : Nat} {cx : Array Value} {tx : TypeId} (hx : w.heap[bx]? = some (.cells cx tx (0, 0))) (ht : t ≠ tx) : Own w B (tagUp tag bx kx) k b cs t := by
  refine ⟨h.heap, ?_, h.base⟩
  unfold tagUp
  rw [if_neg ?_]
  · exact h.htag
  · rintro rfl
    rw [h.heap] at hx
    cases hx
    exact ht rfl
theorem Row.retag {w : World} {B : Nat} {tag : Nat → Nat} {k : Nat} {t : TypeId} {sz : Nat} {v : Value} {n : Nat} {cs : List Value} (h : Row w B tag k t sz v n cs) {bx kx : Nat} {cx : Array Value} {tx : TypeId} (hx : w.heap[bx]? = some (.cells cx tx (0, 0))) (ht : t ≠ tx) : Row w B (tagUp tag bx kx) k t sz v n cs :=
  ⟨h.1, h.2.imp id fun ⟨b, off, cap, cur, h1, h2, h3⟩ => ⟨b, off, cap, cur, h1, h2.retag hx ht, h3⟩⟩

structure PInv (w : World) (G : Array Value) (FP : Value) (n : Nat) (ds : List Deferred) (wr : World) (tag : Nat → Nat) (bi i : Nat) (vs : Value) (seen : List Bool) (steps : List St) : Prop where
  below : Below w.heap.size w wr
  marks : Marks w.heap.size wr ds
  g : Own wr w.heap.size tag 0 w.heap.size G 80
  fp : Own wr w.heap.size tag 0 (w.heap.size + 1) #[FP] 90
  sb : Own wr w.heap.size tag 3 (w.heap.size + 1 + 1 + 1) #[vs] 116
  st : Row wr w.heap.size tag 2 115 3 vs steps.length (stCells steps)
  eb : Own wr w.heap.size tag 0 (w.heap.size + 1 + 1 + 1 + 1 + 1) #[.slice (some ⟨w.heap.size + 1 + 1 + 1 + 1, 0, none⟩) n n] 86
  se : Row wr w.heap.size tag 1 4 1 (.slice (some ⟨w.heap.size + 1 + 1 + 1 + 1, 0, none⟩) n n) n (bools seen)
  ib : Own wr w.heap.size tag 4 bi #[.int .i64 i] 3

section
variable {w : World} {G : Array Value} {FP : Value} {n : Nat} {ds : List Deferred} {wr wr' : World} {tag tag' : Nat → Nat} {bi i : Nat} {vs : Value} {seen : List Bool} {steps : List St}
theorem PInv.size (h : PInv w G FP n ds wr tag bi i vs seen steps) : w.heap.size + 1 + 1 + 1 + 1 + 1 < wr.heap.size := h.eb.lt
theorem PInv.call (h : PInv w G FP n ds wr tag bi i vs seen steps) (hb : Below wr.heap.size wr wr') : PInv w G FP n ds wr' tag bi i vs seen steps :=
  ⟨belCall h.below hb h.below.size, h.marks.below hb, h.g.below hb, h.fp.below hb, h.sb.below hb, h.st.below hb, h.eb.below hb, h.se.below hb, h.ib.below hb⟩
theorem PInv.others {s : Nat} {row : Option Nat} (h : PInv w G FP n ds wr tag bi i vs seen steps) (hg : wr.grownBy wr' row) (hs : ∀ D, mark D ∈ ds → D < s) (hws : w.heap.size ≤ s) (hr : ∀ r, row = some r → s ≤ r ∧ ∃ o : Obj, wr.heap[r]? = some o ∧ o.isCells = false) : PInv w G FP n ds wr' tag bi i vs seen steps :=
  ⟨belOthers h.below hg h.below.size hws (fun r e => (hr r e).1), h.marks.others hs hg (fun r e => (hr r e).1), h.g.others hg (fun r e => (hr r e).2), h.fp.others hg (fun r e => (hr r e).2), h.sb.others hg (fun r e => (hr r e).2), h.st.others hg (fun r e => (hr r e).2), h.eb.others hg (fun r e => (hr r e).2), h.se.others hg (fun r e => (hr r e).2), h.ib.others hg (fun r e => (hr r e).2)⟩
theorem PInv.retag {bx : Nat} {cx : Array Value} (h : PInv w G FP n ds wr tag bi i vs seen steps) (hx : wr.heap[bx]? = some (.cells cx 45 (0, 0))) : PInv w G FP n ds wr (tagUp tag bx 5) bi i vs seen steps :=
  ⟨h.below, h.marks, h.g.retag hx (by decide), h.fp.retag hx (by decide), h.sb.retag hx (by decide), h.st.retag hx (by decide), h.eb.retag hx (by decide), h.se.retag hx (by decide), h.ib.retag hx (by decide)⟩
/-- A flag is set. -/
theorem PInv.setSeen (h : PInv w G FP n ds wr tag bi i vs seen steps) (j : Nat) : PInv w G FP n ds (wr.setCell ⟨w.heap.size + 1 + 1 + 1 + 1, j, none⟩ (.bool true)) tag bi i vs (seen.set j true) steps ∧ Turn w.heap.size tag tag 1 wr (wr.setCell ⟨w.heap.size + 1 + 1 + 1 + 1, j, none⟩ (.bool true)) := by
  have h1 := h.se.set j (.bool true)
  rw [Nat.zero_add] at h1
  refine ⟨⟨belTurn h.below h1.2 h.below.size, h.marks.turn h1.2, h.g.turn h1.2 (by decide), h.fp.turn h1.2 (by decide), h.sb.turn h1.2 (by decide), h.st.turn h1.2 (by decide), h.eb.turn h1.2 (by decide), ?_, h.ib.turn h1.2 (by decide)⟩, h1.2⟩
  have h2 := h1.1
  rwa [show bools (seen.set j true) = (bools seen).set j (.bool true) from List.map_set ..]
/-- The number in its box goes on. -/
theorem PInv.setI (h : PInv w G FP n ds wr tag bi i vs seen steps) (j : Nat) : PInv w G FP n ds (wr.setCell ⟨bi, 0, none⟩ (.int .i64 j)) tag bi j vs seen steps := by
  have h1 := Turn.setCell h.ib 0 (.int .i64 j)
  have h2 := h.ib.set 0 (.int .i64 j)
  exact ⟨belTurn h.below h1 h.below.size, h.marks.turn h1, h.g.turn h1 (by decide), h.fp.turn h1 (by decide), h.sb.turn h1 (by decide), h.st.turn h1 (by decide), h.eb.turn h1 (by decide), h.se.turn h1 (by decide), h2⟩
/-- A new box for the number. -/
theorem PInv.newI (h : PInv w G FP n ds wr tag bi i vs seen steps) (j : Nat) : PInv w G FP n ds (wr.alloc (.cells #[.int .i64 j] 3)) (tagUp tag wr.heap.size 4) wr.heap.size j vs seen steps := by
  have hb := bel_alloc wr (.cells #[.int .i64 j] 3)
  have ht : Turn w.heap.size tag (tagUp tag wr.heap.size 4) 9 wr (wr.alloc (.cells #[.int .i64 j] 3)) := { Turn.below (B := w.heap.size) (tag := tag) (k := 9) hb with tags := fun b hb => tagUp_lt hb }
  exact ⟨belTurn h.below ht h.below.size, h.marks.turn ht, h.g.turn ht (by decide), h.fp.turn ht (by decide), h.sb.turn ht (by decide), h.st.turn ht (by decide), h.eb.turn ht (by decide), h.se.turn ht (by decide), Own.new _ _ _ _ _ _ h.below.size (tagUp_at _ _ _)⟩
/-- A step more, and the box that holds the list. -/
theorem PInv.push {vs' : Value} {x : St} (h : PInv w G FP n ds wr tag bi i vs seen steps) (hr : Row wr' w.heap.size tag' 2 115 3 vs' (steps.length + 1) (stCells steps ++ x.cells)) (ht : Turn w.heap.size tag tag' 2 wr wr') :
    PInv w G FP n ds (wr'.setCell ⟨w.heap.size + 1 + 1 + 1, 0, none⟩ vs') tag' bi i vs' seen (steps ++ [x]) := by
  have hs := h.sb.turn ht (by decide)
  have h1 := Turn.setCell hs 0 vs'
  have h2 := hs.set 0 vs'
  have hB : w.heap.size ≤ wr'.heap.size := Nat.le_trans h.below.size ht.size
  exact ⟨belTurn (belTurn h.below ht h.below.size) h1 hB, (h.marks.turn ht).turn h1, (h.g.turn ht (by decide)).turn h1 (by decide), (h.fp.turn ht (by decide)).turn h1 (by decide), h2, by rw [List.length_append, show stCells (steps ++ [x]) = stCells steps ++ x.cells by simp [stCells]]; exact hr.turn h1 (by decide), (h.eb.turn ht (by decide)).turn h1 (by decide), (h.se.turn ht (by decide)).turn h1 (by decide), (h.ib.turn ht (by decide)).turn h1 (by decide)⟩
/-- What is of another tag turns. -/
theorem PInv.turn {k : Nat} (h : PInv w G FP n ds wr tag bi i vs seen steps) (ht : Turn w.heap.size tag tag' k wr wr') (hk : 4 < k) : PInv w G FP n ds wr' tag' bi i vs seen steps :=
  ⟨belTurn h.below ht h.below.size, h.marks.turn ht, h.g.turn ht (by omega), h.fp.turn ht (by omega), h.sb.turn ht (by omega), h.st.turn ht (by omega), h.eb.turn ht (by omega), h.se.turn ht (by omega), h.ib.turn ht (by omega)⟩
/-- Another mark. -/
theorem PInv.mark {s D : Nat} (h : PInv w G FP n ds wr tag bi i vs seen steps) (hs : ∀ D', Go.Proofs.Ythchkddhibhenaa.mark D' ∈ ds → D' < s) (hD : s ≤ D) (hB : w.heap.size ≤ s) (hd : wr.heap[D]? = some (.deferred (some []))) : PInv w G FP n (Go.Proofs.Ythchkddhibhenaa.mark D :: ds) wr tag bi i vs seen steps :=
  { h with marks := h.marks.cons hs hD (Nat.le_trans hB hD) hd }
end
/-- The cells of one step. -/
theorem Row.at_step {w : World} {B : Nat} {tag : Nat → Nat} {k : Nat} {t : TypeId} {v : Value} {l : List St} (h : Row w B tag k t 3 v l.length (stCells l)) (i : Nat) (hi : i < l.length) :
    ∃ b off cap, v = .slice (some ⟨b, off, none⟩) l.length cap ∧ b < w.heap.size ∧ w.cell? ⟨b, off + i * 3, none⟩ = some (.int .i64 l[i].s) ∧ w.cell? ⟨b, off + i * 3 + 1, none⟩ = some (.int .i64 l[i].p) ∧ w.cell? ⟨b, off + i * 3 + 2, none⟩ = some (.int .i64 l[i].e) := by
  obtain ⟨b, off, cap, rfl, hlt, _⟩ := h.addr (by omega)
  refine ⟨b, off, cap, rfl, hlt, ?_, ?_, ?_⟩
  · have := h.cellAt (i * 3 + 0) (by omega)
    rw [flat_at St.cells 3 (fun _ => rfl) l i 0 hi (by omega)] at this
    exact this
  · have := h.cellAt (i * 3 + 1) (by omega)
    rw [flat_at St.cells 3 (fun _ => rfl) l i 1 hi (by omega)] at this
    rw [Nat.add_assoc]; exact this
  · have := h.cellAt (i * 3 + 2) (by omega)
    rw [flat_at St.cells 3 (fun _ => rfl) l i 2 hi (by omega)] at this
    rw [Nat.add_assoc]; exact this
end Go.Proofs.Ythchkddhibhenaa

/- The search of path, as a plain function. -/
namespace Go.Proofs.Ythchkddhibhenaa

/-- How many edges begin before s. -/
def fstN (es : List Ed) (s : Int) : Nat := es.countP fun x => decide (x.f < s)
theorem fstN_le (es : List Ed) (s : Int) : fstN es s ≤ es.length := List.countP_le_length
theorem fstN_mono (es : List Ed) (s t : Int) (h : s ≤ t) : fstN es s ≤ fstN es t := by
  apply List.countP_mono_left
  intro x _ hx
  simp only [decide_eq_true_eq] at hx ⊢
  omega
theorem firsts_get (n : Nat) (es : List Ed) (s : Nat) (h : s ≤ n) : (ints (firsts n es))[s]? = some (.int .i64 (fstN es s)) := by
  rw [List.getElem?_map, firsts, List.getElem?_map, List.getElem?_range (by omega)]; rfl
/-- The edges of a state, as the graph gives them. -/
def subOf (es : List Ed) (s : Int) : List Ed := edSub es (fstN es s) (fstN es (s + 1))
theorem subOf_mem {es : List Ed} {s : Int} {x : Ed} (h : x ∈ subOf es s) : x ∈ es := List.mem_of_mem_drop (List.mem_of_mem_take h)

/-- An edge is looked at: acc has the flags and the steps. -/
def pStep (perm : Ed → Bool) (i : Nat) (acc : List Bool × List St) (x : Ed) : List Bool × List St :=
  if acc.1[x.t.toNat]?.getD true = false ∧ perm x = true then (acc.1.set x.t.toNat true, acc.2 ++ [⟨x.t, i, x.e⟩]) else acc
/-- The search: where it ends, and the steps. -/
def bfs (sub : Int → List Ed) (want : Int → Bool) (perm : Ed → Bool) : Nat → Nat → List Bool → List St → Option (List St × Nat)
  | 0, _, _, _ => none
  | f + 1, i, seen, steps => match steps[i]? with
    | none => none
    | some x => if want x.s = true then some (steps, i) else
      bfs sub want perm f (i + 1) ((sub x.s).foldl (pStep perm i) (seen, steps)).1 ((sub x.s).foldl (pStep perm i) (seen, steps)).2
/-- The events of the steps back from a place. -/
def back (steps : List St) : Nat → Int → List Int
  | 0, _ => []
  | f + 1, k => match steps[k.toNat]? with
    | none => []
    | some x => if 0 ≤ x.p then x.e :: back steps f x.p else []

structure POk (n : Nat) (seen : List Bool) (steps : List St) : Prop where
  len : seen.length = n
  count : steps.length = seen.count true
  range : ∀ x ∈ steps, 0 ≤ x.s ∧ x.s < n
  parent : ∀ j (h : j < steps.length), -1 ≤ steps[j].p ∧ steps[j].p < j

theorem count_set {l : List Bool} {j : Nat} (h : l[j]? = some false) : (l.set j true).count true = l.count true + 1 := by
  induction l generalizing j with
  | nil => simp at h
  | cons a l ih =>
    cases j with
    | zero => simp at h; subst h; simp
    | succ j =>
      simp at h
      rw [List.set_cons_succ, List.count_cons, List.count_cons, ih h]
      omega
theorem POk.le {n : Nat} {seen : List Bool} {steps : List St} (h : POk n seen steps) : steps.length ≤ n := by
  rw [h.count, ← h.len]; exact List.count_le_length
theorem POk.push {n i : Nat} {seen : List Bool} {steps : List St} (h : POk n seen steps) (hi : i < steps.length) (t e : Int) (h0 : 0 ≤ t) (h1 : t < n) (hs : seen[t.toNat]? = some false) : POk n (seen.set t.toNat true) (steps ++ [⟨t, i, e⟩]) := by
  refine ⟨by simp [h.len], by rw [List.length_append, count_set hs, h.count]; rfl, fun x hx => ?_, fun j hj => ?_⟩
  · rcases List.mem_append.1 hx with h2 | h2
    · exact h.range x h2
    · rw [List.mem_singleton.1 h2]; exact ⟨h0, h1⟩
  · by_cases hlt : j < steps.length
    · rw [List.getElem_append_left hlt]; exact h.parent j hlt
    · have : j = steps.length := by simp at hj; omega
      subst this
      simp only [List.getElem_append_right (Nat.le_refl _), Nat.sub_self, List.getElem_singleton]
      omega
theorem POk.step {n i : Nat} {perm : Ed → Bool} {seen : List Bool} {steps : List St} (h : POk n seen steps) (hi : i < steps.length) (x : Ed) (h0 : 0 ≤ x.t) (h1 : x.t < n) :
    POk n (pStep perm i (seen, steps) x).1 (pStep perm i (seen, steps) x).2 ∧ i < (pStep perm i (seen, steps) x).2.length := by
  unfold pStep
  dsimp only
  split
  · rename_i hc
    have hlt : x.t.toNat < seen.length := by rw [h.len]; omega
    have hs : seen[x.t.toNat]? = some false := by
      have := hc.1
      rw [List.getElem?_eq_getElem hlt] at this ⊢
      simpa using this
    exact ⟨h.push hi _ _ h0 h1 hs, by simp; omega⟩
  · exact ⟨h, hi⟩
theorem POk.fold {n i : Nat} {perm : Ed → Bool} : ∀ (l : List Ed) {seen : List Bool} {steps : List St}, POk n seen steps → i < steps.length → (∀ x ∈ l, 0 ≤ x.t ∧ x.t < n) →
    POk n (l.foldl (pStep perm i) (seen, steps)).1 (l.foldl (pStep perm i) (seen, steps)).2 ∧ i < (l.foldl (pStep perm i) (seen, steps)).2.length
  | [], _, _, h, hi, _ => ⟨h, hi⟩
  | x :: l, seen, steps, h, hi, hx => by
    have h1 := h.step (perm := perm) hi x (hx x (List.mem_cons_self ..)).1 (hx x (List.mem_cons_self ..)).2
    exact POk.fold l h1.1 h1.2 (fun y hy => hx y (List.mem_cons_of_mem _ hy))
theorem POk.start (n from_ : Nat) (h : from_ < n) : POk n ((List.replicate n false).set from_ true) [⟨from_, -1, -1⟩] := by
  refine ⟨by simp, ?_, fun x hx => ?_, fun j hj => ?_⟩
  · rw [count_set (by rw [List.getElem?_replicate, if_pos h]), List.count_replicate]; rfl
  · rw [List.mem_singleton.1 hx]; exact ⟨by simp, by simp; omega⟩
  · have : j = 0 := by simp at hj; omega
    subst this; simp
theorem bfs_found {sub : Int → List Ed} {want : Int → Bool} {perm : Ed → Bool} {f i : Nat} {seen : List Bool} {steps : List St} (hi : i < steps.length) (hw : want steps[i].s = true) : bfs sub want perm (f + 1) i seen steps = some (steps, i) := by
  rw [bfs, List.getElem?_eq_getElem hi]; simp [hw]
theorem bfs_next {sub : Int → List Ed} {want : Int → Bool} {perm : Ed → Bool} {f i : Nat} {seen : List Bool} {steps : List St} (hi : i < steps.length) (hw : want steps[i].s = false) :
    bfs sub want perm (f + 1) i seen steps = bfs sub want perm f (i + 1) ((sub steps[i].s).foldl (pStep perm i) (seen, steps)).1 ((sub steps[i].s).foldl (pStep perm i) (seen, steps)).2 := by
  rw [bfs, List.getElem?_eq_getElem hi]; simp [hw]
theorem bfs_end {sub : Int → List Ed} {want : Int → Bool} {perm : Ed → Bool} {f i : Nat} {seen : List Bool} {steps : List St} (hi : steps.length ≤ i) : bfs sub want perm (f + 1) i seen steps = none := by
  rw [bfs, List.getElem?_eq_none hi]
theorem back_next {steps : List St} {f k : Nat} (hk : k < steps.length) (hp : 0 ≤ steps[k].p) : back steps (f + 1) k = steps[k].e :: back steps f steps[k].p := by
  rw [back, Int.toNat_natCast, List.getElem?_eq_getElem hk]; simp [hp]
theorem back_end {steps : List St} {f k : Nat} (hk : k < steps.length) (hp : steps[k].p < 0) : back steps (f + 1) k = [] := by
  rw [back, Int.toNat_natCast, List.getElem?_eq_getElem hk]; simp; omega

/-- The word that path returns, and whether there is one. -/
def pathF (n : Nat) (es : List Ed) (want : Int → Bool) (perm : Ed → Bool) (from_ : Nat) : Option (List Int) :=
  (bfs (subOf es) want perm (n + 1) 0 ((List.replicate n false).set from_ true) [⟨from_, -1, -1⟩]).map fun r => (back r.1 (r.2 + 1) r.2).reverse
end Go.Proofs.Ythchkddhibhenaa

/- Words in shortlex order by their ranks, what leads where, and searches that find the least word: plain laws. -/
namespace Go.Proofs.Ythchkddhibhenaa

/-- The rank of a word: words in shortlex order have rising ranks. -/
def wval (u : List Int) : Int := u.foldl (fun acc e => 33 * acc + e + 1) 0
theorem wval_snoc (u : List Int) (e : Int) : wval (u ++ [e]) = 33 * wval u + e + 1 := by simp [wval, List.foldl_append]
def Evs (u : List Int) : Prop := ∀ e ∈ u, 0 ≤ e ∧ e < 32
theorem Evs.nil : Evs [] := fun e h => by cases h
theorem Evs.snoc {u : List Int} {e : Int} (h : Evs u) (h0 : 0 ≤ e) (h1 : e < 32) : Evs (u ++ [e]) := by
  intro x hx
  rcases List.mem_append.1 hx with h2 | h2
  · exact h x h2
  · rw [List.mem_singleton.1 h2]; exact ⟨h0, h1⟩
theorem Evs.of_snoc {u : List Int} {e : Int} (h : Evs (u ++ [e])) : Evs u ∧ 0 ≤ e ∧ e < 32 :=
  ⟨fun x hx => h x (List.mem_append_left _ hx), h e (by simp)⟩
/-- Induction at the end of a list. -/
theorem snoc_ind {α : Type} {P : List α → Prop} (h0 : P []) (h1 : ∀ u e, P u → P (u ++ [e])) (u : List α) : P u := by
  have h2 : ∀ n (u : List α), u.length = n → P u := by
    intro n
    induction n with
    | zero => intro u hu; rw [List.eq_nil_of_length_eq_zero hu]; exact h0
    | succ n ih =>
      intro u hu
      rcases List.eq_nil_or_concat u with rfl | ⟨l, b, rfl⟩
      · cases hu
      · have hl : l.length = n := by simpa using hu
        simpa using h1 l b (ih l hl)
  exact h2 _ u rfl
theorem wval_nonneg (u : List Int) : Evs u → 0 ≤ wval u := by
  refine snoc_ind (P := fun u => Evs u → 0 ≤ wval u) (fun _ => Int.le_refl 0) (fun u e ih h => ?_) u
  have h1 := h.of_snoc
  have := ih h1.1
  rw [wval_snoc]; omega
theorem wval_inj (u : List Int) : ∀ v, Evs u → Evs v → wval u = wval v → u = v := by
  refine snoc_ind (P := fun u => ∀ v, Evs u → Evs v → wval u = wval v → u = v) ?_ ?_ u
  · intro v _ hv he
    rcases List.eq_nil_or_concat v with rfl | ⟨l, b, rfl⟩
    · rfl
    · rw [List.concat_eq_append] at hv he
      have h1 := hv.of_snoc
      have h2 := wval_nonneg l h1.1
      rw [wval_snoc] at he
      have h3 : wval [] = 0 := rfl
      omega
  · intro u e ih v hu hv he
    have g1 := hu.of_snoc
    have g2 := wval_nonneg u g1.1
    rw [wval_snoc] at he
    rcases List.eq_nil_or_concat v with rfl | ⟨l, b, rfl⟩
    · have h3 : wval [] = 0 := rfl
      omega
    · rw [List.concat_eq_append] at hv he ⊢
      have h1 := hv.of_snoc
      rw [wval_snoc] at he
      have e1 : wval u = wval l := by omega
      have e2 : e = b := by omega
      rw [ih l g1.1 h1.1 e1, e2]

/-- The least and the greatest rank of a word of so many events. -/
def wlo : Nat → Int
  | 0 => 0
  | n + 1 => 33 * wlo n + 1
def whi : Nat → Int
  | 0 => 0
  | n + 1 => 33 * whi n + 32
theorem wlo_le (u : List Int) : Evs u → wlo u.length ≤ wval u ∧ wval u ≤ whi u.length := by
  refine snoc_ind (P := fun u => Evs u → wlo u.length ≤ wval u ∧ wval u ≤ whi u.length) (fun _ => ⟨Int.le_refl _, Int.le_refl _⟩) (fun u e ih h => ?_) u
  have h1 := h.of_snoc
  have := ih h1.1
  rw [wval_snoc, List.length_append, List.length_singleton, wlo, whi]; omega
theorem whi_lt (n : Nat) : whi n < wlo (n + 1) := by
  induction n with
  | zero => decide
  | succ n ih => rw [whi, wlo]; omega
theorem wlo_mono {m n : Nat} (h : m ≤ n) : wlo m ≤ wlo n := by
  induction n with
  | zero => obtain rfl : m = 0 := by omega
            exact Int.le_refl _
  | succ n ih =>
    by_cases e : m = n + 1
    · rw [e]; exact Int.le_refl _
    · have h1 := ih (by omega)
      have h2 : 0 ≤ wlo n := by
        clear h1 ih h e
        induction n with
        | zero => exact Int.le_refl _
        | succ n ih => rw [wlo]; omega
      rw [wlo]; omega
theorem wval_len {u v : List Int} (hu : Evs u) (hv : Evs v) (h : wval u ≤ wval v) : u.length ≤ v.length := by
  by_cases hlt : v.length < u.length
  · have h1 := (wlo_le u hu).1
    have h2 := (wlo_le v hv).2
    have h3 := whi_lt v.length
    have h4 := wlo_mono (show v.length + 1 ≤ u.length by omega)
    omega
  · omega

/-- A word leads from s to t. -/
def Leads (es : List Ed) (perm : Ed → Bool) (s : Int) : List Int → Int → Prop
  | [], t => s = t
  | e :: u, t => ∃ x ∈ es, x.f = s ∧ x.e = e ∧ perm x = true ∧ Leads es perm x.t u t
theorem Leads.snoc {es : List Ed} {perm : Ed → Bool} : ∀ {u : List Int} {s t : Int}, Leads es perm s u t → ∀ {x : Ed}, x ∈ es → x.f = t → perm x = true → Leads es perm s (u ++ [x.e]) x.t
  | [], s, t, h, x, hx, hf, hp => ⟨x, hx, by rw [hf]; exact h.symm, rfl, hp, rfl⟩
  | e :: u, s, t, ⟨y, hy, h1, h2, h3, h4⟩, x, hx, hf, hp => ⟨y, hy, h1, h2, h3, h4.snoc hx hf hp⟩
theorem Leads.of_snoc {es : List Ed} {perm : Ed → Bool} {e : Int} : ∀ {u : List Int} {s t : Int}, Leads es perm s (u ++ [e]) t → ∃ x ∈ es, Leads es perm s u x.f ∧ x.e = e ∧ x.t = t ∧ perm x = true
  | [], s, t, ⟨y, hy, h1, h2, h3, h4⟩ => ⟨y, hy, h1.symm, h2, h4, h3⟩
  | a :: u, s, t, ⟨y, hy, h1, h2, h3, h4⟩ => by
    obtain ⟨x, hx, g1, g2, g3, g4⟩ := Leads.of_snoc (u := u) h4
    exact ⟨x, hx, ⟨y, hy, h1, h2, h3, g1⟩, g2, g3, g4⟩
/-- The events of the edges. -/
def EvEs (es : List Ed) : Prop := ∀ x ∈ es, 0 ≤ x.e ∧ x.e < 32
theorem Leads.evs {es : List Ed} {perm : Ed → Bool} (he : EvEs es) : ∀ {u : List Int} {s t : Int}, Leads es perm s u t → Evs u
  | [], _, _, _ => Evs.nil
  | e :: u, s, t, ⟨y, hy, h1, h2, h3, h4⟩ => by
    intro z hz
    rcases List.mem_cons.1 hz with rfl | hz
    · rw [← h2]; exact he y hy
    · exact Leads.evs he h4 z hz

/-- What a search has found so far: words with rising ranks, none above b. -/
structure Found (es : List Ed) (perm : Ed → Bool) (s : Int) (L : List (List Int × Int)) (b : Int) : Prop where
  lead : ∀ r ∈ L, Leads es perm s r.1 r.2
  sorted : ∀ j k : Nat, j < k → ∀ r r' : List Int × Int, L[j]? = some r → L[k]? = some r' → wval r.1 < wval r'.1
  bd : ∀ r ∈ L, wval r.1 ≤ b
/-- The edges of all places below i have been followed. -/
def Followed (es : List Ed) (perm : Ed → Bool) (L : List (List Int × Int)) (m i : Nat) : Prop :=
  ∀ j : Nat, j < i → ∀ r : List Int × Int, L[j]? = some r → ∀ x ∈ es, x.f = r.2 → perm x = true → ∃ k : Nat, m ≤ k ∧ ∃ r' : List Int × Int, L[k]? = some r' ∧ r'.2 = x.t ∧ wval r'.1 ≤ 33 * wval r.1 + x.e + 1

section
variable {es : List Ed} {perm : Ed → Bool} {s : Int} {L : List (List Int × Int)} {b : Int} {m i : Nat}
theorem Found.push (h : Found es perm s L b) {w : List Int} {t : Int} (hl : Leads es perm s w t) (hb : b < wval w) : Found es perm s (L ++ [(w, t)]) (wval w) := by
  refine ⟨fun r hr => ?_, fun j k hjk r r' hj hk => ?_, fun r hr => ?_⟩
  · rcases List.mem_append.1 hr with h1 | h1
    · exact h.lead r h1
    · rw [List.mem_singleton.1 h1]; exact hl
  · by_cases hk2 : k < L.length
    · rw [List.getElem?_append_left hk2] at hk
      rw [List.getElem?_append_left (by omega)] at hj
      exact h.sorted j k hjk r r' hj hk
    · rw [List.getElem?_append_right (by omega)] at hk
      have h3 : k - L.length = 0 := by
        by_cases h4 : k - L.length = 0
        · exact h4
        · rw [List.getElem?_eq_none (by simp; omega)] at hk; cases hk
      rw [h3] at hk
      simp only [List.getElem?_cons_zero, Option.some.injEq] at hk
      subst hk
      rw [List.getElem?_append_left (by omega)] at hj
      have := h.bd r (List.mem_of_getElem? hj)
      dsimp only; omega
  · rcases List.mem_append.1 hr with h1 | h1
    · have := h.bd r h1; omega
    · rw [List.mem_singleton.1 h1]; exact Int.le_refl _
theorem Found.more (h : Found es perm s L b) {b' : Int} (hb : b ≤ b') : Found es perm s L b' := ⟨h.lead, h.sorted, fun r hr => Int.le_trans (h.bd r hr) hb⟩
theorem Found.mono (h : Found es perm s L b) {j k : Nat} (hjk : j ≤ k) {r r' : List Int × Int} (hj : L[j]? = some r) (hk : L[k]? = some r') : wval r.1 ≤ wval r'.1 := by
  by_cases e : j = k
  · subst e; rw [hj] at hk; cases hk; exact Int.le_refl _
  · exact Int.le_of_lt (h.sorted j k (by omega) r r' hj hk)
theorem Followed.append (h : Followed es perm L m i) (hi : i ≤ L.length) (M : List (List Int × Int)) : Followed es perm (L ++ M) m i := by
  intro j hj r hr x hx hf hp
  rw [List.getElem?_append_left (by omega)] at hr
  obtain ⟨k, hk, r', hr', h1, h2⟩ := h j hj r hr x hx hf hp
  refine ⟨k, hk, r', ?_, h1, h2⟩
  rw [List.getElem?_append_left (by have := (List.getElem?_eq_some_iff.1 hr').1; omega)]
  exact hr'
/-- Where each word leads that has been tried. -/
theorem Followed.place (he : EvEs es) (hF : Found es perm s L b) (hC : Followed es perm L m i) (h0 : L[0]? = some ([], s)) (u : List Int) :
    ∀ t, Leads es perm s u t → (∃ (k : Nat) (r : List Int × Int), (u = [] ∨ m ≤ k) ∧ L[k]? = some r ∧ r.2 = t ∧ wval r.1 ≤ wval u) ∨ (∃ r : List Int × Int, L[i]? = some r ∧ wval r.1 < wval u) ∨ L.length ≤ i := by
  induction u using snoc_ind with
  | h0 =>
    intro t ht
    refine .inl ⟨0, _, .inl rfl, h0, ht, Int.le_refl _⟩
  | h1 u e ih =>
    intro t ht
    by_cases hil : L.length ≤ i
    · exact .inr (.inr hil)
    obtain ⟨x, hx, g1, rfl, rfl, g4⟩ := ht.of_snoc
    have hxe := he x hx
    have hi : L[i]? = some L[i] := List.getElem?_eq_getElem (by omega)
    have hu := wval_nonneg u (g1.evs he)
    rcases ih x.f g1 with ⟨k, r, hk0, hk, hr, hle⟩ | ⟨r, hk, hle⟩ | h3
    · by_cases hki : k < i
      · obtain ⟨k', hk', r', h1, h2, h3⟩ := hC k hki r hk x hx hr.symm g4
        refine .inl ⟨k', r', .inr hk', h1, h2, ?_⟩
        rw [wval_snoc]; omega
      · refine .inr (.inl ⟨_, hi, ?_⟩)
        have := hF.mono (show i ≤ k by omega) hi hk
        rw [wval_snoc]; omega
    · refine .inr (.inl ⟨r, hk, ?_⟩)
      rw [wval_snoc]; omega
    · exact .inr (.inr h3)
/-- The same where all have been followed. -/
theorem Followed.all (he : EvEs es) (hC : Followed es perm L m L.length) (h0 : L[0]? = some ([], s)) (u : List Int) :
    ∀ t, Leads es perm s u t → ∃ (k : Nat) (r : List Int × Int), (u = [] ∨ m ≤ k) ∧ L[k]? = some r ∧ r.2 = t ∧ wval r.1 ≤ wval u := by
  induction u using snoc_ind with
  | h0 =>
    intro t ht
    exact ⟨0, _, .inl rfl, h0, ht, Int.le_refl _⟩
  | h1 u e ih =>
    intro t ht
    obtain ⟨x, hx, g1, rfl, rfl, g4⟩ := ht.of_snoc
    obtain ⟨k, r, hk0, hk, hr, hle⟩ := ih x.f g1
    obtain ⟨k', hk', r', h1, h2, h3⟩ := hC k (List.getElem?_eq_some_iff.1 hk).1 r hk x hx hr.symm g4
    refine ⟨k', r', .inr hk', h1, h2, ?_⟩
    rw [wval_snoc]; omega

/-- The least word that leads to a state that is wanted, of at least so many events. -/
structure Least (es : List Ed) (perm : Ed → Bool) (want : Int → Bool) (s : Int) (least : Nat) (w : List Int) : Prop where
  ev : Evs w
  len : least ≤ w.length
  leads : ∃ t, Leads es perm s w t ∧ want t = true
  le : ∀ u t, Leads es perm s u t → want t = true → least ≤ u.length → wval w ≤ wval u
theorem Least.unique {want : Int → Bool} {least : Nat} {w w' : List Int} (h : Least es perm want s least w) (h' : Least es perm want s least w') : w = w' := by
  obtain ⟨t, h1, h2⟩ := h.leads
  obtain ⟨t', h1', h2'⟩ := h'.leads
  exact wval_inj w w' h.ev h'.ev (Int.le_antisymm (h.le _ _ h1' h2' h'.len) (h'.le _ _ h1 h2 h.len))
/-- A search that looks at a state when its turn comes. -/
theorem Found.least {want : Int → Bool} (he : EvEs es) (hF : Found es perm s L b) (hC : Followed es perm L 0 i) (h0 : L[0]? = some ([], s)) {r : List Int × Int} (hi : L[i]? = some r) (hw : want r.2 = true)
    (hn : ∀ j : Nat, j < i → ∀ r : List Int × Int, L[j]? = some r → want r.2 = false) : Least es perm want s 0 r.1 := by
  have hl := hF.lead r (List.mem_of_getElem? hi)
  refine ⟨hl.evs he, Nat.zero_le _, ⟨_, hl, hw⟩, fun u t hu ht _ => ?_⟩
  rcases hC.place he hF h0 u t hu with ⟨k, r', hk0, hk, hr, hle⟩ | ⟨r', hk, hle⟩ | h3
  · by_cases hki : k < i
    · have := hn k hki r' hk
      rw [hr, ht] at this; cases this
    · have := hF.mono (show i ≤ k by omega) hi hk; omega
  · rw [hi] at hk; cases hk; omega
  · have := (List.getElem?_eq_some_iff.1 hi).1; omega
theorem Followed.none {want : Int → Bool} (he : EvEs es) (hC : Followed es perm L 0 L.length) (h0 : L[0]? = some ([], s)) (hn : ∀ (j : Nat) (r : List Int × Int), L[j]? = some r → want r.2 = false) :
    ∀ u t, Leads es perm s u t → want t = false := by
  intro u t hu
  obtain ⟨k, r, _, hk, rfl, _⟩ := hC.all he h0 u t hu
  exact hn k r hk
end
end Go.Proofs.Ythchkddhibhenaa

/- The search of path finds the least word: a plain law. -/
namespace Go.Proofs.Ythchkddhibhenaa

/-- One edge stands before another. -/
def edLt (x y : Ed) : Prop := x.f < y.f ∨ (x.f = y.f ∧ x.e < y.e)
def Sorted (es : List Ed) : Prop := es.Pairwise edLt
theorem drop_count : ∀ (es : List Ed), es.Pairwise (fun x y => x.f ≤ y.f) → ∀ s : Int, es.drop (es.countP fun x => decide (x.f < s)) = es.filter fun x => !decide (x.f < s)
  | [], _, _ => rfl
  | x :: l, h, s => by
    obtain ⟨h1, h2⟩ := List.pairwise_cons.1 h
    by_cases hx : x.f < s
    · rw [List.countP_cons_of_pos (by simpa using hx), List.drop_succ_cons, drop_count l h2 s, List.filter_cons_of_neg (by simpa using hx)]
    · have h3 : ∀ y ∈ l, ¬ y.f < s := fun y hy => by have := h1 y hy; omega
      have h4 : l.countP (fun x => decide (x.f < s)) = 0 := by
        rw [List.countP_eq_zero]; intro y hy; simpa using h3 y hy
      rw [List.countP_cons_of_neg (by simpa using hx), h4, List.drop_zero]
      symm
      rw [List.filter_eq_self]
      intro y hy
      rcases List.mem_cons.1 hy with rfl | hy
      · simpa using hx
      · simpa using h3 y hy
theorem take_count : ∀ (es : List Ed), es.Pairwise (fun x y => x.f ≤ y.f) → ∀ s : Int, es.take (es.countP fun x => decide (x.f < s)) = es.filter fun x => decide (x.f < s)
  | [], _, _ => rfl
  | x :: l, h, s => by
    obtain ⟨h1, h2⟩ := List.pairwise_cons.1 h
    by_cases hx : x.f < s
    · rw [List.countP_cons_of_pos (by simpa using hx), List.take_succ_cons, take_count l h2 s, List.filter_cons_of_pos (by simpa using hx)]
    · have h3 : ∀ y ∈ l, ¬ y.f < s := fun y hy => by have := h1 y hy; omega
      have h4 : l.countP (fun x => decide (x.f < s)) = 0 := by
        rw [List.countP_eq_zero]; intro y hy; simpa using h3 y hy
      rw [List.countP_cons_of_neg (by simpa using hx), h4, List.take_zero]
      symm
      rw [List.filter_eq_nil_iff]
      intro y hy
      rcases List.mem_cons.1 hy with rfl | hy
      · simpa using hx
      · simpa using h3 y hy
theorem Sorted.le {es : List Ed} (h : Sorted es) : es.Pairwise (fun x y => x.f ≤ y.f) := List.Pairwise.imp (fun {x y} (h : edLt x y) => by unfold edLt at h; omega) h
/-- The edges of a state, as a filter. -/
theorem subOf_eq {es : List Ed} (h : Sorted es) (s : Int) : subOf es s = es.filter fun x => decide (x.f = s) := by
  have h1 := take_count es h.le (s + 1)
  have h2 : (es.filter fun x => decide (x.f < s + 1)).Pairwise (fun x y => x.f ≤ y.f) := h.le.filter _
  have h3 := drop_count _ h2 s
  have h4 : (es.filter fun x => decide (x.f < s + 1)).countP (fun x => decide (x.f < s)) = es.countP fun x => decide (x.f < s) := by
    rw [List.countP_filter]
    apply List.countP_congr
    intro x _
    simp only [Bool.and_eq_true, decide_eq_true_eq]
    omega
  rw [h4, ← h1, List.drop_take] at h3
  rw [subOf, edSub, fstN, fstN, h3, h1, List.filter_filter]
  apply List.filter_congr
  intro x _
  rw [Bool.eq_iff_iff]
  simp only [Bool.and_eq_true, Bool.not_eq_true', decide_eq_true_eq, decide_eq_false_iff_not]
  omega

theorem back_push {steps : List St} {y : St} (hp : ∀ j (h : j < steps.length), -1 ≤ steps[j].p ∧ steps[j].p < j) : ∀ (f k : Nat), k < steps.length → back (steps ++ [y]) f k = back steps f k
  | 0, _, _ => rfl
  | f + 1, k, hk => by
    rw [back, back, Int.toNat_natCast, List.getElem?_append_left hk, List.getElem?_eq_getElem hk]
    dsimp only
    split
    · rename_i h0
      have := hp k hk
      obtain ⟨p, hpe⟩ := Int.eq_ofNat_of_zero_le h0
      rw [hpe] at this ⊢
      rw [back_push hp f p (by omega)]
    · rfl

/-- The steps of the search and the words that they stand for. -/
structure PW (es : List Ed) (perm : Ed → Bool) (from_ n i : Nat) (seen : List Bool) (steps : List St) (L : List (List Int × Int)) (b : Int) : Prop where
  pok : POk n seen steps
  len : steps.length = L.length
  st : ∀ (k : Nat) (r : List Int × Int), L[k]? = some r → ∃ x, steps[k]? = some x ∧ x.s = r.2 ∧ ∀ f, k < f → back steps f k = r.1.reverse
  seen : ∀ t : Nat, t < n → seen[t]? = some true → ∃ (k : Nat) (r : List Int × Int), L[k]? = some r ∧ r.2 = t
  found : Found es perm from_ L b
  follow : Followed es perm L 0 i
  zero : L[0]? = some ([], (from_ : Int))
  lt : i ≤ L.length

/-- The edges of one state are followed. -/
theorem PW.fold {es : List Ed} {perm : Ed → Bool} {from_ n i : Nat} (hes : ∀ x ∈ es, 0 ≤ x.t ∧ x.t < (n : Int)) (he : EvEs es) (r : List Int × Int) : ∀ (l done : List Ed) {seen : List Bool} {steps : List St} {L : List (List Int × Int)} {b : Int},
    PW es perm from_ n i seen steps L b → L[i]? = some r → es.filter (fun x => decide (x.f = r.2)) = done ++ l → l.Pairwise (fun x y => x.e < y.e) → (∀ x ∈ l, b < 33 * wval r.1 + x.e + 1) → b ≤ 33 * wval r.1 + 32 →
    (∀ x ∈ done, perm x = true → ∃ (k : Nat) (r' : List Int × Int), L[k]? = some r' ∧ r'.2 = x.t ∧ wval r'.1 ≤ 33 * wval r.1 + x.e + 1) →
    ∃ L' b', PW es perm from_ n (i + 1) (l.foldl (pStep perm i) (seen, steps)).1 (l.foldl (pStep perm i) (seen, steps)).2 L' b' ∧ b' ≤ 33 * wval r.1 + 32 ∧ ∃ M, L' = L ++ M
  | [], done, seen, steps, L, b, h, hi, hf, hs, hb, hb2, hd => by
    refine ⟨L, b, ⟨h.pok, h.len, h.st, h.seen, h.found, fun j hj r' hr x hx hxf hp => ?_, h.zero, ?_⟩, hb2, [], (List.append_nil _).symm⟩
    · by_cases hji : j < i
      · exact h.follow j hji r' hr x hx hxf hp
      · obtain rfl : j = i := by omega
        rw [hi] at hr
        cases hr
        have hmem : x ∈ done := by
          have : x ∈ es.filter (fun x => decide (x.f = r.2)) := List.mem_filter.2 ⟨hx, by simpa using hxf⟩
          rw [hf, List.append_nil] at this
          exact this
        obtain ⟨k, r', h1, h2, h3⟩ := hd x hmem hp
        exact ⟨k, Nat.zero_le _, r', h1, h2, h3⟩
    · have := (List.getElem?_eq_some_iff.1 hi).1; omega
  | x :: l, done, seen, steps, L, b, h, hi, hf, hs, hb, hb2, hd => by
    obtain ⟨hs1, hs2⟩ := List.pairwise_cons.1 hs
    have hxm : x ∈ es.filter (fun x => decide (x.f = r.2)) := by rw [hf]; simp
    obtain ⟨hxe, hxf⟩ := List.mem_filter.1 hxm
    have hxf : x.f = r.2 := by simpa using hxf
    have hxt := hes x hxe
    have hxv := he x hxe
    have hxb := hb x (List.mem_cons_self ..)
    have hf' : es.filter (fun x => decide (x.f = r.2)) = (done ++ [x]) ++ l := by rw [hf]; simp
    have hil : i < L.length := (List.getElem?_eq_some_iff.1 hi).1
    rw [List.foldl_cons]
    have hlt : x.t.toNat < seen.length := by rw [h.pok.len]; omega
    have hsv : seen[x.t.toNat]? = some seen[x.t.toNat] := List.getElem?_eq_getElem hlt
    by_cases hc : seen[x.t.toNat]?.getD true = false ∧ perm x = true
    · have hst : pStep perm i (seen, steps) x = (seen.set x.t.toNat true, steps ++ [⟨x.t, i, x.e⟩]) := by unfold pStep; rw [if_pos hc]
      have hsf : seen[x.t.toNat]? = some false := by
        have := hc.1; rw [hsv] at this ⊢; simpa using this
      have hpok := h.pok.push (i := i) (by rw [h.len]; exact hil) x.t x.e hxt.1 hxt.2 hsf
      have hlead : Leads es perm from_ r.1 r.2 := h.found.lead r (List.mem_of_getElem? hi)
      have hF := h.found.push (hlead.snoc hxe hxf hc.2) (by rw [wval_snoc]; omega)
      rw [wval_snoc] at hF
      rw [hst]
      have hnew : PW es perm from_ n i (seen.set x.t.toNat true) (steps ++ [⟨x.t, i, x.e⟩]) (L ++ [(r.1 ++ [x.e], x.t)]) (33 * wval r.1 + x.e + 1) := by
        refine ⟨hpok, by simp [h.len], ?_, ?_, hF, h.follow.append h.lt _, ?_, ?_⟩
        · intro k r' hr'
          by_cases hk : k < L.length
          · rw [List.getElem?_append_left hk] at hr'
            obtain ⟨y, h1, h2, h3⟩ := h.st k r' hr'
            refine ⟨y, by rw [List.getElem?_append_left (by rw [h.len]; exact hk)]; exact h1, h2, fun f hf => ?_⟩
            rw [back_push h.pok.parent f k (by rw [h.len]; exact hk)]
            exact h3 f hf
          · have hkl : k = L.length := by
              have := (List.getElem?_eq_some_iff.1 hr').1; simp at this; omega
            subst hkl
            rw [List.getElem?_append_right (Nat.le_refl _), Nat.sub_self] at hr'
            simp only [List.getElem?_cons_zero, Option.some.injEq] at hr'
            subst hr'
            refine ⟨⟨x.t, i, x.e⟩, by rw [List.getElem?_append_right (by rw [h.len]; exact Nat.le_refl _), h.len, Nat.sub_self]; rfl, rfl, fun f hf => ?_⟩
            obtain ⟨f', rfl⟩ : ∃ f', f = f' + 1 := ⟨f - 1, by omega⟩
            obtain ⟨y, h1, h2, h3⟩ := h.st i r hi
            rw [back, Int.toNat_natCast, List.getElem?_append_right (by rw [h.len]; exact Nat.le_refl _), h.len, Nat.sub_self]
            simp only [List.getElem?_cons_zero]
            rw [if_pos (by omega), back_push h.pok.parent f' i (by rw [h.len]; exact hil), h3 f' (by omega)]
            simp
        · intro t ht hseen
          by_cases htx : x.t.toNat = t
          · exact ⟨L.length, (r.1 ++ [x.e], x.t), by simp, by dsimp only; omega⟩
          · rw [List.getElem?_set_ne htx] at hseen
            obtain ⟨k, r', h1, h2⟩ := h.seen t ht hseen
            exact ⟨k, r', by rw [List.getElem?_append_left (List.getElem?_eq_some_iff.1 h1).1]; exact h1, h2⟩
        · rw [List.getElem?_append_left (by omega)]; exact h.zero
        · have := h.lt; simp; omega
      obtain ⟨L', b', g1, g2, M, g3⟩ := PW.fold hes he r l (done ++ [x]) hnew (by rw [List.getElem?_append_left hil]; exact hi) hf' hs2 (fun y hy => by have := hs1 y hy; omega) (by omega) (fun y hy hp => by
        rcases List.mem_append.1 hy with hy | hy
        · obtain ⟨k, r', h1, h2, h3⟩ := hd y hy hp
          exact ⟨k, r', by rw [List.getElem?_append_left (List.getElem?_eq_some_iff.1 h1).1]; exact h1, h2, h3⟩
        · rw [List.mem_singleton.1 hy]
          exact ⟨L.length, (r.1 ++ [x.e], x.t), by simp, rfl, by rw [wval_snoc]; exact Int.le_refl _⟩)
      exact ⟨L', b', g1, g2, [(r.1 ++ [x.e], x.t)] ++ M, by rw [g3, List.append_assoc]⟩
    · have hst : pStep perm i (seen, steps) x = (seen, steps) := by unfold pStep; rw [if_neg hc]
      rw [hst]
      refine PW.fold hes he r l (done ++ [x]) h hi hf' hs2 (fun y hy => hb y (List.mem_cons_of_mem _ hy)) hb2 (fun y hy hp => ?_)
      rcases List.mem_append.1 hy with hy | hy
      · exact hd y hy hp
      · rw [List.mem_singleton.1 hy] at hp ⊢
        have hst : seen[x.t.toNat]? = some true := by
          rw [hsv] at hc ⊢
          simp only [Option.getD_some] at hc
          cases hb : seen[x.t.toNat] with
          | true => rfl
          | false => exact absurd ⟨hb, hp⟩ hc
        obtain ⟨k, r', h1, h2⟩ := h.seen x.t.toNat (by omega) hst
        refine ⟨k, r', h1, by omega, ?_⟩
        have := h.found.bd r' (List.mem_of_getElem? h1)
        omega

/-- What the search gives. -/
def BfsSays (es : List Ed) (perm : Ed → Bool) (want : Int → Bool) (from_ : Nat) : Option (List St × Nat) → Prop
  | some r => ∃ w, back r.1 (r.2 + 1) r.2 = w.reverse ∧ Least es perm want from_ 0 w
  | none => ∀ u t, Leads es perm from_ u t → want t = false
theorem PW.bfs {es : List Ed} {perm : Ed → Bool} {want : Int → Bool} {from_ n : Nat} (hso : Sorted es) (hes : ∀ x ∈ es, 0 ≤ x.t ∧ x.t < (n : Int)) (he : EvEs es) : ∀ (f i : Nat) {seen : List Bool} {steps : List St} {L : List (List Int × Int)} {b : Int},
    PW es perm from_ n i seen steps L b → n + 1 - i ≤ f → (∀ r, L[i]? = some r → b ≤ 33 * wval r.1) → (∀ j, j < i → ∀ r : List Int × Int, L[j]? = some r → want r.2 = false) →
    BfsSays es perm want from_ (Go.Proofs.Ythchkddhibhenaa.bfs (subOf es) want perm f i seen steps)
  | 0, i, seen, steps, L, b, h, hf, _, _ => by
    have h1 := h.pok.le
    have h2 := h.len
    have h3 := h.lt
    omega
  | f + 1, i, seen, steps, L, b, h, hf, hb, hn => by
    by_cases hi : i < steps.length
    · have hiL : i < L.length := by rw [← h.len]; exact hi
      have hr : L[i]? = some L[i] := List.getElem?_eq_getElem hiL
      obtain ⟨x, h1, h2, h3⟩ := h.st i L[i] hr
      rw [List.getElem?_eq_getElem hi] at h1
      cases h1
      cases hw : want steps[i].s with
      | true =>
        rw [bfs_found hi hw]
        exact ⟨L[i].1, h3 (i + 1) (by omega), h.found.least he h.follow h.zero hr (by rw [← h2]; exact hw) hn⟩
      | false =>
        rw [bfs_next hi hw, subOf_eq hso]
        have hpw : (es.filter fun x => decide (x.f = L[i].2)).Pairwise (fun x y => x.e < y.e) := by
          have h4 : (es.filter fun x => decide (x.f = L[i].2)).Pairwise edLt := List.Pairwise.filter _ hso
          refine List.Pairwise.imp_of_mem ?_ h4
          intro x y hx hy hxy
          have e1 := (List.mem_filter.1 hx).2
          have e2 := (List.mem_filter.1 hy).2
          simp only [decide_eq_true_eq] at e1 e2
          unfold edLt at hxy
          omega
        have hb1 := hb _ hr
        obtain ⟨L', b', g1, g2, M, rfl⟩ := PW.fold hes he L[i] (es.filter fun x => decide (x.f = L[i].2)) [] h hr (by simp) hpw (fun x hx => by have := he x (List.mem_filter.1 hx).1; omega) (by omega) (fun x hx => by cases hx)
        rw [h2]
        refine PW.bfs hso hes he f (i + 1) g1 (by omega) (fun r' hr' => ?_) (fun j hj r' hr' => ?_)
        · have h5 := g1.found.sorted i (i + 1) (by omega) L[i] r' (by rw [List.getElem?_append_left hiL]; exact hr) hr'
          omega
        · by_cases hji : j < i
          · rw [List.getElem?_append_left (by omega)] at hr'
            exact hn j hji r' hr'
          · obtain rfl : j = i := by omega
            rw [List.getElem?_append_left hiL, hr] at hr'
            cases hr'
            rw [← h2]; exact hw
    · rw [bfs_end (by omega)]
      have hil : i = L.length := by have := h.lt; have := h.len; omega
      subst hil
      exact h.follow.none he h.zero (fun j r hr => hn j (List.getElem?_eq_some_iff.1 hr).1 r hr)
/-- What path returns: the least word, or none where there is none. -/
theorem pathF_says {es : List Ed} {perm : Ed → Bool} {want : Int → Bool} {from_ n : Nat} (hso : Sorted es) (hes : ∀ x ∈ es, 0 ≤ x.t ∧ x.t < (n : Int)) (he : EvEs es) (hf : from_ < n) :
    match pathF n es want perm from_ with
    | some w => Least es perm want from_ 0 w
    | none => ∀ u t, Leads es perm from_ u t → want t = false := by
  have h0 : PW es perm from_ n 0 ((List.replicate n false).set from_ true) [⟨from_, -1, -1⟩] [([], (from_ : Int))] 0 := by
    refine ⟨POk.start n from_ hf, rfl, ?_, ?_, ⟨?_, ?_, ?_⟩, fun j hj => absurd hj (by omega), rfl, Nat.zero_le _⟩
    · intro k r hr
      cases k with
      | zero =>
        simp only [List.getElem?_cons_zero, Option.some.injEq] at hr
        subst hr
        refine ⟨_, rfl, rfl, fun f hf => ?_⟩
        obtain ⟨f', rfl⟩ : ∃ f', f = f' + 1 := ⟨f - 1, by omega⟩
        rfl
      | succ k => simp at hr
    · intro t ht hs
      by_cases e : from_ = t
      · subst e; exact ⟨0, _, rfl, rfl⟩
      · rw [List.getElem?_set_ne e, List.getElem?_replicate, if_pos ht] at hs
        cases hs
    · intro r hr
      rw [List.mem_singleton.1 hr]; rfl
    · intro j k hjk r r' hj hk
      have := (List.getElem?_eq_some_iff.1 hk).1
      simp at this; omega
    · intro r hr
      rw [List.mem_singleton.1 hr]; exact Int.le_refl 0
  have h1 := h0.bfs (want := want) hso hes he (n + 1) 0 (by omega) (fun r hr => by simp only [List.getElem?_cons_zero, Option.some.injEq] at hr; subst hr; exact Int.le_refl 0) (fun j hj => absurd hj (by omega))
  unfold pathF
  generalize Go.Proofs.Ythchkddhibhenaa.bfs (subOf es) want perm (n + 1) 0 ((List.replicate n false).set from_ true) [⟨from_, -1, -1⟩] = r at h1
  cases r with
  | none => exact h1
  | some r =>
    obtain ⟨w, h2, h3⟩ := h1
    simp only [Option.map_some, h2, List.reverse_reverse]
    exact h3
end Go.Proofs.Ythchkddhibhenaa

/- append to a row of the call's own, as one step of a region that draws its order. -/
namespace Go.Proofs.Ythchkddhibhenaa
open Go.RowKit

theorem step_append_row {P : Program} {ops : Array Oper} {o : Oper} {a : Act} {K : Act → World → Prop} {Q : Exit → Act → World → Prop} {E : Prop}
    {w : World} {B : Nat} {tag : Nat → Nat} {k : Nat} {sz : Nat} {v : Value} {n : Nat} {cs : List Value} (hgd : o.guard = none) (s x : Operand) (tt : TypeId)
    (ho : o.op = .call { callee := .builtin .append, args := #[s, x], argTypes := #[tt, tt] })
    (e : TypeId) (i : TypeInfo) (z : Value) (bytes : Nat) (ht : P.underlying tt = some (.slice e)) (hi : P.info? e = some i) (hz : i.zero = some z)
    (hsize : i.size = sz) (hby : i.bytes = bytes) (hzs : z.cells.size = sz) (hs : a.eval s = v) (hrow : Row w B tag k e sz v n cs)
    (ao : Option Addr) (m c : Nat) (news : List Value) (hx : a.eval x = .slice ao m c) (hl : news.length = m * sz) (hnone : ao = none → m = 0 ∧ c = 0)
    (hnews : ∀ ad, ao = some ad → ∀ j u, news[j]? = some u → w.cell? (ad.add j) = some u) (h1 : ∀ u ∈ news, u.oneCell' = true)
    (h63 : n + m ≤ maxLen) (hbytes : (n + m) * bytes ≤ 140737488355328) (hB : B ≤ w.heap.size)
    (h : ∀ v' w' tag', Row w' B tag' k e sz v' (n + m) (cs ++ news) → Turn B tag tag' k w w' → K (a.put o.dst v') w') :
    if Region.wanted o (yielded ops a.tmps) = true then Oper.wp P o a w K Q else E := by
  have hw : Region.wanted o (yielded ops a.tmps) = true := by simp [Region.wanted, hgd]
  rw [if_pos hw]
  obtain ⟨v', w', tag', hrun, h2, h3⟩ := run_append_row (P := P) (w := w) (ty := o.type) tt e i z bytes ht hi hz hsize hby hzs hrow ao m c news hl hnone hnews h1 h63 hbytes hB
  unfold Oper.wp
  simp [execOp, ho, resolve, invoke, builtin, hs, hx, hrun, Result.andThen]
  exact h v' w' tag' h2 h3
end Go.Proofs.Ythchkddhibhenaa

/- The search backward, as a plain function. -/
namespace Go.Proofs.Ythchkddhibhenaa

/-- From where the edges into s come. -/
def inL (es : List Ed) (s : Nat) : List Int := (es.filter fun x => decide (x.t = (s : Int))).map Ed.f
theorem inL_same (es : List Ed) (x : Ed) (s : Nat) (h : x.t = (s : Int)) : inL (es ++ [x]) s = inL es s ++ [x.f] := by simp [inL, h]
theorem inL_other (es : List Ed) (x : Ed) (s : Nat) (h : ¬ x.t = (s : Int)) : inL (es ++ [x]) s = inL es s := by simp [inL, h]
theorem inL_le (es : List Ed) (s : Nat) : (inL es s).length ≤ es.length := by
  unfold inL; rw [List.length_map]; exact List.length_filter_le _ _
theorem inL_mem {es : List Ed} {s : Nat} {p : Int} (h : p ∈ inL es s) : ∃ x ∈ es, x.f = p ∧ x.t = (s : Int) := by
  unfold inL at h
  obtain ⟨x, hx, rfl⟩ := List.mem_map.1 h
  obtain ⟨h1, h2⟩ := List.mem_filter.1 hx
  exact ⟨x, h1, rfl, by simpa using h2⟩

/-- A state is looked at from which an edge leads to s: acc has the distances and the queue. -/
def bStep (s : Nat) (acc : List Int × List Int) (p : Int) : List Int × List Int :=
  if acc.1.getD p.toNat 0 < 0 then (acc.1.set p.toNat (acc.1.getD s 0 + 1), acc.2 ++ [p]) else acc
def bwd (inn : Nat → List Int) : Nat → List Int → List Int → List Int
  | 0, ds, _ => ds
  | _ + 1, ds, [] => ds
  | f + 1, ds, s :: q => bwd inn f ((inn s.toNat).foldl (bStep s.toNat) (ds, q)).1 ((inn s.toNat).foldl (bStep s.toNat) (ds, q)).2
def negs (ds : List Int) : Nat := ds.countP fun d => decide (d < 0)
/-- What holds of the distances and the queue. -/
structure BOk (n : Nat) (ds q : List Int) : Prop where
  len : ds.length = n
  lo : ∀ d ∈ ds, -1 ≤ d ∧ d ≤ 1000000 - negs ds
  qr : ∀ s ∈ q, 0 ≤ s ∧ s < n
  nn : ∀ s ∈ q, 0 ≤ ds.getD s.toNat 0
theorem negs_set {ds : List Int} {p : Nat} {d : Int} (hp : p < ds.length) (h : ds[p] < 0) (hd : 0 ≤ d) : negs (ds.set p d) + 1 = negs ds := by
  unfold negs
  induction ds generalizing p with
  | nil => simp at hp
  | cons a l ih =>
    cases p with
    | zero =>
      simp only [List.set_cons_zero, List.countP_cons, List.getElem_cons_zero] at h ⊢
      rw [decide_eq_true h, decide_eq_false (by omega)]; simp
    | succ p =>
      simp only [List.set_cons_succ, List.countP_cons]
      have := ih (p := p) (by simpa using hp) (by simpa using h)
      omega
theorem getD_set_ne {ds : List Int} {p s : Nat} {d : Int} (h : p ≠ s) : (ds.set p d).getD s 0 = ds.getD s 0 := by
  simp [List.getD_eq_getElem?_getD, List.getElem?_set_ne h]
theorem BOk.step {n s : Nat} {ds q : List Int} (h : BOk n ds q) (hs : s < n) (h0 : 0 ≤ ds.getD s 0) (p : Int) (hp0 : 0 ≤ p) (hp1 : p < n) :
    BOk n (bStep s (ds, q) p).1 (bStep s (ds, q) p).2 ∧ 0 ≤ (bStep s (ds, q) p).1.getD s 0 ∧ 2 * negs (bStep s (ds, q) p).1 + (bStep s (ds, q) p).2.length ≤ 2 * negs ds + q.length := by
  unfold bStep
  dsimp only
  have hpl : p.toNat < ds.length := by rw [h.len]; omega
  split
  · rename_i hc
    rw [List.getD_eq_getElem?_getD, List.getElem?_eq_getElem hpl, Option.getD_some] at hc
    have hsl : s < ds.length := by rw [h.len]; exact hs
    have hds : ds.getD s 0 ∈ ds := by rw [List.getD_eq_getElem?_getD, List.getElem?_eq_getElem hsl]; exact List.getElem_mem _
    have hn := negs_set hpl hc (d := ds.getD s 0 + 1) (by omega)
    have hne : p.toNat ≠ s := by
      rintro rfl
      rw [List.getD_eq_getElem?_getD, List.getElem?_eq_getElem hpl, Option.getD_some] at h0
      omega
    have hset : ∀ t : Nat, t < ds.length → 0 ≤ ds.getD t 0 ∨ t = p.toNat → 0 ≤ (ds.set p.toNat (ds.getD s 0 + 1)).getD t 0 := by
      intro t ht h2
      by_cases e : p.toNat = t
      · subst e
        rw [List.getD_eq_getElem?_getD, List.getElem?_set_self hpl, Option.getD_some]; omega
      · rw [getD_set_ne e]; exact h2.resolve_right (fun h3 => e h3.symm)
    refine ⟨⟨by simp [h.len], fun d hd => ?_, fun t ht => ?_, fun t ht => ?_⟩, ?_, ?_⟩
    · dsimp only at hd ⊢
      rcases List.mem_or_eq_of_mem_set hd with h1 | h1
      · have := h.lo d h1; omega
      · have := h.lo _ hds; omega
    · dsimp only at ht
      rcases List.mem_append.1 ht with h1 | h1
      · exact h.qr t h1
      · rw [List.mem_singleton.1 h1]; exact ⟨hp0, hp1⟩
    · dsimp only at ht ⊢
      rcases List.mem_append.1 ht with h1 | h1
      · exact hset _ (by have := h.qr t h1; rw [h.len]; omega) (.inl (h.nn t h1))
      · rw [List.mem_singleton.1 h1]; exact hset _ hpl (.inr rfl)
    · dsimp only
      rw [getD_set_ne hne]; exact h0
    · dsimp only
      rw [List.length_append, List.length_singleton]; omega
  · exact ⟨h, h0, Nat.le_refl _⟩
theorem BOk.fold {n s : Nat} (hs : s < n) : ∀ (l : List Int) {ds q : List Int}, BOk n ds q → 0 ≤ ds.getD s 0 → (∀ p ∈ l, 0 ≤ p ∧ p < (n : Int)) →
    BOk n (l.foldl (bStep s) (ds, q)).1 (l.foldl (bStep s) (ds, q)).2 ∧ 0 ≤ (l.foldl (bStep s) (ds, q)).1.getD s 0 ∧ 2 * negs (l.foldl (bStep s) (ds, q)).1 + (l.foldl (bStep s) (ds, q)).2.length ≤ 2 * negs ds + q.length
  | [], _, _, h, h0, _ => ⟨h, h0, Nat.le_refl _⟩
  | p :: l, ds, q, h, h0, hp => by
    obtain ⟨h1, h2, h3⟩ := h.step hs h0 p (hp p (List.mem_cons_self ..)).1 (hp p (List.mem_cons_self ..)).2
    obtain ⟨g1, g2, g3⟩ := BOk.fold hs l h1 h2 (fun y hy => hp y (List.mem_cons_of_mem _ hy))
    exact ⟨g1, g2, Nat.le_trans g3 h3⟩
/-- The distances at the start. -/
def bStart (n : Nat) (tg : List Int) : List Int := tg.foldl (fun ds (s : Int) => ds.set s.toNat 0) (List.replicate n (-1))
theorem bStart_snoc (n : Nat) (l : List Int) (x : Int) : bStart n (l ++ [x]) = (bStart n l).set x.toNat 0 := by simp [bStart]
/-- What backward returns. -/
def backward (n : Nat) (es : List Ed) (tg : List Int) : List Int := bwd (inL es) (2 * negs (bStart n tg) + tg.length + 1) (bStart n tg) tg

theorem foldSet_get : ∀ (l : List Int) (ds : List Int) (i : Nat), i < ds.length → (∀ s ∈ l, 0 ≤ s) → (l.foldl (fun ds (s : Int) => ds.set s.toNat 0) ds).getD i 0 = if (i : Int) ∈ l then 0 else ds.getD i 0
  | [], ds, i, _, _ => by simp
  | s :: l, ds, i, hi, hs => by
    rw [List.foldl_cons, foldSet_get l (ds.set s.toNat 0) i (by simpa using hi) (fun t ht => hs t (List.mem_cons_of_mem _ ht))]
    have h0 := hs s (List.mem_cons_self ..)
    by_cases h1 : (i : Int) ∈ l
    · rw [if_pos h1, if_pos (List.mem_cons_of_mem _ h1)]
    · rw [if_neg h1]
      by_cases h2 : (i : Int) = s
      · have : s.toNat = i := by omega
        rw [if_pos (by rw [h2]; exact List.mem_cons_self ..), this, List.getD_eq_getElem?_getD, List.getElem?_set_self hi]; rfl
      · rw [if_neg (by simp [h1, h2]), getD_set_ne (by omega)]
theorem foldSet_length : ∀ (l : List Int) (ds : List Int), (l.foldl (fun ds (s : Int) => ds.set s.toNat 0) ds).length = ds.length
  | [], _ => rfl
  | s :: l, ds => by rw [List.foldl_cons, foldSet_length]; simp
theorem bStart_length (n : Nat) (tg : List Int) : (bStart n tg).length = n := by rw [bStart, foldSet_length]; simp
theorem bStart_get (n : Nat) (tg : List Int) (h : ∀ s ∈ tg, 0 ≤ s) (i : Nat) (hi : i < n) : (bStart n tg).getD i 0 = if (i : Int) ∈ tg then 0 else -1 := by
  rw [bStart, foldSet_get tg _ i (by simpa using hi) h, List.getD_eq_getElem?_getD, List.getElem?_replicate, if_pos hi]; rfl
theorem negs_le (ds : List Int) : negs ds ≤ ds.length := List.countP_le_length
theorem BOk.start (n : Nat) (tg : List Int) (hn : n ≤ 1000000) (h : ∀ s ∈ tg, 0 ≤ s ∧ s < n) : BOk n (bStart n tg) tg := by
  have hl := bStart_length n tg
  refine ⟨hl, fun d hd => ?_, h, fun s hs => ?_⟩
  · obtain ⟨i, hi, rfl⟩ := List.getElem_of_mem hd
    have h1 := bStart_get n tg (fun s hs => (h s hs).1) i (by omega)
    rw [List.getD_eq_getElem?_getD, List.getElem?_eq_getElem hi, Option.getD_some] at h1
    have := negs_le (bStart n tg)
    rw [h1]
    split <;> omega
  · have h1 := h s hs
    rw [bStart_get n tg (fun s hs => (h s hs).1) s.toNat (by omega), if_pos (by rw [Int.toNat_of_nonneg h1.1]; exact hs)]
    exact Int.le_refl 0
theorem BOk.pop {n : Nat} {ds q : List Int} {s : Int} (h : BOk n ds (s :: q)) : BOk n ds q := ⟨h.len, h.lo, fun t ht => h.qr t (List.mem_cons_of_mem _ ht), fun t ht => h.nn t (List.mem_cons_of_mem _ ht)⟩
theorem inL_range {es : List Ed} {n s : Nat} (h : ∀ x ∈ es, 0 ≤ x.f ∧ x.f < n ∧ 0 ≤ x.t ∧ x.t < (n : Int)) : ∀ p ∈ inL es s, 0 ≤ p ∧ p < (n : Int) := by
  intro p hp
  obtain ⟨x, hx, rfl, _⟩ := inL_mem hp
  exact ⟨(h x hx).1, (h x hx).2.1⟩
end Go.Proofs.Ythchkddhibhenaa
