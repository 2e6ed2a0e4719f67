/- The marks that a range over a function leaves; a function that leaves with marks. -/
import Derived.Test.YthchkddhibhenaaRow
import Derived.RangeFuncBound
import Derived.RangeFuncCalls
import Derived.RangeFuncLeaves
import Derived.RangeFuncNested
import Derived.Shelf.Abstract
namespace Go.Proofs.Ythchkddhibhenaa
open Go.RowKit Go.Shelf

theorem keepsBelow {B : Nat} {w w' : World} (h : Below w.heap.size w w') : KeepsFrom B w w' := ⟨h.size, fun k _ _ hk _ => (h.block k (Array.getElem?_eq_some_iff.1 hk).1).trans hk⟩
theorem keepsTurn {B B' : Nat} {w w' : World} {tag tag' : Nat → Nat} {k : Nat} (h : Turn B' tag tag' k w w') : KeepsFrom B w w' := ⟨h.size, fun b o _ hb hc => h.keep b o hb hc⟩

/-- The mark that a range over a function leaves among the deferred calls. -/
def mark (D : Nat) : Deferred := { target := .collected D, args := #[] }
/-- All deferred calls are such marks, still open, in blocks from B on. -/
def Marks (B : Nat) (w : World) (ds : List Deferred) : Prop := ∃ Ds : List Nat, ds = Ds.map mark ∧ Ds.Nodup ∧ ∀ D ∈ Ds, B ≤ D ∧ w.heap[D]? = some (.deferred (some []))
/-- All cells are as they were; below B all is. -/
structure Quiet (B : Nat) (w w' : World) : Prop where
  below : Below B w w'
  cells : ∀ (b : Nat) (cs : Array Value) (t : TypeId) (fr : Nat × Nat), w.heap[b]? = some (Obj.cells cs t fr) → w'.heap[b]? = some (Obj.cells cs t fr)
theorem Quiet.refl (B : Nat) (w : World) : Quiet B w w := ⟨Below.refl _ _, fun _ _ _ _ h => h⟩
theorem Quiet.trans {B : Nat} {a b c : World} (h : Quiet B a b) (k : Quiet B b c) : Quiet B a c := ⟨h.below.trans k.below, fun b cs t fr hb => k.cells b cs t fr (h.cells b cs t fr hb)⟩
theorem Quiet.row {w w' : World} {B B' : Nat} {tag : Nat → Nat} {k : Nat} {t : TypeId} {sz : Nat} {v : Value} {n : Nat} {cs : List Value} (hq : Quiet B w w') (h : Row w B' tag k t sz v n cs) : Row w' B' tag k t sz v n cs :=
  ⟨h.1, h.2.imp id fun ⟨b, off, cap, cur, h1, h2, h3⟩ => ⟨b, off, cap, cur, h1, ⟨hq.cells _ _ _ _ h2.heap, h2.htag, h2.base⟩, h3⟩⟩
theorem Quiet.own {w w' : World} {B B' : Nat} {tag : Nat → Nat} {k b : Nat} {cs : Array Value} {t : TypeId} (hq : Quiet B w w') (h : Own w B' tag k b cs t) : Own w' B' tag k b cs t := ⟨hq.cells _ _ _ _ h.heap, h.htag, h.base⟩
theorem Marks.nil (B : Nat) (w : World) : Marks B w [] := ⟨[], rfl, List.nodup_nil, fun _ h => by cases h⟩
theorem Marks.turn {B B' : Nat} {w w' : World} {tag tag' : Nat → Nat} {k : Nat} {ds : List Deferred} (h : Marks B w ds) (ht : Turn B' tag tag' k w w') : Marks B w' ds := by
  obtain ⟨Ds, h1, h2, h3⟩ := h
  exact ⟨Ds, h1, h2, fun D hD => ⟨(h3 D hD).1, ht.keep _ _ (h3 D hD).2 rfl⟩⟩
theorem Marks.below {B : Nat} {w w' : World} {ds : List Deferred} (h : Marks B w ds) (hb : Below w.heap.size w w') : Marks B w' ds :=
  h.turn (Turn.below (B := 0) (tag := fun _ => 0) (k := 0) hb)
theorem Marks.keeps {B s : Nat} {w w' : World} {ds : List Deferred} (h : Marks B w ds) (hk : ∀ (b : Nat) (o : Obj), w.heap[b]? = some o → o.isCells = false → b < s → w'.heap[b]? = some o) (hs : w.heap.size ≤ s) : Marks B w' ds := by
  obtain ⟨Ds, h1, h2, h3⟩ := h
  exact ⟨Ds, h1, h2, fun D hD => ⟨(h3 D hD).1, hk _ _ (h3 D hD).2 rfl (Nat.lt_of_lt_of_le (Array.getElem?_eq_some_iff.1 (h3 D hD).2).1 hs)⟩⟩
theorem Marks.cons {B s D : Nat} {w : World} {ds : List Deferred} (h : Marks B w ds) (hs : ∀ D', mark D' ∈ ds → D' < s) (hD : s ≤ D) (hB : B ≤ D) (hd : w.heap[D]? = some (.deferred (some []))) : Marks B w (mark D :: ds) := by
  obtain ⟨Ds, rfl, h2, h3⟩ := h
  refine ⟨D :: Ds, rfl, List.nodup_cons.2 ⟨fun hm => ?_, h2⟩, fun D' hD' => ?_⟩
  · have := hs D (List.mem_map.2 ⟨D, hm, rfl⟩); omega
  · rcases List.mem_cons.1 hD' with rfl | h4
    · exact ⟨hB, hd⟩
    · exact h3 D' h4
theorem Marks.lt {B D : Nat} {w : World} {ds : List Deferred} (h : Marks B w ds) (hm : mark D ∈ ds) : D < w.heap.size := by
  obtain ⟨Ds, rfl, h2, h3⟩ := h
  obtain ⟨D', h4, h5⟩ := List.mem_map.1 hm
  cases h5
  exact (Array.getElem?_eq_some_iff.1 (h3 _ h4).2).1

theorem leavesM {F : Fence} {n : Nat} {P : Program} {fn : Func} {tmps : Array Value} {R : Ending → World → Prop} {B : Nat} : ∀ (Ds : List Nat) (w : World), Ds.Nodup → (∀ D ∈ Ds, B ≤ D ∧ w.heap[D]? = some (.deferred (some []))) →
    (∀ w', Quiet B w w' → ∃ v, (results fn tmps).run P w' = .ok v w' ∧ R (.returned v) w') → LeavesInM F n P fn tmps R (Ds.map mark) .returning w
  | [], w, _, _, hfin => hfin w (Quiet.refl _ _)
  | D :: Ds, w, hnd, hD, hfin => by
    obtain ⟨hB, hd⟩ := hD D (List.mem_cons_self ..)
    have hlt := (Array.getElem?_eq_some_iff.1 hd).1
    have hq : Quiet B w (w.putObj D (.deferred none)) := by
      refine ⟨(Below.refl B w).grown (grownBy_putObj' w D _) (by omega) (fun k e => by cases e; exact hB), fun b cs t fr h => ?_⟩
      rw [World.putObj_heap_other ?_, h]
      rintro rfl
      rw [hd] at h; cases h
    refine ⟨by simp, .inl ⟨D, _, rfl, run_takeDeferred hd, leavesM Ds _ (List.nodup_cons.1 hnd).2 (fun D' hD' => ⟨(hD D' (List.mem_cons_of_mem _ hD')).1, ?_⟩) fun w' hw' => hfin w' (hq.trans hw')⟩⟩
    rw [World.putObj_heap_other ?_]
    · exact (hD D' (List.mem_cons_of_mem _ hD')).2
    · rintro rfl; exact (List.nodup_cons.1 hnd).1 hD'
/-- A function that leaves with marks. -/
theorem bodyPostM_ret {n : Nat} {P : Program} {fn : Func} {R : Ending → World → Prop} {B : Nat} {tmps : Array Value} {ds : List Deferred} {w : World} (hM : Marks B w ds)
    (hfin : ∀ w', Quiet B w w' → ∃ v, (results fn tmps).run P w' = .ok v w' ∧ R (.returned v) w') : bodyPostM Fence.wide n P fn R .ret { tmps := tmps, defers := ds } w := by
  obtain ⟨Ds, rfl, h2, h3⟩ := hM
  exact leavesM Ds w h2 h3 hfin
theorem bodyPostM_end {n : Nat} {P : Program} {fn : Func} {R : Ending → World → Prop} {B : Nat} {tmps : Array Value} {ds : List Deferred} {w : World} (hM : Marks B w ds)
    (hfin : ∀ w', Quiet B w w' → ∃ v, (results fn tmps).run P w' = .ok v w' ∧ R (.returned v) w') : bodyPostM Fence.wide n P fn R .normal { tmps := tmps, defers := ds } w := by
  obtain ⟨Ds, rfl, h2, h3⟩ := hM
  exact leavesM Ds w h2 h3 hfin

/-- A contract out of a body that may leave with marks. -/
theorem calls_of_marks {P : Program} {f : FuncId} {fn : Func} {c : Code} {args : Array Value} {w : World} {R : Ending → World → Prop} (hf : P.funcs[f]? = some fn) (hb : fn.body = some c)
    (h : c.wp P (bodyPostM Fence.wide 4 P fn R) { tmps := args ++ Array.replicate (fn.ntmps - args.size) undef, defers := [] } w) : Calls P f args w R :=
  (callsIn_wide (n := 4)).1 (callsIn_of_wp_marks hf hb trivial (wpIn_wide.2 h) rfl)
end Go.Proofs.Ythchkddhibhenaa
