/- Parts of the proof, without what nothing here names. -/
import Derived.Deep.DeepCutAuto
import Derived.RangeFuncNested
import Derived.RangeFuncBound
import Derived.RangeFuncCalls
import Derived.RangeFuncLeaves
import Derived.Shelf.Abstract
import Derived.Shelf.RegionOpen
import Derived.OwnWalkIn
import Derived.TacticsInMore
import Derived.LoopNIn
import Derived.LoopIn
import Derived.StillTailTactics
import Derived.Shelf.Strings.Builder1
import Derived.Shelf.Strings.BuilderF
import Derived.Shelf.Strings.BuilderK
import Derived.Shelf.Strconv.Itoa0
import Derived.Shelf.Strconv.Itoa1
import Derived.Shelf.LaysM
import Derived.Shelf.Strconv.Itoa2
import Derived.Shelf.Strconv.Itoa3
import Derived.Test.YtfbapajcheammaaGreatDoorProg
import Derived.Deep.LoopGhost
import Derived.Test.YtfbapajcheammaaGreatDoorQcy1
set_option maxRecDepth 100000
set_option maxHeartbeats 8000000
namespace Go.Proofs.YtfbapajcheammaaGreatDoor
open Go.RowKit

def cnt1 (n : Nat) (es : List Ed) : List Int := (List.range (n + 1)).map fun (s : Nat) => ((es.countP fun x => decide (x.f + 1 = (s : Int)) : Nat) : Int)
def firsts (n : Nat) (es : List Ed) : List Int := (List.range (n + 1)).map fun (s : Nat) => ((es.countP fun x => decide (x.f < (s : Int)) : Nat) : Int)
def cnt2 (n : Nat) (es : List Ed) (j : Nat) : List Int := (List.range (n + 1)).map fun (s : Nat) => if s ≤ j then ((es.countP fun x => decide (x.f < (s : Int)) : Nat) : Int) else ((es.countP fun x => decide (x.f + 1 = (s : Int)) : Nat) : Int)
theorem cnt1_nil (n : Nat) : ints (cnt1 n []) = List.replicate (n + 1) (.int .i64 0) := by
 apply List.ext_getElem
 ·simp [cnt1]
 ·intro i h1 h2; simp [cnt1]
theorem cnt1_snoc (n : Nat) (es : List Ed) (x : Ed) (h0 : 0 ≤ x.f) (h1 : x.f < n) : ∃ c : Int, 0 ≤ c ∧ c ≤ es.length ∧ (ints (cnt1 n es))[(x.f + 1).toNat]? = some (.int .i64 c) ∧ ints (cnt1 n (es ++ [x])) = (ints (cnt1 n es)).set (x.f + 1).toNat (.int .i64 (c + 1)) := by
 refine ⟨((es.countP fun y => decide (y.f + 1 = (((x.f + 1).toNat : Nat) : Int)) : Nat) : Int), by omega, by have := List.countP_le_length (p := fun y : Ed => decide (y.f + 1 = (((x.f + 1).toNat : Nat) : Int))) (l := es); omega, ?_, ?_⟩
 ·rw [List.getElem?_map, cnt1, List.getElem?_map, List.getElem?_range (by omega)]; rfl
 ·apply List.ext_getElem
  ·simp [cnt1]
  ·intro i g1 g2
   rw [List.getElem_set]
   simp only [cnt1, List.getElem_map, List.getElem_range, List.countP_append, List.countP_singleton]
   by_cases hi : (x.f + 1).toNat = i
   ·rw [if_pos hi, hi]
    have : x.f + 1 = (i : Int) := by omega
    simp [this]
   ·rw [if_neg hi]
    have : ¬ x.f + 1 = (i : Int) := by omega
    simp [this]
theorem cnt2_zero (n : Nat) (es : List Ed) (h : ∀ x ∈ es, 0 ≤ x.f) : cnt2 n es 0 = cnt1 n es := by
 apply List.map_congr_left
 intro s _
 split
 ·have hs : s = 0 := by omega
  subst hs
  congr 1
  apply List.countP_congr
  intro x hx
  have := h x hx
  simp only [decide_eq_true_eq]
  constructor <;> intro <;> omega
 ·rfl
theorem cnt2_last (n : Nat) (es : List Ed) : cnt2 n es n = firsts n es := by
 apply List.map_congr_left
 intro s hs
 rw [if_pos (by simp at hs; omega)]
theorem cnt2_step (n : Nat) (es : List Ed) (j : Nat) (hj : j < n) : ∃ c d : Int, 0 ≤ c ∧ 0 ≤ d ∧ c ≤ es.length ∧ d ≤ es.length ∧ (ints (cnt2 n es j))[j + 1]? = some (.int .i64 c) ∧ (ints (cnt2 n es j))[j]? = some (.int .i64 d) ∧ ints (cnt2 n es (j + 1)) = (ints (cnt2 n es j)).set (j + 1) (.int .i64 (c + d)) := by
 refine ⟨((es.countP fun y => decide (y.f + 1 = ((j + 1 : Nat) : Int)) : Nat) : Int), ((es.countP fun y => decide (y.f < (j : Int)) : Nat) : Int), by omega, by omega, ?_, ?_, ?_, ?_, ?_⟩
 ·have := List.countP_le_length (p := fun y : Ed => decide (y.f + 1 = ((j + 1 : Nat) : Int))) (l := es); omega
 ·have := List.countP_le_length (p := fun y : Ed => decide (y.f < (j : Int))) (l := es); omega
 ·rw [List.getElem?_map, cnt2, List.getElem?_map, List.getElem?_range (by omega)]
  simp only [Option.map_some]
  rw [if_neg (by omega)]
 ·rw [List.getElem?_map, cnt2, List.getElem?_map, List.getElem?_range (by omega)]
  simp
 ·apply List.ext_getElem
  ·simp [cnt2]
  ·intro i g1 g2
   rw [List.getElem_set]
   simp only [cnt2, List.getElem_map, List.getElem_range]
   by_cases hi : j + 1 = i
   ·subst hi
    rw [if_pos rfl, if_pos (by omega)]
    congr 1
    rw [← Int.natCast_add]
    congr 1
    clear g1 g2 hj
    induction es with
    | nil => rfl
    | cons x xs ih =>
     simp only [List.countP_cons]
     rw [ih]
     by_cases h1 : x.f < (j : Int)
     ·have h2 : x.f < ((j + 1 : Nat) : Int) := by omega
      have h3 : ¬ x.f + 1 = ((j + 1 : Nat) : Int) := by omega
      simp only [h1, h2, h3, decide_true, decide_false]; simp; omega
     ·by_cases h3 : x.f + 1 = ((j + 1 : Nat) : Int)
      ·have h2 : x.f < ((j + 1 : Nat) : Int) := by omega
       simp only [h1, h2, h3, decide_true, decide_false]; simp; omega
      ·have h2 : ¬ x.f < ((j + 1 : Nat) : Int) := by omega
       simp only [h1, h2, h3, decide_false]; simp
   ·rw [if_neg hi]
    by_cases h1 : i ≤ j
    ·rw [if_pos h1, if_pos (by omega)]
    ·rw [if_neg h1, if_neg (by omega)]

theorem newGraph_any (aa am : Option Addr) (la lm ca cm : Nat) (ve : Value) (n : Nat) (es : List Ed) (w : World) (hr : RdE w ve es) (hl : es.length ≤ 1000000) (hn : n ≤ 1000000) (hin : ∀ x ∈ es, 0 ≤ x.f ∧ x.f < n) :
  Calls Tryz.prog 53 #[.agg #[.slice aa la ca, .int .i64 n, .slice am lm cm, ve]] w (Ret w fun u w' => ∃ af cf, u = .agg #[.slice aa la ca, .int .i64 n, .slice am lm cm, ve, .slice af (n + 1) cf] ∧ RdS w' 1 af (n + 1) cf (ints (firsts n es))) := by
 obtain ⟨a, cap, rfl, hr⟩ := hr
 obtain ⟨i0, hi, hz0, hz1, hz2⟩ := info_parts Tryz.info_int
 have Hin := Lib.hid hin
 clear hin
 have hmk := fun W : World => run_make (P := Tryz.prog) W 27 3 i0 (.int .i64 0) Tryz.underlying27 hi hz0 .i64 .i64 ((n : Int) + 1) ((n : Int) + 1) (by omega) (by omega) (by rw [hz2]; omega) (by omega)
 have hwr : IntKind.i64.wrap ((n : Int) + 1) = (n : Int) + 1 := IntWalk.i64_in _ (by omega)
 go_enter Tryz.func53, Tryz.ntmps53
 go_upto_region 1 with fail
 go_cut [3] (fun s3 wx => ∃ (g r : Nat) (tag : Nat → Nat), s3 = .pointer (some ⟨g, 0, none⟩) ∧ Below w.heap.size w wx ∧
  Own wx w.heap.size tag 0 w.heap.size #[.slice aa la ca, .int .i64 n, .slice am lm cm, .slice a es.length cap] 30 ∧
  Own wx w.heap.size tag 0 (w.heap.size + 1) #[.slice none 0 0, .int .i64 0, .slice none 0 0, .slice none 0 0, .slice none 0 0] 91 ∧
  Own wx w.heap.size tag 0 g #[.slice aa la ca, .int .i64 n, .slice am lm cm, .slice a es.length cap, .slice (some ⟨r, 0, none⟩) (n + 1) (n + 1)] 91 ∧
  Row wx w.heap.size tag 1 3 1 (.slice (some ⟨r, 0, none⟩) (n + 1) (n + 1)) (n + 1) (List.replicate (n + 1) (.int .i64 0)))
 case first =>
  go_region
  all_goals go_wp2
  all_goals go_meet
  all_goals
   first
   | exact ⟨w.heap.size + 2, w.heap.size + 3, fun b => if b = w.heap.size + 3 then 1 else 0, rfl, (by (repeat (first | with_reducible exact Below.refl _ _ | with_reducible exact hr | (with_reducible refine belCall ?_ hr (by first | omega | (simp; done) | (simp; omega) | (simp at *; omega))) | (with_reducible refine Below.alloc ?_ (by first | omega | (simp; done) | (simp; omega) | (simp at *; omega)) _) | (with_reducible refine Below.drew ?_) | (with_reducible refine Below.setCell ?_ (by first | omega | (simp; done) | (simp; omega) | (simp at *; omega)) _)))), ⟨(by repeat (first | with_reducible assumption | (refine heap_drewp ?_) | (refine heap_at ?_; (first | rfl | (simp; done) | (simp; omega))) | (refine heap_past ?_ ?_; (next => first | omega | (simp; done) | (simp; omega))))), by simp, by omega⟩, ⟨(by repeat (first | with_reducible assumption | (refine heap_drewp ?_) | (refine heap_at ?_; (first | rfl | (simp; done) | (simp; omega))) | (refine heap_past ?_ ?_; (next => first | omega | (simp; done) | (simp; omega))))), by simp, by omega⟩, ⟨(by repeat (first | with_reducible assumption | (refine heap_drewp ?_) | (refine heap_at ?_; (first | rfl | (simp; done) | (simp; omega))) | (refine heap_past ?_ ?_; (next => first | omega | (simp; done) | (simp; omega))))), by simp, by omega⟩, ⟨by simp, .inr ⟨_, 0, _, madeCells #[.int .i64 0] (n + 1), rfl, ⟨(by repeat (first | with_reducible assumption | (refine heap_drewp ?_) | (refine heap_at ?_; (first | rfl | (simp; done) | (simp; omega))) | (refine heap_past ?_ ?_; (next => first | omega | (simp; done) | (simp; omega))))), by simp, by omega⟩, by omega, by unfold maxLen; omega, by simp [size_madeCells], by simp [toList_madeCells_one]⟩⟩⟩
   | exact ⟨w.heap.size + 3, w.heap.size + 2, fun b => if b = w.heap.size + 2 then 1 else 0, rfl, (by (repeat (first | with_reducible exact Below.refl _ _ | with_reducible exact hr | (with_reducible refine belCall ?_ hr (by first | omega | (simp; done) | (simp; omega) | (simp at *; omega))) | (with_reducible refine Below.alloc ?_ (by first | omega | (simp; done) | (simp; omega) | (simp at *; omega)) _) | (with_reducible refine Below.drew ?_) | (with_reducible refine Below.setCell ?_ (by first | omega | (simp; done) | (simp; omega) | (simp at *; omega)) _)))), ⟨(by repeat (first | with_reducible assumption | (refine heap_drewp ?_) | (refine heap_at ?_; (first | rfl | (simp; done) | (simp; omega))) | (refine heap_past ?_ ?_; (next => first | omega | (simp; done) | (simp; omega))))), by simp, by omega⟩, ⟨(by repeat (first | with_reducible assumption | (refine heap_drewp ?_) | (refine heap_at ?_; (first | rfl | (simp; done) | (simp; omega))) | (refine heap_past ?_ ?_; (next => first | omega | (simp; done) | (simp; omega))))), by simp, by omega⟩, ⟨(by repeat (first | with_reducible assumption | (refine heap_drewp ?_) | (refine heap_at ?_; (first | rfl | (simp; done) | (simp; omega))) | (refine heap_past ?_ ?_; (next => first | omega | (simp; done) | (simp; omega))))), by simp, by omega⟩, ⟨by simp, .inr ⟨_, 0, _, madeCells #[.int .i64 0] (n + 1), rfl, ⟨(by repeat (first | with_reducible assumption | (refine heap_drewp ?_) | (refine heap_at ?_; (first | rfl | (simp; done) | (simp; omega))) | (refine heap_past ?_ ?_; (next => first | omega | (simp; done) | (simp; omega))))), by simp, by omega⟩, by omega, by unfold maxLen; omega, by simp [size_madeCells], by simp [toList_madeCells_one]⟩⟩⟩
 case rest =>
  obtain ⟨g, r, tag, rfl, hB, hb0, hb1, hg, hrow⟩ := hcut
  clear hmk
  have e3 : wc.cell? ⟨w.heap.size, 3, none⟩ = some (.slice a es.length cap) := hb0.cell 3
  go_wp2_with fail
  clear e3
  go_loopw [16] (fun j wr => ∃ (k : Nat) (tag : Nat → Nat), k ≤ es.length ∧ j = .int .i64 k ∧ Below w.heap.size w wr ∧
   Own wr w.heap.size tag 0 w.heap.size #[.slice aa la ca, .int .i64 n, .slice am lm cm, .slice a es.length cap] 30 ∧
   Own wr w.heap.size tag 0 (w.heap.size + 1) #[.slice none 0 0, .int .i64 0, .slice none 0 0, .slice none 0 0, .slice none 0 0] 91 ∧
   Own wr w.heap.size tag 0 g #[.slice aa la ca, .int .i64 n, .slice am lm cm, .slice a es.length cap, .slice (some ⟨r, 0, none⟩) (n + 1) (n + 1)] 91 ∧
   Row wr w.heap.size tag 1 3 1 (.slice (some ⟨r, 0, none⟩) (n + 1) (n + 1)) (n + 1) (ints (cnt1 n (es.take k)))) (fun j _ => es.length - (intOf j).toNat)
  case atStart => exact ⟨0, tag, Nat.zero_le _, rfl, hB, hb0, hb1, hg, by rw [List.take_zero, cnt1_nil]; exact hrow⟩
  case round =>
   clear hB hb0 hb1 hg hrow
   obtain ⟨k, tag, hk, rfl, hB, hb0, hb1, hg, hrow⟩ := hrel
   by_cases hlt : k < es.length
   ·obtain ⟨b, off, rfl, c0, c1, c2⟩ := hr.at_edge k hlt
    obtain ⟨hx0, hx1⟩ := Hin.out es[k] (List.getElem_mem hlt)
    replace c0 := keep0 hB c0
    replace c1 := keep0 hB c1
    replace c2 := keep0 hB c2
    obtain ⟨c, d0, d1, d2, d3⟩ := cnt1_snoc n (es.take k) es[k] hx0 hx1
    have hlk : (es.take k).length ≤ 1000000 := by simp; omega
    have hgl := hg.lt
    have e4 : wr.cell? ⟨g, 4, none⟩ = some (.slice (some ⟨r, 0, none⟩) (n + 1) (n + 1)) := hg.cell 4
    have e5 := hrow.cellAt (es[k].f + 1).toNat (by omega)
    rw [d2, Nat.zero_add] at e5
    have e6 := hrow.frozenAt (es[k].f + 1).toNat
    obtain ⟨_, _, _, e7, hrl, _⟩ := hrow.addr (by omega)
    cases e7
    have hst := hrow.set (es[k].f + 1).toNat (.int .i64 (c + 1))
    rw [Nat.zero_add, ← d3, ← take_snoc es k hlt] at hst
    have Hst := Lib.hid hst
    clear d2 d3 hst
    go_wp2
    go_roundw
    case rel => exact ⟨k + 1, tag, by omega, by go_num, (belTurn hB Hst.out.2 hB.size).alloc (by simp; exact hB.size) _, (hb0.turn Hst.out.2 (by decide)).below (bel_alloc _ _), (hb1.turn Hst.out.2 (by decide)).below (bel_alloc _ _), (hg.turn Hst.out.2 (by decide)).below (bel_alloc _ _), Hst.out.1.below (bel_alloc _ _)⟩
    case measure => simp [intOf]; omega
   ·obtain rfl : k = es.length := by omega
    rw [List.take_length] at hrow
    have e1 : wr.cell? ⟨w.heap.size, 1, none⟩ = some (.int .i64 n) := hb0.cell 1
    rw [← cnt2_zero n es (fun x hx => (Hin.out x hx).1)] at hrow
    go_wp2_with fail
    clear e1
    go_loopw [32] (fun j wr => ∃ (k : Nat) (tag : Nat → Nat), k ≤ n ∧ j = .int .i64 k ∧ Below w.heap.size w wr ∧
     Own wr w.heap.size tag 0 (w.heap.size + 1) #[.slice none 0 0, .int .i64 0, .slice none 0 0, .slice none 0 0, .slice none 0 0] 91 ∧
     Own wr w.heap.size tag 0 g #[.slice aa la ca, .int .i64 n, .slice am lm cm, .slice a es.length cap, .slice (some ⟨r, 0, none⟩) (n + 1) (n + 1)] 91 ∧
     Row wr w.heap.size tag 1 3 1 (.slice (some ⟨r, 0, none⟩) (n + 1) (n + 1)) (n + 1) (ints (cnt2 n es k))) (fun j _ => n - (intOf j).toNat)
    case atStart => exact ⟨0, tag, Nat.zero_le _, rfl, hB, hb1, hg, hrow⟩
    case round =>
     clear hB hb0 hb1 hg hrow
     obtain ⟨k, tag, hk, rfl, hB, hb1, hg, hrow⟩ := hrel
     by_cases hlt : k < n
     ·obtain ⟨c, d, d0, d1, d2, d3, d4, d5, d6⟩ := cnt2_step n es k hlt
      have hgl := hg.lt
      have e4 : wr.cell? ⟨g, 4, none⟩ = some (.slice (some ⟨r, 0, none⟩) (n + 1) (n + 1)) := hg.cell 4
      have e5 := hrow.cellAt (k + 1) (by omega)
      have e6 := hrow.cellAt k (by omega)
      rw [d4, Nat.zero_add] at e5
      rw [d5, Nat.zero_add] at e6
      have e7 := hrow.frozenAt (k + 1)
      obtain ⟨_, _, _, e8, hrl, _⟩ := hrow.addr (by omega)
      cases e8
      have hst := hrow.set (k + 1) (.int .i64 (c + d))
      rw [Nat.zero_add, ← d6] at hst
      have Hst := Lib.hid hst
      clear d4 d5 d6 hst
      go_wp2
      go_region
      go_wp2
      go_roundw
      case rel => exact ⟨k + 1, tag, by omega, by go_num, (belTurn hB Hst.out.2 hB.size).drew, (hb1.turn Hst.out.2 (by decide)).below (bel_drew _), (hg.turn Hst.out.2 (by decide)).below (bel_drew _), Hst.out.1.below (bel_drew _)⟩
      case measure => simp [intOf]; omega
     ·obtain rfl : n = k := by omega
      have g0 : wr.cell? ⟨g, 0, none⟩ = some (Value.slice aa la ca) := hg.cell 0
      have g1 : wr.cell? ⟨g, 1, none⟩ = some (Value.int .i64 n) := hg.cell 1
      have g2 : wr.cell? ⟨g, 2, none⟩ = some (Value.slice am lm cm) := hg.cell 2
      have g3 : wr.cell? ⟨g, 3, none⟩ = some (Value.slice a es.length cap) := hg.cell 3
      have g4 : wr.cell? ⟨g, 4, none⟩ = some (Value.slice (some ⟨r, 0, none⟩) (n + 1) (n + 1)) := hg.cell 4
      have z0 : wr.cell? ⟨w.heap.size + 1, 0, none⟩ = some (Value.slice none 0 0) := hb1.cell 0
      have y0 := hb1.frozen 0
      have z1 : wr.cell? ⟨w.heap.size + 1, 1, none⟩ = some (Value.int .i64 0) := hb1.cell 1
      have y1 := hb1.frozen 1
      have z2 : wr.cell? ⟨w.heap.size + 1, 2, none⟩ = some (Value.slice none 0 0) := hb1.cell 2
      have y2 := hb1.frozen 2
      have z3 : wr.cell? ⟨w.heap.size + 1, 3, none⟩ = some (Value.slice none 0 0) := hb1.cell 3
      have y3 := hb1.frozen 3
      have z4 : wr.cell? ⟨w.heap.size + 1, 4, none⟩ = some (Value.slice none 0 0) := hb1.cell 4
      have y4 := hb1.frozen 4
      go_wp2
      have t0 := Turn.setCell hb1 0 (Value.slice aa la ca)
      have b0 := hb1.set 0 (Value.slice aa la ca)
      have t1 := Turn.setCell b0 1 (Value.int .i64 n)
      have b1 := b0.set 1 (Value.int .i64 n)
      have t2 := Turn.setCell b1 2 (Value.slice am lm cm)
      have b2 := b1.set 2 (Value.slice am lm cm)
      have t3 := Turn.setCell b2 3 (Value.slice a es.length cap)
      have b3 := b2.set 3 (Value.slice a es.length cap)
      have t4 := Turn.setCell b3 4 (Value.slice (some ⟨r, 0, none⟩) (n + 1) (n + 1))
      have b4 := b3.set 4 (Value.slice (some ⟨r, 0, none⟩) (n + 1) (n + 1))
      have T := t0.trans (t1.trans (t2.trans (t3.trans t4)))
      have hrow' := hrow.turn T (by decide)
      rw [cnt2_last] at hrow'
      obtain ⟨_, _, e9, hrd⟩ := hrow'.rd
      cases e9
      exact bodyPost_ret (v := .agg #[.slice aa la ca, .int .i64 n, .slice am lm cm, .slice a es.length cap, .slice (some ⟨r, 0, none⟩) (n + 1) (n + 1)]) (by simp [results, Tryz.results53, go_sem, z0, z1, z2, z3, z4]) rfl ⟨_, rfl, ⟨_, _, rfl, hrd⟩, belTurn hB T hB.size⟩
end Go.Proofs.YtfbapajcheammaaGreatDoor

namespace Go.Proofs.YtfbapajcheammaaGreatDoor
open Go.RowKit Go.Shelf
attribute [local go_sem] Oper.semAt_some

def Ed.val (x : Ed) : Value := .agg #[.int .i64 x.f, .int .i64 x.e, .int .i64 x.t]
def edEnc {sub : List Ed} (x : { x : Ed // x ∈ sub }) : Array Value := #[x.1.val]

set_option maxHeartbeats 2000000 in
theorem edges1_in (l bg bs n₀ : Nat) (ae af : Option Addr) (ce lf cf : Nat) (s : Int) (es : List Ed) (lo hi : Nat) (hlo : lo < hi) (hhi : hi ≤ es.length) (hl : es.length ≤ 1000000)
  (J Jx : List { x : Ed // x ∈ (es.drop lo).take (hi - lo) } → World → Prop)
  (W : World) (habJ : AbidesFrom W.heap.size J) (hn0 : n₀ ≤ W.heap.size)
  (hY : ∀ pre x W, J pre W → pre.length < hi - lo → YieldAt Fence.wide 2 Tryz.prog l (edEnc x) W fun e W' =>
   (e = .returned (.bool true) ∧ J (pre ++ [x]) W' ∧ Below n₀ W W') ∨ (e = .returned (.bool false) ∧ Jx (pre ++ [x]) W'))
  (hg3 : W.cell? ⟨bg, 3, none⟩ = some (.slice ae es.length ce)) (hg4 : W.cell? ⟨bg, 4, none⟩ = some (.slice af lf cf)) (hs : W.cell? ⟨bs, 0, none⟩ = some (.int .i64 s)) (hs0 : 0 ≤ s) (hs1 : s + 1 < lf)
  (bf offf : Nat) (haf : af = some ⟨bf, offf, none⟩) (hlf : lf ≤ 1000001) (hf0 : W.cell? ⟨bf, offf + s.toNat, none⟩ = some (.int .i64 lo)) (hf1 : W.cell? ⟨bf, offf + (s + 1).toNat, none⟩ = some (.int .i64 hi))
  (hre : RdS W 3 ae es.length ce (edCells es)) (hbe : ∀ ad, ae = some ad → ad.block < n₀) (h0 : J [] W) :
  CallsIn Fence.wide 3 Tryz.prog 96 #[.func (.yield l) #[] #[], .pointer (some ⟨bg, 0, none⟩), .pointer (some ⟨bs, 0, none⟩)] W fun e W' => (∃ v, e = .returned v) ∧
   ((∃ ys, ys.map (·.1) = (es.drop lo).take (hi - lo) ∧ J ys W') ∨ (∃ pre, Jx pre W')) := by
 refine callsIn_of_wp Tryz.func96 rfl trivial ?_ rfl
 simp only [Tryz.ntmps96, List.size_toArray, List.length_cons, List.length_nil, Nat.reduceAdd, Nat.reduceSub, Array.replicate_succ, Array.replicate_zero, List.push_toArray, List.append_toArray, List.nil_append, List.cons_append]
 subst haf
 obtain ⟨be, offe, rfl, _⟩ := hre.at_elem lo (by omega)
 have hcap := hre.hcap
 have hne : ¬ ce = lo := by omega
 have Hre := Lib.hid hre
 have hbe' := hbe _ rfl
 have w1 : IntKind.i64.wrap (s + 1) = s + 1 := IntWalk.i64_in _ (by omega)
 clear hbe hre
 gi_wp2_with fail
 gi_region
 all_goals gi_wp2
 gi_loopw [22] (fun i wr => ∃ k : Nat, k ≤ hi - lo ∧ i = .int .i64 k ∧ (∃ ys, ys.map (·.1) = ((es.drop lo).take (hi - lo)).take k ∧ J ys wr) ∧ Below n₀ W wr) (fun i _ => hi - lo - (intOf i).toNat)
 case atStart => exact ⟨0, Nat.zero_le _, rfl, ⟨[], by simp, habJ [] W W.drew none h0 ⟨rfl, rfl, rfl, Nat.le_refl _, fun _ _ _ => rfl⟩ (fun r e => (by cases e))⟩, (Below.refl _ _).drew⟩
 case round =>
  obtain ⟨k, hk, rfl, ⟨ys, hys, hJ⟩, hB⟩ := hrel
  by_cases hlt : k < hi - lo
  ·have hlen : ys.length = k := by
    have := congrArg List.length hys
    simp at this; omega
   have hsub : k < ((es.drop lo).take (hi - lo)).length := by simp; omega
   have hel : ((es.drop lo).take (hi - lo))[k] = es[lo + k] := by simp
   obtain ⟨be', offe', e1, c0, c1, c2⟩ := Hre.out.at_edge (lo + k) (by omega)
   cases e1
   rw [show offe + (lo + k) * 3 = offe + lo * 3 + k * 3 by omega] at c0 c1 c2
   replace c0 := keep hB c0 hbe'
   replace c1 := keep hB c1 hbe'
   replace c2 := keep hB c2 hbe'
   have hJ2 := habJ ys wr (wr.alloc (.cells #[.int .i64 es[lo + k].f, .int .i64 es[lo + k].e, .int .i64 es[lo + k].t] 62)) none hJ (World.grownBy_alloc _ _ _) (fun r e => (by cases e))
   obtain ⟨fn, tmps, assign, body, hy, hR⟩ := hY ys ⟨es[lo + k], hel ▸ List.getElem_mem hsub⟩ _ hJ2 (by omega)
   dsimp only [edEnc, Ed.val] at hy
   gi_wp2
   refine hR.mono ?_
   rintro e W3 (⟨rfl, hJ3, hk3⟩ | ⟨rfl, hJx3⟩)
   ·gi_wp2
    go_roundw
    case rel => exact ⟨k + 1, by omega, by go_num, ⟨_, by rw [List.map_append, hys, take_snoc _ k hsub]; simp, hJ3⟩, (hB.alloc (by have := hB.size; omega) _).trans hk3⟩
    case measure => simp [intOf]; omega
   ·gi_wp2
    refine bodyPost_ret (results_none rfl _ _ _) rfl ?_
    exact ⟨⟨_, rfl⟩, .inr ⟨_, hJx3⟩⟩
  ·obtain rfl : k = hi - lo := by omega
   gi_wp2
   go_end0
   exact ⟨⟨_, rfl⟩, .inl ⟨ys, by rw [hys, List.take_of_length_le (by simp; omega)], hJ⟩⟩
end Go.Proofs.YtfbapajcheammaaGreatDoor

namespace Go.Proofs.YtfbapajcheammaaGreatDoor
open Go.RowKit Go.Shelf
attribute [local go_sem] Oper.semAt_some

set_option maxHeartbeats 2000000 in
theorem edges0_in {α : Type} (l bg bs : Nat) (ae : Option Addr) (ce lf cf : Nat) (s : Int) (es : List Ed) (lo : Nat) (hhi : lo ≤ es.length) (hl : es.length ≤ 1000000)
  (J : List α → World → Prop) (W : World) (habJ : AbidesFrom W.heap.size J)
  (hs0 : 0 ≤ s) (hs1 : s + 1 < lf)
  (bf offf : Nat) (hg3 : W.cell? ⟨bg, 3, none⟩ = some (.slice ae es.length ce)) (hg4 : W.cell? ⟨bg, 4, none⟩ = some (.slice (some ⟨bf, offf, none⟩) lf cf)) (hs : W.cell? ⟨bs, 0, none⟩ = some (.int .i64 s)) (hlf : lf ≤ 1000001) (hf0 : W.cell? ⟨bf, offf + s.toNat, none⟩ = some (.int .i64 lo)) (hf1 : W.cell? ⟨bf, offf + (s + 1).toNat, none⟩ = some (.int .i64 lo))
  (hre : RdS W 3 ae es.length ce (edCells es)) (h0 : J [] W) :
  CallsIn Fence.wide 3 Tryz.prog 96 #[.func (.yield l) #[] #[], .pointer (some ⟨bg, 0, none⟩), .pointer (some ⟨bs, 0, none⟩)] W fun e W' => (∃ v, e = .returned v) ∧ J [] W' := by
 have hD := habJ [] W W.drew none h0 ⟨rfl, rfl, rfl, Nat.le_refl _, fun _ _ _ => rfl⟩ (fun r e => (by cases e))
 have HD := Lib.hid hD
 clear hD h0 habJ
 have w1 : IntKind.i64.wrap (s + 1) = s + 1 := IntWalk.i64_in _ (by omega)
 have hcap := hre.hcap
 refine callsIn_of_wp Tryz.func96 rfl trivial ?_ rfl
 simp only [Tryz.ntmps96, List.size_toArray, List.length_cons, List.length_nil, Nat.reduceAdd, Nat.reduceSub, Array.replicate_succ, Array.replicate_zero, List.push_toArray, List.append_toArray, List.nil_append, List.cons_append]
 cases ae with
 | none =>
  obtain rfl : ce = 0 := hre.hnil rfl
  have h1 : es = [] := List.eq_nil_of_length_eq_zero (by omega)
  subst h1
  obtain rfl : lo = 0 := by simpa using hhi
  simp only [List.length_nil] at hg3
  clear hre
  gi_wp2_with fail
  gi_region
  gi_wp2
  gi_loopw [22] (fun i wr => i = .int .i64 0 ∧ J [] wr) (fun i _ => 0)
  case atStart => exact ⟨rfl, HD.out⟩
  case round =>
   obtain ⟨rfl, hJ⟩ := hrel
   gi_wp2
   go_end0
   exact ⟨⟨_, rfl⟩, hJ⟩
 | some ad =>
  obtain ⟨be, offe, sp⟩ := ad
  obtain rfl : sp = none := hre.spot _ rfl
  clear hre
  by_cases hne : ce = lo
  all_goals
   gi_wp2_with fail
   gi_region
   gi_wp2
   gi_loopw [22] (fun i wr => i = .int .i64 0 ∧ J [] wr) (fun i _ => 0)
   case atStart => exact ⟨rfl, HD.out⟩
   case round =>
    obtain ⟨rfl, hJ⟩ := hrel
    gi_wp2
    go_end0
    exact ⟨⟨_, rfl⟩, hJ⟩
end Go.Proofs.YtfbapajcheammaaGreatDoor

namespace Go.Proofs.YtfbapajcheammaaGreatDoor
open Go.RowKit Go.Shelf

theorem keepsBelow {B : Nat} {w w' : World} (h : Below w.heap.size w w') : KeepsFrom B w w' := ⟨h.size, fun k _ _ hk _ => (h.block k (Array.getElem?_eq_some_iff.1 hk).1).trans hk⟩
theorem keepsTurn {B B' : Nat} {w w' : World} {tag tag' : Nat → Nat} {k : Nat} (h : Turn B' tag tag' k w w') : KeepsFrom B w w' := ⟨h.size, fun b o _ hb hc => h.keep b o hb hc⟩

def mark (D : Nat) : Deferred := { target := .collected D, args := #[] }
def Marks (B : Nat) (w : World) (ds : List Deferred) : Prop := ∃ Ds : List Nat, ds = Ds.map mark ∧ Ds.Nodup ∧ ∀ D ∈ Ds, B ≤ D ∧ w.heap[D]? = some (.deferred (some []))
structure Quiet (B : Nat) (w w' : World) : Prop where
 below : Below B w w'
 cells : ∀ (b : Nat) (cs : Array Value) (t : TypeId) (fr : Nat × Nat), w.heap[b]? = some (Obj.cells cs t fr) → w'.heap[b]? = some (Obj.cells cs t fr)
theorem Quiet.refl (B : Nat) (w : World) : Quiet B w w := ⟨Below.refl _ _, fun _ _ _ _ h => h⟩
theorem Quiet.trans {B : Nat} {a b c : World} (h : Quiet B a b) (k : Quiet B b c) : Quiet B a c := ⟨h.below.trans k.below, fun b cs t fr hb => k.cells b cs t fr (h.cells b cs t fr hb)⟩
theorem Quiet.row {w w' : World} {B B' : Nat} {tag : Nat → Nat} {k : Nat} {t : TypeId} {sz : Nat} {v : Value} {n : Nat} {cs : List Value} (hq : Quiet B w w') (h : Row w B' tag k t sz v n cs) : Row w' B' tag k t sz v n cs :=
 ⟨h.1, h.2.imp id fun ⟨b, off, cap, cur, h1, h2, h3⟩ => ⟨b, off, cap, cur, h1, ⟨hq.cells _ _ _ _ h2.heap, h2.htag, h2.base⟩, h3⟩⟩
theorem Marks.nil (B : Nat) (w : World) : Marks B w [] := ⟨[], rfl, List.nodup_nil, fun _ h => by cases h⟩
theorem Marks.turn {B B' : Nat} {w w' : World} {tag tag' : Nat → Nat} {k : Nat} {ds : List Deferred} (h : Marks B w ds) (ht : Turn B' tag tag' k w w') : Marks B w' ds := by
 obtain ⟨Ds, h1, h2, h3⟩ := h
 exact ⟨Ds, h1, h2, fun D hD => ⟨(h3 D hD).1, ht.keep _ _ (h3 D hD).2 rfl⟩⟩
theorem Marks.below {B : Nat} {w w' : World} {ds : List Deferred} (h : Marks B w ds) (hb : Below w.heap.size w w') : Marks B w' ds :=
 h.turn (Turn.below (B := 0) (tag := fun _ => 0) (k := 0) hb)
theorem Marks.cons {B s D : Nat} {w : World} {ds : List Deferred} (h : Marks B w ds) (hs : ∀ D', mark D' ∈ ds → D' < s) (hD : s ≤ D) (hB : B ≤ D) (hd : w.heap[D]? = some (.deferred (some []))) : Marks B w (mark D :: ds) := by
 obtain ⟨Ds, rfl, h2, h3⟩ := h
 refine ⟨D :: Ds, rfl, List.nodup_cons.2 ⟨fun hm => ?_, h2⟩, fun D' hD' => ?_⟩
 ·have := hs D (List.mem_map.2 ⟨D, hm, rfl⟩); omega
 ·rcases List.mem_cons.1 hD' with rfl | h4
  ·exact ⟨hB, hd⟩
  ·exact h3 D' h4
theorem Marks.lt {B D : Nat} {w : World} {ds : List Deferred} (h : Marks B w ds) (hm : mark D ∈ ds) : D < w.heap.size := by
 obtain ⟨Ds, rfl, h2, h3⟩ := h
 obtain ⟨D', h4, h5⟩ := List.mem_map.1 hm
 cases h5
 exact (Array.getElem?_eq_some_iff.1 (h3 _ h4).2).1

theorem leavesM {F : Fence} {n : Nat} {P : Program} {fn : Func} {tmps : Array Value} {R : Ending → World → Prop} {B : Nat} : ∀ (Ds : List Nat) (w : World), Ds.Nodup → (∀ D ∈ Ds, B ≤ D ∧ w.heap[D]? = some (.deferred (some []))) →
  (∀ w', Quiet B w w' → ∃ v, (results fn tmps).run P w' = .ok v w' ∧ R (.returned v) w') → LeavesInM F n P fn tmps R (Ds.map mark) .returning w
 | [], w, _, _, hfin => hfin w (Quiet.refl _ _)
 | D :: Ds, w, hnd, hD, hfin => by
  obtain ⟨hB, hd⟩ := hD D (List.mem_cons_self ..)
  have hlt := (Array.getElem?_eq_some_iff.1 hd).1
  have hq : Quiet B w (w.putObj D (.deferred none)) := by
   refine ⟨(Below.refl B w).grown (grownBy_putObj' w D _) (by omega) (fun k e => by cases e; exact hB), fun b cs t fr h => ?_⟩
   rw [World.putObj_heap_other ?_, h]
   rintro rfl
   rw [hd] at h; cases h
  refine ⟨by simp, .inl ⟨D, _, rfl, run_takeDeferred hd, leavesM Ds _ (List.nodup_cons.1 hnd).2 (fun D' hD' => ⟨(hD D' (List.mem_cons_of_mem _ hD')).1, ?_⟩) fun w' hw' => hfin w' (hq.trans hw')⟩⟩
  rw [World.putObj_heap_other ?_]
  ·exact (hD D' (List.mem_cons_of_mem _ hD')).2
  ·rintro rfl; exact (List.nodup_cons.1 hnd).1 hD'
theorem bodyPostM_ret {n : Nat} {P : Program} {fn : Func} {R : Ending → World → Prop} {B : Nat} {tmps : Array Value} {ds : List Deferred} {w : World} (hM : Marks B w ds)
  (hfin : ∀ w', Quiet B w w' → ∃ v, (results fn tmps).run P w' = .ok v w' ∧ R (.returned v) w') : bodyPostM Fence.wide n P fn R .ret { tmps := tmps, defers := ds } w := by
 obtain ⟨Ds, rfl, h2, h3⟩ := hM
 exact leavesM Ds w h2 h3 hfin
theorem calls_of_marks {P : Program} {f : FuncId} {fn : Func} {c : Code} {args : Array Value} {w : World} {R : Ending → World → Prop} (hf : P.funcs[f]? = some fn) (hb : fn.body = some c)
  (h : c.wp P (bodyPostM Fence.wide 4 P fn R) { tmps := args ++ Array.replicate (fn.ntmps - args.size) undef, defers := [] } w) : Calls P f args w R :=
 (callsIn_wide (n := 4)).1 (callsIn_of_wp_marks hf hb trivial (wpIn_wide.2 h) rfl)
end Go.Proofs.YtfbapajcheammaaGreatDoor

namespace Go.Proofs.YtfbapajcheammaaGreatDoor
open Go.RowKit Go.Shelf

theorem edges_any (aa am ae af : Option Addr) (la lm le lf ca cm ce cf : Nat) (n s : Int) (w : World) :
  Calls Tryz.prog 65 #[.agg #[.slice aa la ca, .int .i64 n, .slice am lm cm, .slice ae le ce, .slice af lf cf], .int .i64 s] w fun e w' =>
   e = .returned (.func (.func 96) #[] #[.pointer (some ⟨w.heap.size, 0, none⟩), .pointer (some ⟨w.heap.size + 1, 0, none⟩)]) ∧
   w' = (w.alloc (.cells #[.slice aa la ca, .int .i64 n, .slice am lm cm, .slice ae le ce, .slice af lf cf] 91)).alloc (.cells #[.int .i64 s] 3) := by
 have hmf : ∀ (fn : Fn) (first cap : Array Value) (w : World), (Instr.makeFunc fn first cap).run Tryz.prog w = .ok (.func fn first cap) w := fun _ _ _ _ => rfl
 go_enter Tryz.func65, Tryz.ntmps65
 go_wp2
 go_ret
 exact ⟨rfl, rfl⟩

def edSub (es : List Ed) (lo hi : Nat) : List Ed := (es.drop lo).take (hi - lo)

theorem edges_stops (bg bs n₀ : Nat) (ae af : Option Addr) (ce lf cf : Nat) (s : Int) (es : List Ed) (lo hi : Nat) (hlo : lo ≤ hi) (hhi : hi ≤ es.length) (hl : es.length ≤ 1000000) (w : World) (hn0 : n₀ ≤ w.heap.size)
  (hg3 : w.cell? ⟨bg, 3, none⟩ = some (.slice ae es.length ce)) (hg4 : w.cell? ⟨bg, 4, none⟩ = some (.slice af lf cf)) (hs : w.cell? ⟨bs, 0, none⟩ = some (.int .i64 s)) (hs0 : 0 ≤ s) (hs1 : s + 1 < lf)
  (bf offf : Nat) (haf : af = some ⟨bf, offf, none⟩) (hlf : lf ≤ 1000001) (hf0 : w.cell? ⟨bf, offf + s.toNat, none⟩ = some (.int .i64 lo)) (hf1 : w.cell? ⟨bf, offf + (s + 1).toNat, none⟩ = some (.int .i64 hi))
  (hre : RdS w 3 ae es.length ce (edCells es)) (hbe : 0 < es.length → ∀ ad, ae = some ad → ad.block < n₀) :
  SeqStopsK Fence.wide 3 Tryz.prog 96 #[.pointer (some ⟨bg, 0, none⟩), .pointer (some ⟨bs, 0, none⟩)] (edEnc (sub := edSub es lo hi)) (Below n₀) (fun ys => ys.map (·.1) = edSub es lo hi) (fun _ => True) (hi - lo) w := by
 intro l J Jx W hW hJ hJx hY h0
 by_cases h : lo < hi
 ·have hb := edges1_in l bg bs n₀ ae af ce lf cf s es lo hi h hhi hl J Jx W hJ (Nat.le_trans hn0 hW.size) hY (keep0 hW hg3) (keep0 hW hg4) (keep0 hW hs) hs0 hs1 bf offf haf hlf (keep0 hW hf0) (keep0 hW hf1) (hre.mono hW) (hbe (by omega)) h0
  refine hb.mono ?_
  rintro e W' ⟨h1, h2⟩
  exact ⟨h1, h2.imp id fun ⟨pre, hp⟩ => ⟨pre, trivial, hp⟩⟩
 ·obtain rfl : lo = hi := by omega
  subst haf
  have hb := edges0_in l bg bs ae ce lf cf s es lo hhi hl J W hJ hs0 hs1 bf offf (keep0 hW hg3) (keep0 hW hg4) (keep0 hW hs) hlf (keep0 hW hf0) (keep0 hW hf1) (hre.mono hW) h0
  refine hb.mono ?_
  rintro e W' ⟨h1, h2⟩
  exact ⟨h1, .inl ⟨[], by simp [edSub], h2⟩⟩


theorem wp_edges {g : Operand} {ps : Array Tmp} {assign body : Code} {Q : Exit → Act → World → Prop} {a : Act} {w : World} {bg bs n₀ N : Nat} {sub : List Ed} {w0 : World}
  (hg : a.eval g = .func (.func 96) #[] #[.pointer (some ⟨bg, 0, none⟩), .pointer (some ⟨bs, 0, none⟩)])
  (hseq : SeqStopsK Fence.wide 3 Tryz.prog 96 #[.pointer (some ⟨bg, 0, none⟩), .pointer (some ⟨bs, 0, none⟩)] (edEnc (sub := sub)) (Below n₀) (fun ys => ys.map (·.1) = sub) (fun _ => True) N w0)
  (hb0 : Below w0.heap.size w0 w) (hn0 : n₀ ≤ w.heap.size) (hps : ps.size = 1)
  (I : List Ed → World → Prop) (hI : OwnFrom w.heap.size I) (h0 : I [] w) (Ax : Ed → Act → World → Prop) (hAx : ∀ x a', OwnFrom w.heap.size (fun (_ : Unit) W => Ax x a' W))
  (hassign : ∀ (l : Nat) (pre : List Ed) (x : Ed) (W : World) (K : Act → World → Prop), x ∈ sub → I pre W → (∀ a' W', KeepsFrom w.heap.size W W' → Below n₀ W W' → I pre W' → Ax x a' W' → K a' W') →
   assign.wpIn (Fence.wide.inRound l) 2 Tryz.prog (Exit.then K (fun _ _ _ => False)) { tmps := (ps.zip #[x.val]).foldl (fun t (p, v) => t.setIfInBounds p v) a.tmps, defers := [] } W)
  (hbody : ∀ (l : Nat) (pre : List Ed) (x : Ed) (a' : Act) (W : World), x ∈ sub → w.heap.size ≤ l → I pre W → Ax x a' W →
   body.wpIn (Fence.wide.inRound l) 2 Tryz.prog (ownPostG w.heap.size (Below n₀) I (fun _ _ _ => False) (pre ++ [x]) W) a' W)
  (hdone : ∀ (D : Nat) (W : World), w.heap.size ≤ D → I sub W → W.heap[D]? = some (.deferred (some [])) → Q .normal { a with defers := mark D :: a.defers } W) :
  (Code.rangeFunc g ps assign body).wp Tryz.prog Q a w := by
 refine wpIn_wide.1 (wpIn_rangeFunc_ownH (n := 4) rfl (by decide) hg trivial (enters_of Tryz.func96 (by kernel_rfl) rfl) hseq belowK_t (belowK_b hn0) hb0 (fun _ => by simp [edEnc, hps])
  (fun (pre : List { x : Ed // x ∈ sub }) W => I (pre.map (fun y => y.1)) W) (fun _ _ _ => False) (fun pre W W' row h1 h2 h3 => hI (pre.map (fun y => y.1)) W W' row h1 h2 h3) (fun _ _ _ _ _ h _ _ => h) h0 (fun x a' W => Ax x.1 a' W) (fun x a' => hAx x.1 a')
  (fun l pre x W K hi hK => hassign l (pre.map (fun y => y.1)) x.1 W K x.2 hi hK) (fun l pre x a' W hl _ hi hax _ => ?_) (fun D ys W hD hS hi hd => ?_) (fun _ _ _ _ _ _ h => h.elim))
 ·have := hbody l (pre.map (fun y => y.1)) x.1 a' W x.2 hl hi hax
  refine wpIn_mono this ?_
  intro e a2 W2 h2
  cases e <;> simp only [ownPostG] at h2 ⊢
  ·exact ⟨h2.1, h2.2.1, by rw [List.map_append]; exact h2.2.2⟩
  all_goals exact h2
 ·exact hdone D W hD (by rw [← hS]; exact hi) hd
end Go.Proofs.YtfbapajcheammaaGreatDoor

namespace Go.Proofs.YtfbapajcheammaaGreatDoor
open Go.RowKit Go.Shelf

structure St where
 s : Int
 p : Int
 e : Int
def St.cells (x : St) : List Value := [.int .i64 x.s, .int .i64 x.p, .int .i64 x.e]
abbrev stCells (l : List St) : List Value := l.flatMap St.cells
theorem Own.others {w w' : World} {B : Nat} {tag : Nat → Nat} {k b : Nat} {cs : Array Value} {t : TypeId} {row : Option Nat} (h : Own w B tag k b cs t) (hg : w.grownBy w' row) (hr : ∀ r, row = some r → ∃ o : Obj, w.heap[r]? = some o ∧ o.isCells = false) : Own w' B tag k b cs t := by
 refine ⟨(hg.block b h.lt (fun e => ?_)).trans h.heap, h.htag, h.base⟩
 obtain ⟨o, ho, hc⟩ := hr b e.symm
 rw [h.heap] at ho
 cases ho
 cases hc
theorem Row.others {w w' : World} {B : Nat} {tag : Nat → Nat} {k : Nat} {t : TypeId} {sz : Nat} {v : Value} {n : Nat} {cs : List Value} {row : Option Nat} (h : Row w B tag k t sz v n cs) (hg : w.grownBy w' row) (hr : ∀ r, row = some r → ∃ o : Obj, w.heap[r]? = some o ∧ o.isCells = false) : Row w' B tag k t sz v n cs :=
 ⟨h.1, h.2.imp id fun ⟨b, off, cap, cur, h1, h2, h3⟩ => ⟨b, off, cap, cur, h1, h2.others hg hr, h3⟩⟩
theorem Marks.others {w w' : World} {B s : Nat} {ds : List Deferred} {row : Option Nat} (h : Marks B w ds) (hs : ∀ D, mark D ∈ ds → D < s) (hg : w.grownBy w' row) (hr : ∀ r, row = some r → s ≤ r) : Marks B w' ds := by
 obtain ⟨Ds, rfl, h2, h3⟩ := h
 refine ⟨Ds, rfl, h2, fun D hD => ⟨(h3 D hD).1, (hg.block D (Array.getElem?_eq_some_iff.1 (h3 D hD).2).1 (fun e => ?_)).trans (h3 D hD).2⟩⟩
 have := hs D (List.mem_map.2 ⟨D, hD, rfl⟩)
 have := hr D e.symm
 omega
theorem belOthers {a w w' : World} {B s : Nat} {row : Option Nat} (h : Below B a w) (hg : w.grownBy w' row) (hB : B ≤ w.heap.size) (hs : B ≤ s) (hr : ∀ r, row = some r → s ≤ r) : Below B a w' :=
 h.grown hg hB (fun k e => Nat.le_trans hs (hr k e))

theorem Own.retag {w : World} {B : Nat} {tag : Nat → Nat} {k b : Nat} {cs : Array Value} {t : TypeId} (h : Own w B tag k b cs t) {bx kx : Nat} {cx : Array Value} {tx : TypeId} (hx : w.heap[bx]? = some (.cells cx tx (0, 0))) (ht : t ≠ tx) : Own w B (tagUp tag bx kx) k b cs t := by
 refine ⟨h.heap, ?_, h.base⟩
 unfold tagUp
 rw [if_neg ?_]
 ·exact h.htag
 ·rintro rfl
  rw [h.heap] at hx
  cases hx
  exact ht rfl
theorem Row.retag {w : World} {B : Nat} {tag : Nat → Nat} {k : Nat} {t : TypeId} {sz : Nat} {v : Value} {n : Nat} {cs : List Value} (h : Row w B tag k t sz v n cs) {bx kx : Nat} {cx : Array Value} {tx : TypeId} (hx : w.heap[bx]? = some (.cells cx tx (0, 0))) (ht : t ≠ tx) : Row w B (tagUp tag bx kx) k t sz v n cs :=
 ⟨h.1, h.2.imp id fun ⟨b, off, cap, cur, h1, h2, h3⟩ => ⟨b, off, cap, cur, h1, h2.retag hx ht, h3⟩⟩

structure PInv (w : World) (G : Array Value) (FP : Value) (n : Nat) (ds : List Deferred) (wr : World) (tag : Nat → Nat) (bi i : Nat) (vs : Value) (seen : List Bool) (steps : List St) : Prop where
 below : Below w.heap.size w wr
 marks : Marks w.heap.size wr ds
 g : Own wr w.heap.size tag 0 w.heap.size G 91
 fp : Own wr w.heap.size tag 0 (w.heap.size + 1) #[FP] 143
 sb : Own wr w.heap.size tag 3 (w.heap.size + 1 + 1 + 1) #[vs] 171
 st : Row wr w.heap.size tag 2 170 3 vs steps.length (stCells steps)
 eb : Own wr w.heap.size tag 0 (w.heap.size + 1 + 1 + 1 + 1 + 1) #[.slice (some ⟨w.heap.size + 1 + 1 + 1 + 1, 0, none⟩) n n] 55
 se : Row wr w.heap.size tag 1 4 1 (.slice (some ⟨w.heap.size + 1 + 1 + 1 + 1, 0, none⟩) n n) n (bools seen)
 ib : Own wr w.heap.size tag 4 bi #[.int .i64 i] 3

section
variable {w : World} {G : Array Value} {FP : Value} {n : Nat} {ds : List Deferred} {wr wr' : World} {tag tag' : Nat → Nat} {bi i : Nat} {vs : Value} {seen : List Bool} {steps : List St}
theorem PInv.size (h : PInv w G FP n ds wr tag bi i vs seen steps) : w.heap.size + 1 + 1 + 1 + 1 + 1 < wr.heap.size := h.eb.lt
theorem PInv.call (h : PInv w G FP n ds wr tag bi i vs seen steps) (hb : Below wr.heap.size wr wr') : PInv w G FP n ds wr' tag bi i vs seen steps :=
 ⟨belCall h.below hb h.below.size, h.marks.below hb, h.g.below hb, h.fp.below hb, h.sb.below hb, h.st.below hb, h.eb.below hb, h.se.below hb, h.ib.below hb⟩
theorem PInv.others {s : Nat} {row : Option Nat} (h : PInv w G FP n ds wr tag bi i vs seen steps) (hg : wr.grownBy wr' row) (hs : ∀ D, mark D ∈ ds → D < s) (hws : w.heap.size ≤ s) (hr : ∀ r, row = some r → s ≤ r ∧ ∃ o : Obj, wr.heap[r]? = some o ∧ o.isCells = false) : PInv w G FP n ds wr' tag bi i vs seen steps :=
 ⟨belOthers h.below hg h.below.size hws (fun r e => (hr r e).1), h.marks.others hs hg (fun r e => (hr r e).1), h.g.others hg (fun r e => (hr r e).2), h.fp.others hg (fun r e => (hr r e).2), h.sb.others hg (fun r e => (hr r e).2), h.st.others hg (fun r e => (hr r e).2), h.eb.others hg (fun r e => (hr r e).2), h.se.others hg (fun r e => (hr r e).2), h.ib.others hg (fun r e => (hr r e).2)⟩
theorem PInv.retag {bx : Nat} {cx : Array Value} (h : PInv w G FP n ds wr tag bi i vs seen steps) (hx : wr.heap[bx]? = some (.cells cx 62 (0, 0))) : PInv w G FP n ds wr (tagUp tag bx 5) bi i vs seen steps :=
 ⟨h.below, h.marks, h.g.retag hx (by decide), h.fp.retag hx (by decide), h.sb.retag hx (by decide), h.st.retag hx (by decide), h.eb.retag hx (by decide), h.se.retag hx (by decide), h.ib.retag hx (by decide)⟩
theorem PInv.setSeen (h : PInv w G FP n ds wr tag bi i vs seen steps) (j : Nat) : PInv w G FP n ds (wr.setCell ⟨w.heap.size + 1 + 1 + 1 + 1, j, none⟩ (.bool true)) tag bi i vs (seen.set j true) steps ∧ Turn w.heap.size tag tag 1 wr (wr.setCell ⟨w.heap.size + 1 + 1 + 1 + 1, j, none⟩ (.bool true)) := by
 have h1 := h.se.set j (.bool true)
 rw [Nat.zero_add] at h1
 refine ⟨⟨belTurn h.below h1.2 h.below.size, h.marks.turn h1.2, h.g.turn h1.2 (by decide), h.fp.turn h1.2 (by decide), h.sb.turn h1.2 (by decide), h.st.turn h1.2 (by decide), h.eb.turn h1.2 (by decide), ?_, h.ib.turn h1.2 (by decide)⟩, h1.2⟩
 have h2 := h1.1
 rwa [show bools (seen.set j true) = (bools seen).set j (.bool true) from List.map_set ..]
theorem PInv.newI (h : PInv w G FP n ds wr tag bi i vs seen steps) (j : Nat) : PInv w G FP n ds (wr.alloc (.cells #[.int .i64 j] 3)) (tagUp tag wr.heap.size 4) wr.heap.size j vs seen steps := by
 have hb := bel_alloc wr (.cells #[.int .i64 j] 3)
 have ht : Turn w.heap.size tag (tagUp tag wr.heap.size 4) 9 wr (wr.alloc (.cells #[.int .i64 j] 3)) := { Turn.below (B := w.heap.size) (tag := tag) (k := 9) hb with tags := fun b hb => tagUp_lt hb }
 exact ⟨belTurn h.below ht h.below.size, h.marks.turn ht, h.g.turn ht (by decide), h.fp.turn ht (by decide), h.sb.turn ht (by decide), h.st.turn ht (by decide), h.eb.turn ht (by decide), h.se.turn ht (by decide), Own.new _ _ _ _ _ _ h.below.size (tagUp_at _ _ _)⟩
theorem PInv.push {vs' : Value} {x : St} (h : PInv w G FP n ds wr tag bi i vs seen steps) (hr : Row wr' w.heap.size tag' 2 170 3 vs' (steps.length + 1) (stCells steps ++ x.cells)) (ht : Turn w.heap.size tag tag' 2 wr wr') :
  PInv w G FP n ds (wr'.setCell ⟨w.heap.size + 1 + 1 + 1, 0, none⟩ vs') tag' bi i vs' seen (steps ++ [x]) := by
 have hs := h.sb.turn ht (by decide)
 have h1 := Turn.setCell hs 0 vs'
 have h2 := hs.set 0 vs'
 have hB : w.heap.size ≤ wr'.heap.size := Nat.le_trans h.below.size ht.size
 exact ⟨belTurn (belTurn h.below ht h.below.size) h1 hB, (h.marks.turn ht).turn h1, (h.g.turn ht (by decide)).turn h1 (by decide), (h.fp.turn ht (by decide)).turn h1 (by decide), h2, by rw [List.length_append, show stCells (steps ++ [x]) = stCells steps ++ x.cells by simp [stCells]]; exact hr.turn h1 (by decide), (h.eb.turn ht (by decide)).turn h1 (by decide), (h.se.turn ht (by decide)).turn h1 (by decide), (h.ib.turn ht (by decide)).turn h1 (by decide)⟩
theorem PInv.turn {k : Nat} (h : PInv w G FP n ds wr tag bi i vs seen steps) (ht : Turn w.heap.size tag tag' k wr wr') (hk : 4 < k) : PInv w G FP n ds wr' tag' bi i vs seen steps :=
 ⟨belTurn h.below ht h.below.size, h.marks.turn ht, h.g.turn ht (by omega), h.fp.turn ht (by omega), h.sb.turn ht (by omega), h.st.turn ht (by omega), h.eb.turn ht (by omega), h.se.turn ht (by omega), h.ib.turn ht (by omega)⟩
theorem PInv.mark {s D : Nat} (h : PInv w G FP n ds wr tag bi i vs seen steps) (hs : ∀ D', Go.Proofs.YtfbapajcheammaaGreatDoor.mark D' ∈ ds → D' < s) (hD : s ≤ D) (hB : w.heap.size ≤ s) (hd : wr.heap[D]? = some (.deferred (some []))) : PInv w G FP n (Go.Proofs.YtfbapajcheammaaGreatDoor.mark D :: ds) wr tag bi i vs seen steps :=
 { h with marks := h.marks.cons hs hD (Nat.le_trans hB hD) hd }
end
theorem Row.at_step {w : World} {B : Nat} {tag : Nat → Nat} {k : Nat} {t : TypeId} {v : Value} {l : List St} (h : Row w B tag k t 3 v l.length (stCells l)) (i : Nat) (hi : i < l.length) :
  ∃ b off cap, v = .slice (some ⟨b, off, none⟩) l.length cap ∧ b < w.heap.size ∧ w.cell? ⟨b, off + i * 3, none⟩ = some (.int .i64 l[i].s) ∧ w.cell? ⟨b, off + i * 3 + 1, none⟩ = some (.int .i64 l[i].p) ∧ w.cell? ⟨b, off + i * 3 + 2, none⟩ = some (.int .i64 l[i].e) := by
 obtain ⟨b, off, cap, rfl, hlt, _⟩ := h.addr (by omega)
 refine ⟨b, off, cap, rfl, hlt, ?_, ?_, ?_⟩
 ·have := h.cellAt (i * 3 + 0) (by omega)
  rw [flat_at St.cells 3 (fun _ => rfl) l i 0 hi (by omega)] at this
  exact this
 ·have := h.cellAt (i * 3 + 1) (by omega)
  rw [flat_at St.cells 3 (fun _ => rfl) l i 1 hi (by omega)] at this
  rw [Nat.add_assoc]; exact this
 ·have := h.cellAt (i * 3 + 2) (by omega)
  rw [flat_at St.cells 3 (fun _ => rfl) l i 2 hi (by omega)] at this
  rw [Nat.add_assoc]; exact this
end Go.Proofs.YtfbapajcheammaaGreatDoor

namespace Go.Proofs.YtfbapajcheammaaGreatDoor

def fstN (es : List Ed) (s : Int) : Nat := es.countP fun x => decide (x.f < s)
theorem fstN_le (es : List Ed) (s : Int) : fstN es s ≤ es.length := List.countP_le_length
theorem fstN_mono (es : List Ed) (s t : Int) (h : s ≤ t) : fstN es s ≤ fstN es t := by
 apply List.countP_mono_left
 intro x _ hx
 simp only [decide_eq_true_eq] at hx ⊢
 omega
theorem firsts_get (n : Nat) (es : List Ed) (s : Nat) (h : s ≤ n) : (ints (firsts n es))[s]? = some (.int .i64 (fstN es s)) := by
 rw [List.getElem?_map, firsts, List.getElem?_map, List.getElem?_range (by omega)]; rfl
def subOf (es : List Ed) (s : Int) : List Ed := edSub es (fstN es s) (fstN es (s + 1))
theorem subOf_mem {es : List Ed} {s : Int} {x : Ed} (h : x ∈ subOf es s) : x ∈ es := List.mem_of_mem_drop (List.mem_of_mem_take h)

def pStep (perm : Ed → Bool) (i : Nat) (acc : List Bool × List St) (x : Ed) : List Bool × List St :=
 if acc.1[x.t.toNat]?.getD true = false ∧ perm x = true then (acc.1.set x.t.toNat true, acc.2 ++ [⟨x.t, i, x.e⟩]) else acc
def bfs (sub : Int → List Ed) (want : Int → Bool) (perm : Ed → Bool) : Nat → Nat → List Bool → List St → Option (List St × Nat)
 | 0, _, _, _ => none
 | f + 1, i, seen, steps => match steps[i]? with
  | none => none
  | some x => if want x.s = true then some (steps, i) else
   bfs sub want perm f (i + 1) ((sub x.s).foldl (pStep perm i) (seen, steps)).1 ((sub x.s).foldl (pStep perm i) (seen, steps)).2
def back (steps : List St) : Nat → Int → List Int
 | 0, _ => []
 | f + 1, k => match steps[k.toNat]? with
  | none => []
  | some x => if 0 ≤ x.p then x.e :: back steps f x.p else []

structure POk (n : Nat) (seen : List Bool) (steps : List St) : Prop where
 len : seen.length = n
 count : steps.length = seen.count true
 range : ∀ x ∈ steps, 0 ≤ x.s ∧ x.s < n
 parent : ∀ j (h : j < steps.length), -1 ≤ steps[j].p ∧ steps[j].p < j

theorem count_set {l : List Bool} {j : Nat} (h : l[j]? = some false) : (l.set j true).count true = l.count true + 1 := by
 induction l generalizing j with
 | nil => simp at h
 | cons a l ih =>
  cases j with
  | zero => simp at h; subst h; simp
  | succ j =>
   simp at h
   rw [List.set_cons_succ, List.count_cons, List.count_cons, ih h]
   omega
theorem POk.le {n : Nat} {seen : List Bool} {steps : List St} (h : POk n seen steps) : steps.length ≤ n := by
 rw [h.count, ← h.len]; exact List.count_le_length
theorem POk.push {n i : Nat} {seen : List Bool} {steps : List St} (h : POk n seen steps) (hi : i < steps.length) (t e : Int) (h0 : 0 ≤ t) (h1 : t < n) (hs : seen[t.toNat]? = some false) : POk n (seen.set t.toNat true) (steps ++ [⟨t, i, e⟩]) := by
 refine ⟨by simp [h.len], by rw [List.length_append, count_set hs, h.count]; rfl, fun x hx => ?_, fun j hj => ?_⟩
 ·rcases List.mem_append.1 hx with h2 | h2
  ·exact h.range x h2
  ·rw [List.mem_singleton.1 h2]; exact ⟨h0, h1⟩
 ·by_cases hlt : j < steps.length
  ·rw [List.getElem_append_left hlt]; exact h.parent j hlt
  ·have : j = steps.length := by simp at hj; omega
   subst this
   simp only [List.getElem_append_right (Nat.le_refl _), Nat.sub_self, List.getElem_singleton]
   omega
theorem POk.step {n i : Nat} {perm : Ed → Bool} {seen : List Bool} {steps : List St} (h : POk n seen steps) (hi : i < steps.length) (x : Ed) (h0 : 0 ≤ x.t) (h1 : x.t < n) :
  POk n (pStep perm i (seen, steps) x).1 (pStep perm i (seen, steps) x).2 ∧ i < (pStep perm i (seen, steps) x).2.length := by
 unfold pStep
 dsimp only
 split
 ·rename_i hc
  have hlt : x.t.toNat < seen.length := by rw [h.len]; omega
  have hs : seen[x.t.toNat]? = some false := by
   have := hc.1
   rw [List.getElem?_eq_getElem hlt] at this ⊢
   simpa using this
  exact ⟨h.push hi _ _ h0 h1 hs, by simp; omega⟩
 ·exact ⟨h, hi⟩
theorem POk.fold {n i : Nat} {perm : Ed → Bool} : ∀ (l : List Ed) {seen : List Bool} {steps : List St}, POk n seen steps → i < steps.length → (∀ x ∈ l, 0 ≤ x.t ∧ x.t < n) →
  POk n (l.foldl (pStep perm i) (seen, steps)).1 (l.foldl (pStep perm i) (seen, steps)).2 ∧ i < (l.foldl (pStep perm i) (seen, steps)).2.length
 | [], _, _, h, hi, _ => ⟨h, hi⟩
 | x :: l, seen, steps, h, hi, hx => by
  have h1 := h.step (perm := perm) hi x (hx x (List.mem_cons_self ..)).1 (hx x (List.mem_cons_self ..)).2
  exact POk.fold l h1.1 h1.2 (fun y hy => hx y (List.mem_cons_of_mem _ hy))
theorem POk.start (n from_ : Nat) (h : from_ < n) : POk n ((List.replicate n false).set from_ true) [⟨from_, -1, -1⟩] := by
 refine ⟨by simp, ?_, fun x hx => ?_, fun j hj => ?_⟩
 ·rw [count_set (by rw [List.getElem?_replicate, if_pos h]), List.count_replicate]; rfl
 ·rw [List.mem_singleton.1 hx]; exact ⟨by simp, by simp; omega⟩
 ·have : j = 0 := by simp at hj; omega
  subst this; simp
theorem bfs_found {sub : Int → List Ed} {want : Int → Bool} {perm : Ed → Bool} {f i : Nat} {seen : List Bool} {steps : List St} (hi : i < steps.length) (hw : want steps[i].s = true) : bfs sub want perm (f + 1) i seen steps = some (steps, i) := by
 rw [bfs, List.getElem?_eq_getElem hi]; simp [hw]
theorem bfs_next {sub : Int → List Ed} {want : Int → Bool} {perm : Ed → Bool} {f i : Nat} {seen : List Bool} {steps : List St} (hi : i < steps.length) (hw : want steps[i].s = false) :
  bfs sub want perm (f + 1) i seen steps = bfs sub want perm f (i + 1) ((sub steps[i].s).foldl (pStep perm i) (seen, steps)).1 ((sub steps[i].s).foldl (pStep perm i) (seen, steps)).2 := by
 rw [bfs, List.getElem?_eq_getElem hi]; simp [hw]
theorem bfs_end {sub : Int → List Ed} {want : Int → Bool} {perm : Ed → Bool} {f i : Nat} {seen : List Bool} {steps : List St} (hi : steps.length ≤ i) : bfs sub want perm (f + 1) i seen steps = none := by
 rw [bfs, List.getElem?_eq_none hi]
theorem back_next {steps : List St} {f k : Nat} (hk : k < steps.length) (hp : 0 ≤ steps[k].p) : back steps (f + 1) k = steps[k].e :: back steps f steps[k].p := by
 rw [back, Int.toNat_natCast, List.getElem?_eq_getElem hk]; simp [hp]
theorem back_end {steps : List St} {f k : Nat} (hk : k < steps.length) (hp : steps[k].p < 0) : back steps (f + 1) k = [] := by
 rw [back, Int.toNat_natCast, List.getElem?_eq_getElem hk]; simp; omega

def pathF (n : Nat) (es : List Ed) (want : Int → Bool) (perm : Ed → Bool) (from_ : Nat) : Option (List Int) :=
 (bfs (subOf es) want perm (n + 1) 0 ((List.replicate n false).set from_ true) [⟨from_, -1, -1⟩]).map fun r => (back r.1 (r.2 + 1) r.2).reverse
end Go.Proofs.YtfbapajcheammaaGreatDoor

namespace Go.Proofs.YtfbapajcheammaaGreatDoor
open Go.RowKit

def revK (xs : List Int) (k : Nat) : List Int := (List.range xs.length).map fun m => if m < k ∨ xs.length - k ≤ m then xs.getD (xs.length - 1 - m) 0 else xs.getD m 0
theorem revK_zero (xs : List Int) : revK xs 0 = xs := by
 apply List.ext_getElem
 ·simp [revK]
 ·intro i h1 h2
  simp only [revK, List.getElem_map, List.getElem_range]
  rw [if_neg (by omega), List.getD_eq_getElem?_getD, List.getElem?_eq_getElem h2]; rfl
theorem revK_get (xs : List Int) (k m : Nat) (hm : m < xs.length) (h : ¬ (m < k ∨ xs.length - k ≤ m)) : (ints (revK xs k))[m]? = some (.int .i64 (xs.getD m 0)) := by
 rw [List.getElem?_map, revK, List.getElem?_map, List.getElem?_range hm]
 simp only [Option.map_some]
 rw [if_neg h]
theorem revK_step (xs : List Int) (k : Nat) (h : 2 * k + 1 < xs.length) : ints (revK xs (k + 1)) = ((ints (revK xs k)).set k (.int .i64 (xs.getD (xs.length - 1 - k) 0))).set (xs.length - 1 - k) (.int .i64 (xs.getD k 0)) := by
 apply List.ext_getElem
 ·simp [revK]
 ·intro i g1 g2
  have hi : i < xs.length := by simpa [revK] using g1
  rw [List.getElem_set, List.getElem_set]
  simp only [revK, List.getElem_map, List.getElem_range]
  by_cases e1 : xs.length - 1 - k = i
  ·rw [if_pos e1, if_pos (by omega)]
   congr 2
   omega
  ·rw [if_neg e1]
   by_cases e2 : k = i
   ·rw [if_pos e2, if_pos (by omega)]
    congr 2
    omega
   ·rw [if_neg e2]
    by_cases e3 : i < k ∨ xs.length - k ≤ i
    ·rw [if_pos e3, if_pos (by omega)]
    ·rw [if_neg e3, if_neg (by omega)]
theorem revK_all (xs : List Int) (k : Nat) (h : xs.length ≤ 2 * k + 1) : revK xs k = xs.reverse := by
 apply List.ext_getElem
 ·simp [revK]
 ·intro i h1 h2
  have hi : i < xs.length := by simpa using h2
  simp only [revK, List.getElem_map, List.getElem_range, List.getElem_reverse]
  split
  ·rw [List.getD_eq_getElem?_getD, List.getElem?_eq_getElem (by omega)]; rfl
  ·have : xs.length - 1 - i = i := by omega
   rw [List.getD_eq_getElem?_getD, List.getElem?_eq_getElem hi, Option.getD_some]
   congr 1
   exact this.symm

theorem reverse_any (v : Value) (xs : List Int) (w : World) (B : Nat) (tag : Nat → Nat) (k0 : Nat) (hr : Row w B tag k0 3 1 v xs.length (ints xs)) (hl : xs.length ≤ 1000000) :
  Calls Tryz.prog 131 #[v] w fun e w' => (∃ r, e = .returned r) ∧ Row w' B tag k0 3 1 v xs.length (ints xs.reverse) ∧ Turn B tag tag k0 w w' := by
 obtain ⟨a, cap, rfl⟩ := hr.val
 go_enter Tryz.func131, Tryz.ntmps131
 go_wp2_with fail
 go_loopw [2, 3] (fun i j wr => ∃ k : Nat, i = .int .i64 k ∧ j = .int .i64 ((xs.length : Int) - 1 - k) ∧ 2 * k ≤ xs.length + 1 ∧ Row wr B tag k0 3 1 (.slice a xs.length cap) xs.length (ints (revK xs k)) ∧ Turn B tag tag k0 w wr) (fun i _ _ => xs.length - (intOf i).toNat)
 case atStart => exact ⟨0, rfl, by simp, by omega, by rw [revK_zero]; exact hr, Turn.refl _ _ _ _⟩
 case round =>
  obtain ⟨k, rfl, rfl, hk, hrow, ht⟩ := hrel
  by_cases hlt : 2 * k + 1 < xs.length
  ·obtain ⟨b, off, cap', e1, hbl, _⟩ := hrow.addr (by omega)
   cases e1
   have c1 := hrow.cellAt k (by omega)
   rw [revK_get xs k k (by omega) (by omega)] at c1
   have c2 := hrow.cellAt (xs.length - 1 - k) (by omega)
   rw [revK_get xs k (xs.length - 1 - k) (by omega) (by omega)] at c2
   have f1 := hrow.frozenAt (off + k)
   have f2 := hrow.frozenAt (off + (xs.length - 1 - k))
   have s1 := hrow.set k (.int .i64 (xs.getD (xs.length - 1 - k) 0))
   have s2 := s1.1.set (xs.length - 1 - k) (.int .i64 (xs.getD k 0))
   rw [← revK_step xs k hlt] at s2
   have S1 := Lib.hid s1.2
   have S2 := Lib.hid s2
   have c3 : (wr.setCell ⟨b, off + k, none⟩ (.int .i64 (xs.getD (xs.length - 1 - k) 0))).cell? ⟨b, off + (xs.length - 1 - k), none⟩ = some (.int .i64 (xs.getD (xs.length - 1 - k) 0)) := by
    rw [World.cell?_setCell_other, c2]
    intro e; simp at e; try omega
   clear s1 s2 hr
   generalize xs.getD (xs.length - 1 - k) 0 = p at *
   generalize xs.getD k 0 = q at *
   have hidx : ((xs.length : Int) - 1 - k).toNat = xs.length - 1 - k := by omega
   go_wp2
   go_region
   go_wp2
   go_roundw
   case rel => exact ⟨k + 1, by go_num, by congr 1; omega, by omega, S2.out.1.below (bel_drew _), ((ht.trans S1.out).trans S2.out.2).trans (Turn.below (bel_drew _))⟩
   case measure => simp [intOf]; omega
  ·go_wp2
   refine ⟨rfl, .tuple #[], by simp [results, Tryz.results131], ⟨⟨_, rfl⟩, by rw [revK_all xs k (by omega)] at hrow; exact hrow, ht⟩⟩
end Go.Proofs.YtfbapajcheammaaGreatDoor

namespace Go.Proofs.YtfbapajcheammaaGreatDoor
open Go.RowKit

theorem wpListIn_append_row {F : Fence} {nF : Nat} {P : Program} {ops : Array Oper} {rest : List Oper} {o : Oper} {a : Act} {Q : Exit → Act → World → Prop}
  {w : World} {B : Nat} {tag : Nat → Nat} {k : Nat} {sz : Nat} {v : Value} {n : Nat} {cs : List Value} (hgd : o.guard = none) (s x : Operand) (tt : TypeId)
  (ho : o.op = .call { callee := .builtin .append, args := #[s, x], argTypes := #[tt, tt] })
  (e : TypeId) (i : TypeInfo) (z : Value) (bytes : Nat) (ht : P.underlying tt = some (.slice e)) (hi : P.info? e = some i) (hz : i.zero = some z)
  (hsize : i.size = sz) (hby : i.bytes = bytes) (hzs : z.cells.size = sz) (hs : a.eval s = v) (hrow : Row w B tag k e sz v n cs)
  (ao : Option Addr) (m c : Nat) (news : List Value) (hx : a.eval x = .slice ao m c) (hl : news.length = m * sz) (hnone : ao = none → m = 0 ∧ c = 0)
  (hnews : ∀ ad, ao = some ad → ∀ j u, news[j]? = some u → w.cell? (ad.add j) = some u) (h1 : ∀ u ∈ news, u.oneCell' = true)
  (h63 : n + m ≤ maxLen) (hbytes : (n + m) * bytes ≤ 140737488355328) (hB : B ≤ w.heap.size)
  (h : ∀ v' w' tag', Row w' B tag' k e sz v' (n + m) (cs ++ news) → Turn B tag tag' k w w' → wpListIn F nF P ops Q rest (a.put o.dst v') w') : wpListIn F nF P ops Q (o :: rest) a w := by
 refine wpListIn_plain hgd fun K hK' => ?_
 obtain ⟨v', w', tag', hrun, h2, h3⟩ := run_append_row (P := P) (w := w) (ty := o.type) tt e i z bytes ht hi hz hsize hby hzs hrow ao m c news hl hnone hnews h1 h63 hbytes hB
 unfold Oper.wpIn
 refine ⟨?_, ?_⟩
 ·simp [Oper.about, ho, resolve, Target.leads, Sem.run_pure]
 ·rw [Oper.semAt_plain F _ _ (by rw [ho]; intro c hc'; cases hc')]
  simp [execOp, ho, resolve, invoke, builtin, hs, hx, hrun, Result.andThen]
  exact hK' _ _ (h v' w' tag' h2 h3)
end Go.Proofs.YtfbapajcheammaaGreatDoor

namespace Go.Proofs.YtfbapajcheammaaGreatDoor
open Go.RowKit Go.Shelf
attribute [local go_sem] Oper.semAt_some

def PathPostB (B : Nat) : Option (List Int) → Value → World → Prop
 | some xs, u, w' => ∃ v, u = .tuple #[v, .bool true] ∧ RdI w' v xs ∧ FreshV B v
 | none, u, _ => u = .tuple #[.slice none 0 0, .bool false]
def pathMu (n : Nat) (a : Act) (w : World) : Nat := match a.tmps.getD 12 undef with
 | .pointer (some ad) => n - (intOf ((w.cell? ad).getD undef)).toNat
 | _ => 0

theorem Tryz.info_step : (Tryz.prog.info? 170).map (fun i => (i.zero, i.size, i.bytes)) = some (some (.agg #[.int .i64 0, .int .i64 0, .int .i64 0]), 3, 24) := by kernel_rfl

set_option maxHeartbeats 4000000 in
theorem path_anyB (aa am ae af : Option Addr) (la lm ca cm ce cf : Nat) (n from_ : Nat) (es : List Ed) (fw fp : FuncId) (capw capp : Array Value) (want : Int → Bool) (perm : Ed → Bool) (w : World)
  (hre : RdS w 3 ae es.length ce (edCells es)) (hrf : RdS w 1 af (n + 1) cf (ints (firsts n es))) (hl : es.length ≤ 1000000) (hn : n ≤ 1000000) (hfrom : from_ < n) (hin : ∀ x ∈ es, 0 ≤ x.t ∧ x.t < n)
  (hew : Enters Tryz.prog fw) (hep : Enters Tryz.prog fp)
  (hw : ∀ (s : Int) (W : World), 0 ≤ s → s < n → Below w.heap.size w W → Calls Tryz.prog fw (#[.int .i64 s] ++ capw) W fun e w' => e = .returned (.bool (want s)) ∧ Below W.heap.size W w')
  (hp : ∀ (x : Ed) (W : World), x ∈ es → Below w.heap.size w W → Calls Tryz.prog fp (#[x.val] ++ capp) W fun e w' => e = .returned (.bool (perm x)) ∧ Below W.heap.size W w') :
  Calls Tryz.prog 102 #[.agg #[.slice aa la ca, .int .i64 n, .slice am lm cm, .slice ae es.length ce, .slice af (n + 1) cf], .int .i64 from_, .func (.func fw) #[] capw, .func (.func fp) #[] capp] w
   (Ret w fun u w' => PathPostB w.heap.size (pathF n es want perm from_) u w') := by
 obtain ⟨bf, offf, rfl, hcf⟩ := hrf.at_elem 0 (by omega)
 obtain ⟨i0, hi, hz0, hz1, hz2⟩ := info_parts Tryz.info_bool
 have hmk := fun W : World => run_make (P := Tryz.prog) W 55 4 i0 (.bool false) Tryz.underlying55 hi hz0 .i64 .i64 (n : Int) (n : Int) (by omega) (by omega) (by rw [hz2]; omega) (by omega)
 rw [hz1] at hmk
 simp only [Int.toNat_natCast, Nat.mul_one, Value.cells] at hmk
 have hmc : (madeCells #[Value.bool false] n)[from_]? = some (.bool false) := by
  rw [← Array.getElem?_toList, toList_madeCells_one, List.getElem?_replicate, if_pos hfrom]
 have Hcf := Lib.hid hcf
 clear hcf
 have Hw := Lib.hid hw
 have Hp := Lib.hid hp
 have Hin := Lib.hid hin
 have Hew := Lib.hid hew
 have Hep := Lib.hid hep
 clear hw hp hin hew hep
 refine calls_of_marks Tryz.func102 rfl ?_
 simp only [Tryz.ntmps102, List.size_toArray, List.length_cons, List.length_nil, Nat.reduceAdd, Nat.reduceSub, Array.replicate_succ, Array.replicate_zero, List.push_toArray, List.append_toArray, List.nil_append, List.cons_append]
 go_wp2_with fail
 clear hmk hmc
 refine wp_loop (fun a' wr => ∃ (v12 v13 v14 v15 v26 v27 v28 v29 v30 v31 v32 v33 v34 v35 v36 v37 v38 v39 v40 v41 v42 v43 v44 v45 v46 v47 v48 v49 v50 v51 v52 v53 v54 v55 v56 v57 v58 v59 v60 v61 v62 v63 v64 v65 v66 v67 v68 v69 v70 v71 v72 v73 v74 v75 v76 v77 v78 v79 v80 v81 v82 v83 v84 v85 v86 v87 v88 v89 v90 v91 v92 v93 v94 : Value) (ds : List Deferred) (tag : Nat → Nat) (bi i : Nat) (vs : Value) (seen : List Bool) (steps : List St), v12 = .pointer (some ⟨bi, 0, none⟩) ∧
   PInv w #[.slice aa la ca, .int .i64 n, .slice am lm cm, .slice ae es.length ce, .slice (some ⟨bf, offf, none⟩) (n + 1) cf] (.func (.func fp) #[] capp) n ds wr tag bi i vs seen steps ∧ POk n seen steps ∧ i ≤ steps.length ∧
   Hid (bfs (subOf es) want perm (n + 1) 0 ((List.replicate n false).set from_ true) [⟨from_, -1, -1⟩] = bfs (subOf es) want perm (n + 1 - i) i seen steps) ∧
   a' = { tmps := #[Value.agg #[.slice aa la ca, .int .i64 n, .slice am lm cm, .slice ae es.length ce, .slice (some ⟨bf, offf, none⟩) (n + 1) cf], Value.int .i64 from_, Value.func (.func fw) #[] capw, Value.func (.func fp) #[] capp, Value.pointer (some ⟨w.heap.size, 0, none⟩), undef, undef, Value.pointer (some ⟨w.heap.size + 1, 0, none⟩), Value.slice none 0 0, Value.bool false, Value.pointer (some ⟨w.heap.size + 1 + 1 + 1, 0, none⟩), Value.pointer (some ⟨w.heap.size + 1 + 1 + 1 + 1 + 1, 0, none⟩), v12, v13, v14, v15, Value.int .i64 from_, Value.agg #[.int .i64 from_, .int .i64 (-1), .int .i64 (-1)], Value.slice (some ⟨w.heap.size + 1 + 1, 0, none⟩) 1 1, Value.pointer (some ⟨w.heap.size, 0, none⟩), Value.pointer (some ⟨w.heap.size, 1, none⟩), Value.int .i64 n, Value.slice (some ⟨w.heap.size + 1 + 1 + 1 + 1, 0, none⟩) n n, Value.slice (some ⟨w.heap.size + 1 + 1 + 1 + 1, 0, none⟩) n n, Value.int .i64 from_, Value.pointer (some ⟨w.heap.size + 1 + 1 + 1 + 1, from_, none⟩), v26, v27, v28, v29, v30, v31, v32, v33, v34, v35, v36, v37, v38, v39, v40, v41, v42, v43, v44, v45, v46, v47, v48, v49, v50, v51, v52, v53, v54, v55, v56, v57, v58, v59, v60, v61, v62, v63, v64, v65, v66, v67, v68, v69, v70, v71, v72, v73, v74, v75, v76, v77, v78, v79, v80, v81, v82, v83, v84, v85, v86, v87, v88, v89, v90, v91, v92, v93, v94], defers := ds }) (fun a' wr => pathMu n a' wr) ?_ ?_
 ·repeat apply Exists.intro
  refine ⟨rfl, (?_ : PInv _ _ _ _ _ _ (fun b => if b = w.heap.size + 1 + 1 then 2 else if b = w.heap.size + 1 + 1 + 1 then 3 else if b = w.heap.size + 1 + 1 + 1 + 1 then 1 else if b = w.heap.size + 1 + 1 + 1 + 1 + 1 + 1 then 4 else 0) _ 0 _ ((List.replicate n false).set from_ true) [⟨from_, -1, -1⟩]), POk.start n from_ hfrom, Nat.zero_le _, rfl, rfl⟩
  refine ⟨(by (repeat (first | with_reducible exact Below.refl _ _ | with_reducible exact hre | (with_reducible refine belCall ?_ hre (by first | omega | (simp; done) | (simp; omega) | (simp at *; omega))) | (with_reducible refine Below.alloc ?_ (by first | omega | (simp; done) | (simp; omega) | (simp at *; omega)) _) | (with_reducible refine Below.drew ?_) | (with_reducible refine Below.setCell ?_ (by first | omega | (simp; done) | (simp; omega) | (simp at *; omega)) _)))), Marks.nil _ _, ⟨(by repeat (first | with_reducible assumption | (refine heap_drewp ?_) | (refine heap_at ?_; (first | rfl | (simp; done) | (simp; omega))) | (refine heap_past ?_ ?_; (next => first | omega | (simp; done) | (simp; omega))))), (by (try dsimp only); (repeat' split); all_goals omega), by omega⟩, ⟨(by repeat (first | with_reducible assumption | (refine heap_drewp ?_) | (refine heap_at ?_; (first | rfl | (simp; done) | (simp; omega))) | (refine heap_past ?_ ?_; (next => first | omega | (simp; done) | (simp; omega))))), (by (try dsimp only); (repeat' split); all_goals omega), by omega⟩, ⟨(by repeat (first | with_reducible assumption | (refine heap_drewp ?_) | (refine heap_at ?_; (first | rfl | (simp; done) | (simp; omega))) | (refine heap_past ?_ ?_; (next => first | omega | (simp; done) | (simp; omega))))), (by (try dsimp only); (repeat' split); all_goals omega), by omega⟩, ⟨by simp [stCells, St.cells], .inr ⟨_, 0, 1, _, rfl, ⟨(by repeat (first | with_reducible assumption | (refine heap_drewp ?_) | (refine heap_at ?_; (first | rfl | (simp; done) | (simp; omega))) | (refine heap_past ?_ ?_; (next => first | omega | (simp; done) | (simp; omega))))), (by (try dsimp only); (repeat' split); all_goals omega), by omega⟩, Nat.le_refl _, by simp [maxLen], by simp, by simp [stCells, St.cells]⟩⟩, ⟨(by repeat (first | with_reducible assumption | (refine heap_drewp ?_) | (refine heap_at ?_; (first | rfl | (simp; done) | (simp; omega))) | (refine heap_past ?_ ?_; (next => first | omega | (simp; done) | (simp; omega))))), (by (try dsimp only); (repeat' split); all_goals omega), by omega⟩, ⟨by simp, .inr ⟨_, 0, n, _, rfl, ⟨(by repeat (first | with_reducible assumption | (refine heap_drewp ?_) | (refine heap_at ?_; (first | rfl | (simp; done) | (simp; omega))) | (refine heap_past ?_ ?_; (next => first | omega | (simp; done) | (simp; omega))))), (by (try dsimp only); (repeat' split); all_goals omega), by omega⟩, Nat.le_refl _, by unfold maxLen; omega, by simp [size_madeCells], ?_⟩⟩, ⟨(by repeat (first | with_reducible assumption | (refine heap_drewp ?_) | (refine heap_at ?_; (first | rfl | (simp; done) | (simp; omega))) | (refine heap_past ?_ ?_; (next => first | omega | (simp; done) | (simp; omega))))), (by (try dsimp only); (repeat' split); all_goals omega), by omega⟩⟩
  rw [List.drop_zero, Nat.mul_one, List.take_of_length_le (by simp [size_madeCells]), Array.toList_setIfInBounds, toList_madeCells_one]
  simp
 ·intro _ wr h
  obtain ⟨v12, h⟩ := h
  obtain ⟨v13, h⟩ := h
  obtain ⟨v14, h⟩ := h
  obtain ⟨v15, h⟩ := h
  obtain ⟨v26, h⟩ := h
  obtain ⟨v27, h⟩ := h
  obtain ⟨v28, h⟩ := h
  obtain ⟨v29, h⟩ := h
  obtain ⟨v30, h⟩ := h
  obtain ⟨v31, h⟩ := h
  obtain ⟨v32, h⟩ := h
  obtain ⟨v33, h⟩ := h
  obtain ⟨v34, h⟩ := h
  obtain ⟨v35, h⟩ := h
  obtain ⟨v36, h⟩ := h
  obtain ⟨v37, h⟩ := h
  obtain ⟨v38, h⟩ := h
  obtain ⟨v39, h⟩ := h
  obtain ⟨v40, h⟩ := h
  obtain ⟨v41, h⟩ := h
  obtain ⟨v42, h⟩ := h
  obtain ⟨v43, h⟩ := h
  obtain ⟨v44, h⟩ := h
  obtain ⟨v45, h⟩ := h
  obtain ⟨v46, h⟩ := h
  obtain ⟨v47, h⟩ := h
  obtain ⟨v48, h⟩ := h
  obtain ⟨v49, h⟩ := h
  obtain ⟨v50, h⟩ := h
  obtain ⟨v51, h⟩ := h
  obtain ⟨v52, h⟩ := h
  obtain ⟨v53, h⟩ := h
  obtain ⟨v54, h⟩ := h
  obtain ⟨v55, h⟩ := h
  obtain ⟨v56, h⟩ := h
  obtain ⟨v57, h⟩ := h
  obtain ⟨v58, h⟩ := h
  obtain ⟨v59, h⟩ := h
  obtain ⟨v60, h⟩ := h
  obtain ⟨v61, h⟩ := h
  obtain ⟨v62, h⟩ := h
  obtain ⟨v63, h⟩ := h
  obtain ⟨v64, h⟩ := h
  obtain ⟨v65, h⟩ := h
  obtain ⟨v66, h⟩ := h
  obtain ⟨v67, h⟩ := h
  obtain ⟨v68, h⟩ := h
  obtain ⟨v69, h⟩ := h
  obtain ⟨v70, h⟩ := h
  obtain ⟨v71, h⟩ := h
  obtain ⟨v72, h⟩ := h
  obtain ⟨v73, h⟩ := h
  obtain ⟨v74, h⟩ := h
  obtain ⟨v75, h⟩ := h
  obtain ⟨v76, h⟩ := h
  obtain ⟨v77, h⟩ := h
  obtain ⟨v78, h⟩ := h
  obtain ⟨v79, h⟩ := h
  obtain ⟨v80, h⟩ := h
  obtain ⟨v81, h⟩ := h
  obtain ⟨v82, h⟩ := h
  obtain ⟨v83, h⟩ := h
  obtain ⟨v84, h⟩ := h
  obtain ⟨v85, h⟩ := h
  obtain ⟨v86, h⟩ := h
  obtain ⟨v87, h⟩ := h
  obtain ⟨v88, h⟩ := h
  obtain ⟨v89, h⟩ := h
  obtain ⟨v90, h⟩ := h
  obtain ⟨v91, h⟩ := h
  obtain ⟨v92, h⟩ := h
  obtain ⟨v93, h⟩ := h
  obtain ⟨v94, h⟩ := h
  obtain ⟨ds, tag, bi, i, vs, seen, steps, rfl, hI, hok, hi0, hbfs, rfl⟩ := h
  have hsz := hI.size
  have k0 : wr.cell? ⟨bi, 0, none⟩ = some (.int .i64 i) := hI.ib.cell 0
  have k1 : wr.cell? ⟨w.heap.size + 1 + 1 + 1, 0, none⟩ = some vs := hI.sb.cell 0
  have Hk0 := Lib.hid k0
  by_cases hlt : i < steps.length
  ·obtain ⟨bs, os, cs, rfl, hbs, s0, s1, s2⟩ := hI.st.at_step i hlt
   have hen : ∀ args W, (callFunc fw args).run Tryz.prog W = .ok (.enter fw args) W := Hew.out
   have hHen := Lib.hid hen
   clear hen
   have hsr := hok.range steps[i] (List.getElem_mem hlt)
   cases hwant : want steps[i].s
   ·have Hwant := Lib.hid hwant
    clear hwant
    go_wp2_with fail
    rw [hHen.out, Oper.upon_enter]
    refine (Hw.out steps[i].s wr hsr.1 hsr.2 hI.below).mono ?_
    rintro e w1 ⟨he, hb1⟩
    rw [Hwant.out] at he
    subst he
    dsimp only
    have hI1 := hI.call hb1
    clear k0 k1 s0 s1 s2
    have hsz1 := hI1.size
    have k0 : w1.cell? ⟨bi, 0, none⟩ = some (.int .i64 i) := hI1.ib.cell 0
    obtain ⟨bs', os', cs', e1, hbs', s0, s1, s2⟩ := hI1.st.at_step i hlt
    cases e1
    have k1 : w1.cell? ⟨w.heap.size + 1 + 1 + 1, 0, none⟩ = some (.slice (some ⟨bs, os, none⟩) steps.length cs) := hI1.sb.cell 0
    have g0 : w1.cell? ⟨w.heap.size, 0, none⟩ = some (Value.slice aa la ca) := hI1.g.cell 0
    have g1 : w1.cell? ⟨w.heap.size, 1, none⟩ = some (Value.int .i64 n) := hI1.g.cell 1
    have g2 : w1.cell? ⟨w.heap.size, 2, none⟩ = some (Value.slice am lm cm) := hI1.g.cell 2
    have g3 : w1.cell? ⟨w.heap.size, 3, none⟩ = some (Value.slice ae es.length ce) := hI1.g.cell 3
    have g4 : w1.cell? ⟨w.heap.size, 4, none⟩ = some (Value.slice (some ⟨bf, offf, none⟩) (n + 1) cf) := hI1.g.cell 4
    go_wp2_with fail
    go_still_tail 6, (by kernel_rfl)
    change wpList _ _ _ _ _ w1.drew
    have hI2 := hI1.call (bel_drew w1)
    clear g0 g1 g2 g3 g4 k0 k1 s0 s1 s2 hI1 hsz1 hb1 hbs' hbs hI
    generalize w1.drew = w2 at *
    go_wp2_with (go_at_call 65; refine (edges_any _ _ _ _ _ _ _ _ _ _ _ _ _ _ _).mono ?_; rintro e w3 ⟨rfl, rfl⟩)
    have hI3 := (hI2.call (bel_alloc w2 (.cells #[.slice aa la ca, .int .i64 n, .slice am lm cm, .slice ae es.length ce, .slice (some ⟨bf, offf, none⟩) (n + 1) cf] 91))).call (bel_alloc _ (.cells #[.int .i64 steps[i].s] 3))
    have hg3 : ((w2.alloc (.cells #[.slice aa la ca, .int .i64 n, .slice am lm cm, .slice ae es.length ce, .slice (some ⟨bf, offf, none⟩) (n + 1) cf] 91)).alloc (.cells #[.int .i64 steps[i].s] 3)).cell? ⟨w2.heap.size, 3, none⟩ = some (.slice ae es.length ce) := by simp [go_sem]
    have hg4 : ((w2.alloc (.cells #[.slice aa la ca, .int .i64 n, .slice am lm cm, .slice ae es.length ce, .slice (some ⟨bf, offf, none⟩) (n + 1) cf] 91)).alloc (.cells #[.int .i64 steps[i].s] 3)).cell? ⟨w2.heap.size, 4, none⟩ = some (.slice (some ⟨bf, offf, none⟩) (n + 1) cf) := by simp [go_sem]
    have hg5 : ((w2.alloc (.cells #[.slice aa la ca, .int .i64 n, .slice am lm cm, .slice ae es.length ce, .slice (some ⟨bf, offf, none⟩) (n + 1) cf] 91)).alloc (.cells #[.int .i64 steps[i].s] 3)).cell? ⟨w2.heap.size + 1, 0, none⟩ = some (.int .i64 steps[i].s) := by simp [go_sem]
    clear hI2
    generalize (w2.alloc (.cells #[.slice aa la ca, .int .i64 n, .slice am lm cm, .slice ae es.length ce, .slice (some ⟨bf, offf, none⟩) (n + 1) cf] 91)).alloc (.cells #[.int .i64 steps[i].s] 3) = w3 at *
    have hfc : ∀ s : Nat, s ≤ n → w3.cell? ⟨bf, offf + s, none⟩ = some (.int .i64 (fstN es s)) := by
     intro s hs
     have h1 := Hcf.out s (by simp [firsts]; omega)
     have h2 := firsts_get n es s hs
     rw [List.getElem?_eq_getElem (by simp [firsts]; omega)] at h2
     rw [Option.some.inj h2] at h1
     exact keep0 hI3.below h1
    have hseq := edges_stops w2.heap.size (w2.heap.size + 1) w.heap.size ae (some ⟨bf, offf, none⟩) ce (n + 1) cf steps[i].s es (fstN es steps[i].s) (fstN es (steps[i].s + 1)) (fstN_mono es _ _ (by omega)) (fstN_le es _) hl w3 hI3.below.size hg3 hg4 hg5 hsr.1 (by omega) bf offf rfl (by omega)
     (by have := hfc steps[i].s.toNat (by omega); rwa [Int.toNat_of_nonneg hsr.1] at this) (by have := hfc (steps[i].s + 1).toNat (by omega); rwa [Int.toNat_of_nonneg (by omega)] at this) (hre.mono hI3.below) (fun h0 ad e => World.block_lt_of_cell? w ⟨ad.block, ad.off + 0, none⟩ (hre.cell ad e 0 (by rw [hre.hlen]; omega)))
    clear hg3 hg4 hg5 hfc
    refine wp_edges (bg := w2.heap.size) (bs := w2.heap.size + 1) (n₀ := w.heap.size) rfl hseq (Below.refl _ _) hI3.below.size rfl
     (fun pre W => (∀ y ∈ pre, y ∈ subOf es steps[i].s) ∧ ∃ tag vs, PInv w #[.slice aa la ca, .int .i64 n, .slice am lm cm, .slice ae es.length ce, .slice (some ⟨bf, offf, none⟩) (n + 1) cf] (.func (.func fp) #[] capp) n ds W tag bi i vs (pre.foldl (pStep perm i) (seen, steps)).1 (pre.foldl (pStep perm i) (seen, steps)).2)
     ?hI ⟨by simp, tag, _, hI3⟩
     (fun x a' W => ∃ Bx, w.heap.size ≤ Bx ∧ W.heap[Bx]? = some (.cells #[.int .i64 x.f, .int .i64 x.e, .int .i64 x.t] 62 (0, 0)) ∧ a' = { tmps := #[Value.agg #[.slice aa la ca, .int .i64 n, .slice am lm cm, .slice ae es.length ce, .slice (some ⟨bf, offf, none⟩) (n + 1) cf], Value.int .i64 from_, Value.func (.func fw) #[] capw, Value.func (.func fp) #[] capp, Value.pointer (some ⟨w.heap.size, 0, none⟩), undef, undef, Value.pointer (some ⟨w.heap.size + 1, 0, none⟩), Value.slice none 0 0, Value.bool false, Value.pointer (some ⟨w.heap.size + 1 + 1 + 1, 0, none⟩), Value.pointer (some ⟨w.heap.size + 1 + 1 + 1 + 1 + 1, 0, none⟩), Value.pointer (some ⟨bi, 0, none⟩), v13, v14, Value.pointer (some ⟨Bx, 0, none⟩), Value.int .i64 from_, Value.agg #[.int .i64 from_, .int .i64 (-1), .int .i64 (-1)], Value.slice (some ⟨w.heap.size + 1 + 1, 0, none⟩) 1 1, Value.pointer (some ⟨w.heap.size, 0, none⟩), Value.pointer (some ⟨w.heap.size, 1, none⟩), Value.int .i64 n, Value.slice (some ⟨w.heap.size + 1 + 1 + 1 + 1, 0, none⟩) n n, Value.slice (some ⟨w.heap.size + 1 + 1 + 1 + 1, 0, none⟩) n n, Value.int .i64 from_, Value.pointer (some ⟨w.heap.size + 1 + 1 + 1 + 1, from_, none⟩), Value.int .i64 i, Value.slice (some ⟨bs, os, none⟩) steps.length cs, Value.int .i64 steps.length, Value.bool true, v30, v31, Value.func (.func fw) #[] capw, Value.slice (some ⟨bs, os, none⟩) steps.length cs, Value.int .i64 i, Value.pointer (some ⟨bs, os + i * 3, none⟩), Value.pointer (some ⟨bs, os + i * 3, none⟩), Value.int .i64 steps[i].s, Value.bool false, v39, v40, v41, v42, v43, v44, v45, v46, v47, v48, v49, v50, v51, v52, v53, v54, v55, v56, v57, v58, v59, v60, v61, Value.agg #[.slice aa la ca, .int .i64 n, .slice am lm cm, .slice ae es.length ce, .slice (some ⟨bf, offf, none⟩) (n + 1) cf], Value.slice (some ⟨bs, os, none⟩) steps.length cs, Value.int .i64 i, Value.pointer (some ⟨bs, os + i * 3, none⟩), Value.pointer (some ⟨bs, os + i * 3, none⟩), Value.int .i64 steps[i].s, Value.func (.func 96) #[] #[.pointer (some ⟨w2.heap.size, 0, none⟩), .pointer (some ⟨w2.heap.size + 1, 0, none⟩)], Value.agg #[.int .i64 x.f, .int .i64 x.e, .int .i64 x.t], v70, v71, v72, v73, v74, v75, v76, v77, v78, v79, v80, v81, v82, v83, v84, v85, v86, v87, v88, v89, v90, v91, v92, v93, v94], defers := [] })
     ?hAx ?assign ?body ?done
    case hI =>
     intro pre W W' row h1 hg hr
     obtain ⟨h1, tag, vs, h2⟩ := h1
     exact ⟨h1, tag, vs, h2.others hg (fun D hD => hI3.marks.lt hD) hI3.below.size hr⟩
    case hAx =>
     intro x a' u W W' row h1 hg hr
     obtain ⟨Bx, h1, h2, h3⟩ := h1
     refine ⟨Bx, h1, (hg.block Bx (Array.getElem?_eq_some_iff.1 h2).1 (fun e => ?_)).trans h2, h3⟩
     obtain ⟨o, ho, hc⟩ := (hr Bx e.symm).2
     rw [h2] at ho
     cases ho
     cases hc
    case assign =>
     intro l pre x W K hx hiW hK
     dsimp only [Ed.val]
     gi_wp2
     refine hK _ _ ((KeepsOthers.alloc _ _).from _) ((Below.refl _ W).alloc ?_ _) ?_ ⟨W.heap.size, ?_, (by repeat (first | with_reducible assumption | (refine heap_drewp ?_) | (refine heap_at ?_; (first | rfl | (simp; done) | (simp; omega))) | (refine heap_past ?_ ?_; (next => first | omega | (simp; done) | (simp; omega))))), rfl⟩
     ·obtain ⟨_, _, _, h2⟩ := hiW; exact h2.below.size
     ·obtain ⟨h1, tag, vs, h2⟩ := hiW; exact ⟨h1, tag, vs, h2.call (bel_alloc _ _)⟩
     ·obtain ⟨_, _, _, h2⟩ := hiW; exact h2.below.size
    case body =>
     rintro l pre x a' W hx hl ⟨hpre, tag, vs, hJ⟩ ⟨Bx, hBx, hbx, rfl⟩
     have hJ2 := hJ.retag hbx
     have hOx : Own W w.heap.size (tagUp tag Bx 5) 5 Bx #[.int .i64 x.f, .int .i64 x.e, .int .i64 x.t] 62 := ⟨hbx, tagUp_at _ _ _, hBx⟩
     have hxe := subOf_mem hx
     have hxr := Hin.out x hxe
     obtain ⟨hok', hi'⟩ := POk.fold (perm := perm) pre hok hlt (fun y hy => Hin.out y (subOf_mem (hpre y hy)))
     have Hmem : Hid (∀ y ∈ pre ++ [x], y ∈ subOf es steps[i].s) := by
      intro y hy
      rcases List.mem_append.1 hy with h1 | h1
      ·exact hpre y h1
      ·rw [List.mem_singleton.1 h1]; exact hx
     have Hacc : Hid ((pre ++ [x]).foldl (pStep perm i) (seen, steps) = pStep perm i (pre.foldl (pStep perm i) (seen, steps)) x) := by
      show _ = _
      rw [List.foldl_append]; rfl
     clear hpre hx hJ
     generalize pre.foldl (pStep perm i) (seen, steps) = acc at *
     obtain ⟨se, st⟩ := acc
     dsimp only at hJ2 hok' hi'
     have hszW := hJ2.size
     have hBW := hJ2.below.size
     have hBxl := hOx.lt
     have x0 : W.cell? ⟨Bx, 0, none⟩ = some (.int .i64 x.f) := hOx.cell 0
     have x1 : W.cell? ⟨Bx, 1, none⟩ = some (.int .i64 x.e) := hOx.cell 1
     have x2 : W.cell? ⟨Bx, 2, none⟩ = some (.int .i64 x.t) := hOx.cell 2
     have e0 : W.cell? ⟨w.heap.size + 1 + 1 + 1 + 1 + 1, 0, none⟩ = some (.slice (some ⟨w.heap.size + 1 + 1 + 1 + 1, 0, none⟩) n n) := hJ2.eb.cell 0
     have hlen := hok'.len
     have e1 := hJ2.se.cellAt x.t.toNat (by omega)
     have hq : x.t.toNat < se.length := by omega
     clear hlen
     rw [List.getElem?_map, List.getElem?_eq_getElem hq, Nat.zero_add, Option.map_some] at e1
     cases hb : se[x.t.toNat]
     ·rw [hb] at e1
      have e2 : W.cell? ⟨w.heap.size + 1, 0, none⟩ = some (.func (.func fp) #[] capp) := hJ2.fp.cell 0
      have Hb := Lib.hid hb
      clear hb
      have hHep : Hid (∀ args W, (callFunc fp args).run Tryz.prog W = .ok (.enter fp args) W) := Hep.out
      cases hpx : perm x
      ·have Hpx := Lib.hid hpx
       clear hpx
       gi_wp2_with fail
       refine ⟨trivial, ?_⟩
       rw [hHep.out, Oper.uponIn_enter]
       refine ⟨fun _ => by decide, ?_⟩
       refine (CallsIn.inRound l (callsIn_wide.2 (Hp.out x W hxe hJ2.below))).mono ?_
       rintro e w4 ⟨he, hb4⟩
       rw [Hpx.out] at he
       subst he
       dsimp only
       gi_wp2
       refine ⟨(keepsBelow hb4), belCall (Below.refl _ _) hb4 hJ2.below.size, Hmem.out, tagUp tag Bx 5, vs, ?_⟩
       rw [Hacc.out, show pStep perm i (se, st) x = (se, st) from ?_]
       ·exact hJ2.call hb4
       ·unfold pStep
        rw [if_neg]
        rw [Hpx.out]
        simp
      ·have Hpx := Lib.hid hpx
       clear hpx
       gi_wp2_with fail
       refine ⟨trivial, ?_⟩
       rw [hHep.out, Oper.uponIn_enter]
       refine ⟨fun _ => by decide, ?_⟩
       refine (CallsIn.inRound l (callsIn_wide.2 (Hp.out x W hxe hJ2.below))).mono ?_
       rintro e w4 ⟨he, hb4⟩
       rw [Hpx.out] at he
       subst he
       dsimp only
       have hJ4 := hJ2.call hb4
       have hO4 := hOx.below hb4
       obtain ⟨avs, cvs, rfl⟩ := hJ4.st.val
       clear x0 x1 x2 e0 e1 e2 hJ2 hOx
       have hle := hok'.le
       have hszW4 := hJ4.size
       have hBxl4 := hO4.lt
       have x2 : w4.cell? ⟨Bx, 2, none⟩ = some (.int .i64 x.t) := hO4.cell 2
       have e0 : w4.cell? ⟨w.heap.size + 1 + 1 + 1 + 1 + 1, 0, none⟩ = some (.slice (some ⟨w.heap.size + 1 + 1 + 1 + 1, 0, none⟩) n n) := hJ4.eb.cell 0
       have e1 := hJ4.se.cellAt x.t.toNat (by omega)
       rw [List.getElem?_map, List.getElem?_eq_getElem hq, Nat.zero_add, Option.map_some] at e1
       have e2 := hJ4.se.frozenAt x.t.toNat
       obtain ⟨hJ5, t5⟩ := hJ4.setSeen x.t.toNat
       have hO5 := hO4.turn t5 (by decide)
       have y1 : (w4.setCell ⟨w.heap.size + 1 + 1 + 1 + 1, x.t.toNat, none⟩ (.bool true)).cell? ⟨Bx, 1, none⟩ = some (.int .i64 x.e) := hO5.cell 1
       have y2 : (w4.setCell ⟨w.heap.size + 1 + 1 + 1 + 1, x.t.toNat, none⟩ (.bool true)).cell? ⟨Bx, 2, none⟩ = some (.int .i64 x.t) := hO5.cell 2
       have y3 : (w4.setCell ⟨w.heap.size + 1 + 1 + 1 + 1, x.t.toNat, none⟩ (.bool true)).cell? ⟨w.heap.size + 1 + 1 + 1, 0, none⟩ = some (.slice avs st.length cvs) := hJ5.sb.cell 0
       have y4 : (w4.setCell ⟨w.heap.size + 1 + 1 + 1 + 1, x.t.toNat, none⟩ (.bool true)).cell? ⟨bi, 0, none⟩ = some (.int .i64 i) := hJ5.ib.cell 0
       have T5 := Lib.hid t5
       clear t5 hO5 hJ4 hO4
       obtain ⟨i1, hi1, hw0, hw1, hw2⟩ := info_parts Tryz.info_step
       have hJ6 := hJ5.call (bel_alloc _ (.cells #[.int .i64 x.t, .int .i64 i, .int .i64 x.e] 170))
       gi_wp2_with (gi_at_builtin; (refine wpListIn_append_row rfl _ _ 171 rfl 170 i1 (.agg #[.int .i64 0, .int .i64 0, .int .i64 0]) 24 Tryz.underlying171 hi1 hw0 hw1 hw2 rfl rfl hJ6.st (some ⟨_, 0, none⟩) 1 1 [.int .i64 x.t, .int .i64 i, .int .i64 x.e] rfl rfl (by simp) (fun ad e => by cases e; exact new_cells_at _ _ (by simp)) (by simp [Value.oneCell']) (by unfold maxLen; omega) (by omega) hJ6.below.size ?_); intro v6 w6 tag6 hr6 ht6; have hJ7 := hJ6.push (x := ⟨x.t, i, x.e⟩) hr6 ht6; have s6 := hJ6.sb.turn ht6 (by decide); obtain ⟨a6, c6, rfl⟩ := hr6.val; have z0 := s6.cell 0; have z1 := s6.frozen 0; have z2 : w6.cell? ⟨w.heap.size + 1 + 1 + 1, 0, none⟩ = some (.slice avs st.length cvs) := z0; clear z0)
       refine ⟨(keepsBelow hb4).trans ((keepsTurn T5.out).trans ((keepsBelow (bel_alloc _ (.cells #[.int .i64 x.t, .int .i64 i, .int .i64 x.e] 170))).trans ((keepsTurn ht6).trans (keepsTurn (Turn.setCell s6 0 (.slice a6 (st.length + 1) c6)))))), ?_, Hmem.out, tag6, .slice a6 (st.length + 1) c6, ?_⟩
       ·have q1 := belCall (Below.refl w.heap.size W) hb4 hBW
        have q2 := belTurn q1 T5.out (Nat.le_trans hBW hb4.size)
        have q3 := belCall q2 (bel_alloc _ (.cells #[.int .i64 x.t, .int .i64 i, .int .i64 x.e] 170)) (Nat.le_trans hBW q2.size)
        have q4 := belTurn q3 ht6 (Nat.le_trans hBW q3.size)
        exact belTurn q4 (Turn.setCell s6 0 (.slice a6 (st.length + 1) c6)) (Nat.le_trans hBW q4.size)
       ·rw [Hacc.out, show pStep perm i (se, st) x = (se.set x.t.toNat true, st ++ [⟨x.t, i, x.e⟩]) from ?_]
        ·exact hJ7
        ·unfold pStep
         rw [if_pos]
         dsimp only
         rw [List.getElem?_eq_getElem hq, Hb.out, Hpx.out]
         exact ⟨rfl, rfl⟩
     ·rw [hb] at e1
      have Hb := Lib.hid hb
      clear hb
      gi_wp2
      refine ⟨fun _ h => (by cases h), ?_⟩
      gi_wp2
      refine ⟨KeepsFrom.refl _ _, Below.refl _ _, Hmem.out, tagUp tag Bx 5, vs, ?_⟩
      rw [Hacc.out, show pStep perm i (se, st) x = (se, st) from ?_]
      ·exact hJ2
      ·unfold pStep
       rw [if_neg]
       dsimp only
       rw [List.getElem?_eq_getElem hq, Hb.out]
       simp
    case done =>
     rintro D W hD ⟨hpre, tag', vs', hW⟩ hd
     have hW2 := hW.mark (fun D' hD' => hI3.marks.lt hD') hD hI3.below.size hd
     have hszW := hW2.size
     have hibl := hW2.ib.lt
     have k2 : W.cell? ⟨bi, 0, none⟩ = some (.int .i64 i) := hW2.ib.cell 0
     have hile := hok.le
     have Hfin := Lib.hid (hW2.newI (i + 1))
     obtain ⟨hok', hi'⟩ := POk.fold (perm := perm) (subOf es steps[i].s) hok hlt (fun y hy => Hin.out y (subOf_mem hy))
     have Hb2 : Hid (bfs (subOf es) want perm (n + 1 - i) i seen steps = bfs (subOf es) want perm (n + 1 - (i + 1)) (i + 1) ((subOf es steps[i].s).foldl (pStep perm i) (seen, steps)).1 ((subOf es steps[i].s).foldl (pStep perm i) (seen, steps)).2) := by
      show _ = _
      rw [show n + 1 - i = n - i + 1 by omega, bfs_next hlt Hwant.out, show n + 1 - (i + 1) = n - i by omega]
     clear hpre hseq hd hW hW2
     go_wp2_with fail
     refine ⟨?_, ?_⟩
     ·repeat apply Exists.intro
      exact ⟨rfl, Hfin.out, hok', hi', hbfs.out.trans Hb2.out, rfl⟩
     ·unfold pathMu
      have Hk := Hk0.out
      simp [Hk, intOf]
      omega
   ·have Hwant := Lib.hid hwant
    clear hwant
    go_wp2_with fail
    rw [hHen.out, Oper.upon_enter]
    refine (Hw.out steps[i].s wr hsr.1 hsr.2 hI.below).mono ?_
    rintro e w1 ⟨he, hb1⟩
    rw [Hwant.out] at he
    subst he
    dsimp only
    have hI1 := hI.call hb1
    clear k0 k1 s0 s1 s2 hI hb1 hbs
    have hsz1 := hI1.size
    have k0 : w1.cell? ⟨bi, 0, none⟩ = some (.int .i64 i) := hI1.ib.cell 0
    have hile := hok.le
    have Hpath : Hid (pathF n es want perm from_ = some (back steps (i + 1) i).reverse) := by
     show _ = _
     unfold pathF
     rw [hbfs.out, show n + 1 - i = n - i + 1 by omega, bfs_found hlt Hwant.out]; rfl
    obtain ⟨i2, hi2, hy0, hy1, hy2⟩ := info_parts Tryz.info_int
    go_wp2_with fail
    go_loopw [13, 14] (fun v k wr' => ∃ (xs : List Int) (kk f : Nat) (tag' : Nat → Nat), k = .int .i64 kk ∧ Row wr' w.heap.size tag' 6 3 1 v xs.length (ints xs) ∧ xs.length + kk ≤ i ∧ kk < f ∧ Hid (back steps (i + 1) i = xs ++ back steps f kk) ∧
     PInv w #[.slice aa la ca, .int .i64 n, .slice am lm cm, .slice ae es.length ce, .slice (some ⟨bf, offf, none⟩) (n + 1) cf] (.func (.func fp) #[] capp) n ds wr' tag' bi i (.slice (some ⟨bs, os, none⟩) steps.length cs) seen steps) (fun _ k _ => (intOf k).toNat)
    case atStart => exact ⟨[], i, i + 1, tag, rfl, Row.nil _ _ _ _ _ _, by simp, by omega, by simp [Hid], hI1⟩
    case round =>
     clear hI1 hsz1 k0
     obtain ⟨xs, kk, f, tag', rfl, hv, hxk, hkf, hbk, hI4⟩ := hrel
     obtain ⟨bs', os', cs', e1, hbs', s0, s1, s2⟩ := hI4.st.at_step kk (by omega)
     cases e1
     have hsz4 := hI4.size
     have k1 : wr.cell? ⟨w.heap.size + 1 + 1 + 1, 0, none⟩ = some (.slice (some ⟨bs, os, none⟩) steps.length cs) := hI4.sb.cell 0
     have hpar := hok.parent kk (by omega)
     obtain ⟨av, cv, rfl⟩ := hv.val
     by_cases hp : 0 ≤ steps[kk].p
     ·obtain ⟨kp, hkp⟩ := Int.eq_ofNat_of_zero_le hp
      have Hnext : Hid (back steps f kk = steps[kk].e :: back steps (f - 1) kp) := by
       show _ = _
       obtain ⟨f', rfl⟩ : ∃ f', f = f' + 1 := ⟨f - 1, by omega⟩
       rw [back_next (by omega) hp, hkp]; rfl
      have hkk : kp < kk := by omega
      rw [hkp] at s1
      have Hkp := Lib.hid hkp
      clear hkp hp hpar
      generalize steps[kk].e = ev at *
      have hv2 := hv.below (bel_alloc wr (.cells #[.int .i64 ev] 3))
      have hI5 := hI4.call (bel_alloc wr (.cells #[.int .i64 ev] 3))
      go_wp2_with (at_builtin; refine wpList_append_row rfl _ _ 27 rfl 3 i2 (.int .i64 0) 8 Tryz.underlying27 hi2 hy0 hy1 hy2 rfl rfl hv2 (some ⟨_, 0, none⟩) 1 1 [.int .i64 ev] rfl rfl (by simp) (fun ad e => by cases e; exact new_cells_at _ _ rfl) (by simp [Value.oneCell']) (by unfold maxLen; omega) (by omega) hI5.below.size ?_; intro v6 w6 tag6 hr6 ht6; have hI6 := hI5.turn ht6 (by decide); have q1 : w6.cell? ⟨w.heap.size + 1 + 1 + 1, 0, none⟩ = some (.slice (some ⟨bs, os, none⟩) steps.length cs) := hI6.sb.cell 0; obtain ⟨bs6, os6, cs6, e6, hbs6, r0, r1, r2⟩ := hI6.st.at_step kk (by omega); cases e6; rw [Hkp.out] at r1; clear r0 r2)
      go_roundw
      case rel =>
       refine ⟨xs ++ [ev], kp, f - 1, tag6, rfl, ?_, by simp; omega, by omega, ?_, hI6⟩
       ·have h1 := hr6
        rw [List.length_append]
        simpa [ints] using h1
       ·show _ = _
        rw [hbk.out, Hnext.out]; simp
      case measure => simp [intOf]; omega
     ·have Hend : Hid (back steps f kk = []) := by
       show _ = _
       obtain ⟨f', rfl⟩ : ∃ f', f = f' + 1 := ⟨f - 1, by omega⟩
       exact back_end (by omega) (by omega)
      have hp' : steps[kk].p < 0 := by omega
      go_wp2_with (go_at_call 131; refine (reverse_any _ xs _ w.heap.size tag' 6 hv (by omega)).mono ?_; rintro e w7 ⟨⟨r, rfl⟩, hv7, ht7⟩)
      refine bodyPostM_ret (hI4.turn ht7 (by decide)).marks (fun w' hq => ⟨.tuple #[.slice av xs.length cv, .bool true], by simp [results, Tryz.results102, go_sem], _, rfl, ?_, (hI4.turn ht7 (by decide)).below.trans hq.below⟩)
      rw [Hpath.out, hbk.out, Hend.out, List.append_nil]
      have h9 := hq.row hv7
      have h10 : Row w' w.heap.size tag' 6 3 1 (.slice av xs.length cv) xs.reverse.length (ints xs.reverse) := by rw [List.length_reverse]; exact h9
      exact ⟨_, rfl, h10.rdI, h10.frs⟩
  ·have hie : i = steps.length := by omega
   have Hpath : Hid (pathF n es want perm from_ = none) := by
    show _ = _
    have := hok.le
    unfold pathF
    rw [hbfs.out, show n + 1 - i = n - i + 1 by omega, bfs_end (by omega)]; rfl
   clear hie
   obtain ⟨av, cv, rfl⟩ := hI.st.val
   go_wp2_with fail
   refine bodyPostM_ret hI.marks (fun w' hq => ⟨.tuple #[.slice none 0 0, .bool false], by simp [results, Tryz.results102, go_sem], _, rfl, ?_, hI.below.trans hq.below⟩)
   rw [Hpath.out]
   rfl
end Go.Proofs.YtfbapajcheammaaGreatDoor

namespace Go.Proofs.YtfbapajcheammaaGreatDoor

def inL (es : List Ed) (s : Nat) : List Int := (es.filter fun x => decide (x.t = (s : Int))).map Ed.f
theorem inL_same (es : List Ed) (x : Ed) (s : Nat) (h : x.t = (s : Int)) : inL (es ++ [x]) s = inL es s ++ [x.f] := by simp [inL, h]
theorem inL_other (es : List Ed) (x : Ed) (s : Nat) (h : ¬ x.t = (s : Int)) : inL (es ++ [x]) s = inL es s := by simp [inL, h]
theorem inL_le (es : List Ed) (s : Nat) : (inL es s).length ≤ es.length := by
 unfold inL; rw [List.length_map]; exact List.length_filter_le _ _
theorem inL_mem {es : List Ed} {s : Nat} {p : Int} (h : p ∈ inL es s) : ∃ x ∈ es, x.f = p ∧ x.t = (s : Int) := by
 unfold inL at h
 obtain ⟨x, hx, rfl⟩ := List.mem_map.1 h
 obtain ⟨h1, h2⟩ := List.mem_filter.1 hx
 exact ⟨x, h1, rfl, by simpa using h2⟩

def bStep (s : Nat) (acc : List Int × List Int) (p : Int) : List Int × List Int :=
 if acc.1.getD p.toNat 0 < 0 then (acc.1.set p.toNat (acc.1.getD s 0 + 1), acc.2 ++ [p]) else acc
def bwd (inn : Nat → List Int) : Nat → List Int → List Int → List Int
 | 0, ds, _ => ds
 | _ + 1, ds, [] => ds
 | f + 1, ds, s :: q => bwd inn f ((inn s.toNat).foldl (bStep s.toNat) (ds, q)).1 ((inn s.toNat).foldl (bStep s.toNat) (ds, q)).2
def negs (ds : List Int) : Nat := ds.countP fun d => decide (d < 0)
structure BOk (n : Nat) (ds q : List Int) : Prop where
 len : ds.length = n
 lo : ∀ d ∈ ds, -1 ≤ d ∧ d ≤ 1000000 - negs ds
 qr : ∀ s ∈ q, 0 ≤ s ∧ s < n
 nn : ∀ s ∈ q, 0 ≤ ds.getD s.toNat 0
theorem negs_set {ds : List Int} {p : Nat} {d : Int} (hp : p < ds.length) (h : ds[p] < 0) (hd : 0 ≤ d) : negs (ds.set p d) + 1 = negs ds := by
 unfold negs
 induction ds generalizing p with
 | nil => simp at hp
 | cons a l ih =>
  cases p with
  | zero =>
   simp only [List.set_cons_zero, List.countP_cons, List.getElem_cons_zero] at h ⊢
   rw [decide_eq_true h, decide_eq_false (by omega)]; simp
  | succ p =>
   simp only [List.set_cons_succ, List.countP_cons]
   have := ih (p := p) (by simpa using hp) (by simpa using h)
   omega
theorem getD_set_ne {ds : List Int} {p s : Nat} {d : Int} (h : p ≠ s) : (ds.set p d).getD s 0 = ds.getD s 0 := by
 simp [List.getD_eq_getElem?_getD, List.getElem?_set_ne h]
theorem BOk.step {n s : Nat} {ds q : List Int} (h : BOk n ds q) (hs : s < n) (h0 : 0 ≤ ds.getD s 0) (p : Int) (hp0 : 0 ≤ p) (hp1 : p < n) :
  BOk n (bStep s (ds, q) p).1 (bStep s (ds, q) p).2 ∧ 0 ≤ (bStep s (ds, q) p).1.getD s 0 ∧ 2 * negs (bStep s (ds, q) p).1 + (bStep s (ds, q) p).2.length ≤ 2 * negs ds + q.length := by
 unfold bStep
 dsimp only
 have hpl : p.toNat < ds.length := by rw [h.len]; omega
 split
 ·rename_i hc
  rw [List.getD_eq_getElem?_getD, List.getElem?_eq_getElem hpl, Option.getD_some] at hc
  have hsl : s < ds.length := by rw [h.len]; exact hs
  have hds : ds.getD s 0 ∈ ds := by rw [List.getD_eq_getElem?_getD, List.getElem?_eq_getElem hsl]; exact List.getElem_mem _
  have hn := negs_set hpl hc (d := ds.getD s 0 + 1) (by omega)
  have hne : p.toNat ≠ s := by
   rintro rfl
   rw [List.getD_eq_getElem?_getD, List.getElem?_eq_getElem hpl, Option.getD_some] at h0
   omega
  have hset : ∀ t : Nat, t < ds.length → 0 ≤ ds.getD t 0 ∨ t = p.toNat → 0 ≤ (ds.set p.toNat (ds.getD s 0 + 1)).getD t 0 := by
   intro t ht h2
   by_cases e : p.toNat = t
   ·subst e
    rw [List.getD_eq_getElem?_getD, List.getElem?_set_self hpl, Option.getD_some]; omega
   ·rw [getD_set_ne e]; exact h2.resolve_right (fun h3 => e h3.symm)
  refine ⟨⟨by simp [h.len], fun d hd => ?_, fun t ht => ?_, fun t ht => ?_⟩, ?_, ?_⟩
  ·dsimp only at hd ⊢
   rcases List.mem_or_eq_of_mem_set hd with h1 | h1
   ·have := h.lo d h1; omega
   ·have := h.lo _ hds; omega
  ·dsimp only at ht
   rcases List.mem_append.1 ht with h1 | h1
   ·exact h.qr t h1
   ·rw [List.mem_singleton.1 h1]; exact ⟨hp0, hp1⟩
  ·dsimp only at ht ⊢
   rcases List.mem_append.1 ht with h1 | h1
   ·exact hset _ (by have := h.qr t h1; rw [h.len]; omega) (.inl (h.nn t h1))
   ·rw [List.mem_singleton.1 h1]; exact hset _ hpl (.inr rfl)
  ·dsimp only
   rw [getD_set_ne hne]; exact h0
  ·dsimp only
   rw [List.length_append, List.length_singleton]; omega
 ·exact ⟨h, h0, Nat.le_refl _⟩
theorem BOk.fold {n s : Nat} (hs : s < n) : ∀ (l : List Int) {ds q : List Int}, BOk n ds q → 0 ≤ ds.getD s 0 → (∀ p ∈ l, 0 ≤ p ∧ p < (n : Int)) →
  BOk n (l.foldl (bStep s) (ds, q)).1 (l.foldl (bStep s) (ds, q)).2 ∧ 0 ≤ (l.foldl (bStep s) (ds, q)).1.getD s 0 ∧ 2 * negs (l.foldl (bStep s) (ds, q)).1 + (l.foldl (bStep s) (ds, q)).2.length ≤ 2 * negs ds + q.length
 | [], _, _, h, h0, _ => ⟨h, h0, Nat.le_refl _⟩
 | p :: l, ds, q, h, h0, hp => by
  obtain ⟨h1, h2, h3⟩ := h.step hs h0 p (hp p (List.mem_cons_self ..)).1 (hp p (List.mem_cons_self ..)).2
  obtain ⟨g1, g2, g3⟩ := BOk.fold hs l h1 h2 (fun y hy => hp y (List.mem_cons_of_mem _ hy))
  exact ⟨g1, g2, Nat.le_trans g3 h3⟩
def bStart (n : Nat) (tg : List Int) : List Int := tg.foldl (fun ds (s : Int) => ds.set s.toNat 0) (List.replicate n (-1))
def backward (n : Nat) (es : List Ed) (tg : List Int) : List Int := bwd (inL es) (2 * negs (bStart n tg) + tg.length + 1) (bStart n tg) tg

theorem foldSet_get : ∀ (l : List Int) (ds : List Int) (i : Nat), i < ds.length → (∀ s ∈ l, 0 ≤ s) → (l.foldl (fun ds (s : Int) => ds.set s.toNat 0) ds).getD i 0 = if (i : Int) ∈ l then 0 else ds.getD i 0
 | [], ds, i, _, _ => by simp
 | s :: l, ds, i, hi, hs => by
  rw [List.foldl_cons, foldSet_get l (ds.set s.toNat 0) i (by simpa using hi) (fun t ht => hs t (List.mem_cons_of_mem _ ht))]
  have h0 := hs s (List.mem_cons_self ..)
  by_cases h1 : (i : Int) ∈ l
  ·rw [if_pos h1, if_pos (List.mem_cons_of_mem _ h1)]
  ·rw [if_neg h1]
   by_cases h2 : (i : Int) = s
   ·have : s.toNat = i := by omega
    rw [if_pos (by rw [h2]; exact List.mem_cons_self ..), this, List.getD_eq_getElem?_getD, List.getElem?_set_self hi]; rfl
   ·rw [if_neg (by simp [h1, h2]), getD_set_ne (by omega)]
theorem foldSet_length : ∀ (l : List Int) (ds : List Int), (l.foldl (fun ds (s : Int) => ds.set s.toNat 0) ds).length = ds.length
 | [], _ => rfl
 | s :: l, ds => by rw [List.foldl_cons, foldSet_length]; simp
theorem bStart_length (n : Nat) (tg : List Int) : (bStart n tg).length = n := by rw [bStart, foldSet_length]; simp
theorem bStart_get (n : Nat) (tg : List Int) (h : ∀ s ∈ tg, 0 ≤ s) (i : Nat) (hi : i < n) : (bStart n tg).getD i 0 = if (i : Int) ∈ tg then 0 else -1 := by
 rw [bStart, foldSet_get tg _ i (by simpa using hi) h, List.getD_eq_getElem?_getD, List.getElem?_replicate, if_pos hi]; rfl
theorem negs_le (ds : List Int) : negs ds ≤ ds.length := List.countP_le_length
theorem BOk.start (n : Nat) (tg : List Int) (hn : n ≤ 1000000) (h : ∀ s ∈ tg, 0 ≤ s ∧ s < n) : BOk n (bStart n tg) tg := by
 have hl := bStart_length n tg
 refine ⟨hl, fun d hd => ?_, h, fun s hs => ?_⟩
 ·obtain ⟨i, hi, rfl⟩ := List.getElem_of_mem hd
  have h1 := bStart_get n tg (fun s hs => (h s hs).1) i (by omega)
  rw [List.getD_eq_getElem?_getD, List.getElem?_eq_getElem hi, Option.getD_some] at h1
  have := negs_le (bStart n tg)
  rw [h1]
  split <;> omega
 ·have h1 := h s hs
  rw [bStart_get n tg (fun s hs => (h s hs).1) s.toNat (by omega), if_pos (by rw [Int.toNat_of_nonneg h1.1]; exact hs)]
  exact Int.le_refl 0
theorem BOk.pop {n : Nat} {ds q : List Int} {s : Int} (h : BOk n ds (s :: q)) : BOk n ds q := ⟨h.len, h.lo, fun t ht => h.qr t (List.mem_cons_of_mem _ ht), fun t ht => h.nn t (List.mem_cons_of_mem _ ht)⟩
theorem inL_range {es : List Ed} {n s : Nat} (h : ∀ x ∈ es, 0 ≤ x.f ∧ x.f < n ∧ 0 ≤ x.t ∧ x.t < (n : Int)) : ∀ p ∈ inL es s, 0 ≤ p ∧ p < (n : Int) := by
 intro p hp
 obtain ⟨x, hx, rfl, _⟩ := inL_mem hp
 exact ⟨(h x hx).1, (h x hx).2.1⟩
end Go.Proofs.YtfbapajcheammaaGreatDoor

namespace Go.Proofs.YtfbapajcheammaaGreatDoor
open Go.RowKit

theorem setErr_zero {n : Int} : ∀ {p : Option Int} {xs : List Int}, setErr n p xs = 0 → ∀ x ∈ xs, 0 ≤ x ∧ x < n
 | _, [], _, x, hx => by cases hx
 | p, y :: ys, h, x, hx => by
  rw [setErr] at h
  split at h
  ·cases h
  ·rename_i h1
   split at h
   ·cases h
   ·rcases List.mem_cons.1 hx with rfl | h2
    ·omega
    ·exact setErr_zero h x h2
theorem edErr_zero {al : List Int} {n : Int} : ∀ {p : Option Ed} {xs : List Ed}, edErr al n p xs = 0 → ∀ x ∈ xs, 0 ≤ x.f ∧ x.f < n ∧ 0 ≤ x.t ∧ x.t < n
 | _, [], _, x, hx => by cases hx
 | p, y :: ys, h, x, hx => by
  rw [edErr] at h
  split at h
  ·cases h
  ·rename_i h1
   split at h
   ·cases h
   ·split at h
    ·cases h
    ·rcases List.mem_cons.1 hx with rfl | h2
     ·omega
     ·exact edErr_zero h x h2
structure Aut.Ok (a : Aut) : Prop where
 n0 : 0 ≤ a.n
 n1 : a.n ≤ 4096
 ms : ∀ s ∈ a.ms, 0 ≤ s ∧ s < a.n
 es : ∀ x ∈ a.es, 0 ≤ x.f ∧ x.f < a.n ∧ 0 ≤ x.t ∧ x.t < a.n
theorem Aut.ok_of {a : Aut} (h : a.err = 0) : a.Ok := by
 unfold Aut.err at h
 split at h
 ·rename_i h1; rw [h] at h1; cases h1
 ·split at h
  ·cases h
  ·split at h
   ·cases h
   ·split at h
    ·rename_i h1; rw [h] at h1; cases h1
    ·rename_i h1 h2 h3 h4
     have h5 : setErr a.n none a.ms = 0 := by simpa using h4
     exact ⟨by omega, by omega, setErr_zero h5, edErr_zero h⟩

theorem checkStates_any (aa am ae : Option Addr) (la lm le ca cm ce : Nat) (n : Int) (v : Value) (xs : List Int) (w : World) (hr : RdI w v xs) (hl : xs.length ≤ 1000000) :
  Calls Tryz.prog 62 #[.agg #[.slice aa la ca, .int .i64 n, .slice am lm cm, .slice ae le ce], v] w (Ret w fun u _ => u = .int .i64 (setErr n none xs)) := by
 go_enter Tryz.func62, Tryz.ntmps62
 go_wp2_with (go_at_call 95; ((with_reducible refine (rcheckSet_any _ _ _ _ (hr.mono (by (repeat (first | with_reducible exact Below.refl _ _ | with_reducible exact hr | (with_reducible refine belCall ?_ hr (by first | omega | (simp; done) | (simp; omega) | (simp at *; omega))) | (with_reducible refine Below.alloc ?_ (by first | omega | (simp; done) | (simp; omega) | (simp at *; omega)) _) | (with_reducible refine Below.drew ?_) | (with_reducible refine Below.setCell ?_ (by first | omega | (simp; done) | (simp; omega) | (simp at *; omega)) _))))) hl).mono ?_); rintro e w1 ⟨rfl, rfl⟩))
 go_ret
 exact ⟨_, rfl, rfl, (by (repeat (first | with_reducible exact Below.refl _ _ | with_reducible exact hr | (with_reducible refine belCall ?_ hr (by first | omega | (simp; done) | (simp; omega) | (simp at *; omega))) | (with_reducible refine Below.alloc ?_ (by first | omega | (simp; done) | (simp; omega) | (simp at *; omega)) _) | (with_reducible refine Below.drew ?_) | (with_reducible refine Below.setCell ?_ (by first | omega | (simp; done) | (simp; omega) | (simp at *; omega)) _))))⟩

theorem box4 {w w1 : World} {c0 c1 c2 c3 : Value} {t : TypeId} (hb : Below (w.alloc (.cells #[c0, c1, c2, c3] t)).heap.size (w.alloc (.cells #[c0, c1, c2, c3] t)) w1) :
  w1.cell? ⟨w.heap.size, 0, none⟩ = some c0 ∧ w1.cell? ⟨w.heap.size, 1, none⟩ = some c1 ∧ w1.cell? ⟨w.heap.size, 2, none⟩ = some c2 ∧ w1.cell? ⟨w.heap.size, 3, none⟩ = some c3 ∧ w.heap.size < w1.heap.size :=
 ⟨keep0 hb (by simp [go_sem]), keep0 hb (by simp [go_sem]), keep0 hb (by simp [go_sem]), keep0 hb (by simp [go_sem]), by have := hb.size; simp at this; omega⟩
theorem box4' {w w0 w1 : World} {c0 c1 c2 c3 : Value} (h : w0.cell? ⟨w.heap.size, 0, none⟩ = some c0 ∧ w0.cell? ⟨w.heap.size, 1, none⟩ = some c1 ∧ w0.cell? ⟨w.heap.size, 2, none⟩ = some c2 ∧ w0.cell? ⟨w.heap.size, 3, none⟩ = some c3 ∧ w.heap.size < w0.heap.size) (hb : Below w0.heap.size w0 w1) :
  w1.cell? ⟨w.heap.size, 0, none⟩ = some c0 ∧ w1.cell? ⟨w.heap.size, 1, none⟩ = some c1 ∧ w1.cell? ⟨w.heap.size, 2, none⟩ = some c2 ∧ w1.cell? ⟨w.heap.size, 3, none⟩ = some c3 ∧ w.heap.size < w1.heap.size :=
 ⟨keep0 hb h.1, keep0 hb h.2.1, keep0 hb h.2.2.1, keep0 hb h.2.2.2.1, Nat.lt_of_lt_of_le h.2.2.2.2 hb.size⟩

def err2 (a b : Int) : Int := if a = 0 then b else a

end Go.Proofs.YtfbapajcheammaaGreatDoor

namespace Go.Proofs.YtfbapajcheammaaGreatDoor
open Go.RowKit

theorem path1_any (be : Nat) (v : Value) (fl : List Bool) (s : Int) (w : World) (hb : w.cell? ⟨be, 0, none⟩ = some v) (hf : RdB w v fl) (h0 : 0 ≤ s) (h1 : s < fl.length) (hl : fl.length ≤ 1000000) :
  Calls Tryz.prog 103 #[.int .i64 s, .pointer (some ⟨be, 0, none⟩)] w fun e w' => e = .returned (.bool (fl.getD s.toNat false)) ∧ Below w.heap.size w w' := by
 obtain ⟨a, cap, rfl, hr⟩ := hf
 obtain ⟨b, off, rfl, hc⟩ := hr.at_bool s.toNat (by omega)
 have hg : fl.getD s.toNat false = fl[s.toNat] := by rw [List.getD_eq_getElem?_getD, List.getElem?_eq_getElem (by omega)]; rfl
 rw [hg]
 clear hg
 go_enter Tryz.func103, Tryz.ntmps103
 go_wp2
 go_ret
 exact ⟨rfl, Below.refl _ _⟩

theorem path2_any (be : Nat) (v : Value) (fl : List Bool) (x : Ed) (w : World) (hb : w.cell? ⟨be, 0, none⟩ = some v) (hf : RdB w v fl) (h0 : 0 ≤ x.t) (h1 : x.t < fl.length) (hl : fl.length ≤ 1000000) :
  Calls Tryz.prog 104 #[x.val, .pointer (some ⟨be, 0, none⟩)] w fun e w' => e = .returned (.bool (fl.getD x.t.toNat false)) ∧ Below w.heap.size w w' := by
 obtain ⟨a, cap, rfl, hr⟩ := hf
 obtain ⟨b, off, rfl, hc⟩ := hr.at_bool x.t.toNat (by omega)
 have hbl := World.block_lt_of_cell? w _ hb
 have hbl2 := World.block_lt_of_cell? w _ hc
 dsimp only at hbl hbl2
 have hg : fl.getD x.t.toNat false = fl[x.t.toNat] := by rw [List.getD_eq_getElem?_getD, List.getElem?_eq_getElem (by omega)]; rfl
 rw [hg]
 clear hg
 dsimp only [Ed.val]
 go_enter Tryz.func104, Tryz.ntmps104
 go_wp2
 go_ret
 exact ⟨rfl, (by (repeat (first | with_reducible exact Below.refl _ _ | with_reducible exact hb | (with_reducible refine belCall ?_ hb (by first | omega | (simp; done) | (simp; omega) | (simp at *; omega))) | (with_reducible refine Below.alloc ?_ (by first | omega | (simp; done) | (simp; omega) | (simp at *; omega)) _) | (with_reducible refine Below.drew ?_) | (with_reducible refine Below.setCell ?_ (by first | omega | (simp; done) | (simp; omega) | (simp at *; omega)) _))))⟩
end Go.Proofs.YtfbapajcheammaaGreatDoor

namespace Go.Proofs.YtfbapajcheammaaGreatDoor
open Go.RowKit

structure RBox (w : World) (aa am ae : Option Addr) (la lm le ca cm ce n : Nat) (v44 v47 : Value) (F1 F2 : List Bool) (l : Array Bool) (u43 u44 u45 u46 u47 u48 u15 u16 : Value) (tag : Nat → Nat) (W : World) : Prop where
 bel : Below w.heap.size w W
 box : Box4 W tag w.heap.size (.slice aa la ca) (.int .i64 n) (.slice am lm cm) (.slice ae le ce)
 s43 : l.getD 0 false = true → u43 = .agg #[.slice aa la ca, .int .i64 n, .slice am lm cm, .slice ae le ce]
 s44 : l.getD 1 false = true → u44 = v44
 s45 : l.getD 2 false = true → Row W w.heap.size tag 3 4 1 u45 n (bools F1)
 s46 : l.getD 3 false = true → u46 = .agg #[.slice aa la ca, .int .i64 n, .slice am lm cm, .slice ae le ce]
 s47 : l.getD 4 false = true → u47 = v47
 s48 : l.getD 5 false = true → Row W w.heap.size tag 4 4 1 u48 n (bools F2)
 s15 : l.getD 6 false = true → ∃ b, u15 = .pointer (some ⟨b, 0, none⟩) ∧ Own W w.heap.size tag 1 b #[if l.getD 8 false = true then u45 else .slice none 0 0] 55
 s16 : l.getD 7 false = true → ∃ b, u16 = .pointer (some ⟨b, 0, none⟩) ∧ Own W w.heap.size tag 2 b #[if l.getD 9 false = true then u48 else .slice none 0 0] 55
 o8 : l.getD 8 false = true → l.getD 2 false = true ∧ l.getD 6 false = true
 o9 : l.getD 9 false = true → l.getD 5 false = true ∧ l.getD 7 false = true
theorem RBox.start {w : World} {aa am ae : Option Addr} {la lm le ca cm ce n : Nat} {v44 v47 : Value} {F1 F2 : List Bool} {m : Nat} {u43 u44 u45 u46 u47 u48 u15 u16 : Value} {tag : Nat → Nat} {W : World} (hb : Below w.heap.size w W) (hx : Box4 W tag w.heap.size (.slice aa la ca) (.int .i64 n) (.slice am lm cm) (.slice ae le ce)) :
  RBox w aa am ae la lm le ca cm ce n v44 v47 F1 F2 (Array.replicate m false) u43 u44 u45 u46 u47 u48 u15 u16 tag W := by
 have h : ∀ j, (Array.replicate m false).getD j false = true → False := by
  intro j
  rw [Array.getD_eq_getD_getElem?, Array.getElem?_replicate]
  split <;> simp
 exact ⟨hb, hx, fun e => (h _ e).elim, fun e => (h _ e).elim, fun e => (h _ e).elim, fun e => (h _ e).elim, fun e => (h _ e).elim, fun e => (h _ e).elim, fun e => (h _ e).elim, fun e => (h _ e).elim, fun e => (h _ e).elim, fun e => (h _ e).elim⟩

section
variable {w : World} {aa am ae : Option Addr} {la lm le ca cm ce n : Nat} {v44 v47 : Value} {F1 F2 : List Bool} {l : Array Bool} {u43 u44 u45 u46 u47 u48 u15 u16 : Value} {tag : Nat → Nat} {W W' : World}
theorem RBox.op0 (hI : RBox w aa am ae la lm le ca cm ce n v44 v47 F1 F2 l u43 u44 u45 u46 u47 u48 u15 u16 tag W) (hl : ∀ j, j < 10 → (l.setIfInBounds 0 true).getD j false = (j == 0 || l.getD j false))  :
  RBox w aa am ae la lm le ca cm ce n v44 v47 F1 F2 (l.setIfInBounds 0 true) (.agg #[.slice aa la ca, .int .i64 n, .slice am lm cm, .slice ae le ce]) u44 u45 u46 u47 u48 u15 u16 tag W := by
 refine ⟨hI.bel, hI.box, ?_, ?_, ?_, ?_, ?_, ?_, ?_, ?_, ?_, ?_⟩
 ·exact fun _ => rfl
 ·exact fun h => (hI.s44 (by rwa [up_ne hl 1 (by decide) rfl] at h))
 ·exact fun h => (hI.s45 (by rwa [up_ne hl 2 (by decide) rfl] at h))
 ·exact fun h => (hI.s46 (by rwa [up_ne hl 3 (by decide) rfl] at h))
 ·exact fun h => (hI.s47 (by rwa [up_ne hl 4 (by decide) rfl] at h))
 ·exact fun h => (hI.s48 (by rwa [up_ne hl 5 (by decide) rfl] at h))
 ·exact fun h => by
   obtain ⟨b, hb, ho⟩ := (hI.s15 (by rwa [up_ne hl 6 (by decide) rfl] at h))
   rw [up_ne hl 8 (by decide) rfl]
   exact ⟨b, hb, ho⟩
 ·exact fun h => by
   obtain ⟨b, hb, ho⟩ := (hI.s16 (by rwa [up_ne hl 7 (by decide) rfl] at h))
   rw [up_ne hl 9 (by decide) rfl]
   exact ⟨b, hb, ho⟩
 ·exact fun h => by
   rw [up_ne hl 8 (by decide) rfl] at h
   have := hI.o8 h
   exact ⟨by rw [hl 2 (by decide), this.1, Bool.or_true], by rw [hl 6 (by decide), this.2, Bool.or_true]⟩
 ·exact fun h => by
   rw [up_ne hl 9 (by decide) rfl] at h
   have := hI.o9 h
   exact ⟨by rw [hl 5 (by decide), this.1, Bool.or_true], by rw [hl 7 (by decide), this.2, Bool.or_true]⟩
theorem RBox.op1 (hI : RBox w aa am ae la lm le ca cm ce n v44 v47 F1 F2 l u43 u44 u45 u46 u47 u48 u15 u16 tag W) (hl : ∀ j, j < 10 → (l.setIfInBounds 1 true).getD j false = (j == 1 || l.getD j false))  :
  RBox w aa am ae la lm le ca cm ce n v44 v47 F1 F2 (l.setIfInBounds 1 true) u43 v44 u45 u46 u47 u48 u15 u16 tag W := by
 refine ⟨hI.bel, hI.box, ?_, ?_, ?_, ?_, ?_, ?_, ?_, ?_, ?_, ?_⟩
 ·exact fun h => (hI.s43 (by rwa [up_ne hl 0 (by decide) rfl] at h))
 ·exact fun _ => rfl
 ·exact fun h => (hI.s45 (by rwa [up_ne hl 2 (by decide) rfl] at h))
 ·exact fun h => (hI.s46 (by rwa [up_ne hl 3 (by decide) rfl] at h))
 ·exact fun h => (hI.s47 (by rwa [up_ne hl 4 (by decide) rfl] at h))
 ·exact fun h => (hI.s48 (by rwa [up_ne hl 5 (by decide) rfl] at h))
 ·exact fun h => by
   obtain ⟨b, hb, ho⟩ := (hI.s15 (by rwa [up_ne hl 6 (by decide) rfl] at h))
   rw [up_ne hl 8 (by decide) rfl]
   exact ⟨b, hb, ho⟩
 ·exact fun h => by
   obtain ⟨b, hb, ho⟩ := (hI.s16 (by rwa [up_ne hl 7 (by decide) rfl] at h))
   rw [up_ne hl 9 (by decide) rfl]
   exact ⟨b, hb, ho⟩
 ·exact fun h => by
   rw [up_ne hl 8 (by decide) rfl] at h
   have := hI.o8 h
   exact ⟨by rw [hl 2 (by decide), this.1, Bool.or_true], by rw [hl 6 (by decide), this.2, Bool.or_true]⟩
 ·exact fun h => by
   rw [up_ne hl 9 (by decide) rfl] at h
   have := hI.o9 h
   exact ⟨by rw [hl 5 (by decide), this.1, Bool.or_true], by rw [hl 7 (by decide), this.2, Bool.or_true]⟩
theorem RBox.op3 (hI : RBox w aa am ae la lm le ca cm ce n v44 v47 F1 F2 l u43 u44 u45 u46 u47 u48 u15 u16 tag W) (hl : ∀ j, j < 10 → (l.setIfInBounds 3 true).getD j false = (j == 3 || l.getD j false))  :
  RBox w aa am ae la lm le ca cm ce n v44 v47 F1 F2 (l.setIfInBounds 3 true) u43 u44 u45 (.agg #[.slice aa la ca, .int .i64 n, .slice am lm cm, .slice ae le ce]) u47 u48 u15 u16 tag W := by
 refine ⟨hI.bel, hI.box, ?_, ?_, ?_, ?_, ?_, ?_, ?_, ?_, ?_, ?_⟩
 ·exact fun h => (hI.s43 (by rwa [up_ne hl 0 (by decide) rfl] at h))
 ·exact fun h => (hI.s44 (by rwa [up_ne hl 1 (by decide) rfl] at h))
 ·exact fun h => (hI.s45 (by rwa [up_ne hl 2 (by decide) rfl] at h))
 ·exact fun _ => rfl
 ·exact fun h => (hI.s47 (by rwa [up_ne hl 4 (by decide) rfl] at h))
 ·exact fun h => (hI.s48 (by rwa [up_ne hl 5 (by decide) rfl] at h))
 ·exact fun h => by
   obtain ⟨b, hb, ho⟩ := (hI.s15 (by rwa [up_ne hl 6 (by decide) rfl] at h))
   rw [up_ne hl 8 (by decide) rfl]
   exact ⟨b, hb, ho⟩
 ·exact fun h => by
   obtain ⟨b, hb, ho⟩ := (hI.s16 (by rwa [up_ne hl 7 (by decide) rfl] at h))
   rw [up_ne hl 9 (by decide) rfl]
   exact ⟨b, hb, ho⟩
 ·exact fun h => by
   rw [up_ne hl 8 (by decide) rfl] at h
   have := hI.o8 h
   exact ⟨by rw [hl 2 (by decide), this.1, Bool.or_true], by rw [hl 6 (by decide), this.2, Bool.or_true]⟩
 ·exact fun h => by
   rw [up_ne hl 9 (by decide) rfl] at h
   have := hI.o9 h
   exact ⟨by rw [hl 5 (by decide), this.1, Bool.or_true], by rw [hl 7 (by decide), this.2, Bool.or_true]⟩
theorem RBox.op4 (hI : RBox w aa am ae la lm le ca cm ce n v44 v47 F1 F2 l u43 u44 u45 u46 u47 u48 u15 u16 tag W) (hl : ∀ j, j < 10 → (l.setIfInBounds 4 true).getD j false = (j == 4 || l.getD j false))  :
  RBox w aa am ae la lm le ca cm ce n v44 v47 F1 F2 (l.setIfInBounds 4 true) u43 u44 u45 u46 v47 u48 u15 u16 tag W := by
 refine ⟨hI.bel, hI.box, ?_, ?_, ?_, ?_, ?_, ?_, ?_, ?_, ?_, ?_⟩
 ·exact fun h => (hI.s43 (by rwa [up_ne hl 0 (by decide) rfl] at h))
 ·exact fun h => (hI.s44 (by rwa [up_ne hl 1 (by decide) rfl] at h))
 ·exact fun h => (hI.s45 (by rwa [up_ne hl 2 (by decide) rfl] at h))
 ·exact fun h => (hI.s46 (by rwa [up_ne hl 3 (by decide) rfl] at h))
 ·exact fun _ => rfl
 ·exact fun h => (hI.s48 (by rwa [up_ne hl 5 (by decide) rfl] at h))
 ·exact fun h => by
   obtain ⟨b, hb, ho⟩ := (hI.s15 (by rwa [up_ne hl 6 (by decide) rfl] at h))
   rw [up_ne hl 8 (by decide) rfl]
   exact ⟨b, hb, ho⟩
 ·exact fun h => by
   obtain ⟨b, hb, ho⟩ := (hI.s16 (by rwa [up_ne hl 7 (by decide) rfl] at h))
   rw [up_ne hl 9 (by decide) rfl]
   exact ⟨b, hb, ho⟩
 ·exact fun h => by
   rw [up_ne hl 8 (by decide) rfl] at h
   have := hI.o8 h
   exact ⟨by rw [hl 2 (by decide), this.1, Bool.or_true], by rw [hl 6 (by decide), this.2, Bool.or_true]⟩
 ·exact fun h => by
   rw [up_ne hl 9 (by decide) rfl] at h
   have := hI.o9 h
   exact ⟨by rw [hl 5 (by decide), this.1, Bool.or_true], by rw [hl 7 (by decide), this.2, Bool.or_true]⟩
theorem RBox.op2 (hI : RBox w aa am ae la lm le ca cm ce n v44 v47 F1 F2 l u43 u44 u45 u46 u47 u48 u15 u16 tag W) (hl : ∀ j, j < 10 → (l.setIfInBounds 2 true).getD j false = (j == 2 || l.getD j false)) {u : Value} (hb : Below W.heap.size W W') (hown : W'.ownsRow W.heap.size 4 1 u n (bools F1)) (hn : l.getD 2 false = false) :
  RBox w aa am ae la lm le ca cm ce n v44 v47 F1 F2 (l.setIfInBounds 2 true) u43 u44 u u46 u47 u48 u15 u16 (tagFrom tag W.heap.size 3) W' := by
 have ht : Turn w.heap.size tag (tagFrom tag W.heap.size 3) 3 W W' := Turn.call hb
 have hsz := hI.bel.size
 refine ⟨belTurn hI.bel ht hsz, hI.box.turn ht (by decide), ?_, ?_, ?_, ?_, ?_, ?_, ?_, ?_, ?_, ?_⟩
 ·exact fun h => (hI.s43 (by rwa [up_ne hl 0 (by decide) rfl] at h))
 ·exact fun h => (hI.s44 (by rwa [up_ne hl 1 (by decide) rfl] at h))
 ·exact fun _ => Row.of_call hown hsz
 ·exact fun h => (hI.s46 (by rwa [up_ne hl 3 (by decide) rfl] at h))
 ·exact fun h => (hI.s47 (by rwa [up_ne hl 4 (by decide) rfl] at h))
 ·exact fun h => (hI.s48 (by rwa [up_ne hl 5 (by decide) rfl] at h)).turn ht (by decide)
 ·exact fun h => by
   obtain ⟨b, hb, ho⟩ := hI.s15 (by rwa [up_ne hl 6 (by decide) rfl] at h)
   rw [up_ne hl 8 (by decide) rfl]
   have h8 : l.getD 8 false = false := by
    cases h8 : l.getD 8 false with
    | false => rfl
    | true => rw [(hI.o8 h8).1] at hn; cases hn
   rw [h8] at ho ⊢
   exact ⟨b, hb, ho.turn ht (by decide)⟩
 ·exact fun h => by
   obtain ⟨b, hb, ho⟩ := (hI.s16 (by rwa [up_ne hl 7 (by decide) rfl] at h))
   rw [up_ne hl 9 (by decide) rfl]
   exact ⟨b, hb, ho.turn ht (by decide)⟩
 ·exact fun h => by
   rw [up_ne hl 8 (by decide) rfl] at h
   have := hI.o8 h
   exact ⟨by rw [hl 2 (by decide), this.1, Bool.or_true], by rw [hl 6 (by decide), this.2, Bool.or_true]⟩
 ·exact fun h => by
   rw [up_ne hl 9 (by decide) rfl] at h
   have := hI.o9 h
   exact ⟨by rw [hl 5 (by decide), this.1, Bool.or_true], by rw [hl 7 (by decide), this.2, Bool.or_true]⟩
theorem RBox.op5 (hI : RBox w aa am ae la lm le ca cm ce n v44 v47 F1 F2 l u43 u44 u45 u46 u47 u48 u15 u16 tag W) (hl : ∀ j, j < 10 → (l.setIfInBounds 5 true).getD j false = (j == 5 || l.getD j false)) {u : Value} (hb : Below W.heap.size W W') (hown : W'.ownsRow W.heap.size 4 1 u n (bools F2)) (hn : l.getD 5 false = false) :
  RBox w aa am ae la lm le ca cm ce n v44 v47 F1 F2 (l.setIfInBounds 5 true) u43 u44 u45 u46 u47 u u15 u16 (tagFrom tag W.heap.size 4) W' := by
 have ht : Turn w.heap.size tag (tagFrom tag W.heap.size 4) 4 W W' := Turn.call hb
 have hsz := hI.bel.size
 refine ⟨belTurn hI.bel ht hsz, hI.box.turn ht (by decide), ?_, ?_, ?_, ?_, ?_, ?_, ?_, ?_, ?_, ?_⟩
 ·exact fun h => (hI.s43 (by rwa [up_ne hl 0 (by decide) rfl] at h))
 ·exact fun h => (hI.s44 (by rwa [up_ne hl 1 (by decide) rfl] at h))
 ·exact fun h => (hI.s45 (by rwa [up_ne hl 2 (by decide) rfl] at h)).turn ht (by decide)
 ·exact fun h => (hI.s46 (by rwa [up_ne hl 3 (by decide) rfl] at h))
 ·exact fun h => (hI.s47 (by rwa [up_ne hl 4 (by decide) rfl] at h))
 ·exact fun _ => Row.of_call hown hsz
 ·exact fun h => by
   obtain ⟨b, hb, ho⟩ := (hI.s15 (by rwa [up_ne hl 6 (by decide) rfl] at h))
   rw [up_ne hl 8 (by decide) rfl]
   exact ⟨b, hb, ho.turn ht (by decide)⟩
 ·exact fun h => by
   obtain ⟨b, hb, ho⟩ := hI.s16 (by rwa [up_ne hl 7 (by decide) rfl] at h)
   rw [up_ne hl 9 (by decide) rfl]
   have h8 : l.getD 9 false = false := by
    cases h8 : l.getD 9 false with
    | false => rfl
    | true => rw [(hI.o9 h8).1] at hn; cases hn
   rw [h8] at ho ⊢
   exact ⟨b, hb, ho.turn ht (by decide)⟩
 ·exact fun h => by
   rw [up_ne hl 8 (by decide) rfl] at h
   have := hI.o8 h
   exact ⟨by rw [hl 2 (by decide), this.1, Bool.or_true], by rw [hl 6 (by decide), this.2, Bool.or_true]⟩
 ·exact fun h => by
   rw [up_ne hl 9 (by decide) rfl] at h
   have := hI.o9 h
   exact ⟨by rw [hl 5 (by decide), this.1, Bool.or_true], by rw [hl 7 (by decide), this.2, Bool.or_true]⟩
theorem RBox.op6 (hI : RBox w aa am ae la lm le ca cm ce n v44 v47 F1 F2 l u43 u44 u45 u46 u47 u48 u15 u16 tag W) (hl : ∀ j, j < 10 → (l.setIfInBounds 6 true).getD j false = (j == 6 || l.getD j false)) (hn : l.getD 6 false = false) :
  RBox w aa am ae la lm le ca cm ce n v44 v47 F1 F2 (l.setIfInBounds 6 true) u43 u44 u45 u46 u47 u48 (.pointer (some ⟨W.heap.size, 0, none⟩)) u16 (tagUp tag W.heap.size 1) (W.alloc (.cells #[.slice none 0 0] 55)) := by
 have ht : Turn w.heap.size tag (tagUp tag W.heap.size 1) 1 W (W.alloc (.cells #[.slice none 0 0] 55)) := Turn.alloc _
 have hsz := hI.bel.size
 refine ⟨belTurn hI.bel ht hsz, hI.box.turn ht (by decide), ?_, ?_, ?_, ?_, ?_, ?_, ?_, ?_, ?_, ?_⟩
 ·exact fun h => (hI.s43 (by rwa [up_ne hl 0 (by decide) rfl] at h))
 ·exact fun h => (hI.s44 (by rwa [up_ne hl 1 (by decide) rfl] at h))
 ·exact fun h => (hI.s45 (by rwa [up_ne hl 2 (by decide) rfl] at h)).turn ht (by decide)
 ·exact fun h => (hI.s46 (by rwa [up_ne hl 3 (by decide) rfl] at h))
 ·exact fun h => (hI.s47 (by rwa [up_ne hl 4 (by decide) rfl] at h))
 ·exact fun h => (hI.s48 (by rwa [up_ne hl 5 (by decide) rfl] at h)).turn ht (by decide)
 ·exact fun _ => by
   have h8 : l.getD 8 false = false := by
    cases h8 : l.getD 8 false with
    | false => rfl
    | true => rw [(hI.o8 h8).2] at hn; cases hn
   rw [up_ne hl 8 (by decide) rfl, h8]
   exact ⟨_, rfl, Own.new W _ _ _ _ _ hsz (tagUp_at _ _ _)⟩
 ·exact fun h => by
   obtain ⟨b, hb, ho⟩ := (hI.s16 (by rwa [up_ne hl 7 (by decide) rfl] at h))
   rw [up_ne hl 9 (by decide) rfl]
   exact ⟨b, hb, ho.turn ht (by decide)⟩
 ·exact fun h => by
   rw [up_ne hl 8 (by decide) rfl] at h
   have := hI.o8 h
   exact ⟨by rw [hl 2 (by decide), this.1, Bool.or_true], by rw [hl 6 (by decide), this.2, Bool.or_true]⟩
 ·exact fun h => by
   rw [up_ne hl 9 (by decide) rfl] at h
   have := hI.o9 h
   exact ⟨by rw [hl 5 (by decide), this.1, Bool.or_true], by rw [hl 7 (by decide), this.2, Bool.or_true]⟩
theorem RBox.op7 (hI : RBox w aa am ae la lm le ca cm ce n v44 v47 F1 F2 l u43 u44 u45 u46 u47 u48 u15 u16 tag W) (hl : ∀ j, j < 10 → (l.setIfInBounds 7 true).getD j false = (j == 7 || l.getD j false)) (hn : l.getD 7 false = false) :
  RBox w aa am ae la lm le ca cm ce n v44 v47 F1 F2 (l.setIfInBounds 7 true) u43 u44 u45 u46 u47 u48 u15 (.pointer (some ⟨W.heap.size, 0, none⟩)) (tagUp tag W.heap.size 2) (W.alloc (.cells #[.slice none 0 0] 55)) := by
 have ht : Turn w.heap.size tag (tagUp tag W.heap.size 2) 2 W (W.alloc (.cells #[.slice none 0 0] 55)) := Turn.alloc _
 have hsz := hI.bel.size
 refine ⟨belTurn hI.bel ht hsz, hI.box.turn ht (by decide), ?_, ?_, ?_, ?_, ?_, ?_, ?_, ?_, ?_, ?_⟩
 ·exact fun h => (hI.s43 (by rwa [up_ne hl 0 (by decide) rfl] at h))
 ·exact fun h => (hI.s44 (by rwa [up_ne hl 1 (by decide) rfl] at h))
 ·exact fun h => (hI.s45 (by rwa [up_ne hl 2 (by decide) rfl] at h)).turn ht (by decide)
 ·exact fun h => (hI.s46 (by rwa [up_ne hl 3 (by decide) rfl] at h))
 ·exact fun h => (hI.s47 (by rwa [up_ne hl 4 (by decide) rfl] at h))
 ·exact fun h => (hI.s48 (by rwa [up_ne hl 5 (by decide) rfl] at h)).turn ht (by decide)
 ·exact fun h => by
   obtain ⟨b, hb, ho⟩ := (hI.s15 (by rwa [up_ne hl 6 (by decide) rfl] at h))
   rw [up_ne hl 8 (by decide) rfl]
   exact ⟨b, hb, ho.turn ht (by decide)⟩
 ·exact fun _ => by
   have h8 : l.getD 9 false = false := by
    cases h8 : l.getD 9 false with
    | false => rfl
    | true => rw [(hI.o9 h8).2] at hn; cases hn
   rw [up_ne hl 9 (by decide) rfl, h8]
   exact ⟨_, rfl, Own.new W _ _ _ _ _ hsz (tagUp_at _ _ _)⟩
 ·exact fun h => by
   rw [up_ne hl 8 (by decide) rfl] at h
   have := hI.o8 h
   exact ⟨by rw [hl 2 (by decide), this.1, Bool.or_true], by rw [hl 6 (by decide), this.2, Bool.or_true]⟩
 ·exact fun h => by
   rw [up_ne hl 9 (by decide) rfl] at h
   have := hI.o9 h
   exact ⟨by rw [hl 5 (by decide), this.1, Bool.or_true], by rw [hl 7 (by decide), this.2, Bool.or_true]⟩
theorem RBox.op8 {bx : Nat} (hI : RBox w aa am ae la lm le ca cm ce n v44 v47 F1 F2 l u43 u44 u45 u46 u47 u48 (.pointer (some ⟨bx, 0, none⟩)) u16 tag W) (hl : ∀ j, j < 10 → (l.setIfInBounds 8 true).getD j false = (j == 8 || l.getD j false)) (h1 : l.getD 6 false = true) (h2 : l.getD 2 false = true) :
  RBox w aa am ae la lm le ca cm ce n v44 v47 F1 F2 (l.setIfInBounds 8 true) u43 u44 u45 u46 u47 u48 (.pointer (some ⟨bx, 0, none⟩)) u16 tag (W.setCell ⟨bx, 0, none⟩ u45) := by
 obtain ⟨b, hb, ho⟩ := hI.s15 h1
 cases hb
 have ht : Turn w.heap.size tag tag 1 W (W.setCell ⟨bx, 0, none⟩ u45) := Turn.setCell ho 0 _
 have hsz := hI.bel.size
 refine ⟨belTurn hI.bel ht hsz, hI.box.turn ht (by decide), ?_, ?_, ?_, ?_, ?_, ?_, ?_, ?_, ?_, ?_⟩
 ·exact fun h => (hI.s43 (by rwa [up_ne hl 0 (by decide) rfl] at h))
 ·exact fun h => (hI.s44 (by rwa [up_ne hl 1 (by decide) rfl] at h))
 ·exact fun h => (hI.s45 (by rwa [up_ne hl 2 (by decide) rfl] at h)).turn ht (by decide)
 ·exact fun h => (hI.s46 (by rwa [up_ne hl 3 (by decide) rfl] at h))
 ·exact fun h => (hI.s47 (by rwa [up_ne hl 4 (by decide) rfl] at h))
 ·exact fun h => (hI.s48 (by rwa [up_ne hl 5 (by decide) rfl] at h)).turn ht (by decide)
 ·exact fun _ => by
   refine ⟨_, rfl, ?_⟩
   rw [hl 8 (by decide)]
   simpa using ho.set 0 u45
 ·exact fun h => by
   obtain ⟨b, hb, ho⟩ := (hI.s16 (by rwa [up_ne hl 7 (by decide) rfl] at h))
   rw [up_ne hl 9 (by decide) rfl]
   exact ⟨b, hb, ho.turn ht (by decide)⟩
 ·exact fun _ => ⟨by rw [hl 2 (by decide), h2, Bool.or_true], by rw [hl 6 (by decide), h1, Bool.or_true]⟩
 ·exact fun h => by
   rw [up_ne hl 9 (by decide) rfl] at h
   have := hI.o9 h
   exact ⟨by rw [hl 5 (by decide), this.1, Bool.or_true], by rw [hl 7 (by decide), this.2, Bool.or_true]⟩
theorem RBox.op9 {bx : Nat} (hI : RBox w aa am ae la lm le ca cm ce n v44 v47 F1 F2 l u43 u44 u45 u46 u47 u48 u15 (.pointer (some ⟨bx, 0, none⟩)) tag W) (hl : ∀ j, j < 10 → (l.setIfInBounds 9 true).getD j false = (j == 9 || l.getD j false)) (h1 : l.getD 7 false = true) (h2 : l.getD 5 false = true) :
  RBox w aa am ae la lm le ca cm ce n v44 v47 F1 F2 (l.setIfInBounds 9 true) u43 u44 u45 u46 u47 u48 u15 (.pointer (some ⟨bx, 0, none⟩)) tag (W.setCell ⟨bx, 0, none⟩ u48) := by
 obtain ⟨b, hb, ho⟩ := hI.s16 h1
 cases hb
 have ht : Turn w.heap.size tag tag 2 W (W.setCell ⟨bx, 0, none⟩ u48) := Turn.setCell ho 0 _
 have hsz := hI.bel.size
 refine ⟨belTurn hI.bel ht hsz, hI.box.turn ht (by decide), ?_, ?_, ?_, ?_, ?_, ?_, ?_, ?_, ?_, ?_⟩
 ·exact fun h => (hI.s43 (by rwa [up_ne hl 0 (by decide) rfl] at h))
 ·exact fun h => (hI.s44 (by rwa [up_ne hl 1 (by decide) rfl] at h))
 ·exact fun h => (hI.s45 (by rwa [up_ne hl 2 (by decide) rfl] at h)).turn ht (by decide)
 ·exact fun h => (hI.s46 (by rwa [up_ne hl 3 (by decide) rfl] at h))
 ·exact fun h => (hI.s47 (by rwa [up_ne hl 4 (by decide) rfl] at h))
 ·exact fun h => (hI.s48 (by rwa [up_ne hl 5 (by decide) rfl] at h)).turn ht (by decide)
 ·exact fun h => by
   obtain ⟨b, hb, ho⟩ := (hI.s15 (by rwa [up_ne hl 6 (by decide) rfl] at h))
   rw [up_ne hl 8 (by decide) rfl]
   exact ⟨b, hb, ho.turn ht (by decide)⟩
 ·exact fun _ => by
   refine ⟨_, rfl, ?_⟩
   rw [hl 9 (by decide)]
   simpa using ho.set 0 u48
 ·exact fun h => by
   rw [up_ne hl 8 (by decide) rfl] at h
   have := hI.o8 h
   exact ⟨by rw [hl 2 (by decide), this.1, Bool.or_true], by rw [hl 6 (by decide), this.2, Bool.or_true]⟩
 ·exact fun _ => ⟨by rw [hl 5 (by decide), h2, Bool.or_true], by rw [hl 7 (by decide), h1, Bool.or_true]⟩
end

end Go.Proofs.YtfbapajcheammaaGreatDoor

namespace Go.Proofs.YtfbapajcheammaaGreatDoor
open Go.RowKit

def PPostB (B : Nat) (e : Int) (r : Option (List Int)) (u : Value) (w' : World) : Prop :=
 if e = 0 then match r with
  | some xs => ∃ v, u = .tuple #[v, .bool true, .int .i64 0] ∧ RdI w' v xs ∧ FreshV B v
  | none => u = .tuple #[.slice none 0 0, .bool false, .int .i64 0]
 else u = .tuple #[.slice none 0 0, .bool false, .int .i64 e]
theorem PPostB.err {B : Nat} {e : Int} {r : Option (List Int)} {w' : World} (h : e ≠ 0) : PPostB B e r (.tuple #[.slice none 0 0, .bool false, .int .i64 e]) w' := by
 unfold PPostB; rw [if_neg h]
def pathErr (a : Aut) (from_ : Int) (tg wi : List Int) : Int := err2 a.err (if from_ < 0 ∨ a.n ≤ from_ then 2 else err2 (setErr a.n none tg) (setErr a.n none wi))
def reachPath (a : Aut) (from_ : Int) (tg wi : List Int) : Option (List Int) := if hasB wi from_ = true then pathF a.n.toNat a.es (hasB tg) (fun x => hasB wi x.t) from_.toNat else none
def PLoop (e1 e2 : Int) (j : Value) : Prop := j = .int .i64 0 ∨ (j = .int .i64 1 ∧ e1 = 0) ∨ (j = .int .i64 2 ∧ e1 = 0 ∧ e2 = 0)
theorem flagL_getD {n : Nat} {set : List Int} {s : Int} (h0 : 0 ≤ s) (h1 : s < n) : (flagL n set).getD s.toNat false = hasB set s := by
 rw [List.getD_eq_getElem?_getD, flagL, List.getElem?_map, List.getElem?_range (by omega)]
 simp [Int.toNat_of_nonneg h0]

set_option maxHeartbeats 800000 in
theorem rpath_anyB (v vt vw : Value) (a : Aut) (from_ : Int) (tg wi : List Int) (w : World) (ha : RdA w v a) (hs : a.small) (ht : RdI w vt tg) (hw : RdI w vw wi) (hlt : tg.length ≤ 1000000) (hlw : wi.length ≤ 1000000) :
  Calls Tryz.prog 68 #[v, .int .i64 from_, vt, vw] w (Ret w (PPostB w.heap.size (pathErr a from_ tg wi) (reachPath a from_ tg wi))) := by
 have ha0 := ha
 obtain ⟨va, vm, ve, rfl, ⟨aa, ca, rfl, hra⟩, ⟨am, cm, rfl, hrm⟩, ⟨ae, ce, rfl, hre⟩⟩ := ha
 have Ht := Lib.hid ht
 have Hw := Lib.hid hw
 obtain ⟨at_, ct, rfl, hrt⟩ := ht
 obtain ⟨aw, cw, rfl, hrw⟩ := hw
 have Ha0 := Lib.hid ha0
 have Hs := Lib.hid hs
 clear ha0 hs
 have hix0 : ∀ w, (Instr.index 146 (.agg #[.slice at_ tg.length ct, .slice aw wi.length cw]) (.int .i64 0)).run Tryz.prog w = .ok (.slice at_ tg.length ct) w := fun _ => by kernel_rfl
 have hix1 : ∀ w, (Instr.index 146 (.agg #[.slice at_ tg.length ct, .slice aw wi.length cw]) (.int .i64 1)).run Tryz.prog w = .ok (.slice aw wi.length cw) w := fun _ => by kernel_rfl
 go_enter Tryz.func68, Tryz.ntmps68
 go_wp2_with fail
 refine (check_any _ a _ (Ha0.out.mono (by (repeat (first | with_reducible exact Below.refl _ _ | with_reducible exact Ha0 | (with_reducible refine belCall ?_ Ha0 (by first | omega | (simp; done) | (simp; omega) | (simp at *; omega))) | (with_reducible refine Below.alloc ?_ (by first | omega | (simp; done) | (simp; omega) | (simp at *; omega)) _) | (with_reducible refine Below.drew ?_) | (with_reducible refine Below.setCell ?_ (by first | omega | (simp; done) | (simp; omega) | (simp at *; omega)) _))))) Hs.out).mono ?_
 rintro e w1 ⟨_, rfl, rfl, hb1⟩
 have hW1 : Below w.heap.size w w1 := ((Below.refl _ _).alloc (Nat.le_refl _) _).trans (hb1.mono (by simp))
 have hbx := box4 hb1
 clear hb1
 by_cases h1 : a.err = 0
 ·have hok := Aut.ok_of h1
  have H1 := Lib.hid h1
  rw [h1]
  clear h1
  by_cases hf : from_ < 0 ∨ a.n ≤ from_
  ·have Hf := Lib.hid hf
   obtain ⟨x0, x1, x2, x3, x4⟩ := hbx
   by_cases hlt0 : from_ < 0
   all_goals
    try have hge : a.n ≤ from_ := by omega
    clear hf
    go_wp2_with fail
    refine bodyPost_ret (v := .tuple #[.slice none 0 0, .bool false, .int .i64 2]) (by simp [results, Tryz.results68, go_sem]) rfl ⟨_, rfl, ?_, hW1⟩
    rw [show pathErr a from_ tg wi = 2 by rw [pathErr, err2, if_pos H1.out, if_pos Hf.out]]
    exact PPostB.err (by decide)
  ·have hf0 : 0 ≤ from_ := by omega
   have hf1 : from_ < a.n := by omega
   have Hf := Lib.hid hf
   clear hf
   have Hes := Lib.hid hok.es
   have d1 : decide (from_ < 0) = false := by simpa using hf0
   have d2 : decide (a.n ≤ from_) = false := by simpa using hf1
   have hn0 := hok.n0
   have hn1 := hok.n1
   have hae := Hs.out.es
   clear hok
   obtain ⟨x0, x1, x2, x3, x4⟩ := hbx
   go_wp2_with fail
   clear d1 d2
   go_loopw [33] (fun j wr => PLoop (setErr a.n none tg) (setErr a.n none wi) j ∧ Below w.heap.size w wr ∧ wr.cell? ⟨w.heap.size, 0, none⟩ = some (.slice aa a.al.length ca) ∧ wr.cell? ⟨w.heap.size, 1, none⟩ = some (.int .i64 a.n) ∧ wr.cell? ⟨w.heap.size, 2, none⟩ = some (.slice am a.ms.length cm) ∧ wr.cell? ⟨w.heap.size, 3, none⟩ = some (.slice ae a.es.length ce) ∧ w.heap.size < wr.heap.size) (fun j _ => 2 - (intOf j).toNat)
   case atStart => exact ⟨.inl rfl, hW1, x0, x1, x2, x3, x4⟩
   case round =>
    clear x0 x1 x2 x3 x4 hW1
    obtain ⟨hj, hB, x0, x1, x2, x3, x4⟩ := hrel
    have hbx := And.intro x0 (And.intro x1 (And.intro x2 (And.intro x3 x4)))
    have Hbx := Lib.hid hbx
    clear hbx
    rcases hj with rfl | ⟨rfl, h2⟩ | ⟨rfl, h2, h3⟩
    ·go_wp2_with fail
     refine (checkStates_any _ _ _ _ _ _ _ _ _ _ _ tg _ (Ht.out.mono hB) hlt).mono ?_
     rintro e w2 ⟨_, rfl, rfl, hb2⟩
     have hW2 := hB.trans (hb2.mono hB.size)
     have hbx2 := box4' Hbx.out hb2
     clear x0 x1 x2 x3 x4
     by_cases h2 : setErr a.n none tg = 0
     ·have H2 := Lib.hid h2
      rw [h2]
      clear h2
      obtain ⟨x0, x1, x2, x3, x4⟩ := hbx2
      go_wp2_with fail
      go_roundw
      case rel => exact ⟨.inr (.inl ⟨rfl, H2.out⟩), hW2, x0, x1, x2, x3, x4⟩
      case measure => simp [intOf]
     ·have H2 := Lib.hid h2
      have h2' : (setErr a.n none tg != 0) = true := by simpa using h2
      clear h2
      go_wp2_with fail
      refine bodyPost_ret (v := .tuple #[.slice none 0 0, .bool false, .int .i64 (setErr a.n none tg)]) (by simp [results, Tryz.results68, go_sem]) rfl ⟨_, rfl, ?_, hW2⟩
      rw [show pathErr a from_ tg wi = setErr a.n none tg by rw [pathErr, err2, if_pos H1.out, if_neg Hf.out, err2, if_neg H2.out]]
      exact PPostB.err H2.out
    ·have H2 := Lib.hid h2
     clear h2
     go_wp2_with fail
     refine (checkStates_any _ _ _ _ _ _ _ _ _ _ _ wi _ (Hw.out.mono hB) hlw).mono ?_
     rintro e w2 ⟨_, rfl, rfl, hb2⟩
     have hW2 := hB.trans (hb2.mono hB.size)
     have hbx2 := box4' Hbx.out hb2
     clear x0 x1 x2 x3 x4
     by_cases h2 : setErr a.n none wi = 0
     ·have H3 := Lib.hid h2
      rw [h2]
      clear h2
      obtain ⟨x0, x1, x2, x3, x4⟩ := hbx2
      go_wp2_with fail
      go_roundw
      case rel => exact ⟨.inr (.inr ⟨rfl, H2.out, H3.out⟩), hW2, x0, x1, x2, x3, x4⟩
      case measure => simp [intOf]
     ·have H3 := Lib.hid h2
      have h2' : (setErr a.n none wi != 0) = true := by simpa using h2
      clear h2
      go_wp2_with fail
      refine bodyPost_ret (v := .tuple #[.slice none 0 0, .bool false, .int .i64 (setErr a.n none wi)]) (by simp [results, Tryz.results68, go_sem]) rfl ⟨_, rfl, ?_, hW2⟩
      rw [show pathErr a from_ tg wi = setErr a.n none wi by rw [pathErr, err2, if_pos H1.out, if_neg Hf.out, err2, if_pos H2.out]]
      exact PPostB.err H3.out
    ·have Herr : Hid (pathErr a from_ tg wi = 0) := by
      show _ = _
      rw [pathErr, err2, if_pos H1.out, if_neg Hf.out, err2, if_pos h2, h3]
     have htin := setErr_zero h2
     have hwin := setErr_zero h3
     have Htin := Lib.hid htin
     have Hwin := Lib.hid hwin
     clear htin hwin h2 h3
     have Hpath : Hid (reachPath a from_ tg wi = if hasB wi from_ = true then pathF a.n.toNat a.es (hasB tg) (fun x => hasB wi x.t) from_.toNat else none) := rfl
     generalize hn : a.n = an at *
     obtain ⟨n, rfl⟩ := Int.eq_ofNat_of_zero_le hn0
     obtain ⟨fr, rfl⟩ := Int.eq_ofNat_of_zero_le hf0
     have hn' : n ≤ 4096 := by omega
     have hfr : fr < n := by omega
     have Hn := Lib.hid hn
     clear hn hn0 hn1 hf0 hf1
     have hbd := box4' Hbx.out (bel_drew wr)
     obtain ⟨y0, y1, y2, y3, y4⟩ := hbd
     go_upto_region 13 with fail
     go_cut [15, 16] (fun s15 s16 wx => ∃ (b1 b2 : Nat) (a1 a2 : Option Addr) (c1 c2 : Nat), s15 = .pointer (some ⟨b1, 0, none⟩) ∧ s16 = .pointer (some ⟨b2, 0, none⟩) ∧ Below w.heap.size w wx ∧
      wx.cell? ⟨w.heap.size, 0, none⟩ = some (.slice aa a.al.length ca) ∧ wx.cell? ⟨w.heap.size, 1, none⟩ = some (.int .i64 n) ∧ wx.cell? ⟨w.heap.size, 2, none⟩ = some (.slice am a.ms.length cm) ∧ wx.cell? ⟨w.heap.size, 3, none⟩ = some (.slice ae a.es.length ce) ∧ w.heap.size < wx.heap.size ∧
      wx.cell? ⟨b1, 0, none⟩ = some (.slice a1 n c1) ∧ wx.cell? ⟨b2, 0, none⟩ = some (.slice a2 n c2) ∧ RdS wx 1 a1 n c1 (bools (flagL n wi)) ∧ RdS wx 1 a2 n c2 (bools (flagL n tg)))
     case first =>
      refine wp_region_inv (fun l us W => ∃ u43 u44 u45 u46 u47 u48 u15 u16 tag, us = [u43, u44, u45, u46, u47, u48, u15, u16] ∧ RBox w aa am ae a.al.length a.ms.length a.es.length ca cm ce n (.slice aw wi.length cw) (.slice at_ tg.length ct) (flagL n wi) (flagL n tg) l u43 u44 u45 u46 u47 u48 u15 u16 tag W) [43, 44, 45, 46, 47, 48, 15, 16] (by kernel_rfl) (by kernel_rfl) ?_ ?_ ?_
      ·exact ⟨_, _, _, _, _, _, _, _, fun _ => 0, rfl, RBox.start hB.drew ⟨rfl, x4, x0, x1, x2, x3⟩⟩
      ·refine Steps.cons rfl ?_ ?_
       ·rintro l us W hl ⟨u43, u44, u45, u46, u47, u48, u15, u16, tag, rfl, hI⟩ hd hn K' hK
        have Hl : Hid (∀ j, j < 10 → (l.setIfInBounds 0 true).getD j false = (j == 0 || l.getD j false)) := hl
        have Hn : Hid (l.getD 0 false = false) := hn
        have HI := Lib.hid hI
        have HK := Lib.hid hK
        have y1 := hI.box.x0
        have y2 := hI.box.x1
        have y3 := hI.box.x2
        have y4 := hI.box.x3
        clear hl hd hn hI hK
        refine StepG.mk ?_
        simp only [puts, Act.put]
        go_simp
        exact HK.out [.agg #[.slice aa a.al.length ca, .int .i64 n, .slice am a.ms.length cm, .slice ae a.es.length ce], u44, u45, u46, u47, u48, u15, u16] _ _ (by simp [puts, Act.put]) ⟨_, _, _, _, _, _, _, _, _, rfl, HI.out.op0 Hl.out⟩
       refine Steps.cons rfl ?_ ?_
       ·rintro l us W hl ⟨u43, u44, u45, u46, u47, u48, u15, u16, tag, rfl, hI⟩ hd hn K' hK
        have Hl : Hid (∀ j, j < 10 → (l.setIfInBounds 1 true).getD j false = (j == 1 || l.getD j false)) := hl
        have Hn : Hid (l.getD 1 false = false) := hn
        have HI := Lib.hid hI
        have HK := Lib.hid hK
        clear hl hd hn hI hK
        refine StepG.mk ?_
        simp only [puts, Act.put]
        go_simp
        exact HK.out [u43, .slice aw wi.length cw, u45, u46, u47, u48, u15, u16] _ _ (by simp [puts, Act.put]) ⟨_, _, _, _, _, _, _, _, _, rfl, HI.out.op1 Hl.out⟩
       refine Steps.cons rfl ?_ ?_
       ·rintro l us W hl ⟨u43, u44, u45, u46, u47, u48, u15, u16, tag, rfl, hI⟩ hd hn K' hK
        have Hl : Hid (∀ j, j < 10 → (l.setIfInBounds 2 true).getD j false = (j == 2 || l.getD j false)) := hl
        have Hn : Hid (l.getD 2 false = false) := hn
        have HI := Lib.hid hI
        have HK := Lib.hid hK
        have d : l.getD 0 false = true ∧ l.getD 1 false = true := by simpa [Region.binds] using hd
        obtain rfl := hI.s43 d.1
        obtain rfl := hI.s44 d.2
        have hB' := hI.bel
        clear hl hd hn hI hK d
        refine StepG.mk ?_
        simp only [puts, Act.put]
        go_simp
        refine (flags_any _ _ _ (.slice aw wi.length cw) n wi _ (Hw.out.mono hB') hlw (by omega) Hwin.out).mono ?_
        rintro e w3 ⟨v3, rfl, hown3, hb3⟩
        go_simp
        exact HK.out [.agg #[.slice aa a.al.length ca, .int .i64 n, .slice am a.ms.length cm, .slice ae a.es.length ce], .slice aw wi.length cw, v3, u46, u47, u48, u15, u16] _ _ (by simp [puts, Act.put]) ⟨_, _, _, _, _, _, _, _, _, rfl, HI.out.op2 Hl.out hb3 hown3 Hn.out⟩
       refine Steps.cons rfl ?_ ?_
       ·rintro l us W hl ⟨u43, u44, u45, u46, u47, u48, u15, u16, tag, rfl, hI⟩ hd hn K' hK
        have Hl : Hid (∀ j, j < 10 → (l.setIfInBounds 3 true).getD j false = (j == 3 || l.getD j false)) := hl
        have Hn : Hid (l.getD 3 false = false) := hn
        have HI := Lib.hid hI
        have HK := Lib.hid hK
        have y1 := hI.box.x0
        have y2 := hI.box.x1
        have y3 := hI.box.x2
        have y4 := hI.box.x3
        clear hl hd hn hI hK
        refine StepG.mk ?_
        simp only [puts, Act.put]
        go_simp
        exact HK.out [u43, u44, u45, .agg #[.slice aa a.al.length ca, .int .i64 n, .slice am a.ms.length cm, .slice ae a.es.length ce], u47, u48, u15, u16] _ _ (by simp [puts, Act.put]) ⟨_, _, _, _, _, _, _, _, _, rfl, HI.out.op3 Hl.out⟩
       refine Steps.cons rfl ?_ ?_
       ·rintro l us W hl ⟨u43, u44, u45, u46, u47, u48, u15, u16, tag, rfl, hI⟩ hd hn K' hK
        have Hl : Hid (∀ j, j < 10 → (l.setIfInBounds 4 true).getD j false = (j == 4 || l.getD j false)) := hl
        have Hn : Hid (l.getD 4 false = false) := hn
        have HI := Lib.hid hI
        have HK := Lib.hid hK
        clear hl hd hn hI hK
        refine StepG.mk ?_
        simp only [puts, Act.put]
        go_simp
        exact HK.out [u43, u44, u45, u46, .slice at_ tg.length ct, u48, u15, u16] _ _ (by simp [puts, Act.put]) ⟨_, _, _, _, _, _, _, _, _, rfl, HI.out.op4 Hl.out⟩
       refine Steps.cons rfl ?_ ?_
       ·rintro l us W hl ⟨u43, u44, u45, u46, u47, u48, u15, u16, tag, rfl, hI⟩ hd hn K' hK
        have Hl : Hid (∀ j, j < 10 → (l.setIfInBounds 5 true).getD j false = (j == 5 || l.getD j false)) := hl
        have Hn : Hid (l.getD 5 false = false) := hn
        have HI := Lib.hid hI
        have HK := Lib.hid hK
        have d : l.getD 3 false = true ∧ l.getD 4 false = true := by
         simp [Region.binds] at hd
         exact ⟨by simp [hd], by simp [hd]⟩
        obtain rfl := hI.s46 d.1
        obtain rfl := hI.s47 d.2
        have hB' := hI.bel
        clear hl hd hn hI hK d
        refine StepG.mk ?_
        simp only [puts, Act.put]
        go_simp
        refine (flags_any _ _ _ (.slice at_ tg.length ct) n tg _ (Ht.out.mono hB') hlt (by omega) Htin.out).mono ?_
        rintro e w3 ⟨v3, rfl, hown3, hb3⟩
        go_simp
        exact HK.out [u43, u44, u45, .agg #[.slice aa a.al.length ca, .int .i64 n, .slice am a.ms.length cm, .slice ae a.es.length ce], .slice at_ tg.length ct, v3, u15, u16] _ _ (by simp [puts, Act.put]) ⟨_, _, _, _, _, _, _, _, _, rfl, HI.out.op5 Hl.out hb3 hown3 Hn.out⟩
       refine Steps.cons rfl ?_ ?_
       ·rintro l us W hl ⟨u43, u44, u45, u46, u47, u48, u15, u16, tag, rfl, hI⟩ hd hn K' hK
        have Hl : Hid (∀ j, j < 10 → (l.setIfInBounds 6 true).getD j false = (j == 6 || l.getD j false)) := hl
        have Hn : Hid (l.getD 6 false = false) := hn
        have HI := Lib.hid hI
        have HK := Lib.hid hK
        clear hl hd hn hI hK
        refine StepG.mk ?_
        simp only [puts, Act.put]
        go_simp
        exact HK.out [u43, u44, u45, u46, u47, u48, .pointer (some ⟨W.heap.size, 0, none⟩), u16] _ _ (by simp [puts, Act.put]) ⟨_, _, _, _, _, _, _, _, _, rfl, HI.out.op6 Hl.out Hn.out⟩
       refine Steps.cons rfl ?_ ?_
       ·rintro l us W hl ⟨u43, u44, u45, u46, u47, u48, u15, u16, tag, rfl, hI⟩ hd hn K' hK
        have Hl : Hid (∀ j, j < 10 → (l.setIfInBounds 7 true).getD j false = (j == 7 || l.getD j false)) := hl
        have Hn : Hid (l.getD 7 false = false) := hn
        have HI := Lib.hid hI
        have HK := Lib.hid hK
        clear hl hd hn hI hK
        refine StepG.mk ?_
        simp only [puts, Act.put]
        go_simp
        exact HK.out [u43, u44, u45, u46, u47, u48, u15, .pointer (some ⟨W.heap.size, 0, none⟩)] _ _ (by simp [puts, Act.put]) ⟨_, _, _, _, _, _, _, _, _, rfl, HI.out.op7 Hl.out Hn.out⟩
       refine Steps.cons rfl ?_ ?_
       ·rintro l us W hl ⟨u43, u44, u45, u46, u47, u48, u15, u16, tag, rfl, hI⟩ hd hn K' hK
        have Hl : Hid (∀ j, j < 10 → (l.setIfInBounds 8 true).getD j false = (j == 8 || l.getD j false)) := hl
        have Hn : Hid (l.getD 8 false = false) := hn
        have HI := Lib.hid hI
        have HK := Lib.hid hK
        have d : l.getD 6 false = true ∧ l.getD 2 false = true := by
         simp [Region.binds] at hd
         exact ⟨by simp [hd], by simp [hd]⟩
        refine Exists.elim (hI.s15 d.1) (fun b hb => ?_)
        have hb1 := hb.1
        have ho := hb.2
        subst hb1
        refine Exists.elim (hI.s45 d.2).val (fun a3 h3 => Exists.elim h3 (fun c3 h4 => ?_))
        subst h4
        clear hb h3
        have q1 := ho.cell 0
        have q2 := ho.frozen 0
        simp at q1
        have D := Lib.hid d
        clear hl hd hn hI hK d ho
        refine StepG.mk ?_
        simp only [puts, Act.put]
        go_simp
        exact HK.out [u43, u44, .slice a3 n c3, u46, u47, u48, .pointer (some ⟨b, 0, none⟩), u16] _ _ (by simp [puts, Act.put]) ⟨_, _, _, _, _, _, _, _, _, rfl, HI.out.op8 Hl.out D.out.1 D.out.2⟩
       refine Steps.cons rfl ?_ ?_
       ·rintro l us W hl ⟨u43, u44, u45, u46, u47, u48, u15, u16, tag, rfl, hI⟩ hd hn K' hK
        have Hl : Hid (∀ j, j < 10 → (l.setIfInBounds 9 true).getD j false = (j == 9 || l.getD j false)) := hl
        have Hn : Hid (l.getD 9 false = false) := hn
        have HI := Lib.hid hI
        have HK := Lib.hid hK
        have d : l.getD 7 false = true ∧ l.getD 5 false = true := by
         simp [Region.binds] at hd
         exact ⟨by simp [hd], by simp [hd]⟩
        refine Exists.elim (hI.s16 d.1) (fun b hb => ?_)
        have hb1 := hb.1
        have ho := hb.2
        subst hb1
        refine Exists.elim (hI.s48 d.2).val (fun a3 h3 => Exists.elim h3 (fun c3 h4 => ?_))
        subst h4
        clear hb h3
        have q1 := ho.cell 0
        have q2 := ho.frozen 0
        simp at q1
        have D := Lib.hid d
        clear hl hd hn hI hK d ho
        refine StepG.mk ?_
        simp only [puts, Act.put]
        go_simp
        exact HK.out [u43, u44, u45, u46, u47, .slice a3 n c3, u15, .pointer (some ⟨b, 0, none⟩)] _ _ (by simp [puts, Act.put]) ⟨_, _, _, _, _, _, _, _, _, rfl, HI.out.op9 Hl.out D.out.1 D.out.2⟩
       exact Steps.nil (Nat.le_refl _)
      ·rintro l us W ⟨u43, u44, u45, u46, u47, u48, u15, u16, tag, rfl, hI⟩ hall
       have h2 := hI.s45 (hall 2 (by decide))
       have h5 := hI.s48 (hall 5 (by decide))
       refine Exists.elim (hI.s15 (hall 6 (by decide))) (fun b1 hb1 => ?_)
       refine Exists.elim (hI.s16 (hall 7 (by decide))) (fun b2 hb2 => ?_)
       have e1 := hb1.1
       have e2 := hb2.1
       have ho1 := hb1.2
       have ho2 := hb2.2
       clear hb1 hb2
       subst e1
       subst e2
       rw [if_pos (hall 8 (by decide))] at ho1
       rw [if_pos (hall 9 (by decide))] at ho2
       refine Exists.elim h2.rd (fun a1 g1 => Exists.elim g1 (fun c1 g2 => ?_))
       refine Exists.elim h5.rd (fun a2 g3 => Exists.elim g3 (fun c2 g4 => ?_))
       have e1 := g2.1
       have e2 := g4.1
       have hr1 := g2.2
       have hr2 := g4.2
       clear g1 g2 g3 g4
       subst e1
       subst e2
       have HI := Lib.hid (And.intro hI.bel (And.intro hI.box (And.intro hr1 (And.intro hr2 (And.intro ho1 ho2)))))
       clear hall h2 h5 hr1 hr2 ho1 ho2 hI
       simp only [puts, Act.put, List.setIfInBounds_toArray, List.set_cons_succ, List.set_cons_zero]
       go_wp2_with fail
       go_meet
       obtain ⟨g1, g2, g3, g4, g5, g6⟩ := HI.out
       exact ⟨b1, b2, a1, a2, c1, c2, rfl, rfl, g1, g2.x0, g2.x1, g2.x2, g2.x3, g2.lt, g5.cell 0, g6.cell 0, g3, g4⟩
     case rest =>
      obtain ⟨b1, b2, a1, a2, c1, c2, rfl, rfl, hW, q0, q1, q2, q3, q4, k1, k2, hr1, hr2⟩ := hcut
      have hfl1 : (flagL n wi).length = n := flagL_length n wi
      have hfl2 : (flagL n tg).length = n := flagL_length n tg
      have hR1 : RdB wc (.slice a1 n c1) (flagL n wi) := ⟨a1, c1, by rw [hfl1], by rw [hfl1]; exact hr1⟩
      have hR2 : RdB wc (.slice a2 n c2) (flagL n tg) := ⟨a2, c2, by rw [hfl2], by rw [hfl2]; exact hr2⟩
      have HR1 := Lib.hid hR1
      have HR2 := Lib.hid hR2
      have hr1' : RdS wc 1 a1 (flagL n wi).length c1 (bools (flagL n wi)) := by rw [hfl1]; exact hr1
      obtain ⟨bb, off, rfl, hcell⟩ := hr1'.at_bool fr (by omega)
      have hget : (flagL n wi)[fr]'(by omega) = hasB wi fr := by
       have := flagL_getD (n := n) (set := wi) (s := (fr : Int)) (by omega) (by omega)
       rw [Int.toNat_natCast, List.getD_eq_getElem?_getD, List.getElem?_eq_getElem (by omega)] at this
       exact this
      rw [hget] at hcell
      have Hfl1 := Lib.hid hfl1
      have Hfl2 := Lib.hid hfl2
      clear hget hfl1 hfl2 hr1' hR1 hR2
      cases hin : hasB wi fr with
      | false =>
       have Hin := Lib.hid hin
       rw [hin] at hcell
       clear hin
       go_wp2_with fail
       refine bodyPost_ret (v := .tuple #[.slice none 0 0, .bool false, .int .i64 0]) (by simp [results, Tryz.results68, go_sem]) rfl ⟨_, rfl, ?_, hW⟩
       rw [Herr.out, Hpath.out, if_neg (by rw [Hin.out]; decide)]
       unfold PPostB
       rw [if_pos rfl]
      | true =>
       have Hin := Lib.hid hin
       rw [hin] at hcell
       clear hin
       go_wp2_with fail
       refine (newGraph_any _ _ _ _ _ _ _ n a.es _ (RdE.mono ⟨ae, ce, rfl, hre⟩ hW) hae (by omega) (fun x hx => ⟨(Hes.out x hx).1, (Hes.out x hx).2.1⟩)).mono ?_
       rintro e w3 ⟨_, rfl, ⟨af, cf, rfl, hrf⟩, hb3⟩
       have hW3 := hW.trans (hb3.mono hW.size)
       have k1' := keep0 hb3 k1
       have k2' := keep0 hb3 k2
       have HR1' := HR1.out.mono hb3
       have HR2' := HR2.out.mono hb3
       have HE1 : Enters Tryz.prog 103 := fun _ _ => by kernel_rfl
       have HE2 : Enters Tryz.prog 104 := fun _ _ => by kernel_rfl
       have hEs := (RdS.mono hre hW3)
       have H1 : Hid (∀ (s : Int) (W : World), 0 ≤ s → s < n → Below w3.heap.size w3 W → Calls Tryz.prog 103 (#[.int .i64 s] ++ #[Value.pointer (some ⟨b2, 0, none⟩)]) W fun e w' => e = .returned (.bool (hasB tg s)) ∧ Below W.heap.size W w') := by
        intro s W h0 h1 hb
        have := path1_any b2 _ (flagL n tg) s W (keep0 hb k2') (HR2'.mono hb) h0 (by rw [Hfl2.out]; exact h1) (by rw [Hfl2.out]; omega)
        rw [flagL_getD h0 h1] at this
        exact this
       have H2 : Hid (∀ (x : Ed) (W : World), x ∈ a.es → Below w3.heap.size w3 W → Calls Tryz.prog 104 (#[x.val] ++ #[Value.pointer (some ⟨b1, 0, none⟩)]) W fun e w' => e = .returned (.bool (hasB wi x.t)) ∧ Below W.heap.size W w') := by
        intro x W hx hb
        have hx' := Hes.out x hx
        have := path2_any b1 _ (flagL n wi) x W (keep0 hb k1') (HR1'.mono hb) hx'.2.2.1 (by rw [Hfl1.out]; exact hx'.2.2.2) (by rw [Hfl1.out]; omega)
        rw [flagL_getD hx'.2.2.1 hx'.2.2.2] at this
        exact this
       go_wp2_with fail
       refine (path_anyB aa am ae af _ _ ca cm ce cf n fr a.es _ _ _ _ (hasB tg) (fun x => hasB wi x.t) w3 hEs hrf hae (by omega) hfr (fun x hx => ⟨(Hes.out x hx).2.2.1, (Hes.out x hx).2.2.2⟩) HE1 HE2 H1.out H2.out).mono ?_
       rintro e w4 ⟨v4, rfl, hp4, hb4⟩
       have hW4 := hW3.trans (hb4.mono hW3.size)
       have Hpath' : Hid (reachPath a fr tg wi = pathF n a.es (hasB tg) (fun x => hasB wi x.t) fr) := by
        show _ = _
        rw [Hpath.out, if_pos Hin.out]
        simp only [Int.toNat_natCast]
       clear H1 H2 HE1 HE2 k1 k1' k2 k2' HR1' HR2' hEs hb4 hb3
       generalize pathF n a.es (hasB tg) (fun x => hasB wi x.t) fr = r at hp4 Hpath'
       cases r with
       | none =>
        have hp5 : v4 = .tuple #[.slice none 0 0, .bool false] := hp4
        subst hp5
        go_wp2_with fail
        refine bodyPost_ret (v := .tuple #[.slice none 0 0, .bool false, .int .i64 0]) (by simp [results, Tryz.results68, go_sem]) rfl ⟨_, rfl, ?_, hW4⟩
        rw [Herr.out, Hpath'.out]
        unfold PPostB
        rw [if_pos rfl]
       | some xs =>
        obtain ⟨v5, rfl, hp5, hfr5⟩ := hp4
        have Hfr5 := Lib.hid (hfr5.mono hW3.size)
        clear hfr5
        have Hp5 := Lib.hid hp5
        obtain ⟨a5, c5, rfl, hp6⟩ := hp5
        clear hp6
        go_wp2_with fail
        refine bodyPost_ret (v := .tuple #[.slice a5 xs.length c5, .bool true, .int .i64 0]) (by simp [results, Tryz.results68, go_sem]) rfl ⟨_, rfl, ?_, hW4⟩
        rw [Herr.out, Hpath'.out]
        unfold PPostB
        rw [if_pos rfl]
        exact ⟨_, rfl, Hp5.out, Hfr5.out⟩
 ·have H1 := Lib.hid h1
  have h1' : (a.err != 0) = true := by simpa using h1
  clear h1
  go_wp2_with fail
  refine bodyPost_ret (v := .tuple #[.slice none 0 0, .bool false, .int .i64 a.err]) (by simp [results, Tryz.results68, go_sem]) rfl ⟨_, rfl, ?_, hW1⟩
  rw [show pathErr a from_ tg wi = a.err by rw [pathErr, err2, if_neg H1.out]]
  exact PPostB.err H1.out
end Go.Proofs.YtfbapajcheammaaGreatDoor

namespace Go.Proofs.YtfbapajcheammaaGreatDoor
open Go Go.RowKit
abbrev rEd : Rep (Int × Int × Int) := rP (rK .i64) (rP (rK .i64) (rK .i64))
abbrev AutT := List Int × Int × List Int × (List (Int × Int × Int))
def toEd (x : Int × Int × Int) : Ed := ⟨x.1, x.2.1, x.2.2⟩
def toAut (p : AutT) : Aut := ⟨p.1, p.2.1, p.2.2.1, p.2.2.2.map toEd⟩
theorem cells_ints {s : Sig} : ∀ {xs : List Int} {cs : List Value}, Cells (rK .i64) s cs xs → cs = ints xs
 | [], cs, h => h
 | x :: xs, cs, h => by
  obtain ⟨c, d, rfl, h1, h2⟩ := h
  have h1 : c = [.int .i64 x] := h1
  rw [h1, cells_ints h2]; rfl
theorem ints_cells {s : Sig} : ∀ (xs : List Int), Cells (rK .i64) s (ints xs) xs
 | [] => rfl
 | x :: xs => ⟨[.int .i64 x], ints xs, rfl, rfl, ints_cells xs⟩
theorem cells_eds {s : Sig} : ∀ {xs : List (Int × Int × Int)} {cs : List Value}, Cells rEd s cs xs → cs = edCells (xs.map toEd)
 | [], cs, h => h
 | x :: xs, cs, h => by
  obtain ⟨c, d, rfl, ⟨c1, c2, rfl, h1, d1, d2, rfl, h3, h4⟩, h2⟩ := h
  have h1 : c1 = [.int .i64 x.1] := h1
  have h3 : d1 = [.int .i64 x.2.1] := h3
  have h4 : d2 = [.int .i64 x.2.2] := h4
  rw [h1, h3, h4, cells_eds h2]; rfl
theorem RdL.rdI {s : Sig} {a : Option Addr} {c : Nat} {xs : List Int} (h : RdL (rK .i64) s a c xs) : RdI s.w (.slice a xs.length c) xs := by
 obtain ⟨cs, h1, _, h3⟩ := h
 rw [cells_ints h3] at h1
 exact ⟨a, c, rfl, h1⟩
theorem RdL.rdE {s : Sig} {a : Option Addr} {c : Nat} {xs : List (Int × Int × Int)} (h : RdL rEd s a c xs) : RdE s.w (.slice a xs.length c) (xs.map toEd) := by
 obtain ⟨cs, h1, _, h3⟩ := h
 rw [cells_eds h3] at h1
 exact ⟨a, c, by rw [List.length_map], by rw [List.length_map]; exact h1⟩
def Sig.nw (s : Sig) (w' : World) : Sig := ⟨w', fun b => if b < s.w.heap.size then s.tag b else 0⟩
theorem Sig.nw_mv {s : Sig} {w' : World} (h : Below s.w.heap.size s.w w') : Mv No s (s.nw w') := Below.mv h fun b hb => if_pos hb
theorem RdI.rdL {s : Sig} {w' : World} {v : Value} {xs : List Int} (h : RdI w' v xs) (hf : FreshV s.w.heap.size v) : ∃ a c, v = .slice a xs.length c ∧ RdL (rK .i64) (s.nw w') a c xs := by
 obtain ⟨a, c, rfl, h1⟩ := h
 refine ⟨a, c, rfl, ints xs, h1, fun ad e _ => ?_, ints_cells xs⟩
 subst e
 exact if_neg (by have := hf ad _ _ rfl; omega)
def m_reach_Path (p0 : AutT) (p1 : Int) (p2 p3 : List Int) : Option (List Int × Bool × Int) :=
 if p0.1.length ≤ 1000000 ∧ p0.2.2.1.length ≤ 1000000 ∧ p0.2.2.2.length ≤ 1000000 ∧ p2.length ≤ 1000000 ∧ p3.length ≤ 1000000 then
  if pathErr (toAut p0) p1 p2 p3 = 0 then some (match reachPath (toAut p0) p1 p2 p3 with
   | some xs => (xs, true, 0)
   | none => ([], false, 0))
  else some ([], false, pathErr (toAut p0) p1 p2 p3)
 else none
theorem m_reach_Path_c {s : Sig} {p0 : AutT} {p1 : Int} {p2 p3 : List Int} {a1 : Option Addr} {c1 : Nat} {a2 : Option Addr} {c2 : Nat} {a3 : Option Addr} {c3 : Nat} {a4 : Option Addr} {c4 : Nat} {a5 : Option Addr} {c5 : Nat} {r : List Int × Bool × Int} (h1 : RdL (rK .i64) s a1 c1 p0.1) (h2 : RdL (rK .i64) s a2 c2 p0.2.2.1) (h3 : RdL rEd s a3 c3 p0.2.2.2) (h4 : RdL (rK .i64) s a4 c4 p2) (h5 : RdL (rK .i64) s a5 c5 p3) (hm : m_reach_Path p0 p1 p2 p3 = some r) :
  Calls Tryz.prog 68 #[.agg #[.slice a1 p0.1.length c1, .int .i64 p0.2.1, .slice a2 p0.2.2.1.length c2, .slice a3 p0.2.2.2.length c3], .int .i64 p1, .slice a4 p2.length c4, .slice a5 p3.length c5] s.w (RetS No s fun v s' => ∃ (a6 : Option Addr) (c6 : Nat), v = .tuple #[.slice a6 r.1.length c6, .bool r.2.1, .int .i64 r.2.2] ∧ RdL (rK .i64) s' a6 c6 r.1) := by
 unfold m_reach_Path at hm
 split at hm
 ·rename_i hc
  obtain ⟨g1, g2, g3, g4, g5⟩ := hc
  refine (rpath_anyB _ _ _ (toAut p0) p1 p2 p3 s.w ⟨_, _, _, rfl, h1.rdI, h2.rdI, h3.rdE⟩ ⟨g1, g2, by simpa [toAut] using g3⟩ h4.rdI h5.rdI g4 g5).mono fun en w' hh => ?_
  obtain ⟨u, rfl, hp, hb⟩ := hh
  refine ⟨u, s.nw w', rfl, rfl, Sig.nw_mv hb, ?_⟩
  unfold PPostB at hp
  split at hp
  ·rename_i h0
   rw [if_pos h0] at hm
   cases hr : reachPath (toAut p0) p1 p2 p3 with
   | none =>
    rw [hr] at hm hp
    cases hm
    exact ⟨none, 0, hp, RdL.nil⟩
   | some xs =>
    rw [hr] at hm hp
    cases hm
    obtain ⟨v, rfl, h6, h7⟩ := hp
    obtain ⟨a, c, rfl, h8⟩ := h6.rdL h7
    exact ⟨a, c, rfl, h8⟩
  ·rename_i h0
   rw [if_neg h0] at hm
   cases hm
   exact ⟨none, 0, hp, RdL.nil⟩
 ·cases hm
end Go.Proofs.YtfbapajcheammaaGreatDoor

namespace Go.Proofs
open Go.Shelf
def Tryz.lays169_ren : Go.Shelf.Ren := ⟨fun | 169 => 85 | n => n, fun | 70 => 121 | 9 => 9 | 0 => 0 | 72 => 124 | 37 => 122 | 127 => 150 | 3 => 3 | 5 => 5 | n => n, fun | n => n⟩
theorem Tryz.lays169 : Go.Proofs.Lays.n169 Tryz.prog Tryz.lays169_ren := {
 mixed := by kernel_rfl
 f169 := Tryz.func85.trans (congrArg some (by kernel_rfl))
 t0 := Tryz.underlying0
 a0 := Tryz.isAgg0
 z0 := Tryz.sizeOf0
 v0 := Tryz.zeroValue0
 t3 := Tryz.underlying3
 a3 := Tryz.isAgg3
 z3 := Tryz.sizeOf3
 v3 := Tryz.zeroValue3
 t9 := Tryz.underlying9
 a9 := Tryz.isAgg9
 z9 := Tryz.sizeOf9
 v9 := Tryz.zeroValue9
 t37 := Tryz.underlying122
 a37 := Tryz.isAgg122
 z37 := Tryz.sizeOf122
 v37 := Tryz.zeroValue122
 t70 := Tryz.underlying121
 a70 := Tryz.isAgg121
 z70 := Tryz.sizeOf121
 v70 := Tryz.zeroValue121
 t72 := Tryz.underlying124
 a72 := Tryz.isAgg124
 z72 := Tryz.sizeOf124
 v72 := Tryz.zeroValue124
 t127 := Tryz.underlying150
 a127 := Tryz.isAgg150
 z127 := Tryz.sizeOf150
 v127 := Tryz.zeroValue150 }
theorem Tryz.Builder_Extra_169 : Builder.Extra Tryz.prog Tryz.lays169_ren := {
 sizeBuilder := by kernel_rfl
 liesBuilder := by kernel_rfl
 t5 := Tryz.underlying5
 a5 := Tryz.isAgg5
 z5 := Tryz.sizeOf5
 v5 := Tryz.zeroValue5
 infoByte := by kernel_rfl
 cellsByte := by kernel_rfl
 sizeByte := by kernel_rfl
 neB5 := by decide }
open Go.RowKit in
theorem Tryz.Builder_String_any (B b : Nat) (l : List UInt8) (w : World) (h : Lib.IsBuilder 124 5 B b (Lib.byteCells l) w) (hBw : B ≤ w.heap.size) :
  Calls Tryz.prog 85 #[.pointer (some ⟨b, 0, none⟩)] w fun e w' => e = .returned (.string ⟨l.toArray⟩) ∧ Below B w w' := Any.Builder_String_any Tryz.lays169 Tryz.Builder_Extra_169 B b l w h hBw
def Tryz.lays171_ren : Go.Shelf.Ren := ⟨fun | 171 => 83 | 243 => 109 | 246 => 135 | 283 => 144 | 284 => 145 | 285 => 146 | 286 => 147 | 129 => 119 | 317 => 150 | 318 => 151 | 319 => 152 | 320 => 153 | 337 => 154 | 338 => 155 | n => n, fun | 3 => 3 | 9 => 9 | 2 => 2 | 4 => 4 | 171 => 185 | 0 => 0 | 53 => 161 | 37 => 122 | 5 => 5 | 173 => 187 | 212 => 194 | 51 => 159 | 20 => 20 | 213 => 195 | 46 => 139 | 232 => 196 | 233 => 197 | n => n, fun | 17 => 0 | 18 => 1 | 19 => 2 | n => n⟩
theorem Tryz.lays171 : Go.Proofs.Lays.n171 Tryz.prog Tryz.lays171_ren := {
 mixed := by kernel_rfl
 f129 := Tryz.func119.trans (congrArg some (by kernel_rfl))
 f171 := Tryz.func83.trans (congrArg some (by kernel_rfl))
 f243 := Tryz.func109.trans (congrArg some (by kernel_rfl))
 f246 := Tryz.func135.trans (congrArg some (by kernel_rfl))
 f283 := Tryz.func144.trans (congrArg some (by kernel_rfl))
 f284 := Tryz.func145.trans (congrArg some (by kernel_rfl))
 f285 := Tryz.func146.trans (congrArg some (by kernel_rfl))
 f286 := Tryz.func147.trans (congrArg some (by kernel_rfl))
 f317 := Tryz.func150.trans (congrArg some (by kernel_rfl))
 f318 := Tryz.func151.trans (congrArg some (by kernel_rfl))
 f319 := Tryz.func152.trans (congrArg some (by kernel_rfl))
 f320 := Tryz.func153.trans (congrArg some (by kernel_rfl))
 f337 := Tryz.func154.trans (congrArg some (by kernel_rfl))
 f338 := Tryz.func155.trans (congrArg some (by kernel_rfl))
 t0 := Tryz.underlying0
 a0 := Tryz.isAgg0
 z0 := Tryz.sizeOf0
 v0 := Tryz.zeroValue0
 t2 := Tryz.underlying2
 a2 := Tryz.isAgg2
 z2 := Tryz.sizeOf2
 v2 := Tryz.zeroValue2
 t3 := Tryz.underlying3
 a3 := Tryz.isAgg3
 z3 := Tryz.sizeOf3
 v3 := Tryz.zeroValue3
 t4 := Tryz.underlying4
 a4 := Tryz.isAgg4
 z4 := Tryz.sizeOf4
 v4 := Tryz.zeroValue4
 t5 := Tryz.underlying5
 a5 := Tryz.isAgg5
 z5 := Tryz.sizeOf5
 v5 := Tryz.zeroValue5
 t9 := Tryz.underlying9
 a9 := Tryz.isAgg9
 z9 := Tryz.sizeOf9
 v9 := Tryz.zeroValue9
 t20 := Tryz.underlying20
 a20 := Tryz.isAgg20
 z20 := Tryz.sizeOf20
 v20 := Tryz.zeroValue20
 t37 := Tryz.underlying122
 a37 := Tryz.isAgg122
 z37 := Tryz.sizeOf122
 v37 := Tryz.zeroValue122
 t46 := Tryz.underlying139
 a46 := Tryz.isAgg139
 z46 := Tryz.sizeOf139
 v46 := Tryz.zeroValue139
 t51 := Tryz.underlying159
 a51 := Tryz.isAgg159
 z51 := Tryz.sizeOf159
 v51 := Tryz.zeroValue159
 t53 := Tryz.underlying161
 a53 := Tryz.isAgg161
 z53 := Tryz.sizeOf161
 v53 := Tryz.zeroValue161
 t171 := Tryz.underlying185
 a171 := Tryz.isAgg185
 z171 := Tryz.sizeOf185
 v171 := Tryz.zeroValue185
 t173 := Tryz.underlying187
 a173 := Tryz.isAgg187
 z173 := Tryz.sizeOf187
 v173 := Tryz.zeroValue187
 t212 := Tryz.underlying194
 a212 := Tryz.isAgg194
 z212 := Tryz.sizeOf194
 v212 := Tryz.zeroValue194
 t213 := Tryz.underlying195
 a213 := Tryz.isAgg195
 z213 := Tryz.sizeOf195
 t232 := Tryz.underlying196
 a232 := Tryz.isAgg196
 z232 := Tryz.sizeOf196
 v232 := Tryz.zeroValue196
 t233 := Tryz.underlying197
 a233 := Tryz.isAgg197
 z233 := Tryz.sizeOf197
 v233 := Tryz.zeroValue197
 g17 := by kernel_rfl
 g18 := by kernel_rfl
 g19 := by kernel_rfl }
open Go.RowKit Go.Sort Go.Lib in
theorem Tryz.strconv_Itoa_small (i : Nat) (hi : i < 100) (w : World) :
  Calls Tryz.prog 83 #[.int .i64 i] w fun e w' => e = .returned (.string ⟨(Lib.decDigits i).toArray⟩) ∧ w' = w := Any.strconv_Itoa_small Tryz.lays171 i hi w
end Go.Proofs

namespace Go.Proofs.YtfbapajcheammaaGreatDoor
open Go Go.RowKit
abbrev bT : TypeId := 124
abbrev bE : TypeId := 5
theorem ky_size : (Tryz.prog.info? bT).map (fun i => i.size) = some 2 := by kernel_rfl
theorem ky_lies : liesAt Tryz.prog (Tryz.prog).depth bT (2 / (Tryz.prog).cellsOf bT) 0 bT 1 = true := by kernel_rfl
theorem ky_byte : (Tryz.prog.info? bE).map (fun i => (i.zero, i.size, i.bytes)) = some (some (.int .u8 0), 1, 1) := by kernel_rfl
theorem ky_tp : (Tryz.prog).underlying 121 = some (.pointer bT) := by kernel_rfl
theorem ky_un : (Tryz.prog).underlying 174 = some .unsafePointer := by kernel_rfl
/-- Behind copyCheck the builder knows its address. -/
theorem ky_check (B b : Nat) (bs : List Value) (w : World) (h : Lib.IsBuilder bT bE B b bs w) :
  Calls Tryz.prog 108 #[.pointer (some ⟨b, 0, none⟩)] w fun e w' => e = .returned (.tuple #[]) ∧ Lib.BuilderAt bT bE B b (.pointer (some ⟨b, 0, none⟩)) bs w' ∧ Below B w w' := by
 obtain ⟨j, hj, hjs⟩ := Option.map_eq_some_iff.1 ky_size
 rcases h with h | h
 ·have h0 := h.cell0
  have hsh := h.shape
  have hfz := h.frozen0
  suffices hh : Calls Tryz.prog 108 #[.pointer (some ⟨b, 0, none⟩)] w fun e w' => e = .returned (.tuple #[]) ∧ w' = w.setCell ⟨b, 0, none⟩ (.pointer (some ⟨b, 0, none⟩)) by
   refine hh.mono ?_
   rintro e w' ⟨rfl, rfl⟩
   exact ⟨rfl, h.used _, (Below.refl B w).setCell (p := ⟨b, 0, none⟩) h.1 _⟩
  go_enter Tryz.func108, Tryz.ntmps108
  go_wp2
  rw [Lib.run_to_unsafe w ⟨b, 0, none⟩ ky_tp ky_un hj (by rw [hjs]; decide) hsh (Nat.zero_lt_succ 1)]
  simp only [Result.andThen]
  rw [Oper.upon_value]
  go_wp2
  rw [run_callFunc_extern Tryz.func134 (by kernel_rfl) (by kernel_rfl) (by kernel_rfl) (e := Extern.AbiNoEscape.same) (by kernel_rfl)]
  rw [Lib.run_noEscape]
  simp only [Result.andThen]
  rw [Oper.upon_value]
  go_wp2
  rw [Lib.run_from_unsafe w ⟨b, 0, none⟩ ky_un ky_tp hj hsh ky_lies]
  simp only [Result.andThen]
  rw [Oper.upon_value]
  go_wp2
  go_end0
  exact ⟨rfl, rfl⟩
 ·have h0 := h.cell0
  suffices hh : Calls Tryz.prog 108 #[.pointer (some ⟨b, 0, none⟩)] w fun e w' => e = .returned (.tuple #[]) ∧ w' = w by
   refine hh.mono ?_
   rintro e w' ⟨rfl, rfl⟩
   exact ⟨rfl, h, Below.refl B _⟩
  go_enter Tryz.func108, Tryz.ntmps108
  go_wp2
  rw [Lib.run_neq_ptr_same w _ ky_tp hj]
  go_wp2
  go_end0
  exact ⟨rfl, rfl⟩
theorem ky_byteW (B b : Nat) (bs : List Value) (c : Int) (w : World) (h : Lib.IsBuilder bT bE B b bs w) (hlen : bs.length + 1 ≤ 1000000) (hBw : B ≤ w.heap.size) :
  Calls Tryz.prog 84 #[.pointer (some ⟨b, 0, none⟩), .int .u8 c] w fun e w' => e = .returned .nilIface ∧ Lib.BuilderAt bT bE B b (.pointer (some ⟨b, 0, none⟩)) (bs ++ [.int .u8 c]) w' ∧ Below B w w' := by
 obtain ⟨i0, hi, hz0, hz1, hz2⟩ := info_parts ky_byte
 go_enter Tryz.func84, Tryz.ntmps84
 go_wp2_with (go_at_call 108; refine (ky_check B b bs _ h).mono ?_)
 rintro e w1 ⟨rfl, h1, hb1⟩
 obtain ⟨hB, v, hbk, hown, hne⟩ := h1
 have c1 : w1.cell? ⟨b, 1, none⟩ = some v := by rw [Lib.cell_of_heap hbk]; rfl
 have hlt : b < w1.heap.size := (Array.getElem?_eq_some_iff.1 hbk).1
 have hsz := hb1.size
 go_wp2_with (at_builtin; refine wpList_append_own _ rfl _ _ 122 rfl B bE i0 (.int .u8 0) 1 1 Tryz.underlying122 hi hz0 hz1 hz2 rfl (by decide) _ _ _ rfl (hown.alloc _) ⟨w1.heap.size, 0, none⟩ 1 1 [.int .u8 c] rfl rfl ?c1 ?c2 (by unfold maxLen; omega) (by omega) (by simp; omega) ?_)
 case c1 =>
  intro j u hj
  match j, hj with
  | 0, hj => simp at hj; subst hj; simp [Addr.add]
 case c2 => intro u hu; simp at hu; subst hu; rfl
 intro v' w2 hown' hgrow _
 have hb2 : w2.heap[b]? = some (.cells #[.pointer (some ⟨b, 0, none⟩), v] bT (0, 0)) := by
  rw [hgrow.block b (by simp; omega) (fun e => hne e.symm), Lib.alloc_old w1 _ b hlt]
  exact hbk
 have d1 : w2.cell? ⟨b, 1, none⟩ = some v := by rw [Lib.cell_of_heap hb2]; rfl
 have f1 : w2.frozen? ⟨b, 1, none⟩ = false := Lib.frozen_of_heap hb2 1
 obtain ⟨ao, n', cap, rfl⟩ : ∃ ao n' cap, v' = .slice ao n' cap := by
  rcases hown'.2 with ⟨hv, _⟩ | ⟨g, cap, cur, hv, _⟩ <;> exact ⟨_, _, _, hv⟩
 go_wp2
 go_ret
 refine ⟨rfl, Lib.BuilderAt.put (T := bT) (e := bE) hB hb2 (bs' := bs ++ [.int .u8 c]) (by simpa using hown') (by decide), ?_⟩
 exact ((hb1.alloc (by omega) _).grown hgrow (by simp; omega) (fun k hk => (hown.lt k hk).1)).setCell (p := ⟨b, 1, none⟩) hB _
theorem ky_strW (B b : Nat) (bs : List Value) (t : ByteArray) (w : World) (h : Lib.IsBuilder bT bE B b bs w) (hlen : bs.length + t.size ≤ 1000000) (hBw : B ≤ w.heap.size) :
  Calls Tryz.prog 82 #[.pointer (some ⟨b, 0, none⟩), .string t] w fun e w' => e = .returned (.tuple #[.int .i64 t.size, .nilIface]) ∧ Lib.BuilderAt bT bE B b (.pointer (some ⟨b, 0, none⟩)) (bs ++ Lib.strCells t) w' ∧ Below B w w' := by
 obtain ⟨i0, hi, hz0, hz1, hz2⟩ := info_parts ky_byte
 go_enter Tryz.func82, Tryz.ntmps82
 go_wp2_with (go_at_call 108; refine (ky_check B b bs _ h).mono ?_)
 rintro e w1 ⟨rfl, h1, hb1⟩
 obtain ⟨hB, v, hbk, hown, hne⟩ := h1
 have c1 : w1.cell? ⟨b, 1, none⟩ = some v := by rw [Lib.cell_of_heap hbk]; rfl
 have hlt : b < w1.heap.size := (Array.getElem?_eq_some_iff.1 hbk).1
 have hsz := hb1.size
 go_wp2_with (at_builtin; refine Lib.wpList_append_own_string _ rfl _ _ 122 9 rfl B bE i0 Tryz.underlying122 Tryz.underlying9 hi hz0 hz1 hz2 _ _ _ rfl hown t rfl (by unfold maxLen; omega) (by omega) (by omega) ?_)
 intro v' w2 hown' hgrow _
 have hb2 : w2.heap[b]? = some (.cells #[.pointer (some ⟨b, 0, none⟩), v] bT (0, 0)) := by
  rw [hgrow.block b hlt (fun e => hne e.symm)]
  exact hbk
 have d1 : w2.cell? ⟨b, 1, none⟩ = some v := by rw [Lib.cell_of_heap hb2]; rfl
 have f1 : w2.frozen? ⟨b, 1, none⟩ = false := Lib.frozen_of_heap hb2 1
 obtain ⟨ao, n', cap, rfl⟩ : ∃ ao n' cap, v' = .slice ao n' cap := by
  rcases hown'.2 with ⟨hv, _⟩ | ⟨g, cap, cur, hv, _⟩ <;> exact ⟨_, _, _, hv⟩
 go_wp2
 go_ret2
 refine ⟨rfl, Lib.BuilderAt.put (T := bT) (e := bE) hB hb2 (bs' := bs ++ Lib.strCells t) (by simpa [Lib.strCells_length] using hown') (by decide), ?_⟩
 exact (hb1.grown hgrow (by omega) (fun k hk => (hown.lt k hk).1)).setCell (p := ⟨b, 1, none⟩) hB _
def dig2 (u : Nat) : List UInt8 := if u < 10 then [UInt8.ofNat (48 + u)] else [UInt8.ofNat (48 + u / 10), UInt8.ofNat (48 + u % 10)]
theorem dig2_eq {u : Nat} (h : u < 100) : Lib.decDigits u = dig2 u := by
 unfold dig2
 split
 ·exact Lib.decDigits_one ‹_›
 ·exact Lib.decDigits_two ‹_› h
theorem dig2_len (u : Nat) : (dig2 u).length ≤ 2 := by unfold dig2; split <;> simp
def keyB : List Int → List UInt8
 | [] => []
 | x :: xs => dig2 x.toNat ++ 32 :: keyB xs
theorem keyB_snoc : ∀ (xs : List Int) (x : Int), keyB (xs ++ [x]) = keyB xs ++ dig2 x.toNat ++ [32]
 | [], x => by simp [keyB]
 | y :: ys, x => by rw [List.cons_append, keyB, keyB_snoc ys x, keyB]; simp
theorem keyB_len : ∀ (xs : List Int), (keyB xs).length ≤ 3 * xs.length
 | [] => by simp [keyB]
 | x :: xs => by have h1 := keyB_len xs; have h2 := dig2_len x.toNat; simp only [keyB, List.length_append, List.length_cons]; omega
def m_product_key (p0 : List Int) : Option ByteArray := if (p0.all fun x => decide (0 ≤ x ∧ x < 100)) = true ∧ p0.length ≤ 1000 then some ⟨(keyB p0).toArray⟩ else none
theorem key_any (a : Option Addr) (c : Nat) (xs : List Int) (w : World) (hr : RdS w 1 a xs.length c (ints xs)) (hx : ∀ x ∈ xs, 0 ≤ x ∧ x < 100) (hl : xs.length ≤ 1000) :
  Calls Tryz.prog 50 #[.slice a xs.length c] w fun e w' => e = .returned (.string ⟨(keyB xs).toArray⟩) ∧ Below w.heap.size w w' := by
 have Hx := Lib.hid hx
 clear hx
 go_enter Tryz.func50, Tryz.ntmps50
 go_wp2
 go_loopw [8] (fun i wr => ∃ k : Nat, k ≤ xs.length ∧ i = .int .i64 k ∧ Lib.IsBuilder bT bE w.heap.size w.heap.size (Lib.byteCells (keyB (xs.take k))) wr ∧ Below w.heap.size w wr) (fun i _ => xs.length - (intOf i).toNat)
 case atStart => exact ⟨0, Nat.zero_le _, rfl, Lib.fresh_isBuilder bT bE w, (Below.refl _ w).alloc (Nat.le_refl _) _⟩
 case round =>
  obtain ⟨k, hk, rfl, hI, hbw⟩ := hrel
  by_cases hlt : k < xs.length
  ·obtain ⟨b, off, rfl, hc0⟩ := hr.at_int k hlt
   have hc := keep0 hbw hc0
   have hsz := hbw.size
   obtain ⟨n, hn⟩ : ∃ n : Nat, xs[k] = n := ⟨xs[k].toNat, by have := Hx.out _ (List.getElem_mem hlt); omega⟩
   have hn100 : n < 100 := by have := Hx.out _ (List.getElem_mem hlt); omega
   rw [hn] at hc
   have hkl := keyB_len (xs.take k)
   rw [List.length_take, Nat.min_eq_left hk] at hkl
   have hd2 := dig2_len n
   go_wp2_with (go_at_call 83; refine (Tryz.strconv_Itoa_small n hn100 _).mono ?_)
   rintro e W0 ⟨rfl, rfl⟩
   go_wp2_with (go_at_call 82; refine (ky_strW w.heap.size w.heap.size _ _ _ hI (by rw [Lib.byteCells_length, dig2_eq hn100]; simp [ByteArray.size]; omega) hsz).mono ?_)
   rintro e W1 ⟨rfl, h1, b1⟩
   go_wp2_with (go_at_call 84; refine (ky_byteW w.heap.size w.heap.size _ _ _ (.inr h1) (by rw [List.length_append, Lib.byteCells_length, Lib.strCells_length, dig2_eq hn100]; simp [ByteArray.size]; omega) (Nat.le_trans hsz b1.size)).mono ?_)
   rintro e W2 ⟨rfl, h2, b2⟩
   go_wp2
   go_roundw
   case rel =>
    refine ⟨k + 1, by omega, by go_num, .inr ?_, (hbw.trans b1).trans b2⟩
    rw [take_snoc xs k hlt, keyB_snoc, hn, Lib.byteCells_append, Lib.byteCells_append]
    rw [dig2_eq hn100] at h2
    exact h2
   case measure => simp [intOf]; omega
  ·have hke : k = xs.length := by omega
   subst hke
   rw [List.take_length] at hI
   go_wp2_with (go_at_call 85; refine (Tryz.Builder_String_any w.heap.size w.heap.size _ _ hI hbw.size).mono ?_)
   rintro e W1 ⟨rfl, b1⟩
   go_wp2
   go_ret
   exact ⟨rfl, hbw.trans b1⟩
theorem m_product_key_c {s : Sig} {p0 : List Int} {a1 : Option Addr} {c1 : Nat} {r : ByteArray} (h1 : RdL (rK .i64) s a1 c1 p0) (hm : m_product_key p0 = some r) :
  Calls Tryz.prog 50 #[.slice a1 p0.length c1] s.w (RetS No s fun v s' => v = .string r) := by
 unfold m_product_key at hm
 split at hm
 ·rename_i hc
  cases hm
  obtain ⟨g1, g2⟩ := hc
  obtain ⟨a, c, he, h2⟩ := h1.rdI
  cases he
  refine (key_any _ _ p0 s.w h2 (fun x hx => by simpa using List.all_eq_true.1 g1 x hx) g2).mono fun en w' hh => ?_
  obtain ⟨rfl, hb⟩ := hh
  exact ⟨_, s.nw w', rfl, rfl, Sig.nw_mv hb, rfl⟩
 ·cases hm
end Go.Proofs.YtfbapajcheammaaGreatDoor

namespace Go.Proofs.YtfbapajcheammaaGreatDoor
open Go Go.RowKit
def offs (es : List Ed) (s : Nat) : Nat := es.countP fun x => decide (x.t < (s : Int))
def curL (es : List Ed) (n s : Nat) : List Int := (List.range (n + 1)).map fun i => if i ≤ s then (offs es i : Int) else ((es.countP fun x => decide (x.t + 1 = (i : Int)) : Nat) : Int)
theorem curL_len (es : List Ed) (n s : Nat) : (curL es n s).length = n + 1 := by simp [curL]
theorem curL_get {es : List Ed} {n s i : Nat} (hi : i < n + 1) : (curL es n s)[i]'(by rw [curL_len]; exact hi) = if i ≤ s then (offs es i : Int) else ((es.countP fun x => decide (x.t + 1 = (i : Int)) : Nat) : Int) := by simp [curL]
theorem curL_nil (n : Nat) : curL [] n 0 = List.replicate (n + 1) 0 := by
 apply List.ext_getElem
 ·simp [curL]
 ·intro i h1 h2; simp [curL, offs]
theorem offs_succ (es : List Ed) (s : Nat) : offs es (s + 1) = offs es s + es.countP fun x => decide (x.t + 1 = ((s + 1 : Nat) : Int)) := by
 induction es with
 | nil => rfl
 | cons x xs ih =>
  simp only [offs, List.countP_cons] at ih ⊢
  rw [ih]
  by_cases h1 : x.t < (s : Int)
  ·have h2 : x.t < ((s + 1 : Nat) : Int) := by omega
   have h3 : ¬ x.t + 1 = ((s + 1 : Nat) : Int) := by omega
   simp only [h1, h2, h3, decide_true, decide_false]; simp; omega
  ·by_cases h3 : x.t + 1 = ((s + 1 : Nat) : Int)
   ·have h2 : x.t < ((s + 1 : Nat) : Int) := by omega
    simp only [h1, h2, h3, decide_true, decide_false]; simp; omega
   ·have h2 : ¬ x.t < ((s + 1 : Nat) : Int) := by omega
    simp only [h1, h2, h3, decide_false]; simp
theorem offs_mono {es : List Ed} {s t : Nat} (h : s ≤ t) : offs es s ≤ offs es t := List.countP_mono_left fun x _ h1 => by
 have := of_decide_eq_true h1
 exact decide_eq_true (by omega)
theorem offs_le (es : List Ed) (s : Nat) : offs es s ≤ es.length := List.countP_le_length
theorem curL_snoc {es : List Ed} {x : Ed} {n t : Nat} (hx : x.t = (t : Int)) (ht : t < n) (h0 : ∀ y ∈ es, 0 ≤ y.t) : curL (es ++ [x]) n 0 = (curL es n 0).set (t + 1) ((curL es n 0)[t + 1]'(by rw [curL_len]; omega) + 1) := by
 apply List.ext_getElem
 ·simp [curL]
 ·intro i h1 h2
  have hi : i < n + 1 := by rw [curL_len] at h1; exact h1
  rw [List.getElem_set, curL_get hi]
  simp only [curL_get (n := n) (i := t + 1) (by omega), curL_get (es := es) hi]
  by_cases e : t + 1 = i
  ·subst e
   rw [if_pos rfl, if_neg (by omega), if_neg (by omega), List.countP_append]
   simp [hx]
  ·rw [if_neg e]
   by_cases e0 : i ≤ 0
   ·rw [if_pos e0, if_pos e0, offs, offs, List.countP_append]
    simp only [List.countP_cons, List.countP_nil]
    have : ¬ x.t < (i : Int) := by omega
    simp [this]
   ·rw [if_neg e0, if_neg e0, List.countP_append]
    have : ¬ x.t + 1 = (i : Int) := by omega
    simp [this]
theorem curL_add {es : List Ed} {n s : Nat} (hs : s < n) : curL es n (s + 1) = (curL es n s).set (s + 1) ((curL es n s)[s + 1]'(by rw [curL_len]; omega) + (curL es n s)[s]'(by rw [curL_len]; omega)) := by
 apply List.ext_getElem
 ·simp [curL]
 ·intro i h1 h2
  have hi : i < n + 1 := by rw [curL_len] at h1; exact h1
  rw [List.getElem_set, curL_get hi]
  simp only [curL_get (n := n) (i := s + 1) (by omega), curL_get (n := n) (i := s) (by omega), curL_get (es := es) (s := s) hi]
  by_cases e : s + 1 = i
  ·subst e
   rw [if_pos rfl, if_pos (Nat.le_refl _), if_neg (by omega), if_pos (Nat.le_refl _), offs_succ]
   omega
  ·rw [if_neg e]
   by_cases e0 : i ≤ s
   ·rw [if_pos e0, if_pos (by omega)]
   ·rw [if_neg e0, if_neg (by omega)]
end Go.Proofs.YtfbapajcheammaaGreatDoor

namespace Go.Proofs.YtfbapajcheammaaGreatDoor
open Go Go.RowKit
theorem run_append_at {P : Program} {w : World} {B k A : Nat} {tag : Nat → Nat} (ty tt e : TypeId) (i : TypeInfo) (ht : P.underlying tt = some (.slice e)) (hi : P.info? e = some i) (hsize : i.size = 1) {cs : Array Value} (ho : Own w B tag k A cs e)
  (o n cap : Nat) (ad : Addr) (c : Nat) (x : Value) (hx : w.cell? ad = some x) (h1 : x.oneCell' = true) (hroom : n + 1 ≤ cap) (hfit : o + n + 1 ≤ cs.size) :
  ∃ w', (Builtin.append_ #[tt, tt] ty #[.slice (some ⟨A, o, none⟩) n cap, .slice (some ad) 1 c]).run P w = .ok (.slice (some ⟨A, o, none⟩) (n + 1) cap) w' ∧ Own w' B tag k A (cs.setIfInBounds (o + n) x) e ∧ Turn B tag tag k w w' := by
 have hst := run_storeCells_at P A (o + n) e [x] 0 cs w ho.heap (by simpa using hfit) (by simpa using h1)
 have hf := run_firstCells_some (P := P) w i.size 1 ad 1 c [x] (by simp [hsize]) (fun j u hj => by
  match j, hj with
  | 0, hj => simp at hj; subst hj; simpa [Addr.add] using hx)
 simp only [Nat.add_zero] at hst
 have he : (cs.toList.take (o + n) ++ [x] ++ cs.toList.drop (o + n + [x].length)).toArray = cs.setIfInBounds (o + n) x := by
  apply Array.toList_inj.1
  rw [Array.toList_setIfInBounds, List.set_eq_take_append_cons_drop, if_pos (by rw [Array.length_toList]; omega)]
  simp
 rw [he] at hst
 refine ⟨w.setRow A (cs.setIfInBounds (o + n) x), ?_, ⟨setRow_heap w A cs _ e _ ho.heap, ho.htag, ho.base⟩, ⟨rfl, rfl, rfl, by simp, fun _ _ => rfl, fun b' _ hne => setRow_other w A b' _ ?_, fun b' o hb' hc => (setRow_other w A b' _ ?_).trans hb'⟩⟩
 ·rw [hsize] at hf
  simp [Builtin.append_, run_underlying ht, sizeOf, typeInfo, hi, Builtin.lenOf, hroom, hf, hsize, Addr.add_lit, hst]
 ·rintro rfl
  rcases hne with h2 | h2
  ·exact absurd ho.base (Nat.not_le.2 h2)
  ·exact h2 ho.htag
 ·rintro rfl
  rw [ho.heap] at hb'
  cases hb'
  cases hc
theorem step_append_at {P : Program} {ops : Array Oper} {o : Oper} {a : Act} {K : Act → World → Prop} {Q : Exit → Act → World → Prop} {E : Prop}
  {w : World} {B k A : Nat} {tag : Nat → Nat} (hgd : o.guard = none) (s x : Operand) (tt : TypeId)
  (ho : o.op = .call { callee := .builtin .append, args := #[s, x], argTypes := #[tt, tt] })
  (e : TypeId) (i : TypeInfo) (ht : P.underlying tt = some (.slice e)) (hi : P.info? e = some i) (hsize : i.size = 1) {cs : Array Value} (hown : Own w B tag k A cs e)
  (off n cap : Nat) (ad : Addr) (c : Nat) (u : Value) (hs : a.eval s = .slice (some ⟨A, off, none⟩) n cap) (hx : a.eval x = .slice (some ad) 1 c) (hu : w.cell? ad = some u) (h1 : u.oneCell' = true) (hroom : n + 1 ≤ cap) (hfit : off + n + 1 ≤ cs.size)
  (h : ∀ w', Own w' B tag k A (cs.setIfInBounds (off + n) u) e → Turn B tag tag k w w' → K (a.put o.dst (.slice (some ⟨A, off, none⟩) (n + 1) cap)) w') :
  if Region.wanted o (yielded ops a.tmps) = true then Oper.wp P o a w K Q else E := by
 have hw : Region.wanted o (yielded ops a.tmps) = true := by simp [Region.wanted, hgd]
 rw [if_pos hw]
 obtain ⟨w', hrun, h2, h3⟩ := run_append_at (P := P) (w := w) o.type tt e i ht hi hsize hown off n cap ad c u hu h1 hroom hfit
 unfold Oper.wp
 simp [execOp, ho, resolve, invoke, builtin, hs, hx, hrun, Result.andThen]
 exact h w' h2 h3
structure NInv (w : World) (G : Array Value) (n : Nat) (wr : World) (tag : Nat → Nat) (C : Nat) (L : List Int) : Prop where
 below : Below w.heap.size w wr
 g : Own wr w.heap.size tag 0 w.heap.size G 30
 cnt : Row wr w.heap.size tag 1 3 1 (.slice (some ⟨C, 0, none⟩) (n + 1) (n + 1)) (n + 1) (ints L)
section
variable {w : World} {G : Array Value} {n : Nat} {wr wr' : World} {tag tag' : Nat → Nat} {C : Nat} {L : List Int}
theorem NInv.turn {k : Nat} (h : NInv w G n wr tag C L) (ht : Turn w.heap.size tag tag' k wr wr') (h1 : 1 < k) : NInv w G n wr' tag' C L :=
 ⟨belTurn h.below ht h.below.size, h.g.turn ht (by omega), h.cnt.turn ht (by omega)⟩
theorem NInv.new (h : NInv w G n wr tag C L) (o : Obj) (kk : Nat) : NInv w G n (wr.alloc o) (tagUp tag wr.heap.size kk) C L := by
 have hb := bel_alloc wr o
 have ht : Turn w.heap.size tag (tagUp tag wr.heap.size kk) 9 wr (wr.alloc o) := { Turn.below (B := w.heap.size) (tag := tag) (k := 9) hb with tags := fun b hb => tagUp_lt hb }
 exact h.turn ht (by decide)
theorem NInv.call (h : NInv w G n wr tag C L) (hb : Below wr.heap.size wr wr') : NInv w G n wr' tag C L :=
 ⟨belCall h.below hb h.below.size, h.g.below hb, h.cnt.below hb⟩
theorem NInv.put (h : NInv w G n wr tag C L) (j : Nat) (x : Int) : NInv w G n (wr.setCell ⟨C, j, none⟩ (.int .i64 x)) tag C (L.set j x) := by
 have h1 := h.cnt.set j (.int .i64 x)
 rw [Nat.zero_add] at h1
 refine ⟨belTurn h.below h1.2 h.below.size, h.g.turn h1.2 (by decide), ?_⟩
 have := h1.1
 rwa [show (ints L).set j (.int .i64 x) = ints (L.set j x) from by simp [ints, List.map_set]] at this
theorem NInv.at (h : NInv w G n wr tag C L) (j : Nat) (hj : j < L.length) : wr.cell? ⟨C, j, none⟩ = some (.int .i64 L[j]) := by
 have hl : L.length = n + 1 := by have := h.cnt.1; simpa using this
 have := h.cnt.cellAt j (by omega)
 rw [Nat.zero_add, List.getElem?_map, List.getElem?_eq_getElem hj] at this
 exact this
end
def segV (es : List Ed) (A : Nat) (fs : List Ed) (s : Nat) : Value := .slice (some ⟨A, if offs es (s + 1) = offs es s then 0 else offs es s, none⟩) (inL fs s).length (offs es (s + 1) - offs es s)
theorem inL_len (es : List Ed) (s : Nat) : (inL es s).length = offs es (s + 1) - offs es s := by
 rw [offs_succ, Nat.add_sub_cancel_left, inL, List.length_map, ← List.countP_eq_length_filter]
 congr 1
 funext x
 congr 1
 apply propext
 omega
theorem inL_app (es fs : List Ed) (s : Nat) : inL (es ++ fs) s = inL es s ++ inL fs s := by simp [inL]
def ivsA (es : List Ed) (A n k : Nat) : List Value := (List.range n).map fun s => if s < k then segV es A [] s else .slice none 0 0
theorem ivsA_next {es : List Ed} {A n k : Nat} (hk : k < n) : ivsA es A n (k + 1) = (ivsA es A n k).set k (segV es A [] k) := by
 apply List.ext_getElem
 ·simp [ivsA]
 ·intro i h1 h2
  rw [List.getElem_set]
  simp only [ivsA, List.getElem_map, List.getElem_range]
  by_cases e : k = i
  ·subst e; rw [if_pos (by omega), if_pos rfl]
  ·rw [if_neg e]
   by_cases e2 : i < k
   ·rw [if_pos (by omega), if_pos e2]
   ·rw [if_neg (by omega), if_neg e2]
def ivsB (es : List Ed) (A n : Nat) (fs : List Ed) : List Value := (List.range n).map (segV es A fs)
theorem ivsA_all (es : List Ed) (A n : Nat) : ivsA es A n n = ivsB es A n [] := by
 apply List.map_congr_left
 intro s hs
 rw [if_pos (List.mem_range.1 hs)]
theorem ivsB_next {es fs : List Ed} {A n t : Nat} {x : Ed} (hx : x.t = (t : Int)) (ht : t < n) : ivsB es A n (fs ++ [x]) = (ivsB es A n fs).set t (.slice (some ⟨A, if offs es (t + 1) = offs es t then 0 else offs es t, none⟩) ((inL fs t).length + 1) (offs es (t + 1) - offs es t)) := by
 apply List.ext_getElem
 ·simp [ivsB]
 ·intro i h1 h2
  rw [List.getElem_set]
  simp only [ivsB, List.getElem_map, List.getElem_range]
  by_cases e : t = i
  ·subst e; rw [if_pos rfl, segV, inL_same fs x t hx, List.length_append]; rfl
  ·rw [if_neg e, segV, segV, inL_other fs x i (by omega)]
def Seg (es : List Ed) (n : Nat) (fs : List Ed) (cur : Array Value) : Prop := ∀ s, s < n → ∀ j (h : j < (inL fs s).length), cur[offs es s + j]? = some (.int .i64 (inL fs s)[j])
theorem Seg.push {es fs gs : List Ed} {n t : Nat} {x : Ed} {cur : Array Value} (h : Seg es n fs cur) (he : es = fs ++ x :: gs) (hx : x.t = (t : Int)) (ht : t < n) (hc : es.length ≤ cur.size) :
  Seg es n (fs ++ [x]) (cur.setIfInBounds (offs es t + (inL fs t).length) (.int .i64 x.f)) := by
 have hle : ∀ s, (inL (fs ++ [x]) s).length ≤ offs es (s + 1) - offs es s := by
  intro s
  rw [← inL_len, he, show fs ++ x :: gs = (fs ++ [x]) ++ gs by simp, inL_app (fs ++ [x]), List.length_append]
  omega
 have hlt : (inL fs t).length < offs es (t + 1) - offs es t := by
  have := hle t
  rw [inL_same fs x t hx, List.length_append] at this
  simp at this; omega
 have hsz : offs es t + (inL fs t).length < cur.size := by
  have := offs_le es (t + 1)
  omega
 intro s hs j hj
 by_cases e : s = t
 ·subst e
  have h2 := inL_same fs x s hx
  simp only [h2] at hj ⊢
  by_cases e2 : j = (inL fs s).length
  ·subst e2
   rw [Array.getElem?_setIfInBounds_self_of_lt hsz]
   simp
  ·have hj' : j < (inL fs s).length := by rw [List.length_append] at hj; simp at hj; omega
   rw [Array.getElem?_setIfInBounds_ne (by omega), h s hs j hj', List.getElem_append_left hj']
 ·have h2 := inL_other fs x s (by omega)
  have hj2 := hle s
  simp only [h2] at hj hj2 ⊢
  rw [Array.getElem?_setIfInBounds_ne ?_, h s hs j hj]
  rcases Nat.lt_or_gt_of_ne e with g | g
  ·have := offs_mono (es := es) (show s + 1 ≤ t by omega)
   omega
  ·have := offs_mono (es := es) (show t + 1 ≤ s by omega)
   omega
structure FInv (w : World) (G : Array Value) (n : Nat) (es : List Ed) (A O : Nat) (wr : World) (tag : Nat → Nat) (ivs : List Value) (fs : List Ed) : Prop where
 inv : NInv w G n wr tag (w.heap.size + 1) (curL es n n)
 out : Row wr w.heap.size tag 3 27 1 (.slice (some ⟨O, 0, none⟩) n n) n ivs
 all : ∃ cur, Own wr w.heap.size tag 2 A cur 3 ∧ es.length ≤ cur.size ∧ Seg es n fs cur
section
variable {w : World} {G : Array Value} {n : Nat} {es fs : List Ed} {A O : Nat} {wr wr' : World} {tag tag' : Nat → Nat} {ivs : List Value}
theorem FInv.turn {k : Nat} (h : FInv w G n es A O wr tag ivs fs) (ht : Turn w.heap.size tag tag' k wr wr') (h1 : 3 < k) : FInv w G n es A O wr' tag' ivs fs := by
 obtain ⟨cur, g1, g2, g3⟩ := h.all
 exact ⟨h.inv.turn ht (by omega), h.out.turn ht (by omega), cur, g1.turn ht (by omega), g2, g3⟩
theorem FInv.call (h : FInv w G n es A O wr tag ivs fs) (hb : Below wr.heap.size wr wr') : FInv w G n es A O wr' tag ivs fs := by
 obtain ⟨cur, g1, g2, g3⟩ := h.all
 exact ⟨h.inv.call hb, h.out.below hb, cur, g1.below hb, g2, g3⟩
theorem FInv.new (h : FInv w G n es A O wr tag ivs fs) (o : Obj) (kk : Nat) : FInv w G n es A O (wr.alloc o) (tagUp tag wr.heap.size kk) ivs fs := by
 have hb := bel_alloc wr o
 have ht : Turn w.heap.size tag (tagUp tag wr.heap.size kk) 9 wr (wr.alloc o) := { Turn.below (B := w.heap.size) (tag := tag) (k := 9) hb with tags := fun b hb => tagUp_lt hb }
 exact h.turn ht (by decide)
theorem FInv.put (h : FInv w G n es A O wr tag ivs fs) (j : Nat) (v : Value) : FInv w G n es A O (wr.setCell ⟨O, j, none⟩ v) tag (ivs.set j v) fs := by
 obtain ⟨cur, g1, g2, g3⟩ := h.all
 have h1 := h.out.set j v
 rw [Nat.zero_add] at h1
 exact ⟨h.inv.turn h1.2 (by decide), h1.1, cur, g1.turn h1.2 (by decide), g2, g3⟩
theorem FInv.slot (h : FInv w G n es A O wr tag ivs fs) (j : Nat) (hj : j < n) {v : Value} (hv : ivs[j]? = some v) : wr.cell? ⟨O, j, none⟩ = some v := by
 have := h.out.cellAt j (by omega)
 rwa [Nat.zero_add, hv] at this
end
theorem FInv.push {w : World} {G : Array Value} {n : Nat} {es fs gs : List Ed} {A O : Nat} {wr wr' : World} {tag : Nat → Nat} {x : Ed} {t : Nat} {cur : Array Value} (h : FInv w G n es A O wr tag (ivsB es A n fs) fs) (he : es = fs ++ x :: gs) (hx : x.t = (t : Int)) (ht : t < n)
  (hs : es.length ≤ cur.size) (hg : Seg es n fs cur) (ho : Own wr' w.heap.size tag 2 A (cur.setIfInBounds (offs es t + (inL fs t).length) (.int .i64 x.f)) 3) (hT : Turn w.heap.size tag tag 2 wr wr') (hne : ¬ offs es (t + 1) = offs es t) :
  FInv w G n es A O (wr'.setCell ⟨O, t, none⟩ (.slice (some ⟨A, offs es t, none⟩) ((inL fs t).length + 1) (offs es (t + 1) - offs es t))) tag (ivsB es A n (fs ++ [x])) (fs ++ [x]) := by
 have h1 : FInv w G n es A O wr' tag (ivsB es A n fs) (fs ++ [x]) := ⟨h.inv.turn hT (by decide), h.out.turn hT (by decide), _, ho, by simpa using hs, hg.push he hx ht hs⟩
 have h2 := h1.put t (.slice (some ⟨A, offs es t, none⟩) ((inL fs t).length + 1) (offs es (t + 1) - offs es t))
 rw [ivsB_next hx ht, if_neg hne]
 exact h2
theorem room_at {es fs gs : List Ed} {x : Ed} {t : Nat} (he : es = fs ++ x :: gs) (hx : x.t = (t : Int)) : (inL fs t).length + 1 ≤ offs es (t + 1) - offs es t := by
 rw [← inL_len, he, show fs ++ x :: gs = (fs ++ [x]) ++ gs by simp, inL_app (fs ++ [x]), List.length_append, inL_same fs x t hx, List.length_append]
 simp
def IntoPost (B n : Nat) (es : List Ed) (u : Value) (w' : World) : Prop :=
 ∃ O ivs, u = .slice (some ⟨O, 0, none⟩) n n ∧ B ≤ O ∧ RdS w' 1 (some ⟨O, 0, none⟩) n n ivs ∧ ∀ s, s < n → ∃ a c, ivs[s]? = some (.slice a (inL es s).length c) ∧ RdS w' 1 a (inL es s).length c (ints (inL es s)) ∧ ∀ ad, a = some ad → B ≤ ad.block
theorem FInv.post {w : World} {G : Array Value} {n : Nat} {es : List Ed} {A O : Nat} {wr : World} {tag : Nat → Nat} (h : FInv w G n es A O wr tag (ivsB es A n es) es) (hl : es.length ≤ 1000000) :
  IntoPost w.heap.size n es (.slice (some ⟨O, 0, none⟩) n n) wr := by
 have hO : w.heap.size ≤ O := by
  rcases h.out.2 with ⟨g, _⟩ | ⟨b, off, cap, cur, g1, g2, _⟩
  ·cases g
  ·cases g1; exact g2.base
 obtain ⟨a, c, e1, e2⟩ := h.out.rd
 cases e1
 obtain ⟨cur, g1, g2, g3⟩ := h.all
 refine ⟨O, _, rfl, hO, e2, fun s hs => ⟨_, _, by rw [ivsB, List.getElem?_map, List.getElem?_range hs, Option.map_some, segV], ⟨by simp, Nat.le_of_eq (inL_len es s), by have := offs_le es (s + 1); unfold maxLen; omega, fun e => (by cases e), fun ad e => by cases e; rfl, fun ad e j hj => ?_⟩, fun ad e => by cases e; exact g1.base⟩⟩
 cases e
 have hj' : j < (inL es s).length := by simpa using hj
 have hne : ¬ offs es (s + 1) = offs es s := by have := inL_len es s; omega
 rw [if_neg hne]
 have := g1.cell (offs es s + j)
 rw [g3 s hs j hj'] at this
 rw [this, List.getElem_map]
theorem Tryz.ninfo_int : (Tryz.prog.info? 3).map (fun i => (i.zero, i.size, i.bytes)) = some (some (.int .i64 0), 1, 8) := by kernel_rfl
theorem Tryz.ninfo_ints : (Tryz.prog.info? 27).map (fun i => (i.zero, i.size, i.bytes)) = some (some (.slice none 0 0), 1, 24) := by kernel_rfl
set_option maxHeartbeats 4000000 in
theorem into_any (aa am ae : Option Addr) (la lm ca cm ce : Nat) (n ne : Nat) (es : List Ed) (w : World) (hne : ne = es.length) (hre : RdS w 3 ae es.length ce (edCells es)) (hl : es.length ≤ 1000000) (hn : n ≤ 1000000)
    (hit : ∀ x ∈ es, 0 ≤ x.t ∧ x.t < n) :
    Calls Tryz.prog 70 #[.agg #[.slice aa la ca, .int .i64 n, .slice am lm cm, .slice ae ne ce]] w (Ret w (IntoPost w.heap.size n es)) := by
  subst hne
  obtain ⟨i0, hi, hz0, hz1, hz2⟩ := info_parts Tryz.ninfo_ints
  obtain ⟨i1, hi1, hy0, hy1, hy2⟩ := info_parts Tryz.ninfo_int
  have Hit := Lib.hid hit
  clear hit
  go_enter Tryz.func70, Tryz.ntmps70
  have hI0 : ∀ w3 : World, w3.ownsRow (w.heap.size + 1) 3 1 (.slice (some ⟨w.heap.size + 1, 0, none⟩) (n + 1) (n + 1)) (n + 1) (madeCells (Value.int .i64 0).cells ((n + 1) * 1)).toList → (w.alloc (.cells #[.slice aa la ca, .int .i64 n, .slice am lm cm, .slice ae es.length ce] 30)).grownBy w3 none →
      NInv w #[.slice aa la ca, .int .i64 n, .slice am lm cm, .slice ae es.length ce] n w3 (fun b => if b = w.heap.size then 0 else 1) (w.heap.size + 1) (curL [] n 0) := by
    intro w3 hown3 hgrow3
    have hb3 : Below (w.alloc (.cells #[.slice aa la ca, .int .i64 n, .slice am lm cm, .slice ae es.length ce] 30)).heap.size _ w3 := Below.grown (Below.refl _ _) hgrow3 (Nat.le_refl _) (fun k e => (by cases e))
    refine ⟨((Below.refl _ w).alloc (Nat.le_refl _) _).trans (hb3.mono (by simp)), (Own.new w w.heap.size (fun b => if b = w.heap.size then 0 else 1) 0 _ _ (Nat.le_refl _) (if_pos rfl)).below hb3, Row.of_own (B' := w.heap.size + 1) ?_ (by omega) (fun b hb _ => if_neg (by omega))⟩
    rw [curL_nil]
    simpa [Value.cells, toList_madeCells_one] using hown3
  go_wp2_with (at_make; refine wpList_make_full _ rfl _ _ 27 rfl (w.heap.size + 1) 3 i1 (.int .i64 0) 1 Tryz.underlying27 hi1 hy0 hy1 .i64 .i64 _ _ (n + 1) rfl rfl (by first | rfl | omega) (by first | rfl | omega) (by rw [hy2]; omega) (by unfold maxLen; omega) (by simp) ?_; intro w3 hown3 hgrow3; have hI := hI0 w3 (by simpa using hown3) hgrow3; have e3 := hI.g.cell 3; have e1 := hI.g.cell 1; clear hI0 hown3 hgrow3)
  go_loopw [19] (fun j wr => ∃ (k : Nat) (tag : Nat → Nat), k ≤ es.length ∧ j = .int .i64 k ∧ NInv w #[.slice aa la ca, .int .i64 n, .slice am lm cm, .slice ae es.length ce] n wr tag (w.heap.size + 1) (curL (es.take k) n 0)) (fun j _ => es.length - (intOf j).toNat)
  case atStart => exact ⟨0, _, Nat.zero_le _, rfl, hI⟩
  case round =>
    clear hI e3 e1
    obtain ⟨k, tag, hk, rfl, hI⟩ := hrel
    by_cases hlt : k < es.length
    · obtain ⟨b, off, rfl, c0, c1, c2⟩ := hre.at_edge k hlt
      obtain ⟨hx2, hx3⟩ := Hit.out es[k] (List.getElem_mem hlt)
      replace c0 := keep0 hI.below c0
      replace c1 := keep0 hI.below c1
      replace c2 := keep0 hI.below c2
      have hbl := World.block_lt_of_cell? wr _ c0
      obtain ⟨t, ht⟩ := Int.eq_ofNat_of_zero_le hx2
      have htn : t < n := by omega
      have hts := curL_snoc (es := es.take k) (n := n) ht htn (fun y hy => (Hit.out y (List.mem_of_mem_take hy)).1)
      rw [← take_snoc es k hlt] at hts
      have hcl := curL_len (es.take k) n 0
      have Hts := Lib.hid hts
      clear hts
      rw [ht] at c2
      clear ht hx2 hx3
      have hI2 := hI.new (.cells #[.int .i64 es[k].f, .int .i64 es[k].e, .int .i64 t] 62) 5
      have hO := hI2.g
      have hzl := hI.g.lt
      have d0 := hI2.at (t + 1) (by omega)
      have d1 := hI2.cnt.frozenAt (t + 1)
      have hpt := hI2.put (t + 1) ((curL (es.take k) n 0)[t + 1]'(by omega) + 1)
      obtain ⟨y, hy⟩ : ∃ y, (curL (es.take k) n 0)[t + 1]'(by omega) = y := ⟨_, rfl⟩
      have hyb : 0 ≤ y ∧ y ≤ 1000000 := by
        rw [← hy, curL_get (by omega), if_neg (by omega)]
        have := List.countP_le_length (p := fun x : Ed => decide (x.t + 1 = ((t + 1 : Nat) : Int))) (l := es.take k)
        have := List.length_take_le k es
        omega
      have Hy := Lib.hid hy
      rw [hy] at d0 hpt
      clear hy
      have Hpt := Lib.hid hpt
      clear hpt hI hI2 hO
      go_wp2_with fail
      go_roundw
      case rel => exact ⟨k + 1, _, by omega, by go_num, by rw [Hts.out, Hy.out]; exact Hpt.out⟩
      case measure => simp [intOf]; omega
    · obtain rfl : k = es.length := by omega
      rw [List.take_length] at hI
      have e1 := hI.g.cell 1
      have hzl := hI.g.lt
      go_wp2_with fail
      clear e1
      go_loopw [34] (fun j wr => ∃ (k : Nat), k ≤ n ∧ j = .int .i64 k ∧ NInv w #[.slice aa la ca, .int .i64 n, .slice am lm cm, .slice ae es.length ce] n wr tag (w.heap.size + 1) (curL es n k)) (fun j _ => n - (intOf j).toNat)
      case atStart => exact ⟨0, Nat.zero_le _, rfl, hI⟩
      case round =>
        clear hI hzl
        obtain ⟨k, hk, rfl, hI⟩ := hrel
        have hcl := curL_len es n k
        by_cases hkn : k < n
        · have d0 := hI.at k (by omega)
          have d1 := hI.at (k + 1) (by omega)
          have d2 := hI.cnt.frozenAt (k + 1)
          have hadd := curL_add (es := es) hkn
          have hpt := hI.put (k + 1) ((curL es n k)[k + 1]'(by omega) + (curL es n k)[k]'(by omega))
          rw [← hadd] at hpt
          have hy0 : 0 ≤ (curL es n k)[k]'(by omega) ∧ (curL es n k)[k]'(by omega) ≤ 1000000 := by
            rw [curL_get (by omega), if_pos (Nat.le_refl _)]
            have := offs_le es k
            omega
          have hy1 : 0 ≤ (curL es n k)[k + 1]'(by omega) ∧ (curL es n k)[k + 1]'(by omega) ≤ 1000000 := by
            rw [curL_get (by omega), if_neg (by omega)]
            have := List.countP_le_length (p := fun x : Ed => decide (x.t + 1 = ((k + 1 : Nat) : Int))) (l := es)
            omega
          generalize (curL es n k)[k]'(by omega) = y0 at *
          generalize (curL es n k)[k + 1]'(by omega) = y1 at *
          have Hpt := Lib.hid hpt
          clear hpt hI hadd
          go_wp2_with fail
          go_region
          all_goals go_wp2_with fail
          all_goals go_roundw
          case rel => exact ⟨k + 1, by omega, by go_num, Hpt.out.call (bel_drew _)⟩
          case measure => simp [intOf]; omega
        · obtain rfl : n = k := by omega
          have e3 := hI.g.cell 3
          have e1 := hI.g.cell 1
          have hzl := hI.g.lt
          go_wp2_with (at_make; first
            | (refine wpList_make_full _ rfl _ _ 27 rfl wr.heap.size 3 i1 (.int .i64 0) 1 Tryz.underlying27 hi1 hy0 hy1 .i64 .i64 _ _ es.length rfl rfl (by first | rfl | omega) (by first | rfl | omega) (by rw [hy2]; omega) (by unfold maxLen; omega) (Nat.le_refl _) ?_
               intro w3 hown3 hgrow3
               have hb3 : Below wr.heap.size wr w3 := Below.grown (Below.refl _ _) hgrow3 (Nat.le_refl _) (fun k e => (by cases e))
               replace e1 := keep0 hb3 e1
               replace e3 := keep0 hb3 e3
               have hgt := hb3.size)
            | (refine wpList_make_full _ rfl _ _ 46 rfl w3.heap.size 27 i0 (.slice none 0 0) 1 Tryz.underlying46 hi hz0 hz1 .i64 .i64 _ _ n rfl rfl (by first | rfl | omega) (by first | rfl | omega) (by rw [hz2]; omega) (by unfold maxLen; omega) (Nat.le_refl _) ?_
               intro w5 hown5 hgrow5))
          obtain ⟨tag2, hI2, hA⟩ : ∃ tag2, NInv w #[.slice aa la ca, .int .i64 n, .slice am lm cm, .slice ae es.length ce] n w3 tag2 (w.heap.size + 1) (curL es n n) ∧ ∃ cur, Own w3 w.heap.size tag2 2 wr.heap.size cur 3 ∧ es.length ≤ cur.size := by
            have ht : Turn w.heap.size tag (fun b => if b < wr.heap.size then tag b else 2) 9 wr w3 := { Turn.below (B := w.heap.size) (tag := tag) (k := 9) hb3 with tags := fun b hb => if_pos hb }
            refine ⟨_, hI.turn ht (by decide), ?_⟩
            have hR : Row w3 w.heap.size (fun b => if b < wr.heap.size then tag b else 2) 2 3 1 (.slice (some ⟨wr.heap.size, 0, none⟩) es.length es.length) es.length _ := Row.of_own (B' := wr.heap.size) hown3 hI.below.size (fun b hb _ => if_neg (by omega))
            rcases hR.2 with ⟨g, _⟩ | ⟨b, off, cap, cur, g1, g2, g3, g4, g5, _⟩
            · cases g
            · cases g1
              exact ⟨cur, g2, by omega⟩
          obtain ⟨tag3, hI3⟩ : ∃ tag3, FInv w #[.slice aa la ca, .int .i64 n, .slice am lm cm, .slice ae es.length ce] n es wr.heap.size w3.heap.size w5 tag3 (ivsA es wr.heap.size n 0) [] := by
            have hb5 : Below w3.heap.size w3 w5 := Below.grown (Below.refl _ _) hgrow5 (Nat.le_refl _) (fun k e => (by cases e))
            have ht : Turn w.heap.size tag2 (fun b => if b < w3.heap.size then tag2 b else 3) 9 w3 w5 := { Turn.below (B := w.heap.size) (tag := tag2) (k := 9) hb5 with tags := fun b hb => if_pos hb }
            obtain ⟨cur, g1, g2⟩ := hA
            refine ⟨_, hI2.turn ht (by decide), ?_, cur, g1.turn ht (by decide), g2, fun s hs j hj => by simp [inL] at hj⟩
            refine Row.of_own (B' := w3.heap.size) ?_ hI2.below.size (fun b hb _ => if_neg (by omega))
            have hv : ivsA es wr.heap.size n 0 = List.replicate n (.slice none 0 0) := by
              apply List.ext_getElem
              · simp [ivsA]
              · intro i h1 h2; simp [ivsA]
            rw [hv]
            simpa [Value.cells, toList_madeCells_one] using hown5
          clear hown3 hgrow3 hown5 hgrow5 e1 e3 hI hI2 hA hb3 hlt hkn hcl
          generalize wr.heap.size = A at *
          generalize w3.heap.size = O at *
          go_loopw [58] (fun j wr => ∃ (k : Nat), k ≤ n ∧ j = .int .i64 k ∧ FInv w #[.slice aa la ca, .int .i64 n, .slice am lm cm, .slice ae es.length ce] n es A O wr tag3 (ivsA es A n k) []) (fun j _ => n - (intOf j).toNat)
          case atStart => exact ⟨0, Nat.zero_le _, rfl, hI3⟩
          case round =>
            clear hI3
            obtain ⟨k, hk, rfl, hF⟩ := hrel
            by_cases hkn : k < n
            · have hcl := curL_len es n n
              have d0 := hF.inv.at k (by omega)
              have d1 := hF.inv.at (k + 1) (by omega)
              rw [curL_get (by omega), if_pos (by omega)] at d0 d1
              have d2 := hF.out.frozenAt k
              have d3 := hF.slot k hkn (v := .slice none 0 0) (by simp [ivsA, hkn])
              have hlo := offs_mono (es := es) (show k ≤ k + 1 by omega)
              have hhi := offs_le es (k + 1)
              have hpt := hF.put k (segV es A [] k)
              rw [← ivsA_next hkn] at hpt
              simp only [segV] at hpt
              generalize offs es k = lo at *
              generalize offs es (k + 1) = hi' at *
              have Hpt := Lib.hid hpt
              clear hpt hF
              by_cases he : hi' = lo
              · subst he
                go_wp2_with fail
                go_region
                all_goals go_wp2_with fail
                all_goals go_roundw
                case rel => exact ⟨k + 1, by omega, by go_num, by simpa [inL] using Hpt.out.call (bel_drew _)⟩
                case measure => simp [intOf]; omega
              · rw [if_neg he] at Hpt
                go_wp2_with fail
                go_region
                all_goals go_wp2_with fail
                all_goals go_roundw
                case rel => exact ⟨k + 1, by omega, by go_num, by simpa [inL, he] using Hpt.out.call (bel_drew _)⟩
                case measure => simp [intOf]; omega
            · obtain rfl : n = k := by omega
              rw [ivsA_all] at hF
              have e3 := hF.inv.g.cell 3
              have hzl := hF.inv.g.lt
              go_wp2_with fail
              clear e3
              go_loopw [83] (fun j wr => ∃ (k : Nat) (tag : Nat → Nat), k ≤ es.length ∧ j = .int .i64 k ∧ FInv w #[.slice aa la ca, .int .i64 n, .slice am lm cm, .slice ae es.length ce] n es A O wr tag (ivsB es A n (es.take k)) (es.take k)) (fun j _ => es.length - (intOf j).toNat)
              case atStart => exact ⟨0, _, Nat.zero_le _, rfl, hF⟩
              case round =>
                clear hF hzl
                obtain ⟨k, tag, hk, rfl, hF⟩ := hrel
                by_cases hlt : k < es.length
                · obtain ⟨b, off, rfl, c0, c1, c2⟩ := hre.at_edge k hlt
                  obtain ⟨hx2, hx3⟩ := Hit.out es[k] (List.getElem_mem hlt)
                  replace c0 := keep0 hF.inv.below c0
                  replace c1 := keep0 hF.inv.below c1
                  replace c2 := keep0 hF.inv.below c2
                  have hbl := World.block_lt_of_cell? wr _ c0
                  obtain ⟨t, ht⟩ := Int.eq_ofNat_of_zero_le hx2
                  have htn : t < n := by omega
                  have he : es = es.take k ++ es[k] :: es.drop (k + 1) := by rw [← List.drop_eq_getElem_cons hlt, List.take_append_drop]
                  have hroom := room_at he ht
                  have Ht := Lib.hid ht
                  have He := Lib.hid he
                  have hts := take_snoc es k hlt
                  have Hts := Lib.hid hts
                  clear hts he
                  rw [ht] at c2
                  clear ht hx2 hx3
                  have hF2 := hF.new (.cells #[.int .i64 es[k].f, .int .i64 es[k].e, .int .i64 t] 62) 5
                  have hOx := Own.new wr w.heap.size (tagUp tag wr.heap.size 5) 5 #[.int .i64 es[k].f, .int .i64 es[k].e, .int .i64 t] 62 hF.inv.below.size (tagUp_at _ _ _)
                  have hb2 : Below (wr.alloc (.cells #[.int .i64 es[k].f, .int .i64 es[k].e, .int .i64 t] 62)).heap.size _ ((wr.alloc (.cells #[.int .i64 es[k].f, .int .i64 es[k].e, .int .i64 t] 62)).alloc (.cells #[.int .i64 es[k].f] 3)).drew := (bel_alloc _ _).drew
                  have hF3 := hF2.call hb2
                  have hO3 := hOx.below hb2
                  obtain ⟨cur, g1, g2, g3⟩ := hF3.all
                  have hne : ¬ offs es (t + 1) = offs es t := by omega
                  have hle := offs_le es (t + 1)
                  have hiv : (ivsB es A n (es.take k))[t]? = some (.slice (some ⟨A, offs es t, none⟩) (inL (es.take k) t).length (offs es (t + 1) - offs es t)) := by rw [ivsB, List.getElem?_map, List.getElem?_range htn, Option.map_some, segV, if_neg hne]
                  have d0 := hF.slot t htn hiv
                  have hrl := hF.out.addr (by omega)
                  obtain ⟨_, _, _, e9, hrl, hrb, _⟩ := hrl
                  cases e9
                  have hrl' : w.heap.size < wr.heap.size := hF.inv.g.lt
                  have hu : ((wr.alloc (.cells #[.int .i64 es[k].f, .int .i64 es[k].e, .int .i64 t] 62)).alloc (.cells #[.int .i64 es[k].f] 3)).drew.cell? ⟨wr.heap.size + 1, 0, none⟩ = some (.int .i64 es[k].f) := by
                    have hnc := new_cells_at (w := wr.alloc (.cells #[.int .i64 es[k].f, .int .i64 es[k].e, .int .i64 t] 62)) (s := wr.heap.size + 1) [Value.int .i64 es[k].f] 3 (by simp) 0 _ rfl
                    simp only [Addr.add] at hnc
                    exact hnc
                  have hpush := fun w6 h6 h7 => hF3.push (wr' := w6) He.out Ht.out htn g2 g3 h6 h7 hne
                  generalize hlo : offs es t = lo at *
                  generalize hhi : offs es (t + 1) - lo = cp at *
                  generalize hm : (inL (es.take k) t).length = m at *
                  have Hpush := Lib.hid hpush
                  clear hpush
                  go_wp2_with fail
                  go_region_law (refine step_append_at rfl _ _ 27 rfl 3 i1 Tryz.underlying27 hi1 hy1 g1 lo m cp ⟨_, 0, none⟩ 1 (.int .i64 es[k].f) rfl rfl (by first | exact hu | simpa using hu) (by simp [Value.oneCell']) hroom (by omega) ?_; intro w6 ho6 ht6; have z2 : w6.cell? ⟨wr.heap.size, 2, none⟩ = some (.int .i64 t) := (hO3.turn ht6 (by omega)).cell 2; have z3 := (hF3.out.turn ht6 (by omega)).cellAt t (by omega); have z4 := (hF3.out.turn ht6 (by omega)).frozenAt t; rw [Nat.zero_add, hiv] at z3)
                  all_goals
                    have Hfin := Lib.hid (Hpush.out w6 ho6 ht6)
                    clear hF hF2 hF3 hOx hO3 d0 ho6 ht6 z2 z3 z4 Hpush g1 g3 hiv
                    go_wp2_with fail
                    go_roundw
                    case rel => exact ⟨k + 1, _, by omega, by go_num, by rw [Hts.out]; exact Hfin.out⟩
                    case measure => simp [intOf]; omega
                · obtain rfl : k = es.length := by omega
                  rw [List.take_length] at hF
                  go_wp2_with fail
                  go_ret
                  exact ⟨_, rfl, hF.post hl, hF.inv.below⟩
theorem cells_of {α : Type} {r : Rep α} (h1 : r.sz = 1) {s : Sig} : ∀ {cs : List Value} {xs : List α}, cs.length = xs.length → (∀ (i : Nat) (h : i < xs.length), ∃ v, cs[i]? = some v ∧ r.rd s [v] xs[i]) → Cells r s cs xs
 | [], [], _, _ => rfl
 | c :: cs, x :: xs, hl, h => by
  obtain ⟨v, h2, h3⟩ := h 0 (by simp)
  cases h2
  exact ⟨[c], cs, rfl, h3, cells_of h1 (by simpa using hl) fun i hi => by
   obtain ⟨v, h4, h5⟩ := h (i + 1) (by simpa using hi)
   exact ⟨v, by simpa using h4, by simpa using h5⟩⟩
 | [], x :: xs, hl, _ => by simp at hl
 | c :: cs, [], hl, _ => by simp at hl
def m_blocking_into (p0 : AutT) : Option (List (List Int)) :=
 if p0.2.2.2.length ≤ 1000000 ∧ 0 ≤ p0.2.1 ∧ p0.2.1 ≤ 1000000 ∧ (p0.2.2.2.all fun x => decide (0 ≤ x.2.2 ∧ x.2.2 < p0.2.1)) = true then
  some ((List.range p0.2.1.toNat).map (inL (p0.2.2.2.map toEd)))
 else none
theorem m_blocking_into_c {s : Sig} {p0 : AutT} {a1 : Option Addr} {c1 : Nat} {a2 : Option Addr} {c2 : Nat} {a3 : Option Addr} {c3 : Nat} {r : List (List Int)} (_h1 : RdL (rK .i64) s a1 c1 p0.1) (_h2 : RdL (rK .i64) s a2 c2 p0.2.2.1) (h3 : RdL rEd s a3 c3 p0.2.2.2) (hm : m_blocking_into p0 = some r) :
  Calls Tryz.prog 70 #[.agg #[.slice a1 p0.1.length c1, .int .i64 p0.2.1, .slice a2 p0.2.2.1.length c2, .slice a3 p0.2.2.2.length c3]] s.w (RetS No s fun v s' => ∃ (a4 : Option Addr) (c4 : Nat), v = .slice a4 r.length c4 ∧ RdL (rL (rK .i64)) s' a4 c4 r) := by
 unfold m_blocking_into at hm
 split at hm
 ·rename_i hc
  cases hm
  obtain ⟨g1, g2, g3, g4⟩ := hc
  obtain ⟨x1, n, x2, es⟩ := p0
  dsimp only at *
  obtain ⟨n, rfl⟩ : ∃ k : Nat, n = k := ⟨n.toNat, by omega⟩
  obtain ⟨ae, ce, e1, hre⟩ := h3.rdE
  rw [List.length_map] at e1
  cases e1
  have hcall := into_any a1 a2 a3 x1.length x2.length c1 c2 c3 n es.length (es.map toEd) s.w (by simp) hre (by simpa using g1) (by omega) (fun x hx => by
   obtain ⟨y, hy, rfl⟩ := List.mem_map.1 hx
   simpa [toEd] using List.all_eq_true.1 g4 y hy)
  refine hcall.mono fun en w' hh => ?_
  obtain ⟨u, rfl, ⟨O, ivs, rfl, hO, h6, h7⟩, hb⟩ := hh
  rw [Int.toNat_natCast]
  refine ⟨_, s.nw w', rfl, rfl, Sig.nw_mv hb, some ⟨O, 0, none⟩, n, by simp, ivs, by rw [List.length_map, List.length_range]; exact h6, fun ad e _ => by cases e; exact if_neg (Nat.not_lt.2 hO), ?_⟩
  refine cells_of rfl (by have := h6.hlen; simp; omega) fun i hi => ?_
  have hi' : i < n := by simpa using hi
  obtain ⟨a, c, h8, h9, h10⟩ := h7 i hi'
  refine ⟨_, h8, a, c, ?_, ints (inL (es.map toEd) i), ?_, fun ad e _ => if_neg (by have := h10 ad e; omega), ?_⟩
  ·simp
  ·rw [List.getElem_map, List.getElem_range]; exact h9
  ·simpa using ints_cells _
 ·cases hm
end Go.Proofs.YtfbapajcheammaaGreatDoor

namespace Go.Proofs.YtfbapajcheammaaGreatDoor
open Go Go.RowKit
theorem K1 {e : List (Nat × Value)} {t1 : Nat} {v1 : Value} (h1 : Env.get e t1 = some v1) : Kn e [(t1, v1)] := ⟨h1, trivial⟩
theorem K2 {e : List (Nat × Value)} {t1 : Nat} {v1 : Value} {t2 : Nat} {v2 : Value} (h1 : Env.get e t1 = some v1) (h2 : Env.get e t2 = some v2) : Kn e [(t1, v1), (t2, v2)] := ⟨h1, h2, trivial⟩
theorem K3 {e : List (Nat × Value)} {t1 : Nat} {v1 : Value} {t2 : Nat} {v2 : Value} {t3 : Nat} {v3 : Value} (h1 : Env.get e t1 = some v1) (h2 : Env.get e t2 = some v2) (h3 : Env.get e t3 = some v3) : Kn e [(t1, v1), (t2, v2), (t3, v3)] := ⟨h1, h2, h3, trivial⟩
theorem K4 {e : List (Nat × Value)} {t1 : Nat} {v1 : Value} {t2 : Nat} {v2 : Value} {t3 : Nat} {v3 : Value} {t4 : Nat} {v4 : Value} (h1 : Env.get e t1 = some v1) (h2 : Env.get e t2 = some v2) (h3 : Env.get e t3 = some v3) (h4 : Env.get e t4 = some v4) : Kn e [(t1, v1), (t2, v2), (t3, v3), (t4, v4)] := ⟨h1, h2, h3, h4, trivial⟩
abbrev G (D : Nat → Bool) (e : List (Nat × Value)) (k t : Nat) (v : Value) : Prop := D k = true → Env.get e t = some v
/-! Short names (press5.py). -/
theorem Y {ops : Array Oper} {e : List (Nat × Value)} : Wt ops e none := trivial
theorem R {α : Sort _} {a : α} : a = a := rfl
theorem LN {Φ : Fr} {P : Program} {Q : Exit → Act → World → Prop} {n : Nat} {e : List (Nat × Value)} {w : World} {ops : Array Oper} {y : Code} (h : E Φ P Q n y e w) : L Φ P (Exit.then (y.wpIn Φ.f 2 P Q) Q) n ops [] e w := L.nil (X.seqN h)
theorem ER {Φ : Fr} {P : Program} {Q : Exit → Act → World → Prop} {n : Nat} {e : List (Nat × Value)} {w : World} {y : Code} {id : Nat} {l : List Oper} (h : L Φ P (Exit.then (y.wpIn Φ.f 2 P Q) Q) n l.toArray l e w) : E Φ P Q n (.seq (.region id l.toArray false) y) e w := E.seq (E.reg h)
theorem oi {α : Type} {a b : α} (h : some a = some b) : a = b := Option.some.inj h
theorem Mv.z {s s' : Sig} (m : Mv No s s') : Le s s' := m.le no_No
theorem Kn.g {Φ : Fr} {P : Program} {Q : Exit → Act → World → Prop} {n : Nat} {e ps : List (Nat × Value)} {w : World} {ops : Array Oper} {os : List Oper} (h : Kn e ps) (h2 : L Φ P Q n ops os (ps ++ e) w) : L Φ P Q n ops os e w := L.kns ps h h2
theorem tq {N i j : Nat} (h : Nat.beq i j = false) : ¬ One (N + i) (N + j) := tgN h
theorem nb {i j : Nat} (h : Nat.ble i j = true) : i ≤ j := Nat.le_of_ble_eq_true h
abbrev qI := rK .i64
abbrev qT := rP qI (rP qI qI)
end Go.Proofs.YtfbapajcheammaaGreatDoor

namespace Go.Proofs.YtfbapajcheammaaGreatDoor
open Go Go.RowKit

def Yd (P : Program) (l N : Nat) (enc : Nat → List Value) (J : Nat → Sig → Prop) : Prop :=
 ∀ k, k < N → ∀ s, J k s → YieldAt Fence.wide 2 P l (enc k).toArray s.w fun e W' => e = .returned (.bool true) ∧ ∃ s', W' = s'.w ∧ Le s s' ∧ J (k + 1) s'
def FI (P : Program) (s : Sig) (v : Value) (N : Nat) (enc : Nat → List Value) : Prop :=
 ∃ gf lb, v = .func (.func gf) #[] lb ∧ Cf P gf ∧ ∀ (l : Nat) (J : Nat → Sig → Prop) (s1 : Sig), Le s s1 → (∀ k a b, J k a → Mv No a b → J k b) → Yd P l N enc J → J 0 s1 →
  Calls P gf (#[.func (.yield l) #[] #[]] ++ lb) s1.w fun e W' => (∃ v, e = .returned v) ∧ ∃ s2, W' = s2.w ∧ J N s2
def Lf (s0 s : Sig) : Prop := Le s0 s
theorem Lf.mono {s0 s s' : Sig} (h : Lf s0 s) (m : Le s s') : Lf s0 s' := Le.trans h m
structure Rc (s : Sig) (t u D : Nat) (r : Loop) : Prop where
 lp : s.w.heap[D + 1]? = some (.loop r)
 mark : s.w.heap[D]? = some (.deferred (some []))
 tr : s.tag (D + 1) = t
 tm : s.tag D = u
theorem Rc.mv {S : Nat → Prop} {s s' : Sig} {t u D : Nat} {r : Loop} (h : Rc s t u D r) (m : Mv S s s') (hn : ¬ S t) (hu : ¬ S u) : Rc s' t u D r := by
 obtain ⟨g1, g2⟩ := m.blk (D + 1) (Array.getElem?_eq_some_iff.1 h.lp).1 (by rw [h.tr]; exact hn)
 obtain ⟨g3, g4⟩ := m.blk D (Array.getElem?_eq_some_iff.1 h.mark).1 (by rw [h.tm]; exact hu)
 exact ⟨g1.trans h.lp, g3.trans h.mark, g2.trans h.tr, g4.trans h.tm⟩
structure Mk (s : Sig) (t D : Nat) : Prop where
 mark : s.w.heap[D]? = some (.deferred (some []))
 tm : s.tag D = t
theorem Rc.put {s : Sig} {t u D : Nat} {r : Loop} (h : Rc s t u D r) (r' : Loop) : Mv (One t) s ⟨s.w.putObj (D + 1) (.loop r'), s.tag⟩ ∧ Rc ⟨s.w.putObj (D + 1) (.loop r'), s.tag⟩ t u D r' := by
 have hl := (Array.getElem?_eq_some_iff.1 h.lp).1
 refine ⟨⟨rfl, rfl, rfl, by simp [World.putObj], fun b hb hn => ⟨World.putObj_heap_other fun e => hn ?_, rfl⟩⟩, ⟨World.putObj_heap_same hl, (World.putObj_heap_other (by omega)).trans h.mark, h.tr, h.tm⟩⟩
 subst e; exact h.tr
def Env.zp : List Nat → List Value → List (Nat × Value) → List (Nat × Value)
 | p :: ps, v :: vs, e => Env.zp ps vs ((p, v) :: e)
 | _, _, e => e
theorem Fits.zp {Φ : Fr} {n : Nat} : ∀ {ps : List Nat} {vs : List Value} {e : List (Nat × Value)} {a : Act}, (∀ p ∈ ps, p < n) → Fits Φ n e a →
  Fits Φ n (Env.zp ps vs e) { a with tmps := (ps.zip vs).foldl (fun t (p, v) => t.setIfInBounds p v) a.tmps }
 | [], _, _, _, _, h => by simpa [Env.zp] using h
 | _ :: _, [], _, _, _, h => by simpa [Env.zp] using h
 | p :: ps, v :: vs, e, a, hp, h => by
  have := Fits.zp (ps := ps) (vs := vs) (fun q hq => hp q (List.mem_cons_of_mem _ hq)) (h.put (d := p) (by simpa using hp p (List.mem_cons_self ..)) v)
  simpa [Env.zp, Act.put] using this
def RQ (K : Sig → Prop) : Exit → Act → World → Prop
 | .normal, _, W => ∃ c : Sig, W = c.w ∧ K c
 | _, _, _ => False
def RB (Φ : Fr) (P : Program) (l : Nat) (body : Code) (K : Sig → Prop) (a : Act) (w : World) : Prop := ∃ w₂, (Instr.beginRound l).run P w = .ok () w₂ ∧ body.wpIn Φ.f 2 P (RQ K) a w₂
theorem X.beg {Φ : Fr} {P : Program} {n t u D : Nat} {r : Loop} {body : Code} {K : Sig → Prop} {e : List (Nat × Value)} {s : Sig} (h : Rc s t u D r) (hr : r.state = .ready)
  (hb : ∀ s', Mv (One t) s s' → Rc s' t u D { r with state := .busy } → E Φ P (RQ K) n body e s'.w) : X Φ (Exit.then (RB Φ P (D + 1) body K) (fun _ _ _ => False)) n .normal e s.w := fun a ha =>
 ⟨_, run_beginRound h.lp hr, hb _ (h.put _).1 (h.put _).2 a ha⟩
theorem X.rnd {Φ : Fr} {n : Nat} {K : Sig → Prop} {e : List (Nat × Value)} {s : Sig} (h : K s) : X Φ (RQ K) n .normal e s.w := fun _ _ => ⟨s, rfl, h⟩
theorem E.range {ds : List Deferred} {P : Program} {Q : Exit → Act → World → Prop} {n : Nat} {e : List (Nat × Value)} {s : Sig} {g : Operand} {ps : Array Tmp} {assign body : Code} {v : Value} {N : Nat} {enc : Nat → List Value} (t u : Nat) (ht : t ≠ 0) (htu : t ≠ u)
  (J : Nat → Sig → Prop) (hg : Env.ev e g = some v) (hit : FI P s v N enc) (hps : ∀ k, (enc k).length = ps.size) (hpn : ∀ p ∈ ps.toList, p < n) (h0 : J 0 s)
  (hbody : ∀ (k D : Nat) (r : Loop) (a b : Sig), k < N → J k a → Mv (One t) a b → Rc b t u D r → r.state = .ready →
   E ⟨some (D + 1), []⟩ P (Exit.then (RB ⟨some (D + 1), []⟩ P (D + 1) body (fun c => J (k + 1) c ∧ Rc c t u D { r with state := .busy } ∧ Le b c)) (fun _ _ _ => False)) n assign (Env.zp ps.toList (enc k) e) b.w)
  (hend : ∀ (D : Nat) (a b : Sig), s.w.heap.size ≤ D → J N a → Mv (One t) a b → Mk b u D → X ⟨none, mark D :: ds⟩ Q n .normal e b.w) : E ⟨none, ds⟩ P Q n (.rangeFunc g ps assign body) e s.w := by
 obtain ⟨gf, lb, rfl, hcf, hit⟩ := hit
 intro ac ha
 refine wpIn_rangeFunc ?_
 intro fn _
 obtain ⟨r0, hr0⟩ : ∃ r0 : Loop, r0 = { state := .ready, pending := none, fn, tmps := ac.tmps, params := ps, assign, body, defers := s.w.heap.size } := ⟨_, rfl⟩
 obtain ⟨W1, hW1⟩ : ∃ W1, (s.w.alloc (.deferred (some []))).alloc (.loop r0) = W1 := ⟨_, rfl⟩
 have hsz : (s.w.alloc (.deferred (some []))).heap.size = s.w.heap.size + 1 := World.size_alloc _ _
 have hL1 : W1.heap[s.w.heap.size + 1]? = some (.loop r0) := by
  rw [← hW1]; have := World.alloc_heap_new (s.w.alloc (.deferred (some []))) (.loop r0); rwa [World.size_alloc] at this
 have hK1 : W1.heap[s.w.heap.size]? = some (.deferred (some [])) := by
  rw [← hW1]; exact (Below.heap_alloc _ _ _ (by simp)).trans (World.alloc_heap_new s.w _)
 have hb1 : Below s.w.heap.size s.w W1 := by
  rw [← hW1]; exact ((Below.refl _ s.w).alloc (Nat.le_refl _) _).alloc (by simp) _
 obtain ⟨tg, htg⟩ : ∃ tg : Nat → Nat, tg = fun b => if b < s.w.heap.size then s.tag b else if b = s.w.heap.size then u else t := ⟨_, rfl⟩
 have hm1 : Mv No s ⟨W1, tg⟩ := Below.mv hb1 fun b hb => by rw [htg]; exact if_pos hb
 have hRc1 : Rc ⟨W1, tg⟩ t u s.w.heap.size r0 := ⟨hL1, hK1, by rw [htg]; exact (if_neg (by omega)).trans (if_neg (by omega)), by rw [htg]; exact (if_neg (by omega)).trans (if_pos rfl)⟩
 have hev : ac.eval g = .func (.func gf) #[] lb := ha.ev hg
 refine ⟨s.w.heap.size + 1, [{ target := .collected s.w.heap.size, args := #[] }], W1, { target := .fn (.func gf) lb, args := #[.func (.yield (s.w.heap.size + 1)) #[] #[]] }, W1, gf,
  #[.func (.yield (s.w.heap.size + 1)) #[] #[]] ++ lb, W1, ?_, ?_, ?_, ?_, fun e => (by cases e), ?_⟩
 ·rw [← hW1, hr0]; exact run_enterLoop_outer _ _ _ _ _
 ·simp only [resolve, hev]
  simp [go_sem]
 ·intro f' _; trivial
 ·have := hcf (#[.func (.yield (s.w.heap.size + 1)) #[] #[]] ++ lb) W1
  simp [invoke, go_sem] at this ⊢
  exact this
 ·obtain ⟨J', hJ'⟩ : ∃ J' : Nat → Sig → Prop, J' = fun k b => (∃ a, J k a ∧ Mv (One t) a b) ∧ Rc b t u s.w.heap.size r0 := ⟨_, rfl⟩
  have h := hit (s.w.heap.size + 1) J' ⟨W1, tg⟩ (hm1.le no_No) (by
   intro k a b hk hm
   rw [hJ'] at hk ⊢
   obtain ⟨⟨a0, h1, h2⟩, h3⟩ := hk
   exact ⟨⟨a0, h1, h2.trans hm.no⟩, h3.mv hm no_No no_No⟩) (by
   intro k hkN a hk
   rw [hJ'] at hk ⊢
   obtain ⟨⟨a0, h1, h2⟩, h3⟩ := hk
   have hy := run_yield (P := P) (args := (enc k).toArray) h3.lp (by rw [hr0]; simpa using hps k)
   rw [hr0] at hy
   refine ⟨fn, _, assign, body, hy, roundIn_of_wpIn trivial ?_⟩
   have hf0 : Fits ⟨some (s.w.heap.size + 1), []⟩ n e { tmps := ac.tmps, defers := [] } := ⟨ha.size, rfl, ha.has⟩
   have hf := hf0.zp (ps := ps.toList) (vs := enc k) hpn
   have hfold : (Array.zip ps (enc k).toArray).foldl (fun t (x : Tmp × Value) => t.setIfInBounds x.1 x.2) ac.tmps = (ps.toList.zip (enc k)).foldl (fun t (x : Nat × Value) => t.setIfInBounds x.1 x.2) ac.tmps := by
    rw [← Array.foldl_toList, Array.toList_zip]
   have hb := hbody k s.w.heap.size r0 a0 a hkN h1 h2 h3 (by rw [hr0]) _ hf
   rw [← hfold] at hb
   refine wpIn_mono hb fun ex a1 w1 hq => ?_
   cases ex <;> first | exact hq | skip
   obtain ⟨w2, hq1, hq2⟩ := hq
   refine ⟨w2, hq1, wpIn_mono hq2 fun ex a3 w3 hq => ?_⟩
   cases ex <;> first | exact hq.elim | skip
   obtain ⟨c, rfl, hJc, hRc, hle⟩ := hq
   obtain ⟨g1, g2⟩ := hRc.put r0
   have hend := run_endRound (P := P) none hRc.lp
   refine ⟨_, _, hend, rfl, ⟨c.w.putObj (s.w.heap.size + 1) (.loop r0), c.tag⟩, ?_, hle.trans (g1.le (Ne.symm ht)), ⟨c, hJc, g1⟩, g2⟩
   rw [hr0]; rfl) (by
   rw [hJ']
   exact ⟨⟨s, h0, hm1.no⟩, hRc1⟩)
  refine (callsIn_wide (n := 1)).2 (h.mono ?_)
  rintro en W2 ⟨⟨vv, rfl⟩, s2, rfl, h5⟩
  rw [hJ'] at h5
  obtain ⟨⟨a0, h1, h2⟩, h3⟩ := h5
  obtain ⟨g1, g2⟩ := h3.put { r0 with state := .exhausted, pending := none }
  have hen := run_endLoop (P := P) h3.lp (by rw [hr0]; simp)
  rw [show r0.pending = none by rw [hr0]] at hen
  refine ⟨none, _, hen, ?_⟩
  refine hend s.w.heap.size a0 _ (Nat.le_refl _) h1 (h2.trans g1) ⟨g2.mark, g2.tm⟩ _ ?_
  exact ⟨ha.size, by rw [← show ac.defers = ds from ha.defers]; rfl, ha.has⟩

theorem L.opIn {Φ : Fr} {P : Program} {Q : Exit → Act → World → Prop} {n : Nat} {e : List (Nat × Value)} {w : World} {ops : Array Oper} {os : List Oper} {o : Oper} (hw : Wt ops e o.guard) (h : ∀ a, Fits Φ n e a → ∀ K : Act → World → Prop, (∀ e' a' w', Fits Φ n e' a' → L Φ P Q n ops os e' w' → K a' w') → o.wpIn Φ.f 2 P a w K Q) : L Φ P Q n ops (o :: os) e w := fun is his a ha => by
 cases is with
 | nil => cases his
 | cons i rest =>
  simp only [List.map_cons, List.cons.injEq] at his
  obtain ⟨h1, h2⟩ := his
  simp only [wpOpsIn, h1]
  rw [if_pos (Wt.wanted ha hw)]
  exact h a ha _ fun e' a' w' hf hl => hl rest h2 a' hf
theorem L.yd {P : Program} {Q : Exit → Act → World → Prop} {n : Nat} {e : List (Nat × Value)} {s : Sig} {ops : Array Oper} {os : List Oper} {d : Nat} {ty : TypeId} {pos : String} {af : Array Edge} {g : Option (Nat × Bool)} {c : Call} {x : Operand} {xs : List Operand} {l N k : Nat} {enc : Nat → List Value} {J : Nat → Sig → Prop}
  (hY : Yd P l N enc J) (hk : k < N) (hJ : J k s) (hc : c.callee = .value x) (hca : c.args = xs.toArray) (hw : Wt ops e g) (hx : Env.ev e x = some (.func (.yield l) #[] #[])) (hxs : Env.evs e xs = some (enc k)) (hd : Nat.blt d n = true)
  (h : ∀ s', Le s s' → J (k + 1) s' → L Fr.o P Q n ops os ((d, .bool true) :: e) s'.w) : L Fr.o P Q n ops (⟨some d, .call c, ty, pos, af, g⟩ :: os) e s.w :=
 L.opIn hw fun ac ha K hK => by
  obtain ⟨fn, tmps, assign, body, hy, hR⟩ := hY k hk s hJ
  refine ⟨fun _ _ => trivial, ?_⟩
  have h2 : c.args.map ac.eval = (enc k).toArray := by rw [hca, List.map_toArray, ha.evs hxs]
  have h3 : ac.eval x = .func (.yield l) #[] #[] := ha.ev hx
  have hrun : (Oper.semAt Fr.o.f.round ac.eval ⟨some d, .call c, ty, pos, af, g⟩).run P s.w = .ok (.round l fn tmps assign body) s.w := by
   show (execOp ac.eval ⟨some d, .call c, ty, pos, af, g⟩).run P s.w = _
   simp [execOp, resolve, hc, h2, h3, Deferred.ofValue, invoke, hy]
  rw [hrun]
  refine ⟨fun e => (by cases e), ?_⟩
  have hR1 : RoundIn Fr.o.f (2 - 1) P l fn tmps assign body s.w fun e W' => e = .returned (.bool true) ∧ ∃ s', W' = s'.w ∧ Le s s' ∧ J (k + 1) s' := ⟨trivial, fun c cs hr => hR.2 c cs (fun d hd => by cases hd)⟩
  refine hR1.mono ?_
  rintro en W' ⟨rfl, s', rfl, hle, hJ'⟩
  exact hK _ _ _ (ha.put hd (.bool true)) (h s' hle hJ')

def rngF {S : Type} (f : Nat → S → Option S) : Nat → Nat → S → Option S
 | 0, _, s => some s
 | m + 1, k, s => (f k s).bind (rngF f m (k + 1))
theorem rng_step {S : Type} {f : Nat → S → Option S} {N k : Nat} {s o : S} (hk : k < N) (h : rngF f (N - k) k s = some o) : ∃ s', f k s = some s' ∧ rngF f (N - (k + 1)) (k + 1) s' = some o := by
 rw [show N - k = (N - (k + 1)) + 1 by omega, rngF] at h
 exact Option.bind_eq_some_iff.1 h
theorem rng_end {S : Type} {f : Nat → S → Option S} {N : Nat} {s o : S} (h : rngF f (N - N) N s = some o) : s = o := by
 rw [Nat.sub_self, rngF] at h
 exact Option.some.inj h
def Mks (s : Sig) (t : Nat) (ds : List Deferred) : Prop := ∃ Ds : List Nat, ds = Ds.map mark ∧ Ds.Nodup ∧ ∀ D ∈ Ds, s.w.heap[D]? = some (.deferred (some [])) ∧ s.tag D = t
theorem Mks.nil {s : Sig} {t : Nat} : Mks s t [] := ⟨[], rfl, List.nodup_nil, fun _ h => by cases h⟩
theorem Mks.mv {S : Nat → Prop} {s s' : Sig} {t : Nat} {ds : List Deferred} (h : Mks s t ds) (m : Mv S s s') (hn : ¬ S t) : Mks s' t ds := by
 obtain ⟨Ds, h1, h2, h3⟩ := h
 refine ⟨Ds, h1, h2, fun D hD => ?_⟩
 obtain ⟨g1, g2⟩ := h3 D hD
 obtain ⟨g3, g4⟩ := m.blk D (Array.getElem?_eq_some_iff.1 g1).1 (by rw [g2]; exact hn)
 exact ⟨g3.trans g1, g4.trans g2⟩
theorem Mks.old {s : Sig} {t : Nat} {ds : List Deferred} (h : Mks s t ds) : ∀ D, mark D ∈ ds → D < s.w.heap.size := by
 obtain ⟨Ds, rfl, _, h3⟩ := h
 intro D hD
 obtain ⟨D', h4, h5⟩ := List.mem_map.1 hD
 cases h5
 exact (Array.getElem?_eq_some_iff.1 (h3 _ h4).1).1
theorem Mks.cons {s : Sig} {t D N : Nat} {ds : List Deferred} (h : Mks s t ds) (ho : ∀ D, mark D ∈ ds → D < N) (hD : N ≤ D) (hk : Mk s t D) : Mks s t (mark D :: ds) := by
 obtain ⟨Ds, rfl, h2, h3⟩ := h
 refine ⟨D :: Ds, rfl, List.nodup_cons.2 ⟨fun hm => ?_, h2⟩, fun D' hD' => ?_⟩
 ·have := ho D (List.mem_map.2 ⟨D, hm, rfl⟩); omega
 ·rcases List.mem_cons.1 hD' with rfl | h4
  ·exact ⟨hk.mark, hk.tm⟩
  ·exact h3 D' h4
theorem leavesT {F : Fence} {n : Nat} {P : Program} {fn : Func} {tmps : Array Value} {R : Ending → World → Prop} {t : Nat} : ∀ (Ds : List Nat) (s : Sig), Ds.Nodup → (∀ D ∈ Ds, s.w.heap[D]? = some (.deferred (some [])) ∧ s.tag D = t) →
  (∀ s', Mv (One t) s s' → ∃ v, (results fn tmps).run P s'.w = .ok v s'.w ∧ R (.returned v) s'.w) → LeavesInM F n P fn tmps R (Ds.map mark) .returning s.w
 | [], s, _, _, hfin => hfin s (Mv.refl _ _)
 | D :: Ds, s, hnd, hD, hfin => by
  obtain ⟨hd, ht⟩ := hD D (List.mem_cons_self ..)
  have hm : Mv (One t) s ⟨s.w.putObj D (.deferred none), s.tag⟩ := by
   refine ⟨rfl, rfl, rfl, by simp [World.putObj], fun b hb hn => ⟨World.putObj_heap_other fun e => hn ?_, rfl⟩⟩
   subst e; exact ht
  refine ⟨by simp, .inl ⟨D, _, rfl, run_takeDeferred hd, leavesT Ds ⟨s.w.putObj D (.deferred none), s.tag⟩ (List.nodup_cons.1 hnd).2 (fun D' hD' => ⟨?_, (hD D' (List.mem_cons_of_mem _ hD')).2⟩) fun s' hs' => hfin s' (hm.trans hs')⟩⟩
  show (s.w.putObj D (.deferred none)).heap[D']? = _
  rw [World.putObj_heap_other ?_]
  ·exact (hD D' (List.mem_cons_of_mem _ hD')).1
  ·rintro rfl; exact (List.nodup_cons.1 hnd).1 hD'
theorem X.lv {P : Program} {fn : Func} {R : Ending → World → Prop} {n t : Nat} {e : List (Nat × Value)} {s : Sig} {ds : List Deferred} {x : Exit} (hx : x = .ret ∨ x = .normal) (hk : Mks s t ds) (h : ∀ s', Mv (One t) s s' → X Fr.o (bodyPost P fn R) n x e s'.w) :
  X ⟨none, ds⟩ (bodyPostM Fence.wide 4 P fn R) n x e s.w := fun a ha => by
 obtain ⟨Ds, rfl, h2, h3⟩ := hk
 have hl : LeavesInM Fence.wide 4 P fn a.tmps R (Ds.map mark) .returning s.w := leavesT Ds s h2 h3 fun s' hs' => by
  have := h s' hs' { a with defers := [] } ⟨ha.size, rfl, ha.has⟩
  rcases hx with rfl | rfl
  ·exact this.2
  ·exact this.2
 obtain ⟨tmps, dd⟩ := a
 obtain rfl : dd = Ds.map mark := ha.defers
 rcases hx with rfl | rfl
 ·exact hl
 ·exact hl
theorem E.entryM {P : Program} {f : FuncId} {fn : Func} {c : Code} {vs : List Value} {w : World} {R : Ending → World → Prop} {n : Nat} {e : List (Nat × Value)} (hf : P.funcs[f]? = some fn) (hb : fn.body = some c) (hn : fn.ntmps = n) (hv : Nat.ble vs.length n = true) (he : Env.ofArgs 0 vs = e)
  (h : E Fr.o P (bodyPostM Fence.wide 4 P fn R) n c e w) : Calls P f vs.toArray w R := by
 subst hn
 subst he
 have hv' : vs.length ≤ fn.ntmps := Nat.le_of_ble_eq_true hv
 refine calls_of_marks hf hb ((wpIn_wide (n := 2)).1 (h _ ⟨by simp; omega, rfl, fun d v hg => ?_⟩))
 obtain ⟨_, h2⟩ := Env.get_ofArgs hg
 have hl := (List.getElem?_eq_some_iff.1 h2).1
 rw [Nat.sub_zero] at h2 hl
 rw [Array.getElem?_append_left (by simpa using hl)]
 simpa using h2
section
variable {r : Option Nat} {ds0 : List Deferred} {P : Program} {Q : Exit → Act → World → Prop} {n : Nat} {e e' : List (Nat × Value)} {w : World}
theorem E.seqJM {x y : Code} (J : List (Nat × Value) → World → List Deferred → Prop) (hy : ∀ e w ds, J e w ds → E ⟨r, ds⟩ P Q n y e w)
  (h : (∀ e w ds, J e w ds → X ⟨r, ds⟩ (Exit.then (y.wpIn (Fr.f ⟨r, ds0⟩) 2 P Q) Q) n .normal e w) → E ⟨r, ds0⟩ P (Exit.then (y.wpIn (Fr.f ⟨r, ds0⟩) 2 P Q) Q) n x e w) : E ⟨r, ds0⟩ P Q n (.seq x y) e w :=
 E.seq (h fun e w ds hj => X.seqN (hy e w ds hj))
theorem E.cutM {x : Exit} {c : Code} (J : List (Nat × Value) → World → List Deferred → Prop) (hj : ∀ e w ds, J e w ds → X ⟨r, ds⟩ Q n x e w) (h : (∀ e w ds, J e w ds → X ⟨r, ds⟩ Q n x e w) → E ⟨r, ds0⟩ P Q n c e w) : E ⟨r, ds0⟩ P Q n c e w := h hj
theorem EiterM {S O : Type} {f : S → Option (S ⊕ O)} {o : O} {st0 : S} {c : Code} (I : S → List (Nat × Value) → World → List Deferred → Prop) (hi : iter f st0 = some o) (h0 : I st0 e' w ds0) (hs : Sub e' e)
  (round : ∀ st res, f st = some res → (∀ st', res = .inl st' → ∀ e w ds, I st' e w ds → X ⟨r, ds⟩ (Exit.then (LW ⟨r, []⟩ P Q c) Q) n .normal e w) → (∀ o', res = .inr o' → o' = o) → ∀ e w ds, I st e w ds → E ⟨r, ds⟩ P (Exit.then (LW ⟨r, []⟩ P Q c) Q) n c e w) : E ⟨r, ds0⟩ P Q n (.loop c) e w := by
 refine E.loop (H.sub hs ?_)
 exact Iter.ind (motive := fun st => ∀ e w ds, I st e w ds → H ⟨r, ds⟩ P Q n c e w) (fun st res h1 h2 h3 e w ds hI => H.round (Φ := ⟨r, ds⟩) (round st res h1 (fun st' e' e w ds hI => X.again (h2 st' e' e w ds hI)) h3 e w ds hI)) (iter_some hi) _ _ _ h0
end
end Go.Proofs.YtfbapajcheammaaGreatDoor

namespace Go.Proofs.YtfbapajcheammaaGreatDoor
open Go Go.RowKit
theorem bwNi : NAg Tryz.prog 27 := NAg.mk' Tryz.underlying27 rfl (by kernel_rfl)
theorem bwNn : NAg Tryz.prog 3 := NAg.mk' Tryz.underlying3 rfl (by kernel_rfl)
theorem bwSi : Sl Tryz.prog 27 3 1 := Sl.mk' Tryz.underlying27 (by kernel_rfl)
theorem bwCf : Cf Tryz.prog 87 := Cf.mk Tryz.func87 (by kernel_rfl) (by kernel_rfl)
def encB (x : Int × Int) : List Value := [.int .i64 x.1, .int .i64 x.2]
def m_slices_Backward_int (p0 : List Int) : Option (List (Int × Int)) := if p0.length ≤ 4294967296 then some ((List.range p0.length).map fun k => (((p0.length - 1 - k : Nat) : Int), p0.getD (p0.length - 1 - k) 0)) else none
theorem backward1_fi {s : Sig} {q0 : List Int} {r : List (Int × Int)} {a1 : Option Addr} {c1 : Nat} {b2 : Nat} (h1 : RdL (rK .i64) s a1 c1 q0) (bx2 : Bx s 0 b2 #[.slice a1 q0.length c1] 27) (hr : m_slices_Backward_int q0 = some r) :
    FI Tryz.prog s (.func (.func 87) #[] #[.pointer (some ⟨b2, 0, none⟩)]) r.length (fun k => encB (r.getD k (0, 0))) := by
 obtain ⟨hlen, rfl⟩ : q0.length ≤ 4294967296 ∧ (List.range q0.length).map (fun k => (((q0.length - 1 - k : Nat) : Int), q0.getD (q0.length - 1 - k) 0)) = r := by
  unfold m_slices_Backward_int at hr
  split at hr
  · exact ⟨by assumption, Option.some.inj hr⟩
  · cases hr
 have hrl : ((List.range q0.length).map fun k => (((q0.length - 1 - k : Nat) : Int), q0.getD (q0.length - 1 - k) 0)).length = q0.length := by rw [List.length_map, List.length_range]
 have hrg : ∀ k, k < q0.length → ((List.range q0.length).map fun k => (((q0.length - 1 - k : Nat) : Int), q0.getD (q0.length - 1 - k) 0)).getD k (0, 0) = (((q0.length - 1 - k : Nat) : Int), q0.getD (q0.length - 1 - k) 0) := fun k hk => by
  rw [List.getD_eq_getElem?_getD, List.getElem?_map, List.getElem?_range hk]; rfl
 generalize ((List.range q0.length).map fun k => (((q0.length - 1 - k : Nat) : Int), q0.getD (q0.length - 1 - k) 0)) = r at hrl hrg
 rw [hrl]
 refine ⟨87, #[.pointer (some ⟨b2, 0, none⟩)], rfl, bwCf, fun l J s1 hle hcl hY h0 => ?_⟩
 replace h1 := h1.mono hle
 replace bx2 := bx2.le hle
 obtain ⟨f, hf⟩ : ∃ f : Int → Option (Int ⊕ Unit), f = fun i => if decide (i ≥ 0) then some (.inl (W (i - 1))) else some (.inr ()) := ⟨_, rfl⟩
 have hW : ∀ i : Nat, i ≤ q0.length → W ((q0.length : Int) - (i : Int) - 1) = (q0.length : Int) - ((i + 1 : Nat) : Int) := fun i hi => by rw [show W ((q0.length : Int) - (i : Int) - 1) = (q0.length : Int) - (i : Int) - 1 from IntWalk.i64_in _ (by omega)]; omega
 have hit : iter f ((q0.length : Int) - 1) = some () := by
  refine iter_run (fun i => (q0.length : Int) - ((i + 1 : Nat) : Int)) q0.length (by omega) (fun i hi => ?_) ?_
  · rw [hf]
    show (if decide ((q0.length : Int) - ((i + 1 : Nat) : Int) ≥ 0) then some (Sum.inl (W ((q0.length : Int) - ((i + 1 : Nat) : Int) - 1))) else some (Sum.inr ())) = some (Sum.inl ((q0.length : Int) - ((i + 1 + 1 : Nat) : Int)))
    rw [if_pos (by simp; omega), hW (i + 1) (by omega)]
  · rw [hf]
    show (if decide ((q0.length : Int) - ((q0.length + 1 : Nat) : Int) ≥ 0) then some (Sum.inl (W ((q0.length : Int) - ((q0.length + 1 : Nat) : Int) - 1))) else some (Sum.inr ())) = some (Sum.inr ())
    rw [if_neg (by simp; omega)]
 refine E.entry (vs := [.func (.yield l) #[] #[], .pointer (some ⟨b2, 0, none⟩)]) Tryz.func87 rfl Tryz.ntmps87 rfl rfl (E.seq (E.reg (L.ld (j := 0) bx2.mem bwNi Wt.no rfl rfl rfl rfl (L.len bwSi Wt.no rfl rfl (L.bi Wt.no rfl rfl rfl rfl (L.as Wt.no rfl rfl (L.nil (X.seqN (E.block ?_)))))))))
 have hW0 : W ((q0.length : Int) - 1) = (q0.length : Int) - 1 := by rw [show W ((q0.length : Int) - 1) = (q0.length : Int) - 1 from IntWalk.i64_in _ (by omega)]
 have hit2 : iter f (W ((q0.length : Int) - 1)) = some () := by rw [hW0]; exact hit
 refine E.cut (x := .exit 0) (fun e w => ∃ (s46 : Sig), J q0.length s46 ∧ e = [] ∧ w = s46.w) ?_ ?_
 · rintro _ _ ⟨s46, hJ, rfl, rfl⟩
   refine X.blkE ?_
   exact X.rt (.inr rfl) Tryz.results87 Rs.nil rfl ⟨⟨_, rfl⟩, s46, rfl, hJ⟩
 intro K47
 refine E.iter (fun (st43 : Int) (e : List (Nat × Value)) (w : World) => ∃ (k : Nat) (s44 : Sig), st43 = (q0.length : Int) - ((k + 1 : Nat) : Int) ∧ k ≤ q0.length ∧ J k s44 ∧ RdL (rK .i64) s44 a1 c1 q0 ∧ Bx s44 0 b2 #[.slice a1 q0.length c1] 27 ∧ e = [(3, .int .i64 st43), (0, .func (.yield l) #[] #[]), (1, .pointer (some ⟨b2, 0, none⟩))] ∧ w = s44.w) hit2 ⟨0, s1, hW0, Nat.zero_le _, h0, h1, bx2, rfl, rfl⟩ (Sub.rf rfl) ?_
 rintro st43 res43 hm ih43 ho43 _ _ ⟨k, s44, rfl, hk, hJ, h1, bx2, rfl, rfl⟩
 rw [hf] at hm
 refine E.seq (E.seq (E.reg (L.mv Wt.no rfl rfl (L.bi Wt.no rfl rfl rfl rfl (L.nil (X.seqN ?_))))))
 rcases ifS hm with ⟨hc, hm⟩ | ⟨hc, hm⟩
 · have hk2 : k < q0.length := by simp at hc; omega
   have hn1 : (q0.length : Int) - ((k + 1 : Nat) : Int) = ((q0.length - 1 - k : Nat) : Int) := by omega
   have hlt : q0.length - 1 - k < q0.length := by omega
   have ex18 : idx q0 ((q0.length : Int) - ((k + 1 : Nat) : Int)) = some q0[q0.length - 1 - k] := by rw [hn1, idx_nat, List.getElem?_eq_getElem hlt]
   have hgd : q0.getD (q0.length - 1 - k) 0 = q0[q0.length - 1 - k] := by rw [List.getD_eq_getElem?_getD, List.getElem?_eq_getElem hlt]; rfl
   have henc : [Value.int .i64 ((q0.length : Int) - ((k + 1 : Nat) : Int)), Value.int .i64 q0[q0.length - 1 - k]] = encB (r.getD k (0, 0)) := by rw [hrg k hk2, hgd, hn1]; rfl
   generalize q0[q0.length - 1 - k] = x18 at ex18 henc
   refine E.cT rfl hc (E.skip (X.seqN (E.seq (E.block (E.seq (E.reg (L.mv Wt.no rfl rfl (L.mv Wt.no rfl rfl (L.ld (j := 0) bx2.mem bwNi Wt.no rfl rfl rfl rfl (L.mv Wt.no rfl rfl ?_))))))))))
   refine L.ix (r := (rK .i64)) bwSi h1 Wt.no rfl rfl ex18 rfl ?_
   rintro b19 o19 cc19 me19 rd19
   obtain rfl := rd19
   refine L.ld (j := 0) me19 bwNn Wt.no rfl rfl rfl rfl ?_
   refine L.yd (x := .tmp 11) (xs := [.tmp 12, .tmp 16]) hY hk2 hJ rfl rfl Wt.no rfl (by rw [← henc]; rfl) rfl fun s59 hle59 hJ => ?_
   have h1 := h1.mono hle59
   have bx2 := bx2.le hle59
   refine L.not Wt.no rfl rfl (L.nil (X.seqN (E.cF rfl rfl (E.skip (X.blkN (X.seqN (E.reg (L.mv Wt.no rfl rfl (L.bi Wt.no rfl rfl rfl rfl (L.as Wt.no rfl rfl (L.nil (X.sub (ih43 _ (Option.some.inj hm).symm _ _ ⟨k + 1, s59, ?_, hk2, hJ, h1, bx2, rfl, rfl⟩) (Sub.rf rfl)))))))))))))
   exact hW (k + 1) (by omega)
 refine E.cF rfl hc (E.exit (X.seqX (X.seqX ?_)))
 have hkl : k = q0.length := by simp at hc; omega
 subst hkl
 exact X.sub (K47 _ _ ⟨s44, hJ, rfl, rfl⟩) Sub.nil
theorem m_slices_Backward_int_c {s : Sig} {p0 : List Int} {a1 : Option Addr} {c1 : Nat} {r : List (Int × Int)} (h1 : RdL (rK .i64) s a1 c1 p0) (hm : m_slices_Backward_int p0 = some r) :
    Calls Tryz.prog 55 #[.slice a1 p0.length c1] s.w (RetS No s fun v s' => FI Tryz.prog s' v r.length (fun k => encB (r.getD k (0, 0)))) := by
 obtain ⟨N, hN, hNb⟩ := s.fresh
 have m0 : Mv (Up N No) s s := Mv.refl _ _
 refine E.entry (vs := [.slice a1 p0.length c1]) Tryz.func55 rfl Tryz.ntmps55 rfl rfl (E.seq (E.reg (L.box (N + 0) Wt.no rfl rfl rfl fun b1 s2 m3 bx1 => ?_)))
 replace m0 := m0.trans m3.no
 replace h1 := h1.mono (m3.le no_No)
 refine L.as Wt.no rfl rfl (L.nil (X.seqN (E.seq (E.reg (L.mf Wt.no rfl rfl rfl (L.as Wt.no rfl rfl (L.nil (X.seqN (E.ret ?_)))))))))
 refine X.rt (.inl rfl) Tryz.results55 (Rs.tmp rfl Rs.nil) rfl ⟨_, s2.ren N (fun _ => 0), rfl, rfl, m0.ren hNb, ?_⟩
 have hr : ∀ {k b : Nat} {cs : Array Value} {T : TypeId}, Bx s2 (N + k) b cs T → Bx (s2.ren N (fun _ => 0)) 0 b cs T := fun h => ⟨h.heap, by simp [Sig.ren, h.htag]⟩
 exact backward1_fi (h1.ren hN) (hr bx1) hm
end Go.Proofs.YtfbapajcheammaaGreatDoor

