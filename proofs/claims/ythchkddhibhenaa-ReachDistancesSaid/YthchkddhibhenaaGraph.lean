/- The contract of newGraph. -/
import Derived.Test.YthchkddhibhenaaClone
import Derived.Test.YthchkddhibhenaaRow
import Derived.Deep.DeepCutAuto
namespace Go.Proofs.Ythchkddhibhenaa
open Go.RowKit

/-- After the first loop: how many edges begin just before s. -/
def cnt1 (n : Nat) (es : List Ed) : List Int := (List.range (n + 1)).map fun (s : Nat) => ((es.countP fun x => decide (x.f + 1 = (s : Int)) : Nat) : Int)
/-- Where the edges of each state begin. -/
def firsts (n : Nat) (es : List Ed) : List Int := (List.range (n + 1)).map fun (s : Nat) => ((es.countP fun x => decide (x.f < (s : Int)) : Nat) : Int)
def cnt2 (n : Nat) (es : List Ed) (j : Nat) : List Int := (List.range (n + 1)).map fun (s : Nat) => if s ≤ j then ((es.countP fun x => decide (x.f < (s : Int)) : Nat) : Int) else ((es.countP fun x => decide (x.f + 1 = (s : Int)) : Nat) : Int)
theorem cnt1_length (n : Nat) (es : List Ed) : (cnt1 n es).length = n + 1 := by simp [cnt1]
theorem cnt2_length (n : Nat) (es : List Ed) (j : Nat) : (cnt2 n es j).length = n + 1 := by simp [cnt2]
theorem firsts_length (n : Nat) (es : List Ed) : (firsts n es).length = n + 1 := by simp [firsts]
theorem cnt1_nil (n : Nat) : ints (cnt1 n []) = List.replicate (n + 1) (.int .i64 0) := by
  apply List.ext_getElem
  · simp [cnt1]
  · intro i h1 h2; simp [cnt1]
theorem cnt1_snoc (n : Nat) (es : List Ed) (x : Ed) (h0 : 0 ≤ x.f) (h1 : x.f < n) : ∃ c : Int, 0 ≤ c ∧ c ≤ es.length ∧ (ints (cnt1 n es))[(x.f + 1).toNat]? = some (.int .i64 c) ∧ ints (cnt1 n (es ++ [x])) = (ints (cnt1 n es)).set (x.f + 1).toNat (.int .i64 (c + 1)) := by
  refine ⟨((es.countP fun y => decide (y.f + 1 = (((x.f + 1).toNat : Nat) : Int)) : Nat) : Int), by omega, by have := List.countP_le_length (p := fun y : Ed => decide (y.f + 1 = (((x.f + 1).toNat : Nat) : Int))) (l := es); omega, ?_, ?_⟩
  · rw [List.getElem?_map, cnt1, List.getElem?_map, List.getElem?_range (by omega)]; rfl
  · apply List.ext_getElem
    · simp [cnt1]
    · intro i g1 g2
      rw [List.getElem_set]
      simp only [cnt1, List.getElem_map, List.getElem_range, List.countP_append, List.countP_singleton]
      by_cases hi : (x.f + 1).toNat = i
      · rw [if_pos hi, hi]
        have : x.f + 1 = (i : Int) := by omega
        simp [this]
      · rw [if_neg hi]
        have : ¬ x.f + 1 = (i : Int) := by omega
        simp [this]
theorem cnt2_zero (n : Nat) (es : List Ed) (h : ∀ x ∈ es, 0 ≤ x.f) : cnt2 n es 0 = cnt1 n es := by
  apply List.map_congr_left
  intro s _
  split
  · have hs : s = 0 := by omega
    subst hs
    congr 1
    apply List.countP_congr
    intro x hx
    have := h x hx
    simp only [decide_eq_true_eq]
    constructor <;> intro <;> omega
  · rfl
theorem cnt2_last (n : Nat) (es : List Ed) : cnt2 n es n = firsts n es := by
  apply List.map_congr_left
  intro s hs
  rw [if_pos (by simp at hs; omega)]
theorem cnt2_step (n : Nat) (es : List Ed) (j : Nat) (hj : j < n) : ∃ c d : Int, 0 ≤ c ∧ 0 ≤ d ∧ c ≤ es.length ∧ d ≤ es.length ∧ (ints (cnt2 n es j))[j + 1]? = some (.int .i64 c) ∧ (ints (cnt2 n es j))[j]? = some (.int .i64 d) ∧ ints (cnt2 n es (j + 1)) = (ints (cnt2 n es j)).set (j + 1) (.int .i64 (c + d)) := by
  refine ⟨((es.countP fun y => decide (y.f + 1 = ((j + 1 : Nat) : Int)) : Nat) : Int), ((es.countP fun y => decide (y.f < (j : Int)) : Nat) : Int), by omega, by omega, ?_, ?_, ?_, ?_, ?_⟩
  · have := List.countP_le_length (p := fun y : Ed => decide (y.f + 1 = ((j + 1 : Nat) : Int))) (l := es); omega
  · have := List.countP_le_length (p := fun y : Ed => decide (y.f < (j : Int))) (l := es); omega
  · rw [List.getElem?_map, cnt2, List.getElem?_map, List.getElem?_range (by omega)]
    simp only [Option.map_some]
    rw [if_neg (by omega)]
  · rw [List.getElem?_map, cnt2, List.getElem?_map, List.getElem?_range (by omega)]
    simp
  · apply List.ext_getElem
    · simp [cnt2]
    · intro i g1 g2
      rw [List.getElem_set]
      simp only [cnt2, List.getElem_map, List.getElem_range]
      by_cases hi : j + 1 = i
      · subst hi
        rw [if_pos rfl, if_pos (by omega)]
        congr 1
        rw [← Int.natCast_add]
        congr 1
        clear g1 g2 hj
        induction es with
        | nil => rfl
        | cons x xs ih =>
          simp only [List.countP_cons]
          rw [ih]
          by_cases h1 : x.f < (j : Int)
          · have h2 : x.f < ((j + 1 : Nat) : Int) := by omega
            have h3 : ¬ x.f + 1 = ((j + 1 : Nat) : Int) := by omega
            simp only [h1, h2, h3, decide_true, decide_false]; simp; omega
          · by_cases h3 : x.f + 1 = ((j + 1 : Nat) : Int)
            · have h2 : x.f < ((j + 1 : Nat) : Int) := by omega
              simp only [h1, h2, h3, decide_true, decide_false]; simp; omega
            · have h2 : ¬ x.f < ((j + 1 : Nat) : Int) := by omega
              simp only [h1, h2, h3, decide_false]; simp
      · rw [if_neg hi]
        by_cases h1 : i ≤ j
        · rw [if_pos h1, if_pos (by omega)]
        · rw [if_neg h1, if_neg (by omega)]

theorem newGraph_any (aa am : Option Addr) (la lm ca cm : Nat) (ve : Value) (n : Nat) (es : List Ed) (w : World) (hr : RdE w ve es) (hl : es.length ≤ 1000000) (hn : n ≤ 1000000) (hin : ∀ x ∈ es, 0 ≤ x.f ∧ x.f < n) :
    Calls Try.prog 48 #[.agg #[.slice aa la ca, .int .i64 n, .slice am lm cm, ve]] w (Ret w fun u w' => ∃ af cf, u = .agg #[.slice aa la ca, .int .i64 n, .slice am lm cm, ve, .slice af (n + 1) cf] ∧ RdS w' 1 af (n + 1) cf (ints (firsts n es))) := by
  obtain ⟨a, cap, rfl, hr⟩ := hr
  obtain ⟨i0, hi, hz0, hz1, hz2⟩ := info_parts Try.info_int
  have Hin := Lib.hid hin
  clear hin
  have hmk := fun W : World => run_make (P := Try.prog) W 28 3 i0 (.int .i64 0) Try.underlying28 hi hz0 .i64 .i64 ((n : Int) + 1) ((n : Int) + 1) (by omega) (by omega) (by rw [hz2]; omega) (by omega)
  have hwr : IntKind.i64.wrap ((n : Int) + 1) = (n : Int) + 1 := IntWalk.i64_in _ (by omega)
  go_enter Try.func48, Try.ntmps48
  go_upto_region 1 with fail
  go_cut [3] (fun s3 wx => ∃ (g r : Nat) (tag : Nat → Nat), s3 = .pointer (some ⟨g, 0, none⟩) ∧ Below w.heap.size w wx ∧
    Own wx w.heap.size tag 0 w.heap.size #[.slice aa la ca, .int .i64 n, .slice am lm cm, .slice a es.length cap] 31 ∧
    Own wx w.heap.size tag 0 (w.heap.size + 1) #[.slice none 0 0, .int .i64 0, .slice none 0 0, .slice none 0 0, .slice none 0 0] 80 ∧
    Own wx w.heap.size tag 0 g #[.slice aa la ca, .int .i64 n, .slice am lm cm, .slice a es.length cap, .slice (some ⟨r, 0, none⟩) (n + 1) (n + 1)] 80 ∧
    Row wx w.heap.size tag 1 3 1 (.slice (some ⟨r, 0, none⟩) (n + 1) (n + 1)) (n + 1) (List.replicate (n + 1) (.int .i64 0)))
  case first =>
    go_region
    all_goals go_wp2
    all_goals go_meet
    all_goals
      first
      | exact ⟨w.heap.size + 2, w.heap.size + 3, fun b => if b = w.heap.size + 3 then 1 else 0, rfl, (by (repeat (first | with_reducible exact Below.refl _ _ | with_reducible exact hr | (with_reducible refine belCall ?_ hr (by first | omega | (simp; done) | (simp; omega) | (simp at *; omega))) | (with_reducible refine Below.alloc ?_ (by first | omega | (simp; done) | (simp; omega) | (simp at *; omega)) _) | (with_reducible refine Below.drew ?_) | (with_reducible refine Below.setCell ?_ (by first | omega | (simp; done) | (simp; omega) | (simp at *; omega)) _)))), ⟨(by repeat (first | with_reducible assumption | (refine heap_drewp ?_) | (refine heap_at ?_; (first | rfl | (simp; done) | (simp; omega))) | (refine heap_past ?_ ?_; (next => first | omega | (simp; done) | (simp; omega))))), by simp, by omega⟩, ⟨(by repeat (first | with_reducible assumption | (refine heap_drewp ?_) | (refine heap_at ?_; (first | rfl | (simp; done) | (simp; omega))) | (refine heap_past ?_ ?_; (next => first | omega | (simp; done) | (simp; omega))))), by simp, by omega⟩, ⟨(by repeat (first | with_reducible assumption | (refine heap_drewp ?_) | (refine heap_at ?_; (first | rfl | (simp; done) | (simp; omega))) | (refine heap_past ?_ ?_; (next => first | omega | (simp; done) | (simp; omega))))), by simp, by omega⟩, ⟨by simp, .inr ⟨_, 0, _, madeCells #[.int .i64 0] (n + 1), rfl, ⟨(by repeat (first | with_reducible assumption | (refine heap_drewp ?_) | (refine heap_at ?_; (first | rfl | (simp; done) | (simp; omega))) | (refine heap_past ?_ ?_; (next => first | omega | (simp; done) | (simp; omega))))), by simp, by omega⟩, by omega, by unfold maxLen; omega, by simp [size_madeCells], by simp [toList_madeCells_one]⟩⟩⟩
      | exact ⟨w.heap.size + 3, w.heap.size + 2, fun b => if b = w.heap.size + 2 then 1 else 0, rfl, (by (repeat (first | with_reducible exact Below.refl _ _ | with_reducible exact hr | (with_reducible refine belCall ?_ hr (by first | omega | (simp; done) | (simp; omega) | (simp at *; omega))) | (with_reducible refine Below.alloc ?_ (by first | omega | (simp; done) | (simp; omega) | (simp at *; omega)) _) | (with_reducible refine Below.drew ?_) | (with_reducible refine Below.setCell ?_ (by first | omega | (simp; done) | (simp; omega) | (simp at *; omega)) _)))), ⟨(by repeat (first | with_reducible assumption | (refine heap_drewp ?_) | (refine heap_at ?_; (first | rfl | (simp; done) | (simp; omega))) | (refine heap_past ?_ ?_; (next => first | omega | (simp; done) | (simp; omega))))), by simp, by omega⟩, ⟨(by repeat (first | with_reducible assumption | (refine heap_drewp ?_) | (refine heap_at ?_; (first | rfl | (simp; done) | (simp; omega))) | (refine heap_past ?_ ?_; (next => first | omega | (simp; done) | (simp; omega))))), by simp, by omega⟩, ⟨(by repeat (first | with_reducible assumption | (refine heap_drewp ?_) | (refine heap_at ?_; (first | rfl | (simp; done) | (simp; omega))) | (refine heap_past ?_ ?_; (next => first | omega | (simp; done) | (simp; omega))))), by simp, by omega⟩, ⟨by simp, .inr ⟨_, 0, _, madeCells #[.int .i64 0] (n + 1), rfl, ⟨(by repeat (first | with_reducible assumption | (refine heap_drewp ?_) | (refine heap_at ?_; (first | rfl | (simp; done) | (simp; omega))) | (refine heap_past ?_ ?_; (next => first | omega | (simp; done) | (simp; omega))))), by simp, by omega⟩, by omega, by unfold maxLen; omega, by simp [size_madeCells], by simp [toList_madeCells_one]⟩⟩⟩
  case rest =>
    obtain ⟨g, r, tag, rfl, hB, hb0, hb1, hg, hrow⟩ := hcut
    clear hmk
    have e3 : wc.cell? ⟨w.heap.size, 3, none⟩ = some (.slice a es.length cap) := hb0.cell 3
    go_wp2_with fail
    clear e3
    go_loopw [16] (fun j wr => ∃ (k : Nat) (tag : Nat → Nat), k ≤ es.length ∧ j = .int .i64 k ∧ Below w.heap.size w wr ∧
      Own wr w.heap.size tag 0 w.heap.size #[.slice aa la ca, .int .i64 n, .slice am lm cm, .slice a es.length cap] 31 ∧
      Own wr w.heap.size tag 0 (w.heap.size + 1) #[.slice none 0 0, .int .i64 0, .slice none 0 0, .slice none 0 0, .slice none 0 0] 80 ∧
      Own wr w.heap.size tag 0 g #[.slice aa la ca, .int .i64 n, .slice am lm cm, .slice a es.length cap, .slice (some ⟨r, 0, none⟩) (n + 1) (n + 1)] 80 ∧
      Row wr w.heap.size tag 1 3 1 (.slice (some ⟨r, 0, none⟩) (n + 1) (n + 1)) (n + 1) (ints (cnt1 n (es.take k)))) (fun j _ => es.length - (intOf j).toNat)
    case atStart => exact ⟨0, tag, Nat.zero_le _, rfl, hB, hb0, hb1, hg, by rw [List.take_zero, cnt1_nil]; exact hrow⟩
    case round =>
      clear hB hb0 hb1 hg hrow
      obtain ⟨k, tag, hk, rfl, hB, hb0, hb1, hg, hrow⟩ := hrel
      by_cases hlt : k < es.length
      · obtain ⟨b, off, rfl, c0, c1, c2⟩ := hr.at_edge k hlt
        obtain ⟨hx0, hx1⟩ := Hin.out es[k] (List.getElem_mem hlt)
        replace c0 := keep0 hB c0
        replace c1 := keep0 hB c1
        replace c2 := keep0 hB c2
        obtain ⟨c, d0, d1, d2, d3⟩ := cnt1_snoc n (es.take k) es[k] hx0 hx1
        have hlk : (es.take k).length ≤ 1000000 := by simp; omega
        have hgl := hg.lt
        have e4 : wr.cell? ⟨g, 4, none⟩ = some (.slice (some ⟨r, 0, none⟩) (n + 1) (n + 1)) := hg.cell 4
        have e5 := hrow.cellAt (es[k].f + 1).toNat (by omega)
        rw [d2, Nat.zero_add] at e5
        have e6 := hrow.frozenAt (es[k].f + 1).toNat
        obtain ⟨_, _, _, e7, hrl, _⟩ := hrow.addr (by omega)
        cases e7
        have hst := hrow.set (es[k].f + 1).toNat (.int .i64 (c + 1))
        rw [Nat.zero_add, ← d3, ← take_snoc es k hlt] at hst
        have Hst := Lib.hid hst
        clear d2 d3 hst
        go_wp2
        go_roundw
        case rel => exact ⟨k + 1, tag, by omega, by go_num, (belTurn hB Hst.out.2 hB.size).alloc (by simp; exact hB.size) _, (hb0.turn Hst.out.2 (by decide)).below (bel_alloc _ _), (hb1.turn Hst.out.2 (by decide)).below (bel_alloc _ _), (hg.turn Hst.out.2 (by decide)).below (bel_alloc _ _), Hst.out.1.below (bel_alloc _ _)⟩
        case measure => simp [intOf]; omega
      · obtain rfl : k = es.length := by omega
        rw [List.take_length] at hrow
        have e1 : wr.cell? ⟨w.heap.size, 1, none⟩ = some (.int .i64 n) := hb0.cell 1
        rw [← cnt2_zero n es (fun x hx => (Hin.out x hx).1)] at hrow
        go_wp2_with fail
        clear e1
        go_loopw [32] (fun j wr => ∃ (k : Nat) (tag : Nat → Nat), k ≤ n ∧ j = .int .i64 k ∧ Below w.heap.size w wr ∧
          Own wr w.heap.size tag 0 (w.heap.size + 1) #[.slice none 0 0, .int .i64 0, .slice none 0 0, .slice none 0 0, .slice none 0 0] 80 ∧
          Own wr w.heap.size tag 0 g #[.slice aa la ca, .int .i64 n, .slice am lm cm, .slice a es.length cap, .slice (some ⟨r, 0, none⟩) (n + 1) (n + 1)] 80 ∧
          Row wr w.heap.size tag 1 3 1 (.slice (some ⟨r, 0, none⟩) (n + 1) (n + 1)) (n + 1) (ints (cnt2 n es k))) (fun j _ => n - (intOf j).toNat)
        case atStart => exact ⟨0, tag, Nat.zero_le _, rfl, hB, hb1, hg, hrow⟩
        case round =>
          clear hB hb0 hb1 hg hrow
          obtain ⟨k, tag, hk, rfl, hB, hb1, hg, hrow⟩ := hrel
          by_cases hlt : k < n
          · obtain ⟨c, d, d0, d1, d2, d3, d4, d5, d6⟩ := cnt2_step n es k hlt
            have hgl := hg.lt
            have e4 : wr.cell? ⟨g, 4, none⟩ = some (.slice (some ⟨r, 0, none⟩) (n + 1) (n + 1)) := hg.cell 4
            have e5 := hrow.cellAt (k + 1) (by omega)
            have e6 := hrow.cellAt k (by omega)
            rw [d4, Nat.zero_add] at e5
            rw [d5, Nat.zero_add] at e6
            have e7 := hrow.frozenAt (k + 1)
            obtain ⟨_, _, _, e8, hrl, _⟩ := hrow.addr (by omega)
            cases e8
            have hst := hrow.set (k + 1) (.int .i64 (c + d))
            rw [Nat.zero_add, ← d6] at hst
            have Hst := Lib.hid hst
            clear d4 d5 d6 hst
            go_wp2
            go_region
            go_wp2
            go_roundw
            case rel => exact ⟨k + 1, tag, by omega, by go_num, (belTurn hB Hst.out.2 hB.size).drew, (hb1.turn Hst.out.2 (by decide)).below (bel_drew _), (hg.turn Hst.out.2 (by decide)).below (bel_drew _), Hst.out.1.below (bel_drew _)⟩
            case measure => simp [intOf]; omega
          · obtain rfl : n = k := by omega
            have g0 : wr.cell? ⟨g, 0, none⟩ = some (Value.slice aa la ca) := hg.cell 0
            have g1 : wr.cell? ⟨g, 1, none⟩ = some (Value.int .i64 n) := hg.cell 1
            have g2 : wr.cell? ⟨g, 2, none⟩ = some (Value.slice am lm cm) := hg.cell 2
            have g3 : wr.cell? ⟨g, 3, none⟩ = some (Value.slice a es.length cap) := hg.cell 3
            have g4 : wr.cell? ⟨g, 4, none⟩ = some (Value.slice (some ⟨r, 0, none⟩) (n + 1) (n + 1)) := hg.cell 4
            have z0 : wr.cell? ⟨w.heap.size + 1, 0, none⟩ = some (Value.slice none 0 0) := hb1.cell 0
            have y0 := hb1.frozen 0
            have z1 : wr.cell? ⟨w.heap.size + 1, 1, none⟩ = some (Value.int .i64 0) := hb1.cell 1
            have y1 := hb1.frozen 1
            have z2 : wr.cell? ⟨w.heap.size + 1, 2, none⟩ = some (Value.slice none 0 0) := hb1.cell 2
            have y2 := hb1.frozen 2
            have z3 : wr.cell? ⟨w.heap.size + 1, 3, none⟩ = some (Value.slice none 0 0) := hb1.cell 3
            have y3 := hb1.frozen 3
            have z4 : wr.cell? ⟨w.heap.size + 1, 4, none⟩ = some (Value.slice none 0 0) := hb1.cell 4
            have y4 := hb1.frozen 4
            go_wp2
            have t0 := Turn.setCell hb1 0 (Value.slice aa la ca)
            have b0 := hb1.set 0 (Value.slice aa la ca)
            have t1 := Turn.setCell b0 1 (Value.int .i64 n)
            have b1 := b0.set 1 (Value.int .i64 n)
            have t2 := Turn.setCell b1 2 (Value.slice am lm cm)
            have b2 := b1.set 2 (Value.slice am lm cm)
            have t3 := Turn.setCell b2 3 (Value.slice a es.length cap)
            have b3 := b2.set 3 (Value.slice a es.length cap)
            have t4 := Turn.setCell b3 4 (Value.slice (some ⟨r, 0, none⟩) (n + 1) (n + 1))
            have b4 := b3.set 4 (Value.slice (some ⟨r, 0, none⟩) (n + 1) (n + 1))
            have T := t0.trans (t1.trans (t2.trans (t3.trans t4)))
            have hrow' := hrow.turn T (by decide)
            rw [cnt2_last] at hrow'
            obtain ⟨_, _, e9, hrd⟩ := hrow'.rd
            cases e9
            exact bodyPost_ret (v := .agg #[.slice aa la ca, .int .i64 n, .slice am lm cm, .slice a es.length cap, .slice (some ⟨r, 0, none⟩) (n + 1) (n + 1)]) (by simp [results, Try.results48, go_sem, z0, z1, z2, z3, z4]) rfl ⟨_, rfl, ⟨_, _, rfl, hrd⟩, belTurn hB T hB.size⟩
end Go.Proofs.Ythchkddhibhenaa
