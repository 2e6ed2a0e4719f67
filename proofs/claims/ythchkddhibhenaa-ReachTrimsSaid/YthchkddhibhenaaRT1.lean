/- Texts joined: EqualA, Forward, Reachable, Accept, Accepts. Each is introduced by its own sentence. -/
import Derived.Deep.LoopGhost
import Derived.Test.YthchkddhibhenaaRS14
import Derived.Test.YthchkddhibhenaaRS1
import Derived.Test.YthchkddhibhenaaRS13
import Derived.Test.YthchkddhibhenaaRS2
import Derived.Test.YthchkddhibhenaaRS7
import Derived.Test.YthchkddhibhenaaRS6
import Derived.Test.YthchkddhibhenaaRS16
import Derived.Test.YthchkddhibhenaaRS4
import Derived.Test.YthchkddhibhenaaRS10
/- automaton.Equal of automata that are the same. -/
namespace Go.Proofs.Ythchkddhibhenaa
open Go Go.RowKit

set_option maxRecDepth 100000 in
theorem equal_any (v1 v2 : Value) (a : Aut) (w : World) (h1 : RdA w v1 a) (h2 : RdA w v2 a) (hs : a.small) :
    Calls Try.prog 70 #[v1, v2] w (Ret w fun u _ => u = .bool true) := by
  obtain ⟨va1, vm1, ve1, rfl, ha1, hm1, he1⟩ := h1
  obtain ⟨va2, vm2, ve2, rfl, ha2, hm2, he2⟩ := h2
  have hb : (a.n == a.n) = true := by simp
  have HA1 := Lib.hid ha1
  have HM1 := Lib.hid hm1
  have HE1 := Lib.hid he1
  have HA2 := Lib.hid ha2
  have HM2 := Lib.hid hm2
  have HE2 := Lib.hid he2
  obtain ⟨a1, c1, rfl, _⟩ := ha1
  obtain ⟨a2, c2, rfl, _⟩ := hm1
  obtain ⟨a3, c3, rfl, _⟩ := he1
  obtain ⟨a4, c4, rfl, _⟩ := ha2
  obtain ⟨a5, c5, rfl, _⟩ := hm2
  obtain ⟨a6, c6, rfl, _⟩ := he2
  have h1 := hs.al
  have h2 := hs.ms
  have h3 := hs.es
  go_enter Try.func70, Try.ntmps70
  have hB0 : Below w.heap.size w ((w.alloc (.cells #[.slice a1 a.al.length c1, .int .i64 a.n, .slice a2 a.ms.length c2, .slice a3 a.es.length c3] 31)).alloc (.cells #[.slice a4 a.al.length c4, .int .i64 a.n, .slice a5 a.ms.length c5, .slice a6 a.es.length c6] 31)) := by (repeat (first | with_reducible exact Below.refl _ _ | with_reducible exact HA1 | (with_reducible refine belCall ?_ HA1 (by first | omega | (simp; done) | (simp; omega) | (simp at *; omega))) | (with_reducible refine Below.alloc ?_ (by first | omega | (simp; done) | (simp; omega) | (simp at *; omega)) _) | (with_reducible refine Below.drew ?_) | (with_reducible refine Below.setCell ?_ (by first | omega | (simp; done) | (simp; omega) | (simp at *; omega)) _)))
  go_wp2_with fail
  refine (sliceEqI_any _ _ a.al _ (HA1.out.mono hB0) (HA2.out.mono hB0) h1).mono ?_
  rintro e w1 ⟨_, rfl, rfl, hb1⟩
  have hW1 := hB0.trans (hb1.mono hB0.size)
  have x1 : w1.heap[w.heap.size]? = some (.cells #[.slice a1 a.al.length c1, .int .i64 a.n, .slice a2 a.ms.length c2, .slice a3 a.es.length c3] 31 (0, 0)) := (hb1.block _ (by simp; omega)).trans (by repeat (first | with_reducible assumption | (with_reducible refine heap_at ?_; (first | (simp; done) | (simp; omega))) | (with_reducible refine heap_past ?_ ?_; (next => first | omega | (simp; done) | (simp; omega)))))
  have x2 : w1.heap[w.heap.size + 1]? = some (.cells #[.slice a4 a.al.length c4, .int .i64 a.n, .slice a5 a.ms.length c5, .slice a6 a.es.length c6] 31 (0, 0)) := (hb1.block _ (by simp)).trans (by repeat (first | with_reducible assumption | (with_reducible refine heap_at ?_; (first | (simp; done) | (simp; omega))) | (with_reducible refine heap_past ?_ ?_; (next => first | omega | (simp; done) | (simp; omega)))))
  have y12 : w1.cell? ⟨w.heap.size, 2, none⟩ = some (.slice a2 a.ms.length c2) := by simp [World.cell?, x1]
  have y13 : w1.cell? ⟨w.heap.size, 3, none⟩ = some (.slice a3 a.es.length c3) := by simp [World.cell?, x1]
  have y22 : w1.cell? ⟨w.heap.size + 1, 2, none⟩ = some (.slice a5 a.ms.length c5) := by simp [World.cell?, x2]
  have y23 : w1.cell? ⟨w.heap.size + 1, 3, none⟩ = some (.slice a6 a.es.length c6) := by simp [World.cell?, x2]
  clear x1 x2 hb1
  go_wp2_with fail
  refine (sliceEqI_any _ _ a.ms _ (HM1.out.mono hW1) (HM2.out.mono hW1) h2).mono ?_
  rintro e w2 ⟨_, rfl, rfl, hb2⟩
  have hW2 := hW1.trans (hb2.mono hW1.size)
  replace y13 := keep0 hb2 y13
  replace y23 := keep0 hb2 y23
  clear y12 y22 hb2
  go_wp2_with fail
  refine (sliceEqE_any _ _ a.es _ (HE1.out.mono hW2) (HE2.out.mono hW2) h3).mono ?_
  rintro e w3 ⟨_, rfl, rfl, hb3⟩
  go_wp2_with fail
  go_ret
  exact ⟨_, rfl, rfl, hW2.trans (hb3.mono hW2.size)⟩

set_option maxRecDepth 100000 in
set_option maxHeartbeats 1600000 in
/-- The laws' equal of automata that are the same. -/
theorem equalL_any (v1 v2 : Value) (a : Aut) (w : World) (h1 : RdA w v1 a) (h2 : RdA w v2 a) (hs : a.small) :
    Calls Try.prog 35 #[v1, v2] w (Ret w fun u _ => u = .bool true) := by
  obtain ⟨va1, vm1, ve1, rfl, ha1, hm1, he1⟩ := h1
  obtain ⟨va2, vm2, ve2, rfl, ha2, hm2, he2⟩ := h2
  have hb : (a.n != a.n) = false := by simp
  have hb2 : ((a.es.length : Int) != a.es.length) = false := by simp
  have HA1 := Lib.hid ha1
  have HM1 := Lib.hid hm1
  have HE1 := Lib.hid he1
  have HA2 := Lib.hid ha2
  have HM2 := Lib.hid hm2
  have HE2 := Lib.hid he2
  obtain ⟨a1, c1, rfl, _⟩ := ha1
  obtain ⟨a2, c2, rfl, _⟩ := hm1
  obtain ⟨a3, c3, rfl, hr1⟩ := he1
  obtain ⟨a4, c4, rfl, _⟩ := ha2
  obtain ⟨a5, c5, rfl, _⟩ := hm2
  obtain ⟨a6, c6, rfl, hr2⟩ := he2
  have h1 := hs.al
  have h2 := hs.ms
  have h3 := hs.es
  go_enter Try.func35, Try.ntmps35
  have hB0 : Below w.heap.size w ((w.alloc (.cells #[.slice a1 a.al.length c1, .int .i64 a.n, .slice a2 a.ms.length c2, .slice a3 a.es.length c3] 31)).alloc (.cells #[.slice a4 a.al.length c4, .int .i64 a.n, .slice a5 a.ms.length c5, .slice a6 a.es.length c6] 31)) := by (repeat (first | with_reducible exact Below.refl _ _ | with_reducible exact HA1 | (with_reducible refine belCall ?_ HA1 (by first | omega | (simp; done) | (simp; omega) | (simp at *; omega))) | (with_reducible refine Below.alloc ?_ (by first | omega | (simp; done) | (simp; omega) | (simp at *; omega)) _) | (with_reducible refine Below.drew ?_) | (with_reducible refine Below.setCell ?_ (by first | omega | (simp; done) | (simp; omega) | (simp at *; omega)) _)))
  have hsame : sameB a.al a.al = true := sameB_true.2 rfl
  have hsame2 : sameB a.ms a.ms = true := sameB_true.2 rfl
  go_wp2_with fail
  refine (same_any _ _ a.al a.al _ (HA1.out.mono hB0) (HA2.out.mono hB0) h1 h1).mono ?_
  rintro e w1 ⟨_, rfl, rfl, hb1⟩
  rw [hsame]
  have hW1 := hB0.trans (hb1.mono hB0.size)
  have x1 : w1.heap[w.heap.size]? = some (.cells #[.slice a1 a.al.length c1, .int .i64 a.n, .slice a2 a.ms.length c2, .slice a3 a.es.length c3] 31 (0, 0)) := (hb1.block _ (by simp; omega)).trans (by repeat (first | with_reducible assumption | (with_reducible refine heap_at ?_; (first | (simp; done) | (simp; omega))) | (with_reducible refine heap_past ?_ ?_; (next => first | omega | (simp; done) | (simp; omega)))))
  have x2 : w1.heap[w.heap.size + 1]? = some (.cells #[.slice a4 a.al.length c4, .int .i64 a.n, .slice a5 a.ms.length c5, .slice a6 a.es.length c6] 31 (0, 0)) := (hb1.block _ (by simp)).trans (by repeat (first | with_reducible assumption | (with_reducible refine heap_at ?_; (first | (simp; done) | (simp; omega))) | (with_reducible refine heap_past ?_ ?_; (next => first | omega | (simp; done) | (simp; omega)))))
  have y11 : w1.cell? ⟨w.heap.size, 1, none⟩ = some (.int .i64 a.n) := by simp [World.cell?, x1]
  have y12 : w1.cell? ⟨w.heap.size, 2, none⟩ = some (.slice a2 a.ms.length c2) := by simp [World.cell?, x1]
  have y13 : w1.cell? ⟨w.heap.size, 3, none⟩ = some (.slice a3 a.es.length c3) := by simp [World.cell?, x1]
  have y21 : w1.cell? ⟨w.heap.size + 1, 1, none⟩ = some (.int .i64 a.n) := by simp [World.cell?, x2]
  have y22 : w1.cell? ⟨w.heap.size + 1, 2, none⟩ = some (.slice a5 a.ms.length c5) := by simp [World.cell?, x2]
  have y23 : w1.cell? ⟨w.heap.size + 1, 3, none⟩ = some (.slice a6 a.es.length c6) := by simp [World.cell?, x2]
  clear x1 x2 hb1 hsame
  go_wp2_with fail
  refine (same_any _ _ a.ms a.ms _ (HM1.out.mono hW1) (HM2.out.mono hW1) h2 h2).mono ?_
  rintro e w2 ⟨_, rfl, rfl, hb2⟩
  rw [hsame2]
  have hW2 := hW1.trans (hb2.mono hW1.size)
  replace y13 := keep0 hb2 y13
  replace y23 := keep0 hb2 y23
  have hz1 := World.block_lt_of_cell? _ _ y13
  have hz2 := World.block_lt_of_cell? _ _ y23
  dsimp only at hz1 hz2
  clear y11 y12 y21 y22 hb2 hsame2
  go_wp2_with fail
  go_loopw [5] (fun i wr => ∃ k : Nat, k ≤ a.es.length ∧ i = .int .i64 k ∧ Below w2.heap.size w2 wr) (fun i _ => a.es.length - (intOf i).toNat)
  case atStart => exact ⟨0, Nat.zero_le _, rfl, Below.refl _ _⟩
  case round =>
    obtain ⟨k, hk, rfl, hB⟩ := hrel
    have hB2 := hW2.trans (hB.mono hW2.size)
    replace y13 := keep0 hB y13
    replace y23 := keep0 hB y23
    by_cases hlt : k < a.es.length
    · obtain ⟨b, off, rfl, c0, c1, c2⟩ := hr1.at_edge k hlt
      obtain ⟨b2, off2, rfl, d0, d1, d2⟩ := hr2.at_edge k hlt
      replace c0 := keep0 hB2 c0
      replace c1 := keep0 hB2 c1
      replace c2 := keep0 hB2 c2
      replace d0 := keep0 hB2 d0
      replace d1 := keep0 hB2 d1
      replace d2 := keep0 hB2 d2
      generalize a.es[k] = x at *
      obtain ⟨x0, x1, x2⟩ := x
      dsimp only at c0 c1 c2 d0 d1 d2
      have hx0 : (x0 == x0) = true := by simp
      have hx1 : (x1 == x1) = true := by simp
      have hx2 : (x2 == x2) = true := by simp
      go_wp2_with fail
      go_region
      go_wp2
      go_roundw
      case rel => exact ⟨k + 1, by omega, by go_num, hB.drew⟩
      case measure => simp [intOf]; omega
    · go_wp2
      go_ret
      exact ⟨_, rfl, rfl, hB2⟩
end Go.Proofs.Ythchkddhibhenaa

/- The contract of forward. -/
namespace Go.Proofs.Ythchkddhibhenaa
open Go.RowKit Go.Shelf
attribute [local go_sem] Oper.semAt_some

set_option maxRecDepth 100000 in
set_option maxHeartbeats 4000000 in
theorem forward_any (aa am ae af : Option Addr) (la lm ca cm ce cf : Nat) (n : Nat) (es : List Ed) (fp : FuncId) (capp : Array Value) (perm : Ed → Bool) (v : Value) (start : List Int) (w : World)
    (hre : RdS w 3 ae es.length ce (edCells es)) (hrf : RdS w 1 af (n + 1) cf (ints (firsts n es))) (hst : RdI w v start) (hl : es.length ≤ 1000000) (hn : n + start.length ≤ 999999) (hn0 : 0 < n) (hstart : ∀ s ∈ start, 0 ≤ s ∧ s < (n : Int)) (hin : ∀ x ∈ es, 0 ≤ x.t ∧ x.t < (n : Int))
    (hep : Enters Try.prog fp)
    (hp : ∀ (x : Ed) (W : World), x ∈ es → Below w.heap.size w W → Calls Try.prog fp (#[x.val] ++ capp) W fun e w' => e = .returned (.bool (perm x)) ∧ Below W.heap.size W w') :
    Calls Try.prog 81 #[.agg #[.slice aa la ca, .int .i64 n, .slice am lm cm, .slice ae es.length ce, .slice af (n + 1) cf], v, .func (.func fp) #[] capp] w
      (Ret w fun u w' => RdB w' u (forwardF n es perm start)) := by
  obtain ⟨bf, offf, rfl, hcf⟩ := hrf.at_elem 0 (by omega)
  have Hcf := Lib.hid hcf
  have Hp := Lib.hid hp
  have Hin := Lib.hid hin
  have Hep := Lib.hid hep
  have Hst := Lib.hid hst
  have Hstart := Lib.hid hstart
  clear hcf hp hin hep hst hstart
  refine calls_of_marks Try.func81 rfl ?_
  simp only [Try.ntmps81, List.size_toArray, List.length_cons, List.length_nil, Nat.reduceAdd, Nat.reduceSub, Array.replicate_succ, Array.replicate_zero, List.push_toArray, List.append_toArray, List.nil_append, List.cons_append]
  go_wp2_with fail
  refine (flags_any _ _ _ v n start _ (Hst.out.mono (by (repeat (first | with_reducible exact Below.refl _ _ | with_reducible exact hre | (with_reducible refine belCall ?_ hre (by first | omega | (simp; done) | (simp; omega) | (simp at *; omega))) | (with_reducible refine Below.alloc ?_ (by first | omega | (simp; done) | (simp; omega) | (simp at *; omega)) _) | (with_reducible refine Below.drew ?_) | (with_reducible refine Below.setCell ?_ (by first | omega | (simp; done) | (simp; omega) | (simp at *; omega)) _))))) (by omega) (by omega) Hstart.out).mono ?_
  rintro e w1 ⟨_, rfl, hown1, hb1⟩
  generalize hw0 : (w.alloc (.cells #[.slice aa la ca, .int .i64 n, .slice am lm cm, .slice ae es.length ce, .slice (some ⟨bf, offf, none⟩) (n + 1) cf] 80)).alloc (.cells #[.func (.func fp) #[] capp] 90) = w0 at *
  have hz0 : w0.heap.size = w.heap.size + 1 + 1 := by rw [← hw0]; simp
  have hB0 : Below w.heap.size w w0 := by rw [← hw0]; (repeat (first | with_reducible exact Below.refl _ _ | with_reducible exact hre | (with_reducible refine belCall ?_ hre (by first | omega | (simp; done) | (simp; omega) | (simp at *; omega))) | (with_reducible refine Below.alloc ?_ (by first | omega | (simp; done) | (simp; omega) | (simp at *; omega)) _) | (with_reducible refine Below.drew ?_) | (with_reducible refine Below.setCell ?_ (by first | omega | (simp; done) | (simp; omega) | (simp at *; omega)) _)))
  have hgh : w0.heap[w.heap.size]? = some (.cells #[.slice aa la ca, .int .i64 n, .slice am lm cm, .slice ae es.length ce, .slice (some ⟨bf, offf, none⟩) (n + 1) cf] 80 (0, 0)) := by rw [← hw0]; exact (by repeat (first | with_reducible assumption | (with_reducible refine heap_at ?_; (first | (simp; done) | (simp; omega))) | (with_reducible refine heap_past ?_ ?_; (next => first | omega | (simp; done) | (simp; omega)))))
  have hfh : w0.heap[w.heap.size + 1]? = some (.cells #[.func (.func fp) #[] capp] 90 (0, 0)) := by rw [← hw0]; exact (by repeat (first | with_reducible assumption | (with_reducible refine heap_at ?_; (first | (simp; done) | (simp; omega))) | (with_reducible refine heap_past ?_ ?_; (next => first | omega | (simp; done) | (simp; omega)))))
  have hB1 := hB0.trans (hb1.mono hB0.size)
  have hz1 := hb1.size
  obtain ⟨a1, c1, rfl, hr1⟩ := RdS.of_own hown1
  have hse0 : Row w1 w.heap.size (tagFrom (fun _ => 0) w0.heap.size 1) 1 4 1 (.slice a1 n c1) n (bools (flagL n start)) := Row.of_call hown1 (by omega)
  obtain ⟨b1, o1, c1', e1, hbl1, hbB1, _⟩ := hse0.addr hn0
  cases e1
  have hgh1 := (hb1.block _ (by omega)).trans hgh
  have hfh1 := (hb1.block _ (by omega)).trans hfh
  have Hgh := Lib.hid hgh1
  have Hfh := Lib.hid hfh1
  have Hown1 := Lib.hid hown1
  clear hr1 hown1 hse0 hgh hfh hgh1 hfh1 hw0
  go_wp2_with fail
  have hbal := bel_alloc w1 (.cells #[.slice (some ⟨b1, o1, none⟩) n c1] 86)
  refine (clone_any v start _ (Hst.out.mono (hB1.alloc (by omega) _)) (by omega)).mono ?_
  rintro e w2 ⟨_, rfl, hown2, hb2⟩
  have hz2 := hb2.size
  simp only [World.size_alloc] at hz2
  obtain ⟨a2, c2, rfl, hr2⟩ := RdS.of_own hown2
  have hB2 : Below w.heap.size w w2 := (hB1.alloc (by omega) _).trans (hb2.mono (by simp; omega))
  have hh7 : w2.heap[w1.heap.size]? = some (.cells #[.slice (some ⟨b1, o1, none⟩) n c1] 86 (0, 0)) := (hb2.block _ (by simp)).trans (heap_at rfl)
  have hgh2 := (hb2.block _ (by simp; omega)).trans ((hbal.block _ (by omega)).trans Hgh.out)
  have hfh2 := (hb2.block _ (by simp; omega)).trans ((hbal.block _ (by omega)).trans Hfh.out)
  have Hown2 := Lib.hid hown2
  have Hh7 := Lib.hid hh7
  have Hgh2 := Lib.hid hgh2
  have Hfh2 := Lib.hid hfh2
  have Hb2 := Lib.hid hb2
  have Hbal := Lib.hid hbal
  clear hr2 hown2 hh7 hgh2 hfh2 hb2 hbal Hgh Hfh hb1
  go_wp2_with fail
  have hz3 : w2.heap.size < (w2.alloc (.cells #[.slice a2 start.length c2] 28)).heap.size := by simp
  have hstart0 : FInv w #[.slice aa la ca, .int .i64 n, .slice am lm cm, .slice ae es.length ce, .slice (some ⟨bf, offf, none⟩) (n + 1) cf] (.func (.func fp) #[] capp) n w1.heap.size w2.heap.size (.slice (some ⟨b1, o1, none⟩) n c1) [] (w2.alloc (.cells #[.slice a2 start.length c2] 28)) (fun b => if b < w0.heap.size then 0 else if b < w1.heap.size then 1 else if b = w1.heap.size then 0 else if b < w2.heap.size then 2 else 3) (.slice a2 start.length c2) (flagL n start) start := by
    have hb3 := bel_alloc w2 (.cells #[.slice a2 start.length c2] 28)
    refine ⟨hB2.alloc (by omega) _, Marks.nil _ _, ⟨(hb3.block _ (by omega)).trans Hgh2.out, by rw [if_pos (by omega)], by omega⟩, ⟨(hb3.block _ (by omega)).trans Hfh2.out, by rw [if_pos (by omega)], by omega⟩, ⟨(hb3.block _ (by omega)).trans Hh7.out, by rw [if_neg (by omega), if_neg (by omega), if_pos rfl], by omega⟩, ⟨heap_at rfl, by rw [if_neg (by omega), if_neg (by omega), if_neg (by omega), if_neg (by omega)], by omega⟩, ?_, ?_⟩
    · have h1 : Row w1 w.heap.size (fun b => if b < w0.heap.size then 0 else if b < w1.heap.size then 1 else if b = w1.heap.size then 0 else if b < w2.heap.size then 2 else 3) 1 4 1 (.slice (some ⟨b1, o1, none⟩) n c1) n (bools (flagL n start)) := Row.of_own Hown1.out (by omega) (fun b h1 h2 => by rw [if_neg (by omega), if_pos h2])
      exact ((h1.below Hbal.out).below Hb2.out).below hb3
    · have h2 : Row w2 w.heap.size (fun b => if b < w0.heap.size then 0 else if b < w1.heap.size then 1 else if b = w1.heap.size then 0 else if b < w2.heap.size then 2 else 3) 2 3 1 (.slice a2 start.length c2) start.length (ints start) := Row.of_own Hown2.out (by simp; omega) (fun b h1 h2 => by simp at h1; rw [if_neg (by omega), if_neg (by omega), if_neg (by omega), if_pos h2])
      exact h2.below hb3
  have hok0 : FOk n ((flagL n start).count false + start.length) (flagL n start) start := ⟨flagL_length n start, Hstart.out, Nat.le_refl _⟩
  have hm0 : (flagL n start).count false + start.length ≤ 999999 := by
    have h1 := List.count_le_length (a := false) (l := flagL n start)
    rw [flagL_length] at h1
    omega
  refine wp_loop_ghost_k (fun k a' wr => ∃ (v9 v10 v17 v18 v19 v20 v21 v22 v23 v24 v25 v26 v27 v28 v29 v30 v31 v32 v33 v34 v35 v36 v37 v38 v39 v40 v41 v42 v43 v44 v45 v46 v47 v48 : Value) (ds : List Deferred) (tag : Nat → Nat) (vq : Value) (seen : List Bool) (q : List Int) (m : Nat), FInv w #[.slice aa la ca, .int .i64 n, .slice am lm cm, .slice ae es.length ce, .slice (some ⟨bf, offf, none⟩) (n + 1) cf] (.func (.func fp) #[] capp) n w1.heap.size w2.heap.size (.slice (some ⟨b1, o1, none⟩) n c1) ds wr tag vq seen q ∧ FOk n m seen q ∧ k = m + 1 ∧ m ≤ 999999 ∧ Hid (forwardF n es perm start = fwd (subOf es) perm (m + 1) seen q) ∧
      a' = { tmps := #[Value.agg #[.slice aa la ca, .int .i64 n, .slice am lm cm, .slice ae es.length ce, .slice (some ⟨bf, offf, none⟩) (n + 1) cf], v, Value.func (.func fp) #[] capp, Value.pointer (some ⟨w.heap.size, 0, none⟩), undef, Value.pointer (some ⟨w.heap.size + 1, 0, none⟩), Value.slice none 0 0, Value.pointer (some ⟨w1.heap.size, 0, none⟩), Value.pointer (some ⟨w2.heap.size, 0, none⟩), v9, v10, Value.pointer (some ⟨w.heap.size, 0, none⟩), Value.agg #[.slice aa la ca, .int .i64 n, .slice am lm cm, .slice ae es.length ce], v, Value.slice (some ⟨b1, o1, none⟩) n c1, v, Value.slice a2 start.length c2, v17, v18, v19, v20, v21, v22, v23, v24, v25, v26, v27, v28, v29, v30, v31, v32, v33, v34, v35, v36, v37, v38, v39, v40, v41, v42, v43, v44, v45, v46, v47, v48, undef], defers := ds }) ((flagL n start).count false + start.length + 1) ?_ ?_
  · repeat apply Exists.intro
    exact ⟨hstart0, hok0, rfl, hm0, rfl, rfl⟩
  · intro gk _ wr h
    obtain ⟨v9, h⟩ := h
    obtain ⟨v10, h⟩ := h
    obtain ⟨v17, h⟩ := h
    obtain ⟨v18, h⟩ := h
    obtain ⟨v19, h⟩ := h
    obtain ⟨v20, h⟩ := h
    obtain ⟨v21, h⟩ := h
    obtain ⟨v22, h⟩ := h
    obtain ⟨v23, h⟩ := h
    obtain ⟨v24, h⟩ := h
    obtain ⟨v25, h⟩ := h
    obtain ⟨v26, h⟩ := h
    obtain ⟨v27, h⟩ := h
    obtain ⟨v28, h⟩ := h
    obtain ⟨v29, h⟩ := h
    obtain ⟨v30, h⟩ := h
    obtain ⟨v31, h⟩ := h
    obtain ⟨v32, h⟩ := h
    obtain ⟨v33, h⟩ := h
    obtain ⟨v34, h⟩ := h
    obtain ⟨v35, h⟩ := h
    obtain ⟨v36, h⟩ := h
    obtain ⟨v37, h⟩ := h
    obtain ⟨v38, h⟩ := h
    obtain ⟨v39, h⟩ := h
    obtain ⟨v40, h⟩ := h
    obtain ⟨v41, h⟩ := h
    obtain ⟨v42, h⟩ := h
    obtain ⟨v43, h⟩ := h
    obtain ⟨v44, h⟩ := h
    obtain ⟨v45, h⟩ := h
    obtain ⟨v46, h⟩ := h
    obtain ⟨v47, h⟩ := h
    obtain ⟨v48, h⟩ := h
    obtain ⟨ds, tag, vq, seen, q, m, hI, hok, rfl, hmb, hfw, rfl⟩ := h
    have Hmb := Lib.hid hmb
    clear hmb
    intro J K hJ hK
    have hml := hok.sum
    have hnl : n ≤ 1000000 := by omega
    cases q with
    | nil =>
      have k8 : wr.cell? ⟨w2.heap.size, 0, none⟩ = some vq := hI.qb.cell 0
      have k7 : wr.cell? ⟨w1.heap.size, 0, none⟩ = some (.slice (some ⟨b1, o1, none⟩) n c1) := hI.eb.cell 0
      obtain ⟨aq, cq, rfl⟩ := hI.st.val
      have hlen := hok.len
      have Hlen := Lib.hid hlen
      clear hlen
      go_wp2_with fail
      refine bodyPostM_ret hI.marks (fun w' hq => ⟨.slice (some ⟨b1, o1, none⟩) n c1, by simp [results, Try.results81, go_sem], _, rfl, ?_, hI.below.trans hq.below⟩)
      rw [hfw.out, fwd]
      have h9 := hq.row hI.se
      rw [← Hlen.out] at h9
      obtain ⟨a9, c9, e9, h10⟩ := h9.rd
      rw [Hlen.out] at e9
      cases e9
      exact ⟨_, _, by rw [Hlen.out], h10⟩
    | cons s q =>
      obtain ⟨bq, oq, cq, rfl, hbq, hBq, hcq⟩ := hI.st.at_int 0 (by simp)
      have k8 : wr.cell? ⟨w2.heap.size, 0, none⟩ = some (.slice (some ⟨bq, oq, none⟩) (s :: q).length cq) := hI.qb.cell 0
      have f8 := hI.qb.frozen 0
      obtain ⟨hs0, hs1⟩ := hok.range s (List.mem_cons_self ..)
      have htail := Row.tail (m := q.length) (x := .int .i64 s) (cs := ints q) hI.st
      rw [List.length_cons] at k8
      have hq0 : 0 < q.length + 1 := by omega
      have hcs : wr.cell? ⟨bq, oq, none⟩ = some (.int .i64 s) := hcq
      have hwin : (ints (s :: q)).length = (ints (s :: q)).length := rfl
      have hcapn : q.length + 1 ≤ cq := by
        rcases hI.st.2 with ⟨h', _⟩ | ⟨_, _, _, _, h', _, h9, _⟩
        · cases h'
        · cases h'; simpa using h9
      have hcapm : cq ≤ maxLen := by
        rcases hI.st.2 with ⟨h', _⟩ | ⟨_, _, _, _, h', _, _, h9, _⟩
        · cases h'
        · cases h'; exact h9
      unfold maxLen at hcapm
      have Hok := Lib.hid hok
      have Hml := Lib.hid hml
      clear hcq hok hml hwin
      have Hm1 : Hid (1 ≤ m) := by
        have := Hml.out
        simp only [List.length_cons] at this
        show 1 ≤ m
        omega
      have Hok2 : Hid (FOk n (m - 1) seen q) := ⟨Hok.out.len, fun t ht => Hok.out.range t (List.mem_cons_of_mem _ ht), by have := Hok.out.sum; simp only [List.length_cons] at this; omega⟩
      have Hnext : Hid (forwardF n es perm start = fwd (subOf es) perm (m - 1 + 1) ((subOf es s).foldl (fwStep perm) (seen, q)).1 ((subOf es s).foldl (fwStep perm) (seen, q)).2) := by
        show _ = _
        rw [hfw.out, fwd, show m - 1 + 1 = m by have := Hm1.out; omega]
      have g0 : wr.cell? ⟨w.heap.size, 0, none⟩ = some (Value.slice aa la ca) := hI.g.cell 0
      have g1 : wr.cell? ⟨w.heap.size, 1, none⟩ = some (Value.int .i64 n) := hI.g.cell 1
      have g2 : wr.cell? ⟨w.heap.size, 2, none⟩ = some (Value.slice am lm cm) := hI.g.cell 2
      have g3 : wr.cell? ⟨w.heap.size, 3, none⟩ = some (Value.slice ae es.length ce) := hI.g.cell 3
      have g4 : wr.cell? ⟨w.heap.size, 4, none⟩ = some (Value.slice (some ⟨bf, offf, none⟩) (n + 1) cf) := hI.g.cell 4
      have hwne : ¬ w2.heap.size = w.heap.size := by omega
      have hwne2 : ¬ w.heap.size = w2.heap.size := by omega
      have Hm : Hid (m ≤ 999999) := Hmb
      by_cases hcap : cq = 1
      · have hI2 := hI.setQ (htail.1 hcap)
        subst hcap
        obtain rfl : q = [] := List.eq_nil_of_length_eq_zero (by omega)
        clear htail
        go_wp2_with fail
        have hI3 : FInv w #[.slice aa la ca, .int .i64 n, .slice am lm cm, .slice ae es.length ce, .slice (some ⟨bf, offf, none⟩) (n + 1) cf] (.func (.func fp) #[] capp) n w1.heap.size w2.heap.size (.slice (some ⟨b1, o1, none⟩) n c1) ds (wr.setCell ⟨w2.heap.size, 0, none⟩ (.slice (some ⟨bq, oq, none⟩) 0 0)) tag (.slice (some ⟨bq, oq, none⟩) 0 0) seen [] := by simpa using hI2
        clear g0 g1 g2 g3 g4 k8 f8 hcs hI2 hI hwne hwne2
        generalize wr.setCell ⟨w2.heap.size, 0, none⟩ _ = wq at *
        refine (edges_any _ _ _ _ _ _ _ _ _ _ _ _ _ _ _).mono ?_
        rintro e w3 ⟨rfl, rfl⟩
        go_wp2_with fail
        have hI4 := (hI3.call (bel_alloc wq (.cells #[.slice aa la ca, .int .i64 n, .slice am lm cm, .slice ae es.length ce, .slice (some ⟨bf, offf, none⟩) (n + 1) cf] 80))).call (bel_alloc _ (.cells #[.int .i64 s] 3))
        have hg3 : ((wq.alloc (.cells #[.slice aa la ca, .int .i64 n, .slice am lm cm, .slice ae es.length ce, .slice (some ⟨bf, offf, none⟩) (n + 1) cf] 80)).alloc (.cells #[.int .i64 s] 3)).cell? ⟨wq.heap.size, 3, none⟩ = some (.slice ae es.length ce) := by simp [go_sem]
        have hg4 : ((wq.alloc (.cells #[.slice aa la ca, .int .i64 n, .slice am lm cm, .slice ae es.length ce, .slice (some ⟨bf, offf, none⟩) (n + 1) cf] 80)).alloc (.cells #[.int .i64 s] 3)).cell? ⟨wq.heap.size, 4, none⟩ = some (.slice (some ⟨bf, offf, none⟩) (n + 1) cf) := by simp [go_sem]
        have hg5 : ((wq.alloc (.cells #[.slice aa la ca, .int .i64 n, .slice am lm cm, .slice ae es.length ce, .slice (some ⟨bf, offf, none⟩) (n + 1) cf] 80)).alloc (.cells #[.int .i64 s] 3)).cell? ⟨wq.heap.size + 1, 0, none⟩ = some (.int .i64 s) := by simp [go_sem]
        clear hI3
        generalize (wq.alloc (.cells #[.slice aa la ca, .int .i64 n, .slice am lm cm, .slice ae es.length ce, .slice (some ⟨bf, offf, none⟩) (n + 1) cf] 80)).alloc (.cells #[.int .i64 s] 3) = w3 at *
        have hfc : ∀ j : Nat, j ≤ n → w3.cell? ⟨bf, offf + j, none⟩ = some (.int .i64 (fstN es j)) := by
          intro j hj
          have h1 := Hcf.out j (by simp [firsts]; omega)
          have h2 := firsts_get n es j hj
          rw [List.getElem?_eq_getElem (by simp [firsts]; omega)] at h2
          rw [Option.some.inj h2] at h1
          exact keep0 hI4.below h1
        have hseq := edges_stops wq.heap.size (wq.heap.size + 1) w.heap.size ae (some ⟨bf, offf, none⟩) ce (n + 1) cf s es (fstN es s) (fstN es (s + 1)) (fstN_mono es _ _ (by omega)) (fstN_le es _) hl w3 hI4.below.size hg3 hg4 hg5 hs0 (by omega) bf offf rfl (by omega)
          (by have := hfc s.toNat (by omega); rwa [Int.toNat_of_nonneg hs0] at this) (by have := hfc (s + 1).toNat (by omega); rwa [Int.toNat_of_nonneg (by omega)] at this) (hre.mono hI4.below) (fun h0 ad e => World.block_lt_of_cell? w ⟨ad.block, ad.off + 0, none⟩ (hre.cell ad e 0 (by rw [hre.hlen]; omega)))
        clear hg3 hg4 hg5 hfc
        refine wp_edges (bg := wq.heap.size) (bs := wq.heap.size + 1) (n₀ := w.heap.size) rfl hseq (Below.refl _ _) hI4.below.size rfl
          (fun pre W => (∀ y ∈ pre, y ∈ subOf es s) ∧ ∃ tag vq, FInv w #[.slice aa la ca, .int .i64 n, .slice am lm cm, .slice ae es.length ce, .slice (some ⟨bf, offf, none⟩) (n + 1) cf] (.func (.func fp) #[] capp) n w1.heap.size w2.heap.size (.slice (some ⟨b1, o1, none⟩) n c1) ds W tag vq (pre.foldl (fwStep perm) (seen, [])).1 (pre.foldl (fwStep perm) (seen, [])).2)
          ?hI ⟨by simp, tag, _, hI4⟩
          (fun x a' W => ∃ (Bx : Nat) (y17 y18 y19 y20 y21 y22 y23 y24 : Value), w.heap.size ≤ Bx ∧ W.heap[Bx]? = some (.cells #[.int .i64 x.f, .int .i64 x.e, .int .i64 x.t] 45 (0, 0)) ∧ a' = { tmps := #[Value.agg #[.slice aa la ca, .int .i64 n, .slice am lm cm, .slice ae es.length ce, .slice (some ⟨bf, offf, none⟩) (n + 1) cf], v, Value.func (.func fp) #[] capp, Value.pointer (some ⟨w.heap.size, 0, none⟩), undef, Value.pointer (some ⟨w.heap.size + 1, 0, none⟩), Value.slice none 0 0, Value.pointer (some ⟨w1.heap.size, 0, none⟩), Value.pointer (some ⟨w2.heap.size, 0, none⟩), Value.int .i64 s, Value.pointer (some ⟨Bx, 0, none⟩), Value.pointer (some ⟨w.heap.size, 0, none⟩), Value.agg #[.slice aa la ca, .int .i64 n, .slice am lm cm, .slice ae es.length ce], v, Value.slice (some ⟨b1, o1, none⟩) n c1, v, Value.slice a2 start.length c2, y17, y18, y19, y20, y21, y22, y23, y24, Value.agg #[.slice aa la ca, .int .i64 n, .slice am lm cm, .slice ae es.length ce, .slice (some ⟨bf, offf, none⟩) (n + 1) cf], Value.int .i64 s, Value.func (.func 84) #[] #[.pointer (some ⟨wq.heap.size, 0, none⟩), .pointer (some ⟨wq.heap.size + 1, 0, none⟩)], Value.agg #[.int .i64 x.f, .int .i64 x.e, .int .i64 x.t], v29, v30, v31, v32, v33, v34, v35, v36, v37, v38, v39, v40, v41, v42, v43, v44, v45, v46, v47, v48, undef], defers := [] })
          ?hAx ?assign ?body ?done
        case hI =>
          intro pre W W' row h1 hg hr
          obtain ⟨h1, tag, vs, h2⟩ := h1
          exact ⟨h1, tag, vs, h2.others hg (fun D hD => hI4.marks.lt hD) hI4.below.size hr⟩
        case hAx =>
          intro x a' u W W' row h1 hg hr
          obtain ⟨Bx, y17, y18, y19, y20, y21, y22, y23, y24, h1, h2, h3⟩ := h1
          refine ⟨Bx, y17, y18, y19, y20, y21, y22, y23, y24, h1, (hg.block Bx (Array.getElem?_eq_some_iff.1 h2).1 (fun e => ?_)).trans h2, h3⟩
          obtain ⟨o, ho, hc⟩ := (hr Bx e.symm).2
          rw [h2] at ho
          cases ho
          cases hc
        case assign =>
          intro l pre x W K hx hiW hK
          dsimp only [Ed.val]
          gi_wp2
          refine hK _ _ ((KeepsOthers.alloc _ _).from _) ((Below.refl _ W).alloc ?_ _) ?_ ⟨W.heap.size, _, _, _, _, _, _, _, _, ?_, (by repeat (first | with_reducible assumption | (refine heap_drewp ?_) | (refine heap_at ?_; (first | rfl | (simp; done) | (simp; omega))) | (refine heap_past ?_ ?_; (next => first | omega | (simp; done) | (simp; omega))))), rfl⟩
          · obtain ⟨_, _, _, h2⟩ := hiW; exact h2.below.size
          · obtain ⟨h1, tag, vs, h2⟩ := hiW; exact ⟨h1, tag, vs, h2.call (bel_alloc _ _)⟩
          · obtain ⟨_, _, _, h2⟩ := hiW; exact h2.below.size
        case body =>
          rintro l pre x a' W hx hl ⟨hpre, tag, vq, hJ⟩ ⟨Bx, y17, y18, y19, y20, y21, y22, y23, y24, hBx, hbx, rfl⟩
          have hJ2 := hJ.retag hbx
          have hOx : Own W w.heap.size (tagUp tag Bx 5) 5 Bx #[.int .i64 x.f, .int .i64 x.e, .int .i64 x.t] 45 := ⟨hbx, tagUp_at _ _ _, hBx⟩
          have hxe := subOf_mem hx
          have hxr := Hin.out x hxe
          have hok' := FOk.fold (perm := perm) pre Hok2.out (fun y hy => Hin.out y (subOf_mem (hpre y hy)))
          have Hmem : Hid (∀ y ∈ pre ++ [x], y ∈ subOf es s) := by
            intro y hy
            rcases List.mem_append.1 hy with h1 | h1
            · exact hpre y h1
            · rw [List.mem_singleton.1 h1]; exact hx
          have Hacc : Hid ((pre ++ [x]).foldl (fwStep perm) (seen, []) = fwStep perm (pre.foldl (fwStep perm) (seen, [])) x) := by
            show _ = _
            rw [List.foldl_append]; rfl
          clear hpre hx hJ
          generalize pre.foldl (fwStep perm) (seen, []) = acc at *
          obtain ⟨se, st⟩ := acc
          dsimp only at hJ2 hok'
          have hBW := hJ2.below.size
          have hBxl := hOx.lt
          have hb7l := hJ2.eb.lt
          have hb8l := hJ2.qb.lt
          have x0 : W.cell? ⟨Bx, 0, none⟩ = some (.int .i64 x.f) := hOx.cell 0
          have x1 : W.cell? ⟨Bx, 1, none⟩ = some (.int .i64 x.e) := hOx.cell 1
          have x2 : W.cell? ⟨Bx, 2, none⟩ = some (.int .i64 x.t) := hOx.cell 2
          have e0 : W.cell? ⟨w1.heap.size, 0, none⟩ = some (.slice (some ⟨b1, o1, none⟩) n c1) := hJ2.eb.cell 0
          have hlen := hok'.len
          have e1 := hJ2.se.cellAt x.t.toNat (by omega)
          have hq : x.t.toNat < se.length := by omega
          have hstl : st.length ≤ 1000000 := by have := hok'.sum; have := Hm.out; omega
          clear hlen
          rw [List.getElem?_map, List.getElem?_eq_getElem hq, Option.map_some] at e1
          cases hb : se[x.t.toNat]
          · rw [hb] at e1
            have e2 : W.cell? ⟨w.heap.size + 1, 0, none⟩ = some (.func (.func fp) #[] capp) := hJ2.fp.cell 0
            have Hb := Lib.hid hb
            clear hb
            have hHep : Hid (∀ args W, (callFunc fp args).run Try.prog W = .ok (.enter fp args) W) := Hep.out
            cases hpx : perm x
            · have Hpx := Lib.hid hpx
              clear hpx
              gi_wp2_with fail
              refine ⟨trivial, ?_⟩
              rw [hHep.out, Oper.uponIn_enter]
              refine ⟨fun _ => by decide, ?_⟩
              refine (CallsIn.inRound l (callsIn_wide.2 (Hp.out x W hxe hJ2.below))).mono ?_
              rintro e w4 ⟨he, hb4⟩
              rw [Hpx.out] at he
              subst he
              dsimp only
              gi_wp2
              refine ⟨(keepsBelow hb4), belCall (Below.refl _ _) hb4 hJ2.below.size, Hmem.out, tagUp tag Bx 5, vq, ?_⟩
              rw [Hacc.out, show fwStep perm (se, st) x = (se, st) from ?_]
              · exact hJ2.call hb4
              · unfold fwStep
                rw [if_neg]
                rw [Hpx.out]
                simp
            · have Hpx := Lib.hid hpx
              clear hpx
              gi_wp2_with fail
              refine ⟨trivial, ?_⟩
              rw [hHep.out, Oper.uponIn_enter]
              refine ⟨fun _ => by decide, ?_⟩
              refine (CallsIn.inRound l (callsIn_wide.2 (Hp.out x W hxe hJ2.below))).mono ?_
              rintro e w4 ⟨he, hb4⟩
              rw [Hpx.out] at he
              subst he
              dsimp only
              have hJ4 := hJ2.call hb4
              have hO4 := hOx.below hb4
              obtain ⟨avs, cvs, rfl⟩ := hJ4.st.val
              clear x0 x1 x2 e0 e1 e2 hJ2 hOx
              have hBxl4 := hO4.lt
              have hb7l4 := hJ4.eb.lt
              have hb8l4 := hJ4.qb.lt
              have x2 : w4.cell? ⟨Bx, 2, none⟩ = some (.int .i64 x.t) := hO4.cell 2
              have e0 : w4.cell? ⟨w1.heap.size, 0, none⟩ = some (.slice (some ⟨b1, o1, none⟩) n c1) := hJ4.eb.cell 0
              have e1 := hJ4.se.cellAt x.t.toNat (by omega)
              rw [List.getElem?_map, List.getElem?_eq_getElem hq, Option.map_some] at e1
              have e2 := hJ4.se.frozenAt (o1 + x.t.toNat)
              obtain ⟨hJ5, t5⟩ := hJ4.setSeen x.t.toNat
              have hO5 := hO4.turn t5 (by decide)
              have z2 : (w4.setCell ⟨b1, o1 + x.t.toNat, none⟩ (.bool true)).cell? ⟨Bx, 2, none⟩ = some (.int .i64 x.t) := hO5.cell 2
              have z3 : (w4.setCell ⟨b1, o1 + x.t.toNat, none⟩ (.bool true)).cell? ⟨w2.heap.size, 0, none⟩ = some (.slice avs st.length cvs) := hJ5.qb.cell 0
              have T5 := Lib.hid t5
              clear t5 hO5 hJ4 hO4
              obtain ⟨i1, hi1, hw0, hw1, hw2⟩ := info_parts Try.info_int
              have hJ6 := hJ5.call (bel_alloc _ (.cells #[.int .i64 x.t] 3))
              gi_wp2_with (gi_at_builtin; (refine wpListIn_append_row rfl _ _ 28 rfl 3 i1 (.int .i64 0) 8 Try.underlying28 hi1 hw0 hw1 hw2 rfl rfl hJ6.st (some ⟨_, 0, none⟩) 1 1 [.int .i64 x.t] rfl rfl (by simp) (fun ad e => by cases e; exact new_cells_at _ _ (by simp)) (by simp [Value.oneCell']) (by unfold maxLen; omega) (by omega) hJ6.below.size ?_); intro v6 w6 tag6 hr6 ht6; have hJ7 := hJ6.push (x := x.t) hr6 ht6; have s6 := hJ6.qb.turn ht6 (by decide); obtain ⟨a6, c6, rfl⟩ := hr6.val; have z0 := s6.cell 0; have z1 := s6.frozen 0; have z4 : w6.cell? ⟨w2.heap.size, 0, none⟩ = some (.slice avs st.length cvs) := z0; clear z0)
              refine ⟨(keepsBelow hb4).trans ((keepsTurn T5.out).trans ((keepsBelow (bel_alloc _ (.cells #[.int .i64 x.t] 3))).trans ((keepsTurn ht6).trans (keepsTurn (Turn.setCell s6 0 (.slice a6 (st.length + 1) c6)))))), ?_, Hmem.out, tag6, .slice a6 (st.length + 1) c6, ?_⟩
              · have q1 := belCall (Below.refl w.heap.size W) hb4 hBW
                have q2 := belTurn q1 T5.out (Nat.le_trans hBW hb4.size)
                have q3 := belCall q2 (bel_alloc _ (.cells #[.int .i64 x.t] 3)) (Nat.le_trans hBW q2.size)
                have q4 := belTurn q3 ht6 (Nat.le_trans hBW q3.size)
                exact belTurn q4 (Turn.setCell s6 0 (.slice a6 (st.length + 1) c6)) (Nat.le_trans hBW q4.size)
              · rw [Hacc.out, show fwStep perm (se, st) x = (se.set x.t.toNat true, st ++ [x.t]) from ?_]
                · exact hJ7
                · unfold fwStep
                  rw [if_pos]
                  dsimp only
                  rw [List.getElem?_eq_getElem hq, Hb.out, Hpx.out]
                  exact ⟨rfl, rfl⟩
          · rw [hb] at e1
            have Hb := Lib.hid hb
            clear hb
            gi_wp2
            refine ⟨fun _ h => (by cases h), ?_⟩
            gi_wp2
            refine ⟨KeepsFrom.refl _ _, Below.refl _ _, Hmem.out, tagUp tag Bx 5, vq, ?_⟩
            rw [Hacc.out, show fwStep perm (se, st) x = (se, st) from ?_]
            · exact hJ2
            · unfold fwStep
              rw [if_neg]
              dsimp only
              rw [List.getElem?_eq_getElem hq, Hb.out]
              simp
        case done =>
          rintro D W hD ⟨hpre, tag', vq', hW⟩ hd
          have hW2 := hW.mark (fun D' hD' => hI4.marks.lt hD') hD hI4.below.size hd
          have Hfin := Lib.hid hW2
          have hok' := FOk.fold (perm := perm) (subOf es s) Hok2.out (fun y hy => Hin.out y (subOf_mem hy))
          clear hpre hseq hd hW hW2
          go_wp2_with fail
          refine Handed.intro (m - 1 + 1) (by have := Hm1.out; omega) (hJ _ _ _ ?_)
          repeat apply Exists.intro
          exact ⟨Hfin.out, hok', rfl, by have := Hm.out; omega, Hnext.out, rfl⟩
      · have hI2 := hI.setQ (htail.2 hcap)
        have hcap2 : ¬ 1 = cq := fun e => hcap e.symm
        clear htail
        go_wp2_with fail
        have hI3 : FInv w #[.slice aa la ca, .int .i64 n, .slice am lm cm, .slice ae es.length ce, .slice (some ⟨bf, offf, none⟩) (n + 1) cf] (.func (.func fp) #[] capp) n w1.heap.size w2.heap.size (.slice (some ⟨b1, o1, none⟩) n c1) ds (wr.setCell ⟨w2.heap.size, 0, none⟩ (.slice (some ⟨bq, oq + 1, none⟩) q.length (cq - 1))) tag (.slice (some ⟨bq, oq + 1, none⟩) q.length (cq - 1)) seen q := by simpa using hI2
        clear g0 g1 g2 g3 g4 k8 f8 hcs hI2 hI hwne hwne2
        generalize wr.setCell ⟨w2.heap.size, 0, none⟩ _ = wq at *
        refine (edges_any _ _ _ _ _ _ _ _ _ _ _ _ _ _ _).mono ?_
        rintro e w3 ⟨rfl, rfl⟩
        go_wp2_with fail
        have hI4 := (hI3.call (bel_alloc wq (.cells #[.slice aa la ca, .int .i64 n, .slice am lm cm, .slice ae es.length ce, .slice (some ⟨bf, offf, none⟩) (n + 1) cf] 80))).call (bel_alloc _ (.cells #[.int .i64 s] 3))
        have hg3 : ((wq.alloc (.cells #[.slice aa la ca, .int .i64 n, .slice am lm cm, .slice ae es.length ce, .slice (some ⟨bf, offf, none⟩) (n + 1) cf] 80)).alloc (.cells #[.int .i64 s] 3)).cell? ⟨wq.heap.size, 3, none⟩ = some (.slice ae es.length ce) := by simp [go_sem]
        have hg4 : ((wq.alloc (.cells #[.slice aa la ca, .int .i64 n, .slice am lm cm, .slice ae es.length ce, .slice (some ⟨bf, offf, none⟩) (n + 1) cf] 80)).alloc (.cells #[.int .i64 s] 3)).cell? ⟨wq.heap.size, 4, none⟩ = some (.slice (some ⟨bf, offf, none⟩) (n + 1) cf) := by simp [go_sem]
        have hg5 : ((wq.alloc (.cells #[.slice aa la ca, .int .i64 n, .slice am lm cm, .slice ae es.length ce, .slice (some ⟨bf, offf, none⟩) (n + 1) cf] 80)).alloc (.cells #[.int .i64 s] 3)).cell? ⟨wq.heap.size + 1, 0, none⟩ = some (.int .i64 s) := by simp [go_sem]
        clear hI3
        generalize (wq.alloc (.cells #[.slice aa la ca, .int .i64 n, .slice am lm cm, .slice ae es.length ce, .slice (some ⟨bf, offf, none⟩) (n + 1) cf] 80)).alloc (.cells #[.int .i64 s] 3) = w3 at *
        have hfc : ∀ j : Nat, j ≤ n → w3.cell? ⟨bf, offf + j, none⟩ = some (.int .i64 (fstN es j)) := by
          intro j hj
          have h1 := Hcf.out j (by simp [firsts]; omega)
          have h2 := firsts_get n es j hj
          rw [List.getElem?_eq_getElem (by simp [firsts]; omega)] at h2
          rw [Option.some.inj h2] at h1
          exact keep0 hI4.below h1
        have hseq := edges_stops wq.heap.size (wq.heap.size + 1) w.heap.size ae (some ⟨bf, offf, none⟩) ce (n + 1) cf s es (fstN es s) (fstN es (s + 1)) (fstN_mono es _ _ (by omega)) (fstN_le es _) hl w3 hI4.below.size hg3 hg4 hg5 hs0 (by omega) bf offf rfl (by omega)
          (by have := hfc s.toNat (by omega); rwa [Int.toNat_of_nonneg hs0] at this) (by have := hfc (s + 1).toNat (by omega); rwa [Int.toNat_of_nonneg (by omega)] at this) (hre.mono hI4.below) (fun h0 ad e => World.block_lt_of_cell? w ⟨ad.block, ad.off + 0, none⟩ (hre.cell ad e 0 (by rw [hre.hlen]; omega)))
        clear hg3 hg4 hg5 hfc
        refine wp_edges (bg := wq.heap.size) (bs := wq.heap.size + 1) (n₀ := w.heap.size) rfl hseq (Below.refl _ _) hI4.below.size rfl
          (fun pre W => (∀ y ∈ pre, y ∈ subOf es s) ∧ ∃ tag vq, FInv w #[.slice aa la ca, .int .i64 n, .slice am lm cm, .slice ae es.length ce, .slice (some ⟨bf, offf, none⟩) (n + 1) cf] (.func (.func fp) #[] capp) n w1.heap.size w2.heap.size (.slice (some ⟨b1, o1, none⟩) n c1) ds W tag vq (pre.foldl (fwStep perm) (seen, q)).1 (pre.foldl (fwStep perm) (seen, q)).2)
          ?hI ⟨by simp, tag, _, hI4⟩
          (fun x a' W => ∃ (Bx : Nat) (y17 y18 y19 y20 y21 y22 y23 y24 : Value), w.heap.size ≤ Bx ∧ W.heap[Bx]? = some (.cells #[.int .i64 x.f, .int .i64 x.e, .int .i64 x.t] 45 (0, 0)) ∧ a' = { tmps := #[Value.agg #[.slice aa la ca, .int .i64 n, .slice am lm cm, .slice ae es.length ce, .slice (some ⟨bf, offf, none⟩) (n + 1) cf], v, Value.func (.func fp) #[] capp, Value.pointer (some ⟨w.heap.size, 0, none⟩), undef, Value.pointer (some ⟨w.heap.size + 1, 0, none⟩), Value.slice none 0 0, Value.pointer (some ⟨w1.heap.size, 0, none⟩), Value.pointer (some ⟨w2.heap.size, 0, none⟩), Value.int .i64 s, Value.pointer (some ⟨Bx, 0, none⟩), Value.pointer (some ⟨w.heap.size, 0, none⟩), Value.agg #[.slice aa la ca, .int .i64 n, .slice am lm cm, .slice ae es.length ce], v, Value.slice (some ⟨b1, o1, none⟩) n c1, v, Value.slice a2 start.length c2, y17, y18, y19, y20, y21, y22, y23, y24, Value.agg #[.slice aa la ca, .int .i64 n, .slice am lm cm, .slice ae es.length ce, .slice (some ⟨bf, offf, none⟩) (n + 1) cf], Value.int .i64 s, Value.func (.func 84) #[] #[.pointer (some ⟨wq.heap.size, 0, none⟩), .pointer (some ⟨wq.heap.size + 1, 0, none⟩)], Value.agg #[.int .i64 x.f, .int .i64 x.e, .int .i64 x.t], v29, v30, v31, v32, v33, v34, v35, v36, v37, v38, v39, v40, v41, v42, v43, v44, v45, v46, v47, v48, undef], defers := [] })
          ?hAx ?assign ?body ?done
        case hI =>
          intro pre W W' row h1 hg hr
          obtain ⟨h1, tag, vs, h2⟩ := h1
          exact ⟨h1, tag, vs, h2.others hg (fun D hD => hI4.marks.lt hD) hI4.below.size hr⟩
        case hAx =>
          intro x a' u W W' row h1 hg hr
          obtain ⟨Bx, y17, y18, y19, y20, y21, y22, y23, y24, h1, h2, h3⟩ := h1
          refine ⟨Bx, y17, y18, y19, y20, y21, y22, y23, y24, h1, (hg.block Bx (Array.getElem?_eq_some_iff.1 h2).1 (fun e => ?_)).trans h2, h3⟩
          obtain ⟨o, ho, hc⟩ := (hr Bx e.symm).2
          rw [h2] at ho
          cases ho
          cases hc
        case assign =>
          intro l pre x W K hx hiW hK
          dsimp only [Ed.val]
          gi_wp2
          refine hK _ _ ((KeepsOthers.alloc _ _).from _) ((Below.refl _ W).alloc ?_ _) ?_ ⟨W.heap.size, _, _, _, _, _, _, _, _, ?_, (by repeat (first | with_reducible assumption | (refine heap_drewp ?_) | (refine heap_at ?_; (first | rfl | (simp; done) | (simp; omega))) | (refine heap_past ?_ ?_; (next => first | omega | (simp; done) | (simp; omega))))), rfl⟩
          · obtain ⟨_, _, _, h2⟩ := hiW; exact h2.below.size
          · obtain ⟨h1, tag, vs, h2⟩ := hiW; exact ⟨h1, tag, vs, h2.call (bel_alloc _ _)⟩
          · obtain ⟨_, _, _, h2⟩ := hiW; exact h2.below.size
        case body =>
          rintro l pre x a' W hx hl ⟨hpre, tag, vq, hJ⟩ ⟨Bx, y17, y18, y19, y20, y21, y22, y23, y24, hBx, hbx, rfl⟩
          have hJ2 := hJ.retag hbx
          have hOx : Own W w.heap.size (tagUp tag Bx 5) 5 Bx #[.int .i64 x.f, .int .i64 x.e, .int .i64 x.t] 45 := ⟨hbx, tagUp_at _ _ _, hBx⟩
          have hxe := subOf_mem hx
          have hxr := Hin.out x hxe
          have hok' := FOk.fold (perm := perm) pre Hok2.out (fun y hy => Hin.out y (subOf_mem (hpre y hy)))
          have Hmem : Hid (∀ y ∈ pre ++ [x], y ∈ subOf es s) := by
            intro y hy
            rcases List.mem_append.1 hy with h1 | h1
            · exact hpre y h1
            · rw [List.mem_singleton.1 h1]; exact hx
          have Hacc : Hid ((pre ++ [x]).foldl (fwStep perm) (seen, q) = fwStep perm (pre.foldl (fwStep perm) (seen, q)) x) := by
            show _ = _
            rw [List.foldl_append]; rfl
          clear hpre hx hJ
          generalize pre.foldl (fwStep perm) (seen, q) = acc at *
          obtain ⟨se, st⟩ := acc
          dsimp only at hJ2 hok'
          have hBW := hJ2.below.size
          have hBxl := hOx.lt
          have hb7l := hJ2.eb.lt
          have hb8l := hJ2.qb.lt
          have x0 : W.cell? ⟨Bx, 0, none⟩ = some (.int .i64 x.f) := hOx.cell 0
          have x1 : W.cell? ⟨Bx, 1, none⟩ = some (.int .i64 x.e) := hOx.cell 1
          have x2 : W.cell? ⟨Bx, 2, none⟩ = some (.int .i64 x.t) := hOx.cell 2
          have e0 : W.cell? ⟨w1.heap.size, 0, none⟩ = some (.slice (some ⟨b1, o1, none⟩) n c1) := hJ2.eb.cell 0
          have hlen := hok'.len
          have e1 := hJ2.se.cellAt x.t.toNat (by omega)
          have hq : x.t.toNat < se.length := by omega
          have hstl : st.length ≤ 1000000 := by have := hok'.sum; have := Hm.out; omega
          clear hlen
          rw [List.getElem?_map, List.getElem?_eq_getElem hq, Option.map_some] at e1
          cases hb : se[x.t.toNat]
          · rw [hb] at e1
            have e2 : W.cell? ⟨w.heap.size + 1, 0, none⟩ = some (.func (.func fp) #[] capp) := hJ2.fp.cell 0
            have Hb := Lib.hid hb
            clear hb
            have hHep : Hid (∀ args W, (callFunc fp args).run Try.prog W = .ok (.enter fp args) W) := Hep.out
            cases hpx : perm x
            · have Hpx := Lib.hid hpx
              clear hpx
              gi_wp2_with fail
              refine ⟨trivial, ?_⟩
              rw [hHep.out, Oper.uponIn_enter]
              refine ⟨fun _ => by decide, ?_⟩
              refine (CallsIn.inRound l (callsIn_wide.2 (Hp.out x W hxe hJ2.below))).mono ?_
              rintro e w4 ⟨he, hb4⟩
              rw [Hpx.out] at he
              subst he
              dsimp only
              gi_wp2
              refine ⟨(keepsBelow hb4), belCall (Below.refl _ _) hb4 hJ2.below.size, Hmem.out, tagUp tag Bx 5, vq, ?_⟩
              rw [Hacc.out, show fwStep perm (se, st) x = (se, st) from ?_]
              · exact hJ2.call hb4
              · unfold fwStep
                rw [if_neg]
                rw [Hpx.out]
                simp
            · have Hpx := Lib.hid hpx
              clear hpx
              gi_wp2_with fail
              refine ⟨trivial, ?_⟩
              rw [hHep.out, Oper.uponIn_enter]
              refine ⟨fun _ => by decide, ?_⟩
              refine (CallsIn.inRound l (callsIn_wide.2 (Hp.out x W hxe hJ2.below))).mono ?_
              rintro e w4 ⟨he, hb4⟩
              rw [Hpx.out] at he
              subst he
              dsimp only
              have hJ4 := hJ2.call hb4
              have hO4 := hOx.below hb4
              obtain ⟨avs, cvs, rfl⟩ := hJ4.st.val
              clear x0 x1 x2 e0 e1 e2 hJ2 hOx
              have hBxl4 := hO4.lt
              have hb7l4 := hJ4.eb.lt
              have hb8l4 := hJ4.qb.lt
              have x2 : w4.cell? ⟨Bx, 2, none⟩ = some (.int .i64 x.t) := hO4.cell 2
              have e0 : w4.cell? ⟨w1.heap.size, 0, none⟩ = some (.slice (some ⟨b1, o1, none⟩) n c1) := hJ4.eb.cell 0
              have e1 := hJ4.se.cellAt x.t.toNat (by omega)
              rw [List.getElem?_map, List.getElem?_eq_getElem hq, Option.map_some] at e1
              have e2 := hJ4.se.frozenAt (o1 + x.t.toNat)
              obtain ⟨hJ5, t5⟩ := hJ4.setSeen x.t.toNat
              have hO5 := hO4.turn t5 (by decide)
              have z2 : (w4.setCell ⟨b1, o1 + x.t.toNat, none⟩ (.bool true)).cell? ⟨Bx, 2, none⟩ = some (.int .i64 x.t) := hO5.cell 2
              have z3 : (w4.setCell ⟨b1, o1 + x.t.toNat, none⟩ (.bool true)).cell? ⟨w2.heap.size, 0, none⟩ = some (.slice avs st.length cvs) := hJ5.qb.cell 0
              have T5 := Lib.hid t5
              clear t5 hO5 hJ4 hO4
              obtain ⟨i1, hi1, hw0, hw1, hw2⟩ := info_parts Try.info_int
              have hJ6 := hJ5.call (bel_alloc _ (.cells #[.int .i64 x.t] 3))
              gi_wp2_with (gi_at_builtin; (refine wpListIn_append_row rfl _ _ 28 rfl 3 i1 (.int .i64 0) 8 Try.underlying28 hi1 hw0 hw1 hw2 rfl rfl hJ6.st (some ⟨_, 0, none⟩) 1 1 [.int .i64 x.t] rfl rfl (by simp) (fun ad e => by cases e; exact new_cells_at _ _ (by simp)) (by simp [Value.oneCell']) (by unfold maxLen; omega) (by omega) hJ6.below.size ?_); intro v6 w6 tag6 hr6 ht6; have hJ7 := hJ6.push (x := x.t) hr6 ht6; have s6 := hJ6.qb.turn ht6 (by decide); obtain ⟨a6, c6, rfl⟩ := hr6.val; have z0 := s6.cell 0; have z1 := s6.frozen 0; have z4 : w6.cell? ⟨w2.heap.size, 0, none⟩ = some (.slice avs st.length cvs) := z0; clear z0)
              refine ⟨(keepsBelow hb4).trans ((keepsTurn T5.out).trans ((keepsBelow (bel_alloc _ (.cells #[.int .i64 x.t] 3))).trans ((keepsTurn ht6).trans (keepsTurn (Turn.setCell s6 0 (.slice a6 (st.length + 1) c6)))))), ?_, Hmem.out, tag6, .slice a6 (st.length + 1) c6, ?_⟩
              · have q1 := belCall (Below.refl w.heap.size W) hb4 hBW
                have q2 := belTurn q1 T5.out (Nat.le_trans hBW hb4.size)
                have q3 := belCall q2 (bel_alloc _ (.cells #[.int .i64 x.t] 3)) (Nat.le_trans hBW q2.size)
                have q4 := belTurn q3 ht6 (Nat.le_trans hBW q3.size)
                exact belTurn q4 (Turn.setCell s6 0 (.slice a6 (st.length + 1) c6)) (Nat.le_trans hBW q4.size)
              · rw [Hacc.out, show fwStep perm (se, st) x = (se.set x.t.toNat true, st ++ [x.t]) from ?_]
                · exact hJ7
                · unfold fwStep
                  rw [if_pos]
                  dsimp only
                  rw [List.getElem?_eq_getElem hq, Hb.out, Hpx.out]
                  exact ⟨rfl, rfl⟩
          · rw [hb] at e1
            have Hb := Lib.hid hb
            clear hb
            gi_wp2
            refine ⟨fun _ h => (by cases h), ?_⟩
            gi_wp2
            refine ⟨KeepsFrom.refl _ _, Below.refl _ _, Hmem.out, tagUp tag Bx 5, vq, ?_⟩
            rw [Hacc.out, show fwStep perm (se, st) x = (se, st) from ?_]
            · exact hJ2
            · unfold fwStep
              rw [if_neg]
              dsimp only
              rw [List.getElem?_eq_getElem hq, Hb.out]
              simp
        case done =>
          rintro D W hD ⟨hpre, tag', vq', hW⟩ hd
          have hW2 := hW.mark (fun D' hD' => hI4.marks.lt hD') hD hI4.below.size hd
          have Hfin := Lib.hid hW2
          have hok' := FOk.fold (perm := perm) (subOf es s) Hok2.out (fun y hy => Hin.out y (subOf_mem hy))
          clear hpre hseq hd hW hW2
          go_wp2_with fail
          refine Handed.intro (m - 1 + 1) (by have := Hm1.out; omega) (hJ _ _ _ ?_)
          repeat apply Exists.intro
          exact ⟨Hfin.out, hok', rfl, by have := Hm.out; omega, Hnext.out, rfl⟩
end Go.Proofs.Ythchkddhibhenaa

/- The contracts of anyEdge, reachable and Reachable. -/
namespace Go.Proofs.Ythchkddhibhenaa
open Go.RowKit

theorem anyEdge_any (x : Ed) (w : World) : Calls Try.prog 65 #[x.val] w fun e w' => e = .returned (.bool true) ∧ Below w.heap.size w w' := by
  dsimp only [Ed.val]
  go_enter Try.func65, Try.ntmps65
  go_wp2
  go_ret
  exact ⟨rfl, by first | exact Below.refl _ _ | exact bel_alloc _ _⟩

/-- The flags that reachable returns. -/
def reachF (n : Nat) (es : List Ed) : List Bool := if n = 0 then [] else forwardF n es (fun _ => true) [0]

set_option maxRecDepth 100000 in
set_option maxHeartbeats 1600000 in
theorem reachable_any (aa am ae af : Option Addr) (la lm ca cm ce cf : Nat) (n : Nat) (es : List Ed) (w : World)
    (hre : RdS w 3 ae es.length ce (edCells es)) (hrf : RdS w 1 af (n + 1) cf (ints (firsts n es))) (hl : es.length ≤ 1000000) (hn : n ≤ 100000) (hin : ∀ x ∈ es, 0 ≤ x.t ∧ x.t < (n : Int)) :
    Calls Try.prog 60 #[.agg #[.slice aa la ca, .int .i64 n, .slice am lm cm, .slice ae es.length ce, .slice af (n + 1) cf]] w (Ret w fun u w' => RdB w' u (reachF n es)) := by
  have HR : Hid (reachF n es = if n = 0 then [] else forwardF n es (fun _ => true) [0]) := rfl
  generalize reachF n es = R at *
  have Hin := Lib.hid hin
  clear hin
  go_enter Try.func60, Try.ntmps60
  by_cases h0 : n = 0
  · subst h0
    go_wp2_with fail
    go_ret
    refine ⟨_, rfl, ?_, (Below.refl _ _).alloc (Nat.le_refl _) _⟩
    rw [HR.out, if_pos (by trivial)]
    exact ⟨none, 0, rfl, ⟨rfl, Nat.le_refl _, by simp [maxLen], fun _ => rfl, fun _ e => (by cases e), fun _ e => (by cases e)⟩⟩
  · have hn0 : ((n : Int) == 0) = false := by simp; omega
    have HR2 : Hid (R = forwardF n es (fun _ => true) [0]) := by show _ = _; rw [HR.out, if_neg h0]
    have hpos : 0 < n := by omega
    clear h0 HR
    go_wp2_with fail
    have hbw := (bel_alloc w (.cells #[.slice aa la ca, .int .i64 n, .slice am lm cm, .slice ae es.length ce, .slice af (n + 1) cf] 80)).trans ((bel_alloc _ (.cells #[.int .i64 0] 3)).mono (by simp))
    refine (forward_any aa am ae af la lm ca cm ce cf n es 65 #[] (fun _ => true) _ [0] _ (hre.mono hbw) (hrf.mono hbw) ⟨_, 1, rfl, RdS.lit (cs := #[.int .i64 0]) (heap_at (by simp)) rfl (by decide)⟩ hl (by simp; omega) hpos (fun s hs => by rw [List.mem_singleton.1 hs]; omega) Hin.out (fun _ _ => by kernel_rfl) (fun x W _ _ => anyEdge_any x W)).mono ?_
    rintro e w3 ⟨v3, rfl, hr3, hb3⟩
    have Hr3 := Lib.hid hr3
    obtain ⟨a3, c3, rfl, hr3'⟩ := hr3
    clear hr3'
    go_wp2_with fail
    go_ret
    exact ⟨_, rfl, by rw [HR2.out]; exact Hr3.out, hbw.trans (hb3.mono hbw.size)⟩

set_option maxRecDepth 100000 in
set_option maxHeartbeats 1600000 in
theorem reachables_any (v : Value) (a : Aut) (w : World) (ha : RdA w v a) (hs : a.small) :
    Calls Try.prog 26 #[v] w (Ret w (ListPost a.err (listL (reachF a.n.toNat a.es)))) := by
  have ha0 := ha
  obtain ⟨va, vm, ve, rfl, ⟨aa, ca, rfl, hra⟩, ⟨am, cm, rfl, hrm⟩, ⟨ae, ce, rfl, hre⟩⟩ := ha
  have Ha0 := Lib.hid ha0
  have Hs := Lib.hid hs
  clear ha0 hs
  go_enter Try.func26, Try.ntmps26
  go_wp2_with fail
  refine (check_any _ a _ (Ha0.out.mono (by (repeat (first | with_reducible exact Below.refl _ _ | with_reducible exact Ha0 | (with_reducible refine belCall ?_ Ha0 (by first | omega | (simp; done) | (simp; omega) | (simp at *; omega))) | (with_reducible refine Below.alloc ?_ (by first | omega | (simp; done) | (simp; omega) | (simp at *; omega)) _) | (with_reducible refine Below.drew ?_) | (with_reducible refine Below.setCell ?_ (by first | omega | (simp; done) | (simp; omega) | (simp at *; omega)) _))))) Hs.out).mono ?_
  rintro e w1 ⟨_, rfl, rfl, hb1⟩
  have hW1 : Below w.heap.size w w1 := ((Below.refl _ _).alloc (Nat.le_refl _) _).trans (hb1.mono (by simp))
  have hbx := box4 hb1
  clear hb1
  by_cases h1 : a.err = 0
  · have hok := Aut.ok_of h1
    have H1 := Lib.hid h1
    rw [h1]
    clear h1
    have hn0 := hok.n0
    have hn1 := hok.n1
    have Hes := Lib.hid hok.es
    have hae := Hs.out.es
    clear hok
    generalize hn : a.n = an at *
    obtain ⟨n, rfl⟩ := Int.eq_ofNat_of_zero_le hn0
    have Hn := Lib.hid hn
    obtain ⟨x0, x1, x2, x3, x4⟩ := hbx
    clear hn hn0
    go_wp2_with fail
    refine (newGraph_any _ _ _ _ _ _ _ n a.es _ (RdE.mono ⟨ae, ce, rfl, hre⟩ hW1) hae (by omega) (fun x hx => ⟨(Hes.out x hx).1, (Hes.out x hx).2.1⟩)).mono ?_
    rintro e w3 ⟨_, rfl, ⟨af, cf, rfl, hrf⟩, hb3⟩
    have hW3 := hW1.trans (hb3.mono hW1.size)
    clear x0 x1 x2 x3 x4 hb3
    go_wp2_with fail
    refine (reachable_any aa am ae af _ _ ca cm ce cf n a.es _ (hre.mono hW3) hrf hae (by omega) (fun x hx => (Hes.out x hx).2.2)).mono ?_
    rintro e w4 ⟨v4, rfl, hr4, hb4⟩
    have hW4 := hW3.trans (hb4.mono hW3.size)
    have hfl : (reachF n a.es).length ≤ 1000000 := by
      obtain ⟨a4, c4, _, h5⟩ := hr4
      unfold reachF
      split
      · simp
      · rename_i h6
        have := forwardF_length (perm := fun _ => true) n a.es [0] (fun x hx => (Hes.out x hx).2.2) (fun s hs => by rw [List.mem_singleton.1 hs]; omega)
        omega
    have Hr4 := Lib.hid hr4
    obtain ⟨a4, c4, rfl, hr4'⟩ := hr4
    clear hr4' hb4
    go_wp2_with fail
    refine (list_any _ _ _ Hr4.out hfl).mono ?_
    rintro e w5 ⟨v5, rfl, hown5, hb5⟩
    have H5 := Lib.hid (RdI.of_own hown5)
    obtain ⟨a5, c5, rfl, hr5⟩ := RdS.of_own hown5
    clear hr5 hown5
    go_wp2_with fail
    go_ret2
    refine ⟨_, rfl, ?_, hW4.trans (hb5.mono hW4.size)⟩
    rw [ListPost, if_pos H1.out]
    exact ⟨_, rfl, H5.out⟩
  · have H1 := Lib.hid h1
    have h1' : (a.err != 0) = true := by simpa using h1
    clear h1
    go_wp2_with fail
    go_ret2
    refine ⟨_, rfl, ?_, hW1⟩
    rw [ListPost, if_neg H1.out]
    rfl
end Go.Proofs.Ythchkddhibhenaa

/- The contract of automaton.Accepts. -/
namespace Go.Proofs.Ythchkddhibhenaa
open Go Go.RowKit

/-- The state to which an event leads. -/
def nextF (es : List Ed) (s e : Int) : Option Int := ((subOf es s).find? fun x => x.e == e).map Ed.t
/-- The state to which a word leads. -/
def runF (es : List Ed) : Int → List Int → Option Int
  | s, [] => some s
  | s, e :: w => match nextF es s e with
    | some t => runF es t w
    | none => none
/-- Whether a word is accepted. -/
def accF (a : Aut) (w : List Int) : Bool := if a.n = 0 then false else match runF a.es 0 w with
  | some t => hasB a.ms t
  | none => false

theorem nextEv_any (be : Nat) (x : Ed) (e : Int) (w : World) (he : w.cell? ⟨be, 0, none⟩ = some (.int .i64 e)) : Calls Try.prog 118 #[x.val, .pointer (some ⟨be, 0, none⟩)] w (Ret w fun u _ => u = .bool (x.e == e)) := by
  obtain ⟨xf, xe, xt⟩ := x
  have hbl := World.block_lt_of_cell? _ _ he
  dsimp only [Ed.val] at *
  go_enter Try.func118, Try.ntmps118
  go_wp2
  go_ret
  exact ⟨_, rfl, rfl, bel_alloc w _⟩
theorem enters_next1 : Enters Try.prog 118 := enters_of Try.func118 (by kernel_rfl) rfl

/-- The place of the first edge with an event. -/
def firstEv (l : List Ed) (e : Int) : Int := if (l.find? fun x => x.e == e).isSome = true then ((l.findIdx fun x => x.e == e : Nat) : Int) else -1
theorem firstEv_at {l : List Ed} {e : Int} {k : Nat} (hk : k < l.length) (hn : Hid (∀ j (h : j < l.length), j < k → (l[j].e == e) = false)) (h : (l[k].e == e) = true) : firstEv l e = k ∧ (l.find? fun x => x.e == e) = some l[k] := by
  have h1 : l.findIdx (fun x => x.e == e) = k := by
    rw [List.findIdx_eq hk]
    exact ⟨h, fun j hj => hn.out j (by omega) hj⟩
  have h2 : (l.find? fun x => x.e == e) = some l[k] := by
    rw [List.find?_eq_some_iff_getElem]
    exact ⟨h, k, hk, rfl, fun j hj => by rw [hn.out j (by omega) hj]; rfl⟩
  refine ⟨?_, h2⟩
  rw [firstEv, h2, h1]
  rfl
theorem firstEv_none {l : List Ed} {e : Int} {k : Nat} (hk : ¬ k < l.length) (hn : Hid (∀ j (h : j < l.length), j < k → (l[j].e == e) = false)) : firstEv l e = -1 ∧ (l.find? fun x => x.e == e) = none := by
  have h2 : (l.find? fun x => x.e == e) = none := by
    rw [List.find?_eq_none]
    intro x hx
    obtain ⟨j, hj, rfl⟩ := List.mem_iff_getElem.1 hx
    rw [hn.out j hj (by omega)]
    simp
  refine ⟨?_, h2⟩
  rw [firstEv, h2]
  rfl

set_option maxRecDepth 100000 in
theorem indexEv_any (v : Value) (l : List Ed) (be : Nat) (e : Int) (w : World) (hr : RdE w v l) (hl : l.length ≤ 1000000) (he : w.cell? ⟨be, 0, none⟩ = some (.int .i64 e)) :
    Calls Try.prog 117 #[v, .func (.func 118) #[] #[.pointer (some ⟨be, 0, none⟩)]] w (Ret w fun u _ => u = .int .i64 (firstEv l e)) := by
  obtain ⟨a, cap, rfl, hr⟩ := hr
  have hen : ∀ args W, (callFunc 118 args).run Try.prog W = .ok (.enter 118 args) W := enters_next1
  have hHen := Lib.hid hen
  clear hen
  go_enter Try.func117, Try.ntmps117
  go_wp2
  go_loopw [8] (fun i wr => ∃ k : Nat, k ≤ l.length ∧ i = .int .i64 k ∧ Below w.heap.size w wr ∧ Hid (∀ j (h : j < l.length), j < k → (l[j].e == e) = false)) (fun i _ => l.length - (intOf i).toNat)
  case atStart => exact ⟨0, Nat.zero_le _, rfl, Below.refl _ _, fun j _ h => absurd h (Nat.not_lt_zero _)⟩
  case round =>
    obtain ⟨k, hk, rfl, hB, hn⟩ := hrel
    by_cases hlt : k < l.length
    · obtain ⟨b, off, rfl, c0, c1, c2⟩ := hr.at_edge k hlt
      replace c0 := keep0 hB c0
      replace c1 := keep0 hB c1
      replace c2 := keep0 hB c2
      have he2 := keep0 hB he
      have Hc := Lib.hid (nextEv_any be l[k] e wr he2)
      have hyes := fun h => firstEv_at hlt hn h
      have hno : (l[k].e == e) = false → Hid (∀ j (h : j < l.length), j < k + 1 → (l[j].e == e) = false) := by
        intro h j hj hjk
        by_cases e1 : j = k
        · subst e1; exact h
        · exact hn.out j hj (by omega)
      have Hyes := Lib.hid hyes
      have Hno := Lib.hid hno
      clear hyes hno hn
      generalize l[k] = x at *
      have hcall : Calls Try.prog 118 #[.agg #[.int .i64 x.f, .int .i64 x.e, .int .i64 x.t], .pointer (some ⟨be, 0, none⟩)] wr (Ret wr fun u _ => u = .bool (x.e == e)) := Hc.out
      have Hcall := Lib.hid hcall
      clear hcall Hc
      go_wp2_with fail
      refine Hcall.out.mono ?_
      rintro e1 w1 ⟨_, rfl, rfl, hb1⟩
      have hB1 := hB.trans (hb1.mono hB.size)
      clear hB hb1 c0 c1 c2 he2
      cases hx : (x.e == e) with
      | true =>
        have hf := (Hyes.out hx).1
        clear Hyes Hno
        go_wp2
        go_ret
        exact ⟨_, rfl, congrArg (Value.int .i64) hf.symm, hB1⟩
      | false =>
        have hf := Hno.out hx
        clear Hyes Hno
        go_wp2
        go_roundw
        case rel => exact ⟨k + 1, by omega, by go_num, hB1, hf⟩
        case measure => simp [intOf]; omega
    · go_wp2
      go_ret
      exact ⟨_, rfl, congrArg (Value.int .i64) (firstEv_none hlt hn).1.symm, hB⟩
theorem firstEv_some {l : List Ed} {e : Int} {x : Ed} (h : (l.find? fun x => x.e == e) = some x) : ∃ k, ∃ hk : k < l.length, firstEv l e = (k : Int) ∧ l[k] = x := by
  obtain ⟨h1, k, hk, h2, h3⟩ := List.find?_eq_some_iff_getElem.1 h
  refine ⟨k, hk, (firstEv_at hk (fun j hj hjk => ?_) (by rw [h2]; exact h1)).1, h2⟩
  have := h3 j hjk
  simpa using this
/-- The next state, or -1. -/
def nextI (es : List Ed) (s e : Int) : Int := match nextF es s e with
  | some t => t
  | none => -1
set_option maxRecDepth 100000 in
theorem next_any (aa am ae : Option Addr) (ca cm ce : Nat) (a : Aut) (s : Nat) (ev : Int) (w : World) (hra : RdS w 1 aa a.al.length ca (ints a.al)) (hrm : RdS w 1 am a.ms.length cm (ints a.ms)) (hre : RdS w 3 ae a.es.length ce (edCells a.es)) (hle : a.es.length ≤ 1000000) (hso : a.es.Pairwise (fun x y => x.f ≤ y.f)) (hs : s < 100000000) (hxs : ∀ x ∈ a.es, 0 ≤ x.f ∧ x.f < 1000000000) :
    Calls Try.prog 93 #[.agg #[.slice aa a.al.length ca, .int .i64 a.n, .slice am a.ms.length cm, .slice ae a.es.length ce], .int .i64 s, .int .i64 ev] w (Ret w fun u _ => u = .int .i64 (nextI a.es s ev)) := by
  have Hout := Lib.hid (fun W hb => out_any aa am ae ca cm ce a s W (hra.mono hb) (hrm.mono hb) (hre.mono hb) hle hso hs hxs)
  clear hso hxs
  go_enter Try.func93, Try.ntmps93
  go_wp2_with fail
  have hb0 : Below w.heap.size w ((w.alloc (.cells #[.slice aa a.al.length ca, .int .i64 a.n, .slice am a.ms.length cm, .slice ae a.es.length ce] 31)).alloc (.cells #[.int .i64 ev] 3)) := by (repeat (first | with_reducible exact Below.refl _ _ | with_reducible exact hre | (with_reducible refine belCall ?_ hre (by first | omega | (simp; done) | (simp; omega) | (simp at *; omega))) | (with_reducible refine Below.alloc ?_ (by first | omega | (simp; done) | (simp; omega) | (simp at *; omega)) _) | (with_reducible refine Below.drew ?_) | (with_reducible refine Below.setCell ?_ (by first | omega | (simp; done) | (simp; omega) | (simp at *; omega)) _)))
  refine (Hout.out _ hb0).mono ?_
  rintro e w1 ⟨u1, rfl, h1, hb1⟩
  have hB1 := hb0.trans (hb1.mono hb0.size)
  obtain ⟨asb, csb, rfl, hsub⟩ := h1 w hre
  have hls := subOf_length a.es (s : Int)
  have e0 : w1.cell? ⟨w.heap.size + 1, 0, none⟩ = some (.int .i64 ev) := (hb1.cell (p := ⟨w.heap.size + 1, 0, none⟩) (by simp)).trans (by simp [go_sem])
  have hnx : nextI a.es s ev = match (subOf a.es (s : Int)).find? (fun x => x.e == ev) with | some x => x.t | none => -1 := by
    unfold nextI nextF
    cases (subOf a.es (s : Int)).find? (fun x => x.e == ev) <;> rfl
  have Hnx := Lib.hid hnx
  clear h1 hnx hb1
  generalize hN0 : nextI a.es s ev = N at *
  have HN0 := Lib.hid hN0
  clear hN0
  generalize subOf a.es (s : Int) = sub at *
  go_wp2_with fail
  refine (indexEv_any _ sub (w.heap.size + 1) ev w1 ⟨asb, csb, rfl, hsub.mono hB1⟩ (by omega) e0).mono ?_
  rintro e w2 ⟨_, rfl, rfl, hb2⟩
  have hB2 := hB1.trans (hb2.mono hB1.size)
  cases hf : sub.find? (fun x => x.e == ev) with
  | none =>
    have h2 := (firstEv_none (l := sub) (k := sub.length) (by omega) (fun j hj _ => by
      have := List.find?_eq_none.1 hf sub[j] (List.getElem_mem hj)
      simpa using this)).1
    rw [h2]
    have HN : Hid (N = -1) := by show _ = _; rw [Hnx.out, hf]
    clear hf h2 Hnx
    go_wp2
    go_ret
    exact ⟨_, rfl, congrArg (Value.int .i64) (HN0.out.trans HN.out).symm, hB2⟩
  | some x =>
    obtain ⟨k, hk, h2, hx⟩ := firstEv_some hf
    rw [h2]
    have HN : Hid (N = x.t) := by show _ = _; rw [Hnx.out, hf]
    obtain ⟨b, off, rfl, c0, c1, c2⟩ := hsub.at_edge k hk
    rw [hx] at c0 c1 c2
    replace c2 := keep0 hB2 c2
    clear hf h2 hx Hnx
    have hkI : (k : Int) < (sub.length : Int) := by omega
    go_wp2
    go_ret
    exact ⟨_, rfl, congrArg (Value.int .i64) (HN0.out.trans HN.out).symm, hB2⟩
theorem nextF_in {es : List Ed} {s e t : Int} (h : nextF es s e = some t) : ∃ x ∈ es, x.t = t := by
  unfold nextF at h
  cases hf : (subOf es s).find? (fun x => x.e == e) with
  | none => rw [hf] at h; cases h
  | some x =>
    rw [hf] at h
    exact ⟨x, subOf_mem (List.mem_of_find?_eq_some hf), by simpa using h⟩
/-- What follow returns. -/
def FollP (es : List Ed) (s : Int) (xs : List Int) (u : Value) : Prop := ∃ s' k : Int, u = .tuple #[.int .i64 s', .int .i64 k] ∧ (∀ t, runF es s xs = some t → s' = t ∧ k = xs.length) ∧ (runF es s xs = none → k < xs.length)
set_option maxRecDepth 100000 in
set_option maxHeartbeats 800000 in
theorem follow_any (aa am ae : Option Addr) (ca cm ce : Nat) (a : Aut) (s : Nat) (vx : Value) (xs : List Int) (w : World) (hra : RdS w 1 aa a.al.length ca (ints a.al)) (hrm : RdS w 1 am a.ms.length cm (ints a.ms)) (hre : RdS w 3 ae a.es.length ce (edCells a.es)) (hle : a.es.length ≤ 1000000) (hso : a.es.Pairwise (fun x y => x.f ≤ y.f)) (hs : s < 1000000) (hxs : ∀ x ∈ a.es, 0 ≤ x.f ∧ x.f < 1000000 ∧ 0 ≤ x.t ∧ x.t < 1000000)
    (hx : RdI w vx xs) (hlx : xs.length ≤ 1000000) :
    Calls Try.prog 83 #[.agg #[.slice aa a.al.length ca, .int .i64 a.n, .slice am a.ms.length cm, .slice ae a.es.length ce], .int .i64 s, vx] w (Ret w fun u _ => FollP a.es s xs u) := by
  obtain ⟨ax, cx, rfl, hrx⟩ := hx
  have Hnext := Lib.hid (fun (s : Nat) (ev : Int) W hb (hs : s < 1000000) => next_any aa am ae ca cm ce a s ev W (hra.mono hb) (hrm.mono hb) (hre.mono hb) hle hso (by omega) (fun x hx => by have := hxs x hx; omega))
  have Hxs := Lib.hid hxs
  clear hso hxs hra hrm hre
  go_enter Try.func83, Try.ntmps83
  go_wp2_with fail
  have hb0 := bel_alloc w (.cells #[.slice aa a.al.length ca, .int .i64 a.n, .slice am a.ms.length cm, .slice ae a.es.length ce] 31)
  have z0 : (w.alloc (.cells #[.slice aa a.al.length ca, .int .i64 a.n, .slice am a.ms.length cm, .slice ae a.es.length ce] 31)).cell? ⟨w.heap.size, 0, none⟩ = some (.slice aa a.al.length ca) := by simp [go_sem]
  have z1 : (w.alloc (.cells #[.slice aa a.al.length ca, .int .i64 a.n, .slice am a.ms.length cm, .slice ae a.es.length ce] 31)).cell? ⟨w.heap.size, 1, none⟩ = some (.int .i64 a.n) := by simp [go_sem]
  have z2 : (w.alloc (.cells #[.slice aa a.al.length ca, .int .i64 a.n, .slice am a.ms.length cm, .slice ae a.es.length ce] 31)).cell? ⟨w.heap.size, 2, none⟩ = some (.slice am a.ms.length cm) := by simp [go_sem]
  have z3 : (w.alloc (.cells #[.slice aa a.al.length ca, .int .i64 a.n, .slice am a.ms.length cm, .slice ae a.es.length ce] 31)).cell? ⟨w.heap.size, 3, none⟩ = some (.slice ae a.es.length ce) := by simp [go_sem]
  generalize w.alloc (.cells #[.slice aa a.al.length ca, .int .i64 a.n, .slice am a.ms.length cm, .slice ae a.es.length ce] 31) = wA at *
  go_loopw [1, 13] (fun v1 vi wr => ∃ (k s1 : Nat), v1 = .int .i64 (s1 : Nat) ∧ vi = .int .i64 (k : Nat) ∧ k ≤ xs.length ∧ s1 < 1000000 ∧ Below wA.heap.size wA wr ∧ Hid (runF a.es (s : Int) xs = runF a.es (s1 : Int) (xs.drop k))) (fun _ vi _ => xs.length - (intOf vi).toNat)
  case atStart => exact ⟨0, s, rfl, rfl, Nat.zero_le _, hs, Below.refl _ _, rfl⟩
  case round =>
    obtain ⟨k, s1, rfl, rfl, hk, hs1, hB, hrun⟩ := hrel
    have hBw := hb0.trans (hB.mono hb0.size)
    replace z0 := keep0 hB z0
    replace z1 := keep0 hB z1
    replace z2 := keep0 hB z2
    replace z3 := keep0 hB z3
    by_cases hlt : k < xs.length
    · have hltI : (k : Int) < (xs.length : Int) := by omega
      obtain ⟨b, off, rfl, hc⟩ := hrx.at_int k hlt
      replace hc := keep0 hBw hc
      have Hrun2 : Hid (runF a.es (s : Int) xs = match nextF a.es (s1 : Int) xs[k] with | some t => runF a.es t (xs.drop (k + 1)) | none => none) := by
        show _ = _
        rw [hrun.out, List.drop_eq_getElem_cons hlt, runF]
      have Hc := Lib.hid (Hnext.out s1 xs[k] wr hBw hs1)
      clear hrun
      generalize xs[k] = ev at *
      go_wp2_with fail
      refine Hc.out.mono ?_
      rintro e w1 ⟨_, rfl, rfl, hb1⟩
      have hB1 := hB.trans (hb1.mono hB.size)
      have hBw1 := hBw.trans (hb1.mono hBw.size)
      clear Hc hb1 hc z0 z1 z2 z3
      cases hnf : nextF a.es (s1 : Int) ev with
      | none =>
        rw [show nextI a.es (s1 : Int) ev = -1 by rw [nextI, hnf]]
        have HR : Hid (runF a.es (s : Int) xs = none) := by show _ = _; rw [Hrun2.out, hnf]
        clear hnf Hrun2
        go_wp2
        refine bodyPost_ret (v := .tuple #[.int .i64 (s1 : Nat), .int .i64 (k : Nat)]) (by simp [results, Try.results83, go_sem]) rfl ⟨_, rfl, ⟨_, _, rfl, fun t h => (by rw [HR.out] at h; cases h), fun _ => hltI⟩, hBw1⟩
      | some t =>
        rw [show nextI a.es (s1 : Int) ev = t by rw [nextI, hnf]]
        obtain ⟨x, hx, hxt⟩ := nextF_in hnf
        have ht := Hxs.out x hx
        rw [hxt] at ht
        have HR : Hid (runF a.es (s : Int) xs = runF a.es t (xs.drop (k + 1))) := by show _ = _; rw [Hrun2.out, hnf]
        clear hnf Hrun2 hx hxt
        obtain ⟨t2, rfl⟩ := Int.eq_ofNat_of_zero_le ht.2.2.1
        have hneg : ¬ (t2 : Int) < 0 := by omega
        go_wp2_with fail
        go_roundw
        case rel => exact ⟨k + 1, t2, rfl, by go_num, by omega, by omega, hB1, HR⟩
        case measure => simp [intOf]; omega
    · obtain rfl : xs.length = k := by omega
      have HR : Hid (runF a.es (s : Int) xs = some (s1 : Int)) := by show _ = _; rw [hrun.out, List.drop_length]; rfl
      clear hrun
      go_wp2
      refine bodyPost_ret (v := .tuple #[.int .i64 (s1 : Nat), .int .i64 (xs.length : Nat)]) (by simp [results, Try.results83, go_sem]) rfl ⟨_, rfl, ⟨_, _, rfl, fun t h => (by rw [HR.out] at h; exact ⟨Option.some.inj h, rfl⟩), fun h => (by rw [HR.out] at h; cases h)⟩, hBw⟩
/-- What reached returns. -/
def ReaP (a : Aut) (xs : List Int) (u : Value) : Prop := ∃ (s' : Int) (b : Bool), u = .tuple #[.int .i64 s', .bool b] ∧ accF a xs = (if b = true then hasB a.ms s' else false)
set_option maxRecDepth 100000 in
set_option maxHeartbeats 800000 in
theorem reached_any (aa am ae : Option Addr) (ca cm ce : Nat) (a : Aut) (vx : Value) (xs : List Int) (w : World) (hra : RdS w 1 aa a.al.length ca (ints a.al)) (hrm : RdS w 1 am a.ms.length cm (ints a.ms)) (hre : RdS w 3 ae a.es.length ce (edCells a.es)) (hle : a.es.length ≤ 1000000) (hso : a.es.Pairwise (fun x y => x.f ≤ y.f)) (hxs : ∀ x ∈ a.es, 0 ≤ x.f ∧ x.f < 1000000 ∧ 0 ≤ x.t ∧ x.t < 1000000)
    (hx : RdI w vx xs) (hlx : xs.length ≤ 1000000) :
    Calls Try.prog 66 #[.agg #[.slice aa a.al.length ca, .int .i64 a.n, .slice am a.ms.length cm, .slice ae a.es.length ce], vx] w (Ret w fun u _ => ReaP a xs u) := by
  have Hx := Lib.hid hx
  obtain ⟨ax, cx, rfl, _⟩ := hx
  have hb0 := bel_alloc w (.cells #[.slice aa a.al.length ca, .int .i64 a.n, .slice am a.ms.length cm, .slice ae a.es.length ce] 31)
  have Hf := Lib.hid (follow_any aa am ae ca cm ce a 0 (.slice ax xs.length cx) xs _ (hra.mono hb0) (hrm.mono hb0) (hre.mono hb0) hle hso (by decide) hxs (Hx.out.mono hb0) hlx)
  clear hso hxs hra hrm hre
  go_enter Try.func66, Try.ntmps66
  by_cases hn : a.n = 0
  · have hnI : (a.n == 0) = true := by simpa using hn
    have HA : Hid (accF a xs = false) := by show _ = _; rw [accF, if_pos hn]
    clear hn
    go_wp2
    refine bodyPost_ret (v := .tuple #[.int .i64 0, .bool false]) (by simp [results, Try.results66, go_sem]) rfl ⟨_, rfl, ⟨_, _, rfl, by rw [HA.out]; rfl⟩, hb0⟩
  · have hnI : (a.n == 0) = false := by simpa using hn
    have HA : Hid (accF a xs = match runF a.es 0 xs with | some t => hasB a.ms t | none => false) := by show _ = _; rw [accF, if_neg hn]
    clear hn
    go_wp2_with fail
    refine Hf.out.mono ?_
    rintro e w1 ⟨_, rfl, ⟨s', k, rfl, h1, h2⟩, hb1⟩
    have hB1 := hb0.trans (hb1.mono hb0.size)
    clear hb1 Hf
    cases hr : runF a.es (0 : Int) xs with
    | none =>
      have hk := h2 hr
      have hkb : (k == (xs.length : Int)) = false := by rw [beq_eq_false_iff_ne]; omega
      have HA2 : Hid (accF a xs = false) := by show _ = _; rw [HA.out, hr]
      clear h1 h2 hr HA
      go_wp2
      refine bodyPost_ret (v := .tuple #[.int .i64 s', .bool false]) (by simp [results, Try.results66, go_sem]) rfl ⟨_, rfl, ⟨_, _, rfl, by rw [HA2.out]; rfl⟩, hB1⟩
    | some t =>
      obtain ⟨rfl, rfl⟩ := h1 t hr
      have hkb : ((xs.length : Int) == (xs.length : Int)) = true := by simp
      have HA2 : Hid (accF a xs = hasB a.ms s') := by show _ = _; rw [HA.out, hr]
      clear h1 h2 hr HA
      go_wp2
      refine bodyPost_ret (v := .tuple #[.int .i64 s', .bool true]) (by simp [results, Try.results66, go_sem]) rfl ⟨_, rfl, ⟨_, _, rfl, by rw [HA2.out]; rfl⟩, hB1⟩
end Go.Proofs.Ythchkddhibhenaa

/- The contract of automaton.Accepts, where the automaton is right. -/
namespace Go.Proofs.Ythchkddhibhenaa
open Go Go.RowKit

set_option maxRecDepth 100000 in
set_option maxHeartbeats 800000 in
theorem accepts_any (v vx : Value) (a : Aut) (xs : List Int) (w : World) (ha : RdA w v a) (hs : a.small) (he : a.err = 0) (hso : Sorted a.es) (hx : RdI w vx xs) (hlx : xs.length ≤ 1000000) :
    Calls Try.prog 36 #[v, vx] w (Ret w fun u _ => u = .tuple #[.bool (accF a xs), .int .i64 0]) := by
  have Ha := Lib.hid ha
  have Hx := Lib.hid hx
  obtain ⟨va, vm, ve, rfl, ⟨aa, ca, rfl, hra⟩, ⟨am, cm, rfl, hrm⟩, ⟨ae, ce, rfl, hre⟩⟩ := ha
  obtain ⟨ax, cx, rfl, _⟩ := hx
  have hok := Aut.ok_of he
  have hn1 := hok.n1
  have Hes := Lib.hid hok.es
  have hr := fun W hb => reached_any aa am ae ca cm ce a (.slice ax xs.length cx) xs W (hra.mono hb) (hrm.mono hb) (hre.mono hb) hs.es hso.le (fun x hx => by have := Hes.out x hx; omega) (Hx.out.mono hb) hlx
  have Hr := Lib.hid hr
  have Hs := Lib.hid hs
  have He := Lib.hid he
  have hams := hs.ms
  clear hr hs he hso hok
  go_enter Try.func36, Try.ntmps36
  go_wp2_with fail
  have hb0 := bel_alloc w (.cells #[.slice aa a.al.length ca, .int .i64 a.n, .slice am a.ms.length cm, .slice ae a.es.length ce] 31)
  have hc := check_any _ a _ (Ha.out.mono hb0) Hs.out
  rw [He.out] at hc
  refine hc.mono ?_
  rintro e w1 ⟨_, rfl, rfl, hb1⟩
  clear hc
  have hB1 := hb0.trans (hb1.mono hb0.size)
  have x1 : w1.heap[w.heap.size]? = some (.cells #[.slice aa a.al.length ca, .int .i64 a.n, .slice am a.ms.length cm, .slice ae a.es.length ce] 31 (0, 0)) := (hb1.block _ (by simp)).trans (by repeat (first | with_reducible assumption | (with_reducible refine heap_at ?_; (first | (simp; done) | (simp; omega))) | (with_reducible refine heap_past ?_ ?_; (next => first | omega | (simp; done) | (simp; omega)))))
  have z0 : w1.cell? ⟨w.heap.size, 0, none⟩ = some (.slice aa a.al.length ca) := by simp [World.cell?, x1]
  have z1 : w1.cell? ⟨w.heap.size, 1, none⟩ = some (.int .i64 a.n) := by simp [World.cell?, x1]
  have z2 : w1.cell? ⟨w.heap.size, 2, none⟩ = some (.slice am a.ms.length cm) := by simp [World.cell?, x1]
  have z3 : w1.cell? ⟨w.heap.size, 3, none⟩ = some (.slice ae a.es.length ce) := by simp [World.cell?, x1]
  clear x1 hb1
  go_wp2_with fail
  refine (Hr.out _ hB1).mono ?_
  rintro e w2 ⟨_, rfl, ⟨s', b, rfl, hacc⟩, hb2⟩
  have hB2 := hB1.trans (hb2.mono hB1.size)
  replace z2 := keep0 hb2 z2
  have Hacc := Lib.hid hacc
  clear hacc hb2 z0 z1 z3
  cases b with
  | false =>
    have HA : Hid (accF a xs = false) := Hacc.out
    go_wp2
    refine bodyPost_ret (v := .tuple #[.bool false, .int .i64 0]) (by simp [results, Try.results36, go_sem]) rfl ⟨_, rfl, by rw [HA.out], hB2⟩
  | true =>
    have HA : Hid (accF a xs = hasB a.ms s') := Hacc.out
    have HM := Lib.hid (show RdI w2 (.slice am a.ms.length cm) a.ms from ⟨am, cm, rfl, hrm.mono hB2⟩)
    go_wp2_with (go_at_call 57; ((with_reducible refine (contains_any _ a.ms _ _ HM.out hams).mono ?_); rintro e w1 ⟨rfl, rfl⟩))
    refine bodyPost_ret (v := .tuple #[.bool (hasB a.ms s'), .int .i64 0]) (by simp [results, Try.results36, go_sem]) rfl ⟨_, rfl, by rw [HA.out], hB2⟩
end Go.Proofs.Ythchkddhibhenaa
