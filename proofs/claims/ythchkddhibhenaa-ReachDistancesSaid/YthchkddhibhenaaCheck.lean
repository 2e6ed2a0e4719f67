/- The contract of automaton.Check. -/
import Derived.Test.YthchkddhibhenaaReads
namespace Go.Proofs.Ythchkddhibhenaa
open Go.RowKit

/-- An automaton. -/
structure Aut where
  al : List Int
  n : Int
  ms : List Int
  es : List Ed
def RdA (w : World) (v : Value) (a : Aut) : Prop := ∃ va vm ve, v = .agg #[va, .int .i64 a.n, vm, ve] ∧ RdI w va a.al ∧ RdI w vm a.ms ∧ RdE w ve a.es
theorem RdA.mono {w w' : World} {v : Value} {a : Aut} (h : RdA w v a) (hb : Below w.heap.size w w') : RdA w' v a := by
  obtain ⟨va, vm, ve, rfl, h1, h2, h3⟩ := h
  exact ⟨va, vm, ve, rfl, h1.mono hb, h2.mono hb, h3.mono hb⟩
/-- Short lists. -/
structure Aut.small (a : Aut) : Prop where
  al : a.al.length ≤ 1000000
  ms : a.ms.length ≤ 1000000
  es : a.es.length ≤ 1000000

/-- The first error of the edges; p is the edge before. -/
def edErr (al : List Int) (n : Int) : Option Ed → List Ed → Int
  | _, [] => 0
  | p, x :: xs => if (x.f < 0 ∨ n ≤ x.f ∨ x.t < 0 ∨ n ≤ x.t) then 2 else if hasB al x.e = false then 9 else if (∃ q, p = some q ∧ (x.f < q.f ∨ (x.f = q.f ∧ x.e ≤ q.e))) then 5 else edErr al n (some x) xs
def edPrev (xs : List Ed) (k : Nat) : Option Ed := if k = 0 then none else xs[k - 1]?
theorem edErr_drop {al : List Int} {n : Int} {xs : List Ed} {k : Nat} (hk : k < xs.length) : edErr al n (edPrev xs k) (xs.drop k) = if (xs[k].f < 0 ∨ n ≤ xs[k].f ∨ xs[k].t < 0 ∨ n ≤ xs[k].t) then 2 else if hasB al xs[k].e = false then 9 else if (∃ q, edPrev xs k = some q ∧ (xs[k].f < q.f ∨ (xs[k].f = q.f ∧ xs[k].e ≤ q.e))) then 5 else edErr al n (edPrev xs (k + 1)) (xs.drop (k + 1)) := by
  rw [List.drop_eq_getElem_cons hk, edErr]
  congr 3
  simp [edPrev, List.getElem?_eq_getElem hk]
theorem edErr_2 {al : List Int} {n : Int} {xs : List Ed} {k : Nat} (hk : k < xs.length) (h : xs[k].f < 0 ∨ n ≤ xs[k].f ∨ xs[k].t < 0 ∨ n ≤ xs[k].t) : edErr al n (edPrev xs k) (xs.drop k) = 2 := by rw [edErr_drop hk, if_pos h]
theorem edErr_9 {al : List Int} {n : Int} {xs : List Ed} {k : Nat} (hk : k < xs.length) (h : ¬ (xs[k].f < 0 ∨ n ≤ xs[k].f ∨ xs[k].t < 0 ∨ n ≤ xs[k].t)) (h0 : (!hasB al xs[k].e) = true) : edErr al n (edPrev xs k) (xs.drop k) = 9 := by rw [edErr_drop hk, if_neg h, if_pos (by simpa using h0)]
theorem edErr_5 {al : List Int} {n : Int} {xs : List Ed} {k : Nat} (hk : k < xs.length) (h : ¬ (xs[k].f < 0 ∨ n ≤ xs[k].f ∨ xs[k].t < 0 ∨ n ≤ xs[k].t)) (h0 : (!hasB al xs[k].e) = false) (h1 : 0 < k) (h2 : xs[k].f < xs[k-1].f ∨ (xs[k].f = xs[k-1].f ∧ xs[k].e ≤ xs[k-1].e)) : edErr al n (edPrev xs k) (xs.drop k) = 5 := by
  rw [edErr_drop hk, if_neg h, if_neg (by simpa using h0), if_pos]
  exact ⟨xs[k - 1], by rw [edPrev, if_neg (by omega), List.getElem?_eq_getElem (by omega)], h2⟩
theorem edErr_next {al : List Int} {n : Int} {xs : List Ed} {k : Nat} (hk : k < xs.length) (h : ¬ (xs[k].f < 0 ∨ n ≤ xs[k].f ∨ xs[k].t < 0 ∨ n ≤ xs[k].t)) (h0 : (!hasB al xs[k].e) = false) (h2 : 0 < k → ¬ (xs[k].f < xs[k-1].f ∨ (xs[k].f = xs[k-1].f ∧ xs[k].e ≤ xs[k-1].e))) : edErr al n (edPrev xs k) (xs.drop k) = edErr al n (edPrev xs (k + 1)) (xs.drop (k + 1)) := by
  rw [edErr_drop hk, if_neg h, if_neg (by simpa using h0), if_neg]
  rintro ⟨q, hq, hle⟩
  unfold edPrev at hq
  split at hq
  · cases hq
  · rw [List.getElem?_eq_getElem (by omega)] at hq
    exact h2 (by omega) (Option.some.inj hq ▸ hle)
theorem edErr_end {al : List Int} {n : Int} {xs : List Ed} {k : Nat} (hk : ¬ k < xs.length) : edErr al n (edPrev xs k) (xs.drop k) = 0 := by
  rw [List.drop_of_length_le (by omega)]; cases edPrev xs k <;> rfl

set_option maxRecDepth 100000 in
set_option maxHeartbeats 2000000 in
theorem checkEdges_any (v : Value) (a : Aut) (w : World) (hr : RdA w v a) (hs : a.small) :
    Calls Try.prog 78 #[v] w (Ret w fun u _ => u = .int .i64 (edErr a.al a.n none a.es)) := by
  obtain ⟨va, vm, ve, rfl, ⟨aa, ca, rfl, hra⟩, ⟨am, cm, rfl, hrm⟩, ⟨ae, ce, rfl, hre⟩⟩ := hr
  obtain ⟨al, n, ms, es⟩ := a
  obtain ⟨hs1, hs2, hs3⟩ := hs
  dsimp only at *
  have hA : RdI w (.slice aa al.length ca) al := ⟨aa, ca, rfl, hra⟩
  go_enter Try.func78, Try.ntmps78
  go_wp2
  go_loopw [9] (fun j wr => ∃ k : Nat, k ≤ es.length ∧ j = .int .i64 k ∧ Hid (edErr al n none es = edErr al n (edPrev es k) (es.drop k)) ∧ Below (w.heap.size + 1) (w.alloc (.cells #[.slice aa al.length ca, .int .i64 n, .slice am ms.length cm, .slice ae es.length ce] 31)) wr) (fun j wr => es.length - (intOf j).toNat)
  case atStart => exact ⟨0, Nat.zero_le _, rfl, by simp [Hid, edPrev], Below.refl _ _⟩
  case round =>
    obtain ⟨k, hk, rfl, hn, hB⟩ := hrel
    have hB0 : Below w.heap.size w wr := ((Below.refl _ _).alloc (Nat.le_refl _) _).trans (hB.mono (Nat.le_succ _))
    by_cases hlt : k < es.length
    · obtain ⟨b, off, rfl, c0, c1, c2⟩ := hre.at_edge k hlt
      obtain ⟨b', off', hb', d0, d1, d2⟩ := hre.at_edge (k - 1) (by omega)
      cases hb'
      have hbx : ∀ o, wr.cell? ⟨w.heap.size, o, none⟩ = (w.alloc (.cells #[.slice aa al.length ca, .int .i64 n, .slice am ms.length cm, .slice (some ⟨b, off, none⟩) es.length ce] 31)).cell? ⟨w.heap.size, o, none⟩ := fun o => hB.cell (p := ⟨w.heap.size, o, none⟩) (by simp)
      replace c0 := keep0 hB0 c0
      replace c1 := keep0 hB0 c1
      replace c2 := keep0 hB0 c2
      replace d0 := keep0 hB0 d0
      replace d1 := keep0 hB0 d1
      replace d2 := keep0 hB0 d2
      have hz : w.heap.size < wr.heap.size := by have := hB.size; simp at this; omega
      have hbz : b < wr.heap.size := World.block_lt_of_cell? wr _ c0
      by_cases h0 : 0 < k
      all_goals
        go_wp2_with (go_at_call 57; ((with_reducible refine (contains_any _ _ _ _ (hA.mono (by (repeat (first | with_reducible exact Below.refl _ _ | with_reducible exact hB0 | (with_reducible refine belCall ?_ hB0 (by first | omega | (simp; done) | (simp; omega) | (simp at *; omega))) | (with_reducible refine Below.alloc ?_ (by first | omega | (simp; done) | (simp; omega) | (simp at *; omega)) _) | (with_reducible refine Below.drew ?_) | (with_reducible refine Below.setCell ?_ (by first | omega | (simp; done) | (simp; omega) | (simp at *; omega)) _))))) hs1).mono ?_); rintro e w1 ⟨rfl, rfl⟩))
        all_goals first
          | (go_ret; exact ⟨_, rfl, congrArg (Value.int .i64) (hn.out.trans (edErr_2 hlt (by omega))).symm, (by (repeat (first | with_reducible exact Below.refl _ _ | with_reducible exact hB0 | (with_reducible refine belCall ?_ hB0 (by first | omega | (simp; done) | (simp; omega) | (simp at *; omega))) | (with_reducible refine Below.alloc ?_ (by first | omega | (simp; done) | (simp; omega) | (simp at *; omega)) _) | (with_reducible refine Below.drew ?_) | (with_reducible refine Below.setCell ?_ (by first | omega | (simp; done) | (simp; omega) | (simp at *; omega)) _))))⟩)
          | (go_ret; exact ⟨_, rfl, congrArg (Value.int .i64) (hn.out.trans (edErr_9 hlt (by omega) (by assumption))).symm, (by (repeat (first | with_reducible exact Below.refl _ _ | with_reducible exact hB0 | (with_reducible refine belCall ?_ hB0 (by first | omega | (simp; done) | (simp; omega) | (simp at *; omega))) | (with_reducible refine Below.alloc ?_ (by first | omega | (simp; done) | (simp; omega) | (simp at *; omega)) _) | (with_reducible refine Below.drew ?_) | (with_reducible refine Below.setCell ?_ (by first | omega | (simp; done) | (simp; omega) | (simp at *; omega)) _))))⟩)
          | (go_ret; exact ⟨_, rfl, congrArg (Value.int .i64) (hn.out.trans (edErr_5 hlt (by omega) (by assumption) (by omega) (by omega))).symm, (by (repeat (first | with_reducible exact Below.refl _ _ | with_reducible exact hB0 | (with_reducible refine belCall ?_ hB0 (by first | omega | (simp; done) | (simp; omega) | (simp at *; omega))) | (with_reducible refine Below.alloc ?_ (by first | omega | (simp; done) | (simp; omega) | (simp at *; omega)) _) | (with_reducible refine Below.drew ?_) | (with_reducible refine Below.setCell ?_ (by first | omega | (simp; done) | (simp; omega) | (simp at *; omega)) _))))⟩)
          | (go_roundw
             case rel => exact ⟨k + 1, by omega, by go_num, hn.out.trans (edErr_next hlt (by omega) (by assumption) (by omega)), (by (repeat (first | with_reducible exact Below.refl _ _ | with_reducible exact hB | (with_reducible refine belCall ?_ hB (by first | omega | (simp; done) | (simp; omega) | (simp at *; omega))) | (with_reducible refine Below.alloc ?_ (by first | omega | (simp; done) | (simp; omega) | (simp at *; omega)) _) | (with_reducible refine Below.drew ?_) | (with_reducible refine Below.setCell ?_ (by first | omega | (simp; done) | (simp; omega) | (simp at *; omega)) _))))⟩
             case measure => simp [intOf]; omega)
    · go_wp2
      (go_ret; exact ⟨_, rfl, congrArg (Value.int .i64) (hn.out.trans (edErr_end hlt)).symm, (by (repeat (first | with_reducible exact Below.refl _ _ | with_reducible exact hB0 | (with_reducible refine belCall ?_ hB0 (by first | omega | (simp; done) | (simp; omega) | (simp at *; omega))) | (with_reducible refine Below.alloc ?_ (by first | omega | (simp; done) | (simp; omega) | (simp at *; omega)) _) | (with_reducible refine Below.drew ?_) | (with_reducible refine Below.setCell ?_ (by first | omega | (simp; done) | (simp; omega) | (simp at *; omega)) _))))⟩)
end Go.Proofs.Ythchkddhibhenaa
