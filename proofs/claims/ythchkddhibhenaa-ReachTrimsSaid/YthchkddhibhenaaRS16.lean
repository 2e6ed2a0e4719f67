/- Texts joined: RestApp1, BinSearch, OutFn. Each is introduced by its own sentence. -/
import Derived.Test.YthchkddhibhenaaRS3
import Derived.Test.YthchkddhibhenaaRS4
import Derived.Test.YthchkddhibhenaaRS6
import Derived.Test.YthchkddhibhenaaRS11
/- What holds while an edge is appended to the edges of the canonical form, in whatever order. -/
namespace Go.Proofs.Ythchkddhibhenaa
open Go Go.RowKit

/-- Φ c: the rest, where the edges' cell holds c; PR: the slots that hold no memory of the edges. -/
structure RY (Φ : Value → (Nat → Nat) → World → Prop) (PR : Nat → Value → Prop) (B : Nat) (E : List Ed) (y : Ed) (ve : Value) (l : Array Bool) (us : List Value) (tag : Nat → Nat) (W : World) : Prop where
  len : us.length = 14
  size : B ≤ W.heap.size
  phi : Φ (if l.getD 14 false = true then us.getD 12 undef else ve) tag W
  pure : ∀ j, j < 14 → l.getD j false = true → PR j (us.getD j undef)
  s1 : l.getD 12 false = false → Row W B tag 8 45 3 ve E.length (edCells E)
  s11 : l.getD 11 false = true → l.getD 12 false = false → Row W B tag 11 45 3 (us.getD 11 undef) 1 y.cells
  s12 : l.getD 12 false = true → Row W B tag 8 45 3 (us.getD 12 undef) (E.length + 1) (edCells (E ++ [y]))
  o12 : l.getD 12 false = true → l.getD 11 false = true ∧ l.getD 1 false = true
  o14 : l.getD 14 false = true → l.getD 12 false = true

section
variable {Φ : Value → (Nat → Nat) → World → Prop} {PR : Nat → Value → Prop} {B : Nat} {E : List Ed} {y : Ed} {ve : Value} {l : Array Bool} {us : List Value} {tag tag' : Nat → Nat} {W W' : World} {k : Nat} {v : Value}
theorem RY.start (hlen : us.length = 14) (hs : B ≤ W.heap.size) (hphi : Φ ve tag W) (h1 : Row W B tag 8 45 3 ve E.length (edCells E)) : RY Φ PR B E y ve (Array.replicate 15 false) us tag W := by
  have h : ∀ j, (Array.replicate 15 false).getD j false = true → False := by
    intro j
    rw [Array.getD_eq_getD_getElem?, Array.getElem?_replicate]
    split <;> simp
  refine ⟨hlen, hs, ?_, fun j _ e => (h _ e).elim, fun _ => h1, fun e => (h _ e).elim, fun e => (h _ e).elim, fun e => (h _ e).elim, fun e => (h _ e).elim⟩
  rw [if_neg (fun e => h _ e)]
  exact hphi
theorem RY.pureStep (h : RY Φ PR B E y ve l us tag W) (hl : ∀ j, j < 15 → (l.setIfInBounds k true).getD j false = (j == k || l.getD j false)) (hk : k < 11 ∨ k = 13) (hv : PR k v) : RY Φ PR B E y ve (l.setIfInBounds k true) (us.set k v) tag W := by
  have ex11 := hl 11 (by decide)
  have ex12 := hl 12 (by decide)
  have ex14 := hl 14 (by decide)
  rw [show ((11 : Nat) == k) = false by simp; omega, Bool.false_or] at ex11
  rw [show ((12 : Nat) == k) = false by simp; omega, Bool.false_or] at ex12
  rw [show ((14 : Nat) == k) = false by simp; omega, Bool.false_or] at ex14
  refine ⟨by rw [List.length_set]; exact h.len, h.size, ?_, pure_nextC hl (by decide) (by rw [h.len]; decide) h.pure hv, ?_, ?_, ?_, ?_, ?_⟩
  · rw [ex14, set_ne (by omega)]; exact h.phi
  · rw [ex12]; exact h.s1
  · rw [ex11, ex12, set_ne (by omega)]; exact h.s11
  · rw [ex12, set_ne (by omega)]; exact h.s12
  · rw [ex11, ex12]
    intro e
    refine ⟨(h.o12 e).1, ?_⟩
    rw [hl 1 (by decide), (h.o12 e).2, Bool.or_true]
  · rw [ex14, ex12]; exact h.o14
/-- The edge's own list. -/
theorem RY.op11 (h : RY Φ PR B E y ve l us tag W) (hl : ∀ j, j < 15 → (l.setIfInBounds 11 true).getD j false = (j == 11 || l.getD j false)) (hphi : ∀ c, Φ c tag W → Φ c (tagUp tag W.heap.size 11) (W.alloc (.cells y.cells.toArray 45))) (hn : l.getD 11 false = false) (hv : ∀ v, PR 11 v) :
    RY Φ PR B E y ve (l.setIfInBounds 11 true) (us.set 11 (.slice (some ⟨W.heap.size, 0, none⟩) 1 1)) (tagUp tag W.heap.size 11) (W.alloc (.cells y.cells.toArray 45)) := by
  have hx12 : l.getD 12 false = false := by
    cases hx12 : l.getD 12 false with
    | false => rfl
    | true => rw [(h.o12 hx12).1] at hn; cases hn
  have hx14 : l.getD 14 false = false := by
    cases hx14 : l.getD 14 false with
    | false => rfl
    | true => rw [h.o14 hx14] at hx12; cases hx12
  have hp := h.phi
  rw [hx14] at hp
  refine ⟨by rw [List.length_set]; exact h.len, by have := h.size; simp; omega, ?_, pure_nextC hl (by decide) (by rw [h.len]; decide) h.pure (hv _), ?_, ?_, ?_, ?_, ?_⟩
  · rw [hl 14 (by decide), show ((14 : Nat) == 11) = false from rfl, Bool.false_or, hx14]
    exact hphi _ hp
  · rw [hl 12 (by decide), show ((12 : Nat) == 11) = false from rfl, Bool.false_or]
    exact fun e => (h.s1 e).up _ _
  · intro _ _
    rw [set_self h.len (by decide)]
    refine ⟨by simp [Ed.cells], .inr ⟨W.heap.size, 0, 1, y.cells.toArray, rfl, Own.new W B _ 11 _ _ h.size (tagUp_at _ _ _), Nat.le_refl _, by show 1 ≤ maxLen; decide, by simp [Ed.cells], by simp [Ed.cells]⟩⟩
  · rw [hl 12 (by decide), show ((12 : Nat) == 11) = false from rfl, Bool.false_or, hx12]; intro e; cases e
  · rw [hl 12 (by decide), show ((12 : Nat) == 11) = false from rfl, Bool.false_or, hx12]; intro e; cases e
  · rw [hl 14 (by decide), hl 12 (by decide)]; exact h.o14
/-- The append. -/
theorem RY.op12 (h : RY Φ PR B E y ve l us tag W) (hl : ∀ j, j < 15 → (l.setIfInBounds 12 true).getD j false = (j == 12 || l.getD j false)) (hphi : ∀ c, Φ c tag W → Φ c tag' W') (hn : l.getD 12 false = false) (hx11 : l.getD 11 false = true) (h1 : l.getD 1 false = true) (hv : ∀ v, PR 12 v)
    (ht : Turn B tag tag' 8 W W') (hr : Row W' B tag' 8 45 3 v (E.length + 1) (edCells E ++ y.cells)) :
    RY Φ PR B E y ve (l.setIfInBounds 12 true) (us.set 12 v) tag' W' := by
  have hx14 : l.getD 14 false = false := by
    cases hx14 : l.getD 14 false with
    | false => rfl
    | true => rw [h.o14 hx14] at hn; cases hn
  have hp := h.phi
  rw [hx14] at hp
  refine ⟨by rw [List.length_set]; exact h.len, Nat.le_trans h.size ht.size, ?_, pure_nextC hl (by decide) (by rw [h.len]; decide) h.pure (hv _), ?_, ?_, ?_, ?_, ?_⟩
  · rw [hl 14 (by decide), show ((14 : Nat) == 12) = false from rfl, Bool.false_or, hx14]
    exact hphi _ hp
  · rw [hl 12 (by decide)]; intro e; cases e
  · rw [hl 12 (by decide)]; intro _ e; cases e
  · intro _
    rw [set_self h.len (by decide), edCells_snoc]
    exact hr
  · intro _; rw [hl 11 (by decide), hx11, hl 1 (by decide), h1]; exact ⟨rfl, rfl⟩
  · intro _; rw [hl 12 (by decide)]; rfl
/-- The store of the edges. -/
theorem RY.op14 {b8 : Nat} (h : RY Φ PR B E y ve l us tag W) (hl : ∀ j, j < 15 → (l.setIfInBounds 14 true).getD j false = (j == 14 || l.getD j false)) (hphi : ∀ c c', Φ c tag W → Φ c' tag (W.setCell ⟨b8, 3, none⟩ c') ∧ Turn B tag tag 6 W (W.setCell ⟨b8, 3, none⟩ c')) (hn : l.getD 14 false = false) (hx12 : l.getD 12 false = true) :
    RY Φ PR B E y ve (l.setIfInBounds 14 true) us tag (W.setCell ⟨b8, 3, none⟩ (us.getD 12 undef)) := by
  have hp := h.phi
  rw [hn] at hp
  obtain ⟨p1, p2⟩ := hphi _ (us.getD 12 undef) hp
  refine ⟨h.len, Nat.le_trans h.size p2.size, ?_, ?_, ?_, ?_, ?_, ?_, ?_⟩
  · rw [hl 14 (by decide)]; exact p1
  · intro j hj; rw [hl j (by omega), show (j == 14) = false by simp; omega, Bool.false_or]; exact h.pure j hj
  · rw [hl 12 (by decide), hx12]; intro e; cases e
  · rw [hl 12 (by decide), hx12]; intro _ e; cases e
  · rw [hl 12 (by decide), show ((12 : Nat) == 14) = false from rfl, Bool.false_or]; exact fun e => (h.s12 e).turn p2 (by decide)
  · rw [hl 12 (by decide), hl 11 (by decide), hl 1 (by decide)]; exact h.o12
  · intro _; rw [hl 12 (by decide), hx12]; rfl
end
theorem list14 {us : List Value} (h : us.length = 14) : ∃ u0 u1 u2 u3 u4 u5 u6 u7 u8 u9 u10 u11 u12 u13, us = [u0, u1, u2, u3, u4, u5, u6, u7, u8, u9, u10, u11, u12, u13] := by
  match us, h with
  | [u0, u1, u2, u3, u4, u5, u6, u7, u8, u9, u10, u11, u12, u13], _ => exact ⟨_, _, _, _, _, _, _, _, _, _, _, _, _, _, rfl⟩
end Go.Proofs.Ythchkddhibhenaa

/- The binary searches of the library; the edges of a state (out). -/
namespace Go.Proofs.Ythchkddhibhenaa
open Go.RowKit

theorem isNaN_any (x : Int) (w : World) : Calls Try.prog 119 #[.int .i64 x] w fun e w' => e = .returned (.bool false) ∧ w = w' := by
  go_enter Try.func119, Try.ntmps119
  have h : (x != x) = false := by simp
  go_wp2
  go_ret
  exact ⟨rfl, rfl⟩
theorem isNaN2_any (x : Int) (w : World) : Calls Try.prog 95 #[.int .i64 x] w fun e w' => e = .returned (.bool false) ∧ w = w' := by
  go_enter Try.func95, Try.ntmps95
  have h : (x != x) = false := by simp
  go_wp2
  go_ret
  exact ⟨rfl, rfl⟩
theorem less_any (x y : Int) (w : World) : Calls Try.prog 94 #[.int .i64 x, .int .i64 y] w fun e w' => e = .returned (.bool (decide (x < y))) ∧ w = w' := by
  go_enter Try.func94, Try.ntmps94
  go_wp2_with (go_at_call 119; ((with_reducible refine (isNaN_any _ _).mono ?_); rintro e w1 ⟨rfl, rfl⟩))
  go_ret
  exact ⟨rfl, rfl⟩
/-- Where a number stands, or would. -/
def placeL (xs : List Int) (n : Int) : Nat := xs.countP fun x => decide (x < n)
theorem place_at {xs : List Int} {n : Int} {k : Nat} (hk : k ≤ xs.length) (h1 : ∀ j (h : j < xs.length), j < k → xs[j] < n) (h2 : ∀ j (h : j < xs.length), k ≤ j → ¬ xs[j] < n) : placeL xs n = k := by
  unfold placeL
  rw [← List.take_append_drop k xs, List.countP_append, List.countP_eq_length.2, List.countP_eq_zero.2, List.length_take]
  · omega
  · intro x hx
    obtain ⟨j, hj, rfl⟩ := List.mem_iff_getElem.1 hx
    rw [List.length_drop] at hj
    rw [List.getElem_drop]
    simpa using h2 (k + j) (by omega) (by omega)
  · intro x hx
    obtain ⟨j, hj, rfl⟩ := List.mem_iff_getElem.1 hx
    rw [List.length_take] at hj
    rw [List.getElem_take]
    simpa using h1 j (by omega) (by omega)
structure BS (xs : List Int) (n : Int) (i j : Nat) : Prop where
  le : i ≤ j
  hi : j ≤ xs.length
  lo : ∀ k (h : k < xs.length), k < i → xs[k] < n
  up : ∀ k (h : k < xs.length), j ≤ k → ¬ xs[k] < n
theorem lt_of_pairwise {xs : List Int} (hs : xs.Pairwise (· < ·)) {j k : Nat} (hj : j < xs.length) (hk : k < xs.length) (h : j < k) : xs[j] < xs[k] := List.pairwise_iff_getElem.1 hs j k hj hk h
section
variable {xs : List Int} {n : Int} {i j : Nat}
theorem BS.right (h : BS xs n i j) (hm : (i + j) / 2 < xs.length) (hs : xs.Pairwise (· < ·)) (hx : xs[(i + j) / 2] < n) (hij : i < j := by omega) : BS xs n ((i + j) / 2 + 1) j := by
  refine ⟨by omega, h.hi, fun k hk hlt => ?_, h.up⟩
  by_cases e : k = (i + j) / 2
  · subst e; exact hx
  · have := lt_of_pairwise hs hk hm (by omega); omega
theorem BS.left (h : BS xs n i j) (hm : (i + j) / 2 < xs.length) (hs : xs.Pairwise (· < ·)) (hx : ¬ xs[(i + j) / 2] < n) (hij : i < j := by omega) : BS xs n i ((i + j) / 2) := by
  refine ⟨by omega, by omega, h.lo, fun k hk hle => ?_⟩
  by_cases e : k = (i + j) / 2
  · subst e; exact hx
  · have := lt_of_pairwise hs hm hk (by omega); omega
theorem BS.has (h : BS xs n i i) (hs : xs.Pairwise (· < ·)) (hi : i < xs.length) : hasB xs n = (xs[i] == n) := by
  rw [Bool.eq_iff_iff, hasB_true, beq_iff_eq]
  constructor
  · intro hm
    obtain ⟨k, hk, e⟩ := List.mem_iff_getElem.1 hm
    by_cases h1 : k < i
    · have := h.lo k hk h1; omega
    · by_cases h2 : k = i
      · subst h2; exact e
      · have := lt_of_pairwise hs hi hk (by omega)
        have := h.up i hi (Nat.le_refl _)
        omega
  · intro e; rw [← e]; exact List.getElem_mem hi
theorem BS.none (h : BS xs n i i) (hs : xs.Pairwise (· < ·)) (hi : ¬ i < xs.length) : hasB xs n = false := by
  rw [hasB_false]
  intro hm
  obtain ⟨k, hk, e⟩ := List.mem_iff_getElem.1 hm
  have := h.lo k hk (by omega)
  omega
end
set_option maxRecDepth 100000 in
theorem bsearch_any (v : Value) (xs : List Int) (n : Int) (w : World) (hr : RdI w v xs) (hl : xs.length ≤ 1000000) (hs : xs.Pairwise (· < ·)) :
    Calls Try.prog 87 #[v, .int .i64 n] w fun e w' => e = .returned (.tuple #[.int .i64 (placeL xs n), .bool (hasB xs n)]) ∧ w = w' := by
  obtain ⟨a, cap, rfl, hr⟩ := hr
  have Hs := Lib.hid hs
  clear hs
  go_enter Try.func87, Try.ntmps87
  go_wp2
  go_loop [7, 8] (fun vi vj => ∃ i j : Nat, vi = .int .i64 i ∧ vj = .int .i64 j ∧ BS xs n i j) (fun vi vj => (intOf vj).toNat - (intOf vi).toNat)
  case atStart => exact ⟨0, xs.length, rfl, rfl, Nat.zero_le _, Nat.le_refl _, fun k _ h => absurd h (Nat.not_lt_zero _), fun k h1 h2 => absurd h1 (by omega)⟩
  case round =>
    obtain ⟨i, j, rfl, rfl, hB⟩ := hrel
    have h1 := hB.le
    have h2 := hB.hi
    by_cases hlt : i < j
    · have hm : (i + j) / 2 < xs.length := by omega
      obtain ⟨b, off, rfl, hc⟩ := hr.at_int _ hm
      by_cases hx : xs[(i + j) / 2] < n
      · have hd : decide (xs[(i + j) / 2] < n) = true := by simpa using hx
        have hn := hB.right hm Hs.out hx
        generalize xs[(i + j) / 2] = x at *
        clear hx
        go_wp2_with (go_at_call 94; ((with_reducible refine (less_any _ _ _).mono ?_); rintro e w1 ⟨rfl, rfl⟩))
        go_round
        case rel => exact ⟨(i + j) / 2 + 1, j, by go_num, rfl, hn⟩
        case measure => simp [intOf]; omega
      · have hd : decide (xs[(i + j) / 2] < n) = false := by simpa using hx
        have hn := hB.left hm Hs.out hx
        generalize xs[(i + j) / 2] = x at *
        clear hx
        go_wp2_with (go_at_call 94; ((with_reducible refine (less_any _ _ _).mono ?_); rintro e w1 ⟨rfl, rfl⟩))
        go_round
        case rel => exact ⟨i, (i + j) / 2, rfl, by go_num, hn⟩
        case measure => simp [intOf]; omega
    · obtain rfl : i = j := by omega
      have hp := place_at h2 hB.lo hB.up
      by_cases hlt : i < xs.length
      · obtain ⟨b, off, rfl, hc⟩ := hr.at_int _ hlt
        have hin := hB.has Hs.out hlt
        by_cases hx : xs[i] = n
        · have hd : (xs[i] == n) = true := by simpa using hx
          rw [hd] at hin
          have Hin := Lib.hid hin
          clear hin
          generalize xs[i] = x at *
          clear hx
          go_wp2
          refine bodyPost_ret (v := .tuple #[_, _]) (by simp [results, Try.results87, go_sem]; exact ⟨rfl, rfl⟩) rfl ?_
          exact ⟨by first | rw [hp, Hin.out] | rw [Hin.out], rfl⟩
        · have hd : (xs[i] == n) = false := by simpa using hx
          rw [hd] at hin
          have Hin := Lib.hid hin
          clear hin
          generalize xs[i] = x at *
          clear hx
          go_wp2_with (go_at_call 95; ((with_reducible refine (isNaN2_any _ _).mono ?_); rintro e w1 ⟨rfl, rfl⟩))
          refine bodyPost_ret (v := .tuple #[_, _]) (by simp [results, Try.results87, go_sem]; exact ⟨rfl, rfl⟩) rfl ?_
          exact ⟨by first | rw [hp, Hin.out] | rw [Hin.out], rfl⟩
      · have Hin := Lib.hid (hB.none Hs.out hlt)
        go_wp2
        refine bodyPost_ret (v := .tuple #[_, _]) (by simp [results, Try.results87, go_sem]; exact ⟨rfl, rfl⟩) rfl ?_
        exact ⟨by first | rw [hp, Hin.out] | rw [Hin.out], rfl⟩

/-- Where the edges of a state begin. -/
structure BE (xs : List Ed) (n : Int) (i j : Nat) : Prop where
  le : i ≤ j
  hi : j ≤ xs.length
  lo : ∀ k (h : k < xs.length), k < i → xs[k].f < n
  up : ∀ k (h : k < xs.length), j ≤ k → ¬ xs[k].f < n
section
variable {xs : List Ed} {n : Int} {i j : Nat}
theorem BE.right (h : BE xs n i j) (hm : (i + j) / 2 < xs.length) (hs : xs.Pairwise (fun x y => x.f ≤ y.f)) (hx : xs[(i + j) / 2].f < n) (hij : i < j := by omega) : BE xs n ((i + j) / 2 + 1) j := by
  refine ⟨by omega, h.hi, fun k hk hlt => ?_, h.up⟩
  by_cases e : k = (i + j) / 2
  · subst e; exact hx
  · have := List.pairwise_iff_getElem.1 hs k _ hk hm (by omega); omega
theorem BE.left (h : BE xs n i j) (hm : (i + j) / 2 < xs.length) (hs : xs.Pairwise (fun x y => x.f ≤ y.f)) (hx : ¬ xs[(i + j) / 2].f < n) (hij : i < j := by omega) : BE xs n i ((i + j) / 2) := by
  refine ⟨by omega, by omega, h.lo, fun k hk hle => ?_⟩
  by_cases e : k = (i + j) / 2
  · subst e; exact hx
  · have := List.pairwise_iff_getElem.1 hs _ k hm hk (by omega); omega
theorem BE.place (h : BE xs n i i) : (xs.countP fun x => decide (x.f < n)) = i := by
  have hk := h.hi
  rw [← List.take_append_drop i xs, List.countP_append, List.countP_eq_length.2, List.countP_eq_zero.2, List.length_take]
  · omega
  · intro x hx
    obtain ⟨j, hj, rfl⟩ := List.mem_iff_getElem.1 hx
    rw [List.length_drop] at hj
    rw [List.getElem_drop]
    simpa using h.up (i + j) (by omega) (by omega)
  · intro x hx
    obtain ⟨j, hj, rfl⟩ := List.mem_iff_getElem.1 hx
    rw [List.length_take] at hj
    rw [List.getElem_take]
    simpa using h.lo j (by omega) (by omega)
end
theorem outCmp1_any (x : Ed) (s : Int) (w : World) (h0 : 0 ≤ x.f) (h1 : x.f < 1000000000) (h2 : 0 ≤ s) (h3 : s < 1000000000) : Calls Try.prog 97 #[x.val, .int .i64 s] w (Ret w fun u _ => u = .int .i64 (x.f - s)) := by
  obtain ⟨xf, xe, xt⟩ := x
  dsimp only [Ed.val] at *
  go_enter Try.func97, Try.ntmps97
  go_wp2
  go_ret
  exact ⟨_, rfl, rfl, (by (repeat (first | with_reducible exact Below.refl _ _ | with_reducible exact Below.refl w.heap.size w | (with_reducible refine belCall ?_ Below.refl w.heap.size w (by first | omega | (simp; done) | (simp; omega) | (simp at *; omega))) | (with_reducible refine Below.alloc ?_ (by first | omega | (simp; done) | (simp; omega) | (simp at *; omega)) _) | (with_reducible refine Below.drew ?_) | (with_reducible refine Below.setCell ?_ (by first | omega | (simp; done) | (simp; omega) | (simp at *; omega)) _))))⟩
theorem outCmp2_any (x : Ed) (s : Int) (w : World) (h0 : 0 ≤ x.f) (h1 : x.f < 1000000000) (h2 : 0 ≤ s) (h3 : s < 1000000000) : Calls Try.prog 98 #[x.val, .int .i64 s] w (Ret w fun u _ => u = .int .i64 (x.f - s)) := by
  obtain ⟨xf, xe, xt⟩ := x
  dsimp only [Ed.val] at *
  go_enter Try.func98, Try.ntmps98
  go_wp2
  go_ret
  exact ⟨_, rfl, rfl, (by (repeat (first | with_reducible exact Below.refl _ _ | with_reducible exact Below.refl w.heap.size w | (with_reducible refine belCall ?_ Below.refl w.heap.size w (by first | omega | (simp; done) | (simp; omega) | (simp at *; omega))) | (with_reducible refine Below.alloc ?_ (by first | omega | (simp; done) | (simp; omega) | (simp at *; omega)) _) | (with_reducible refine Below.drew ?_) | (with_reducible refine Below.setCell ?_ (by first | omega | (simp; done) | (simp; omega) | (simp at *; omega)) _))))⟩
set_option maxRecDepth 100000 in
theorem bsearchE_any (fn : FuncId) (v : Value) (xs : List Ed) (s : Int) (w : World) (hr : RdE w v xs) (hl : xs.length ≤ 1000000) (hs : xs.Pairwise (fun x y => x.f ≤ y.f)) (h0 : 0 ≤ s) (h1 : s < 1000000000) (hxs : ∀ x ∈ xs, 0 ≤ x.f ∧ x.f < 1000000000)
    (hen : Enters Try.prog fn) (hf : ∀ (x : Ed) (W : World), x ∈ xs → Calls Try.prog fn #[x.val, .int .i64 s] W (Ret W fun u _ => u = .int .i64 (x.f - s))) :
    Calls Try.prog 96 #[v, .int .i64 s, .func (.func fn) #[] #[]] w (Ret w fun u _ => ∃ b, u = .tuple #[.int .i64 (xs.countP fun x => decide (x.f < s)), .bool b]) := by
  obtain ⟨a, cap, rfl, hr⟩ := hr
  have Hs := Lib.hid hs
  have Hen := Lib.hid hen
  clear hs hen
  go_enter Try.func96, Try.ntmps96
  go_wp2
  go_loopw [9, 10] (fun vi vj wr => ∃ i j : Nat, vi = .int .i64 i ∧ vj = .int .i64 j ∧ BE xs s i j ∧ Below w.heap.size w wr) (fun vi vj _ => (intOf vj).toNat - (intOf vi).toNat)
  case atStart => exact ⟨0, xs.length, rfl, rfl, ⟨Nat.zero_le _, Nat.le_refl _, fun k _ h => absurd h (Nat.not_lt_zero _), fun k h1 h2 => absurd h1 (by omega)⟩, Below.refl _ _⟩
  case round =>
    obtain ⟨i, j, rfl, rfl, hB, hbel⟩ := hrel
    have h1 := hB.le
    have h2 := hB.hi
    by_cases hlt : i < j
    · have hm : (i + j) / 2 < xs.length := by omega
      obtain ⟨b, off, rfl, c0, c1, c2⟩ := hr.at_edge _ hm
      replace c0 := keep0 hbel c0
      replace c1 := keep0 hbel c1
      replace c2 := keep0 hbel c2
      go_wp2_with fail
      generalize hxk : xs[(i + j) / 2] = x at *
      have hxm : x ∈ xs := hxk ▸ List.getElem_mem hm
      have hx0 := hxs x hxm
      have Hhf := Lib.hid hf
      have Hxs := Lib.hid hxs
      clear hf hxs
      rw [Hen.out, Oper.upon_enter]
      refine (Hhf.out x wr hxm).mono ?_
      rintro e w1 ⟨_, rfl, rfl, hb1⟩
      by_cases hx : x.f < s
      · have hd : decide (x.f - s < 0) = true := by simp; omega
        have hn := hB.right hm Hs.out (hxk ▸ hx)
        clear hx hxk
        go_wp2_with fail
        go_roundw
        case rel => exact ⟨(i + j) / 2 + 1, j, by go_num, rfl, hn, hbel.trans (hb1.mono hbel.size)⟩
        case measure => simp [intOf]; omega
      · have hd : decide (x.f - s < 0) = false := by simp; omega
        have hn := hB.left hm Hs.out (hxk ▸ hx)
        clear hx hxk
        go_wp2_with fail
        go_roundw
        case rel => exact ⟨i, (i + j) / 2, rfl, by go_num, hn, hbel.trans (hb1.mono hbel.size)⟩
        case measure => simp [intOf]; omega
    · obtain rfl : i = j := by omega
      have hp := hB.place
      by_cases hlt : i < xs.length
      · obtain ⟨b, off, rfl, c0, c1, c2⟩ := hr.at_edge _ hlt
        replace c0 := keep0 hbel c0
        replace c1 := keep0 hbel c1
        replace c2 := keep0 hbel c2
        have hxm : xs[i] ∈ xs := List.getElem_mem hlt
        have Hhf := Lib.hid (hf _ wr hxm)
        have hx0 := hxs _ hxm
        generalize xs[i] = x at *
        clear hf hxs
        go_wp2_with fail
        rw [Hen.out, Oper.upon_enter]
        refine Hhf.out.mono ?_
        rintro e w1 ⟨_, rfl, rfl, hb1⟩
        go_wp2_with fail
        refine bodyPost_ret (v := .tuple #[_, _]) (by simp [results, Try.results96, go_sem]; exact ⟨rfl, rfl⟩) rfl ⟨_, rfl, ⟨_, by rw [hp]⟩, hbel.trans (hb1.mono hbel.size)⟩
      · go_wp2
        refine bodyPost_ret (v := .tuple #[_, _]) (by simp [results, Try.results96, go_sem]; exact ⟨rfl, rfl⟩) rfl ⟨_, rfl, ⟨_, by rw [hp]⟩, hbel⟩
end Go.Proofs.Ythchkddhibhenaa

/- The edges of a state, by binary searches. -/
namespace Go.Proofs.Ythchkddhibhenaa
open Go.RowKit

theorem add_block (a : Addr) (n : Nat) : (a.add n).block = a.block := by unfold Addr.add; split <;> rfl
theorem add_off (a : Addr) (n : Nat) : (a.add n).off = a.off + n := by unfold Addr.add; split <;> (try subst n) <;> rfl
theorem add_spot {a : Addr} {n : Nat} : a.spot = none → (a.add n).spot = none := by intro h; unfold Addr.add; split <;> (try exact h); rfl
theorem flat_drop {α : Type} (f : α → List Value) (sz : Nat) (hf : ∀ x, (f x).length = sz) : ∀ (l : List α) (k : Nat), (l.flatMap f).drop (k * sz) = (l.drop k).flatMap f
  | [], k => by simp
  | x :: l, 0 => by simp
  | x :: l, k + 1 => by
    rw [List.flatMap_cons, List.drop_succ_cons, ← flat_drop f sz hf l k, Nat.succ_mul, Nat.add_comm, ← List.drop_drop, List.drop_append_of_le_length (by rw [hf]; exact Nat.le_refl _), ← hf x, List.drop_length, List.nil_append]
theorem flat_take {α : Type} (f : α → List Value) (sz : Nat) (hf : ∀ x, (f x).length = sz) : ∀ (l : List α) (k : Nat), (l.flatMap f).take (k * sz) = (l.take k).flatMap f
  | [], k => by simp
  | x :: l, 0 => by simp
  | x :: l, k + 1 => by
    rw [List.flatMap_cons, List.take_succ_cons, List.flatMap_cons, ← flat_take f sz hf l k, Nat.succ_mul, Nat.add_comm, List.take_append, List.take_of_length_le (by rw [hf]; omega), hf, Nat.add_sub_cancel_left]
theorem edSub_cells (es : List Ed) (p q : Nat) : edCells (edSub es p q) = ((edCells es).drop (p * 3)).take ((q - p) * 3) := by
  rw [edCells, edSub, ← flat_take _ 3 (fun _ => rfl), ← flat_drop _ 3 (fun _ => rfl)]
theorem RdE.sub1 {w : World} {a : Option Addr} {es : List Ed} {p q c : Nat} (h : RdS w 3 a es.length c (edCells es)) (h1 : p ≤ q) (h2 : q ≤ es.length) : RdE w (.slice (a.map fun x => x.add (p * 3)) (q - p) (c - p)) (edSub es p q) := by
  have hl : (edSub es p q).length = q - p := by rw [edSub, List.length_take, List.length_drop]; omega
  have hcap := h.hcap
  have hmax := h.hmax
  refine ⟨_, _, by rw [hl], ?_⟩
  refine ⟨?_, by rw [hl]; omega, by omega, fun e => ?_, fun ad e => ?_, fun ad e j hj => ?_⟩
  · rw [edCells, flat_length _ 3 (fun _ => rfl)]
  · cases a with
    | none => rw [h.hnil rfl]; omega
    | some a => cases e
  · cases a with
    | none => cases e
    | some a => cases e; exact add_spot (h.spot a rfl)
  · cases a with
    | none => cases e
    | some a =>
      cases e
      have hj2 := hj
      rw [edCells, flat_length _ 3 (fun _ => rfl), hl] at hj2
      have hj3 : p * 3 + j < (edCells es).length := by rw [h.hlen]; omega
      have hc := h.cell a rfl (p * 3 + j) hj3
      have e1 : (edCells (edSub es p q))[j] = (edCells es)[p * 3 + j] := by
        apply Option.some.inj
        rw [← List.getElem?_eq_getElem, ← List.getElem?_eq_getElem, edSub_cells, List.getElem?_take, if_pos hj2, List.getElem?_drop]
      rw [e1, ← hc, ← Nat.add_assoc]
      show w.cell? ⟨(a.add _).block, (a.add _).off + j, none⟩ = _
      rw [add_block, add_off]
theorem RdE.sub0 {w : World} {a : Option Addr} {es : List Ed} {p q c : Nat} (h : RdS w 3 a es.length c (edCells es)) (h1 : p ≤ q) (h2 : q ≤ es.length) (hc : c = p) : RdE w (.slice a (q - p) 0) (edSub es p q) := by
  have hcap := h.hcap
  have hl : edSub es p q = [] := by
    apply List.eq_nil_of_length_eq_zero
    rw [edSub, List.length_take, List.length_drop]; omega
  rw [hl, show q - p = 0 by omega]
  exact ⟨a, 0, rfl, ⟨rfl, Nat.le_refl _, by simp [maxLen], fun _ => rfl, h.spot, fun ad e j hj => by simp at hj⟩⟩
theorem enters_out1 : Enters Try.prog 97 := enters_of Try.func97 (by kernel_rfl) rfl
theorem enters_out2 : Enters Try.prog 98 := enters_of Try.func98 (by kernel_rfl) rfl
/-- The edges of a state: a part of the argument's edges. -/
theorem out_any (aa am ae : Option Addr) (ca cm ce : Nat) (a : Aut) (s : Nat) (w : World) (hra : RdS w 1 aa a.al.length ca (ints a.al)) (hrm : RdS w 1 am a.ms.length cm (ints a.ms)) (hre : RdS w 3 ae a.es.length ce (edCells a.es)) (hle : a.es.length ≤ 1000000) (hso : a.es.Pairwise (fun x y => x.f ≤ y.f)) (hs : s < 100000000) (hxs : ∀ x ∈ a.es, 0 ≤ x.f ∧ x.f < 1000000000) :
    Calls Try.prog 88 #[.agg #[.slice aa a.al.length ca, .int .i64 a.n, .slice am a.ms.length cm, .slice ae a.es.length ce], .int .i64 s] w (Ret w fun u _ => ∀ W', RdS W' 3 ae a.es.length ce (edCells a.es) → RdE W' u (subOf a.es s)) := by
  have Hxs := Lib.hid hxs
  have Hso := Lib.hid hso
  clear hxs hso
  go_enter Try.func88, Try.ntmps88
  go_wp2_with fail
  have hb0 := bel_alloc w (.cells #[.slice aa a.al.length ca, .int .i64 a.n, .slice am a.ms.length cm, .slice ae a.es.length ce] 31)
  refine (bsearchE_any _ _ a.es s _ (RdE.mono ⟨ae, ce, rfl, hre⟩ hb0) hle Hso.out (by omega) (by omega) Hxs.out enters_out1 (fun x W hx => outCmp1_any x s W (Hxs.out x hx).1 (Hxs.out x hx).2 (by omega) (by omega))).mono ?_
  rintro e w1 ⟨_, rfl, ⟨b1, rfl⟩, hb1⟩
  have hB1 := hb0.trans (hb1.mono hb0.size)
  have x3 : w1.cell? ⟨w.heap.size, 3, none⟩ = some (.slice ae a.es.length ce) := hb1.cell (p := ⟨w.heap.size, 3, none⟩) (by simp) |>.trans (by simp [go_sem])
  generalize hP : (a.es.countP fun x => decide (x.f < (s : Int))) = p at *
  go_wp2_with fail
  refine (bsearchE_any _ _ a.es (s + 1) _ (RdE.mono ⟨ae, ce, rfl, hre⟩ hB1) hle Hso.out (by omega) (by omega) Hxs.out enters_out2 (fun x W hx => outCmp2_any x (s + 1) W (Hxs.out x hx).1 (Hxs.out x hx).2 (by omega) (by omega))).mono ?_
  rintro e w2 ⟨_, rfl, ⟨b2, rfl⟩, hb2⟩
  have hB2 := hB1.trans (hb2.mono hB1.size)
  replace x3 := keep0 hb2 x3
  generalize hQ : (a.es.countP fun x => decide (x.f < (s : Int) + 1)) = q at *
  have h1 : p ≤ q := by rw [← hP, ← hQ]; exact fstN_mono a.es _ _ (by omega)
  have h2 : q ≤ a.es.length := by rw [← hQ]; exact fstN_le a.es _
  have hre2 := hre.mono hB2
  have hcap := hre2.hcap
  have Hsub : Hid (subOf a.es s = edSub a.es p q) := by show _ = _; rw [subOf, fstN, fstN, hP, hQ]
  clear hP hQ
  have hz2 := hre2
  by_cases hce : ce = p
  · have hq : q - p = 0 := by omega
    have Hs : ∀ W', RdS W' 3 ae a.es.length ce (edCells a.es) → RdE W' (.slice ae (q - p) 0) (subOf a.es s) := fun W' h => by rw [Hsub.out]; exact RdE.sub0 (q := q) h h1 h2 hce
    go_wp2
    all_goals first | omega | (go_ret; exact ⟨_, rfl, by first | exact Hs | (rw [hq] at Hs; exact Hs), hB2⟩)
  · have Hs : ∀ W', RdS W' 3 ae a.es.length ce (edCells a.es) → RdE W' (.slice (ae.map fun x => x.add (p * 3)) (q - p) (ce - p)) (subOf a.es s) := fun W' h => by rw [Hsub.out]; exact RdE.sub1 h h1 h2
    go_wp2
    all_goals first | omega | (go_ret; exact ⟨_, rfl, Hs, hB2⟩)
end Go.Proofs.Ythchkddhibhenaa
