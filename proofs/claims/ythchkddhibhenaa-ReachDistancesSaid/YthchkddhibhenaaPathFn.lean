/- The search of path, as a plain function. -/
import Derived.Test.YthchkddhibhenaaPathInv
namespace Go.Proofs.Ythchkddhibhenaa

/-- How many edges begin before s. -/
def fstN (es : List Ed) (s : Int) : Nat := es.countP fun x => decide (x.f < s)
theorem fstN_le (es : List Ed) (s : Int) : fstN es s ≤ es.length := List.countP_le_length
theorem fstN_mono (es : List Ed) (s t : Int) (h : s ≤ t) : fstN es s ≤ fstN es t := by
  apply List.countP_mono_left
  intro x _ hx
  simp only [decide_eq_true_eq] at hx ⊢
  omega
theorem firsts_get (n : Nat) (es : List Ed) (s : Nat) (h : s ≤ n) : (ints (firsts n es))[s]? = some (.int .i64 (fstN es s)) := by
  rw [List.getElem?_map, firsts, List.getElem?_map, List.getElem?_range (by omega)]; rfl
/-- The edges of a state, as the graph gives them. -/
def subOf (es : List Ed) (s : Int) : List Ed := edSub es (fstN es s) (fstN es (s + 1))
theorem subOf_mem {es : List Ed} {s : Int} {x : Ed} (h : x ∈ subOf es s) : x ∈ es := List.mem_of_mem_drop (List.mem_of_mem_take h)

/-- An edge is looked at: acc has the flags and the steps. -/
def pStep (perm : Ed → Bool) (i : Nat) (acc : List Bool × List St) (x : Ed) : List Bool × List St :=
  if acc.1[x.t.toNat]?.getD true = false ∧ perm x = true then (acc.1.set x.t.toNat true, acc.2 ++ [⟨x.t, i, x.e⟩]) else acc
/-- The search: where it ends, and the steps. -/
def bfs (sub : Int → List Ed) (want : Int → Bool) (perm : Ed → Bool) : Nat → Nat → List Bool → List St → Option (List St × Nat)
  | 0, _, _, _ => none
  | f + 1, i, seen, steps => match steps[i]? with
    | none => none
    | some x => if want x.s = true then some (steps, i) else
      bfs sub want perm f (i + 1) ((sub x.s).foldl (pStep perm i) (seen, steps)).1 ((sub x.s).foldl (pStep perm i) (seen, steps)).2
/-- The events of the steps back from a place. -/
def back (steps : List St) : Nat → Int → List Int
  | 0, _ => []
  | f + 1, k => match steps[k.toNat]? with
    | none => []
    | some x => if 0 ≤ x.p then x.e :: back steps f x.p else []

structure POk (n : Nat) (seen : List Bool) (steps : List St) : Prop where
  len : seen.length = n
  count : steps.length = seen.count true
  range : ∀ x ∈ steps, 0 ≤ x.s ∧ x.s < n
  parent : ∀ j (h : j < steps.length), -1 ≤ steps[j].p ∧ steps[j].p < j

theorem count_set {l : List Bool} {j : Nat} (h : l[j]? = some false) : (l.set j true).count true = l.count true + 1 := by
  induction l generalizing j with
  | nil => simp at h
  | cons a l ih =>
    cases j with
    | zero => simp at h; subst h; simp
    | succ j =>
      simp at h
      rw [List.set_cons_succ, List.count_cons, List.count_cons, ih h]
      omega
theorem POk.le {n : Nat} {seen : List Bool} {steps : List St} (h : POk n seen steps) : steps.length ≤ n := by
  rw [h.count, ← h.len]; exact List.count_le_length
theorem POk.push {n i : Nat} {seen : List Bool} {steps : List St} (h : POk n seen steps) (hi : i < steps.length) (t e : Int) (h0 : 0 ≤ t) (h1 : t < n) (hs : seen[t.toNat]? = some false) : POk n (seen.set t.toNat true) (steps ++ [⟨t, i, e⟩]) := by
  refine ⟨by simp [h.len], by rw [List.length_append, count_set hs, h.count]; rfl, fun x hx => ?_, fun j hj => ?_⟩
  · rcases List.mem_append.1 hx with h2 | h2
    · exact h.range x h2
    · rw [List.mem_singleton.1 h2]; exact ⟨h0, h1⟩
  · by_cases hlt : j < steps.length
    · rw [List.getElem_append_left hlt]; exact h.parent j hlt
    · have : j = steps.length := by simp at hj; omega
      subst this
      simp only [List.getElem_append_right (Nat.le_refl _), Nat.sub_self, List.getElem_singleton]
      omega
theorem POk.step {n i : Nat} {perm : Ed → Bool} {seen : List Bool} {steps : List St} (h : POk n seen steps) (hi : i < steps.length) (x : Ed) (h0 : 0 ≤ x.t) (h1 : x.t < n) :
    POk n (pStep perm i (seen, steps) x).1 (pStep perm i (seen, steps) x).2 ∧ i < (pStep perm i (seen, steps) x).2.length := by
  unfold pStep
  dsimp only
  split
  · rename_i hc
    have hlt : x.t.toNat < seen.length := by rw [h.len]; omega
    have hs : seen[x.t.toNat]? = some false := by
      have := hc.1
      rw [List.getElem?_eq_getElem hlt] at this ⊢
      simpa using this
    exact ⟨h.push hi _ _ h0 h1 hs, by simp; omega⟩
  · exact ⟨h, hi⟩
theorem POk.fold {n i : Nat} {perm : Ed → Bool} : ∀ (l : List Ed) {seen : List Bool} {steps : List St}, POk n seen steps → i < steps.length → (∀ x ∈ l, 0 ≤ x.t ∧ x.t < n) →
    POk n (l.foldl (pStep perm i) (seen, steps)).1 (l.foldl (pStep perm i) (seen, steps)).2 ∧ i < (l.foldl (pStep perm i) (seen, steps)).2.length
  | [], _, _, h, hi, _ => ⟨h, hi⟩
  | x :: l, seen, steps, h, hi, hx => by
    have h1 := h.step (perm := perm) hi x (hx x (List.mem_cons_self ..)).1 (hx x (List.mem_cons_self ..)).2
    exact POk.fold l h1.1 h1.2 (fun y hy => hx y (List.mem_cons_of_mem _ hy))
theorem POk.start (n from_ : Nat) (h : from_ < n) : POk n ((List.replicate n false).set from_ true) [⟨from_, -1, -1⟩] := by
  refine ⟨by simp, ?_, fun x hx => ?_, fun j hj => ?_⟩
  · rw [count_set (by rw [List.getElem?_replicate, if_pos h]), List.count_replicate]; rfl
  · rw [List.mem_singleton.1 hx]; exact ⟨by simp, by simp; omega⟩
  · have : j = 0 := by simp at hj; omega
    subst this; simp
theorem bfs_found {sub : Int → List Ed} {want : Int → Bool} {perm : Ed → Bool} {f i : Nat} {seen : List Bool} {steps : List St} (hi : i < steps.length) (hw : want steps[i].s = true) : bfs sub want perm (f + 1) i seen steps = some (steps, i) := by
  rw [bfs, List.getElem?_eq_getElem hi]; simp [hw]
theorem bfs_next {sub : Int → List Ed} {want : Int → Bool} {perm : Ed → Bool} {f i : Nat} {seen : List Bool} {steps : List St} (hi : i < steps.length) (hw : want steps[i].s = false) :
    bfs sub want perm (f + 1) i seen steps = bfs sub want perm f (i + 1) ((sub steps[i].s).foldl (pStep perm i) (seen, steps)).1 ((sub steps[i].s).foldl (pStep perm i) (seen, steps)).2 := by
  rw [bfs, List.getElem?_eq_getElem hi]; simp [hw]
theorem bfs_end {sub : Int → List Ed} {want : Int → Bool} {perm : Ed → Bool} {f i : Nat} {seen : List Bool} {steps : List St} (hi : steps.length ≤ i) : bfs sub want perm (f + 1) i seen steps = none := by
  rw [bfs, List.getElem?_eq_none hi]
theorem back_next {steps : List St} {f k : Nat} (hk : k < steps.length) (hp : 0 ≤ steps[k].p) : back steps (f + 1) k = steps[k].e :: back steps f steps[k].p := by
  rw [back, Int.toNat_natCast, List.getElem?_eq_getElem hk]; simp [hp]
theorem back_end {steps : List St} {f k : Nat} (hk : k < steps.length) (hp : steps[k].p < 0) : back steps (f + 1) k = [] := by
  rw [back, Int.toNat_natCast, List.getElem?_eq_getElem hk]; simp; omega

/-- The word that path returns, and whether there is one. -/
def pathF (n : Nat) (es : List Ed) (want : Int → Bool) (perm : Ed → Bool) (from_ : Nat) : Option (List Int) :=
  (bfs (subOf es) want perm (n + 1) 0 ((List.replicate n false).set from_ true) [⟨from_, -1, -1⟩]).map fun r => (back r.1 (r.2 + 1) r.2).reverse
end Go.Proofs.Ythchkddhibhenaa
