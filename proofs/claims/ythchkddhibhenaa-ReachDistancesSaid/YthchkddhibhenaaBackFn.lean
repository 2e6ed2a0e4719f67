/- The search backward, as a plain function. -/
import Derived.Test.YthchkddhibhenaaGraph
import Derived.Test.YthchkddhibhenaaRowStep
namespace Go.Proofs.Ythchkddhibhenaa

/-- From where the edges into s come. -/
def inL (es : List Ed) (s : Nat) : List Int := (es.filter fun x => decide (x.t = (s : Int))).map Ed.f
theorem inL_same (es : List Ed) (x : Ed) (s : Nat) (h : x.t = (s : Int)) : inL (es ++ [x]) s = inL es s ++ [x.f] := by simp [inL, h]
theorem inL_other (es : List Ed) (x : Ed) (s : Nat) (h : ¬ x.t = (s : Int)) : inL (es ++ [x]) s = inL es s := by simp [inL, h]
theorem inL_le (es : List Ed) (s : Nat) : (inL es s).length ≤ es.length := by
  unfold inL; rw [List.length_map]; exact List.length_filter_le _ _
theorem inL_mem {es : List Ed} {s : Nat} {p : Int} (h : p ∈ inL es s) : ∃ x ∈ es, x.f = p ∧ x.t = (s : Int) := by
  unfold inL at h
  obtain ⟨x, hx, rfl⟩ := List.mem_map.1 h
  obtain ⟨h1, h2⟩ := List.mem_filter.1 hx
  exact ⟨x, h1, rfl, by simpa using h2⟩

/-- A state is looked at from which an edge leads to s: acc has the distances and the queue. -/
def bStep (s : Nat) (acc : List Int × List Int) (p : Int) : List Int × List Int :=
  if acc.1.getD p.toNat 0 < 0 then (acc.1.set p.toNat (acc.1.getD s 0 + 1), acc.2 ++ [p]) else acc
def bwd (inn : Nat → List Int) : Nat → List Int → List Int → List Int
  | 0, ds, _ => ds
  | _ + 1, ds, [] => ds
  | f + 1, ds, s :: q => bwd inn f ((inn s.toNat).foldl (bStep s.toNat) (ds, q)).1 ((inn s.toNat).foldl (bStep s.toNat) (ds, q)).2
def negs (ds : List Int) : Nat := ds.countP fun d => decide (d < 0)
/-- What holds of the distances and the queue. -/
structure BOk (n : Nat) (ds q : List Int) : Prop where
  len : ds.length = n
  lo : ∀ d ∈ ds, -1 ≤ d ∧ d ≤ 1000000 - negs ds
  qr : ∀ s ∈ q, 0 ≤ s ∧ s < n
  nn : ∀ s ∈ q, 0 ≤ ds.getD s.toNat 0
theorem negs_set {ds : List Int} {p : Nat} {d : Int} (hp : p < ds.length) (h : ds[p] < 0) (hd : 0 ≤ d) : negs (ds.set p d) + 1 = negs ds := by
  unfold negs
  induction ds generalizing p with
  | nil => simp at hp
  | cons a l ih =>
    cases p with
    | zero =>
      simp only [List.set_cons_zero, List.countP_cons, List.getElem_cons_zero] at h ⊢
      rw [decide_eq_true h, decide_eq_false (by omega)]; simp
    | succ p =>
      simp only [List.set_cons_succ, List.countP_cons]
      have := ih (p := p) (by simpa using hp) (by simpa using h)
      omega
theorem getD_set_ne {ds : List Int} {p s : Nat} {d : Int} (h : p ≠ s) : (ds.set p d).getD s 0 = ds.getD s 0 := by
  simp [List.getD_eq_getElem?_getD, List.getElem?_set_ne h]
theorem BOk.step {n s : Nat} {ds q : List Int} (h : BOk n ds q) (hs : s < n) (h0 : 0 ≤ ds.getD s 0) (p : Int) (hp0 : 0 ≤ p) (hp1 : p < n) :
    BOk n (bStep s (ds, q) p).1 (bStep s (ds, q) p).2 ∧ 0 ≤ (bStep s (ds, q) p).1.getD s 0 ∧ 2 * negs (bStep s (ds, q) p).1 + (bStep s (ds, q) p).2.length ≤ 2 * negs ds + q.length := by
  unfold bStep
  dsimp only
  have hpl : p.toNat < ds.length := by rw [h.len]; omega
  split
  · rename_i hc
    rw [List.getD_eq_getElem?_getD, List.getElem?_eq_getElem hpl, Option.getD_some] at hc
    have hsl : s < ds.length := by rw [h.len]; exact hs
    have hds : ds.getD s 0 ∈ ds := by rw [List.getD_eq_getElem?_getD, List.getElem?_eq_getElem hsl]; exact List.getElem_mem _
    have hn := negs_set hpl hc (d := ds.getD s 0 + 1) (by omega)
    have hne : p.toNat ≠ s := by
      rintro rfl
      rw [List.getD_eq_getElem?_getD, List.getElem?_eq_getElem hpl, Option.getD_some] at h0
      omega
    have hset : ∀ t : Nat, t < ds.length → 0 ≤ ds.getD t 0 ∨ t = p.toNat → 0 ≤ (ds.set p.toNat (ds.getD s 0 + 1)).getD t 0 := by
      intro t ht h2
      by_cases e : p.toNat = t
      · subst e
        rw [List.getD_eq_getElem?_getD, List.getElem?_set_self hpl, Option.getD_some]; omega
      · rw [getD_set_ne e]; exact h2.resolve_right (fun h3 => e h3.symm)
    refine ⟨⟨by simp [h.len], fun d hd => ?_, fun t ht => ?_, fun t ht => ?_⟩, ?_, ?_⟩
    · dsimp only at hd ⊢
      rcases List.mem_or_eq_of_mem_set hd with h1 | h1
      · have := h.lo d h1; omega
      · have := h.lo _ hds; omega
    · dsimp only at ht
      rcases List.mem_append.1 ht with h1 | h1
      · exact h.qr t h1
      · rw [List.mem_singleton.1 h1]; exact ⟨hp0, hp1⟩
    · dsimp only at ht ⊢
      rcases List.mem_append.1 ht with h1 | h1
      · exact hset _ (by have := h.qr t h1; rw [h.len]; omega) (.inl (h.nn t h1))
      · rw [List.mem_singleton.1 h1]; exact hset _ hpl (.inr rfl)
    · dsimp only
      rw [getD_set_ne hne]; exact h0
    · dsimp only
      rw [List.length_append, List.length_singleton]; omega
  · exact ⟨h, h0, Nat.le_refl _⟩
theorem BOk.fold {n s : Nat} (hs : s < n) : ∀ (l : List Int) {ds q : List Int}, BOk n ds q → 0 ≤ ds.getD s 0 → (∀ p ∈ l, 0 ≤ p ∧ p < (n : Int)) →
    BOk n (l.foldl (bStep s) (ds, q)).1 (l.foldl (bStep s) (ds, q)).2 ∧ 0 ≤ (l.foldl (bStep s) (ds, q)).1.getD s 0 ∧ 2 * negs (l.foldl (bStep s) (ds, q)).1 + (l.foldl (bStep s) (ds, q)).2.length ≤ 2 * negs ds + q.length
  | [], _, _, h, h0, _ => ⟨h, h0, Nat.le_refl _⟩
  | p :: l, ds, q, h, h0, hp => by
    obtain ⟨h1, h2, h3⟩ := h.step hs h0 p (hp p (List.mem_cons_self ..)).1 (hp p (List.mem_cons_self ..)).2
    obtain ⟨g1, g2, g3⟩ := BOk.fold hs l h1 h2 (fun y hy => hp y (List.mem_cons_of_mem _ hy))
    exact ⟨g1, g2, Nat.le_trans g3 h3⟩
/-- The distances at the start. -/
def bStart (n : Nat) (tg : List Int) : List Int := tg.foldl (fun ds (s : Int) => ds.set s.toNat 0) (List.replicate n (-1))
theorem bStart_snoc (n : Nat) (l : List Int) (x : Int) : bStart n (l ++ [x]) = (bStart n l).set x.toNat 0 := by simp [bStart]
/-- What backward returns. -/
def backward (n : Nat) (es : List Ed) (tg : List Int) : List Int := bwd (inL es) (2 * negs (bStart n tg) + tg.length + 1) (bStart n tg) tg

theorem foldSet_get : ∀ (l : List Int) (ds : List Int) (i : Nat), i < ds.length → (∀ s ∈ l, 0 ≤ s) → (l.foldl (fun ds (s : Int) => ds.set s.toNat 0) ds).getD i 0 = if (i : Int) ∈ l then 0 else ds.getD i 0
  | [], ds, i, _, _ => by simp
  | s :: l, ds, i, hi, hs => by
    rw [List.foldl_cons, foldSet_get l (ds.set s.toNat 0) i (by simpa using hi) (fun t ht => hs t (List.mem_cons_of_mem _ ht))]
    have h0 := hs s (List.mem_cons_self ..)
    by_cases h1 : (i : Int) ∈ l
    · rw [if_pos h1, if_pos (List.mem_cons_of_mem _ h1)]
    · rw [if_neg h1]
      by_cases h2 : (i : Int) = s
      · have : s.toNat = i := by omega
        rw [if_pos (by rw [h2]; exact List.mem_cons_self ..), this, List.getD_eq_getElem?_getD, List.getElem?_set_self hi]; rfl
      · rw [if_neg (by simp [h1, h2]), getD_set_ne (by omega)]
theorem foldSet_length : ∀ (l : List Int) (ds : List Int), (l.foldl (fun ds (s : Int) => ds.set s.toNat 0) ds).length = ds.length
  | [], _ => rfl
  | s :: l, ds => by rw [List.foldl_cons, foldSet_length]; simp
theorem bStart_length (n : Nat) (tg : List Int) : (bStart n tg).length = n := by rw [bStart, foldSet_length]; simp
theorem bStart_get (n : Nat) (tg : List Int) (h : ∀ s ∈ tg, 0 ≤ s) (i : Nat) (hi : i < n) : (bStart n tg).getD i 0 = if (i : Int) ∈ tg then 0 else -1 := by
  rw [bStart, foldSet_get tg _ i (by simpa using hi) h, List.getD_eq_getElem?_getD, List.getElem?_replicate, if_pos hi]; rfl
theorem negs_le (ds : List Int) : negs ds ≤ ds.length := List.countP_le_length
theorem BOk.start (n : Nat) (tg : List Int) (hn : n ≤ 1000000) (h : ∀ s ∈ tg, 0 ≤ s ∧ s < n) : BOk n (bStart n tg) tg := by
  have hl := bStart_length n tg
  refine ⟨hl, fun d hd => ?_, h, fun s hs => ?_⟩
  · obtain ⟨i, hi, rfl⟩ := List.getElem_of_mem hd
    have h1 := bStart_get n tg (fun s hs => (h s hs).1) i (by omega)
    rw [List.getD_eq_getElem?_getD, List.getElem?_eq_getElem hi, Option.getD_some] at h1
    have := negs_le (bStart n tg)
    rw [h1]
    split <;> omega
  · have h1 := h s hs
    rw [bStart_get n tg (fun s hs => (h s hs).1) s.toNat (by omega), if_pos (by rw [Int.toNat_of_nonneg h1.1]; exact hs)]
    exact Int.le_refl 0
theorem BOk.pop {n : Nat} {ds q : List Int} {s : Int} (h : BOk n ds (s :: q)) : BOk n ds q := ⟨h.len, h.lo, fun t ht => h.qr t (List.mem_cons_of_mem _ ht), fun t ht => h.nn t (List.mem_cons_of_mem _ ht)⟩
theorem inL_range {es : List Ed} {n s : Nat} (h : ∀ x ∈ es, 0 ≤ x.f ∧ x.f < n ∧ 0 ≤ x.t ∧ x.t < (n : Int)) : ∀ p ∈ inL es s, 0 ≤ p ∧ p < (n : Int) := by
  intro p hp
  obtain ⟨x, hx, rfl, _⟩ := inL_mem hp
  exact ⟨(h x hx).1, (h x hx).2.1⟩
end Go.Proofs.Ythchkddhibhenaa
