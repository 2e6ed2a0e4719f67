/- The reference's Distance gives the least distance: a plain law. -/
import Derived.Test.YthchkddhibhenaaRDist
import Derived.Test.YthchkddhibhenaaDist
namespace Go.Proofs.Ythchkddhibhenaa

theorem lvl_fold {P : List Int} : ∀ (l : List Ed) {nx : List Int}, Inc nx → Inc (l.foldl (lvStep P) nx) ∧ ∀ t, t ∈ l.foldl (lvStep P) nx ↔ t ∈ nx ∨ ∃ x ∈ l, x.f ∈ P ∧ x.t = t
  | [], nx, h => ⟨h, fun t => by simp⟩
  | x :: l, nx, h => by
    obtain ⟨h1, h2⟩ := lvl_fold (P := P) l (lvStep_inc (P := P) h x)
    refine ⟨h1, fun t => ?_⟩
    rw [List.foldl_cons, h2 t]
    by_cases hx : hasB P x.f = true
    · have hm := hasB_true.1 hx
      have e : lvStep P nx x = addL nx x.t := by unfold lvStep; rw [if_pos hx]
      rw [e, addL_mem h]
      constructor
      · rintro ((h | rfl) | ⟨y, hy, h⟩)
        · exact .inl h
        · exact .inr ⟨x, List.mem_cons_self .., hm, rfl⟩
        · exact .inr ⟨y, List.mem_cons_of_mem _ hy, h⟩
      · rintro (h | ⟨y, hy, h, rfl⟩)
        · exact .inl (.inl h)
        · rcases List.mem_cons.1 hy with rfl | hy
          · exact .inl (.inr rfl)
          · exact .inr ⟨y, hy, h, rfl⟩
    · have hm : x.f ∉ P := fun hm => hx (hasB_true.2 hm)
      have e : lvStep P nx x = nx := by unfold lvStep; rw [if_neg hx]
      rw [e]
      constructor
      · rintro (h | ⟨y, hy, h⟩)
        · exact .inl h
        · exact .inr ⟨y, List.mem_cons_of_mem _ hy, h⟩
      · rintro (h | ⟨y, hy, h, rfl⟩)
        · exact .inl h
        · rcases List.mem_cons.1 hy with rfl | hy
          · exact absurd h hm
          · exact .inr ⟨y, hy, h, rfl⟩
theorem lvl_mem {es : List Ed} {P : List Int} (t : Int) : t ∈ lvl es P ↔ ∃ x ∈ es, x.f ∈ P ∧ x.t = t := by
  unfold lvl
  rw [(lvl_fold es List.Pairwise.nil).2 t]
  simp

theorem distR_says {es : List Ed} {tg : List Int} : ∀ (f : Nat) (c : Int) (P : List Int),
    (distR es tg f c P = -1 ∧ ∀ j, j < f → ¬ ∃ s ∈ P, ReachIn es tg j s) ∨ (∃ k : Nat, k < f ∧ distR es tg f c P = c + k ∧ (∃ s ∈ P, ReachIn es tg k s) ∧ ∀ j, j < k → ¬ ∃ s ∈ P, ReachIn es tg j s)
  | 0, c, P => .inl ⟨rfl, fun j h => absurd h (Nat.not_lt_zero _)⟩
  | f + 1, c, P => by
    by_cases hP : P.any (hasB tg) = true
    · refine .inr ⟨0, by omega, ?_, ?_, fun j h => absurd h (Nat.not_lt_zero _)⟩
      · rw [distR, if_pos hP]; simp
      · obtain ⟨s, hs, h⟩ := List.any_eq_true.1 hP
        exact ⟨s, hs, hasB_true.1 h⟩
    · have h0 : ¬ ∃ s ∈ P, ReachIn es tg 0 s := by
        rintro ⟨s, hs, h⟩
        exact hP (List.any_eq_true.2 ⟨s, hs, hasB_true.2 h⟩)
      have hstep : ∀ j, (∃ s ∈ P, ReachIn es tg (j + 1) s) ↔ ∃ s ∈ lvl es P, ReachIn es tg j s := by
        intro j
        constructor
        · rintro ⟨s, hs, x, hx, rfl, h⟩
          exact ⟨x.t, lvl_mem _ |>.2 ⟨x, hx, hs, rfl⟩, h⟩
        · rintro ⟨t, ht, h⟩
          obtain ⟨x, hx, hs, rfl⟩ := (lvl_mem _).1 ht
          exact ⟨x.f, hs, x, hx, rfl, h⟩
      have e : distR es tg (f + 1) c P = distR es tg f (c + 1) (lvl es P) := by rw [distR, if_neg hP]
      rw [e]
      rcases distR_says f (c + 1) (lvl es P) with ⟨h1, h2⟩ | ⟨k, hk, h1, h2, h3⟩
      · refine .inl ⟨h1, fun j hj => ?_⟩
        match j, hj with
        | 0, _ => exact h0
        | j + 1, hj => rw [hstep]; exact h2 j (by omega)
      · refine .inr ⟨k + 1, by omega, by rw [h1]; omega, (hstep k).2 h2, fun j hj => ?_⟩
        match j, hj with
        | 0, _ => exact h0
        | j + 1, hj => rw [hstep]; exact h3 j (by omega)

theorem distance_says {es : List Ed} {tg : List Int} {n : Nat} (hn : n ≤ 1000000) (hes : ∀ x ∈ es, 0 ≤ x.f ∧ x.f < (n : Int) ∧ 0 ≤ x.t ∧ x.t < (n : Int)) (htg : ∀ s ∈ tg, 0 ≤ s ∧ s < (n : Int)) (i : Nat) (hi : i < n) :
    distR es tg (n + 1) 0 [(i : Int)] = (backward n es tg).getD i 0 := by
  obtain ⟨hd, hb⟩ := backward_bd hn hes htg i hi
  refine IsDist.unique (es := es) (tg := tg) (s := i) ?_ hd
  rcases distR_says (es := es) (tg := tg) (n + 1) 0 [(i : Int)] with ⟨h1, h2⟩ | ⟨k, hk, h1, ⟨s, hs, h2⟩, h3⟩
  · refine .inl ⟨h1, fun j hj => ?_⟩
    rcases hd with ⟨_, h⟩ | ⟨k, e, h, _⟩
    · exact h j hj
    · exact h2 k (by omega) ⟨_, List.mem_singleton.2 rfl, h⟩
  · rw [List.mem_singleton.1 hs] at h2
    exact .inr ⟨k, by rw [h1]; omega, h2, fun j hj h => h3 j hj ⟨_, List.mem_singleton.2 rfl, h⟩⟩
end Go.Proofs.Ythchkddhibhenaa
