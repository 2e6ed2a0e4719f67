/- What Make makes is right; plain laws for ReachSteps. -/
import Derived.Test.YthchkddhibhenaaMake
import Derived.Test.YthchkddhibhenaaBfsSpec
import Derived.Test.YthchkddhibhenaaDist
import Derived.Test.YthchkddhibhenaaLeads
import Derived.Test.YthchkddhibhenaaReachPath
namespace Go.Proofs.Ythchkddhibhenaa

theorem setErr_ok {n : Int} : ∀ {p : Option Int} {xs : List Int}, xs.Pairwise (· < ·) → (∀ x ∈ xs, 0 ≤ x ∧ x < n) → (∀ q, p = some q → ∀ x ∈ xs, q < x) → setErr n p xs = 0
  | _, [], _, _, _ => rfl
  | p, x :: xs, h, hr, hp => by
    obtain ⟨h1, h2⟩ := List.pairwise_cons.1 h
    have h3 := hr x (List.mem_cons_self ..)
    rw [setErr, if_neg (by omega), if_neg ?_]
    · exact setErr_ok h2 (fun y hy => hr y (List.mem_cons_of_mem _ hy)) (fun q hq y hy => by cases hq; exact h1 y hy)
    · rintro ⟨q, hq, hle⟩
      have := hp q hq x (List.mem_cons_self ..)
      omega
theorem edErr_ok {al : List Int} {n : Int} : ∀ {p : Option Ed} {es : List Ed}, Sorted es → (∀ x ∈ es, 0 ≤ x.f ∧ x.f < n ∧ 0 ≤ x.t ∧ x.t < n ∧ hasB al x.e = true) → (∀ q, p = some q → ∀ x ∈ es, edLt q x) → edErr al n p es = 0
  | _, [], _, _, _ => rfl
  | p, x :: xs, h, hr, hp => by
    obtain ⟨h1, h2⟩ := List.pairwise_cons.1 h
    have h3 := hr x (List.mem_cons_self ..)
    rw [edErr, if_neg (by omega), if_neg (by rw [h3.2.2.2.2]; simp), if_neg ?_]
    · exact edErr_ok h2 (fun y hy => hr y (List.mem_cons_of_mem _ hy)) (fun q hq y hy => by cases hq; exact h1 y hy)
    · rintro ⟨q, hq, hle⟩
      have := hp q hq x (List.mem_cons_self ..)
      unfold edLt at this
      omega
theorem range_pairwise (k : Nat) (p : Nat → Bool) : (((List.range k).filter p).map fun (i : Nat) => (i : Int)).Pairwise (· < ·) := by
  rw [List.pairwise_map]
  refine List.Pairwise.filter _ ?_
  exact List.Pairwise.imp (fun {a b} h => by omega) List.pairwise_lt_range
theorem range_in (k : Nat) (p : Nat → Bool) : ∀ x ∈ ((List.range k).filter p).map fun (i : Nat) => (i : Int), 0 ≤ x ∧ x < (k : Int) := by
  intro x hx
  obtain ⟨i, hi, rfl⟩ := List.mem_map.1 hx
  have := List.mem_range.1 (List.mem_filter.1 hi).1
  omega
theorem bitsL_pairwise (b : Int) (k : Nat) : (bitsL b k).Pairwise (· < ·) := range_pairwise k _
theorem bitsL_in (b : Int) (k : Nat) : ∀ x ∈ bitsL b k, 0 ≤ x ∧ x < (k : Int) := range_in k _
theorem bitsL_err (b : Int) (k : Nat) : setErr k none (bitsL b k) = 0 := setErr_ok (bitsL_pairwise b k) (bitsL_in b k) (fun q hq => by cases hq)
theorem bitsL_mem {b : Int} {k i : Nat} (h : i < k) : (i : Int) ∈ bitsL b k ↔ bitB b i = true := by
  unfold bitsL
  rw [List.mem_map]
  constructor
  · rintro ⟨j, hj, e⟩
    have : j = i := by omega
    subst this
    exact (List.mem_filter.1 hj).2
  · intro hb
    exact ⟨i, List.mem_filter.2 ⟨List.mem_range.2 h, hb⟩, rfl⟩
theorem allL_eq (n : Nat) : allL n = ((List.range n).filter fun _ => true).map fun (i : Nat) => (i : Int) := by
  unfold allL; rw [List.filter_eq_self.2 (by simp)]
theorem allL_err (n : Nat) : setErr n none (allL n) = 0 := by
  rw [allL_eq]; exact setErr_ok (range_pairwise n _) (range_in n _) (fun q hq => by cases hq)
theorem allL_mem {n : Nat} {s : Int} (h0 : 0 ≤ s) (h1 : s < n) : hasB (allL n) s = true := by
  rw [hasB_true]; unfold allL
  exact List.mem_map.2 ⟨s.toNat, List.mem_range.2 (by omega), by omega⟩

theorem mkRow_mem {xs : List Int} {i e : Nat} {x : Ed} (h : x ∈ mkRow xs i e) : x.f = i ∧ 0 ≤ x.e ∧ x.e < e ∧ 0 ≤ x.t ∧ x.t < mkN xs := by
  unfold mkRow at h
  obtain ⟨j, hj, hx⟩ := List.mem_filterMap.1 h
  have := List.mem_range.1 hj
  split at hx
  · rename_i hc
    cases hx
    exact ⟨rfl, by dsimp only; omega, by dsimp only; omega, hc.1, hc.2⟩
  · cases hx
theorem mkRow_sorted (xs : List Int) (i : Nat) : ∀ e, Sorted (mkRow xs i e)
  | 0 => by simp [mkRow, Sorted]
  | e + 1 => by
    by_cases h : 0 ≤ mkTo xs i e ∧ mkTo xs i e < mkN xs
    · rw [mkRow_yes h]
      unfold Sorted
      rw [List.pairwise_append]
      refine ⟨mkRow_sorted xs i e, List.pairwise_singleton _ _, fun a ha b hb => ?_⟩
      rw [List.mem_singleton.1 hb]
      have := mkRow_mem ha
      unfold edLt
      dsimp only; omega
    · rw [mkRow_no h]; exact mkRow_sorted xs i e
theorem mkEs_mem {xs : List Int} {k : Nat} {x : Ed} (h : x ∈ mkEs xs k) : 0 ≤ x.f ∧ x.f < k ∧ 0 ≤ x.e ∧ x.e < 4 ∧ 0 ≤ x.t ∧ x.t < mkN xs := by
  unfold mkEs at h
  obtain ⟨i, hi, hx⟩ := List.mem_flatMap.1 h
  have := List.mem_range.1 hi
  have h2 := mkRow_mem hx
  omega
theorem mkEs_sorted (xs : List Int) : ∀ k, Sorted (mkEs xs k)
  | 0 => by simp [mkEs, Sorted]
  | k + 1 => by
    rw [mkEs_succ]
    unfold Sorted
    rw [List.pairwise_append]
    refine ⟨mkEs_sorted xs k, mkRow_sorted xs k 4, fun a ha b hb => ?_⟩
    have h1 := mkEs_mem ha
    have h2 := mkRow_mem hb
    unfold edLt; omega
theorem mkA_err (xs : List Int) : (mkA xs).err = 0 := by
  have hN := mkN_le xs
  have h1 : setErr 32 none (mkA xs).al = 0 := by show setErr 32 none [0, 1, 2, 3] = 0; decide
  have h2 : setErr (mkA xs).n none (mkA xs).ms = 0 := bitsL_err _ _
  have h3 : edErr (mkA xs).al (mkA xs).n none (mkA xs).es = 0 := by
    refine edErr_ok (mkEs_sorted xs _) (fun x hx => ?_) (fun q hq => by cases hq)
    have h := mkEs_mem hx
    refine ⟨h.1, h.2.1, h.2.2.2.2.1, h.2.2.2.2.2, ?_⟩
    rw [hasB_true]
    show x.e ∈ [0, 1, 2, 3]
    have : x.e = 0 ∨ x.e = 1 ∨ x.e = 2 ∨ x.e = 3 := by omega
    rcases this with h | h | h | h <;> rw [h] <;> decide
  unfold Aut.err
  rw [h1, if_neg (by decide), if_neg (by show ¬ ((mkN xs : Nat) : Int) < 0; omega), if_neg (by show ¬ (4096 : Int) < ((mkN xs : Nat) : Int); omega), h2, if_neg (by decide), h3]
theorem mkA_small (xs : List Int) : (mkA xs).small := by
  have hN := mkN_le xs
  refine ⟨by show 4 ≤ 1000000; decide, ?_, ?_⟩
  · have := bitsL_le (xs.getD 1 0) (mkN xs)
    show (bitsL (xs.getD 1 0) (mkN xs)).length ≤ 1000000
    omega
  · have := mkEs_le xs (mkN xs)
    show (mkEs xs (mkN xs)).length ≤ 1000000
    omega
theorem mkA_es (xs : List Int) : ∀ x ∈ (mkA xs).es, 0 ≤ x.f ∧ x.f < (mkN xs : Int) ∧ 0 ≤ x.t ∧ x.t < (mkN xs : Int) := fun x hx => by
  have h := mkEs_mem hx
  exact ⟨h.1, h.2.1, h.2.2.2.2.1, h.2.2.2.2.2⟩
theorem mkA_ev (xs : List Int) : EvEs (mkA xs).es := fun x hx => by
  have h := mkEs_mem hx
  omega
theorem mkA_sorted (xs : List Int) : Sorted (mkA xs).es := mkEs_sorted xs _

/-- The least distance behind an edge of a state. -/
def lStep (D : List Int) (i : Int) (l : Int) (x : Ed) : Int := if x.f = i ∧ 0 ≤ D.getD x.t.toNat 0 ∧ (l < 0 ∨ D.getD x.t.toNat 0 < l) then D.getD x.t.toNat 0 else l
def leastL (D : List Int) (i : Int) (es : List Ed) : Int := es.foldl (lStep D i) (-1)
theorem least_fold (D : List Int) (i : Int) : ∀ (es : List Ed) (l : Int), (es.foldl (lStep D i) l = l ∨ ∃ x ∈ es, x.f = i ∧ 0 ≤ D.getD x.t.toNat 0 ∧ es.foldl (lStep D i) l = D.getD x.t.toNat 0) ∧
    (0 ≤ l → es.foldl (lStep D i) l ≤ l ∧ 0 ≤ es.foldl (lStep D i) l) ∧ (∀ x ∈ es, x.f = i → 0 ≤ D.getD x.t.toNat 0 → 0 ≤ es.foldl (lStep D i) l ∧ es.foldl (lStep D i) l ≤ D.getD x.t.toNat 0)
  | [], l => ⟨.inl rfl, fun h => ⟨Int.le_refl _, h⟩, fun x hx => by cases hx⟩
  | y :: es, l => by
    rw [List.foldl_cons]
    obtain ⟨h1, h2, h3⟩ := least_fold D i es (lStep D i l y)
    have hs : (lStep D i l y = l ∧ ¬ (y.f = i ∧ 0 ≤ D.getD y.t.toNat 0 ∧ (l < 0 ∨ D.getD y.t.toNat 0 < l))) ∨ (lStep D i l y = D.getD y.t.toNat 0 ∧ (y.f = i ∧ 0 ≤ D.getD y.t.toNat 0 ∧ (l < 0 ∨ D.getD y.t.toNat 0 < l))) := by
      unfold lStep
      split
      · rename_i h; exact .inr ⟨rfl, h⟩
      · rename_i h; exact .inl ⟨rfl, h⟩
    refine ⟨?_, fun hl => ?_, fun x hx hf h0 => ?_⟩
    · rcases h1 with h1 | ⟨x, hx, h4, h5, h6⟩
      · rcases hs with ⟨e, _⟩ | ⟨e, g1, g2, _⟩
        · exact .inl (h1.trans e)
        · exact .inr ⟨y, List.mem_cons_self .., g1, g2, h1.trans e⟩
      · exact .inr ⟨x, List.mem_cons_of_mem _ hx, h4, h5, h6⟩
    · rcases hs with ⟨e, _⟩ | ⟨e, g1, g2, g3⟩
      · rw [e] at h2 ⊢; exact h2 hl
      · rw [e] at h2 ⊢
        have := h2 g2
        omega
    · rcases List.mem_cons.1 hx with rfl | hx
      · rcases hs with ⟨e, g⟩ | ⟨e, g1, g2, _⟩
        · rw [e] at h2 ⊢
          have hl : 0 ≤ l ∧ l ≤ D.getD x.t.toNat 0 := by
            by_cases hl : l < 0
            · exact absurd ⟨hf, h0, .inl hl⟩ g
            · by_cases hl2 : D.getD x.t.toNat 0 < l
              · exact absurd ⟨hf, h0, .inr hl2⟩ g
              · omega
          have := h2 hl.1
          omega
        · rw [e] at h2 ⊢
          have := h2 g2
          omega
      · exact h3 x hx hf h0

section
variable {es : List Ed} {tg : List Int} {n : Nat}
/-- Each distance is 0 for a target, and otherwise one more than the least one behind an edge. -/
theorem dist_step {D : List Int} (hes : ∀ x ∈ es, 0 ≤ x.f ∧ x.f < (n : Int) ∧ 0 ≤ x.t ∧ x.t < (n : Int)) (hD : ∀ i : Nat, i < n → IsDist es tg i (D.getD i 0)) (i : Nat) (hi : i < n) :
    D.getD i 0 = if (i : Int) ∈ tg then 0 else if 0 ≤ leastL D i es then leastL D i es + 1 else -1 := by
  refine (hD i hi).unique ?_
  by_cases hm : (i : Int) ∈ tg
  · rw [if_pos hm]
    exact .inr ⟨0, rfl, hm, fun j hj => absurd hj (by omega)⟩
  · rw [if_neg hm]
    obtain ⟨h1, _, h3⟩ := least_fold D i es (-1)
    have hDx : ∀ x ∈ es, IsDist es tg x.t (D.getD x.t.toNat 0) := fun x hx => by
      have h := hes x hx
      have := hD x.t.toNat (by omega)
      rwa [Int.toNat_of_nonneg h.2.2.1] at this
    have hl0 : es.foldl (lStep D i) (-1) = leastL D i es := rfl
    rw [hl0] at h1 h3
    clear hl0
    generalize leastL D i es = l at *
    by_cases hl : 0 ≤ l
    · rw [if_pos hl]
      rcases h1 with h1 | ⟨x, hx, hxf, hx0, he⟩
      · omega
      · rcases hDx x hx with ⟨h4, _⟩ | ⟨k, h4, h5, h6⟩
        · omega
        · refine .inr ⟨k + 1, by omega, ⟨x, hx, hxf, h5⟩, fun j hj hr => ?_⟩
          cases j with
          | zero => exact hm hr
          | succ j =>
            obtain ⟨y, hy, hyf, hyr⟩ := hr
            rcases hDx y hy with ⟨_, h7⟩ | ⟨k', h7, h8, h9⟩
            · exact h7 j hyr
            · have := h3 y hy hyf (by omega)
              have : ¬ j < k' := fun hlt => h9 j hlt hyr
              omega
    · rw [if_neg hl]
      refine .inl ⟨rfl, fun k hr => ?_⟩
      cases k with
      | zero => exact hm hr
      | succ k =>
        obtain ⟨x, hx, hxf, hxr⟩ := hr
        rcases hDx x hx with ⟨_, h7⟩ | ⟨k', h7, _, _⟩
        · exact h7 k hxr
        · have := h3 x hx hxf (by omega)
          omega
theorem Leads.reachIn {perm : Ed → Bool} : ∀ {u : List Int} {s t : Int}, Leads es perm s u t → t ∈ tg → ReachIn es tg u.length s
  | [], s, t, h, ht => by rw [show s = t from h]; exact ht
  | e :: u, s, t, ⟨x, hx, h1, h2, h3, h4⟩, ht => ⟨x, hx, h1, h4.reachIn ht⟩
theorem ReachIn.leads {perm : Ed → Bool} (hp : ∀ x ∈ es, perm x = true) : ∀ {k : Nat} {s : Int}, ReachIn es tg k s → ∃ u t, u.length = k ∧ Leads es perm s u t ∧ t ∈ tg
  | 0, s, h => ⟨[], s, rfl, rfl, h⟩
  | k + 1, s, ⟨x, hx, h1, h2⟩ => by
    obtain ⟨u, t, h3, h4, h5⟩ := h2.leads hp
    exact ⟨x.e :: u, t, by simp [h3], ⟨x, hx, h1, rfl, hp x hx, h4⟩, h5⟩
/-- A least word has the least length. -/
theorem least_dist {perm : Ed → Bool} {s d : Int} {w : List Int} (hp : ∀ x ∈ es, perm x = true) (he : EvEs es) (hL : Least es perm (hasB tg) s 0 w) (hd : IsDist es tg s d) : d = w.length := by
  refine hd.unique (.inr ⟨w.length, rfl, ?_, fun j hj hr => ?_⟩)
  · obtain ⟨t, h1, h2⟩ := hL.leads
    exact h1.reachIn (hasB_true.1 h2)
  · obtain ⟨u, t, h3, h4, h5⟩ := hr.leads hp
    have h6 := hL.le u t h4 (hasB_true.2 h5) (Nat.zero_le _)
    have := wval_len hL.ev (h4.evs he) h6
    omega
theorem none_dist {perm : Ed → Bool} {s d : Int} (hp : ∀ x ∈ es, perm x = true) (hL : ∀ u t, Leads es perm s u t → hasB tg t = false) (hd : IsDist es tg s d) : d = -1 := by
  refine hd.unique (.inl ⟨rfl, fun k hr => ?_⟩)
  obtain ⟨u, t, h3, h4, h5⟩ := hr.leads hp
  have := hL u t h4
  rw [hasB_true.2 h5] at this; cases this
theorem next_fold (s e : Int) : ∀ (es : List Ed) (v : Int), Sorted es → ∀ x ∈ es, x.f = s → x.e = e → es.foldl (fun nx x => if x.f = s ∧ x.e = e then x.t else nx) v = x.t
  | [], _, _, x, hx, _, _ => by cases hx
  | y :: es, v, hso, x, hx, hf, he => by
    obtain ⟨h1, h2⟩ := List.pairwise_cons.1 hso
    rw [List.foldl_cons]
    rcases List.mem_cons.1 hx with rfl | hx
    · rw [if_pos ⟨hf, he⟩]
      have : ∀ (l : List Ed), (∀ y ∈ l, ¬ (y.f = s ∧ y.e = e)) → ∀ v, l.foldl (fun nx x => if x.f = s ∧ x.e = e then x.t else nx) v = v := by
        intro l
        induction l with
        | nil => intro _ v; rfl
        | cons z l ih => intro hz v; rw [List.foldl_cons, if_neg (hz z (List.mem_cons_self ..)), ih (fun y hy => hz y (List.mem_cons_of_mem _ hy))]
      exact this es (fun y hy h => by have := h1 y hy; unfold edLt at this; omega) _
    · exact next_fold s e es _ h2 x hx hf he
theorem Leads.leadsL {perm : Ed → Bool} (hso : Sorted es) (hes : ∀ x ∈ es, 0 ≤ x.t) : ∀ {u : List Int} {s t : Int}, Leads es perm s u t → leadsL es tg s u = hasB tg t
  | [], s, t, h => by rw [show s = t from h]; rfl
  | e :: u, s, t, ⟨x, hx, h1, h2, h3, h4⟩ => by
    have h5 : nextL es s e = x.t := next_fold s e es (-1) hso x hx h1 h2
    have := hes x hx
    rw [Go.Proofs.Ythchkddhibhenaa.leadsL, h5, if_neg (by omega)]
    exact h4.leadsL hso hes
end

/-- What ReachSteps checks of one state. -/
theorem steps_one (xs : List Int) (b : Int) (i : Nat) (hi : i < mkN xs) :
    let D := backward (mkN xs) (mkA xs).es (bitsL b (mkN xs))
    D.getD i 0 = (if bitB b i = true then 0 else if 0 ≤ leastL D i (mkA xs).es then leastL D i (mkA xs).es + 1 else -1) ∧
    pathErr (mkA xs) i (bitsL b (mkN xs)) (allL (mkN xs)) = 0 ∧
    match reachPath (mkA xs) i (bitsL b (mkN xs)) (allL (mkN xs)) with
    | some w => D.getD i 0 = w.length ∧ leadsL (mkA xs).es (bitsL b (mkN xs)) i w = true
    | none => D.getD i 0 = -1 := by
  intro D
  have hN := mkN_le xs
  have hes := mkA_es xs
  have hD : ∀ i : Nat, i < mkN xs → IsDist (mkA xs).es (bitsL b (mkN xs)) i (D.getD i 0) := fun i hi => backward_dist (by omega) hes (bitsL_in b _) i hi
  refine ⟨?_, ?_, ?_⟩
  · rw [dist_step hes hD i hi]
    congr 1
    rw [bitsL_mem hi]
  · rw [pathErr, err2, if_pos (mkA_err xs), if_neg ?_, err2, if_pos (show setErr (mkA xs).n none (bitsL b (mkN xs)) = 0 from bitsL_err b _)]
    · exact allL_err _
    · show ¬ ((i : Int) < 0 ∨ ((mkN xs : Nat) : Int) ≤ i)
      omega
  · have hp : ∀ x ∈ (mkA xs).es, hasB (allL (mkN xs)) x.t = true := fun x hx => allL_mem (hes x hx).2.2.1 (hes x hx).2.2.2
    have hr : reachPath (mkA xs) i (bitsL b (mkN xs)) (allL (mkN xs)) = pathF (mkN xs) (mkA xs).es (hasB (bitsL b (mkN xs))) (fun x => hasB (allL (mkN xs)) x.t) i := by
      rw [reachPath, if_pos (allL_mem (by omega) (by omega))]
      rfl
    rw [hr]
    have hs := pathF_says (perm := fun x => hasB (allL (mkN xs)) x.t) (want := hasB (bitsL b (mkN xs))) (mkA_sorted xs) (fun x hx => (hes x hx).2.2) (mkA_ev xs) hi
    generalize pathF (mkN xs) (mkA xs).es (hasB (bitsL b (mkN xs))) (fun x => hasB (allL (mkN xs)) x.t) i = r at hs
    cases r with
    | none => exact none_dist hp hs (hD i hi)
    | some w =>
      refine ⟨least_dist hp (mkA_ev xs) hs (hD i hi), ?_⟩
      obtain ⟨t, h1, h2⟩ := hs.leads
      rw [h1.leadsL (mkA_sorted xs) (fun x hx => (hes x hx).2.2.1)]
      exact h2
end Go.Proofs.Ythchkddhibhenaa
