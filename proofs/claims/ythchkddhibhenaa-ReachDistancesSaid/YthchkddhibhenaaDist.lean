/- backward finds the least distances: a plain law. -/
import Derived.Test.YthchkddhibhenaaWord
import Derived.Test.YthchkddhibhenaaCorea
namespace Go.Proofs.Ythchkddhibhenaa

/-- A target is reached by k edges. -/
def ReachIn (es : List Ed) (tg : List Int) : Nat → Int → Prop
  | 0, s => s ∈ tg
  | k + 1, s => ∃ x ∈ es, x.f = s ∧ ReachIn es tg k x.t
/-- The least distance, or -1. -/
def IsDist (es : List Ed) (tg : List Int) (s d : Int) : Prop := (d = -1 ∧ ∀ k, ¬ ReachIn es tg k s) ∨ (∃ k : Nat, d = k ∧ ReachIn es tg k s ∧ ∀ j, j < k → ¬ ReachIn es tg j s)
theorem IsDist.unique {es : List Ed} {tg : List Int} {s d d' : Int} (h : IsDist es tg s d) (h' : IsDist es tg s d') : d = d' := by
  rcases h with ⟨rfl, h⟩ | ⟨k, rfl, h1, h2⟩
  · rcases h' with ⟨rfl, _⟩ | ⟨k, rfl, h1, _⟩
    · rfl
    · exact absurd h1 (h k)
  · rcases h' with ⟨rfl, h'⟩ | ⟨k', rfl, h1', h2'⟩
    · exact absurd h1 (h' k)
    · have a1 : ¬ k < k' := fun hlt => h2' k hlt h1
      have a2 : ¬ k' < k := fun hlt => h2 k' hlt h1'
      omega

/-- What holds of the distances while backward searches. -/
structure BD (es : List Ed) (tg : List Int) (n : Nat) (ds q : List Int) (c : Int) : Prop where
  ok : BOk n ds q
  fit : ∀ i, i < n → 0 ≤ ds.getD i 0 → ∃ k : Nat, ds.getD i 0 = k ∧ ReachIn es tg k i
  top : ∀ i, i < n → ds.getD i 0 ≤ c + 1
  low : ∀ s ∈ q, c ≤ ds.getD s.toNat 0
  srt : q.Pairwise fun s t => ds.getD s.toNat 0 ≤ ds.getD t.toNat 0
  done : ∀ x ∈ es, 0 ≤ ds.getD x.t.toNat 0 → x.t ∈ q ∨ (0 ≤ ds.getD x.f.toNat 0 ∧ ds.getD x.f.toNat 0 ≤ ds.getD x.t.toNat 0 + 1)
  tgt : ∀ s ∈ tg, ds.getD s.toNat 0 = 0
  bnd : ∀ i, i < n → ds.getD i 0 ≤ n - negs ds

section
variable {es : List Ed} {tg : List Int} {n : Nat}
theorem getD_set_at {ds : List Int} {p : Nat} {d : Int} (h : p < ds.length) : (ds.set p d).getD p 0 = d := by
  rw [List.getD_eq_getElem?_getD, List.getElem?_set_self h]; rfl
/-- The state of a search while the edges into s are followed: all but those in l. -/
structure BDs (es : List Ed) (tg : List Int) (n : Nat) (s : Nat) (c : Int) (ds q l : List Int) : Prop where
  ok : BOk n ds q
  at_ : ds.getD s 0 = c
  c0 : 0 ≤ c
  fit : ∀ i, i < n → 0 ≤ ds.getD i 0 → ∃ k : Nat, ds.getD i 0 = k ∧ ReachIn es tg k i
  top : ∀ i, i < n → ds.getD i 0 ≤ c + 1
  low : ∀ s ∈ q, c ≤ ds.getD s.toNat 0
  srt : q.Pairwise fun s t => ds.getD s.toNat 0 ≤ ds.getD t.toNat 0
  done : ∀ x ∈ es, 0 ≤ ds.getD x.t.toNat 0 → x.t ∈ q ∨ (x.t = s ∧ x.f ∈ l) ∨ (0 ≤ ds.getD x.f.toNat 0 ∧ ds.getD x.f.toNat 0 ≤ ds.getD x.t.toNat 0 + 1)
  tgt : ∀ s ∈ tg, ds.getD s.toNat 0 = 0
  bnd : ∀ i, i < n → ds.getD i 0 ≤ n - negs ds
theorem BDs.fold (hes : ∀ x ∈ es, 0 ≤ x.f ∧ x.f < (n : Int) ∧ 0 ≤ x.t ∧ x.t < (n : Int)) (htg : ∀ s ∈ tg, 0 ≤ s ∧ s < (n : Int)) {s : Nat} (hs : s < n) {c : Int} : ∀ (l : List Int) {ds q : List Int}, BDs es tg n s c ds q l → (∀ p ∈ l, ∃ x ∈ es, x.f = p ∧ x.t = s) →
    BDs es tg n s c (l.foldl (bStep s) (ds, q)).1 (l.foldl (bStep s) (ds, q)).2 []
  | [], _, _, h, _ => h
  | p :: l, ds, q, h, hp => by
    rw [List.foldl_cons]
    obtain ⟨x, hx, rfl, hxt⟩ := hp p (List.mem_cons_self ..)
    have hxr := hes x hx
    have hl := h.ok.len
    by_cases hneg : ds.getD x.f.toNat 0 < 0
    · have hst : bStep s (ds, q) x.f = (ds.set x.f.toNat (ds.getD s 0 + 1), q ++ [x.f]) := by unfold bStep; rw [if_pos hneg]
      have hstep := h.ok.step hs (by rw [h.at_]; exact h.c0) x.f hxr.1 hxr.2.1
      rw [hst] at hstep ⊢
      rw [h.at_] at hstep ⊢
      have hne : x.f.toNat ≠ s := by
        intro e; rw [e, h.at_] at hneg; have := h.c0; omega
      have hfl : x.f.toNat < ds.length := by omega
      have hself : (ds.set x.f.toNat (c + 1)).getD x.f.toNat 0 = c + 1 := getD_set_at hfl
      have hother : ∀ i, i ≠ x.f.toNat → (ds.set x.f.toNat (c + 1)).getD i 0 = ds.getD i 0 := fun i hi => getD_set_ne (fun e => hi e.symm)
      have hc0 := h.c0
      obtain ⟨k, hk1, hk2⟩ := h.fit s hs (by rw [h.at_]; exact h.c0)
      rw [h.at_] at hk1
      have hq : ∀ t ∈ q, t.toNat ≠ x.f.toNat := by
        intro t ht e
        have := h.ok.nn t ht
        rw [e] at this; omega
      refine BDs.fold hes htg hs l ⟨hstep.1, by rw [hother s (Ne.symm hne)]; exact h.at_, h.c0, ?_, ?_, ?_, ?_, ?_, ?_, ?_⟩ (fun p hp' => hp p (List.mem_cons_of_mem _ hp'))
      · intro i hi h0
        by_cases e : i = x.f.toNat
        · subst e
          rw [hself]
          refine ⟨k + 1, by omega, x, hx, by omega, ?_⟩
          rw [hxt]; exact hk2
        · rw [hother i e] at h0 ⊢; exact h.fit i hi h0
      · intro i hi
        by_cases e : i = x.f.toNat
        · subst e; rw [hself]; exact Int.le_refl _
        · rw [hother i e]; exact h.top i hi
      · intro t ht
        rcases List.mem_append.1 ht with ht | ht
        · rw [hother _ (hq t ht)]; exact h.low t ht
        · rw [List.mem_singleton.1 ht, hself]; omega
      · rw [List.pairwise_append]
        refine ⟨List.Pairwise.imp_of_mem (fun {a b} ha hb hab => ?_) h.srt, List.pairwise_singleton _ _, fun a ha b hb => ?_⟩
        · rw [hother _ (hq a ha), hother _ (hq b hb)]; exact hab
        · rw [List.mem_singleton.1 hb, hself, hother _ (hq a ha)]
          have h1 := h.ok.qr a ha
          exact h.top a.toNat (by omega)
      · intro y hy h0
        by_cases e : y.t.toNat = x.f.toNat
        · have : y.t = x.f := by have := hes y hy; omega
          exact .inl (by rw [this]; simp)
        · rw [hother _ e] at h0 ⊢
          rcases h.done y hy h0 with h1 | ⟨h1, h2⟩ | ⟨h1, h2⟩
          · exact .inl (List.mem_append_left _ h1)
          · rcases List.mem_cons.1 h2 with h2 | h2
            · refine .inr (.inr ?_)
              rw [h2, hself, h1, Int.toNat_natCast, h.at_]; omega
            · exact .inr (.inl ⟨h1, h2⟩)
          · refine .inr (.inr ?_)
            by_cases e2 : y.f.toNat = x.f.toNat
            · rw [e2] at h1; omega
            · rw [hother _ e2]; exact ⟨h1, h2⟩
      · intro t ht
        have := h.tgt t ht
        by_cases e : t.toNat = x.f.toNat
        · rw [e] at this; omega
        · rw [hother _ e]; exact this
      · intro i hi
        have h9 : negs (ds.set x.f.toNat (c + 1)) + 1 = negs ds := negs_set hfl (by rw [List.getD_eq_getElem?_getD, List.getElem?_eq_getElem hfl] at hneg; exact hneg) (by omega)
        have h8 := h.bnd s hs
        rw [h.at_] at h8
        by_cases e : i = x.f.toNat
        · subst e; rw [hself]; omega
        · rw [hother i e]; have := h.bnd i hi; omega
    · have hst : bStep s (ds, q) x.f = (ds, q) := by unfold bStep; rw [if_neg hneg]
      rw [hst]
      refine BDs.fold hes htg hs l ⟨h.ok, h.at_, h.c0, h.fit, h.top, h.low, h.srt, ?_, h.tgt, h.bnd⟩ (fun p hp' => hp p (List.mem_cons_of_mem _ hp'))
      intro y hy h0
      rcases h.done y hy h0 with h1 | ⟨h1, h2⟩ | h1
      · exact .inl h1
      · rcases List.mem_cons.1 h2 with h2 | h2
        · refine .inr (.inr ?_)
          rw [h2, h1, Int.toNat_natCast, h.at_]
          exact ⟨by omega, h.top _ (by omega)⟩
        · exact .inr (.inl ⟨h1, h2⟩)
      · exact .inr (.inr h1)
theorem BD.bwd (hes : ∀ x ∈ es, 0 ≤ x.f ∧ x.f < (n : Int) ∧ 0 ≤ x.t ∧ x.t < (n : Int)) (htg : ∀ s ∈ tg, 0 ≤ s ∧ s < (n : Int)) : ∀ (f : Nat) {ds q : List Int} {c : Int}, BD es tg n ds q c → 2 * negs ds + q.length < f →
    ∃ c', BD es tg n (Go.Proofs.Ythchkddhibhenaa.bwd (inL es) f ds q) [] c'
  | 0, _, _, _, _, hf => absurd hf (by omega)
  | f + 1, ds, [], c, h, _ => ⟨c, h⟩
  | f + 1, ds, s :: q, c, h, hf => by
    rw [Go.Proofs.Ythchkddhibhenaa.bwd]
    have hs := h.ok.qr s (List.mem_cons_self ..)
    have h0 := h.ok.nn s (List.mem_cons_self ..)
    have hc := h.low s (List.mem_cons_self ..)
    obtain ⟨hs1, hs2⟩ := List.pairwise_cons.1 h.srt
    have h1 : BDs es tg n s.toNat (ds.getD s.toNat 0) ds q (inL es s.toNat) := by
      refine ⟨h.ok.pop, rfl, h0, h.fit, fun i hi => ?_, hs1, hs2, fun x hx hx0 => ?_, h.tgt, h.bnd⟩
      · have := h.top i hi; omega
      · rcases h.done x hx hx0 with h2 | h2
        · rcases List.mem_cons.1 h2 with h2 | h2
          · refine .inr (.inl ⟨by omega, ?_⟩)
            unfold inL
            exact List.mem_map.2 ⟨x, List.mem_filter.2 ⟨hx, by rw [h2]; simp; omega⟩, rfl⟩
          · exact .inl h2
        · exact .inr (.inr h2)
    have h2 := h1.fold hes htg (by omega) (inL es s.toNat) (fun p hp => inL_mem hp)
    have h3 := BOk.fold (show s.toNat < n by omega) (inL es s.toNat) h.ok.pop h0 (inL_range hes)
    refine BD.bwd hes htg f (c := ds.getD s.toNat 0) ⟨h2.ok, h2.fit, h2.top, h2.low, h2.srt, fun x hx hx0 => ?_, h2.tgt, h2.bnd⟩ ?_
    · rcases h2.done x hx hx0 with h4 | ⟨_, h4⟩ | h4
      · exact .inl h4
      · cases h4
      · exact .inr h4
    · have := h3.2.2
      simp only [List.length_cons] at hf
      omega
/-- backward's distances are the least ones. -/
theorem backward_bd (hn : n ≤ 1000000) (hes : ∀ x ∈ es, 0 ≤ x.f ∧ x.f < (n : Int) ∧ 0 ≤ x.t ∧ x.t < (n : Int)) (htg : ∀ s ∈ tg, 0 ≤ s ∧ s < (n : Int)) (i : Nat) (hi : i < n) : IsDist es tg i ((backward n es tg).getD i 0) ∧ (backward n es tg).getD i 0 ≤ n := by
  have hst := bStart_get n tg (fun s hs => (htg s hs).1)
  have h0 : BD es tg n (bStart n tg) tg 0 := by
    refine ⟨BOk.start n tg hn htg, ?_, ?_, ?_, ?_, ?_, ?_, ?_⟩
    · intro i hi h0
      rw [hst i hi] at h0 ⊢
      by_cases hm : (i : Int) ∈ tg
      · rw [if_pos hm]; exact ⟨0, rfl, hm⟩
      · rw [if_neg hm] at h0; omega
    · intro i hi
      rw [hst i hi]; split <;> omega
    · intro s hs
      have h1 := htg s hs
      rw [hst s.toNat (by omega), if_pos (by rw [Int.toNat_of_nonneg h1.1]; exact hs)]; exact Int.le_refl _
    · refine List.Pairwise.imp_of_mem (R := fun _ _ => True) (fun {a b} ha hb _ => ?_) (List.pairwise_of_forall (fun _ _ => trivial))
      have h1 := htg a ha
      have h2 := htg b hb
      rw [hst a.toNat (by omega), hst b.toNat (by omega), if_pos (by rw [Int.toNat_of_nonneg h1.1]; exact ha), if_pos (by rw [Int.toNat_of_nonneg h2.1]; exact hb)]; exact Int.le_refl _
    · intro x hx h0
      have h1 := hes x hx
      rw [hst x.t.toNat (by omega)] at h0
      by_cases hm : ((x.t.toNat : Nat) : Int) ∈ tg
      · exact .inl (by rwa [Int.toNat_of_nonneg h1.2.2.1] at hm)
      · rw [if_neg hm] at h0; omega
    · intro s hs
      have h1 := htg s hs
      rw [hst s.toNat (by omega), if_pos (by rw [Int.toNat_of_nonneg h1.1]; exact hs)]
    · intro i hi
      have h1 := negs_le (bStart n tg)
      rw [bStart_length] at h1
      rw [hst i hi]; split <;> omega
  obtain ⟨c, h⟩ := h0.bwd hes htg (2 * negs (bStart n tg) + tg.length + 1) (by omega)
  have hE : Go.Proofs.Ythchkddhibhenaa.bwd (inL es) (2 * negs (bStart n tg) + tg.length + 1) (bStart n tg) tg = backward n es tg := rfl
  rw [hE] at h
  generalize backward n es tg = D at h
  have key : ∀ (k : Nat) (s : Int), 0 ≤ s → s < n → ReachIn es tg k s → 0 ≤ D.getD s.toNat 0 ∧ D.getD s.toNat 0 ≤ k := by
    intro k
    induction k with
    | zero =>
      intro s h0 h1 hr
      rw [h.tgt s hr]; omega
    | succ k ih =>
      rintro s h0 h1 ⟨x, hx, rfl, hr⟩
      have hxr := hes x hx
      obtain ⟨g1, g2⟩ := ih x.t hxr.2.2.1 hxr.2.2.2 hr
      rcases h.done x hx g1 with h3 | ⟨h3, h4⟩
      · cases h3
      · omega
  refine ⟨?_, by have := h.bnd i hi; omega⟩
  by_cases hneg : 0 ≤ D.getD i 0
  · obtain ⟨k, h1, h2⟩ := h.fit i hi hneg
    refine .inr ⟨k, h1, h2, fun j hj hr => ?_⟩
    have := key j i (by omega) (by omega) hr
    rw [Int.toNat_natCast] at this
    omega
  · refine .inl ⟨?_, fun k hr => ?_⟩
    · have hl := h.ok.len
      have h1 := h.ok.lo (D.getD i 0) (by rw [List.getD_eq_getElem?_getD, List.getElem?_eq_getElem (by omega)]; exact List.getElem_mem _)
      omega
    · have := key k i (by omega) (by omega) hr
      rw [Int.toNat_natCast] at this
      omega
theorem backward_dist (hn : n ≤ 1000000) (hes : ∀ x ∈ es, 0 ≤ x.f ∧ x.f < (n : Int) ∧ 0 ≤ x.t ∧ x.t < (n : Int)) (htg : ∀ s ∈ tg, 0 ≤ s ∧ s < (n : Int)) (i : Nat) (hi : i < n) : IsDist es tg i ((backward n es tg).getD i 0) := (backward_bd hn hes htg i hi).1
end
end Go.Proofs.Ythchkddhibhenaa
