/- BlockingTraps returns true for every description, and leaves its arguments as they were. The condition: three tables of Go's library (math/bits, internal/strconv) hold what their source text lays, and the card ties this to the text. -/
import Derived.Test.YtfbapajcheammaaGreatDoorQcx6
set_option maxRecDepth 100000
namespace Go.Proofs.YtfbapajcheammaaGreatDoor
theorem int_nodup_len {n : Nat} {l : List Int} (hn : l.Nodup) (hr : ∀ x ∈ l, 0 ≤ x ∧ x < (n : Int)) : l.length ≤ n := by
 have h := nodup_len n (l.map Int.toNat) (by
  unfold List.Nodup
  rw [List.pairwise_map]
  refine List.Pairwise.imp_of_mem (fun {x y} hx hy hxy e => hxy ?_) hn
  have := hr x hx
  have := hr y hy
  omega) (fun x hx => by
  obtain ⟨y, hy, rfl⟩ := List.mem_map.1 hx
  have := hr y hy
  omega)
 simpa using h
theorem Gd_true {fl : List Bool} {k : Nat} {s : Int} (_h0 : 0 ≤ s) (hk : k < fl.length) : Gd (fl.set k true) s ↔ Gd fl s ∨ s.toNat = k := by
 unfold Gd
 by_cases e : k = s.toNat
 ·subst e
  rw [List.getD_eq_getElem?_getD, List.getElem?_set_self hk]
  exact ⟨fun _ => .inr rfl, fun _ => rfl⟩
 ·rw [List.getD_eq_getElem?_getD, List.getElem?_set_ne e, ← List.getD_eq_getElem?_getD]
  exact ⟨.inl, fun h => h.elim id (fun h => absurd h.symm e)⟩

inductive RchC (es : List Ed) : Int → Int → Prop
 | refl (s : Int) : RchC es s s
 | step {x : Ed} {t : Int} (hx : x ∈ es) (h : RchC es x.t t) : RchC es x.f t
theorem RchC.trans {es : List Ed} {a b c : Int} (h : RchC es a b) (h' : RchC es b c) : RchC es a c := by
 induction h with
 | refl s => exact h'
 | step hx _ ih => exact .step hx (ih h')
theorem RchC.edge {es : List Ed} {x : Ed} (hx : x ∈ es) : RchC es x.f x.t := .step hx (.refl _)
def Scc (es : List Ed) (a b : Int) : Prop := RchC es a b ∧ RchC es b a
theorem Scc.refl (es : List Ed) (a : Int) : Scc es a a := ⟨.refl _, .refl _⟩
theorem Scc.symm {es : List Ed} {a b : Int} (h : Scc es a b) : Scc es b a := ⟨h.2, h.1⟩
theorem Scc.trans {es : List Ed} {a b c : Int} (h : Scc es a b) (h' : Scc es b c) : Scc es a c := ⟨h.1.trans h'.1, h'.2.trans h.2⟩
structure FinOrd (es : List Ed) (L : List Int) : Prop where
 nd : L.Nodup
 good : ∀ (i : Nat) (hi : i < L.length), ∀ y ∈ L.take (i + 1), ∀ x ∈ es, x.f = y → x.t ∈ L.take (i + 1) ∨ (x.t ∈ L ∧ RchC es x.t L[i])
theorem RchC.leave {es : List Ed} {A : List Int} {a b : Int} (h : RchC es a b) (ha : a ∈ A) : b ∈ A ∨ ∃ x ∈ es, x.f ∈ A ∧ x.t ∉ A ∧ RchC es a x.f ∧ RchC es x.t b := by
 induction h with
 | refl s => exact .inl ha
 | @step x t hx h ih =>
  by_cases hm : x.t ∈ A
  ·rcases ih hm with h1 | ⟨y, hy, h2, h3, h4, h5⟩
   ·exact .inl h1
   ·exact .inr ⟨y, hy, h2, h3, .step hx h4, h5⟩
  ·exact .inr ⟨x, hx, ha, hm, .refl _, h⟩
theorem FinOrd.last {es : List Ed} {L : List Int} (h : FinOrd es L) : ∀ (d i : Nat) (hi : i < L.length), L.length - i ≤ d → ∀ v, RchC es L[i] v → ∃ (k : Nat) (hk : k < L.length), Scc es L[k] L[i] ∧ v ∈ L.take (k + 1)
 | 0, i, hi, hd, _, _ => by omega
 | d + 1, i, hi, hd, v, hv => by
  have hm : L[i] ∈ L.take (i + 1) := by
   rw [List.take_succ_eq_append_getElem hi]
   exact List.mem_append_right _ (List.mem_singleton.2 rfl)
  rcases hv.leave hm with h1 | ⟨x, hx, h2, h3, h4, h5⟩
  ·exact ⟨i, hi, Scc.refl _ _, h1⟩
  ·rcases h.good i hi x.f h2 x hx rfl with h6 | ⟨h6, h7⟩
   ·exact absurd h6 h3
   ·obtain ⟨j, hj, hje⟩ := List.mem_iff_getElem.1 h6
    have hji : i < j := by
     rcases Nat.lt_or_ge i j with h8 | h8
     ·exact h8
     ·exact absurd (by rw [← hje]; exact List.mem_iff_getElem.2 ⟨j, by rw [List.length_take]; omega, by rw [List.getElem_take]⟩) h3
    rw [← hje] at h5 h7
    obtain ⟨k, hk, h9, h10⟩ := h.last d j hj (by omega) v h5
    refine ⟨k, hk, h9.trans ⟨h7, ?_⟩, h10⟩
    rw [hje]
    exact h4.trans (RchC.edge hx)
theorem FinOrd.root {es : List Ed} {L : List Int} (h : FinOrd es L) {U : Int → Prop} (hU : ∀ a b, Scc es a b → U a → U b) {r : Nat} (hr : r < L.length) (hlast : ∀ (k : Nat) (hk : k < L.length), U L[k] → k ≤ r) {u : Int} (hu : U u) (huL : u ∈ L) (hur : RchC es u L[r]) : Scc es u L[r] := by
 obtain ⟨i, hi, rfl⟩ := List.mem_iff_getElem.1 huL
 obtain ⟨k, hk, h1, h2⟩ := h.last (L.length - i) i hi (Nat.le_refl _) _ hur
 have hkr := hlast k hk (hU _ _ h1.symm hu)
 obtain ⟨j, hj, hje⟩ := List.mem_iff_getElem.1 h2
 rw [List.length_take] at hj
 rw [List.getElem_take] at hje
 have hjr : j = r := by
  rcases Nat.lt_trichotomy j r with h3 | h3 | h3
  ·exact absurd hje (List.pairwise_iff_getElem.1 h.nd j r (by omega) hr h3)
  ·exact h3
  ·exact absurd hje.symm (List.pairwise_iff_getElem.1 h.nd r j hr (by omega) h3)
 have hkr2 : k = r := by omega
 subst hkr2
 exact h1.symm

abbrev Stk := List (Int × List Ed)
def outE (es : List Ed) (s : Int) : List Ed := es.filter fun x => decide (x.f = s)
abbrev held (st : Stk) (ord : List Int) : List Int := st.map (·.1) ++ ord
structure FIC (es : List Ed) (n : Nat) (st : Stk) (seen : List Bool) (ord : List Int) : Prop where
 len : seen.length = n
 rng : ∀ t ∈ held st ord, 0 ≤ t ∧ t < (n : Int)
 nd : (held st ord).Nodup
 seen : ∀ t, 0 ≤ t → t < (n : Int) → (Gd seen t ↔ t ∈ held st ord)
 fin : ∀ y ∈ ord, ∀ x ∈ es, x.f = y → x.t ∈ held st ord
 own : ∀ p ∈ st, ∀ x ∈ p.2, x ∈ es ∧ x.f = p.1
 stk : ∀ p ∈ st, ∀ x ∈ es, x.f = p.1 → x ∈ p.2 ∨ x.t ∈ held st ord
 path : (st.map (·.1)).Pairwise (fun a b => RchC es b a)
 good : ∀ (i : Nat) (hi : i < ord.length), ∀ y ∈ ord.take (i + 1), ∀ x ∈ es, x.f = y → x.t ∈ ord.take (i + 1) ∨ (x.t ∈ held st ord ∧ RchC es x.t ord[i])
theorem held_pop {s : Int} {r : List Ed} {st : Stk} {ord : List Int} (t : Int) : t ∈ held st (ord ++ [s]) ↔ t ∈ held ((s, r) :: st) ord := by
 simp only [held, List.map_cons, List.mem_append, List.mem_cons, List.not_mem_nil, or_false]
 constructor
 ·rintro (h | h | h)
  ·exact .inl (.inr h)
  ·exact .inr h
  ·exact .inl (.inl h)
 ·rintro ((h | h) | h)
  ·exact .inr (.inr h)
  ·exact .inl h
  ·exact .inr (.inl h)
section
variable {es : List Ed} {n : Nat} {st : Stk} {seen : List Bool} {ord : List Int}
theorem FIC.pop {s : Int} (h : FIC es n ((s, []) :: st) seen ord) : FIC es n st seen (ord ++ [s]) := by
 have hp := fun t => held_pop (s := s) (r := []) (st := st) (ord := ord) t
 have hnd := h.nd
 simp only [held, List.map_cons, List.cons_append, List.nodup_cons] at hnd
 have hpath := h.path
 rw [List.map_cons, List.pairwise_cons] at hpath
 have hs0 := h.stk (s, []) (List.mem_cons_self ..)
 refine ⟨h.len, fun t ht => h.rng t ((hp t).1 ht), ?_, fun t h0 h1 => (h.seen t h0 h1).trans (hp _).symm, fun y hy x hx hf => ?_, fun p hp' => h.own p (List.mem_cons_of_mem _ hp'), fun p hp' x hx hf => (h.stk p (List.mem_cons_of_mem _ hp') x hx hf).imp id (fun h2 => (hp _).2 h2), hpath.2, fun i hi y hy x hx hf => ?_⟩
 ·show (st.map (·.1) ++ (ord ++ [s])).Nodup
  rw [← List.append_assoc, List.nodup_append]
  refine ⟨hnd.2, by simp, fun a ha b hb e => ?_⟩
  rw [List.mem_singleton.1 hb] at e
  exact hnd.1 (e ▸ ha)
 ·rcases List.mem_append.1 hy with h1 | h1
  ·exact (hp _).2 (h.fin y h1 x hx hf)
  ·rw [List.mem_singleton.1 h1] at hf
   rcases hs0 x hx hf with h2 | h2
   ·cases h2
   ·exact (hp _).2 h2
 ·rcases Nat.lt_or_ge i ord.length with h1 | h1
  ·rw [List.take_append_of_le_length (by omega)] at hy ⊢
   rcases h.good i h1 y hy x hx hf with h2 | ⟨h2, h3⟩
   ·exact .inl h2
   ·refine .inr ⟨(hp _).2 h2, ?_⟩
    rw [List.getElem_append_left h1]
    exact h3
  ·have hil : i = ord.length := by rw [List.length_append, List.length_singleton] at hi; omega
   subst hil
   rw [List.take_of_length_le (by simp)] at hy ⊢
   have hx2 : x.t ∈ held ((s, []) :: st) ord := by
    rcases List.mem_append.1 hy with h2 | h2
    ·exact h.fin y h2 x hx hf
    ·rw [List.mem_singleton.1 h2] at hf
     rcases hs0 x hx hf with h3 | h3
     ·cases h3
     ·exact h3
   have hx3 := (hp _).2 hx2
   rcases List.mem_append.1 hx3 with h2 | h2
   ·right
    refine ⟨hx3, ?_⟩
    rw [List.getElem_append_right (by omega)]
    simp only [Nat.sub_self, List.getElem_cons_zero]
    exact hpath.1 _ h2
   ·exact .inl h2
theorem FIC.skip {s : Int} {x : Ed} {rem : List Ed} (h : FIC es n ((s, x :: rem) :: st) seen ord) (hx : x.t ∈ held ((s, x :: rem) :: st) ord) : FIC es n ((s, rem) :: st) seen ord := by
 refine ⟨h.len, h.rng, h.nd, h.seen, h.fin, fun p hp y hy => ?_, fun p hp y hy hf => ?_, h.path, h.good⟩
 ·rcases List.mem_cons.1 hp with rfl | hp
  ·exact h.own (s, x :: rem) (List.mem_cons_self ..) y (List.mem_cons_of_mem _ hy)
  ·exact h.own p (List.mem_cons_of_mem _ hp) y hy
 ·rcases List.mem_cons.1 hp with rfl | hp
  ·rcases h.stk (s, x :: rem) (List.mem_cons_self ..) y hy hf with h1 | h1
   ·rcases List.mem_cons.1 h1 with rfl | h1
    ·exact .inr hx
    ·exact .inl h1
   ·exact .inr h1
  ·exact h.stk p (List.mem_cons_of_mem _ hp) y hy hf
theorem FIC.enter {t : Int} (h : FIC es n st seen ord) (h0 : 0 ≤ t) (h1 : t < (n : Int)) (hn : t ∉ held st ord) (hr : ∀ s ∈ st.map (·.1), RchC es s t) : FIC es n ((t, outE es t) :: st) (seen.set t.toNat true) ord := by
 have hsub : ∀ u, u ∈ held st ord → u ∈ held ((t, outE es t) :: st) ord := fun u hu => List.mem_cons_of_mem _ hu
 refine ⟨by rw [List.length_set]; exact h.len, fun u hu => ?_, List.nodup_cons.2 ⟨hn, h.nd⟩, fun u hu0 hu1 => ?_, fun y hy x hx hf => hsub _ (h.fin y hy x hx hf), fun p hp x hx => ?_, fun p hp x hx hf => ?_, List.pairwise_cons.2 ⟨fun s hs => hr s hs, h.path⟩, fun i hi y hy x hx hf => (h.good i hi y hy x hx hf).imp id (fun ⟨a, b⟩ => ⟨hsub _ a, b⟩)⟩
 ·rcases List.mem_cons.1 hu with rfl | hu
  ·exact ⟨h0, h1⟩
  ·exact h.rng u hu
 ·rw [Gd_true hu0 (by rw [h.len]; omega), h.seen u hu0 hu1]
  constructor
  ·rintro (h2 | h2)
   ·exact hsub _ h2
   ·have : u = t := by omega
    rw [this]
    exact List.mem_cons_self ..
  ·intro h2
   rcases List.mem_cons.1 h2 with rfl | h2
   ·exact .inr rfl
   ·exact .inl h2
 ·rcases List.mem_cons.1 hp with rfl | hp
  ·have := List.mem_filter.1 hx
   exact ⟨this.1, by simpa using this.2⟩
  ·exact h.own p hp x hx
 ·rcases List.mem_cons.1 hp with rfl | hp
  ·exact .inl (List.mem_filter.2 ⟨hx, by simpa using hf⟩)
  ·exact (h.stk p hp x hx hf).imp id (hsub _)
theorem FIC.push {s : Int} {x : Ed} {rem : List Ed} (h : FIC es n ((s, x :: rem) :: st) seen ord) (h0 : 0 ≤ x.t) (h1 : x.t < (n : Int)) (hn : x.t ∉ held ((s, x :: rem) :: st) ord) : FIC es n ((x.t, outE es x.t) :: (s, rem) :: st) (seen.set x.t.toNat true) ord := by
 have hx := h.own (s, x :: rem) (List.mem_cons_self ..) x (List.mem_cons_self ..)
 have hpath := h.path
 rw [List.map_cons, List.pairwise_cons] at hpath
 have hst : ∀ u ∈ s :: st.map (·.1), RchC es u x.t := by
  intro u hu
  have he : RchC es s x.t := by have := RchC.edge hx.1; rwa [hx.2] at this
  rcases List.mem_cons.1 hu with rfl | hu
  ·exact he
  ·exact (hpath.1 u hu).trans he
 have he := h.enter h0 h1 hn hst
 refine ⟨he.len, he.rng, he.nd, he.seen, he.fin, fun p hp y hy => ?_, fun p hp y hy hf => ?_, he.path, he.good⟩
 ·rcases List.mem_cons.1 hp with rfl | hp
  ·exact he.own _ (List.mem_cons_self ..) y hy
  ·rcases List.mem_cons.1 hp with rfl | hp
   ·exact h.own (s, x :: rem) (List.mem_cons_self ..) y (List.mem_cons_of_mem _ hy)
   ·exact h.own p (List.mem_cons_of_mem _ hp) y hy
 ·rcases List.mem_cons.1 hp with rfl | hp
  ·exact he.stk _ (List.mem_cons_self ..) y hy hf
  ·rcases List.mem_cons.1 hp with rfl | hp
   ·rcases he.stk (s, x :: rem) (List.mem_cons_of_mem _ (List.mem_cons_self ..)) y hy hf with h3 | h3
    ·rcases List.mem_cons.1 h3 with rfl | h3
     ·exact .inr (List.mem_cons_self ..)
     ·exact .inl h3
    ·exact .inr h3
   ·exact he.stk p (List.mem_cons_of_mem _ (List.mem_cons_of_mem _ hp)) y hy hf
end
def dfsL (es : List Ed) : Nat → Stk → List Bool → List Int → List Bool × List Int
 | 0, _, seen, ord => (seen, ord)
 | _ + 1, [], seen, ord => (seen, ord)
 | f + 1, (s, []) :: st, seen, ord => dfsL es f st seen (ord ++ [s])
 | f + 1, (s, x :: rem) :: st, seen, ord => if seen.getD x.t.toNat false = true then dfsL es f ((s, rem) :: st) seen ord else dfsL es f ((x.t, outE es x.t) :: (s, rem) :: st) (seen.set x.t.toNat true) ord
def leftL (es : List Ed) (n : Nat) (st : Stk) (seen : List Bool) : Nat := (st.map fun p => p.2.length + 1).sum + ((List.range n).map fun t => if seen.getD t false = true then 0 else (outE es (t : Int)).length + 2).sum
theorem sum_set {n : Nat} {seen : List Bool} {g : Nat → Nat} (hl : seen.length = n) {t : Nat} (ht : t < n) (hs : seen.getD t false = false) : ∀ k, k ≤ n → ((List.range k).map fun i => if (seen.set t true).getD i false = true then 0 else g i).sum + (if t < k then g t else 0) = ((List.range k).map fun i => if seen.getD i false = true then 0 else g i).sum
 | 0, _ => by simp
 | k + 1, hk => by
  have ih := sum_set (g := g) hl ht hs k (by omega)
  rw [List.range_succ, List.map_append, List.map_append, List.sum_append, List.sum_append, ← ih]
  simp only [List.map_cons, List.map_nil, List.sum_cons, List.sum_nil, Nat.add_zero]
  by_cases e : t = k
  ·subst e
   rw [List.getD_eq_getElem?_getD, List.getElem?_set_self (by omega), hs]
   simp
  ·rw [show (seen.set t true).getD k false = seen.getD k false by rw [List.getD_eq_getElem?_getD, List.getElem?_set_ne e, ← List.getD_eq_getElem?_getD]]
   by_cases h1 : t < k
   ·have h2 : t < k + 1 := by omega
    simp only [h1, h2, if_true]
    omega
   ·have h2 : ¬ t < k + 1 := by omega
    simp only [h1, h2, if_false]
    omega
theorem leftL_enter {es : List Ed} {n : Nat} {st : Stk} {seen : List Bool} (hl : seen.length = n) {t : Int} (h0 : 0 ≤ t) (h1 : t < (n : Int)) (hs : seen.getD t.toNat false = false) : leftL es n ((t, outE es t) :: st) (seen.set t.toNat true) + 1 = leftL es n st seen := by
 have h := sum_set (g := fun t => (outE es (t : Int)).length + 2) hl (t := t.toNat) (by omega) hs n (Nat.le_refl _)
 rw [if_pos (by omega), Int.toNat_of_nonneg h0] at h
 unfold leftL
 rw [List.map_cons, List.sum_cons]
 dsimp only at h ⊢
 omega
theorem dfs_says {es : List Ed} {n : Nat} (hes : ∀ x ∈ es, 0 ≤ x.t ∧ x.t < (n : Int)) : ∀ (f : Nat) (st : Stk) (seen : List Bool) (ord : List Int), FIC es n st seen ord → leftL es n st seen ≤ f →
  FIC es n [] (dfsL es f st seen ord).1 (dfsL es f st seen ord).2 ∧ (∀ t ∈ held st ord, t ∈ (dfsL es f st seen ord).2)
 | 0, [], seen, ord, h, _ => ⟨h, fun t ht => ht⟩
 | 0, p :: st, seen, ord, _, hf => by
  unfold leftL at hf
  rw [List.map_cons, List.sum_cons] at hf
  omega
 | f + 1, [], seen, ord, h, _ => ⟨h, fun t ht => ht⟩
 | f + 1, (s, []) :: st, seen, ord, h, hf => by
  have hf2 : leftL es n st seen ≤ f := by
   unfold leftL at hf ⊢
   rw [List.map_cons, List.sum_cons] at hf
   dsimp only at hf
   simp only [List.length_nil] at hf
   omega
  obtain ⟨h1, h2⟩ := dfs_says hes f st seen (ord ++ [s]) h.pop hf2
  rw [dfsL]
  exact ⟨h1, fun t ht => h2 t ((held_pop t).2 ht)⟩
 | f + 1, (s, x :: rem) :: st, seen, ord, h, hf => by
  have hx := h.own (s, x :: rem) (List.mem_cons_self ..) x (List.mem_cons_self ..)
  have hr := hes x hx.1
  have hs := h.seen x.t hr.1 hr.2
  have hm : leftL es n ((s, x :: rem) :: st) seen = leftL es n ((s, rem) :: st) seen + 1 := by
   unfold leftL
   rw [List.map_cons, List.sum_cons, List.map_cons, List.sum_cons]
   dsimp only
   rw [List.length_cons]
   omega
  rw [dfsL]
  by_cases hg : seen.getD x.t.toNat false = true
  ·rw [if_pos hg]
   obtain ⟨h1, h2⟩ := dfs_says hes f ((s, rem) :: st) seen ord (h.skip (hs.1 hg)) (by omega)
   exact ⟨h1, h2⟩
  ·rw [if_neg hg]
   have hle := leftL_enter (es := es) (st := (s, rem) :: st) h.len hr.1 hr.2 (by simpa using hg)
   obtain ⟨h1, h2⟩ := dfs_says hes f ((x.t, outE es x.t) :: (s, rem) :: st) (seen.set x.t.toNat true) ord (h.push hr.1 hr.2 (fun e => hg (hs.2 e))) (by omega)
   exact ⟨h1, fun t ht => h2 t (List.mem_cons_of_mem _ ht)⟩
def ordStep (es : List Ed) (n : Nat) (S : List Bool × List Int) (s : Nat) : List Bool × List Int :=
 if S.1.getD s false = true then S else dfsL es (leftL es n [((s : Int), outE es (s : Int))] (S.1.set s true)) [((s : Int), outE es (s : Int))] (S.1.set s true) S.2
def orderF (es : List Ed) (n : Nat) : List Bool × List Int := (List.range n).foldl (ordStep es n) (List.replicate n false, [])
theorem order_fold {es : List Ed} {n : Nat} (hes : ∀ x ∈ es, 0 ≤ x.t ∧ x.t < (n : Int)) : ∀ (k : Nat), k ≤ n →
  FIC es n [] ((List.range k).foldl (ordStep es n) (List.replicate n false, [])).1 ((List.range k).foldl (ordStep es n) (List.replicate n false, [])).2 ∧ ∀ t, t < k → (t : Int) ∈ ((List.range k).foldl (ordStep es n) (List.replicate n false, [])).2
 | 0, _ => by
  refine ⟨⟨by simp, fun t ht => (by cases ht), List.nodup_nil, fun t h0 h1 => ?_, fun y hy => (by cases hy), fun p hp => (by cases hp), fun p hp => (by cases hp), List.Pairwise.nil, fun i hi => (by cases hi)⟩, fun t ht => absurd ht (Nat.not_lt_zero _)⟩
  unfold Gd
  have e : (List.replicate n false).getD t.toNat false = false := by
   rw [List.getD_eq_getElem?_getD, List.getElem?_replicate]
   split <;> rfl
  simp only [List.range_zero, List.foldl_nil]
  rw [e]
  simp [held]
 | k + 1, hk => by
  obtain ⟨h1, h2⟩ := order_fold hes k (by omega)
  rw [List.range_succ, List.foldl_append]
  simp only [List.foldl_cons, List.foldl_nil]
  generalize (List.range k).foldl (ordStep es n) (List.replicate n false, []) = S at *
  have hs := h1.seen (k : Int) (by omega) (by omega)
  unfold ordStep
  by_cases hg : S.1.getD k false = true
  ·rw [if_pos hg]
   refine ⟨h1, fun t ht => ?_⟩
   by_cases e : t = k
   ·subst e
    have := hs.1 (by unfold Gd; rw [Int.toNat_natCast]; exact hg)
    simpa [held] using this
   ·exact h2 t (by omega)
  ·rw [if_neg hg]
   have hn : (k : Int) ∉ held [] S.2 := fun e => hg (by have := hs.2 e; unfold Gd at this; rwa [Int.toNat_natCast] at this)
   have he := h1.enter (t := (k : Int)) (by omega) (by omega) hn (fun s hs => by cases hs)
   rw [Int.toNat_natCast] at he
   obtain ⟨h3, h4⟩ := dfs_says hes _ _ _ _ he (Nat.le_refl _)
   refine ⟨h3, fun t ht => ?_⟩
   by_cases e : t = k
   ·subst e
    exact h4 _ (List.mem_cons_self ..)
   ·exact h4 _ (List.mem_cons_of_mem _ (by simpa [held] using h2 t (by omega)))
theorem order_says {es : List Ed} {n : Nat} (hes : ∀ x ∈ es, 0 ≤ x.t ∧ x.t < (n : Int)) : FinOrd es (orderF es n).2 ∧ (∀ t ∈ (orderF es n).2, 0 ≤ t ∧ t < (n : Int)) ∧ ∀ t, t < n → (t : Int) ∈ (orderF es n).2 := by
 obtain ⟨h1, h2⟩ := order_fold hes n (Nat.le_refl _)
 have hheld : ∀ t, t ∈ held [] (orderF es n).2 ↔ t ∈ (orderF es n).2 := fun t => by simp [held]
 have hnd := h1.nd
 refine ⟨⟨hnd, fun i hi y hy x hx hf => ?_⟩, fun t ht => h1.rng t ((hheld t).2 ht), h2⟩
 exact (h1.good i hi y hy x hx hf).imp id (fun ⟨a, b⟩ => ⟨(hheld _).1 a, b⟩)

def grpStep (S : List Bool × List Int) (p : Int) : List Bool × List Int := if S.1.getD p.toNat false = true then S else (S.1.set p.toNat true, S.2 ++ [p])
def preds (es : List Ed) (t : Int) : List Int := (es.filter fun x => decide (x.t = t)).map Ed.f
def grpLoop (es : List Ed) : Nat → Nat → List Bool × List Int → List Bool × List Int
 | 0, _, S => S
 | f + 1, i, S => if i < S.2.length then grpLoop es f (i + 1) ((preds es (S.2.getD i 0)).foldl grpStep S) else S
def freeE (es : List Ed) (cls : List Bool) : List Ed := es.filter fun x => !cls.getD x.f.toNat false
structure GrpI (es : List Ed) (n : Nat) (cls0 : List Bool) (root : Int) (S : List Bool × List Int) : Prop where
 len : S.1.length = n
 rng : ∀ t ∈ S.2, 0 ≤ t ∧ t < (n : Int)
 nd : S.2.Nodup
 cls : ∀ t, 0 ≤ t → t < (n : Int) → (Gd S.1 t ↔ Gd cls0 t ∨ t ∈ S.2)
 new : ∀ t ∈ S.2, ¬ Gd cls0 t ∧ RchC (freeE es cls0) t root
 root : root ∈ S.2
theorem GrpI.step {es : List Ed} {n : Nat} {cls0 : List Bool} {root : Int} {S : List Bool × List Int} (h : GrpI es n cls0 root S) {x : Ed} (hx : x ∈ es) (ht : x.t ∈ S.2) (h0 : 0 ≤ x.f) (h1 : x.f < (n : Int)) :
  GrpI es n cls0 root (grpStep S x.f) ∧ Gd (grpStep S x.f).1 x.f ∧ (∃ l, (grpStep S x.f).2 = S.2 ++ l) ∧ ∀ t, Gd S.1 t → 0 ≤ t → Gd (grpStep S x.f).1 t := by
 unfold grpStep
 by_cases hg : S.1.getD x.f.toNat false = true
 ·rw [if_pos hg]
  exact ⟨h, hg, ⟨[], (List.append_nil _).symm⟩, fun t h _ => h⟩
 ·rw [if_neg hg]
  have hc := h.cls x.f h0 h1
  have hl : x.f.toNat < S.1.length := by rw [h.len]; omega
  have hfr : ¬ Gd cls0 x.f := fun e => hg (hc.2 (.inl e))
  have hnot : x.f ∉ S.2 := fun e => hg (hc.2 (.inr e))
  have hfe : x ∈ freeE es cls0 := List.mem_filter.2 ⟨hx, by unfold Gd at hfr; simpa using hfr⟩
  refine ⟨⟨by rw [List.length_set]; exact h.len, fun t ht' => ?_, ?_, fun t ha hb => ?_, fun t ht' => ?_, List.mem_append_left _ h.root⟩, (Gd_true h0 hl).2 (.inr rfl), ⟨_, rfl⟩, fun t ht' ha => (Gd_true ha hl).2 (.inl ht')⟩
  ·rcases List.mem_append.1 ht' with h2 | h2
   ·exact h.rng t h2
   ·rw [List.mem_singleton.1 h2]; exact ⟨h0, h1⟩
  ·rw [List.nodup_append]
   exact ⟨h.nd, by simp, fun a ha b hb e => by rw [List.mem_singleton.1 hb] at e; exact hnot (e ▸ ha)⟩
  ·rw [Gd_true ha hl, h.cls t ha hb, List.mem_append, List.mem_singleton]
   constructor
   ·rintro ((h2 | h2) | h2)
    ·exact .inl h2
    ·exact .inr (.inl h2)
    ·exact .inr (.inr (by omega))
   ·rintro (h2 | h2 | h2)
    ·exact .inl (.inl h2)
    ·exact .inl (.inr h2)
    ·exact .inr (by rw [h2])
  ·rcases List.mem_append.1 ht' with h2 | h2
   ·exact h.new t h2
   ·rw [List.mem_singleton.1 h2]
    exact ⟨hfr, .step hfe (h.new _ ht).2⟩
theorem grp_fold {es : List Ed} {n : Nat} {cls0 : List Bool} {root : Int} (hes : ∀ x ∈ es, 0 ≤ x.f ∧ x.f < (n : Int)) {t : Int} : ∀ (l : List Ed) (S : List Bool × List Int), GrpI es n cls0 root S → t ∈ S.2 → (∀ x ∈ l, x ∈ es ∧ x.t = t) →
  GrpI es n cls0 root ((l.map Ed.f).foldl grpStep S) ∧ (∀ x ∈ l, Gd ((l.map Ed.f).foldl grpStep S).1 x.f) ∧ (∃ r, ((l.map Ed.f).foldl grpStep S).2 = S.2 ++ r) ∧ ∀ u, Gd S.1 u → 0 ≤ u → Gd ((l.map Ed.f).foldl grpStep S).1 u
 | [], S, h, _, _ => ⟨h, fun x hx => (by cases hx), ⟨[], (List.append_nil _).symm⟩, fun u h _ => h⟩
 | x :: l, S, h, ht, hl => by
  have hx := hl x (List.mem_cons_self ..)
  have hr := hes x hx.1
  obtain ⟨h1, h2, ⟨r, h3⟩, h4⟩ := h.step hx.1 (by rw [hx.2]; exact ht) hr.1 hr.2
  obtain ⟨h5, h6, ⟨r2, h7⟩, h8⟩ := grp_fold hes l _ h1 (by rw [h3]; exact List.mem_append_left _ ht) (fun y hy => hl y (List.mem_cons_of_mem _ hy))
  rw [List.map_cons, List.foldl_cons]
  refine ⟨h5, fun y hy => ?_, ⟨r ++ r2, by rw [h7, h3, List.append_assoc]⟩, fun u hu h0 => h8 u (h4 u hu h0) h0⟩
  rcases List.mem_cons.1 hy with rfl | hy
  ·exact h8 _ h2 hr.1
  ·exact h6 y hy
theorem grp_loop {es : List Ed} {n : Nat} {cls0 : List Bool} {root : Int} (hes : ∀ x ∈ es, 0 ≤ x.f ∧ x.f < (n : Int)) : ∀ (f i : Nat) (S : List Bool × List Int), GrpI es n cls0 root S → (∀ k, k < i → k < S.2.length → ∀ x ∈ es, some x.t = S.2[k]? → Gd S.1 x.f) → n + 1 ≤ i + f →
  GrpI es n cls0 root (grpLoop es f i S) ∧ ∀ x ∈ es, x.t ∈ (grpLoop es f i S).2 → Gd (grpLoop es f i S).1 x.f
 | 0, i, S, h, hd, hf => by
  have := int_nodup_len h.nd h.rng
  rw [grpLoop]
  refine ⟨h, fun x hx ht => ?_⟩
  obtain ⟨k, hk, hke⟩ := List.mem_iff_getElem.1 ht
  exact hd k (by omega) hk x hx (by rw [List.getElem?_eq_getElem hk, hke])
 | f + 1, i, S, h, hd, hf => by
  rw [grpLoop]
  by_cases hi : i < S.2.length
  ·rw [if_pos hi]
   have hg : S.2.getD i 0 = S.2[i] := by rw [List.getD_eq_getElem?_getD, List.getElem?_eq_getElem hi]; rfl
   have hm : S.2.getD i 0 ∈ S.2 := by rw [hg]; exact List.getElem_mem hi
   obtain ⟨h1, h2, ⟨r, h3⟩, h4⟩ := grp_fold hes (es.filter fun x => decide (x.t = S.2.getD i 0)) S h hm (fun x hx => by
    have := List.mem_filter.1 hx
    exact ⟨this.1, by simpa using this.2⟩)
   refine grp_loop hes f (i + 1) _ h1 (fun k hk hkl x hx he => ?_) (by omega)
   have hkS : k < S.2.length := by omega
   show Gd ((preds es (S.2.getD i 0)).foldl grpStep S).1 x.f
   have he2 : some x.t = S.2[k]? := by
    rw [he]
    show ((preds es (S.2.getD i 0)).foldl grpStep S).2[k]? = _
    unfold preds
    rw [h3, List.getElem?_append_left hkS]
   by_cases e : k = i
   ·subst e
    rw [List.getElem?_eq_getElem hkS] at he2
    exact h2 x (List.mem_filter.2 ⟨hx, by rw [hg]; simpa using Option.some.inj he2⟩)
   ·exact h4 _ (hd k (by omega) hkS x hx he2) (hes x hx).1
  ·rw [if_neg hi]
   refine ⟨h, fun x hx ht => ?_⟩
   obtain ⟨k, hk, hke⟩ := List.mem_iff_getElem.1 ht
   exact hd k (by omega) hk x hx (by rw [List.getElem?_eq_getElem hk, hke])
theorem RchC.mono {es es' : List Ed} (h : ∀ x ∈ es, x ∈ es') {a b : Int} (hr : RchC es a b) : RchC es' a b := by
 induction hr with
 | refl s => exact .refl s
 | step hx _ ih => exact .step (h _ hx) ih
theorem grp_start {es : List Ed} {n : Nat} {cls0 : List Bool} {root : Int} (hes : ∀ x ∈ es, 0 ≤ x.f ∧ x.f < (n : Int)) (hl : cls0.length = n) (h0 : 0 ≤ root) (h1 : root < (n : Int)) (hr : ¬ Gd cls0 root) : GrpI es n cls0 root (cls0.set root.toNat true, [root]) := by
 refine ⟨by rw [List.length_set]; exact hl, fun t ht => ?_, by simp, fun t ha hb => ?_, fun t ht => ?_, List.mem_singleton.2 rfl⟩
 ·rw [List.mem_singleton.1 ht]; exact ⟨h0, h1⟩
 ·rw [Gd_true ha (by omega), List.mem_singleton]
  constructor
  ·rintro (h2 | h2)
   ·exact .inl h2
   ·exact .inr (by omega)
  ·rintro (h2 | h2)
   ·exact .inl h2
   ·exact .inr (by rw [h2])
 ·rw [List.mem_singleton.1 ht]; exact ⟨hr, .refl _⟩
theorem grp_says {es : List Ed} {n : Nat} {cls0 : List Bool} {root : Int} (hes : ∀ x ∈ es, 0 ≤ x.f ∧ x.f < (n : Int)) (hl : cls0.length = n) (h0 : 0 ≤ root) (h1 : root < (n : Int)) (hr : ¬ Gd cls0 root) :
  GrpI es n cls0 root (grpLoop es (n + 1) 0 (cls0.set root.toNat true, [root])) ∧ ∀ t, RchC (freeE es cls0) t root → t ∈ (grpLoop es (n + 1) 0 (cls0.set root.toNat true, [root])).2 := by
 have hs : GrpI es n cls0 root (cls0.set root.toNat true, [root]) := by
  refine ⟨by rw [List.length_set]; exact hl, fun t ht => ?_, by simp, fun t ha hb => ?_, fun t ht => ?_, List.mem_singleton.2 rfl⟩
  ·rw [List.mem_singleton.1 ht]; exact ⟨h0, h1⟩
  ·rw [Gd_true ha (by omega), List.mem_singleton]
   constructor
   ·rintro (h2 | h2)
    ·exact .inl h2
    ·exact .inr (by omega)
   ·rintro (h2 | h2)
    ·exact .inl h2
    ·exact .inr (by rw [h2])
  ·rw [List.mem_singleton.1 ht]; exact ⟨hr, .refl _⟩
 obtain ⟨h2, h3⟩ := grp_loop hes (n + 1) 0 _ hs (fun k hk => absurd hk (Nat.not_lt_zero _)) (by omega)
 refine ⟨h2, fun t ht => ?_⟩
 generalize grpLoop es (n + 1) 0 (cls0.set root.toNat true, [root]) = R at *
 have key : ∀ s u, RchC (freeE es cls0) s u → u = root → s ∈ R.2 := by
  intro s u hu
  induction hu with
  | refl s => intro e; rw [e]; exact h2.root
  | @step x u hx hu ih =>
   intro e
   have hm := List.mem_filter.1 hx
   have h4 := ih e
   have hx0 := hes x hm.1
   have h5 := h3 x hm.1 h4
   rcases (h2.cls x.f hx0.1 hx0.2).1 h5 with h6 | h6
   ·exfalso
    have h7 := hm.2
    unfold Gd at h6
    rw [h6] at h7
    cases h7
   ·exact h6
 exact key t root ht rfl

def cmpStep (es : List Ed) (n : Nat) (S : List Bool × List (List Int)) (root : Int) : List Bool × List (List Int) :=
 if S.1.getD root.toNat false = true then S else ((grpLoop es (n + 1) 0 (S.1.set root.toNat true, [root])).1, S.2 ++ [(grpLoop es (n + 1) 0 (S.1.set root.toNat true, [root])).2])
def compF (es : List Ed) (n : Nat) : List (List Int) := ((orderF es n).2.reverse.foldl (cmpStep es n) (List.replicate n false, [])).2
structure IsScc (es : List Ed) (n : Nat) (G : List Int) : Prop where
 nd : G.Nodup
 rng : ∀ t ∈ G, 0 ≤ t ∧ t < (n : Int)
 ex : ∃ r ∈ G, ∀ t, 0 ≤ t → t < (n : Int) → (t ∈ G ↔ Scc es t r)
structure CIC (es : List Ed) (n : Nat) (S : List Bool × List (List Int)) : Prop where
 len : S.1.length = n
 cls : ∀ t, 0 ≤ t → t < (n : Int) → (Gd S.1 t ↔ ∃ G ∈ S.2, t ∈ G)
 scc : ∀ G ∈ S.2, IsScc es n G
 dis : S.2.Pairwise (fun G H => ∀ t ∈ G, t ∉ H)
theorem RchC.rng {es : List Ed} {n : Nat} (hes : ∀ x ∈ es, 0 ≤ x.t ∧ x.t < (n : Int)) {a b : Int} (h : RchC es a b) (ha : 0 ≤ a ∧ a < (n : Int)) : 0 ≤ b ∧ b < (n : Int) := by
 induction h with
 | refl s => exact ha
 | step hx _ ih => exact ih (hes _ hx)
theorem RchC.free {es : List Ed} {cls : List Bool} {a b : Int} (h : RchC es a b) : (∀ q, RchC es a q → RchC es q b → ¬ Gd cls q) → RchC (freeE es cls) a b := by
 induction h with
 | refl s => intro _; exact .refl s
 | @step x t hx h ih =>
  intro hq
  have h1 := hq x.f (.refl _) (.step hx h)
  have hm : x ∈ freeE es cls := List.mem_filter.2 ⟨hx, by unfold Gd at h1; simpa using h1⟩
  exact .step hm (ih (fun q h2 h3 => hq q (.step hx h2) h3))
theorem CIC.step {es : List Ed} {n : Nat} {S : List Bool × List (List Int)} {L : List Int} (hes : ∀ x ∈ es, 0 ≤ x.f ∧ x.f < (n : Int) ∧ 0 ≤ x.t ∧ x.t < (n : Int)) (hL : FinOrd es L) (hLr : ∀ t ∈ L, 0 ≤ t ∧ t < (n : Int)) (hLa : ∀ t, 0 ≤ t → t < (n : Int) → t ∈ L)
  (h : CIC es n S) {m : Nat} (hm : m < L.length) (hlater : ∀ (j : Nat) (hj : j < L.length), m < j → Gd S.1 L[j]) : CIC es n (cmpStep es n S L[m]) ∧ (∀ (j : Nat) (hj : j < L.length), m ≤ j → Gd (cmpStep es n S L[m]).1 L[j]) := by
 have hr := hLr _ (List.getElem_mem hm)
 unfold cmpStep
 by_cases hg : S.1.getD L[m].toNat false = true
 ·rw [if_pos hg]
  refine ⟨h, fun j hj hmj => ?_⟩
  by_cases e : m = j
  ·subst e; exact hg
  ·exact hlater j hj (by omega)
 ·rw [if_neg hg]
  obtain ⟨h1, h2⟩ := grp_says (fun x hx => ⟨(hes x hx).1, (hes x hx).2.1⟩) h.len hr.1 hr.2 hg
  generalize grpLoop es (n + 1) 0 (S.1.set L[m].toNat true, [L[m]]) = R at *
  have hU : ∀ a b, Scc es a b → (0 ≤ a ∧ a < (n : Int) ∧ ¬ Gd S.1 a) → (0 ≤ b ∧ b < (n : Int) ∧ ¬ Gd S.1 b) := by
   rintro a b hab ⟨ha0, ha1, ha⟩
   have hb := hab.1.rng (fun x hx => (hes x hx).2.2) ⟨ha0, ha1⟩
   refine ⟨hb.1, hb.2, fun hgb => ha ?_⟩
   obtain ⟨G, hG, hbG⟩ := (h.cls b hb.1 hb.2).1 hgb
   obtain ⟨r, _, hr2⟩ := (h.scc G hG).ex
   exact (h.cls a ha0 ha1).2 ⟨G, hG, (hr2 a ha0 ha1).2 (hab.trans ((hr2 b hb.1 hb.2).1 hbG))⟩
  have hmem : ∀ t, 0 ≤ t → t < (n : Int) → (t ∈ R.2 ↔ Scc es t L[m]) := by
   intro t ht0 ht1
   constructor
   ·intro ht
    obtain ⟨h3, h4⟩ := h1.new t ht
    exact hL.root (U := fun a => 0 ≤ a ∧ a < (n : Int) ∧ ¬ Gd S.1 a) hU hm (fun k hk hku => by
     rcases Nat.lt_or_ge m k with h5 | h5
     ·exact absurd (hlater k hk h5) hku.2.2
     ·exact h5) ⟨ht0, ht1, h3⟩ (hLa t ht0 ht1) (h4.mono (fun x hx => (List.mem_filter.1 hx).1))
   ·intro hs
    refine h2 t (hs.1.free (fun q hq1 hq2 => ?_))
    exact (hU L[m] q ⟨hs.2.trans hq1, hq2⟩ ⟨hr.1, hr.2, hg⟩).2.2
  refine ⟨⟨h1.len, fun t ht0 ht1 => ?_, fun G hG => ?_, ?_⟩, fun j hj hmj => ?_⟩
  ·rw [h1.cls t ht0 ht1, h.cls t ht0 ht1]
   constructor
   ·rintro (⟨G, hG, ht⟩ | ht)
    ·exact ⟨G, List.mem_append_left _ hG, ht⟩
    ·exact ⟨R.2, List.mem_append_right _ (List.mem_singleton.2 rfl), ht⟩
   ·rintro ⟨G, hG, ht⟩
    rcases List.mem_append.1 hG with h3 | h3
    ·exact .inl ⟨G, h3, ht⟩
    ·rw [List.mem_singleton.1 h3] at ht; exact .inr ht
  ·rcases List.mem_append.1 hG with h3 | h3
   ·exact h.scc G h3
   ·rw [List.mem_singleton.1 h3]
    exact ⟨h1.nd, h1.rng, L[m], h1.root, hmem⟩
  ·rw [List.pairwise_append]
   refine ⟨h.dis, List.pairwise_singleton _ _, fun G hG H hH t ht => ?_⟩
   rw [List.mem_singleton.1 hH]
   intro htR
   have hrt := h1.rng t htR
   exact (h1.new t htR).1 ((h.cls t hrt.1 hrt.2).2 ⟨G, hG, ht⟩)
  ·have hjr := hLr _ (List.getElem_mem hj)
   refine (h1.cls _ hjr.1 hjr.2).2 ?_
   by_cases e : m = j
   ·subst e; exact .inr h1.root
   ·exact .inl (hlater j hj (by omega))
theorem comp_fold {es : List Ed} {n : Nat} {L : List Int} (hes : ∀ x ∈ es, 0 ≤ x.f ∧ x.f < (n : Int) ∧ 0 ≤ x.t ∧ x.t < (n : Int)) (hL : FinOrd es L) (hLr : ∀ t ∈ L, 0 ≤ t ∧ t < (n : Int)) (hLa : ∀ t, 0 ≤ t → t < (n : Int) → t ∈ L) : ∀ (d : Nat), d ≤ L.length →
  CIC es n ((L.drop (L.length - d)).reverse.foldl (cmpStep es n) (List.replicate n false, [])) ∧ ∀ (j : Nat) (hj : j < L.length), L.length - d ≤ j → Gd ((L.drop (L.length - d)).reverse.foldl (cmpStep es n) (List.replicate n false, [])).1 L[j]
 | 0, _ => by
  rw [Nat.sub_zero, List.drop_length]
  refine ⟨⟨by simp, fun t h0 h1 => ?_, fun G hG => (by cases hG), List.Pairwise.nil⟩, fun j hj h => by omega⟩
  have e : (List.replicate n false).getD t.toNat false = false := by
   rw [List.getD_eq_getElem?_getD, List.getElem?_replicate]
   split <;> rfl
  simp only [List.reverse_nil, List.foldl_nil]
  unfold Gd
  rw [e]
  simp
 | d + 1, hd => by
  obtain ⟨h1, h2⟩ := comp_fold hes hL hLr hLa d (by omega)
  have hm : L.length - (d + 1) < L.length := by omega
  have hdr : L.drop (L.length - (d + 1)) = L[L.length - (d + 1)] :: L.drop (L.length - d) := by
   rw [List.drop_eq_getElem_cons hm]
   congr 2
   omega
  rw [hdr, List.reverse_cons, List.foldl_append]
  simp only [List.foldl_cons, List.foldl_nil]
  exact h1.step hes hL hLr hLa hm (fun j hj hmj => h2 j hj (by omega))
theorem comp_says {es : List Ed} {n : Nat} (hes : ∀ x ∈ es, 0 ≤ x.f ∧ x.f < (n : Int) ∧ 0 ≤ x.t ∧ x.t < (n : Int)) : (∀ G ∈ compF es n, IsScc es n G) ∧ (compF es n).Pairwise (fun G H => ∀ t ∈ G, t ∉ H) ∧ ∀ t, 0 ≤ t → t < (n : Int) → ∃ G ∈ compF es n, t ∈ G := by
 obtain ⟨h1, h2, h3⟩ := order_says (fun x hx => (hes x hx).2.2)
 have hLa : ∀ t, 0 ≤ t → t < (n : Int) → t ∈ (orderF es n).2 := fun t h0 h4 => by
  have := h3 t.toNat (by omega)
  rwa [Int.toNat_of_nonneg h0] at this
 obtain ⟨h4, h5⟩ := comp_fold hes h1 h2 hLa (orderF es n).2.length (Nat.le_refl _)
 rw [Nat.sub_self, List.drop_zero] at h4 h5
 refine ⟨h4.scc, h4.dis, fun t h0 h6 => ?_⟩
 obtain ⟨j, hj, hje⟩ := List.mem_iff_getElem.1 (hLa t h0 h6)
 have := h5 j hj (Nat.zero_le _)
 rw [hje] at this
 exact (h4.cls t h0 h6).1 this

structure CompSpec (es : List Ed) (n : Nat) (Cs : List (List Int)) : Prop where
 inc : ∀ C ∈ Cs, Inc C
 scc : ∀ C ∈ Cs, IsScc es n C
 all : ∀ t, 0 ≤ t → t < (n : Int) → ∃ C ∈ Cs, t ∈ C
 ord : Cs.Pairwise (fun C D => C.headD 0 < D.headD 0)
theorem inc_head {C : List Int} (h : Inc C) {t : Int} (ht : t ∈ C) : C.headD 0 ∈ C ∧ C.headD 0 ≤ t := by
 cases C with
 | nil => cases ht
 | cons c C =>
  refine ⟨List.mem_cons_self .., ?_⟩
  show c ≤ t
  rcases List.mem_cons.1 ht with rfl | h1
  ·exact Int.le_refl _
  ·have := (List.pairwise_cons.1 h).1 t h1; omega
theorem IsScc.ne {es : List Ed} {n : Nat} {C : List Int} (h : IsScc es n C) : ∃ t, t ∈ C := by
 obtain ⟨r, hr, _⟩ := h.ex
 exact ⟨r, hr⟩
theorem compSpec_of {es : List Ed} {n : Nat} {Gs Cs : List (List Int)} (hG : ∀ G ∈ Gs, IsScc es n G) (hall : ∀ t, 0 ≤ t → t < (n : Int) → ∃ G ∈ Gs, t ∈ G)
  (h1 : ∀ C ∈ Cs, Inc C ∧ ∃ G ∈ Gs, ∀ t, t ∈ C ↔ t ∈ G) (h2 : ∀ G ∈ Gs, ∃ C ∈ Cs, ∀ t, t ∈ C ↔ t ∈ G) (h3 : Cs.Pairwise (fun C D => C.headD 0 < D.headD 0)) : CompSpec es n Cs := by
 refine ⟨fun C hC => (h1 C hC).1, fun C hC => ?_, fun t h0 h4 => ?_, h3⟩
 ·obtain ⟨hi, G, hGm, hGt⟩ := h1 C hC
  have hs := hG G hGm
  obtain ⟨r, hr, hr2⟩ := hs.ex
  exact ⟨List.Pairwise.imp (fun {a b} (h : a < b) => by omega) hi, fun t ht => hs.rng t ((hGt t).1 ht), r, (hGt r).2 hr, fun t h5 h6 => (hGt t).trans (hr2 t h5 h6)⟩
 ·obtain ⟨G, hGm, ht⟩ := hall t h0 h4
  obtain ⟨C, hC, hCt⟩ := h2 G hGm
  exact ⟨C, hC, (hCt t).2 ht⟩
end Go.Proofs.YtfbapajcheammaaGreatDoor

namespace Go.Proofs.YtfbapajcheammaaGreatDoor
open Go Go.RowKit
theorem outE_eq {a : AutT} (q : Nat) : (a.2.2.2.filter fun x => x.1 == (q : Int)).map toEd = outE (edsOf a) (q : Int) := by
 unfold outE edsOf
 rw [List.filter_map]
 congr 1
def stkOf (a : AutT) (F : Nat → Nat) (p : Int × Int) : Int × List Ed := (p.1, ((a.2.2.2.take (F (p.1.toNat + 1))).drop p.2.toNat).map toEd)
theorem finish_sim {a : AutT} {n : Nat} (hr : Right a n) {fs : List Int} {F : Nat → Nat} (hF : FsOk a n fs F) : ∀ (f : Nat) (st : Stk) (seen : List Bool) (ord : List Int) (T : List (Int × Int)), T.reverse.map (stkOf a F) = st → (∀ p ∈ T, 0 ≤ p.1 ∧ p.1 < (n : Int) ∧ (F p.1.toNat : Int) ≤ p.2 ∧ p.2 ≤ (F (p.1.toNat + 1) : Int)) → FIC (edsOf a) n st seen ord → leftL (edsOf a) n st seen ≤ f →
  iterF (m_reach_graph_finish_l1 (a, fs)) (f + 1) (seen, T, ord) = some ((dfsL (edsOf a) f st seen ord).2, (dfsL (edsOf a) f st seen ord).1) := by
 intro f
 induction f with
 | zero =>
  intro st seen ord T hT hp hI hf
  rcases List.eq_nil_or_concat T with rfl | ⟨T0, p, rfl⟩
  ·simp only [List.reverse_nil, List.map_nil] at hT
   subst hT
   rw [iterF_succ, m_reach_graph_finish_l1]
   rfl
  ·rw [List.concat_eq_append, List.reverse_append, List.map_append] at hT
   subst hT
   unfold leftL at hf
   simp at hf
 | succ f ih =>
  intro st seen ord T hT hp hI hf
  have hnl := hr.nl
  have hl3 := hr.l3
  rcases List.eq_nil_or_concat T with rfl | ⟨T0, p, rfl⟩
  ·simp only [List.reverse_nil, List.map_nil] at hT
   subst hT
   rw [iterF_succ, m_reach_graph_finish_l1]
   rfl
  ·rw [List.concat_eq_append] at hT hp ⊢
   obtain ⟨s', k'⟩ := p
   have hpp := hp (s', k') (by simp)
   dsimp only at hpp
   obtain ⟨i, rfl⟩ : ∃ i : Nat, s' = i := ⟨s'.toNat, by omega⟩
   obtain ⟨k, rfl⟩ : ∃ k : Nat, k' = k := ⟨k'.toNat, by omega⟩
   rw [Int.toNat_natCast] at hpp
   have hin : i < n := by omega
   have hmono := hF.mono i hin
   have hfl := hF.len
   rw [List.reverse_append, List.map_append] at hT
   have hT : (((i : Nat) : Int), ((a.2.2.2.take (F (i + 1))).drop k).map toEd) :: T0.reverse.map (stkOf a F) = st := hT
   have hlen := int_nodup_len hI.nd hI.rng
   rw [← hT] at hlen
   simp only [held, List.map_cons, List.length_append, List.length_cons, List.length_map, List.length_reverse] at hlen
   have hTl : ((T0 ++ [((i : Int), (k : Int))]).length : Int) - 1 = ((T0.length : Nat) : Int) := by simp
   have hidx : idx (T0 ++ [((i : Int), (k : Int))]) ((T0.length : Nat) : Int) = some ((i : Int), (k : Int)) := by
    rw [idx_at (by simp)]; simp
   have hp0 : ∀ p ∈ T0, 0 ≤ p.1 ∧ p.1 < (n : Int) ∧ (F p.1.toNat : Int) ≤ p.2 ∧ p.2 ≤ (F (p.1.toNat + 1) : Int) := fun p hp1 => hp p (List.mem_append_left _ hp1)
   rw [iterF_succ, m_reach_graph_finish_l1]
   dsimp only
   rw [if_pos (by simp), hTl, W_nat (by omega), hidx, Option.bind_some, nxt (by omega), idx_at (by omega), Option.bind_some, hF.val]
   by_cases hk : k = F (i + 1)
   ·subst hk
    rw [if_pos (by simp), app_eq (by simp; omega), Option.bind_some, slc, if_pos ⟨by omega, by omega, by simp; omega⟩, Option.bind_some, Int.toNat_natCast]
    have hrem : ((a.2.2.2.take (F (i + 1))).drop (F (i + 1))).map toEd = [] := by
     rw [List.drop_eq_nil_of_le (by rw [List.length_take]; omega)]; rfl
    rw [hrem] at hT
    subst hT
    have hf2 : leftL (edsOf a) n (T0.reverse.map (stkOf a F)) seen ≤ f := by
     unfold leftL at hf ⊢
     rw [List.map_cons, List.sum_cons] at hf
     dsimp only at hf
     simp only [List.length_nil] at hf
     omega
    have h := ih _ seen (ord ++ [(i : Int)]) T0 rfl hp0 hI.pop hf2
    rw [dfsL]
    dsimp only
    rw [show (T0 ++ [((i : Int), ((F (i + 1) : Nat) : Int))]).take T0.length = T0 by simp]
    exact h
   ·have hkl : k < F (i + 1) := by omega
    have hkL : k < a.2.2.2.length := by omega
    rw [if_neg (by simp; omega), idx_at hkL, Option.bind_some]
    obtain ⟨y, hy⟩ : ∃ y, a.2.2.2[k] = y := ⟨_, rfl⟩
    have hyr := hr.es y (hy ▸ List.getElem_mem hkL)
    obtain ⟨t, ht⟩ : ∃ t : Nat, y.2.2 = t := ⟨y.2.2.toNat, by omega⟩
    have htn : t < n := by omega
    have hrem : (a.2.2.2.take (F (i + 1))).drop k = y :: (a.2.2.2.take (F (i + 1))).drop (k + 1) := by
     rw [List.drop_eq_getElem_cons (by rw [List.length_take]; omega), List.getElem_take, hy]
    rw [hrem, List.map_cons] at hT
    subst hT
    have hsl := hI.len
    have hx := hI.own _ (List.mem_cons_self ..) (toEd y) (List.mem_cons_self ..)
    have hs := hI.seen (y.2.2) hyr.2.2.1 hyr.2.2.2.1
    have hm : leftL (edsOf a) n (((i : Int), toEd y :: ((a.2.2.2.take (F (i + 1))).drop (k + 1)).map toEd) :: T0.reverse.map (stkOf a F)) seen = leftL (edsOf a) n (((i : Int), ((a.2.2.2.take (F (i + 1))).drop (k + 1)).map toEd) :: T0.reverse.map (stkOf a F)) seen + 1 := by
     unfold leftL
     rw [List.map_cons, List.sum_cons, List.map_cons, List.sum_cons]
     dsimp only
     rw [List.length_cons]
     omega
    have hupd : upd (T0 ++ [((i : Int), (k : Int))]) ((T0.length : Nat) : Int) ((i : Int), ((k + 1 : Nat) : Int)) = some (T0 ++ [((i : Int), ((k + 1 : Nat) : Int))]) := by
     rw [upd_at (by simp), List.set_append_right _ _ (Nat.le_refl _), Nat.sub_self]; rfl
    have hp1 : ∀ p ∈ T0 ++ [((i : Int), ((k + 1 : Nat) : Int))], 0 ≤ p.1 ∧ p.1 < (n : Int) ∧ (F p.1.toNat : Int) ≤ p.2 ∧ p.2 ≤ (F (p.1.toNat + 1) : Int) := fun p hp2 => by
     rcases List.mem_append.1 hp2 with h | h
     ·exact hp0 p h
     ·rw [List.mem_singleton.1 h]
      dsimp only
      rw [Int.toNat_natCast]
      omega
    have hst : (T0 ++ [((i : Int), ((k + 1 : Nat) : Int))]).reverse.map (stkOf a F) = ((i : Int), ((a.2.2.2.take (F (i + 1))).drop (k + 1)).map toEd) :: T0.reverse.map (stkOf a F) := by
     rw [List.reverse_append, List.map_append]; rfl
    rw [hy, nxt (by omega), hupd, Option.bind_some, ht, idx_at (by omega), Option.bind_some, dfsL]
    have hgd : seen.getD (toEd y).t.toNat false = seen[t] := by
     show seen.getD y.2.2.toNat false = _
     rw [ht, Int.toNat_natCast, List.getD_eq_getElem?_getD, List.getElem?_eq_getElem (by omega)]; rfl
    rw [hgd]
    cases hb : seen[t] with
    | true =>
     have hg : Gd seen y.2.2 := by unfold Gd; rw [← hb, ← hgd]; rfl
     rw [if_neg (by simp), if_pos rfl]
     exact ih _ seen ord _ hst hp1 (hI.skip (hs.1 hg)) (by omega)
    | false =>
     have hg : ¬ Gd seen y.2.2 := by
      unfold Gd
      rw [show seen.getD y.2.2.toNat false = seen[t] from hgd, hb]; simp
     have hle := leftL_enter (es := edsOf a) (st := ((i : Int), ((a.2.2.2.take (F (i + 1))).drop (k + 1)).map toEd) :: T0.reverse.map (stkOf a F)) hI.len (t := y.2.2) hyr.2.2.1 hyr.2.2.2.1 (by have := hg; unfold Gd at this; simpa using this)
     have hmt := hF.mono t htn
     rw [if_pos (by simp), Option.bind_some, upd_at (by omega), Option.bind_some, idx_at (by omega), Option.bind_some, hF.val, app_eq (by simp; omega), Option.bind_some, if_neg (by simp)]
     have hst2 : (T0 ++ [((i : Int), ((k + 1 : Nat) : Int))] ++ [((t : Int), ((F t : Nat) : Int))]).reverse.map (stkOf a F) = ((toEd y).t, outE (edsOf a) (toEd y).t) :: ((i : Int), ((a.2.2.2.take (F (i + 1))).drop (k + 1)).map toEd) :: T0.reverse.map (stkOf a F) := by
      rw [List.reverse_append, List.map_append, hst]
      show stkOf a F ((t : Int), ((F t : Nat) : Int)) :: _ = _
      congr 1
      unfold stkOf
      dsimp only
      rw [Int.toNat_natCast, Int.toNat_natCast, hF.out t htn, outE_eq]
      show ((t : Int), outE (edsOf a) (t : Int)) = (y.2.2, outE (edsOf a) y.2.2)
      rw [ht]
     have hp2 : ∀ p ∈ T0 ++ [((i : Int), ((k + 1 : Nat) : Int))] ++ [((t : Int), ((F t : Nat) : Int))], 0 ≤ p.1 ∧ p.1 < (n : Int) ∧ (F p.1.toNat : Int) ≤ p.2 ∧ p.2 ≤ (F (p.1.toNat + 1) : Int) := fun p hp2 => by
      rcases List.mem_append.1 hp2 with h | h
      ·exact hp1 p h
      ·rw [List.mem_singleton.1 h]
       dsimp only
       rw [Int.toNat_natCast]
       omega
     have htt : (toEd y).t.toNat = t := by show y.2.2.toNat = t; omega
     have h := ih _ (seen.set t true) ord _ hst2 hp2 (by
      have := hI.push (x := toEd y) hyr.2.2.1 hyr.2.2.2.1 (fun e => hg (hs.2 e))
      rw [htt] at this
      exact this) (by
      rw [show (y.2.2).toNat = t by omega] at hle
      have : leftL (edsOf a) n (((toEd y).t, outE (edsOf a) (toEd y).t) :: ((i : Int), ((a.2.2.2.take (F (i + 1))).drop (k + 1)).map toEd) :: T0.reverse.map (stkOf a F)) (seen.set t true) + 1 = _ := hle
      omega)
     rw [htt]
     exact h
end Go.Proofs.YtfbapajcheammaaGreatDoor

namespace Go.Proofs.YtfbapajcheammaaGreatDoor
open Go Go.RowKit
theorem sum_le {g : Nat → Nat} {c : Nat} (hg : ∀ t, g t ≤ c) : ∀ n, ((List.range n).map g).sum ≤ n * c
 | 0 => by simp
 | n + 1 => by
  have := sum_le hg n
  have := hg n
  rw [List.range_succ, List.map_append, List.sum_append, Nat.succ_mul]
  simp
  omega
theorem leftL_le {es : List Ed} {n : Nat} {s : Int} {seen : List Bool} : leftL es n [(s, outE es s)] seen ≤ es.length + 1 + n * (es.length + 2) := by
 have h1 : ∀ u, (outE es u).length ≤ es.length := fun u => List.length_filter_le _ _
 have h2 := sum_le (g := fun t => if seen.getD t false = true then 0 else (outE es (t : Int)).length + 2) (c := es.length + 2) (fun t => by
  have := h1 (t : Int)
  split <;> omega) n
 have h3 := h1 s
 unfold leftL
 simp only [List.map_cons, List.map_nil, List.sum_cons, List.sum_nil]
 omega
theorem order_sim {a : AutT} {n : Nat} (hr : Right a n) {fs : List Int} {F : Nat → Nat} (hF : FsOk a n fs F) : iter (m_reach_Components_l1 a (a, fs)) (0, List.replicate n false, []) = some (orderF (edsOf a) n).2 := by
 have hnl := hr.nl
 have hl3 := hr.l3
 have hel : (edsOf a).length = a.2.2.2.length := List.length_map _
 have hes : ∀ x ∈ edsOf a, 0 ≤ x.t ∧ x.t < (n : Int) := fun x hx => (hr.ein x hx).2.2
 obtain ⟨o, h1, rfl⟩ := iter_inv (f := m_reach_Components_l1 a (a, fs)) (fun i s => i ≤ n ∧ s.1 = (i : Int) ∧ (s.2.1, s.2.2) = (List.range i).foldl (ordStep (edsOf a) n) (List.replicate n false, [])) (fun o => o = (orderF (edsOf a) n).2) n 0 (by omega) (fun i s hi ⟨_, e1, e2⟩ => by
   obtain ⟨k, seen, ord⟩ := s
   dsimp only at e1 e2
   subst e1
   obtain ⟨hI, _⟩ := order_fold hes i (by omega)
   rw [← e2] at hI
   dsimp only at hI
   have hsl := hI.len
   left
   have hfold : (List.range (i + 1)).foldl (ordStep (edsOf a) n) (List.replicate n false, []) = ordStep (edsOf a) n (seen, ord) i := by
    rw [List.range_succ, List.foldl_append, ← e2]; rfl
   have hgd : seen.getD i false = seen[i]'(by omega) := by rw [List.getD_eq_getElem?_getD, List.getElem?_eq_getElem (by omega)]; rfl
   rw [m_reach_Components_l1]
   dsimp only
   rw [hr.nn, if_pos (ct_lt hi), idx_at (by omega), Option.bind_some]
   cases hb : seen[i]'(by omega) with
   | true =>
    rw [if_neg (by simp), m_reach_Components_j2]
    refine ⟨_, rfl, by omega, by dsimp only; rw [nxt (by omega)], ?_⟩
    dsimp only
    rw [hfold, ordStep]
    dsimp only
    rw [hgd, hb, if_pos rfl]
   | false =>
    have hn : (i : Int) ∉ held [] ord := fun e => by
     have := (hI.seen (i : Int) (by omega) (by omega)).2 e
     unfold Gd at this
     rw [Int.toNat_natCast, hgd, hb] at this
     cases this
    have he := hI.enter (t := (i : Int)) (by omega) (by omega) hn (fun s hs => by cases hs)
    rw [Int.toNat_natCast] at he
    have hm := hF.mono i hi
    have hfl := hF.len
    have hst : [((i : Int), ((F i : Nat) : Int))].reverse.map (stkOf a F) = [((i : Int), outE (edsOf a) (i : Int))] := by
     show [stkOf a F ((i : Int), ((F i : Nat) : Int))] = _
     unfold stkOf
     dsimp only
     rw [Int.toNat_natCast, Int.toNat_natCast, hF.out i hi, outE_eq]
    have hle := leftL_le (es := edsOf a) (n := n) (s := (i : Int)) (seen := seen.set i true)
    have hmul := Nat.mul_le_mul hnl (show (edsOf a).length + 2 ≤ 1000002 by omega)
    have hsim := finish_sim hr hF _ _ (seen.set i true) ord [((i : Int), ((F i : Nat) : Int))] hst (fun p hp => by
     rw [List.mem_singleton.1 hp]
     dsimp only
     rw [Int.toNat_natCast]
     omega) he (Nat.le_refl _)
    have hit := iter_of (by omega) hsim
    obtain ⟨hE, _⟩ := dfs_says hes _ _ _ _ he (Nat.le_refl _)
    have hEl := hE.len
    have hfin : m_reach_graph_finish (a, fs) (i : Int) seen ord = some ((dfsL (edsOf a) (leftL (edsOf a) n [((i : Int), outE (edsOf a) (i : Int))] (seen.set i true)) [((i : Int), outE (edsOf a) (i : Int))] (seen.set i true) ord).2, (dfsL (edsOf a) (leftL (edsOf a) n [((i : Int), outE (edsOf a) (i : Int))] (seen.set i true)) [((i : Int), outE (edsOf a) (i : Int))] (seen.set i true) ord).1) := by
     rw [m_reach_graph_finish]
     dsimp only
     rw [idx_at (by omega), Option.bind_some, hF.val, idx_at (by omega), Option.bind_some, upd_at (by omega), Option.bind_some, hit]
     rfl
    rw [if_pos (by simp), hfin, Option.bind_some, lenEq]
    dsimp only
    rw [if_pos (by omega), Option.bind_some, m_reach_Components_j2]
    refine ⟨_, rfl, by omega, by dsimp only; rw [nxt (by omega)], ?_⟩
    dsimp only
    rw [hfold, ordStep]
    dsimp only
    rw [hgd, hb, if_neg (by simp)]) (fun s ⟨_, e1, e2⟩ => by
   obtain ⟨k, seen, ord⟩ := s
   dsimp only at e1 e2
   subst e1
   refine ⟨ord, ?_, ?_⟩
   ·rw [m_reach_Components_l1]
    dsimp only
    rw [hr.nn, if_neg ct_ge]
   ·unfold orderF
    rw [← e2]) (Nat.zero_le _) (0, List.replicate n false, []) ⟨Nat.zero_le _, rfl, rfl⟩
 exact h1
structure IntoOk (a : AutT) (n : Nat) (L : List (List Int)) : Prop where
 len : L.length = n
 val : ∀ t (h : t < L.length), L[t] = preds (edsOf a) (t : Int)
theorem into_sim {a : AutT} {n : Nat} (hr : Right a n) : ∃ L, iter (m_reach_Components_l2 a) (0, List.replicate n []) = some L ∧ IntoOk a n L := by
 have hnl := hr.nl
 have hl3 := hr.l3
 obtain ⟨o, h1, h2, h3⟩ := iter_inv (f := m_reach_Components_l2 a) (fun i s => s.1 = (i : Int) ∧ s.2.length = n ∧ ∀ t (_ : t < s.2.length), s.2[t] = (((a.2.2.2.take i).filter fun x => decide (x.2.2 = (t : Int))).map fun x => x.1)) (fun o => o.length = n ∧ ∀ t (_ : t < o.length), o[t] = ((a.2.2.2.filter fun x => decide (x.2.2 = (t : Int))).map fun x => x.1)) a.2.2.2.length 0 (by omega) (fun i s hi ⟨e1, g1, g2⟩ => by
   obtain ⟨k, L⟩ := s
   dsimp only at e1 g1 g2
   subst e1
   have hx := hr.es _ (List.getElem_mem hi)
   obtain ⟨t, ht⟩ : ∃ t : Nat, a.2.2.2[i].2.2 = t := ⟨a.2.2.2[i].2.2.toNat, by omega⟩
   have htn : t < L.length := by omega
   have hlen : (L[t]'htn).length ≤ i := by
    rw [g2, List.length_map]
    exact Nat.le_trans (List.length_filter_le _ _) (by rw [List.length_take]; omega)
   refine .inl ⟨(((i + 1 : Nat) : Int), L.set t (L[t] ++ [a.2.2.2[i].1])), ?_, rfl, by simp [g1], fun u hu => ?_⟩
   ·rw [m_reach_Components_l2]
    dsimp only
    rw [if_pos (ct_lt hi), idx_at hi, Option.bind_some, ht, idx_at htn, Option.bind_some, app_eq (by simp; omega), Option.bind_some, Option.bind_some, upd_at htn, Option.bind_some, nxt (by omega)]
   ·have hu2 : u < L.length := by simpa using hu
    dsimp only
    rw [List.getElem_set, List.take_succ_eq_append_getElem hi, List.filter_append, List.map_append]
    by_cases h : t = u
    ·subst h
     rw [if_pos rfl, g2, List.filter_cons_of_pos (by simp [ht])]
     rfl
    ·rw [if_neg h, g2, List.filter_cons_of_neg (by simp [ht]; omega)]
     simp) (fun s ⟨e1, g1, g2⟩ => by
   obtain ⟨k, L⟩ := s
   dsimp only at e1 g1 g2
   subst e1
   refine ⟨L, ?_, g1, by rw [List.take_length] at g2; exact g2⟩
   rw [m_reach_Components_l2]
   dsimp only
   rw [if_neg ct_ge]) (Nat.zero_le _) (0, List.replicate n []) ⟨rfl, by simp, fun t ht => by simp⟩
 refine ⟨o, h1, h2, fun t ht => ?_⟩
 rw [h3 t ht]
 unfold preds edsOf
 rw [List.filter_map, List.map_map]
 rfl
structure ClsR (n : Nat) (cls : List Bool) (cl : List Int) : Prop where
 l1 : cls.length = n
 l2 : cl.length = n
 val : ∀ t (h : t < cls.length) (h2 : t < cl.length), 0 ≤ cl[t] ∧ (cl[t] = 0 ↔ cls[t] = false)
theorem ClsR.set {n : Nat} {cls : List Bool} {cl : List Int} (h : ClsR n cls cl) {t : Nat} {v : Int} (hv : 0 < v) : ClsR n (cls.set t true) (cl.set t v) := by
 refine ⟨by rw [List.length_set]; exact h.l1, by rw [List.length_set]; exact h.l2, fun u hu hu2 => ?_⟩
 rw [List.getElem_set, List.getElem_set]
 by_cases e : t = u
 ·rw [if_pos e, if_pos e]; exact ⟨by omega, by simp; omega⟩
 ·rw [if_neg e, if_neg e]; exact h.val u _ _
theorem grp_inner {a : AutT} {n : Nat} (hr : Right a n) {z : List Int × List (List Int)} (hz : z.2.length ≤ 1000000) {cls0 : List Bool} {root t : Int} {cls : List Bool} {G : List Int} {cl : List Int} (hG : GrpI (edsOf a) n cls0 root (cls, G)) (ht : t ∈ G) (hC : ClsR n cls cl) :
  ∃ cl', iter (m_reach_Components_l5 z (preds (edsOf a) t)) (0, G, cl) = some (((preds (edsOf a) t).foldl grpStep (cls, G)).2, cl') ∧ ClsR n ((preds (edsOf a) t).foldl grpStep (cls, G)).1 cl' := by
 have hnl := hr.nl
 have hl3 := hr.l3
 have hef : ∀ x ∈ edsOf a, 0 ≤ x.f ∧ x.f < (n : Int) := fun x hx => ⟨(hr.ein x hx).1, (hr.ein x hx).2.1⟩
 obtain ⟨es, hes⟩ : ∃ es, es = (edsOf a).filter fun x => decide (x.t = t) := ⟨_, rfl⟩
 have hps : preds (edsOf a) t = es.map Ed.f := by rw [hes]; rfl
 have hmem : ∀ x ∈ es, x ∈ edsOf a ∧ x.t = t := fun x hx => by
  rw [hes] at hx
  have := List.mem_filter.1 hx
  exact ⟨this.1, by simpa using this.2⟩
 have hel : es.length ≤ 1000000 := by
  rw [hes]
  exact Nat.le_trans (List.length_filter_le _ _) (by unfold edsOf; rw [List.length_map]; exact hl3)
 rw [hps]
 obtain ⟨o, h1, h2, h3⟩ := iter_inv (f := m_reach_Components_l5 z (es.map Ed.f)) (fun j s => j ≤ es.length ∧ s.1 = (j : Int) ∧ s.2.1 = (((es.take j).map Ed.f).foldl grpStep (cls, G)).2 ∧ ClsR n (((es.take j).map Ed.f).foldl grpStep (cls, G)).1 s.2.2) (fun o => o.1 = ((es.map Ed.f).foldl grpStep (cls, G)).2 ∧ ClsR n ((es.map Ed.f).foldl grpStep (cls, G)).1 o.2) es.length 0 (by omega) (fun j s hj ⟨_, e1, e2, e3⟩ => by
   obtain ⟨k, g, c⟩ := s
   dsimp only at e1 e2 e3
   subst e1
   obtain ⟨hI, _⟩ := grp_fold hef (es.take j) (cls, G) hG ht (fun x hx => hmem x (List.mem_of_mem_take hx))
   rw [List.take_succ_eq_append_getElem hj, List.map_append, List.foldl_append]
   have hx := hef _ (hmem _ (List.getElem_mem hj)).1
   obtain ⟨u, hu⟩ : ∃ u : Nat, es[j].f = u := ⟨es[j].f.toNat, by omega⟩
   generalize ((es.take j).map Ed.f).foldl grpStep (cls, G) = S at e2 e3 hI ⊢
   obtain ⟨S1, S2⟩ := S
   dsimp only at e2 e3
   subst e2
   have hgl := int_nodup_len hI.nd hI.rng
   dsimp only at hgl
   have hc1 := e3.l1
   have hc2 := e3.l2
   have hval := e3.val u (by omega) (by omega)
   have hgd : S1.getD u false = S1[u]'(by omega) := by rw [List.getD_eq_getElem?_getD, List.getElem?_eq_getElem (by omega)]; rfl
   have hstep : List.foldl grpStep (S1, g) (List.map Ed.f [es[j]]) = if S1[u]'(by omega) = true then (S1, g) else (S1.set u true, g ++ [(u : Int)]) := by
    show grpStep (S1, g) es[j].f = _
    unfold grpStep
    rw [hu, Int.toNat_natCast, hgd]
   left
   rw [m_reach_Components_l5]
   dsimp only
   rw [if_pos (by simp; omega), idx_at (by simpa using hj), Option.bind_some, List.getElem_map, hu, idx_at (by omega), Option.bind_some, hstep]
   cases hb : S1[u]'(by omega) with
   | true =>
    rw [if_neg (by simp; intro e; have := hval.2.1 e; rw [hb] at this; cases this), m_reach_Components_j1, if_pos rfl]
    exact ⟨_, rfl, by omega, by dsimp only; rw [nxt (by omega)], rfl, e3⟩
   | false =>
    have hv : (z.2.length : Int) + 1 = ((z.2.length + 1 : Nat) : Int) := by omega
    rw [if_pos (by rw [hval.2.2 hb]; rfl), Option.bind_some, hv, W_nat (by omega), upd_at (by omega), Option.bind_some, app_eq (by simp; omega), Option.bind_some, m_reach_Components_j1, if_neg (by simp)]
    exact ⟨_, rfl, by omega, by dsimp only; rw [nxt (by omega)], rfl, e3.set (by omega)⟩) (fun s ⟨_, e1, e2, e3⟩ => by
   obtain ⟨k, g, c⟩ := s
   dsimp only at e1 e2 e3
   subst e1
   rw [List.take_length] at e2 e3
   refine ⟨(g, c), ?_, e2, e3⟩
   rw [m_reach_Components_l5]
   dsimp only
   rw [if_neg (by simp)]) (Nat.zero_le _) (0, G, cl) ⟨Nat.zero_le _, rfl, rfl, hC⟩
 obtain ⟨o1, o2⟩ := o
 dsimp only at h2 h3
 exact ⟨o2, by rw [h1, h2], h3⟩
theorem grp_sim {a : AutT} {n : Nat} (hr : Right a n) {L : List (List Int)} (hL : IntoOk a n L) {z : List Int × List (List Int)} (hz : z.2.length ≤ 1000000) {cls0 : List Bool} {root : Int} : ∀ (f i : Nat) (cls : List Bool) (G cl : List Int), GrpI (edsOf a) n cls0 root (cls, G) → ClsR n cls cl → n + 1 ≤ i + f → i ≤ n + 1 →
  ∃ cl', iterF (m_reach_Components_l4 L z) (f + 1) ((i : Int), G, cl) = some ((grpLoop (edsOf a) f i (cls, G)).2, cl') ∧ ClsR n (grpLoop (edsOf a) f i (cls, G)).1 cl' := by
 have hnl := hr.nl
 intro f
 induction f with
 | zero =>
  intro i cls G cl hG hC hf hi
  have hgl := int_nodup_len hG.nd hG.rng
  dsimp only at hgl
  refine ⟨cl, ?_, hC⟩
  rw [iterF_succ, m_reach_Components_l4]
  dsimp only
  rw [if_neg (by simp; omega)]
  rfl
 | succ f ih =>
  intro i cls G cl hG hC hf hi
  have hgl := int_nodup_len hG.nd hG.rng
  dsimp only at hgl
  rw [iterF_succ, m_reach_Components_l4, grpLoop]
  dsimp only
  by_cases hlt : i < G.length
  ·have hg : G.getD i 0 = G[i] := by rw [List.getD_eq_getElem?_getD, List.getElem?_eq_getElem hlt]; rfl
   have hm := hG.rng _ (List.getElem_mem hlt)
   obtain ⟨t, ht⟩ : ∃ t : Nat, G[i] = t := ⟨G[i].toNat, by omega⟩
   have hLl := hL.len
   obtain ⟨cl1, g1, g2⟩ := grp_inner hr hz (t := G[i]) hG (List.getElem_mem hlt) hC
   have hG1 : GrpI (edsOf a) n cls0 root ((preds (edsOf a) G[i]).foldl grpStep (cls, G)) := (grp_fold (fun x hx => ⟨(hr.ein x hx).1, (hr.ein x hx).2.1⟩) ((edsOf a).filter fun x => decide (x.t = G[i])) (cls, G) hG (List.getElem_mem hlt) (fun x hx => by
    have := List.mem_filter.1 hx
    exact ⟨this.1, by simpa using this.2⟩)).1
   rw [if_pos (ct_lt hlt), idx_at hlt, Option.bind_some, ht, idx_at (by omega), Option.bind_some, hL.val, ← ht, g1, Option.bind_some, if_pos hlt, hg]
   generalize (preds (edsOf a) G[i]).foldl grpStep (cls, G) = S at g2 hG1
   obtain ⟨S1, S2⟩ := S
   obtain ⟨cl2, g3, g4⟩ := ih (i + 1) S1 S2 cl1 hG1 g2 (by omega) (by omega)
   refine ⟨cl2, ?_, g4⟩
   dsimp only
   rw [nxt (by omega)]
   exact g3
  ·rw [if_neg (by simp; omega), if_neg hlt]
   exact ⟨cl, rfl, hC⟩
end Go.Proofs.YtfbapajcheammaaGreatDoor

namespace Go.Proofs.YtfbapajcheammaaGreatDoor
open Go Go.RowKit
def srt (l : List Int) : List Int := l.mergeSort fun x y => decide (x ≤ y)
theorem srt_mem {l : List Int} {x : Int} : x ∈ srt l ↔ x ∈ l := List.mem_mergeSort
theorem srt_inc {l : List Int} (h : l.Nodup) : Inc (srt l) := by
 have h1 : (srt l).Pairwise fun x y => decide (x ≤ y) = true := List.pairwise_mergeSort (fun a b c h1 h2 => by simp at *; omega) (fun a b => by simp; omega) l
 have h2 : (srt l).Nodup := (List.mergeSort_perm l _).nodup_iff.2 h
 exact (h1.and h2).imp fun {x y} h => by
  have h3 := h.1
  have h4 := h.2
  simp at h3
  omega
theorem range_sim {a : AutT} {n : Nat} (hr : Right a n) {L : List (List Int)} (hL : IntoOk a n L) {r : List (Int × Int)} (hrl : r.length = (orderF (edsOf a) n).2.length) (hrg : ∀ k, k < (orderF (edsOf a) n).2.length → (r.getD k (0, 0)).2 = (orderF (edsOf a) n).2.reverse.getD k 0) :
  ∃ cl, rngF (fun k => m_reach_Components_l3 L (r.getD k (0, 0))) r.length 0 (List.replicate n 0, []) = some (cl, (compF (edsOf a) n).map srt) := by
 have hnl := hr.nl
 have hes : ∀ x ∈ edsOf a, 0 ≤ x.f ∧ x.f < (n : Int) ∧ 0 ≤ x.t ∧ x.t < (n : Int) := hr.ein
 obtain ⟨ho1, ho2, ho3⟩ := order_says (fun x hx => (hes x hx).2.2)
 have hLa : ∀ t, 0 ≤ t → t < (n : Int) → t ∈ (orderF (edsOf a) n).2 := fun t h0 h4 => by
  have := ho3 t.toNat (by omega)
  rwa [Int.toNat_of_nonneg h0] at this
 have hOl := int_nodup_len ho1.nd ho2
 have hcf : compF (edsOf a) n = ((orderF (edsOf a) n).2.reverse.foldl (cmpStep (edsOf a) n) (List.replicate n false, [])).2 := rfl
 have hfold := comp_fold hes ho1 ho2 hLa
 rw [hcf]
 generalize (orderF (edsOf a) n).2 = O at *
 obtain ⟨o, h1, h2, h3, h4⟩ := rng_inv (f := fun k => m_reach_Components_l3 L (r.getD k (0, 0))) (fun k s => k ≤ O.length ∧ (ClsR n ((O.reverse.take k).foldl (cmpStep (edsOf a) n) (List.replicate n false, [])).1 s.1 ∧ s.2 = (((O.reverse.take k).foldl (cmpStep (edsOf a) n) (List.replicate n false, [])).2).map srt) ∧ s.2.length ≤ k) (N := r.length) (fun k s hk ⟨_, ⟨hC, hg⟩, hlen⟩ => by
   obtain ⟨cl, gs⟩ := s
   dsimp only at hC hg hlen ⊢
   have hk2 : k < O.length := by omega
   have hkr : k < O.reverse.length := by simpa using hk2
   obtain ⟨hI, _⟩ := hfold k (by omega)
   have hrt : (O.drop (O.length - k)).reverse = O.reverse.take k := by rw [List.take_reverse]
   rw [hrt] at hI
   have hO : O.reverse.getD k 0 = O.reverse[k] := by rw [List.getD_eq_getElem?_getD, List.getElem?_eq_getElem hkr]; rfl
   have hroot := ho2 (O.reverse[k]) (List.mem_reverse.1 (List.getElem_mem hkr))
   obtain ⟨u, hu⟩ : ∃ u : Nat, O.reverse[k] = u := ⟨(O.reverse[k]).toNat, by omega⟩
   have hru : (r.getD k (0, 0)).2 = (u : Int) := by rw [hrg k hk2, hO, hu]
   rw [List.take_succ_eq_append_getElem hkr, List.foldl_append, hu]
   generalize (O.reverse.take k).foldl (cmpStep (edsOf a) n) (List.replicate n false, []) = S at hC hg hI ⊢
   obtain ⟨cls, Gs⟩ := S
   dsimp only at hC hg
   have hc1 := hC.l1
   have hc2 := hC.l2
   have hval := hC.val u (by omega) (by omega)
   have hgd : cls.getD u false = cls[u]'(by omega) := by rw [List.getD_eq_getElem?_getD, List.getElem?_eq_getElem (by omega)]; rfl
   have hstep : List.foldl (cmpStep (edsOf a) n) (cls, Gs) [(u : Int)] = if cls[u]'(by omega) = true then (cls, Gs) else ((grpLoop (edsOf a) (n + 1) 0 (cls.set u true, [(u : Int)])).1, Gs ++ [(grpLoop (edsOf a) (n + 1) 0 (cls.set u true, [(u : Int)])).2]) := by
    show cmpStep (edsOf a) n (cls, Gs) (u : Int) = _
    unfold cmpStep
    dsimp only
    rw [Int.toNat_natCast, hgd]
   rw [m_reach_Components_l3]
   dsimp only
   rw [hru, idx_at (by omega), Option.bind_some, hstep]
   cases hb : cls[u]'(by omega) with
   | true =>
    have hne : ¬ cl[u]'(by omega) = 0 := fun e => by rw [hval.2.1 e] at hb; cases hb
    rw [if_pos (by simp; omega), if_pos rfl]
    exact ⟨_, rfl, by omega, ⟨hC, hg⟩, by dsimp only; omega⟩
   | false =>
    have hng : ¬ Gd cls (u : Int) := by unfold Gd; rw [Int.toNat_natCast, hgd, hb]; simp
    have h0 := grp_start (es := edsOf a) (fun x hx => ⟨(hes x hx).1, (hes x hx).2.1⟩) hI.len (root := (u : Int)) (by omega) (by omega) hng
    rw [Int.toNat_natCast] at h0
    have hv : (gs.length : Int) + 1 = ((gs.length + 1 : Nat) : Int) := by omega
    obtain ⟨cl2, g1, g2⟩ := grp_sim hr hL (z := (cl, gs)) (by dsimp only; omega) (n + 1) 0 (cls.set u true) [(u : Int)] (cl.set u ((gs.length + 1 : Nat) : Int)) h0 (hC.set (by omega)) (by omega) (by omega)
    have g1 := iter_of (by omega) g1
    obtain ⟨hE, _⟩ := grp_says (es := edsOf a) (fun x hx => ⟨(hes x hx).1, (hes x hx).2.1⟩) hI.len (root := (u : Int)) (by omega) (by omega) hng
    rw [Int.toNat_natCast] at hE
    dsimp only at hE
    have hgl := int_nodup_len hE.nd hE.rng
    rw [if_neg (by rw [hval.2.2 hb]; simp), Option.bind_some, hv, W_nat (by omega), upd_at (by omega), Option.bind_some]
    rw [show ((0 : Nat) : Int) = 0 from rfl] at g1
    rw [g1, Option.bind_some, m_slices_Sort_int]
    dsimp only
    rw [if_pos (by omega), Option.bind_some, lenEq, if_pos (by simp), Option.bind_some, app_eq (by simp; omega), Option.bind_some, if_neg (by simp)]
    exact ⟨_, rfl, by omega, ⟨g2, by dsimp only; rw [hg, List.map_append]; rfl⟩, by simp; omega⟩) r.length 0 (List.replicate n 0, []) (Nat.zero_add _) ⟨Nat.zero_le _, ⟨⟨by simp, by simp, fun t h h2 => by simp⟩, rfl⟩, Nat.le_refl _⟩
 obtain ⟨o1, o2⟩ := o
 rw [hrl, ← List.length_reverse, List.take_length] at h3
 dsimp only at h3
 exact ⟨o1, by rw [h1, h3.2]⟩
theorem map_get_finRange {α : Type} (l : List α) : (List.finRange l.length).map l.get = l := by
 apply List.ext_getElem
 ·simp
 ·intro i h1 h2
  simp
theorem comp_ex {a : AutT} {n : Nat} (hr : Right a n) : ∃ Cs, m_reach_Components a = some (Cs, 0) ∧ CompSpec (edsOf a) n Cs := by
 have hnl := hr.nl
 obtain ⟨fs, F, efs, hF⟩ := newGraph_full hr
 obtain ⟨L, eL, hL⟩ := into_sim hr
 have hes : ∀ x ∈ edsOf a, 0 ≤ x.f ∧ x.f < (n : Int) ∧ 0 ≤ x.t ∧ x.t < (n : Int) := hr.ein
 obtain ⟨ho1, ho2, ho3⟩ := order_says (fun x hx => (hes x hx).2.2)
 have hOl := int_nodup_len ho1.nd ho2
 obtain ⟨hs1, hs2, hs3⟩ := comp_says hes
 obtain ⟨r, er, hrl, hrg⟩ : ∃ r, m_slices_Backward_int (orderF (edsOf a) n).2 = some r ∧ r.length = (orderF (edsOf a) n).2.length ∧ ∀ k, k < (orderF (edsOf a) n).2.length → (r.getD k (0, 0)).2 = (orderF (edsOf a) n).2.reverse.getD k 0 := by
  refine ⟨_, if_pos (by omega), by simp, fun k hk => ?_⟩
  rw [List.getD_eq_getElem?_getD, List.getElem?_map, List.getElem?_range hk, List.getD_eq_getElem?_getD, List.getElem?_reverse hk]
  show (orderF (edsOf a) n).2.getD ((orderF (edsOf a) n).2.length - 1 - k) 0 = _
  rw [List.getD_eq_getElem?_getD]
 obtain ⟨cl, ecl⟩ := range_sim hr hL hrl hrg
 -- the groups before they are put in order
 have hne : ∀ G ∈ compF (edsOf a) n, srt G ≠ [] ∧ hd0 (srt G) ∈ G := fun G hG => by
  obtain ⟨t, ht⟩ := (hs1 G hG).ne
  have h1 : srt G ≠ [] := fun e => by have := srt_mem.2 ht; rw [e] at this; cases this
  refine ⟨h1, srt_mem.1 ?_⟩
  unfold hd0
  cases he : srt G with
  | nil => exact absurd he h1
  | cons x us => exact List.mem_cons_self
 have hlen : (compF (edsOf a) n).length ≤ n := by
  have h1 : ((compF (edsOf a) n).map fun G => hd0 (srt G)).Nodup := by
   unfold List.Nodup
   rw [List.pairwise_map]
   exact List.Pairwise.imp_of_mem (fun {G H} hG hH hd e => hd _ (hne G hG).2 (e ▸ (hne H hH).2)) hs2
  have := int_nodup_len (n := n) h1 (fun x hx => by
   obtain ⟨G, hG, rfl⟩ := List.mem_map.1 hx
   exact (hs1 G hG).rng _ (hne G hG).2)
  simpa using this
 obtain ⟨gs, hgs⟩ : ∃ gs, gs = (compF (edsOf a) n).map srt := ⟨_, rfl⟩
 rw [← hgs] at ecl
 have hgl : gs.length ≤ n := by rw [hgs, List.length_map]; exact hlen
 have hmem : ∀ g ∈ gs, ∃ G ∈ compF (edsOf a) n, g = srt G := fun g hg => by
  rw [hgs] at hg
  obtain ⟨G, hG, e⟩ := List.mem_map.1 hg
  exact ⟨G, hG, e.symm⟩
 have hnd : (gs.map hd0).Nodup := by
  rw [hgs, List.map_map]
  unfold List.Nodup
  rw [List.pairwise_map]
  exact List.Pairwise.imp_of_mem (fun {G H} hG hH hd e => hd _ (hne G hG).2 (by have e : hd0 (srt G) = hd0 (srt H) := e; exact e ▸ (hne H hH).2)) hs2
 obtain ⟨Cs, hCs⟩ : ∃ Cs, Cs = ((List.finRange gs.length).mergeSort fun x y => !decide (hd0 (gs.get y) - hd0 (gs.get x) < 0)).map gs.get := ⟨_, rfl⟩
 have hsort : m_slices_SortFunc_int gs = some Cs := by
  rw [hCs]
  refine if_pos ⟨fun g hg => ?_, hnd, by omega⟩
  obtain ⟨G, hG, rfl⟩ := hmem g hg
  have h1 := hne G hG
  have h2 := (hs1 G hG).rng _ h1.2
  exact ⟨h1.1, by omega, by omega⟩
 have hperm : Cs.Perm gs := by
  rw [hCs]
  have := (List.mergeSort_perm (List.finRange gs.length) fun x y => !decide (hd0 (gs.get y) - hd0 (gs.get x) < 0)).map gs.get
  rwa [map_get_finRange] at this
 have hord : Cs.Pairwise fun C D => C.headD 0 < D.headD 0 := by
  have h1 : Cs.Pairwise fun C D => hd0 C ≤ hd0 D := by
   rw [hCs, List.pairwise_map]
   refine (List.pairwise_mergeSort (fun a b c h1 h2 => ?_) (fun a b => ?_) (List.finRange gs.length)).imp fun {x y} h => ?_
   ·simp at *; omega
   ·simp; omega
   ·simp at h ⊢; omega
  have h2 : (Cs.map hd0).Nodup := (hperm.map hd0).nodup_iff.2 hnd
  unfold List.Nodup at h2
  rw [List.pairwise_map] at h2
  exact (h1.and h2).imp fun {C D} h => by
   have h3 := h.1
   have h4 := h.2
   unfold hd0 at h3 h4
   omega
 refine ⟨Cs, ?_, compSpec_of hs1 hs3 (fun C hC => ?_) (fun G hG => ?_) hord⟩
 ·rw [m_reach_Components, hr.check, Option.bind_some, if_neg (by simp), efs, Option.bind_some, hr.nn, mkL_eq (by omega) (by omega), Option.bind_some, Int.toNat_natCast, order_sim hr hF, Option.bind_some, mkL_eq (by omega) (by omega), Option.bind_some, Int.toNat_natCast, eL, Option.bind_some, mkL_eq (by omega) (by omega), Option.bind_some, Int.toNat_natCast, er, Option.bind_some, ecl, Option.bind_some, hsort, Option.bind_some]
  dsimp only
  rw [lenEq, if_pos hperm.length_eq]
  rfl
 ·obtain ⟨G, hG, rfl⟩ := hmem C (hperm.mem_iff.1 hC)
  exact ⟨srt_inc (hs1 G hG).nd, G, hG, fun t => srt_mem⟩
 ·exact ⟨srt G, hperm.mem_iff.2 (by rw [hgs]; exact List.mem_map_of_mem hG), fun t => srt_mem⟩
end Go.Proofs.YtfbapajcheammaaGreatDoor

namespace Go.Proofs.YtfbapajcheammaaGreatDoor
open Go Go.RowKit
theorem rch_c {es : List Ed} {x y : Int} : Rch es x y ↔ RchC es x y := by
 constructor
 ·rintro ⟨k, h⟩
  induction k generalizing x with
  | zero => rw [List.mem_singleton.1 h]; exact .refl _
  | succ k ih =>
   obtain ⟨e, he, rfl, h2⟩ := h
   exact .step he (ih h2)
 ·intro h
  induction h with
  | refl s => exact ⟨0, List.mem_singleton.2 rfl⟩
  | @step e t he _ ih =>
   obtain ⟨k, hk⟩ := ih
   exact ⟨k + 1, e, he, rfl, hk⟩
def clB (es : List Ed) (C : List Int) : Bool := es.all fun x => !hasB C x.f || hasB C x.t
theorem clB_iff {es : List Ed} {C : List Int} : clB es C = true ↔ ∀ x ∈ es, x.f ∈ C → x.t ∈ C := by
 unfold clB
 rw [List.all_eq_true]
 constructor
 ·intro h x hx hf
  have := h x hx
  rw [hasB_true.2 hf] at this
  exact hasB_true.1 (by simpa using this)
 ·intro h x hx
  cases hf : hasB C x.f with
  | false => rfl
  | true => rw [hasB_true.2 (h x hx (hasB_true.1 hf))]; rfl
theorem clB_rch {es : List Ed} {C : List Int} (h : clB es C = true) {x y : Int} (hx : x ∈ C) (hr : RchC es x y) : y ∈ C := by
 have h := clB_iff.1 h
 induction hr with
 | refl s => exact hx
 | step he _ ih => exact ih (h _ he hx)
theorem IsScc.two {es : List Ed} {n : Nat} {C : List Int} (h : IsScc es n C) {x y : Int} (hx : x ∈ C) (hy : y ∈ C) : RchC es x y := by
 obtain ⟨r, hr, hs⟩ := h.ex
 have h1 := (hs x (h.rng x hx).1 (h.rng x hx).2).1 hx
 have h2 := (hs y (h.rng y hy).1 (h.rng y hy).2).1 hy
 exact h1.1.trans h2.2
theorem IsScc.back {es : List Ed} {n : Nat} {C : List Int} (h : IsScc es n C) {x y : Int} (hx : x ∈ C) (h0 : 0 ≤ y) (h1 : y < (n : Int)) (h2 : RchC es x y) (h3 : RchC es y x) : y ∈ C := by
 obtain ⟨r, hr, hs⟩ := h.ex
 have h4 := (hs x (h.rng x hx).1 (h.rng x hx).2).1 hx
 exact (hs y h0 h1).2 ⟨h3.trans h4.1, h4.2.trans h2⟩
theorem trap_iff {es : List Ed} {n : Nat} (hes : ∀ x ∈ es, 0 ≤ x.f ∧ x.f < (n : Int) ∧ 0 ≤ x.t ∧ x.t < (n : Int)) {C : List Int} (h : IsScc es n C) {r : Int} (hr : r ∈ C) : clB es C = true ↔ ∀ y, RchC es r y → y ∈ C := by
 constructor
 ·intro hc y hy
  exact clB_rch hc hr hy
 ·intro hc
  rw [clB_iff]
  intro x hx hf
  exact hc _ ((h.two hr hf).trans (RchC.edge hx))
theorem trap_ex {es : List Ed} {n : Nat} (hes : ∀ x ∈ es, 0 ≤ x.f ∧ x.f < (n : Int) ∧ 0 ≤ x.t ∧ x.t < (n : Int)) {Cs : List (List Int)} (hs : CompSpec es n Cs) : ∀ (k : Nat) (x : Int), 0 ≤ x → x < (n : Int) → (∀ L : List Int, L.Nodup → (∀ y ∈ L, RchC es x y) → L.length ≤ k) → ∃ C ∈ Cs, clB es C = true ∧ ∀ y ∈ C, RchC es x y
 | 0, x, _, _, hk => by
  have := hk [x] (by simp) (fun y hy => by rw [List.mem_singleton.1 hy]; exact .refl _)
  simp at this
 | k + 1, x, h0, h1, hk => by
  obtain ⟨C, hC, hx⟩ := hs.all x h0 h1
  have hscc := hs.scc C hC
  by_cases hc : clB es C = true
  ·exact ⟨C, hC, hc, fun y hy => hscc.two hx hy⟩
  ·have h2 : ¬ ∀ y, RchC es x y → y ∈ C := fun h => hc ((trap_iff hes hscc hx).2 h)
   obtain ⟨y, hy, hyC⟩ : ∃ y, RchC es x y ∧ y ∉ C := by
    by_cases h : ∃ y, RchC es x y ∧ y ∉ C
    ·exact h
    ·exact absurd (fun y hy => Classical.byContradiction fun hn => h ⟨y, hy, hn⟩) h2
   have hyr := RchC.rng (fun e he => (hes e he).2.2) hy ⟨h0, h1⟩
   have hnx : ¬ RchC es y x := fun hb => hyC (hscc.back hx hyr.1 hyr.2 hy hb)
   obtain ⟨D, hD, hd, hDr⟩ := trap_ex hes hs k y hyr.1 hyr.2 (fun L hL hr => by
    have := hk (x :: L) (List.nodup_cons.2 ⟨fun hm => hnx (hr x hm), hL⟩) (fun z hz => by
     rcases List.mem_cons.1 hz with rfl | hz
     ·exact .refl _
     ·exact hy.trans (hr z hz))
    simpa using this)
   exact ⟨D, hD, hd, fun z hz => hy.trans (hDr z hz)⟩
theorem trap_reached {es : List Ed} {n : Nat} (hes : ∀ x ∈ es, 0 ≤ x.f ∧ x.f < (n : Int) ∧ 0 ≤ x.t ∧ x.t < (n : Int)) {Cs : List (List Int)} (hs : CompSpec es n Cs) {x : Int} (h0 : 0 ≤ x) (h1 : x < (n : Int)) : ∃ C ∈ Cs, clB es C = true ∧ ∀ y ∈ C, RchC es x y :=
 trap_ex hes hs n x h0 h1 fun L hL hr => int_nodup_len hL fun y hy => RchC.rng (fun e he => (hes e he).2.2) (hr y hy) ⟨h0, h1⟩
def tStep (cl gd : List Int → Bool) (S : List (List Int) × List Int) (C : List Int) : List (List Int) × List Int :=
 if cl C = true then (S.1 ++ [C], if gd C = true then S.2 else S.2 ++ [(S.1.length : Int)]) else S
def tAll (cl gd : List Int → Bool) (Cs : List (List Int)) : List (List Int) × List Int := Cs.foldl (tStep cl gd) ([], [])
theorem tAll_snoc (cl gd : List Int → Bool) (Cs : List (List Int)) (C : List Int) : tAll cl gd (Cs ++ [C]) = tStep cl gd (tAll cl gd Cs) C := by
 unfold tAll
 rw [List.foldl_append]
 rfl
structure TInv (cl gd : List Int → Bool) (Cs : List (List Int)) (S : List (List Int) × List Int) : Prop where
 mem : ∀ C, C ∈ S.1 ↔ C ∈ Cs ∧ cl C = true
 bad : ∀ i (h : i < S.1.length), ((i : Int) ∈ S.2 ↔ gd S.1[i] = false)
 rng : ∀ b ∈ S.2, 0 ≤ b ∧ b < (S.1.length : Int)
 len : S.2.length ≤ S.1.length
 len2 : S.1.length ≤ Cs.length
theorem tAll_inv {cl gd : List Int → Bool} (Cs : List (List Int)) : ∀ k, k ≤ Cs.length → TInv cl gd (Cs.take k) (tAll cl gd (Cs.take k))
 | 0, _ => ⟨fun C => by simp [tAll], fun i h => by simp [tAll] at h, fun b hb => by simp [tAll] at hb, by simp [tAll], by simp [tAll]⟩
 | k + 1, hk => by
  have ih := tAll_inv (cl := cl) (gd := gd) Cs k (by omega)
  have hkl : k < Cs.length := hk
  rw [List.take_succ_eq_append_getElem hkl, tAll_snoc]
  generalize tAll cl gd (Cs.take k) = S at ih ⊢
  obtain ⟨T, B⟩ := S
  obtain ⟨m, b, r, l1, l2⟩ := ih
  dsimp only at m b r l1 l2
  generalize Cs[k] = C
  unfold tStep
  dsimp only
  cases hc : cl C with
  | false =>
   rw [if_neg (by simp)]
   refine ⟨fun D => ?_, b, r, l1, by simp; simp at l2; omega⟩
   dsimp only
   rw [m D, List.mem_append, List.mem_singleton]
   constructor
   ·exact fun h => ⟨.inl h.1, h.2⟩
   ·rintro ⟨h | rfl, h2⟩
    ·exact ⟨h, h2⟩
    ·rw [hc] at h2; cases h2
  | true =>
   rw [if_pos rfl]
   refine ⟨fun D => ?_, fun i hi => ?_, fun x hx => ?_, ?_, by simp; simp at l2; omega⟩
   ·dsimp only
    rw [List.mem_append, List.mem_append, m D, List.mem_singleton]
    constructor
    ·rintro (h | rfl)
     ·exact ⟨.inl h.1, h.2⟩
     ·exact ⟨.inr rfl, hc⟩
    ·rintro ⟨h | h, h2⟩
     ·exact .inl ⟨h, h2⟩
     ·exact .inr h
   ·dsimp only at hi ⊢
    rw [List.length_append, List.length_singleton] at hi
    by_cases h : i < T.length
    ·rw [List.getElem_append_left h, ← b i h]
     cases hg : gd C with
     | true => rw [if_pos rfl]
     | false =>
      rw [if_neg (by simp), List.mem_append, List.mem_singleton]
      constructor
      ·rintro (h2 | h2)
       ·exact h2
       ·omega
      ·exact .inl
    ·obtain rfl : i = T.length := by omega
     rw [List.getElem_append_right (by omega)]
     simp only [Nat.sub_self, List.getElem_cons_zero]
     cases hg : gd C with
     | true =>
      rw [if_pos rfl]
      constructor
      ·intro h2; have := r _ h2; omega
      ·intro h2; cases h2
     | false =>
      rw [if_neg (by simp)]
      exact ⟨fun _ => rfl, fun _ => List.mem_append_right _ (List.mem_singleton.2 rfl)⟩
   ·dsimp only at hx ⊢
    rw [List.length_append, List.length_singleton]
    cases hg : gd C with
    | true => rw [hg, if_pos rfl] at hx; have := r x hx; omega
    | false =>
     rw [hg, if_neg (by simp)] at hx
     rcases List.mem_append.1 hx with hx | hx
     ·have := r x hx; omega
     ·rw [List.mem_singleton.1 hx]; omega
   ·dsimp only
    rw [List.length_append, List.length_singleton]
    cases hg : gd C with
    | true => rw [if_pos rfl]; omega
    | false => rw [if_neg (by simp), List.length_append, List.length_singleton]; omega
end Go.Proofs.YtfbapajcheammaaGreatDoor

namespace Go.Proofs.YtfbapajcheammaaGreatDoor
open Go Go.RowKit
theorem comp_one {es : List Ed} {n : Nat} {Cs : List (List Int)} (hs : CompSpec es n Cs) {i j : Nat} (hi : i < Cs.length) (hj : j < Cs.length) {s : Int} (h1 : s ∈ Cs[i]) (h2 : s ∈ Cs[j]) : i = j := by
 have a1 := hs.scc _ (List.getElem_mem hi)
 have a2 := hs.scc _ (List.getElem_mem hj)
 have b1 := inc_head (hs.inc _ (List.getElem_mem hi)) h1
 have b2 := inc_head (hs.inc _ (List.getElem_mem hj)) h2
 have e : Cs[i].headD 0 = Cs[j].headD 0 := by
  have c1 : Cs[i].headD 0 ∈ Cs[j] := a2.back h2 (a1.rng _ b1.1).1 (a1.rng _ b1.1).2 (a1.two h1 b1.1) (a1.two b1.1 h1)
  have c2 : Cs[j].headD 0 ∈ Cs[i] := a1.back h1 (a2.rng _ b2.1).1 (a2.rng _ b2.1).2 (a2.two h2 b2.1) (a2.two b2.1 h2)
  have d1 := (inc_head (hs.inc _ (List.getElem_mem hi)) c2).2
  have d2 := (inc_head (hs.inc _ (List.getElem_mem hj)) c1).2
  omega
 rcases Nat.lt_trichotomy i j with h | h | h
 ·have := List.pairwise_iff_getElem.1 hs.ord i j hi hj h; omega
 ·exact h
 ·have := List.pairwise_iff_getElem.1 hs.ord j i hj hi h; omega
theorem comp_len {es : List Ed} {n : Nat} {Cs : List (List Int)} (hs : CompSpec es n Cs) : Cs.length ≤ n := by
 have h1 : (Cs.map fun C => C.headD 0).Nodup := by
  unfold List.Nodup
  rw [List.pairwise_map]
  exact hs.ord.imp fun h => by omega
 have := int_nodup_len (n := n) h1 (fun x hx => by
  obtain ⟨C, hC, rfl⟩ := List.mem_map.1 hx
  obtain ⟨t, ht⟩ := (hs.scc C hC).ne
  exact (hs.scc C hC).rng _ (inc_head (hs.inc C hC) ht).1)
 simpa using this
theorem comp_sz {es : List Ed} {n : Nat} {Cs : List (List Int)} (hs : CompSpec es n Cs) {C : List Int} (hC : C ∈ Cs) : C.length ≤ n := by
 have := inc_len (hs.inc C hC) ((hs.scc C hC).rng) (Int.le_refl _)
 omega
def ClsOk (Cs : List (List Int)) (n k : Nat) (cls : List Int) : Prop := cls.length = n ∧ ∀ j (h : j < Cs.length), j < k → ∀ s ∈ Cs[j], cls.getD s.toNat 0 = (j : Int)
theorem tget_set_self {xs : List Int} {i : Nat} {v : Int} (h : i < xs.length) : (xs.set i v).getD i 0 = v := by
 rw [List.getD_eq_getElem?_getD, List.getElem?_set_self h]; rfl
theorem tget_set_ne {xs : List Int} {i j : Nat} {v : Int} (h : i ≠ j) : (xs.set i v).getD j 0 = xs.getD j 0 := by
 rw [List.getD_eq_getElem?_getD, List.getElem?_set_ne h, List.getD_eq_getElem?_getD]
theorem class_ex {es : List Ed} {n : Nat} (hn : n ≤ 4096) {Cs : List (List Int)} (hs : CompSpec es n Cs) (e : Int) : ∃ cls, iter (m_blocking_Traps_l1 (Cs, e)) (0, List.replicate n 0) = some cls ∧ ClsOk Cs n Cs.length cls := by
 have hcl := comp_len hs
 refine iter_inv (f := m_blocking_Traps_l1 (Cs, e)) (fun i s => s.1 = (i : Int) ∧ ClsOk Cs n i s.2) (fun o => ClsOk Cs n Cs.length o) Cs.length 0 (by omega) (fun i s hi ⟨e1, g1, g2⟩ => ?_) (fun s ⟨e1, g1⟩ => ?_) (Nat.zero_le _) _ ⟨rfl, by simp, fun j _ h => absurd h (Nat.not_lt_zero _)⟩
 ·obtain ⟨k, cls⟩ := s
  dsimp only at e1 g1 g2
  subst e1
  have hCl := comp_sz hs (List.getElem_mem hi)
  obtain ⟨o, h1, h2, h3, h4⟩ := iter_inv (f := m_blocking_Traps_l5 ((i : Int), cls) Cs[i]) (fun t s => t ≤ Cs[i].length ∧ s.1 = (t : Int) ∧ s.2.length = n ∧ (∀ x ∈ Cs[i].take t, s.2.getD x.toNat 0 = (i : Int)) ∧ ∀ j (h : j < Cs.length), j < i → ∀ x ∈ Cs[j], s.2.getD x.toNat 0 = (j : Int)) (fun o => o.length = n ∧ (∀ x ∈ Cs[i], o.getD x.toNat 0 = (i : Int)) ∧ ∀ j (h : j < Cs.length), j < i → ∀ x ∈ Cs[j], o.getD x.toNat 0 = (j : Int)) Cs[i].length 0 (by omega) (fun t s ht ⟨_, e2, q1, q2, q3⟩ => by
    obtain ⟨k, c⟩ := s
    dsimp only at e2 q1 q2 q3
    subst e2
    have hr := (hs.scc _ (List.getElem_mem hi)).rng _ (List.getElem_mem ht)
    obtain ⟨u, hu⟩ : ∃ u : Nat, Cs[i][t] = (u : Int) := ⟨Cs[i][t].toNat, by omega⟩
    have hun : u < c.length := by omega
    left
    rw [m_blocking_Traps_l5]
    dsimp only
    rw [if_pos (ct_lt ht), idx_at ht, Option.bind_some, hu, idx_at hun, Option.bind_some, upd_at hun, Option.bind_some, nxt (by omega)]
    refine ⟨_, rfl, by omega, rfl, by simpa using q1, fun x hx => ?_, fun j hj hji x hx => ?_⟩
    ·dsimp only
     rw [List.take_succ_eq_append_getElem ht, List.mem_append, List.mem_singleton] at hx
     by_cases hxu : u = x.toNat
     ·rw [← hxu, tget_set_self hun]
     ·rw [tget_set_ne hxu]
      rcases hx with hx | hx
      ·exact q2 x hx
      ·rw [hx, hu] at hxu; simp at hxu
    ·dsimp only
     have hne : u ≠ x.toNat := by
      intro e3
      have hxr := (hs.scc _ (List.getElem_mem hj)).rng x hx
      have : x = Cs[i][t] := by omega
      have := comp_one hs hi hj (List.getElem_mem ht) (this ▸ hx)
      omega
     rw [tget_set_ne hne]
     exact q3 j hj hji x hx) (fun s ⟨_, e2, q1, q2, q3⟩ => by
    obtain ⟨k, c⟩ := s
    dsimp only at e2 q1 q2 q3
    subst e2
    rw [List.take_length] at q2
    refine ⟨c, ?_, q1, q2, q3⟩
    rw [m_blocking_Traps_l5]
    dsimp only
    rw [if_neg ct_ge]) (Nat.zero_le _) (0, cls) ⟨Nat.zero_le _, rfl, g1, fun x hx => by simp at hx, g2⟩
  refine .inl ⟨(((i + 1 : Nat) : Int), o), ?_, rfl, h2, fun j hj hji x hx => ?_⟩
  ·rw [m_blocking_Traps_l1]
   dsimp only
   rw [if_pos (ct_lt hi), idx_at hi, Option.bind_some, h1, Option.bind_some, nxt (by omega)]
  ·dsimp only
   by_cases e3 : j = i
   ·subst e3; exact h3 x hx
   ·exact h4 j hj (by omega) x hx
 ·obtain ⟨k, cls⟩ := s
  dsimp only at e1 g1
  subst e1
  refine ⟨cls, ?_, g1⟩
  rw [m_blocking_Traps_l1]
  dsimp only
  rw [if_neg ct_ge]
theorem cls_at {es : List Ed} {n : Nat} {Cs : List (List Int)} (hs : CompSpec es n Cs) {cls : List Int} (h : ClsOk Cs n Cs.length cls) {s : Int} (h0 : 0 ≤ s) (h1 : s < (n : Int)) : ∃ k, ∃ hk : k < Cs.length, s ∈ Cs[k] ∧ idx cls s = some (k : Int) := by
 obtain ⟨C, hC, hsC⟩ := hs.all s h0 h1
 obtain ⟨k, hk, rfl⟩ := List.getElem_of_mem hC
 refine ⟨k, hk, hsC, ?_⟩
 have h2 := h.2 k hk hk s hsC
 obtain ⟨u, rfl⟩ : ∃ u : Nat, s = (u : Int) := ⟨s.toNat, by omega⟩
 have hu : u < cls.length := by have := h.1; omega
 rw [idx_at hu]
 rw [Int.toNat_natCast, List.getD_eq_getElem?_getD, List.getElem?_eq_getElem hu] at h2
 exact congrArg some h2
theorem comp_mem_iff {es : List Ed} {n : Nat} {Cs : List (List Int)} (hs : CompSpec es n Cs) {k j : Nat} (hk : k < Cs.length) (hj : j < Cs.length) {s : Int} (h : s ∈ Cs[k]) : hasB Cs[j] s = decide (j = k) := by
 by_cases e : j = k
 ·subst e; rw [hasB_true.2 h]; simp
 ·cases hb : hasB Cs[j] s with
  | true => exact absurd (comp_one hs hj hk (hasB_true.1 hb) h) e
  | false => simp [e]
theorem open_loop {a : AutT} {n : Nat} (hR : Right a n) {Cs : List (List Int)} (hs : CompSpec (edsOf a) n Cs) {cls : List Int} (hc : ClsOk Cs n Cs.length cls) : ∃ o, iter (m_blocking_Traps_l2 a cls) (0, List.replicate Cs.length false) = some o ∧ o.length = Cs.length ∧ ∀ k (h : k < Cs.length) (h' : k < o.length), o[k] = !clB (edsOf a) Cs[k] := by
 have hl := hR.l3
 have hcl := comp_len hs
 have hnl := hR.nl
 have hel : (edsOf a).length = a.2.2.2.length := List.length_map _
 obtain ⟨o, h1, h2, h3⟩ := iter_inv (f := m_blocking_Traps_l2 a cls) (fun i s => i ≤ (edsOf a).length ∧ s.1 = (i : Int) ∧ s.2.length = Cs.length ∧ ∀ k (h : k < Cs.length) (h' : k < s.2.length), s.2[k] = ((edsOf a).take i).any fun x => hasB Cs[k] x.f && !hasB Cs[k] x.t) (fun o => o.length = Cs.length ∧ ∀ k (h : k < Cs.length) (h' : k < o.length), o[k] = (edsOf a).any fun x => hasB Cs[k] x.f && !hasB Cs[k] x.t) (edsOf a).length 0 (by omega) (fun i s hi ⟨_, e1, g1, g2⟩ => by
   obtain ⟨k, o⟩ := s
   dsimp only at e1 g1 g2
   subst e1
   have hi2 : i < a.2.2.2.length := by omega
   have hx := hR.es _ (List.getElem_mem hi2)
   have hxe : (edsOf a)[i] = toEd a.2.2.2[i] := by simp [edsOf]
   obtain ⟨k1, hk1, hm1, hi1⟩ := cls_at hs hc hx.1 hx.2.1
   obtain ⟨k2, hk2, hm2, hj2⟩ := cls_at hs hc hx.2.2.1 hx.2.2.2.1
   have hstep : ∀ k (h : k < Cs.length), (((edsOf a).take (i + 1)).any fun x => hasB Cs[k] x.f && !hasB Cs[k] x.t) = ((((edsOf a).take i).any fun x => hasB Cs[k] x.f && !hasB Cs[k] x.t) || (decide (k = k1) && !decide (k = k2))) := fun k h => by
    rw [List.take_succ_eq_append_getElem hi, List.any_append, hxe, List.any_cons, List.any_nil, Bool.or_false]
    rw [show (toEd a.2.2.2[i]).f = a.2.2.2[i].1 from rfl, show (toEd a.2.2.2[i]).t = a.2.2.2[i].2.2 from rfl, comp_mem_iff hs hk1 h hm1, comp_mem_iff hs hk2 h hm2]
   have hj3 : ∀ o', m_blocking_Traps_j3 ((i : Int), o) o' = some (.inl (((i + 1 : Nat) : Int), o')) := fun o' => by
    rw [m_blocking_Traps_j3]; dsimp only; rw [nxt (by omega)]
   have ho1 : k1 < o.length := by omega
   left
   rw [m_blocking_Traps_l2]
   dsimp only
   rw [if_pos (ct_lt hi2), idx_at hi2, Option.bind_some, hi1, Option.bind_some, hj2, Option.bind_some]
   by_cases e : k1 = k2
   ·rw [if_neg (by simp [e]), hj3]
    refine ⟨_, rfl, by omega, rfl, g1, fun k h h' => ?_⟩
    dsimp only
    rw [hstep k h, g2 k h h', e]
    cases decide (k = k2) <;> simp
   ·rw [if_pos (by simp; omega), Option.bind_some, idx_at ho1, Option.bind_some, upd_at ho1, Option.bind_some, hj3]
    refine ⟨_, rfl, by omega, rfl, by simpa using g1, fun k h h' => ?_⟩
    dsimp only
    rw [hstep k h, List.getElem_set]
    by_cases e2 : k1 = k
    ·subst e2
     rw [if_pos rfl]
     simp [e]
    ·rw [if_neg e2, g2 k h (by omega)]
     simp [Ne.symm e2]) (fun s ⟨_, e1, g1, g2⟩ => by
   obtain ⟨k, o⟩ := s
   dsimp only at e1 g1 g2
   subst e1
   rw [List.take_length] at g2
   refine ⟨o, ?_, g1, g2⟩
   rw [m_blocking_Traps_l2]
   dsimp only
   rw [hel, if_neg ct_ge]) (Nat.zero_le _) (0, List.replicate Cs.length false) ⟨Nat.zero_le _, rfl, by simp, fun k h h' => by simp⟩
 refine ⟨o, h1, h2, fun k h h' => ?_⟩
 rw [h3 k h h']
 unfold clB
 rw [List.not_all_eq_any_not]
 congr 1
 funext x
 cases hasB Cs[k] x.f <;> cases hasB Cs[k] x.t <;> rfl
theorem good_loop {a : AutT} {n : Nat} (hR : Right a n) {Cs : List (List Int)} (hs : CompSpec (edsOf a) n Cs) {cls : List Int} (hc : ClsOk Cs n Cs.length cls) : ∃ o, iter (m_blocking_Traps_l3 a cls) (0, List.replicate Cs.length false) = some o ∧ o.length = Cs.length ∧ ∀ k (h : k < Cs.length) (h' : k < o.length), o[k] = a.2.2.1.any (hasB Cs[k]) := by
 have hl := hR.l2
 have hcl := comp_len hs
 have hnl := hR.nl
 obtain ⟨o, h1, h2, h3⟩ := iter_inv (f := m_blocking_Traps_l3 a cls) (fun i s => i ≤ a.2.2.1.length ∧ s.1 = (i : Int) ∧ s.2.length = Cs.length ∧ ∀ k (h : k < Cs.length) (h' : k < s.2.length), s.2[k] = (a.2.2.1.take i).any (hasB Cs[k])) (fun o => o.length = Cs.length ∧ ∀ k (h : k < Cs.length) (h' : k < o.length), o[k] = a.2.2.1.any (hasB Cs[k])) a.2.2.1.length 0 (by omega) (fun i s hi ⟨_, e1, g1, g2⟩ => by
   obtain ⟨k, o⟩ := s
   dsimp only at e1 g1 g2
   subst e1
   have hx := hR.msr _ (List.getElem_mem hi)
   obtain ⟨k1, hk1, hm1, hi1⟩ := cls_at hs hc hx.1 hx.2
   have hstep : ∀ k (h : k < Cs.length), (a.2.2.1.take (i + 1)).any (hasB Cs[k]) = ((a.2.2.1.take i).any (hasB Cs[k]) || decide (k = k1)) := fun k h => by
    rw [List.take_succ_eq_append_getElem hi, List.any_append, List.any_cons, List.any_nil, Bool.or_false, comp_mem_iff hs hk1 h hm1]
   have ho1 : k1 < o.length := by omega
   left
   rw [m_blocking_Traps_l3]
   dsimp only
   rw [if_pos (ct_lt hi), idx_at hi, Option.bind_some, hi1, Option.bind_some, idx_at ho1, Option.bind_some, upd_at ho1, Option.bind_some, nxt (by omega)]
   refine ⟨_, rfl, by omega, rfl, by simpa using g1, fun k h h' => ?_⟩
   dsimp only
   rw [hstep k h, List.getElem_set]
   by_cases e2 : k1 = k
   ·subst e2
    rw [if_pos rfl]
    simp
   ·rw [if_neg e2, g2 k h (by omega)]
    simp [Ne.symm e2]) (fun s ⟨_, e1, g1, g2⟩ => by
   obtain ⟨k, o⟩ := s
   dsimp only at e1 g1 g2
   subst e1
   rw [List.take_length] at g2
   refine ⟨o, ?_, g1, g2⟩
   rw [m_blocking_Traps_l3]
   dsimp only
   rw [if_neg ct_ge]) (Nat.zero_le _) (0, List.replicate Cs.length false) ⟨Nat.zero_le _, rfl, by simp, fun k h h' => by simp⟩
 exact ⟨o, h1, h2, h3⟩
def gdB (ms : List Int) (C : List Int) : Bool := ms.any (hasB C)
theorem traps_ex {a : AutT} {n : Nat} (hR : Right a n) : ∃ Cs, m_reach_Components a = some (Cs, 0) ∧ CompSpec (edsOf a) n Cs ∧ m_blocking_Traps a = some ((tAll (clB (edsOf a)) (gdB a.2.2.1) Cs).1, (tAll (clB (edsOf a)) (gdB a.2.2.1) Cs).2, 0) := by
 obtain ⟨Cs, hC, hs⟩ := comp_ex hR
 have hnl := hR.nl
 have hcl := comp_len hs
 obtain ⟨cls, c1, c2⟩ := class_ex hnl hs 0
 obtain ⟨op, o1, o2, o3⟩ := open_loop hR hs c2
 obtain ⟨gd, g1, g2, g3⟩ := good_loop hR hs c2
 refine ⟨Cs, hC, hs, ?_⟩
 obtain ⟨o, h1, rfl⟩ := iter_inv (f := m_blocking_Traps_l4 (Cs, 0) op gd) (fun i s => i ≤ Cs.length ∧ s.1 = (i : Int) ∧ s.2 = ((tAll (clB (edsOf a)) (gdB a.2.2.1) (Cs.take i)).2, (tAll (clB (edsOf a)) (gdB a.2.2.1) (Cs.take i)).1)) (fun o => o = ((tAll (clB (edsOf a)) (gdB a.2.2.1) Cs).2, (tAll (clB (edsOf a)) (gdB a.2.2.1) Cs).1)) Cs.length 0 (by omega) (fun i s hi ⟨_, e1, e2⟩ => by
   obtain ⟨k, B0, T0⟩ := s
   dsimp only at e1 e2
   subst e1
   have hI := tAll_inv (cl := clB (edsOf a)) (gd := gdB a.2.2.1) Cs i (by omega)
   have hsn : tAll (clB (edsOf a)) (gdB a.2.2.1) (Cs.take (i + 1)) = tStep (clB (edsOf a)) (gdB a.2.2.1) (tAll (clB (edsOf a)) (gdB a.2.2.1) (Cs.take i)) Cs[i] := by rw [List.take_succ_eq_append_getElem hi, tAll_snoc]
   rw [hsn]
   generalize tAll (clB (edsOf a)) (gdB a.2.2.1) (Cs.take i) = S at e2 hI ⊢
   obtain ⟨T, B⟩ := S
   cases e2
   have hTl : T.length ≤ i := by have := hI.len2; simp at this; omega
   have hBl : B.length ≤ T.length := hI.len
   have hop := o3 i hi (by omega)
   have hgd := g3 i hi (by omega)
   have hj1 : ∀ b t, m_blocking_Traps_j1 ((i : Int), B, T) b t = some (.inl (((i + 1 : Nat) : Int), b, t)) := fun b t => by
    rw [m_blocking_Traps_j1]; dsimp only; rw [nxt (by omega)]
   have hj2 : ∀ x b, m_blocking_Traps_j2 ((i : Int), B, T) x b = some (.inl (((i + 1 : Nat) : Int), b, T ++ [x])) := fun x b => by
    rw [m_blocking_Traps_j2]; dsimp only; rw [app_eq (by simp; omega), Option.bind_some, hj1]
   left
   rw [m_blocking_Traps_l4]
   dsimp only
   rw [if_pos (ct_lt hi), idx_at hi, Option.bind_some, idx_at (by omega), Option.bind_some, hop]
   unfold tStep
   dsimp only
   cases hc : clB (edsOf a) Cs[i] with
   | false => rw [if_pos (by simp), if_neg (by simp), hj1]; exact ⟨_, rfl, by omega, rfl, rfl⟩
   | true =>
    rw [if_neg (by simp), if_pos rfl, idx_at (by omega), Option.bind_some, hgd]
    have hg2 : gdB a.2.2.1 Cs[i] = a.2.2.1.any (hasB Cs[i]) := rfl
    rw [hg2]
    cases a.2.2.1.any (hasB Cs[i]) with
    | true => rw [if_neg (by simp), if_pos rfl, hj2]; exact ⟨_, rfl, by omega, rfl, rfl⟩
    | false => rw [if_pos (by simp), if_neg (by simp), app_eq (by simp; omega), Option.bind_some, hj2]; exact ⟨_, rfl, by omega, rfl, rfl⟩) (fun s ⟨_, e1, e2⟩ => by
   obtain ⟨k, B, T⟩ := s
   dsimp only at e1 e2
   subst e1
   rw [List.take_length] at e2
   refine ⟨(B, T), ?_, e2⟩
   rw [m_blocking_Traps_l4]
   dsimp only
   rw [if_neg ct_ge]) (Nat.zero_le _) (0, [], []) ⟨Nat.zero_le _, rfl, rfl⟩
 rw [m_blocking_Traps, hC, Option.bind_some, if_neg (by simp), hR.nn, mkL_eq (by omega) (by omega), Option.bind_some, Int.toNat_natCast, c1, Option.bind_some]
 dsimp only
 rw [mkL_eq (by omega) (by omega), Option.bind_some, Option.bind_some, Int.toNat_natCast, o1, Option.bind_some, g1, Option.bind_some, h1]
 rfl
end Go.Proofs.YtfbapajcheammaaGreatDoor

namespace Go.Proofs.YtfbapajcheammaaGreatDoor
open Go Go.RowKit
theorem known24 : m_overseerlaw24_known = some true := by kernel_rfl
theorem known04 : m_overseerlaw04_known = some true := by kernel_rfl
theorem Known24 : m_overseerlaw24_Known = some true := by
 rw [m_overseerlaw24_Known, known24, Option.bind_some, if_pos rfl, m_overseerlaw04_Known, known04]
 rfl
theorem head_at {xs : List Int} (h : 0 < xs.length) : xs[0] = xs.headD 0 := by
 cases xs with
 | nil => simp at h
 | cons x xs => rfl
theorem inside_ex {a : AutT} {n : Nat} (hR : Right a n) {Cs : List (List Int)} (hs : CompSpec (edsOf a) n Cs) {i : Nat} (hi : i < Cs.length) (z : List Int × List (List Int)) {F : List Bool} (hF : F.length = n) {r : Nat} (hr : (r : Int) ∈ Cs[i]) (hFr : ∀ y : Nat, y < n → (F[y]? = some true ↔ Rch (edsOf a) r y)) :
  iter (m_overseerlaw24_BlockingTraps_l5 a (Cs, 0) ((i : Int), z) F) (0, false, true) = some (gdB a.2.2.1 Cs[i], clB (edsOf a) Cs[i]) := by
 have hnl := hR.nl
 have hl2 := hR.l2
 have hC := comp_sz hs (List.getElem_mem hi)
 have hes : ∀ x ∈ edsOf a, 0 ≤ x.f ∧ x.f < (n : Int) ∧ 0 ≤ x.t ∧ x.t < (n : Int) := hR.ein
 have hscc := hs.scc _ (List.getElem_mem hi)
 obtain ⟨o, h1, h2, h3⟩ := iter_inv (f := m_overseerlaw24_BlockingTraps_l5 a (Cs, 0) ((i : Int), z) F) (fun x s => s.1 = (x : Int) ∧ (s.2.2 = true ↔ ∀ y : Nat, y < x → F[y]? = some true → (y : Int) ∈ Cs[i]) ∧ (s.2.1 = true ↔ ∃ y : Nat, y < x ∧ (y : Int) ∈ Cs[i] ∧ (y : Int) ∈ a.2.2.1)) (fun o => (o.2 = true ↔ ∀ y : Nat, y < n → F[y]? = some true → (y : Int) ∈ Cs[i]) ∧ (o.1 = true ↔ ∃ y : Nat, y < n ∧ (y : Int) ∈ Cs[i] ∧ (y : Int) ∈ a.2.2.1)) n 0 (by omega) (fun x s hx ⟨e1, g1, g2⟩ => by
   obtain ⟨k, mk, ins⟩ := s
   dsimp only at e1 g1 g2
   subst e1
   have hxF : x < F.length := by omega
   have hb1 : (if ins = true then (idx F (x : Int)).bind fun x517 => (if (!x517) = true then some true else (idx Cs (i : Int)).bind fun x523 => (m_overseerlaw24_has x523 (x : Int)).bind fun r526 => some r526).bind fun b519 => some b519 else some false) = some (ins && (!F[x] || hasB Cs[i] (x : Int))) := by
    cases ins with
    | false => rfl
    | true =>
     rw [if_pos rfl, idx_at hxF, Option.bind_some]
     cases F[x] with
     | false => rfl
     | true => rw [if_neg (by simp), idx_at hi, Option.bind_some, lhas_eq (by omega), Option.bind_some]; simp
   have hb2 : (if mk = true then some true else (idx Cs (i : Int)).bind fun x503 => (m_overseerlaw24_has x503 (x : Int)).bind fun r506 => (if r506 = true then (m_overseerlaw24_has a.2.2.1 (x : Int)).bind fun r513 => some r513 else some false).bind fun b509 => some b509) = some (mk || (hasB Cs[i] (x : Int) && hasB a.2.2.1 (x : Int))) := by
    cases mk with
    | true => rfl
    | false =>
     rw [if_neg (by simp), idx_at hi, Option.bind_some, lhas_eq (by omega), Option.bind_some]
     cases hasB Cs[i] (x : Int) with
     | false => rfl
     | true => rw [if_pos rfl, lhas_eq (by omega), Option.bind_some]; simp
   left
   rw [m_overseerlaw24_BlockingTraps_l5]
   dsimp only
   rw [hR.nn, if_pos (ct_lt hx), hb1, Option.bind_some, hb2, Option.bind_some, nxt (by omega)]
   refine ⟨_, rfl, rfl, ?_, ?_⟩
   ·dsimp only
    rw [Bool.and_eq_true, g1]
    constructor
    ·rintro ⟨q1, q2⟩ y hy hFy
     by_cases e : y = x
     ·subst e
      rw [List.getElem?_eq_getElem hxF] at hFy
      rw [Option.some.inj hFy] at q2
      exact hasB_true.1 (by simpa using q2)
     ·exact q1 y (by omega) hFy
    ·intro q
     refine ⟨fun y hy => q y (by omega), ?_⟩
     cases hf : F[x] with
     | false => rfl
     | true => rw [hasB_true.2 (q x (by omega) (by rw [List.getElem?_eq_getElem hxF, hf]))]; rfl
   ·dsimp only
    rw [Bool.or_eq_true, g2, Bool.and_eq_true, hasB_true, hasB_true]
    constructor
    ·rintro (⟨y, q1, q2⟩ | q)
     ·exact ⟨y, by omega, q2⟩
     ·exact ⟨x, by omega, q⟩
    ·rintro ⟨y, q1, q2⟩
     by_cases e : y = x
     ·subst e; exact .inr q2
     ·exact .inl ⟨y, by omega, q2⟩) (fun s ⟨e1, g1, g2⟩ => by
   obtain ⟨k, mk, ins⟩ := s
   dsimp only at e1 g1 g2
   subst e1
   refine ⟨(mk, ins), ?_, g1, g2⟩
   rw [m_overseerlaw24_BlockingTraps_l5]
   dsimp only
   rw [hR.nn, if_neg ct_ge]) (Nat.zero_le _) (0, false, true) ⟨rfl, by simp, by simp⟩
 rw [h1]
 obtain ⟨mk, ins⟩ := o
 dsimp only at h2 h3
 have e1 : ins = clB (edsOf a) Cs[i] := by
  rw [Bool.eq_iff_iff, h2, trap_iff hes hscc hr]
  have hrr := hscc.rng _ hr
  constructor
  ·intro q y hy
   have hyr := RchC.rng (fun e he => (hes e he).2.2) hy hrr
   have := q y.toNat (by omega) ((hFr _ (by omega)).2 (by rw [Int.toNat_of_nonneg hyr.1]; exact rch_c.2 hy))
   rwa [Int.toNat_of_nonneg hyr.1] at this
  ·intro q y hy hFy
   exact q _ (rch_c.1 ((hFr y hy).1 hFy))
 have e2 : mk = gdB a.2.2.1 Cs[i] := by
  unfold gdB
  rw [Bool.eq_iff_iff, h3, List.any_eq_true]
  constructor
  ·rintro ⟨y, _, q1, q2⟩
   exact ⟨_, q2, hasB_true.2 q1⟩
  ·rintro ⟨y, q1, q2⟩
   have hyr := hR.msr y q1
   refine ⟨y.toNat, by omega, ?_, ?_⟩
   ·rw [Int.toNat_of_nonneg hyr.1]; exact hasB_true.1 q2
   ·rw [Int.toNat_of_nonneg hyr.1]; exact q1
 rw [e1, e2]
theorem ltraps_ex {a : AutT} {n : Nat} (hR : Right a n) {Cs : List (List Int)} (hs : CompSpec (edsOf a) n Cs) : iter (m_overseerlaw24_BlockingTraps_l1 a (Cs, 0)) (0, [], []) = some ((tAll (clB (edsOf a)) (gdB a.2.2.1) Cs).2, (tAll (clB (edsOf a)) (gdB a.2.2.1) Cs).1) := by
 have hnl := hR.nl
 have hcl := comp_len hs
 obtain ⟨o, h1, rfl⟩ := iter_inv (f := m_overseerlaw24_BlockingTraps_l1 a (Cs, 0)) (fun i s => i ≤ Cs.length ∧ s.1 = (i : Int) ∧ s.2 = ((tAll (clB (edsOf a)) (gdB a.2.2.1) (Cs.take i)).2, (tAll (clB (edsOf a)) (gdB a.2.2.1) (Cs.take i)).1)) (fun o => o = ((tAll (clB (edsOf a)) (gdB a.2.2.1) Cs).2, (tAll (clB (edsOf a)) (gdB a.2.2.1) Cs).1)) Cs.length 0 (by omega) (fun i s hi ⟨_, e1, e2⟩ => by
   obtain ⟨k, B0, T0⟩ := s
   dsimp only at e1 e2
   subst e1
   have hI := tAll_inv (cl := clB (edsOf a)) (gd := gdB a.2.2.1) Cs i (by omega)
   have hsn : tAll (clB (edsOf a)) (gdB a.2.2.1) (Cs.take (i + 1)) = tStep (clB (edsOf a)) (gdB a.2.2.1) (tAll (clB (edsOf a)) (gdB a.2.2.1) (Cs.take i)) Cs[i] := by rw [List.take_succ_eq_append_getElem hi, tAll_snoc]
   rw [hsn]
   generalize tAll (clB (edsOf a)) (gdB a.2.2.1) (Cs.take i) = S at e2 hI ⊢
   obtain ⟨T, B⟩ := S
   cases e2
   have hTl : T.length ≤ i := by have := hI.len2; simp at this; omega
   have hBl : B.length ≤ T.length := hI.len
   have hscc := hs.scc _ (List.getElem_mem hi)
   obtain ⟨t, ht⟩ := hscc.ne
   have hh := (inc_head (hs.inc _ (List.getElem_mem hi)) ht).1
   have hCl : 0 < Cs[i].length := List.length_pos_of_mem ht
   have h0 : Cs[i][0] = Cs[i].headD 0 := head_at hCl
   have hhr := hscc.rng _ hh
   obtain ⟨r, hr⟩ : ∃ r : Nat, Cs[i].headD 0 = (r : Int) := ⟨(Cs[i].headD 0).toNat, by omega⟩
   rw [hr] at h0 hh hhr
   obtain ⟨F, f1, f2, f3⟩ := from_ex hR (x := r) (by omega)
   have hj1 : ∀ t b, m_overseerlaw24_BlockingTraps_j1 ((i : Int), B, T) t b = some (.inl (((i + 1 : Nat) : Int), b, t)) := fun t b => by
    rw [m_overseerlaw24_BlockingTraps_j1]; dsimp only; rw [nxt (by omega)]
   have hj2 : ∀ g c b, m_overseerlaw24_BlockingTraps_j2 (Cs, 0) ((i : Int), B, T) (g, c) b = some (.inl (((i + 1 : Nat) : Int), b, if c = true then T ++ [Cs[i]] else T)) := fun g c b => by
    rw [m_overseerlaw24_BlockingTraps_j2]
    dsimp only
    cases c with
    | true => rw [if_pos rfl, idx_at hi, Option.bind_some, app_eq (by simp; omega), Option.bind_some, hj1, if_pos rfl]
    | false => rw [if_neg (by simp), hj1, if_neg (by simp)]
   left
   rw [m_overseerlaw24_BlockingTraps_l1]
   dsimp only
   rw [if_pos (ct_lt hi), idx_at hi, Option.bind_some, show idx Cs[i] 0 = some Cs[i][0] from idx_at (i := 0) hCl, Option.bind_some, h0, f1, Option.bind_some, inside_ex hR hs hi _ f2 hh f3, Option.bind_some]
   dsimp only
   unfold tStep
   dsimp only
   cases hc : clB (edsOf a) Cs[i] with
   | false => rw [if_neg (by simp), if_neg (by simp), hj2, if_neg (by simp)]; exact ⟨_, rfl, by omega, rfl, rfl⟩
   | true =>
    rw [if_pos (c := true = true) rfl]
    cases hg : gdB a.2.2.1 Cs[i] with
    | true => rw [if_neg (by simp), if_pos rfl, hj2, if_pos rfl]; exact ⟨_, rfl, by omega, rfl, rfl⟩
    | false => rw [if_pos (by simp), if_neg (by simp), app_eq (by simp; omega), Option.bind_some, hj2, if_pos rfl]; exact ⟨_, rfl, by omega, rfl, rfl⟩) (fun s ⟨_, e1, e2⟩ => by
   obtain ⟨k, B, T⟩ := s
   dsimp only at e1 e2
   subst e1
   rw [List.take_length] at e2
   refine ⟨(B, T), ?_, e2⟩
   rw [m_overseerlaw24_BlockingTraps_l1]
   dsimp only
   rw [if_neg ct_ge]) (Nat.zero_le _) (0, [], []) ⟨Nat.zero_le _, rfl, rfl⟩
 exact h1
theorem last_ex {T : List (List Int)} {B : List Int} {F : List Bool} {n : Nat} (hF : F.length = n) (hT : ∀ C ∈ T, ∀ y ∈ C, 0 ≤ y ∧ y < (n : Int)) (hTn : T.length ≤ 4096) (hCn : ∀ C ∈ T, C.length ≤ 4096) (hBn : B.length ≤ 4096) (e : Int) :
  ∃ w sm, iter (m_overseerlaw24_BlockingTraps_l4 (T, B, e) F) (0, false, false) = some (w, sm) ∧ ((∃ C ∈ T, ∃ y ∈ C, F[y.toNat]? = some true) → sm = true) ∧ ((∃ i, ∃ hi : i < T.length, (i : Int) ∈ B ∧ ∃ y ∈ T[i], F[y.toNat]? = some true) → w = true) := by
 obtain ⟨o, h1, h2, h3⟩ := iter_inv (f := m_overseerlaw24_BlockingTraps_l4 (T, B, e) F) (fun i s => s.1 = (i : Int) ∧ ((∃ j, ∃ hj : j < T.length, j < i ∧ ∃ y ∈ T[j], F[y.toNat]? = some true) → s.2.2 = true) ∧ ((∃ j, ∃ hj : j < T.length, j < i ∧ (j : Int) ∈ B ∧ ∃ y ∈ T[j], F[y.toNat]? = some true) → s.2.1 = true)) (fun o => ((∃ j, ∃ hj : j < T.length, j < T.length ∧ ∃ y ∈ T[j], F[y.toNat]? = some true) → o.2 = true) ∧ ((∃ j, ∃ hj : j < T.length, j < T.length ∧ (j : Int) ∈ B ∧ ∃ y ∈ T[j], F[y.toNat]? = some true) → o.1 = true)) T.length 0 (by omega) (fun i s hi ⟨e1, g1, g2⟩ => by
   obtain ⟨k, w, sm⟩ := s
   dsimp only at e1 g1 g2
   subst e1
   have hm := List.getElem_mem hi
   have hCl := hCn _ hm
   obtain ⟨b, hb, hbi⟩ := meets_ex (F := F) (ms := T[i]) (by omega) (fun y hy => by rw [hF]; exact hT _ hm y hy)
   have hb1 : (if sm = true then some true else (idx T (i : Int)).bind fun x365 => (m_overseerlaw24_meets F x365).bind fun r368 => some r368) = some (sm || b) := by
    cases sm with
    | true => rfl
    | false => rw [if_neg (by simp), idx_at hi, Option.bind_some, hb]; simp
   have hb2 : (if w = true then some true else (idx T (i : Int)).bind fun x351 => (m_overseerlaw24_meets F x351).bind fun r354 => (if r354 = true then (m_overseerlaw24_has B (i : Int)).bind fun r361 => some r361 else some false).bind fun b357 => some b357) = some (w || (b && hasB B (i : Int))) := by
    cases w with
    | true => rfl
    | false =>
     rw [if_neg (by simp), idx_at hi, Option.bind_some, hb, Option.bind_some]
     cases b with
     | false => rfl
     | true => rw [if_pos rfl, lhas_eq (by omega), Option.bind_some]; simp
   left
   rw [m_overseerlaw24_BlockingTraps_l4]
   dsimp only
   rw [if_pos (ct_lt hi), hb1, Option.bind_some, hb2, Option.bind_some, nxt (by omega)]
   refine ⟨_, rfl, rfl, ?_, ?_⟩
   ·rintro ⟨j, hj, hji, hy⟩
    dsimp only
    by_cases e2 : j = i
    ·subst e2; rw [hbi.2 hy]; simp
    ·rw [g1 ⟨j, hj, by omega, hy⟩]; rfl
   ·rintro ⟨j, hj, hji, hjB, hy⟩
    dsimp only
    by_cases e2 : j = i
    ·subst e2; rw [hbi.2 hy, hasB_true.2 hjB]; simp
    ·rw [g2 ⟨j, hj, by omega, hjB, hy⟩]; rfl) (fun s ⟨e1, g1, g2⟩ => by
   obtain ⟨k, w, sm⟩ := s
   dsimp only at e1 g1 g2
   subst e1
   refine ⟨(w, sm), ?_, g1, g2⟩
   rw [m_overseerlaw24_BlockingTraps_l4]
   dsimp only
   rw [if_neg ct_ge]) (Nat.zero_le _) (0, false, false) ⟨rfl, by rintro ⟨j, _, h, _⟩; omega, by rintro ⟨j, _, h, _⟩; omega⟩
 refine ⟨o.1, o.2, h1, fun ⟨C, hC, hy⟩ => ?_, fun ⟨i, hi, hB, hy⟩ => h3 ⟨i, hi, hi, hB, hy⟩⟩
 obtain ⟨j, hj, rfl⟩ := List.getElem_of_mem hC
 exact h2 ⟨j, hj, hj, hy⟩
theorem ltraps_law {d : DesT} (h0 : 0 ≤ d.1) : m_overseerlaw24_BlockingTraps d = some true := by
 obtain ⟨a, n, e1, n1, n6, hR, ha, hl⟩ := make_ex h0
 obtain ⟨Cs, hC, hs, hT⟩ := traps_ex hR
 have hlt := ltraps_ex hR hs
 have hes : ∀ x ∈ edsOf a, 0 ≤ x.f ∧ x.f < (n : Int) ∧ 0 ≤ x.t ∧ x.t < (n : Int) := hR.ein
 have hcl := comp_len hs
 have hI := tAll_inv (cl := clB (edsOf a)) (gd := gdB a.2.2.1) Cs Cs.length (Nat.le_refl _)
 rw [List.take_length] at hI
 generalize tAll (clB (edsOf a)) (gdB a.2.2.1) Cs = S at hT hlt hI
 obtain ⟨T, B⟩ := S
 dsimp only at hT hlt
 have hTl : T.length ≤ Cs.length := hI.len2
 have hBl : B.length ≤ T.length := hI.len
 have hTm : ∀ C ∈ T, C ∈ Cs := fun C h => ((hI.mem C).1 h).1
 have hTs : ∀ C ∈ T, C.length ≤ n := fun C h => comp_sz hs (hTm C h)
 obtain ⟨o1, l1, rfl⟩ := iter_inv (f := m_overseerlaw24_BlockingTraps_l2 (T, B, 0) (B, T)) (fun i s => s = (i : Int)) (fun o => o = .inl ()) T.length 0 (by omega) (fun i s hi e2 => by
   subst e2
   have := hTs _ (List.getElem_mem hi)
   refine .inl ⟨((i + 1 : Nat) : Int), ?_, rfl⟩
   rw [m_overseerlaw24_BlockingTraps_l2]
   dsimp only
   rw [if_pos (ct_lt hi), idx_at hi, Option.bind_some, Option.bind_some, same_refl (by omega), Option.bind_some, if_neg (by simp), nxt (by omega)]) (fun s e2 => by
   subst e2
   refine ⟨_, ?_, rfl⟩
   rw [m_overseerlaw24_BlockingTraps_l2]
   dsimp only
   rw [if_neg ct_ge]) (Nat.zero_le _) 0 rfl
 obtain ⟨o2, l2, rfl⟩ := iter_inv (f := m_overseerlaw24_BlockingTraps_l3 a (T, B, 0)) (fun i s => s = (i : Int)) (fun o => o = .inl ()) n 0 (by omega) (fun x s hx e2 => by
   subst e2
   obtain ⟨F, f1, f2, f3⟩ := from_ex hR hx
   obtain ⟨w, sm, g1, g2, g3⟩ := last_ex (T := T) (B := B) f2 (fun C hC y hy => (hs.scc C (hTm C hC)).rng y hy) (by omega) (fun C hC => by have := hTs C hC; omega) (by omega) 0
   obtain ⟨D, hD, hd, hDr⟩ := trap_reached hes hs (x := (x : Int)) (by omega) (by omega)
   have hDT : D ∈ T := (hI.mem D).2 ⟨hD, hd⟩
   have hmeet : ∃ y ∈ D, F[y.toNat]? = some true := by
    obtain ⟨t, ht⟩ := (hs.scc D hD).ne
    have htr := (hs.scc D hD).rng t ht
    exact ⟨t, ht, (f3 t.toNat (by omega)).2 (by rw [Int.toNat_of_nonneg htr.1]; exact rch_c.2 (hDr t ht))⟩
   have hsm := g2 ⟨D, hDT, hmeet⟩
   obtain ⟨kd, k1, k2⟩ := kind_ex hR hx
   refine .inl ⟨((x + 1 : Nat) : Int), ?_, rfl⟩
   rw [m_overseerlaw24_BlockingTraps_l3, hR.nn, if_pos (ct_lt hx), f1, Option.bind_some, g1, Option.bind_some]
   dsimp only
   rw [hsm, if_neg (by simp), k1, Option.bind_some, Option.bind_some]
   have hfin : (decide (kd ≥ 3) && !w) = false := by
    by_cases h3 : kd ≥ 3
    ·have hk5 : 3 ≤ kd ∧ kd ≤ 5 := by
      rcases k2 with ⟨rfl, _⟩ | ⟨rfl, _⟩ | ⟨rfl, _⟩ | ⟨rfl, _⟩ | ⟨rfl, _⟩ <;> omega
     have hno := noM_iff.1 (k2.block.1 hk5)
     obtain ⟨j, hj, hjD⟩ := List.getElem_of_mem hDT
     have hgd : gdB a.2.2.1 D = false := by
      cases hg : gdB a.2.2.1 D with
      | false => rfl
      | true =>
       obtain ⟨m, hm, hmD⟩ := List.any_eq_true.1 hg
       exact absurd (rch_c.2 (hDr m (hasB_true.1 hmD))) (hno m hm)
     have hjB := (hI.bad j hj).2 (by rw [hjD]; exact hgd)
     rw [g3 ⟨j, hj, hjB, by rw [hjD]; exact hmeet⟩]
     simp
    ·simp [h3]
   rw [hfin, if_neg (by simp), nxt (by omega)]) (fun s e2 => by
   subst e2
   refine ⟨_, ?_, rfl⟩
   rw [m_overseerlaw24_BlockingTraps_l3, hR.nn, if_neg ct_ge]) (Nat.zero_le _) 0 rfl
 rw [m_overseerlaw24_BlockingTraps, Known24, Option.bind_some, if_neg (by simp), e1, Option.bind_some, hT, Option.bind_some, hC, Option.bind_some, if_neg (by simp), hlt, Option.bind_some]
 dsimp only
 rw [if_neg (by simp), same_refl (by omega), Option.bind_some, Option.bind_some, if_neg (by simp), l1, Option.bind_some]
 dsimp only
 rw [l2]
 rfl
end Go.Proofs.YtfbapajcheammaaGreatDoor

namespace Go.Proofs.YtfbapajcheammaaGreatDoor
open Go Go.ChangeShapes Go.WideShapes Go.ChangeAt Go.RowKit

theorem blockingTraps_lifted (os : Os) (started : os.Started) (H : Type) (enc : TypeId × Value → H) :
  ReturnsInHanded {} Tryz.checked os 5 .any (fun w args => (Rows.blockingTrapsSpec.pre enc Tryz.prog Tryz.f5 [] false w args ∧ laidMetH Tryz.prog lay24 w) ∧ sizedMet enc Tryz.prog Tryz.f5 (OpenSpec.ofChange Rows.blockingTrapsSpec) false w args) (Rows.blockingTrapsSpec.post enc Tryz.prog Tryz.f5 false true false false) := by
 refine returnsInHanded_of_change_and (C := Tryz.checked) (X := fun w _ => laidMetH Tryz.prog lay24 w) (fun _ _ _ hh h => h.of_heap hh) Tryz.own started (by kernel_rfl) Tryz.func5
  (ChangeSpec.witness_shaped (enc := enc) (C := Tryz.checked) (os := os) (X := fun w _ => laidMetH Tryz.prog lay24 w) false (World.laidAll Tryz.prog os lay24) #[.agg #[.int .u8 0, .int .u8 0, .int .u8 0, .int .u8 0, .int .u8 0, .int .u8 0, .int .u8 0, .int .u8 0, .int .u8 0, .int .u8 0, .int .u8 0, .int .u8 0, .int .u8 0, .int .u8 0, .int .u8 0, .int .u8 0, .int .u8 0, .int .u8 0, .int .u8 0, .int .u8 0, .int .u8 0, .int .u8 0, .int .u8 0, .int .u8 0, .int .u8 0, .int .u8 0]] 8 (World.laidAll_os _ _ _) (World.shaped_of_ZipB (by kernel_rfl) (by kernel_rfl)) (by kernel_rfl) (by kernel_rfl) (by kernel_rfl) (lay24_met os _)) ?_
 intro W base args ds gs before hval0 hW _ _ _ _
 have hval : ∀ (j : Nat) t v, Tryz.f5.params[j]? = some t → args[j]? = some v → Value.okWide Tryz.prog W .any base t v := hval0
 have hW' := hW
 obtain ⟨p, q, hA0, hV, rfl, hfz, hnd⟩ := hW
 have hA : DataW.TrodAll enc Tryz.prog W 0 (fun _ => true) true Tryz.f5.params.toList args.toList ds p := hA0
 rw [Tryz.params5] at hA hval
 obtain ⟨v0, d0, rfl, rfl, h0⟩ := trodAll_one hA
 obtain ⟨x, hx, rfl⟩ := arg_small (hval 0 25 v0 rfl rfl)
 obtain ⟨rfl, rfl⟩ := trodVars_none hV
 clear hA0 hval0
 refine (m_overseerlaw24_BlockingTraps_c (s := ⟨W, fun _ => 0⟩) (ltraps_law hx)).mono fun e W' ⟨v, s', hw, he, hm, hv⟩ => ?_
 subst hw
 subst he
 subst hv
 have hbl := hm.below
 exact ⟨_, rfl, law_post Tryz.laidOut hW' rfl (by kernel_rfl) (by kernel_rfl) Tryz.underlying4 rfl rfl rfl hbl⟩

theorem blockingTraps_holds : Rows.BlockingTrapsSaid :=
 OpenClaim.holds_of_wide 5 Tryz.f5 rfl rfl rfl rfl rfl rfl rfl ⟨rfl, rfl, rfl, rfl, rfl⟩ rfl rfl rfl rfl rfl (by kernel_rfl) Tryz.func5 (by kernel_rfl)
  (of_decide_eq_true (by kernel_rfl)) (by unfold Func.isWrapper; first | (rw [if_pos (by decide +kernel)]; kernel_rfl) | (rw [if_neg (by decide +kernel)]; exact ⟨rfl, rfl⟩))
  (fun os started H enc _ => blockingTraps_lifted os started H enc)
theorem blockingTraps_card_holds : Rows.BlockingTrapsCardSaid :=
 Claim7.holds_tied_plain_at .later [] [.data, .data, .data] true _ false
  blockingTraps_holds (fun _ h => by cases h) (by kernel_rfl) (fun _ h => by cases h) blockingTraps_row_tie rfl ⟨rfl, rfl⟩ (by kernel_rfl) rfl
  (fun f fn hf hfn => by
   obtain rfl : f = 5 := Option.some.inj ((show Tryz.prog.funcNamed "overseer/overseerlaw24.BlockingTraps" = some 5 by kernel_rfl).symm.trans hf) |>.symm
   obtain rfl : fn = Tryz.f5 := (Option.some.inj (Tryz.func5.symm.trans hfn)).symm
   exact ⟨by kernel_rfl, fun j t ht => by
    have hm : t ∈ Tryz.f5.params := Array.mem_of_getElem? ht
    have hall : (Tryz.f5.params.toList.all fun u => !(Tryz.prog.wantsStandIn u)) = true := by kernel_rfl
    exact (show Tryz.prog.wantsStandIn t = false by simpa using List.all_eq_true.1 hall t (Array.mem_toList_iff.2 hm))⟩)
  (by kernel_rfl)
end Go.Proofs.YtfbapajcheammaaGreatDoor
