/- ScanChoices returns true for all arguments, and leaves its arguments as they were. The condition: three tables of Go's library (math/bits, internal/strconv) hold what their source text lays, and the card ties this to the text. -/
import Derived.Deep.Slices
import Derived.ChangeSame
import Derived.ProofKit
import Derived.Test.YtidakgbibobbdaaGreatDoorRows
import Derived.Test.YtidakgbibobbdaaGreatDoorTie
import Derived.Test.YtidakgbibobbdaaGreatDoorCards
import Derived.Test.YtidakgbibobbdaaGreatDoorProg
import Derived.Lay
import Derived.LaidMore
import Derived.LaidHandle
import Derived.SevenTiedAt
import Derived.Stop.Joined
import Derived.Test.YtidakgbibobbdaaGreatDoorQc6
set_option maxRecDepth 100000
namespace Go.Proofs.YtidakgbibobbdaaGreatDoor
open Go Go.RowKit
theorem y6u {S R : Type} {f : S → Option (S ⊕ (Unit ⊕ R))} (mk : Int → S) (n : Nat) (hn : n ≤ 4000000) (b : Nat → Bool) (r : Nat → R) (step : ∀ i, i < n → f (mk (i : Int)) = if b i = true then some (.inr (.inr (r i))) else some (.inl (mk ((i + 1 : Nat) : Int)))) (last : f (mk (n : Int)) = some (.inr (.inl ()))) :
  ∃ o, iter f (mk 0) = some o ∧ ((o = .inl () ∧ ∀ i, i < n → b i = false) ∨ ∃ i, i < n ∧ o = .inr (r i) ∧ b i = true ∧ ∀ j, j < i → b j = false) := by
 refine yh (f := f) (fun i s => s = mk (i : Int) ∧ ∀ j, j < i → b j = false) _ n 0 (by omega) (fun i s hi ⟨e1, g1⟩ => ?_) (fun s ⟨e1, g1⟩ => ?_) (Nat.zero_le _) (mk 0) ⟨rfl, fun j hj => absurd hj (by omega)⟩
 ·subst e1
  rw [step i hi]
  cases hb : b i with
  | true => exact .inr ⟨_, rfl, .inr ⟨i, hi, rfl, hb, g1⟩⟩
  | false =>
   refine .inl ⟨_, by rw [if_neg (by simp)], rfl, fun j hj => ?_⟩
   by_cases e : j = i
   ·rw [e]; exact hb
   ·exact g1 j (by omega)
 ·subst e1
  exact ⟨_, last, .inl ⟨rfl, g1⟩⟩
theorem y9m (p : Int) : ∃ ev, yG p = some ev ∧ Inc ev ∧ (∀ x ∈ ev, 0 ≤ x ∧ x < 5) ∧ ev.length ≤ 5 := by
 obtain ⟨o, h1, h2⟩ := yh (f := y1k p) (fun i s => s.1 = (i : Int) ∧ Inc s.2 ∧ (∀ x ∈ s.2, 0 ≤ x ∧ x < (i : Int)) ∧ s.2.length ≤ i) (fun o => Inc o ∧ (∀ x ∈ o, 0 ≤ x ∧ x < 5) ∧ o.length ≤ 5) 5 0 (by omega) (fun i s hi ⟨e1, e2, e3, e4⟩ => by
   obtain ⟨s1, s2⟩ := s
   dsimp only at e1 e2 e3 e4
   subst e1
   have hj : ∀ l : List Int, yJ ((i : Int), s2) l = some (.inl (((i + 1 : Nat) : Int), l)) := fun l => by
    rw [yJ]; dsimp only; rw [nxt (by omega)]
   left
   rw [y1k]
   dsimp only
   rw [if_pos (by simp; omega), show ng (i : Int) = some () from if_neg (by omega), yOb]
   split
   ·rw [yN (by simp; omega), yOb, hj]
    refine ⟨_, rfl, rfl, ?_, fun x hx => ?_, by simp; omega⟩
    ·unfold Inc at e2 ⊢
     rw [List.pairwise_append]
     exact ⟨e2, List.pairwise_singleton .., fun a ha b hb => by rw [List.mem_singleton.1 hb]; exact (e3 a ha).2⟩
    ·dsimp only at hx
     rcases List.mem_append.1 hx with h | h
     ·have := e3 x h; omega
     ·rw [List.mem_singleton.1 h]; omega
   ·rw [hj]
    exact ⟨_, rfl, rfl, e2, fun x hx => by have := e3 x hx; omega, by dsimp only; omega⟩) (fun s ⟨e1, e2, e3, e4⟩ => by
   obtain ⟨s1, s2⟩ := s
   dsimp only at e1 e2 e3 e4
   subst e1
   refine ⟨s2, ?_, e2, e3, e4⟩
   rw [y1k]
   dsimp only
   rw [if_neg (by simp)]) (by omega) (0, []) ⟨rfl, List.Pairwise.nil, fun x hx => (by cases hx), by simp⟩
 exact ⟨o, by rw [yG, h1]; rfl, h2⟩
theorem yat {xs : List Int} (h : xs.length ≤ 1000000) : y1t xs = some (xs, 0, [], []) := by
 rw [y1t, yN (by simp; omega)]; rfl
theorem ybU {xs : List Int} {x : Int} (hl : xs.length ≤ 1000000) : y2G xs x = some (hasB xs x) := by
 obtain ⟨o, h1, h2⟩ := y6u (f := y2J xs x) (fun i => i) xs.length (by omega) (fun i => xs[i]? == some x) (fun _ => ()) (fun i hi => by
  rw [y2J]
  rw [if_pos (ct_lt hi), yc hi, yOb, nxt (by omega), yGe hi]
  by_cases e : xs[i] = x
  ·rw [if_pos (by simpa using e), if_pos (by simpa using e)]
  ·rw [if_neg (by simpa using e), if_neg (by simpa using e)]) (by
  rw [y2J]
  rw [if_neg ct_ge])
 rw [y2G, h1, yOb]
 rcases h2 with ⟨rfl, h3⟩ | ⟨i, hi, rfl, h3, h4⟩
 ·have : hasB xs x = false := by
   rw [← Bool.not_eq_true, ya]
   intro hm
   obtain ⟨k, hk, e⟩ := List.getElem_of_mem hm
   have := h3 k hk
   rw [yGe hk, e] at this
   simp at this
  rw [this]
 ·have : hasB xs x = true := by
   rw [ya]
   rw [yGe hi] at h3
   have h3 : xs[i] = x := by simpa using h3
   exact h3 ▸ List.getElem_mem hi
  rw [this]
theorem yde {xs : List Int} {x : Int} (hl : xs.length ≤ 1000000) (hm : x ∈ xs) : ∃ k : Nat, y2T xs x = some (k : Int) ∧ xs[k]? = some x := by
 obtain ⟨o, h1, h2⟩ := y6u (f := y2m xs x) (fun i => i) xs.length (by omega) (fun i => xs[i]? == some x) (fun i => (i : Int)) (fun i hi => by
  rw [y2m]
  rw [if_pos (ct_lt hi), yc hi, yOb, nxt (by omega), yGe hi]
  by_cases e : xs[i] = x
  ·rw [if_pos (by simpa using e), if_pos (by simpa using e)]
  ·rw [if_neg (by simpa using e), if_neg (by simpa using e)]) (by
  rw [y2m]
  rw [if_neg ct_ge])
 rw [y2T, h1, yOb]
 rcases h2 with ⟨rfl, h3⟩ | ⟨i, hi, rfl, h3, h4⟩
 ·exfalso
  obtain ⟨k, hk, e⟩ := List.getElem_of_mem hm
  have := h3 k hk
  rw [yGe hk, e] at this
  simp at this
 ·exact ⟨i, rfl, by simpa using h3⟩
theorem y8g {a : AutT} {s e : Int} (h : ∀ x ∈ a.2.2.2, ¬ (x.1 = s ∧ x.2.1 = e)) : st1 a s e = none := by
 unfold st1
 rw [Option.map_eq_none_iff, List.find?_eq_none]
 intro x hx
 have := h x hx
 simpa using this
theorem yba {a : AutT} {n : Nat} (hr : Right a n) (s e : Int) : y2v a s e = some ((st1 a s e).getD (-1)) := by
 have hl := hr.l3
 obtain ⟨o, h1, h2⟩ := y6u (f := y2x a s e) (fun i => i) a.2.2.2.length (by omega) (fun i => match a.2.2.2[i]? with | some x => x.1 == s && x.2.1 == e | none => false) (fun i => (a.2.2.2.getD i (0, 0, 0)).2.2) (fun i hi => by
  rw [y2x]
  rw [if_pos (ct_lt hi), yc hi, yOb, nxt (by omega), yGe hi, List.getD_eq_getElem?_getD, yGe hi]
  dsimp only [Option.getD_some]
  by_cases e1 : a.2.2.2[i].1 = s
  ·rw [if_pos (by simpa using e1), yOb, yOb, yOb]
   by_cases e2 : a.2.2.2[i].2.1 = e
   ·rw [if_pos (by simpa using e2), if_pos (by simp [e1, e2])]
   ·rw [if_neg (by simpa using e2), if_neg (by simp [e2])]
  ·rw [if_neg (by simpa using e1), yOb, if_neg (by simp), if_neg (by simp [e1])]) (by
  rw [y2x]
  rw [if_neg ct_ge])
 rw [y2v, h1, yOb]
 rcases h2 with ⟨rfl, h3⟩ | ⟨i, hi, rfl, h3, h4⟩
 ·rw [y8g fun x hx hxx => ?_]
  ·rfl
  ·obtain ⟨k, hk, e'⟩ := List.getElem_of_mem hx
   have := h3 k hk
   rw [yGe hk, e'] at this
   simp [hxx.1, hxx.2] at this
 ·rw [yGe hi] at h3
  have h3 : a.2.2.2[i].1 = s ∧ a.2.2.2[i].2.1 = e := by simpa using h3
  have : st1 a s e = some a.2.2.2[i].2.2 := by
   rw [y4m hr, ← h3.1, ← h3.2]
   exact List.getElem_mem hi
  rw [this, List.getD_eq_getElem?_getD, yGe hi]
  rfl
section
variable {a : AutT} {n : Nat}
theorem ye0 (hr : Right a n) (hal : a.1.length ≤ 32) {i : Nat} {y : List Int} {X : List Int} {kn : List (Int × Int)} {E : List (Int × Int × Int)} (hS : SR (st1 a) a.1 n i 0 X kn E) (hi : i < X.length) :
  ∃ kn' X' E', iter (y1v a ((i : Int), y)) (0, X) = some X' ∧ SR (st1 a) a.1 n (i + 1) 0 X' kn' E' ∧ ∃ U, X' = X ++ U := by
 have hnl := hr.nl
 obtain ⟨o, h1, kn', E', hS', hU⟩ := yh (f := y1v a ((i : Int), y)) (fun j s => s.1 = (j : Int) ∧ ∃ kn E, SR (st1 a) a.1 n i j s.2 kn E ∧ ∃ U, s.2 = X ++ U) (fun o => ∃ kn E, SR (st1 a) a.1 n (i + 1) 0 o kn E ∧ ∃ U, o = X ++ U) a.1.length 0 (by omega) (fun j s hj ⟨e1, kn1, E1, hS1, U, hU⟩ => by
   obtain ⟨c, X1⟩ := s
   dsimp only at e1 hS1 hU
   subst e1
   have hX1 := hS1.len
   have hi1 : i < X1.length := by rw [hU, List.length_append]; omega
   have hj2 : ∀ l : List Int, y1u ((j : Int), X1) l = some (.inl (((j + 1 : Nat) : Int), l)) := fun l => by
    rw [y1u]; dsimp only; rw [nxt (by omega)]
   left
   rw [y1v]
   dsimp only
   rw [if_pos (ct_lt hj), yc hi1, yOb, yc hj, yOb, yba hr, yOb]
   cases hst : st1 a X1[i] a.1[j] with
   | none =>
    rw [Option.getD_none, if_neg (by simp), yOb, if_neg (by simp), hj2]
    exact ⟨_, rfl, rfl, kn1, E1, hS1.skip (yGe hi1) (yGe hj) hst, U, hU⟩
   | some t =>
    have ht := y5Q hr hst
    rw [Option.getD_some, if_pos (by simp; omega), ybU (by omega), yOb, yOb]
    by_cases hm : t ∈ X1
    ·obtain ⟨q, hq⟩ := List.getElem?_of_mem hm
     rw [ya.2 hm, if_neg (by simp), hj2]
     exact ⟨_, rfl, rfl, kn1, _, hS1.edge hr.ali hj (yGe hi1) hst hq, U, hU⟩
    ·have hb : hasB X1 t = false := by rw [← Bool.not_eq_true, ya]; exact hm
     rw [hb, if_pos (by simp), yN (by simp; omega), yOb, hj2]
     have hk : kget kn1 t = none := by
      cases hk : kget kn1 t with
      | none => rfl
      | some v =>
       obtain ⟨q, _, hq⟩ := hS1.k1 _ _ hk
       exact absurd (List.mem_of_getElem? hq) hm
     exact ⟨_, rfl, rfl, _, _, hS1.new hr.ali hj (yGe hi1) hst hk ht.2.2.1 ht.2.2.2.1, U ++ [t], by dsimp only; rw [hU, List.append_assoc]⟩) (fun s ⟨e1, kn1, E1, hS1, hU⟩ => by
   obtain ⟨c, X1⟩ := s
   dsimp only at e1 hS1 hU
   subst e1
   rw [y1v]
   dsimp only
   rw [if_neg ct_ge]
   exact ⟨_, rfl, kn1, E1, hS1.next (Nat.le_refl _) hal, hU⟩) (Nat.zero_le _) (0, X) ⟨rfl, kn, E, hS, [], (List.append_nil _).symm⟩
 exact ⟨kn', o, E', h1, hS', hU⟩
theorem ye1 (hr : Right a n) (h0 : 0 < n) : ∃ X kn E, y2S a = some X ∧ SR (st1 a) a.1 n X.length 0 X kn E ∧ X[0]? = some 0 := by
 have hnl := hr.nl
 have hal : a.1.length ≤ 32 := Alp.len ⟨hr.ali, hr.alr⟩
 have hS0 : SR (st1 a) a.1 n 0 0 [0] (kput [] 0 0) [] := by
  refine ⟨Fnd.start (by simp), fun s v hv => ?_, fun s hs => ?_, by simp, fun s hs => ?_, List.Pairwise.nil, fun x hx => (by cases hx), fun x hx => (by cases hx), by simp⟩
  ·rw [y2D] at hv
   split at hv
   ·rename_i e
    subst e
    cases hv
    exact ⟨0, rfl, rfl⟩
   ·cases hv
  ·rw [List.mem_singleton.1 hs, y2D, if_pos rfl]
   rfl
  ·rw [List.mem_singleton.1 hs]
   omega
 obtain ⟨o, h1, kn, E, h2, h3⟩ := yh (f := y1w a) (fun i s => s.1 = (i : Int) ∧ i ≤ s.2.length ∧ ∃ kn E, SR (st1 a) a.1 n i 0 s.2 kn E ∧ s.2[0]? = some 0) (fun o => ∃ kn E, SR (st1 a) a.1 n o.length 0 o kn E ∧ o[0]? = some 0) n 0 (by omega) (fun i s hi ⟨e1, hle, kn, E, hS, x0⟩ => by
   obtain ⟨c, X⟩ := s
   dsimp only at e1 hle hS x0
   subst e1
   have hXl := hS.len
   rw [y1w]
   dsimp only
   by_cases hix : i < X.length
   ·left
    obtain ⟨kn', X', E', w1, w2, U, hU⟩ := ye0 hr hal (y := X) hS hix
    rw [if_pos (ct_lt hix), w1, yOb, nxt (by omega)]
    exact ⟨_, rfl, rfl, by dsimp only; rw [hU, List.length_append]; omega, kn', E', w2, by dsimp only; rw [hU, List.getElem?_append_left (by omega)]; exact x0⟩
   ·right
    obtain rfl : i = X.length := by omega
    rw [if_neg ct_ge]
    exact ⟨_, rfl, kn, E, hS, x0⟩) (fun s ⟨e1, hle, kn, E, hS, x0⟩ => by
   obtain ⟨c, X⟩ := s
   dsimp only at e1 hle hS x0
   subst e1
   have hXl := hS.len
   have hX : n = X.length := by omega
   rw [y1w]
   dsimp only
   rw [if_neg (by simp; omega)]
   exact ⟨_, rfl, kn, E, by rw [← hX]; exact hX ▸ hS, x0⟩) (Nat.zero_le _) (0, [0]) ⟨rfl, by simp, kput [] 0 0, [], hS0, rfl⟩
 refine ⟨o, kn, E, ?_, h2, h3⟩
 rw [y2S, if_pos (by rw [hr.nn]; simp; omega), yN (by simp), yOb, y2l, show iter (y1w a) (0, ([] : List Int) ++ [0]) = some o from h1]
 rfl
structure EL (st : Int → Int → Option Int) (al X : List Int) (i j : Nat) (E : List (Int × Int × Int)) : Prop where
 so : E.Pairwise fun x y => x.1 < y.1 ∨ (x.1 = y.1 ∧ x.2.1 < y.2.1)
 ei : ∀ x ∈ E, x.1 < (i : Int) ∨ (x.1 = (i : Int) ∧ ∃ b, ∃ hb : b < al.length, b < j ∧ al[b] = x.2.1)
 sn : ∀ x ∈ E, ∃ (a q : Nat) (t r : Int), x.1 = (a : Int) ∧ x.2.2 = (q : Int) ∧ X[a]? = some t ∧ X[q]? = some r ∧ x.2.1 ∈ al ∧ st t x.2.1 = some r
 ed : ∀ (a b : Nat) (t e r : Int), (a < i ∨ (a = i ∧ b < j)) → X[a]? = some t → al[b]? = some e → st t e = some r → ∃ q : Nat, ((a : Int), e, (q : Int)) ∈ E ∧ X[q]? = some r
 el : E.length ≤ 32 * i + j
theorem EL.skip {st : Int → Int → Option Int} {al X : List Int} {i j : Nat} {E : List (Int × Int × Int)} (h : EL st al X i j E) {s e : Int} (ht : X[i]? = some s) (he : al[j]? = some e) (hs : st s e = none) : EL st al X i (j + 1) E := by
 refine ⟨h.so, fun x hx => ?_, h.sn, fun a b t' e' r hab ha hb hst => ?_, by have := h.el; omega⟩
 ·rcases h.ei x hx with h1 | ⟨h1, b, hb, h2, h3⟩
  ·exact .inl h1
  ·exact .inr ⟨h1, b, hb, by omega, h3⟩
 ·by_cases hx : a = i ∧ b = j
  ·obtain ⟨rfl, rfl⟩ := hx
   rw [ht] at ha
   rw [he] at hb
   cases ha
   cases hb
   rw [hs] at hst
   cases hst
  ·exact h.ed a b t' e' r (by omega) ha hb hst
theorem EL.edge {st : Int → Int → Option Int} {al X : List Int} {i j : Nat} {E : List (Int × Int × Int)} (h : EL st al X i j E) (ia : Inc al) (hj : j < al.length) {s v : Int} {q : Nat} (ht : X[i]? = some s) (hs : st s al[j] = some v) (hq : X[q]? = some v) : EL st al X i (j + 1) (E ++ [((i : Int), al[j], (q : Int))]) := by
 refine ⟨?_, fun x hx => ?_, fun x hx => ?_, fun a b t' e' r hab ha hb hst => ?_, by have := h.el; rw [List.length_append, List.length_singleton]; omega⟩
 ·rw [List.pairwise_append]
  refine ⟨h.so, List.pairwise_singleton _ _, fun x hx y hy => ?_⟩
  rw [List.mem_singleton.1 hy]
  rcases h.ei x hx with h1 | ⟨h1, b, hb, h2, h3⟩
  ·exact .inl h1
  ·refine .inr ⟨h1, ?_⟩
   rw [← h3]
   exact List.pairwise_iff_getElem.1 ia b j hb hj h2
 ·rcases List.mem_append.1 hx with hx | hx
  ·rcases h.ei x hx with h1 | ⟨h1, b, hb, h2, h3⟩
   ·exact .inl h1
   ·exact .inr ⟨h1, b, hb, by omega, h3⟩
  ·rw [List.mem_singleton.1 hx]
   exact .inr ⟨rfl, j, hj, by omega, rfl⟩
 ·rcases List.mem_append.1 hx with hx | hx
  ·exact h.sn x hx
  ·rw [List.mem_singleton.1 hx]
   exact ⟨i, q, s, v, rfl, rfl, ht, hq, List.getElem_mem hj, hs⟩
 ·by_cases hx : a = i ∧ b = j
  ·obtain ⟨rfl, rfl⟩ := hx
   rw [ht] at ha
   rw [yGe hj] at hb
   cases ha
   cases hb
   rw [hs] at hst
   cases hst
   exact ⟨q, List.mem_append_right _ (List.mem_singleton.2 rfl), hq⟩
  ·obtain ⟨q', g1, g2⟩ := h.ed a b t' e' r (by omega) ha hb hst
   exact ⟨q', List.mem_append_left _ g1, g2⟩
theorem EL.next {st : Int → Int → Option Int} {al X : List Int} {i j : Nat} {E : List (Int × Int × Int)} (h : EL st al X i j E) (hj : al.length ≤ j) (hj2 : j ≤ 32) : EL st al X (i + 1) 0 E :=
 ⟨h.so, fun x hx => by
  rcases h.ei x hx with h1 | ⟨h1, _⟩
  ·exact .inl (by omega)
  ·exact .inl (by omega), h.sn, fun a b t e r hab ha hb hst => h.ed a b t e r (by have := (List.getElem?_eq_some_iff.1 hb).1; omega) ha hb hst, by have := h.el; omega⟩
theorem ydf (hr : Right a n) (hal : a.1.length ≤ 32) {X : List Int} {kn : List (Int × Int)} {E0 : List (Int × Int × Int)} (hS : SR (st1 a) a.1 n X.length 0 X kn E0) {i : Nat} (hi : i < X.length) {ms : List Int} {y E : List (Int × Int × Int)} (hE : EL (st1 a) a.1 X i 0 E) :
  ∃ E', iter (yQ a X ((i : Int), ms, y)) (0, E) = some E' ∧ EL (st1 a) a.1 X (i + 1) 0 E' := by
 have hnl := hr.nl
 have hXl := hS.len
 refine yh (f := yQ a X ((i : Int), ms, y)) (fun j s => s.1 = (j : Int) ∧ EL (st1 a) a.1 X i j s.2) (fun o => EL (st1 a) a.1 X (i + 1) 0 o) a.1.length 0 (by omega) (fun j s hj ⟨e1, hE1⟩ => ?_) (fun s ⟨e1, hE1⟩ => ?_) (Nat.zero_le _) (0, E) ⟨rfl, hE⟩
 ·obtain ⟨c, E1⟩ := s
  dsimp only at e1 hE1
  subst e1
  have hel := hE1.el
  have hj2 : ∀ l : List (Int × Int × Int), yP ((j : Int), E1) l = some (.inl (((j + 1 : Nat) : Int), l)) := fun l => by
   rw [yP]; dsimp only; rw [nxt (by omega)]
  left
  rw [yQ]
  dsimp only
  rw [if_pos (ct_lt hj), yc hi, yOb, yc hj, yOb, yba hr, yOb]
  cases hst : st1 a X[i] a.1[j] with
  | none =>
   rw [Option.getD_none, if_neg (by simp), hj2]
   exact ⟨_, rfl, rfl, hE1.skip (yGe hi) (yGe hj) hst⟩
  | some t =>
   have ht := y5Q hr hst
   obtain ⟨q, _, hq⟩ := hS.f.ed i j X[i] a.1[j] t (.inl hi) (yGe hi) (yGe hj) hst
   obtain ⟨k, hk, hk2⟩ := yde (xs := X) (x := t) (by omega) (List.mem_of_getElem? hq)
   rw [Option.getD_some, if_pos (by simp; omega), yOb, hk, yOb, yN (by simp; omega), yOb, hj2]
   exact ⟨_, rfl, rfl, hE1.edge hr.ali hj (yGe hi) hst hk2⟩
 ·obtain ⟨c, E1⟩ := s
  dsimp only at e1 hE1
  subst e1
  rw [yQ]
  dsimp only
  rw [if_neg ct_ge]
  exact ⟨_, rfl, hE1.next (Nat.le_refl _) hal⟩
theorem ydg (hr : Right a n) (h0 : 0 < n) : ∃ r X, y1Z a = some r ∧ CanOf (st1 a) a.1 a.2.2.1 r X ∧ 0 < X.length ∧ X.length ≤ n := by
 have hnl := hr.nl
 have hl1 := hr.l1
 have hl2 := hr.l2
 have hal : a.1.length ≤ 32 := Alp.len ⟨hr.ali, hr.alr⟩
 obtain ⟨X, kn, E0, hf, hS, x0⟩ := ye1 hr h0
 have hXl := hS.len
 have hX0 : 0 < X.length := (List.getElem?_eq_some_iff.1 x0).1
 obtain ⟨o, h1, hE, m1, m2, mk⟩ := yh (f := y1x a X) (fun i s => s.1 = (i : Int) ∧ i ≤ X.length ∧ EL (st1 a) a.1 X i 0 s.2.2 ∧ Inc s.2.1 ∧ (∀ x ∈ s.2.1, 0 ≤ x ∧ x < (i : Int)) ∧ ∀ (c : Nat) (x : Int), c < i → X[c]? = some x → ((c : Int) ∈ s.2.1 ↔ x ∈ a.2.2.1))
   (fun o => EL (st1 a) a.1 X X.length 0 o.2 ∧ Inc o.1 ∧ (∀ x ∈ o.1, 0 ≤ x ∧ x < (X.length : Int)) ∧ ∀ (c : Nat) (x : Int), X[c]? = some x → ((c : Int) ∈ o.1 ↔ x ∈ a.2.2.1)) X.length 0 (by omega) (fun i s hi ⟨e1, _, hE, m1, m2, mk⟩ => by
   obtain ⟨c, M, E⟩ := s
   dsimp only at e1 hE m1 m2 mk
   subst e1
   have hMl := y2X (n := i) (lo := 0) m1 m2 (Int.le_refl _)
   have hj1 : ∀ M' : List Int, Inc M' → (∀ x ∈ M', 0 ≤ x ∧ x < ((i + 1 : Nat) : Int)) → (∀ x : Int, x ≠ (i : Int) → (x ∈ M' ↔ x ∈ M)) → ((i : Int) ∈ M' ↔ X[i] ∈ a.2.2.1) →
     ∃ s', yR a X ((i : Int), M, E) M' = some (.inl s') ∧ s'.1 = ((i + 1 : Nat) : Int) ∧ i + 1 ≤ X.length ∧ EL (st1 a) a.1 X (i + 1) 0 s'.2.2 ∧ Inc s'.2.1 ∧ (∀ x ∈ s'.2.1, 0 ≤ x ∧ x < ((i + 1 : Nat) : Int)) ∧ ∀ (c : Nat) (x : Int), c < i + 1 → X[c]? = some x → ((c : Int) ∈ s'.2.1 ↔ x ∈ a.2.2.1) := fun M' q1 q2 q3 q4 => by
    obtain ⟨E', w1, w2⟩ := ydf hr hal hS hi (ms := M) (y := E) hE
    rw [yR]
    dsimp only
    rw [w1, yOb, nxt (by omega)]
    refine ⟨_, rfl, rfl, hi, w2, q1, q2, fun c x hc hx => ?_⟩
    dsimp only
    by_cases e : c = i
    ·subst e
     rw [yGe hi] at hx
     cases hx
     exact q4
    ·rw [q3 _ (by omega)]
     exact mk c x (by omega) hx
   left
   rw [y1x]
   dsimp only
   rw [if_pos (ct_lt hi), yc hi, yOb, ybU (by omega), yOb]
   cases hm : hasB a.2.2.1 X[i] with
   | true =>
    rw [if_pos rfl, yN (by simp; omega), yOb]
    refine hj1 _ ?_ (fun x hx => ?_) (fun x hx => ?_) ⟨fun _ => ya.1 hm, fun _ => List.mem_append_right _ (List.mem_singleton.2 rfl)⟩
    ·unfold Inc at m1 ⊢
     rw [List.pairwise_append]
     exact ⟨m1, List.pairwise_singleton _ _, fun c hc b hb => by rw [List.mem_singleton.1 hb]; exact (m2 c hc).2⟩
    ·rcases List.mem_append.1 hx with hx | hx
     ·have := m2 x hx; omega
     ·rw [List.mem_singleton.1 hx]; omega
    ·rw [List.mem_append, List.mem_singleton]
     exact ⟨fun h => h.resolve_right hx, .inl⟩
   | false =>
    rw [if_neg (by simp)]
    refine hj1 M m1 (fun x hx => by have := m2 x hx; omega) (fun x _ => Iff.rfl) ⟨fun hx => by have := m2 _ hx; omega, fun hx => ?_⟩
    rw [ya.2 hx] at hm
    cases hm) (fun s ⟨e1, _, hE, m1, m2, mk⟩ => by
   obtain ⟨c, M, E⟩ := s
   dsimp only at e1 hE m1 m2 mk
   subst e1
   rw [y1x]
   dsimp only
   rw [if_neg ct_ge]
   exact ⟨_, rfl, hE, m1, m2, fun c x hx => mk c x (List.getElem?_eq_some_iff.1 hx).1 hx⟩) (Nat.zero_le _) (0, [], []) ⟨rfl, Nat.zero_le _, ⟨List.Pairwise.nil, fun x hx => (by cases hx), fun x hx => (by cases hx), fun a b t e r hab => by omega, by simp⟩, List.Pairwise.nil, fun x hx => (by cases hx), fun c x hc => absurd hc (Nat.not_lt_zero _)⟩
 obtain ⟨M, E⟩ := o
 dsimp only at hE m1 m2 mk
 have hMl := y2X (n := X.length) (lo := 0) m1 m2 (Int.le_refl _)
 have hD := hS.f.disc hS.nd hS.so hS.ea hr.alr
 have hEE : E = E0 := y5c (lt := fun x y => x.1 < y.1 ∨ (x.1 = y.1 ∧ x.2.1 < y.2.1)) (fun a b h1 h2 => by omega) hE.so hD.so fun x => by
  have same : ∀ {a q q' : Nat} {t r r' : Int}, X[a]? = some t → X[q]? = some r → X[q']? = some r → q = q' := fun {a q q' t r r'} _ h1 h2 => by
   have e1 := (List.getElem?_eq_some_iff.1 h1).2
   have e2 := (List.getElem?_eq_some_iff.1 h2).2
   exact (List.getElem_inj hS.nd).1 (e1.trans e2.symm)
  constructor
  ·intro hx
   obtain ⟨c, q, t, r, g1, g2, g3, g4, g5, g6⟩ := hE.sn x hx
   obtain ⟨q', k1, k2⟩ := hD.ed c t x.2.1 r g3 g5 g6
   have := same (r' := r) g3 g4 k2
   subst this
   rw [← g1, ← g2] at k1
   exact k1
  ·intro hx
   obtain ⟨c, q, t, r, g1, g2, g3, g4, g5, g6⟩ := hD.sn x hx
   obtain ⟨b, hb, hbe⟩ := List.getElem_of_mem g5
   obtain ⟨q', k1, k2⟩ := hE.ed c b t x.2.1 r (.inl (List.getElem?_eq_some_iff.1 g3).1) g3 (by rw [yGe hb, hbe]) g6
   have := same (r' := r) g3 g4 k2
   subst this
   rw [← g1, ← g2] at k1
   exact k1
 subst hEE
 have hEl := hE.el
 refine ⟨(a.1, (X.length : Int), M, E), X, ?_, ⟨⟨rfl, by omega, hr.ali, hr.alr, m1, m2, fun x hx => ?_, hE.so, hl1, by dsimp only; omega, by dsimp only; omega⟩, rfl, fun _ => x0, hD, mk⟩, hX0, hXl⟩
 ·rw [y1Z, hf, yOb, yat (by omega), yOb, h1]
  rfl
 ·obtain ⟨c, q, t, r, g1, g2, g3, g4, g5, _⟩ := hE.sn x hx
  have e3 := (List.getElem?_eq_some_iff.1 g3).1
  have e4 := (List.getElem?_eq_some_iff.1 g4).1
  exact ⟨by omega, by omega, by omega, by omega, g5⟩
end
abbrev Row5 := Int × Int × Int × Int × Int
def y8Q (g : Row5 × Row5 × Row5 × Row5 × Row5) : List Int :=
 [g.1.1, g.1.2.1, g.1.2.2.1, g.1.2.2.2.1, g.1.2.2.2.2, g.2.1.1, g.2.1.2.1, g.2.1.2.2.1, g.2.1.2.2.2.1, g.2.1.2.2.2.2, g.2.2.1.1, g.2.2.1.2.1, g.2.2.1.2.2.1, g.2.2.1.2.2.2.1, g.2.2.1.2.2.2.2, g.2.2.2.1.1, g.2.2.2.1.2.1, g.2.2.2.1.2.2.1, g.2.2.2.1.2.2.2.1, g.2.2.2.1.2.2.2.2, g.2.2.2.2.1, g.2.2.2.2.2.1, g.2.2.2.2.2.2.1, g.2.2.2.2.2.2.2.1, g.2.2.2.2.2.2.2.2]
structure GrIn (g : y1M) : Prop where
 s : 0 ≤ g.1 ∧ g.1 < 256
 c : ∀ y ∈ y8Q g.2.2, 0 ≤ y ∧ y < 256
structure MG (ev : List Int) (n i j : Nat) (E : List (Int × Int × Int)) : Prop where
 er : ∀ x ∈ E, 0 ≤ x.1 ∧ x.1 ≤ (i : Int) ∧ x.2.1 ∈ ev ∧ 0 ≤ x.2.2 ∧ x.2.2 < (n : Int)
 es : ∀ x ∈ E, x.1 = (i : Int) → ∃ b, ∃ hb : b < ev.length, b < j ∧ ev[b] = x.2.1
 so : E.Pairwise fun x y => x.1 < y.1 ∨ (x.1 = y.1 ∧ x.2.1 < y.2.1)
 el : E.length ≤ 5 * i + j
theorem MG.push {ev : List Int} {n i j : Nat} {E : List (Int × Int × Int)} {q : Int} (h : MG ev n i j E) (ie : Inc ev) (hj : j < ev.length) (h0 : 0 ≤ q) (h1 : q < (n : Int)) : MG ev n i (j + 1) (E ++ [((i : Int), ev[j], q)]) := by
 refine ⟨fun x hx => ?_, fun x hx e => ?_, ?_, by have := h.el; rw [List.length_append, List.length_singleton]; omega⟩
 ·rcases List.mem_append.1 hx with hx | hx
  ·exact h.er x hx
  ·rw [List.mem_singleton.1 hx]; exact ⟨by dsimp only; omega, by dsimp only; omega, List.getElem_mem hj, h0, h1⟩
 ·rcases List.mem_append.1 hx with hx | hx
  ·obtain ⟨b, hb, h2, h3⟩ := h.es x hx e
   exact ⟨b, hb, by omega, h3⟩
  ·rw [List.mem_singleton.1 hx]; exact ⟨j, hj, by omega, rfl⟩
 ·rw [List.pairwise_append]
  refine ⟨h.so, List.pairwise_singleton _ _, fun a ha b hb => ?_⟩
  rw [List.mem_singleton.1 hb]
  have h2 := h.er a ha
  by_cases e : a.1 = (i : Int)
  ·obtain ⟨b, hb, h3, h4⟩ := h.es a ha e
   refine .inr ⟨e, ?_⟩
   rw [← h4]
   exact List.pairwise_iff_getElem.1 ie b j hb hj h3
  ·exact .inl (by dsimp only; omega)
theorem MG.skip {ev : List Int} {n i j : Nat} {E : List (Int × Int × Int)} (h : MG ev n i j E) : MG ev n i (j + 1) E := ⟨h.er, fun x hx e => by
 obtain ⟨b, hb, h2, h3⟩ := h.es x hx e
 exact ⟨b, hb, by omega, h3⟩, h.so, by have := h.el; omega⟩
theorem MG.next {ev : List Int} {n i j : Nat} {E : List (Int × Int × Int)} (h : MG ev n i j E) (hj : j ≤ 5) : MG ev n (i + 1) 0 E := ⟨fun x hx => by
 have := h.er x hx
 exact ⟨this.1, by omega, this.2.2⟩, fun x hx e => by have := h.er x hx; omega, h.so, by have := h.el; omega⟩
theorem ybb {ev : List Int} (ie : Inc ev) (he : ∀ x ∈ ev, 0 ≤ x ∧ x < 32) (hel : ev.length ≤ 5) {g : y1M} (hg : GrIn g) : ∃ r n, y2w ev g = some r ∧ Right r n ∧ n ≤ 5 ∧ r.1 = ev := by
 obtain ⟨s, m, c⟩ := g
 obtain ⟨hs, hc⟩ := hg
 dsimp only at hs hc
 rw [y2w, yat (by omega)]
 dsimp only
 by_cases h250 : s ≥ 250
 ·rw [if_pos (by simpa using h250), yOb]
  exact ⟨_, 0, rfl, ⟨rfl, by omega, ie, he, List.Pairwise.nil, fun x hx => (by cases hx), fun x hx => (by cases hx), List.Pairwise.nil, by dsimp only; omega, by simp, by simp⟩, by omega, rfl⟩
 rw [if_neg (by simpa using h250), yOb]
 obtain ⟨n, hn0, hn5, hn⟩ : ∃ n : Nat, 0 < n ∧ n ≤ 5 ∧ W (1 + W (s.tmod 5)) = (n : Int) := by
  refine ⟨(1 + s % 5).toNat, by omega, by omega, ?_⟩
  rw [Int.tmod_eq_emod_of_nonneg hs.1, W_of (x := s % 5) (by omega) (by omega), W_of (by omega) (by omega)]
  omega
 have hn2 : W ((n : Int) + 2) = ((n + 2 : Nat) : Int) := by rw [show (n : Int) + 2 = ((n + 2 : Nat) : Int) by omega, W_nat (by omega)]
 rw [hn]
 obtain ⟨o, h1, m1, m2, hM⟩ := yh (f := y2z ev (s, m, c)) (fun i t => t.1 = (i : Int) ∧ Inc t.2.1 ∧ (∀ x ∈ t.2.1, 0 ≤ x ∧ x < (i : Int)) ∧ MG ev n i 0 t.2.2) (fun o => Inc o.1 ∧ (∀ x ∈ o.1, 0 ≤ x ∧ x < (n : Int)) ∧ MG ev n n 0 o.2) n 0 (by omega) (fun i t hi ⟨e1, m1, m2, hM⟩ => by
   obtain ⟨t1, t2, t3⟩ := t
   dsimp only at e1 m1 m2 hM
   subst e1
   have hMl := y2X (n := i) (lo := 0) m1 m2 (Int.le_refl _)
   have hj : ∀ l : List Int, Inc l → (∀ x ∈ l, 0 ≤ x ∧ x < ((i + 1 : Nat) : Int)) → ∃ s', y1I ev (s, m, c) ((i : Int), t2, t3) l = some (.inl s') ∧ s'.1 = ((i + 1 : Nat) : Int) ∧ Inc s'.2.1 ∧ (∀ x ∈ s'.2.1, 0 ≤ x ∧ x < ((i + 1 : Nat) : Int)) ∧ MG ev n (i + 1) 0 s'.2.2 := by
    intro l hl1 hl2
    obtain ⟨o, h1, h2⟩ := yh (f := y2y ev (s, m, c) ((i : Int), t2, t3)) (fun k t => t.1 = (k : Int) ∧ MG ev n i k t.2) (fun o => MG ev n i ev.length o) ev.length 0 (by omega) (fun k t hk ⟨g1, g2⟩ => by
      obtain ⟨u1, u2⟩ := t
      dsimp only at g1 g2
      subst g1
      have hel2 := g2.el
      have hj2 : ∀ l : List (Int × Int × Int), y1H ((k : Int), u2) l = some (.inl (((k + 1 : Nat) : Int), l)) := fun l => by
       rw [y1H]; dsimp only; rw [nxt (by omega)]
      left
      have hlt : i * 5 + k * 1 < (y8Q c).length := by show _ < 25; omega
      obtain ⟨v, hcell, hv⟩ : ∃ v, (y8Q c)[i * 5 + k * 1]? = some v ∧ 0 ≤ v ∧ v < 256 := ⟨_, yGe hlt, hc _ (List.getElem_mem hlt)⟩
      rw [y8Q] at hcell
      rw [y2y]
      dsimp only
      rw [if_pos (by simp; omega), show rng (i : Int) 5 = some () from if_pos (by simp; omega), yOb, show rng (k : Int) 5 = some () from if_pos (by simp; omega), yOb, Int.toNat_natCast, Int.toNat_natCast, hcell, yOb, hn, hn2, show nz ((n + 2 : Nat) : Int) = some () from if_neg (by omega), yOb, W_of (x := v) (by omega) (by omega), Int.tmod_eq_emod_of_nonneg hv.1]
      have hm0 := Int.emod_nonneg v (show ((n + 2 : Nat) : Int) ≠ 0 by omega)
      by_cases hlt2 : v % ((n + 2 : Nat) : Int) < (n : Int)
      ·rw [if_pos (decide_eq_true hlt2), yc hk, yOb, yN (by rw [List.length_cons, List.length_nil]; omega), yOb, hj2]
       exact ⟨_, rfl, rfl, g2.push ie hk hm0 hlt2⟩
      ·rw [if_neg (by simpa using hlt2), hj2]
       exact ⟨_, rfl, rfl, g2.skip⟩) (fun t ⟨g1, g2⟩ => by
      obtain ⟨u1, u2⟩ := t
      dsimp only at g1 g2
      subst g1
      rw [y2y]
      dsimp only
      rw [if_neg (by simp)]
      exact ⟨_, rfl, g2⟩) (Nat.zero_le _) (0, t3) ⟨rfl, hM⟩
    rw [y1I]
    dsimp only
    rw [h1, yOb, nxt (by omega)]
    exact ⟨_, rfl, rfl, hl1, hl2, h2.next hel⟩
   left
   rw [y2z]
   dsimp only
   rw [hn, if_pos (by simp; omega), show ng (i : Int) = some () from if_neg (by omega), yOb]
   split
   ·rw [yN (by simp; omega), yOb]
    refine hj _ ?_ (fun x hx => ?_)
    ·unfold Inc at m1 ⊢
     rw [List.pairwise_append]
     exact ⟨m1, List.pairwise_singleton _ _, fun c hc b hb => by rw [List.mem_singleton.1 hb]; exact (m2 c hc).2⟩
    ·rcases List.mem_append.1 hx with hx | hx
     ·have := m2 x hx; omega
     ·rw [List.mem_singleton.1 hx]; omega
   ·exact hj _ m1 (fun x hx => by have := m2 x hx; omega)) (fun t ⟨e1, m1, m2, hM⟩ => by
   obtain ⟨t1, t2, t3⟩ := t
   dsimp only at e1 m1 m2 hM
   subst e1
   rw [y2z]
   dsimp only
   rw [hn, if_neg (by simp)]
   exact ⟨_, rfl, m1, m2, hM⟩) (Nat.zero_le _) (0, [], []) ⟨rfl, List.Pairwise.nil, fun x hx => (by cases hx), ⟨fun x hx => (by cases hx), fun x hx => (by cases hx), List.Pairwise.nil, by simp⟩⟩
 obtain ⟨M, E⟩ := o
 dsimp only at m1 m2 hM
 have hMl := y2X (n := n) (lo := 0) m1 m2 (Int.le_refl _)
 have hel2 := hM.el
 have hR : Right (ev, (n : Int), M, E) n := ⟨rfl, by omega, ie, he, m1, m2, fun x hx => by
  have h := hM.er x hx
  refine ⟨h.1, ?_, h.2.2.2.1, h.2.2.2.2, h.2.2.1⟩
  by_cases e : x.1 = (n : Int)
  ·obtain ⟨b, _, hb, _⟩ := hM.es x hx e
   omega
  ·omega, hM.so, by dsimp only; omega, by dsimp only; omega, by dsimp only; omega⟩
 obtain ⟨r, X, hc1, hc2, hc3, hc4⟩ := ydg hR hn0
 rw [h1, yOb, hc1, yOb]
 exact ⟨r, X.length, rfl, hc2.right, by omega, hc2.ale⟩
structure PbOk (q : ProbT) (n1 n2 : Nat) : Prop where
 rP : Right q.1 n1
 rS : Right q.2.1 n2
 l1 : n1 ≤ 40
 l2 : n2 ≤ 40
 sub : ∀ x ∈ q.2.1.1, x ∈ q.1.1
 iu : Inc q.2.2
 ur : ∀ x ∈ q.2.2, 0 ≤ x ∧ x < 32
theorem PbOk.open {q : ProbT} {n1 n2 : Nat} (h : PbOk q n1 n2) : ∃ t p T n1 n2 n, y4f q = some (some t, 0) ∧ TaskOk q t p T n1 n2 n ∧ yi [q.1, q.2.1] = some (p, T, 0) := by
 have hu := Alp.len ⟨h.iu, h.ur⟩
 refine yd9 ⟨h.rP.l1, h.rP.l2, h.rP.l3, h.rS.l1, h.rS.l2, h.rS.l3, by omega⟩ ?_ (by rw [h.rP.nn]; have := h.l1; omega) (by rw [h.rS.nn]; have := h.l2; omega)
 have hm : mg (fun a b => a && !b) q.2.1.1 q.1.1 = [] := List.eq_nil_iff_forall_not_mem.2 fun x hx => by
  rw [(y2Z (fun a b => a && !b) q.2.1.1 q.1.1 h.rS.ali h.rP.ali).2] at hx
  obtain ⟨_, h2⟩ := hx
  rw [Bool.and_eq_true, ya] at h2
  have := ya.2 (h.sub x h2.1)
  rw [this] at h2
  simp at h2
 unfold errP
 rw [h.rP.err, h.rS.err, hm, if_neg (by simp), if_neg (by simp), if_neg (by simp)]
 exact y5A h.iu h.ur (fun q hq => by cases hq)
abbrev PartT := Int × y1M
abbrev Des26 := PartT × PartT × Int
structure Des26In (d : Des26) : Prop where
 g1 : GrIn d.1.2
 g2 : GrIn d.2.1.2
theorem ydh {d : Des26} (hd : Des26In d) : ∃ q n1 n2, y3f d = some q ∧ PbOk q n1 n2 ∧ n1 ≤ 5 ∧ n2 ≤ 5 ∧ ∀ x ∈ q.1.1, 0 ≤ x ∧ x < 5 := by
 obtain ⟨e1, a1, i1, r1, z1⟩ := y9m d.1.1
 obtain ⟨P, n1, b1, R1, s1, t1⟩ := ybb i1 (fun x hx => by have := r1 x hx; omega) z1 hd.g1
 obtain ⟨e2, a2, i2, r2, z2⟩ := y9m d.2.1.1
 have hsp := y2Z (fun a b => a && b) e2 P.1 i2 R1.ali
 have hmem : ∀ x, x ∈ mg (fun a b => a && b) e2 P.1 → x ∈ e2 ∧ x ∈ P.1 := fun x hx => by
  have := (hsp.2 x).1 hx
  simp only [Bool.and_eq_true] at this
  exact ⟨ya.1 this.2.1, ya.1 this.2.2⟩
 have hl := y2X (n := 5) (lo := 0) hsp.1 (fun x hx => r2 x (hmem x hx).1) (Int.le_refl _)
 obtain ⟨S, n2, b2, R2, s2, t2⟩ := ybb hsp.1 (fun x hx => by have := r2 x (hmem x hx).1; omega) (by omega) hd.g2
 obtain ⟨e3, a3, i3, r3, z3⟩ := y9m d.2.2
 refine ⟨(P, S, e3), n1, n2, ?_, ⟨R1, R2, by omega, by omega, fun x hx => ?_, i3, fun x hx => by have := r3 x hx; omega⟩, s1, s2, fun x hx => ?_⟩
 ·rw [y3f, a1, yOb, b1, yOb, a2, yOb, yar (by omega) R1.l1, yOb, b2, yOb, a3]
  rfl
 ·dsimp only at hx
  rw [t2] at hx
  exact (hmem x hx).2
 ·dsimp only at hx
  rw [t1] at hx
  exact r1 x hx
theorem ydi {d : Des26} (hd : Des26In d) : ∃ q n1 n2, y3g d false = some q ∧ PbOk q n1 n2 ∧ n1 ≤ 5 ∧ n2 ≤ 5 ∧ ∀ x ∈ q.1.1, 0 ≤ x ∧ x < 5 := by
 obtain ⟨q, n1, n2, h1, h2⟩ := ydh hd
 exact ⟨q, n1, n2, by rw [y3g, h1, yOb]; rfl, h2⟩
theorem ycg {P S : AutT} {n1 n2 : Nat} (hP : Right P n1) (hS : Right S n2) {x y : Int} (x0 : 0 ≤ x) (x1 : x < (n1 : Int)) (y0 : 0 ≤ y) (y1 : y < (n2 : Int)) : y3h [P, S] [x, y] = some 0 := by
 have h1 : iter (y1K [P, S] [x, y]) 0 = some (.inl ()) := by
  refine y3y (n := 3) (by omega) ?_
  rw [yb, y1K, if_pos (by simp), show idx [P, S] 0 = some P from rfl, yOb, show idx [x, y] 0 = some x from rfl, yOb, if_neg (by simp; omega), yOb, y1J, if_neg (by rw [hP.nn]; simp; omega)]
  dsimp only
  rw [show W (0 + 1) = 1 from rfl, yb, y1K, if_pos (by simp), show idx [P, S] 1 = some S from rfl, yOb, show idx [x, y] 1 = some y from rfl, yOb, if_neg (by simp; omega), yOb, y1J, if_neg (by rw [hS.nn]; simp; omega)]
  dsimp only
  rw [show W (1 + 1) = 2 from rfl, yb, y1K, if_neg (by simp)]
 rw [y3h, yaq hP hS, yOb, if_neg (by simp), if_neg (by simp), h1]
 rfl
theorem ydj {P S : AutT} {n1 n2 : Nat} (hP : Right P n1) (hS : Right S n2) {x y : Int} (x0 : 0 ≤ x) (x1 : x < (n1 : Int)) (y0 : 0 ≤ y) (y1 : y < (n2 : Int)) (e : Int) :
  y3x [P, S] [x, y] e = some (if hasB (mg (fun a b => a || b) P.1 S.1) e = true then (match pst P S x y e with
   | some u => ([u.1, u.2], true, 0)
   | none => ([], false, 0)) else (([], false, 9) : List Int × Bool × Int)) := by
 have aP : Alp P.1 := ⟨hP.ali, hP.alr⟩
 have aS : Alp S.1 := ⟨hS.ali, hS.alr⟩
 have hsp := y2Z (fun a b => a || b) P.1 S.1 hP.ali hS.ali
 have hal : Alp (mg (fun a b => a || b) P.1 S.1) := ⟨hsp.1, fun z hz => by
  rcases ((hsp.2 z).1 hz).1 with h | h
  ·exact hP.alr z h
  ·exact hS.alr z h⟩
 have hl := hal.len
 obtain ⟨o1, o2, ho, g1, g2⟩ := y9k hP hS
 rw [y3x, y4d, ycg hP hS x0 x1 y0 y1, yOb, if_neg (by simp), y9F aP aS, yOb, y2K (by omega) hsp.1, yOb]
 cases hb : hasB (mg (fun a b => a || b) P.1 S.1) e with
 | false => rw [if_pos (by simp), yOb, if_pos (by simp), if_neg (by simp)]
 | true =>
  rw [if_neg (by simp), yOb, if_neg (by simp), ho, yOb, ybQ hP hS g1 g2, yOb, if_pos rfl]
  cases pst P S x y e <;> rfl
section
variable {q : ProbT} {t : TaskT} {p : AutT} {T : List (List Int)} {n1 n2 n : Nat}
theorem TaskOk.evP (h : TaskOk q t p T n1 n2 n) (e : Int) : e ∈ p.1 ↔ e ∈ q.1.1 := by
 rw [h.loop.ev]
 exact ⟨fun h' => h'.elim id (h.sub e), .inl⟩
theorem TaskOk.pairIn (h : TaskOk q t p T n1 n2 n) {k : Nat} {x y : Int} (hk : T[k]? = some [x, y]) : 0 ≤ x ∧ x < (n1 : Int) ∧ 0 ≤ y ∧ y < (n2 : Int) := by
 obtain ⟨x', y', e, h1⟩ := h.pair (List.getElem?_eq_some_iff.1 hk).1
 rw [hk] at e
 cases e
 exact h1
theorem TaskOk.step (h : TaskOk q t p T n1 n2 n) {k : Nat} {x y : Int} (hk : T[k]? = some [x, y]) {e : Int} (he : e ∈ q.1.1) :
  (st1 p (k : Int) e = none ∧ y3x [q.1, q.2.1] [x, y] e = some ([], false, 0)) ∨ ∃ (j : Nat) (x' y' : Int), st1 p (k : Int) e = some (j : Int) ∧ T[j]? = some [x', y'] ∧ pst q.1 q.2.1 x y e = some (x', y') ∧ y3x [q.1, q.2.1] [x, y] e = some ([x', y'], true, 0) := by
 have hin := h.pairIn hk
 have hep : e ∈ p.1 := (h.evP e).2 he
 have hsp := y2Z (fun a b => a || b) q.1.1 q.2.1.1 h.rP.ali h.rS.ali
 have hb : hasB (mg (fun a b => a || b) q.1.1 q.2.1.1) e = true := ya.2 ((hsp.2 e).2 ⟨.inl he, by rw [ya.2 he]; rfl⟩)
 have hs := ydj h.rP h.rS hin.1 hin.2.1 hin.2.2.1 hin.2.2.2 e
 rw [if_pos hb] at hs
 cases hp : pst q.1 q.2.1 x y e with
 | none =>
  rw [hp] at hs
  exact .inl ⟨h.loop.no k x y e hk hep hp, hs⟩
 | some u =>
  rw [hp] at hs
  obtain ⟨j, g1, g2⟩ := h.loop.yes k x y e u.1 u.2 hk hep hp
  exact .inr ⟨j, u.1, u.2, g1, g2, rfl, hs⟩
theorem yau (h : TaskOk q t p T n1 n2 n) {k : Nat} {x y : Int} (hk : T[k]? = some [x, y]) {l : List Int} (hl : l.length ≤ 1000000) (hla : ∀ e ∈ l, e ∈ q.1.1) : y1b q [x, y] l = some (chz p l (k : Int)) := by
 obtain ⟨o, h1, h2⟩ := y6u (f := y2a q [x, y] l) (fun i => i) l.length (by omega) (fun i => (st1 p (k : Int) (l.getD i 0)).isSome) (fun i => l.getD i 0) (fun i hi => by
  have hm := hla _ (List.getElem_mem hi)
  rw [y2a, if_pos (ct_lt hi), yc hi, yOb, nxt (by omega), List.getD_eq_getElem?_getD, yGe hi, Option.getD_some]
  rcases h.step hk hm with ⟨g1, g2⟩ | ⟨j, x', y', g1, _, _, g2⟩
  ·rw [g2, yOb, g1, if_neg (by simp), if_neg (by simp)]
  ·rw [g2, yOb, g1, if_pos rfl, yOb, if_pos (by rfl)]) (by
  rw [y2a, if_neg ct_ge])
 rw [y1b, h1, yOb, chz]
 rcases h2 with ⟨rfl, h3⟩ | ⟨i, hi, rfl, h3, h4⟩
 ·rw [List.find?_eq_none.2 fun e he => ?_]
  ·rfl
  ·obtain ⟨i, hi, rfl⟩ := List.getElem_of_mem he
   have := h3 i hi
   rw [List.getD_eq_getElem?_getD, yGe hi, Option.getD_some] at this
   rw [this]; simp
 ·rw [List.getD_eq_getElem?_getD, yGe hi, Option.getD_some] at h3 ⊢
  have : l.find? (fun e => (st1 p (k : Int) e).isSome) = some l[i] := by
   rw [List.find?_eq_some_iff_getElem]
   refine ⟨h3, i, hi, rfl, fun j hji => ?_⟩
   have := h4 j hji
   rw [List.getD_eq_getElem?_getD, yGe (by omega), Option.getD_some] at this
   rw [this]; rfl
  rw [this]
  rfl
theorem yav (h : TaskOk q t p T n1 n2 n) (hs : yi [q.1, q.2.1] = some (p, T, 0)) {l : List Int} (hl : l.length ≤ 1000000) (hla : ∀ e ∈ l, e ∈ q.1.1) {r : AutT} {X : List Int} (hr : ResOk p t.2.2.2.2.1 l r X) : y1N q l = some r := by
 have hpr := h.loop.right
 have hl3 := hpr.l3
 have hle := h.loop.le
 have hul := Alp.len ⟨h.iu, h.ur⟩
 -- the edges that are kept
 let kp : Int × Int × Int → Bool := fun z => hasB q.2.2 z.2.1 || chz p l z.1 == z.2.1
 have hf : ∀ x, iter (yM q l (p, T, x)) (0, ([] : List (Int × Int × Int))) = some (p.2.2.2.filter kp) := fun x => by
  have := (yc6 (f := yM q l (p, T, x)) (xs := p.2.2.2) (fun i s => ((i : Int), s)) (fun out z => if kp z = true then out ++ [z] else out) (fun s => s) (fun i s => s.length ≤ i) (by omega) (fun i hi s hs => by
   have hz := hpr.es _ (List.getElem_mem hi)
   have hj1 : ∀ E, yK ((i : Int), s) E = some (.inl (((i + 1 : Nat) : Int), E)) := fun E => by
    rw [yK]; dsimp only; rw [nxt (by omega)]
   have hj2 : ∀ b : Bool, yL ((i : Int), s) p.2.2.2[i] b = some (.inl (((i + 1 : Nat) : Int), if b = true then s ++ [p.2.2.2[i]] else s)) := fun b => by
    rw [yL]
    cases b
    ·rw [if_neg (by simp), hj1, if_neg (by simp)]
    ·rw [if_pos rfl, yN (by simp; omega), yOb, hj1, if_pos rfl]
   obtain ⟨k, hk⟩ : ∃ k : Nat, p.2.2.2[i].1 = (k : Int) := ⟨p.2.2.2[i].1.toNat, by omega⟩
   have hkT : k < T.length := by rw [h.loop.tl]; omega
   obtain ⟨x, y, hxy, _⟩ := h.pair hkT
   refine ⟨?_, by
    split
    ·rw [List.length_append, List.length_singleton]; exact Nat.succ_le_succ hs
    ·exact Nat.le_succ_of_le hs⟩
   rw [yM]
   dsimp only
   rw [if_pos (ct_lt hi), yc hi, yOb, y9l (by omega), yOb]
   cases hb : hasB q.2.2 p.2.2.2[i].2.1
   ·rw [if_neg (by simp), hk, show idx T (k : Int) = some T[k] from yc hkT, yOb, show T[k] = [x, y] from by rw [yGe hkT] at hxy; exact Option.some.inj hxy, yau h hxy hl hla, yOb, hj2]
    simp only [kp, hb, hk, Bool.false_or]
   ·rw [if_pos rfl, hj2]
    simp only [kp, hb, Bool.true_or]) (fun s hs => by
   rw [yM]
   dsimp only
   rw [if_neg ct_ge]) (s := []) (by simp)).1
  rw [y8J, List.nil_append] at this
  exact this
 obtain ⟨a, ha⟩ : ∃ a : AutT, a = (p.1, p.2.1, p.2.2.1, p.2.2.2.filter kp) := ⟨_, rfl⟩
 have hR : Right a n := by
  subst ha
  exact ⟨hpr.nn, hpr.nl, hpr.ali, hpr.alr, hpr.msi, hpr.msr, fun x hx => hpr.es x (List.mem_filter.1 hx).1, hpr.so.filter _, hpr.l1, hpr.l2, Nat.le_trans (List.length_filter_le _ _) hpr.l3⟩
 have hst : ∀ s e, e ∈ p.1 → st1 a s e = stR p t.2.2.2.2.1 l s e := fun s e he => by
  have heq : hasB t.2.2.2.2.1 e = hasB q.2.2 e := h.unB (ya.2 ((h.evP e).1 he))
  unfold stR
  rw [heq]
  cases hv : st1 p s e with
  | none =>
   rw [y8g fun z hz hzz => ?_]
   ·split <;> rfl
   ·rw [ha] at hz
    have := (y4m hpr).2 (show (s, e, z.2.2) ∈ p.2.2.2 from by rw [← hzz.1, ← hzz.2]; exact (List.mem_filter.1 hz).1)
    rw [hv] at this
    cases this
  | some v =>
   have hm := (y4m hpr).1 hv
   by_cases hk : kp (s, e, v) = true
   ·have hk' : (e == chz p l s || hasB q.2.2 e) = true := by
     simp only [kp, Bool.or_eq_true] at hk ⊢
     rcases hk with hk | hk
     ·exact .inr hk
     ·exact .inl (by rw [beq_iff_eq] at hk ⊢; exact hk.symm)
    rw [if_pos hk', y4m hR, ha]
    exact List.mem_filter.2 ⟨hm, hk⟩
   ·have hk' : ¬ (e == chz p l s || hasB q.2.2 e) = true := fun hc => hk (by
     simp only [kp, Bool.or_eq_true] at hc ⊢
     rcases hc with hc | hc
     ·exact .inr (by rw [beq_iff_eq] at hc ⊢; exact hc.symm)
     ·exact .inl hc)
    rw [if_neg hk']
    refine y8g fun z hz hzz => hk ?_
    rw [ha] at hz
    obtain ⟨h1, h2⟩ := List.mem_filter.1 hz
    have h3 := (y4m hpr).2 (show (s, e, z.2.2) ∈ p.2.2.2 from by rw [← hzz.1, ← hzz.2]; exact h1)
    rw [hv] at h3
    have h3 : v = z.2.2 := Option.some.inj h3
    rw [h3, ← hzz.1, ← hzz.2]
    exact h2
 obtain ⟨r', X', hc, hC, hX1, hX2⟩ := ydd hR
 have ha1 : a.1 = p.1 := by rw [ha]
 have ha2 : a.2.2.1 = p.2.2.1 := by rw [ha]
 rw [ha1, ha2] at hC
 have hC' := hC.congr (st' := stR p t.2.2.2.2.1 l) fun s _ e he => hst s e he
 have hrr := hC'.unique hr.can (by rw [hX2, hr.zero, hpr.nn]; omega)
 rw [y1N, hs, yOb]
 dsimp only
 rw [hf, yOb, ← ha, y3O, hR.check, yOb, if_neg (by simp), hc, yOb, yOb, hrr.1]
end
theorem ybn {a : AutT} {n : Nat} (hr : Right a n) : ∃ b, y2A a = some b ∧ Inc b ∧ ∀ x, x ∈ b ↔ 0 ≤ x ∧ x < (n : Int) ∧ ¬ LiveS a x := by
 have hnl := hr.nl
 have hcl : (corea (toAut a)).length ≤ 1000000 := by
  have hi : Inc (corea (toAut a)) := by
   unfold corea listL listK
   exact ydN _ _
  have := y2X (n := n) (lo := 0) hi (fun x hx => by have := (y8f hr x).1 hx; exact ⟨this.1, this.2.1⟩) (Int.le_refl _)
  omega
 obtain ⟨o, h1, h2, h3⟩ := yh (f := y1O a (corea (toAut a), 0)) (fun i s => s.1 = (i : Int) ∧ Inc s.2 ∧ ∀ x, x ∈ s.2 ↔ 0 ≤ x ∧ x < (i : Int) ∧ ¬ LiveS a x) (fun o => Inc o ∧ ∀ x, x ∈ o ↔ 0 ≤ x ∧ x < (n : Int) ∧ ¬ LiveS a x) n 0 (by omega) (fun i s hi ⟨e1, g1, g2⟩ => by
   obtain ⟨c, out⟩ := s
   dsimp only at e1 g1 g2
   subst e1
   have hol := y2X (n := i) (lo := 0) g1 (fun x hx => by have := (g2 x).1 hx; exact ⟨this.1, this.2.1⟩) (Int.le_refl _)
   have hj1 : ∀ l, yX ((i : Int), out) l = some (.inl (((i + 1 : Nat) : Int), l)) := fun l => by
    rw [yX]; dsimp only; rw [nxt (by omega)]
   left
   rw [y1O]
   dsimp only
   rw [hr.nn, if_pos (ct_lt hi), y9l hcl, yOb]
   cases hb : hasB (corea (toAut a)) (i : Int)
   ·have hn : ¬ LiveS a (i : Int) := fun hv => by
     have := ya.2 ((y8f hr (i : Int)).2 ⟨by omega, by omega, hv⟩)
     rw [hb] at this
     cases this
    rw [if_pos (by simp), yN (by simp; omega), yOb, hj1]
    refine ⟨_, rfl, rfl, ?_, fun x => ?_⟩
    ·unfold Inc at g1 ⊢
     rw [List.pairwise_append]
     exact ⟨g1, List.pairwise_singleton _ _, fun c hc b hb => by rw [List.mem_singleton.1 hb]; exact ((g2 c).1 hc).2.1⟩
    ·dsimp only
     rw [List.mem_append, List.mem_singleton, g2]
     constructor
     ·rintro (h | rfl)
      ·exact ⟨h.1, by omega, h.2.2⟩
      ·exact ⟨by omega, by omega, hn⟩
     ·rintro ⟨h1, h2, h3⟩
      by_cases e : x = (i : Int)
      ·exact .inr e
      ·exact .inl ⟨h1, by omega, h3⟩
   ·rw [if_neg (by simp), hj1]
    refine ⟨_, rfl, rfl, g1, fun x => ?_⟩
    dsimp only
    rw [g2]
    constructor
    ·rintro ⟨h1, h2, h3⟩
     exact ⟨h1, by omega, h3⟩
    ·rintro ⟨h1, h2, h3⟩
     refine ⟨h1, ?_, h3⟩
     by_cases e : x = (i : Int)
     ·subst e
      exact absurd ((y8f hr (i : Int)).1 (ya.1 hb)).2.2 h3
     ·omega) (fun s ⟨e1, g1, g2⟩ => by
   obtain ⟨c, out⟩ := s
   dsimp only at e1 g1 g2
   subst e1
   rw [y1O]
   dsimp only
   rw [hr.nn, if_neg ct_ge]
   exact ⟨_, rfl, g1, g2⟩) (Nat.zero_le _) (0, []) ⟨rfl, List.Pairwise.nil, fun x => ⟨fun hx => (by cases hx), fun ⟨h1, h2, _⟩ => by omega⟩⟩
 exact ⟨o, by rw [y2A, ydP hr, yOb, h1]; rfl, h2, h3⟩
def folP (a : AutT) : Int → List Int → Int × Nat
 | s, [] => (s, 0)
 | s, e :: u => match st1 a s e with
  | some r => ((folP a r u).1, (folP a r u).2 + 1)
  | none => (s, 0)
theorem y8M {a : AutT} : ∀ {u : List Int} {s t : Int}, stw (st1 a) s u = some t → folP a s u = (t, u.length)
 | [], s, t, h => by
  have h : some s = some t := h
  cases h
  rfl
 | e :: u, s, t, h => by
  rw [stw] at h
  obtain ⟨r, h1, h2⟩ := Option.bind_eq_some_iff.1 h
  rw [folP, h1]
  dsimp only
  rw [y8M h2]
  rfl
theorem yaw {a : AutT} : ∀ {u : List Int} {s : Int}, stw (st1 a) s u = none → (folP a s u).2 < u.length
 | [], s, h => by cases h
 | e :: u, s, h => by
  rw [stw] at h
  rw [folP]
  cases h1 : st1 a s e with
  | none => simp
  | some r =>
   rw [h1, yOb] at h
   have := yaw h
   dsimp only
   rw [List.length_cons]
   omega
section
variable {a : AutT} {n : Nat}
theorem ybc (hr : Right a n) : ∀ {u : List Int} {s t : Int}, stw (st1 a) s u = some t → 0 ≤ s → s < (n : Int) → 0 ≤ t ∧ t < (n : Int) ∧ ∀ e ∈ u, e ∈ a.1
 | [], s, t, h, h0, h1 => by
  have h : some s = some t := h
  cases h
  exact ⟨h0, h1, fun e he => by cases he⟩
 | e :: u, s, t, h, h0, h1 => by
  rw [stw] at h
  obtain ⟨r, g1, g2⟩ := Option.bind_eq_some_iff.1 h
  have g3 := y5Q hr g1
  obtain ⟨k1, k2, k3⟩ := ybc hr g2 g3.2.2.1 g3.2.2.2.1
  refine ⟨k1, k2, fun x hx => ?_⟩
  rcases List.mem_cons.1 hx with rfl | hx
  ·exact g3.2.2.2.2
  ·exact k3 x hx
theorem ye2 (hr : Right a n) {s : Nat} (hs : s < n) (e : Int) : y4k a (s : Int) e = some ((st1 a (s : Int) e).getD (-1)) := by
 have hl3 := hr.l3
 obtain ⟨os, hos⟩ : ∃ os, os = a.2.2.2.filter fun x => x.1 == (s : Int) := ⟨_, rfl⟩
 have hol : os.length ≤ 1000000 := by rw [hos]; exact Nat.le_trans (List.length_filter_le _ _) hl3
 have hmem : ∀ x ∈ os, x ∈ a.2.2.2 ∧ x.1 = (s : Int) := fun x hx => by
  rw [hos] at hx
  have := List.mem_filter.1 hx
  exact ⟨this.1, by simpa using this.2⟩
 obtain ⟨r, h1, h2⟩ := ybS (xs := os) (f := y3G e) (g := fun x => x.2.1 == e) (fun x _ => rfl) (by omega)
 rw [y4k, ybM hr hs, yOb, ← hos, h1, yOb]
 rcases h2 with ⟨rfl, h3⟩ | ⟨k, hk, rfl, h3, h4⟩
 ·rw [if_pos (by simp), y8g fun x hx hxx => ?_]
  ·rfl
  ·have := h3 x (by rw [hos]; exact List.mem_filter.2 ⟨hx, by simp [hxx.1]⟩)
   simp [hxx.2] at this
 ·have hm := hmem _ (List.getElem_mem hk)
  have h3 : os[k].2.1 = e := by simpa using h3
  have : st1 a (s : Int) e = some os[k].2.2 := by
   rw [y4m hr, ← hm.2, ← h3]
   exact hm.1
  rw [if_neg (by simp), yc hk, yOb, this]
  rfl
theorem yax (hr : Right a n) {s : Int} (s0 : 0 ≤ s) (s1 : s < (n : Int)) {u : List Int} (hl : u.length ≤ 1000000) : y2W a s u = some ((folP a s u).1, ((folP a s u).2 : Int)) := by
 obtain ⟨o, h1, h2⟩ := yh (f := y2V a u) (fun i st => st.1 = (i : Int) ∧ 0 ≤ st.2 ∧ st.2 < (n : Int) ∧ (folP a st.2 (u.drop i)).1 = (folP a s u).1 ∧ (folP a st.2 (u.drop i)).2 + i = (folP a s u).2)
   (fun o => (∃ t, o = .inl t ∧ t = (folP a s u).1 ∧ u.length = (folP a s u).2) ∨ ∃ t, o = .inr (((folP a s u).2 : Int), t) ∧ t = (folP a s u).1) u.length 0 (by omega) (fun i st hi ⟨e1, g0, g1, g2, g3⟩ => by
   obtain ⟨c, x⟩ := st
   dsimp only at e1 g0 g1 g2 g3
   subst e1
   obtain ⟨k, hk⟩ : ∃ k : Nat, x = (k : Int) := ⟨x.toNat, by omega⟩
   subst hk
   rw [List.drop_eq_getElem_cons hi, folP] at g2 g3
   rw [y2V]
   dsimp only
   rw [if_pos (ct_lt hi), yc hi, yOb, ye2 hr (by omega), yOb]
   cases hst : st1 a (k : Int) u[i] with
   | none =>
    rw [hst] at g2 g3
    dsimp only at g2 g3
    right
    rw [if_pos (by simp)]
    exact ⟨_, rfl, .inr ⟨(k : Int), by rw [← g3, Nat.zero_add], g2⟩⟩
   | some t =>
    rw [hst] at g2 g3
    dsimp only at g2 g3
    have ht := y5Q hr hst
    left
    rw [Option.getD_some, if_neg (by simp; omega), nxt (by omega)]
    exact ⟨_, rfl, rfl, ht.2.2.1, ht.2.2.2.1, g2, by dsimp only; omega⟩) (fun st ⟨e1, g0, g1, g2, g3⟩ => by
   obtain ⟨c, x⟩ := st
   dsimp only at e1 g0 g1 g2 g3
   subst e1
   rw [List.drop_length, folP] at g2 g3
   rw [y2V]
   dsimp only
   rw [if_neg ct_ge]
   exact ⟨_, rfl, .inl ⟨x, rfl, g2, by dsimp only at g3; omega⟩⟩) (Nat.zero_le _) (0, s) ⟨rfl, s0, s1, by rw [List.drop_zero], by rw [List.drop_zero]; rfl⟩
 rw [y2W, h1, yOb]
 rcases h2 with ⟨t, rfl, h3, h4⟩ | ⟨t, rfl, h3⟩
 ·rw [h3, ← h4]
 ·rw [h3]
theorem ybd (hr : Right a n) {u : List Int} (hl : u.length ≤ 1000000) : y2f a u = some (decide (0 < n) && (stw (st1 a) 0 u).isSome, 0) := by
 rw [y2f, hr.check, yOb, if_neg (by simp), y4r, hr.nn]
 by_cases h0 : n = 0
 ·subst h0
  rw [if_pos (by simp)]
  rfl
 ·rw [if_neg (by simp; omega), yax hr (by omega) (by omega) hl, yOb, yOb]
  cases hs : stw (st1 a) 0 u with
  | none =>
   have := yaw hs
   have hne : (((folP a 0 u).2 : Int) == (u.length : Int)) = false := by
    rw [beq_eq_false_iff_ne]; omega
   simp [hne]
  | some t =>
   rw [y8M hs]
   simp; omega
theorem ye3 (hr : Right a n) (h0 : 0 < n) {u : List Int} (hl : u.length ≤ 1000000) {t : Int} (hs : stw (st1 a) 0 u = some t) : y3P a 0 u = some (t, (u.length : Int), 0) := by
 have hl1 := hr.l1
 have hin := ybc hr hs (Int.le_refl _) (by omega)
 obtain ⟨r, h1, h2⟩ := ybT (xs := u) (f := y3k a) (g := fun x => !hasB a.1 x) (fun x _ => by rw [y3k, y7n (by omega), yOb]) (by omega)
 have hr1 : r = -1 := by
  rcases h2 with ⟨h, _⟩ | ⟨k, hk, _, h3, _⟩
  ·exact h
  ·have := ya.2 (hin.2.2 _ (List.getElem_mem hk))
   rw [this] at h3
   cases h3
 subst hr1
 rw [y3P, y3A, hr.check, yOb, if_neg (by simp), if_neg (by rw [hr.nn]; simp; omega), yOb, if_neg (by simp), y3b, h1, yOb, yOb, if_neg (by simp), yax hr (by omega) (by omega) hl, y8M hs, yOb]
theorem ye4 {g : GrT} (hg : GrOk g a) (hr : Right a n) {u : List Int} (hl : u.length ≤ 1000000) : y3F g u = some (if n = 0 then -1 else (stw (st1 a) 0 u).getD (-1)) := by
 rw [y3F, hg.1, hr.nn]
 by_cases h0 : n = 0
 ·rw [if_pos (by simpa using h0), if_pos h0]
 ·rw [if_neg (by simpa using h0), if_neg h0]
  obtain ⟨o, h1, h2⟩ := yh (f := y2R g u) (fun i st => st.1 = (i : Int) ∧ stw (st1 a) st.2 (u.drop i) = stw (st1 a) 0 u) (fun o => (∃ t, o = .inl t ∧ stw (st1 a) 0 u = some t) ∨ (o = .inr () ∧ stw (st1 a) 0 u = none)) u.length 0 (by omega) (fun i st hi ⟨e1, g1⟩ => by
    obtain ⟨c, x⟩ := st
    dsimp only at e1 g1
    subst e1
    rw [List.drop_eq_getElem_cons hi, stw] at g1
    rw [y2R]
    dsimp only
    rw [if_pos (ct_lt hi), yc hi, yOb, to_eq hg, yOb]
    cases hst : st1 a x u[i] with
    | none =>
     rw [hst] at g1
     right
     rw [if_pos (by simp)]
     exact ⟨_, rfl, .inr ⟨rfl, g1.symm⟩⟩
    | some t =>
     rw [hst, yOb] at g1
     have ht := y5Q hr hst
     left
     rw [Option.getD_some, if_neg (by simp; omega), nxt (by omega)]
     exact ⟨_, rfl, rfl, g1⟩) (fun st ⟨e1, g1⟩ => by
    obtain ⟨c, x⟩ := st
    dsimp only at e1 g1
    subst e1
    rw [List.drop_length] at g1
    rw [y2R]
    dsimp only
    rw [if_neg ct_ge]
    exact ⟨_, rfl, .inl ⟨x, rfl, g1.symm⟩⟩) (Nat.zero_le _) (0, 0) ⟨rfl, by rw [List.drop_zero]⟩
  rw [h1, yOb]
  rcases h2 with ⟨t, rfl, h3⟩ | ⟨rfl, h3⟩
  ·rw [h3]; rfl
  ·rw [h3]; rfl
end
theorem y5V {xs : List Int} (hl : xs.length ≤ 1000000) : y2k xs xs = some true := by
 have h : iter (y2d xs xs) 0 = some (.inl ()) := by
  obtain ⟨o, h1, rfl⟩ := yh (f := y2d xs xs) (fun i s => s = (i : Int)) (fun o => o = .inl ()) xs.length 0 (by omega) (fun i s hi e1 => by
   subst e1
   left
   rw [y2d, if_pos (ct_lt hi), yc hi, yOb, yOb, if_neg (by simp), nxt (by omega)]
   exact ⟨_, rfl, rfl⟩) (fun s e1 => by
   subst e1
   rw [y2d, if_neg ct_ge]
   exact ⟨_, rfl, rfl⟩) (Nat.zero_le _) 0 rfl
  exact h1
 rw [y2k, if_neg (by simp), h]
 rfl
theorem ybo {xs : List (Int × Int × Int)} (hl : xs.length ≤ 1000000) : y3t xs xs = some true := by
 have h : iter (y1U xs xs) 0 = some (.inl ()) := by
  obtain ⟨o, h1, rfl⟩ := yh (f := y1U xs xs) (fun i s => s = (i : Int)) (fun o => o = .inl ()) xs.length 0 (by omega) (fun i s hi e1 => by
   subst e1
   left
   rw [y1U, if_pos (ct_lt hi), yc hi, yOb, yOb, if_neg (by simp), nxt (by omega)]
   exact ⟨_, rfl, rfl⟩) (fun s e1 => by
   subst e1
   rw [y1U, if_neg ct_ge]
   exact ⟨_, rfl, rfl⟩) (Nat.zero_le _) 0 rfl
  exact h1
 rw [y3t, if_neg (by simp), h]
 rfl
theorem y8V {a : AutT} {n : Nat} (hr : Right a n) : y3Y a a = some true := by
 rw [y3Y, if_pos (by simp), y5V hr.l1, yOb, yOb, if_pos rfl, y5V hr.l2, yOb, yOb, if_pos rfl, ybo hr.l3, yOb, yOb]
theorem ybp {k : Int} {u v : List Int} (hu : u.length ≤ 1000000) (hv : v.length ≤ 1000000) : y2u (k, u, v) (k, u, v) = some true := by
 rw [y2u, if_pos (by simp)]
 dsimp only
 rw [y3E, y5V hu, yOb, yOb, yOb, if_pos rfl, y3E, y5V hv, yOb, yOb, yOb]
theorem ybV {al u : List Int} : ∀ {l d : List Int}, (∀ e ∈ l, e ∈ al ∧ e ∉ u ∧ e ∉ d) → l.Nodup → priE al u d l = 0
 | [], _, _, _ => rfl
 | e :: l, d, h, hn => by
  obtain ⟨h1, h2, h3⟩ := h e (List.mem_cons_self ..)
  obtain ⟨n1, n2⟩ := List.nodup_cons.1 hn
  have hb : ∀ {xs : List Int}, e ∉ xs → ¬ hasB xs e = true := fun hx hb => hx (ya.1 hb)
  rw [priE, if_neg (by rw [ya.2 h1]; simp), if_neg (hb h2), if_neg (hb h3)]
  refine ybV (fun x hx => ?_) n2
  obtain ⟨g1, g2, g3⟩ := h x (List.mem_cons_of_mem _ hx)
  refine ⟨g1, g2, fun hm => ?_⟩
  rcases List.mem_append.1 hm with hm | hm
  ·exact g3 hm
  ·rw [List.mem_singleton.1 hm] at hx
   exact n1 hx
theorem yeM {bs c : List Int} (hb : ∀ x ∈ bs, 0 ≤ x ∧ x < 256) (hbl : bs.length ≤ 8) (hc : c.length ≤ 1000000) : ∃ l, iter (yF bs c) (0, ([] : List Int)) = some l ∧ l.length ≤ 8 ∧ l.Nodup ∧ ∀ e ∈ l, e ∈ c := by
 obtain ⟨o, h1, h2, h3, h4⟩ := yh (f := yF bs c) (fun i s => s.1 = (i : Int) ∧ s.2.length ≤ i ∧ s.2.Nodup ∧ ∀ e ∈ s.2, e ∈ c) (fun o => o.length ≤ 8 ∧ o.Nodup ∧ ∀ e ∈ o, e ∈ c) bs.length 0 (by omega) (fun i s hi ⟨e1, g1, g2, g3⟩ => by
   obtain ⟨k, l⟩ := s
   dsimp only at e1 g1 g2 g3
   subst e1
   have hj2 : ∀ l', yE ((i : Int), l) l' = some (.inl (((i + 1 : Nat) : Int), l')) := fun l' => by
    rw [yE]; dsimp only; rw [nxt (by omega)]
   rw [yF]
   dsimp only
   by_cases h0 : 0 < c.length
   ·left
    have hx := hb _ (List.getElem_mem hi)
    have hm0 := Int.emod_nonneg bs[i] (show (c.length : Int) ≠ 0 by omega)
    have hm1 := Int.emod_lt_of_pos bs[i] (show (0 : Int) < (c.length : Int) by omega)
    obtain ⟨k, hk⟩ : ∃ k : Nat, bs[i] % (c.length : Int) = (k : Int) := ⟨(bs[i] % (c.length : Int)).toNat, by omega⟩
    have hkl : k < c.length := by omega
    rw [if_pos (by simp; omega), yc hi, yOb, show nz (c.length : Int) = some () from if_neg (by omega), yOb, W_of (x := bs[i]) (by omega) (by omega), Int.tmod_eq_emod_of_nonneg hx.1, hk, yc hkl, yOb, y9l (by omega), yOb]
    cases hh : hasB l c[k]
    ·rw [if_pos (by simp), yN (by simp; omega), yOb, hj2]
     refine ⟨_, rfl, rfl, by simp; omega, ?_, fun e he => ?_⟩
     ·dsimp only
      rw [List.nodup_append]
      refine ⟨g2, by simp, fun x hx y hy e => ?_⟩
      rw [List.mem_singleton.1 hy] at e
      rw [e] at hx
      rw [ya.2 hx] at hh
      cases hh
     ·rcases List.mem_append.1 he with he | he
      ·exact g3 e he
      ·rw [List.mem_singleton.1 he]; exact List.getElem_mem hkl
    ·rw [if_neg (by simp), hj2]
     exact ⟨_, rfl, rfl, by dsimp only; omega, g2, g3⟩
   ·right
    rw [show decide ((c.length : Int) > 0) = false from decide_eq_false (by omega), Bool.and_false, if_neg (by simp)]
    exact ⟨_, rfl, Nat.le_trans g1 (by omega), g2, g3⟩) (fun s ⟨e1, g1, g2, g3⟩ => by
   obtain ⟨k, l⟩ := s
   dsimp only at e1 g1 g2 g3
   subst e1
   rw [yF]
   dsimp only
   rw [if_neg (by simp)]
   exact ⟨_, rfl, Nat.le_trans g1 hbl, g2, g3⟩) (Nat.zero_le _) (0, []) ⟨rfl, by simp, by simp, fun e he => by cases he⟩
 exact ⟨o, h1, h2, h3, h4⟩
theorem ydk (bs : List Int) : ∃ u, iter (yB bs) (0, ([] : List Int)) = some u ∧ u.length ≤ 5 := by
 refine yh (f := yB bs) (fun i s => s.1 = (i : Int) ∧ s.2.length ≤ i) (fun o => o.length ≤ 5) 5 0 (by omega) (fun i s hi ⟨e1, g1⟩ => ?_) (fun s ⟨e1, g1⟩ => ?_) (Nat.zero_le _) (0, []) ⟨rfl, by simp⟩
 ·obtain ⟨k, l⟩ := s
  dsimp only at e1 g1
  subst e1
  rw [yB]
  dsimp only
  by_cases h : i < bs.length
  ·left
   rw [if_pos (by simp; omega), yc h, yOb, yN (by simp; omega), yOb, nxt (by omega)]
   exact ⟨_, rfl, rfl, by simp; omega⟩
  ·right
   rw [if_neg (by simp; omega)]
   exact ⟨_, rfl, Nat.le_trans g1 (by omega)⟩
 ·obtain ⟨k, l⟩ := s
  dsimp only at e1 g1
  subst e1
  rw [yB]
  dsimp only
  rw [if_neg (by simp)]
  exact ⟨_, rfl, g1⟩
section
variable {q : ProbT} {t : TaskT} {p : AutT} {T : List (List Int)} {n1 n2 n : Nat}
theorem ych (h : TaskOk q t p T n1 n2 n) (hs : yi [q.1, q.2.1] = some (p, T, 0)) {l : List Int} (hl : l.length ≤ 1000000) (hw : y4g q l = some (some t, 0)) (hla : ∀ e ∈ l, e ∈ q.1.1) {bs : List Int} : yC bs q l = some true := by
 have hpr := h.loop.right
 obtain ⟨u, hu, hul⟩ := ydk bs
 have hg := ybd hpr (u := u) (by omega)
 have ha := ye4 h.g3 hpr (u := u) (by omega)
 rw [yC, hu, yOb, y5r, hw, yOb, if_neg (by simp), yOb, ha, yOb]
 by_cases h0 : n = 0
 ·subst h0
  rw [if_pos rfl, if_pos (by rfl), yOb, hs, yOb]
  dsimp only
  rw [hg, yOb, if_pos (by simp)]
  rfl
 rw [if_neg h0]
 cases hst : stw (st1 p) 0 u with
 | none =>
  rw [hst] at hg
  rw [Option.getD_none, if_pos (by rfl), yOb, hs, yOb]
  dsimp only
  rw [hg, yOb, if_pos (by simp)]
  rfl
 | some k' =>
  rw [hst] at hg
  have hin := ybc hpr hst (Int.le_refl _) (by omega)
  obtain ⟨k, rfl⟩ : ∃ k : Nat, k' = (k : Int) := ⟨k'.toNat, by omega⟩
  have hkT : k < T.length := by rw [h.loop.tl]; omega
  obtain ⟨x, y, hxy, _⟩ := h.pair hkT
  have hTk : T[k] = [x, y] := by rw [yGe hkT] at hxy; exact Option.some.inj hxy
  have hcz : chz p l (k : Int) = -1 ∨ 0 ≤ chz p l (k : Int) := by
   unfold chz
   cases hf : l.find? fun e => (st1 p (k : Int) e).isSome with
   | none => exact .inl rfl
   | some e =>
    have := h.rP.alr e (hla e (List.mem_of_find?_eq_some hf))
    exact .inr this.1
  rw [Option.getD_some, if_neg (by simp), yas h _ hl, yOb]
  have htail : ∀ r : Int × Bool × Int, r = (if chz p l (k : Int) = -1 then (0, false, 0) else (chz p l (k : Int), true, 0)) → ((yi [q.1, q.2.1]).bind fun r50 => (y2f r50.1 u).bind fun r51 => if (!r51.1) then some (((r.1 == 0) && (!r.2.1)) && (r.2.2 == 10)) else
    (y3P r50.1 0 u).bind fun r56 => (idx r50.2.1 r56.1).bind fun x57 => (y1b q x57 l).bind fun r58 => some (((r.2.2 == 0) && (r.2.1 == (decide (r58 ≥ 0)))) && (r.1 == (if r58 < 0 then 0 else r58)))) = some true := fun r hr => by
   rw [hs, yOb]
   dsimp only
   rw [hg, yOb, if_neg (by simp; omega), ye3 hpr (by omega) (by omega) hst, yOb]
   dsimp only
   rw [yc hkT, yOb, hTk, yau h hxy hl hla, yOb, hr]
   rcases hcz with hc | hc
   ·rw [hc]; rfl
   ·rw [if_neg (by omega)]
    have h1 : decide (chz p l (k : Int) ≥ 0) = true := by simpa using hc
    rw [if_neg (by omega)]
    simp [h1]
  rcases hcz with hc | hc
  ·rw [if_pos (by rw [hc]; rfl), yOb]
   exact htail _ (by rw [if_pos hc])
  ·rw [if_neg (by simp; omega), yOb]
   exact htail _ (by rw [if_neg (by omega)])
theorem ydl {r : AutT} {N : Nat} (hR : Right r N) : iter (yD r) (0, ([] : List Int)) = some (allL N) := by
 have hnl := hR.nl
 obtain ⟨o, h1, rfl⟩ := yh (f := yD r) (fun i s => i ≤ N ∧ s = ((i : Int), allL i)) (fun o => o = allL N) N 0 (by omega) (fun i s hi ⟨_, e1⟩ => by
  subst e1
  refine .inl ⟨(((i + 1 : Nat) : Int), allL (i + 1)), ?_, hi, rfl⟩
  rw [yD]
  dsimp only
  rw [hR.nn, if_pos (ct_lt hi), yN (by have := yb5 i; simp; omega), yOb, nxt (by omega), yd3]) (fun s ⟨_, e1⟩ => by
  subst e1
  refine ⟨_, ?_, rfl⟩
  rw [yD]
  dsimp only
  rw [hR.nn, if_neg ct_ge]) (Nat.zero_le _) (0, []) ⟨Nat.zero_le _, rfl⟩
 exact h1
theorem yeC {es : List Ed} {N : Nat} (h : Num es N) : ∀ k : Nat, k < N → (wN es (k : Int)).length ≤ k := by
 intro k
 induction k using Nat.strongRecOn with
 | ind k ih =>
  intro hk
  by_cases h0 : k = 0
  ·subst h0; exact Nat.le_of_eq rfl
  ·obtain ⟨x, hm, _, _, hf0, hfk, e⟩ := h.step (k := k) (by omega) hk
   rw [e, List.length_append, List.length_singleton]
   have := ih x.f.toNat (by omega) (by omega)
   rw [Int.toNat_of_nonneg hf0] at this
   omega
theorem ybq {d : Des26} (hd : Des26In d) {bs cs : List Int} (hb : ∀ x ∈ bs, 0 ≤ x ∧ x < 256) : y2C d bs cs = some true := by
 rw [y2C, yeB, yOb]
 by_cases hlen : bs.length ≤ 8
 case neg =>
  rw [if_pos (by simp; omega), yOb]
 rw [if_neg (by simp; omega)]
 obtain ⟨q, m1, m2, hq, hP, _⟩ := ydi hd
 obtain ⟨t, p, T, n1, n2, n, ho, h, hs⟩ := hP.open
 have hul := Alp.len ⟨h.iu, h.ur⟩
 have hmi := y2Z (fun a b => a && !b) q.1.1 q.2.2 h.rP.ali h.iu
 have hmem : ∀ e, e ∈ mg (fun a b => a && !b) q.1.1 q.2.2 → e ∈ q.1.1 ∧ e ∉ q.2.2 := fun e he => by
  have := ((hmi.2 e).1 he).2
  rw [Bool.and_eq_true, ya] at this
  refine ⟨this.1, fun hm => ?_⟩
  rw [ya.2 hm] at this
  simp at this
 have hml := Alp.len ⟨hmi.1, fun x hx => h.rP.alr x (hmem x hx).1⟩
 obtain ⟨l, hl1, hl2, hl3, hl4⟩ := yeM hb hlen (c := mg (fun a b => a && !b) q.1.1 q.2.2) (by omega)
 have hla : ∀ e ∈ l, e ∈ q.1.1 := fun e he => (hmem e (hl4 e he)).1
 have hll : l.length ≤ 1000000 := by omega
 have hw := yeA h ho hll
 rw [if_pos (ybV (fun e he => ⟨(hmem e (hl4 e he)).1, (hmem e (hl4 e he)).2, List.not_mem_nil⟩) hl3)] at hw
 obtain ⟨g, r, X, hg, hgr, hr⟩ := yaE h l hll
 have hR := hr.right
 have hle := hr.le
 obtain ⟨bad, hbad, bi, bm⟩ := ybn hR
 obtain ⟨b, hb1, hb2, hb3⟩ := ydb hgr hR
 obtain ⟨ri, hi1, hi2⟩ := yce (xs := b) (b := false) (by omega)
 have hj := ych h hs hll hw hla (bs := cs)
 have hbr : ∀ y ∈ bad, 0 ≤ y ∧ y < (X.length : Int) := fun y hy => ⟨((bm y).1 hy).1, ((bm y).1 hy).2.1⟩
 have hbl := y2X (n := X.length) (lo := 0) bi hbr (Int.le_refl _)
 have hres : y3V q l = some (r, 0) := by
  rw [y3V, hw, yOb, if_neg (by simp), yOb, hg, yOb, hgr.1]
 rw [hq, yOb, y8L h.rP.l1 (by omega), yOb, hl1, yOb, hres, yOb]
 rcases hi2 with ⟨rfl, hi3⟩ | ⟨k, hk, rfl, hk1, hk2⟩
 ·have hc : y2t q l = some ((0, [], []), true, 0) := by
   rw [y2t, hw, yOb, if_neg (by simp), yOb, hg, yOb, hb1, yOb, hi1, yOb, if_neg (by simp)]
  have hb0 : bad = [] := List.eq_nil_iff_forall_not_mem.2 fun x hx => by
   obtain ⟨q1, q2, q3⟩ := (bm x).1 hx
   obtain ⟨k, rfl⟩ : ∃ k : Nat, x = (k : Int) := ⟨x.toNat, by omega⟩
   have hkb : k < b.length := by omega
   refine q3 ((hb3 k (by omega)).1 ?_)
   rw [yGe hkb]
   have := hi3 _ (List.getElem_mem hkb)
   cases hv : b[k] with
   | true => rfl
   | false => rw [hv] at this; exact absurd rfl this
  rw [hc, yOb, yav h hs hll hla hr, yOb, hbad, yOb]
  dsimp only
  rw [if_neg (by simp), y8V hR, yOb, yOb, hb0, if_neg (by simp), if_pos rfl, yeL, yOb, yOb, yOb, if_neg (by simp), if_neg (by simp)]
  exact hj
 ·have hnum : Num (edsOf r) X.length := hr.disc.num
  have hkX : k < X.length := by omega
  have hc : y2t q l = some ((3, wN (edsOf r) (k : Int), []), false, 0) := by
   rw [y2t, hw, yOb, if_neg (by simp), yOb, hg, yOb, hb1, yOb, hi1, yOb, if_pos (by simp), yey hgr hR hnum hkX (by omega), yOb]
  have hkm : (k : Int) ∈ bad := (bm _).2 ⟨by omega, by omega, fun hv => by
   have := (hb3 k hkX).2 hv
   rw [yGe hk, hk1] at this
   cases this⟩
  have hmin : ∀ j : Nat, j < k → (j : Int) ∉ bad := fun j hjk hm => by
   have hjb : j < b.length := by omega
   refine ((bm _).1 hm).2.2 ((hb3 j (by omega)).1 ?_)
   rw [yGe hjb]
   have := hk2 j hjb hjk
   cases hv : b[j] with
   | true => rfl
   | false => rw [hv] at this; exact absurd rfl this
  have hlen := yeC hnum k hkX
  have hbne : ((bad.length : Int) == 0) = false := by
   rw [beq_eq_false_iff_ne]
   have := List.length_pos_of_mem hkm
   omega
  rw [hc, yOb, yav h hs hll hla hr, yOb, hbad, yOb]
  dsimp only
  rw [if_neg (by simp), y8V hR, yOb, yOb, hbne, if_neg (by simp), if_neg (by simp), yOb, yOb, if_neg (by simp), if_pos (by simp), ydl hR, yOb, ycf hR hnum bi hbr (by omega) hkm hmin, yOb]
  dsimp only
  rw [if_neg (by simp), ybp (by omega) (by simp), yOb, yOb, if_neg (by simp)]
  exact hj
end
end Go.Proofs.YtidakgbibobbdaaGreatDoor
namespace Go.Proofs.YtidakgbibobbdaaGreatDoor
open Go Go.RowKit Go.ChangeShapes Go.WideShapes Go.Deep
def Op (P : Program) {α : Type} (r : Rep α) (Q : α → Prop) (t : TypeId) : Prop :=
 ∀ (H : Type) (enc : TypeId × Value → H) (w : World) (fuel : Nat) (cs : List Value) (x : DataW H × List MemPlace), DataW.trod enc P w 0 (fun _ => true) true fuel t cs = some x → ∃ y : α, r.rd ⟨w, fun _ => 0⟩ cs y ∧ Q y
section
variable {P : Program} {α β : Type} {r : Rep α} {q : Rep β} {Q : α → Prop} {R : β → Prop} {t e : TypeId}
theorem Op.int {k : IntKind} (ht : P.underlying t = some (.int k)) : Op P (rK k) (fun n => k.min ≤ n ∧ n ≤ k.max) t := by
 intro H enc w fuel cs x h
 obtain ⟨n, h1, h2, h3⟩ := DataW.trod_int ht h
 refine ⟨n, h1, ?_⟩
 simpa [Lit.wf] using h3
theorem ye5 {H : Type} {enc : TypeId × Value → H} {w : World} {base fuel : Nat} {v : Value} {x : DataW H × List MemPlace} (ht : P.underlying t = some (.slice e)) (hc : P.cellsOf e = r.sz) (ho : Op P r Q e) (hok : Cell.okWide P w .any base t v)
  (h : DataW.trod enc P w 0 (fun _ => true) true fuel t [v] = some x) : ∃ (a : Option Addr) (c : Nat) (xs : List α), v = .slice a xs.length c ∧ RdL r ⟨w, fun _ => 0⟩ a c xs ∧ ∀ y ∈ xs, Q y := by
 rcases open_slice ht h with ⟨h1, -⟩ | ⟨a, len, cap, m, n, D, Pl, h1, -, h3, h4, h5, -, h7⟩
 ·rw [List.cons.injEq] at h1
  refine ⟨none, 0, [], h1.1, ⟨[], ⟨by simp, by simp, by simp, fun _ => rfl, fun ad e => (by cases e), fun ad e => (by cases e)⟩, fun ad e => (by cases e), rfl⟩, fun y hy => (by cases hy)⟩
 ·rw [List.cons.injEq] at h1
  have hv := h1.1
  subst hv
  rw [if_pos rfl] at h5
  subst h5
  have hsp : a.spot = none := by
   simp only [Cell.okWide, ht, Cell.ok] at hok
   exact hok.2.2.2.1
  have hadd : ∀ k, a.add k = ⟨a.block, a.off + k, none⟩ := fun k => by
   obtain ⟨b, o, sp⟩ := a
   dsimp only at hsp
   subst hsp
   unfold Addr.add
   split
   ·rename_i hk; subst hk; rfl
   ·rfl
  have key : ∀ k, k ≤ len → ∃ (xs : List α) (cs : List Value), xs.length = k ∧ Cells r ⟨w, fun _ => 0⟩ cs xs ∧ (∀ y ∈ xs, Q y) ∧ ∀ j (hj : j < cs.length), w.cell? ⟨a.block, a.off + j, none⟩ = some cs[j] := by
   intro k
   induction k with
   | zero => intro _; exact ⟨[], [], rfl, rfl, fun y hy => (by cases hy), fun j hj => absurd hj (Nat.not_lt_zero _)⟩
   | succ k ih =>
    intro hk
    obtain ⟨xs, cs, g1, g2, g3, g4⟩ := ih (by omega)
    obtain ⟨cs', k1, k2⟩ := h7 k (by omega)
    obtain ⟨y, k3, k4⟩ := ho H enc w n cs' _ k2
    obtain ⟨-, k5, k6⟩ := World.cells?_some k1
    have hl := g2.len
    rw [g1] at hl
    rw [hc] at k5 k6
    refine ⟨xs ++ [y], cs ++ cs', by simp [g1], g2.append ⟨cs', [], by simp, k3, rfl⟩, fun z hz => ?_, fun j hj => ?_⟩
    ·rcases List.mem_append.1 hz with hz | hz
     ·exact g3 z hz
     ·rw [List.mem_singleton.1 hz]; exact k4
    ·by_cases hlt : j < cs.length
     ·rw [List.getElem_append_left hlt]; exact g4 j hlt
     ·have hj2 : j - cs.length < cs'.length := by rw [List.length_append] at hj; omega
      rw [List.getElem_append_right (by omega)]
      have := k6 (j - cs.length) (by omega)
      rw [add_add, hadd, yGe hj2] at this
      rw [← this]
      congr 2
      omega
  obtain ⟨xs, cs, g1, g2, g3, g4⟩ := key len (Nat.le_refl _)
  subst g1
  refine ⟨some a, m, xs, rfl, ⟨cs, ⟨g2.len, h3, h4, fun e => (by cases e), fun ad e => (by cases e; exact hsp), fun ad e j hj => (by cases e; exact g4 j hj)⟩, fun _ _ _ => rfl, g2⟩, g3⟩
theorem yeN {w : World} {base : Nat} {v : Value} {fs : Array Field} {ts : List TypeId} (ht : P.underlying t = some (.struct fs)) (hts : P.cellTypes P.depth t = some ts) (hsz : P.cellsOf t = ts.length) (hok : Value.okWide P w .any base t v) :
  ∃ cs, v = .agg cs ∧ cs.size = ts.length ∧ ∀ (i : Nat) (u : TypeId), ts[i]? = some u → ∃ c : Value, cs[i]? = some c ∧ Cell.okWide P w .any base u c := by
 simp only [Value.okWide, ht] at hok
 obtain ⟨cs, rfl, h1, ts', h2, h3, h4⟩ := hok
 rw [hts] at h2
 cases h2
 refine ⟨cs, rfl, by omega, fun i u hu => ?_⟩
 have hlt : i < ts.length := (List.getElem?_eq_some_iff.1 hu).1
 obtain ⟨u', g1, g2⟩ := h4 i cs[i] (Array.getElem?_eq_getElem (by omega))
 rw [Nat.mod_eq_of_lt hlt, hu] at g1
 cases g1
 exact ⟨_, Array.getElem?_eq_getElem (by omega), g2⟩
end
end Go.Proofs.YtidakgbibobbdaaGreatDoor
namespace Go.Proofs.YtidakgbibobbdaaGreatDoor
open Go Go.ChangeShapes Go.WideShapes Go.ChangeAt Go.RowKit Go.Deep
theorem Fw.law {P : Program} {f : FuncId} {ts : List TV} (h : Fw P f ⟨0, []⟩ ts [] (.b true) []) {w : World} {vs : List Value} (ha : All3 (fun _ => .bool false) ⟨w, fun _ => 0⟩ ts vs) : Calls P f vs.toArray w fun e w' => e = .returned (.bool true) ∧ Below w.heap.size w w' :=
 Calls.mono (h.is [] (fun _ => .bool false) ⟨w, fun _ => 0⟩ vs rfl (Nat.le_refl _) List.nodup_nil (fun t ht => by cases ht) ha (fun i o h => by simp at h)) fun e W' ⟨v, s', hw, he, hm, β', _, hv, _⟩ => by
  obtain ⟨hv, _⟩ := hv
  subst hw
  subst hv
  exact ⟨he, (hm.weak (S' := No) fun t ⟨i, hi, _⟩ => by cases hi).below⟩
theorem All3.c {β : Nat → Value} {s : Sig} {x : TV} {xs : List TV} {v : Value} {us : List Value} (h : x.p β s v) (h2 : All3 β s xs us) : All3 β s (x :: xs) (v :: us) := ⟨v, us, h, h2, rfl⟩
theorem yci {α : Type} [Inhabited α] {n : Nat} {p : Nat → α → Prop} (h : ∀ i, i < n → ∃ x, p i x) : ∃ f : Nat → α, ∀ i, i < n → p i (f i) :=
 ⟨fun i => if hi : i < n then Classical.choose (h i hi) else default, fun i hi => by
  dsimp only
  rw [dif_pos hi]
  exact Classical.choose_spec (h i hi)⟩
abbrev yeO := (Int × y1M) × (Int × y1M) × Int
def pbT : List TypeId := [51] ++ List.replicate 27 5 ++ [51] ++ List.replicate 27 5 ++ [51]
theorem ye6 : Tryz.prog.cellTypes Tryz.prog.depth 59 = some pbT := by kernel_rfl
theorem ye7 : Tryz.prog.cellsOf 59 = pbT.length := by kernel_rfl
section
variable {H : Type} {enc : TypeId × Value → H} {w : World} {base : Nat} {v : Value} {d : DataW H} {ps : List MemPlace}
theorem op_u8 : Op Tryz.prog (rK .u8) (fun n => 0 ≤ n ∧ n < 256) 5 := by
 intro H enc w fuel cs x h
 obtain ⟨y, h1, h2⟩ := (Op.int (P := Tryz.prog) (k := .u8) Tryz.underlying5) H enc w fuel cs x h
 refine ⟨y, h1, ?_⟩
 simp [IntKind.min, IntKind.max, IntKind.signed, IntKind.bits] at h2
 omega
/-- A list of bytes. -/
theorem yay (hok : Value.okWide Tryz.prog w .any base 89 v) (h : DataW.Trod enc Tryz.prog w 0 (fun _ => true) true 89 v d ps) : ∃ a c xs, v = .slice a xs.length c ∧ RdL (rK .u8) ⟨w, fun _ => 0⟩ a c xs ∧ ∀ y ∈ xs, 0 ≤ y ∧ y < 256 := by
 obtain ⟨fuel, hf⟩ := h
 simp only [Value.okWide, Tryz.underlying89] at hok
 have hv : v.cells.toList = [v] := by
  simp only [Cell.okWide, Tryz.underlying89] at hok
  cases v <;> simp_all [Cell.ok, Value.cells]
 rw [hv] at hf
 exact ye5 Tryz.underlying89 (by kernel_rfl) op_u8 hok hf
/-- A described problem. -/
theorem ydm (hok : Value.okWide Tryz.prog w .any base 59 v) : ∃ x : yeO, GrIn x.1.2 ∧ GrIn x.2.1.2 ∧ ∀ β s, (TV.a (lx59 x)).p β s v := by
 obtain ⟨cs, rfl, h1, h2⟩ := yeN Tryz.underlying59 ye6 ye7 hok
 have h1' : cs.size = 57 := h1
 obtain ⟨f, hf⟩ := yci (α := Int) (n := 57) (p := fun i n => cs[i]? = some (.int .u8 n) ∧ 0 ≤ n ∧ n < 256) (fun i hi => by
  obtain ⟨u, hu, hu2⟩ : ∃ u, pbT[i]? = some u ∧ (u = 51 ∨ u = 5) := by
   refine ⟨pbT[i]'hi, yGe (l := pbT) hi, ?_⟩
   have := List.getElem_mem (l := pbT) hi
   generalize pbT[i]'hi = u at this
   simp only [pbT, List.mem_append, List.mem_singleton, List.mem_replicate] at this
   rcases this with (((h | h) | h) | h) | h
   ·exact .inl h
   ·exact .inr h.2
   ·exact .inl h
   ·exact .inr h.2
   ·exact .inl h
  obtain ⟨c, g1, g2⟩ := h2 i u hu
  have g2' : Cell.okWide Tryz.prog w .any base 5 c := by
   rcases hu2 with rfl | rfl
   ·simp only [Cell.okWide, Cell.ok, Tryz.underlying51, Tryz.underlying5] at g2 ⊢
    exact g2
   ·exact g2
  obtain ⟨n, rfl, g3⟩ : ∃ n : Int, c = .int .u8 n ∧ 0 ≤ n ∧ n < 256 := by
   simp only [Cell.okWide, Tryz.underlying5] at g2'
   cases c <;> simp_all [Cell.ok]
   rename_i k n
   obtain ⟨rfl, h2⟩ := g2'
   simp [IntKind.has, IntKind.min, IntKind.max, IntKind.signed, IntKind.bits] at h2
   omega
  exact ⟨n, g1, g3⟩)
 have hcs : cs = ((List.range 57).map fun i => Value.int .u8 (f i)).toArray := by
  apply Array.ext_getElem?
  intro i
  by_cases hi : i < 57
  ·rw [(hf i hi).1]; simp [hi]
  ·rw [Array.getElem?_eq_none (by omega), Array.getElem?_eq_none (by simp; omega)]
 have gr : ∀ o, o + 27 ≤ 57 → GrIn (f o, f (o + 1), ((f (o + 2), f (o + 3), f (o + 4), f (o + 5), f (o + 6)), (f (o + 7), f (o + 8), f (o + 9), f (o + 10), f (o + 11)), (f (o + 12), f (o + 13), f (o + 14), f (o + 15), f (o + 16)), (f (o + 17), f (o + 18), f (o + 19), f (o + 20), f (o + 21)), (f (o + 22), f (o + 23), f (o + 24), f (o + 25), f (o + 26)))) := fun o ho => by
  refine ⟨(hf o (by omega)).2, fun y hy => ?_⟩
  have hy2 : y ∈ (List.range 25).map fun i => f (o + (i + 2)) := hy
  obtain ⟨i, hi, rfl⟩ := List.mem_map.1 hy2
  have := List.mem_range.1 hi
  exact (hf (o + (i + 2)) (by omega)).2
 refine ⟨((f 0, f 1, f 2, ((f 3, f 4, f 5, f 6, f 7), (f 8, f 9, f 10, f 11, f 12), (f 13, f 14, f 15, f 16, f 17), (f 18, f 19, f 20, f 21, f 22), (f 23, f 24, f 25, f 26, f 27))), (f 28, f 29, f 30, ((f 31, f 32, f 33, f 34, f 35), (f 36, f 37, f 38, f 39, f 40), (f 41, f 42, f 43, f 44, f 45), (f 46, f 47, f 48, f 49, f 50), (f 51, f 52, f 53, f 54, f 55))), f 56), gr 1 (by omega), gr 29 (by omega), fun β s => ?_⟩
 refine ⟨((List.range 57).map fun i => Value.int .u8 (f i)), ?_, by rw [hcs]⟩
 exact y7r (cs := (List.range 57).map fun i => Value.int .u8 (f i)) (List.all_eq_true.2 fun x hx => by
  obtain ⟨i, _, rfl⟩ := List.mem_map.1 hx
  rfl)
end
theorem Tryz.own : ownKnob Tryz.prog.godebug = none := by kernel_rfl
theorem Tryz.laidOut : laidOutB Tryz.prog = true := by kernel_rfl
section
variable {H : Type} {enc : TypeId × Value → H}
def ybe (P : Program) (ts : List TypeId) : Bool := ts.all fun t => P.readableRec t && decide (t < P.types.size)
theorem y8l {P : Program} (hl : laidOutB P = true) {W W' : World} (hb : Below W.heap.size W W') {sp : Nat → Bool} : ∀ {ts : List TypeId} {vs : List Value} {ds : List (DataW H)} {ps : List MemPlace}, ybe P ts = true →
  DataW.TrodAll enc P W 0 (fun _ => true) true ts vs ds ps → (∀ x ∈ ps, x.block < W.heap.size) → (∀ x ∈ ps, sp x.block = true) → DataW.TrodAll enc P W' 0 sp true ts vs ds ps
 | [], [], [], _, _, h, _, _ => h
 | [], _ :: _, _, _, _, h, _, _ => h.elim
 | [], [], _ :: _, _, _, h, _, _ => h.elim
 | t :: ts, [], _, _, _, h, _, _ => h.elim
 | t :: ts, _ :: _, [], _, _, h, _, _ => h.elim
 | t :: ts, v :: vs, d :: ds, ps, hc, ⟨p, q, h1, h2, e⟩, hlt, hsp => by
  subst e
  unfold ybe at hc
  rw [List.all_cons, Bool.and_eq_true, Bool.and_eq_true] at hc
  exact ⟨p, q, WideElems.Trod_stays hl hc.1.1 (of_decide_eq_true hc.1.2) h1 (fun x hx => hb.same (hlt x (List.mem_append_left _ hx))) (fun x hx => hsp x (List.mem_append_left _ hx)),
   y8l hl hb hc.2 h2 (fun x hx => hlt x (List.mem_append_right _ hx)) (fun x hx => hsp x (List.mem_append_right _ hx)), rfl⟩
theorem ye8 {P : Program} (hl : laidOutB P = true) {f : Func} {s : ChangeSpec} {apart fresh handsOn again : Bool} {W W' : World} {args : Array Value} {ds : List (DataW H)} {before : List MemPlace} {tb : TypeId} {b : Bool}
  (hW : DataW.Whole enc P f.params.toList s.vars apart W args.toList ds [] before) (hv : s.vars = []) (hc : ybe P f.params.toList = true) (hrt : f.resultTypes = #[tb]) (ht : P.underlying tb = some .bool)
  (hr : (s.fn H (ds ++ [])).results = [.lit (.bool b)]) (ha : (s.fn H (ds ++ [])).args = ds) (hvn : (s.fn H (ds ++ [])).vars = []) (hb : Below W.heap.size W W') :
  s.post enc P f apart fresh handsOn again W args (.bool b) W' := by
 have hlt : ∀ p ∈ before, p.block < W.heap.size := fun p hp => hW.lt p hp
 have hWc := hW
 obtain ⟨p, q, hA, hV, rfl, hz, hn⟩ := hWc
 rw [hv] at hV
 obtain ⟨-, rfl⟩ := trodVars_none hV
 rw [List.append_nil] at hlt hz hn
 have hargs : ∀ sp : Nat → Bool, (∀ x ∈ p, sp x.block = true) → DataW.TrodAll enc P W' 0 sp true f.params.toList args.toList (s.fn H (ds ++ [])).args p := fun sp hsp => by
  rw [ha]; exact y8l hl hb hc hA hlt hsp
 have hres : ∀ (b0 : Nat) (sp : Nat → Bool) (hd : Bool), DataW.TrodAll enc P W' b0 sp hd f.resultTypes.toList ((Value.bool b).resultList f.resultTypes.size) (s.fn H (ds ++ [])).results [] := fun _ _ _ => by
  rw [hr, hrt]; exact trodAll_mk1 (shut_bool ht b)
 have hvars : ∀ sp : Nat → Bool, DataW.TrodVars enc P W' sp s.vars (s.fn H (ds ++ [])).vars [] := fun sp => by rw [hv, hvn]; rfl
 have hold : ∀ x ∈ p, (fun b => decide (b < W.heap.size)) x.block = true := fun x hx => by simpa using hlt x hx
 refine ⟨ds, [], p ++ [], [], p, [], hW, hres _ _ _, hargs _ hold, hvars _, World.keptBut_mono (fun x hx => ?_) (hb.frame (· ∈ p)), fun _ => ?_⟩
 ·exact ⟨by rwa [List.append_nil], Or.inr (.inl hx)⟩
 ·have hok := ok_one (f := f) (W' := W') (by rw [hrt]) rfl (okWide_bool_mk (W' := W') ht b)
  refine ⟨hok, _, _, ([] ++ p) ++ [], ⟨[] ++ p, [], trodAll_append (hargs _ (fun _ _ => rfl)) (hres _ _ _), hvars _, rfl, ?_, ?_⟩, ?_⟩
  ·intro b0 off hp
   have hin : MemPlace.cell b0 off ∈ p := by simpa using hp
   rw [hb.frozen (hlt _ hin)]
   exact hz b0 off hin
  ·intro hap
   simpa using hn hap
  ·intro x hx _
   simpa using hx
end
def lay24 : List (String × DataW Unit) := [("math/bits.deBruijn32tab", Rows.laid_math_bits_deBruijn32tab), ("math/bits.deBruijn64tab", Rows.laid_math_bits_deBruijn64tab), ("internal/strconv.uint64pow10", Rows.laid_internal_strconv_uint64pow10)]
theorem ydn (os : Os) (args : Array Value) : laidMetH Tryz.prog lay24 ((World.laidAll Tryz.prog os lay24).forCall (fun _ _ => 0) ⟨#[], args, []⟩).memory :=
 laidMetH_of_parts3 (fuel := 8) (laidMet_laidAll args (by kernel_rfl) (by kernel_rfl)) (by kernel_rfl) (by kernel_rfl)
theorem scanChoices_lifted (os : Os) (started : os.Started) (H : Type) (enc : TypeId × Value → H) :
  ReturnsInHanded {} Tryz.checked os 10 .any (fun w args => (Rows.scanChoicesSpec.pre enc Tryz.prog Tryz.f10 [] false w args ∧ laidMetH Tryz.prog lay24 w) ∧ sizedMet enc Tryz.prog Tryz.f10 (OpenSpec.ofChange Rows.scanChoicesSpec) false w args) (Rows.scanChoicesSpec.post enc Tryz.prog Tryz.f10 false true false false) := by
 refine returnsInHanded_of_change_and (C := Tryz.checked) (X := fun w _ => laidMetH Tryz.prog lay24 w) (fun _ _ _ hh h => h.of_heap hh) Tryz.own started (by kernel_rfl) Tryz.func10
  (ChangeSpec.witness_shaped (enc := enc) (C := Tryz.checked) (os := os) (X := fun w _ => laidMetH Tryz.prog lay24 w) false (World.laidAll Tryz.prog os lay24) #[.agg (Array.replicate 57 (.int .u8 0)), .slice none 0 0, .slice none 0 0] 8 (World.laidAll_os _ _ _) (World.shaped_of_ZipB (by kernel_rfl) (by kernel_rfl)) (by kernel_rfl) (by kernel_rfl) (by kernel_rfl) (ydn os _)) ?_
 intro W base args ds gs before hval0 hW _ _ _ _
 have hval : ∀ (j : Nat) t v, Tryz.f10.params[j]? = some t → args[j]? = some v → Value.okWide Tryz.prog W .any base t v := hval0
 have hW' := hW
 obtain ⟨p, q, hA0, hV, rfl, hfz, hnd⟩ := hW
 have hA : DataW.TrodAll enc Tryz.prog W 0 (fun _ => true) true Tryz.f10.params.toList args.toList ds p := hA0
 rw [Tryz.params10] at hA hval
 obtain ⟨v0, v1, v2, d0, d1, d2, p0, p1, p2, rfl, rfl, rfl, h0, h1, h2⟩ := trodAll_three hA
 obtain ⟨x, g1, g2, r0⟩ := ydm (hval 0 59 v0 rfl rfl)
 obtain ⟨a1, c1, xs, rfl, r1, b1⟩ := yay (hval 1 89 v1 rfl rfl) h1
 obtain ⟨a2, c2, ys, rfl, r2, b2⟩ := yay (hval 2 89 v2 rfl rfl) h2
 obtain ⟨rfl, rfl⟩ := trodVars_none hV
 clear hA0 hval0
 refine Calls.mono ((y5J (ybq (d := x) ⟨g1, g2⟩ b1 (cs := ys))).law (All3.c (r0 _ _) (All3.c ⟨a1, c1, rfl, r1⟩ (All3.c ⟨a2, c2, rfl, r2⟩ rfl)))) fun e W' ⟨he, hbl⟩ => ?_
 subst he
 exact ⟨_, rfl, ye8 Tryz.laidOut hW' rfl (by kernel_rfl) (by kernel_rfl) Tryz.underlying4 rfl rfl rfl hbl⟩
theorem scanChoices_holds : Rows.ScanChoicesSaid :=
 OpenClaim.holds_of_wide 10 Tryz.f10 rfl rfl rfl rfl rfl rfl rfl ⟨rfl, rfl, rfl, rfl, rfl⟩ rfl rfl rfl rfl rfl (by kernel_rfl) Tryz.func10 (by kernel_rfl)
  (of_decide_eq_true (by kernel_rfl)) (by unfold Func.isWrapper; first | (rw [if_pos (by decide +kernel)]; kernel_rfl) | (rw [if_neg (by decide +kernel)]; exact ⟨rfl, rfl⟩))
  (fun os started H enc _ => scanChoices_lifted os started H enc)
theorem scanChoices_card_holds : Rows.ScanChoicesCardSaid :=
 Claim7.holds_tied_plain_at .later [] [.data, .data, .data] true _ false
  scanChoices_holds (fun _ h => by cases h) (by kernel_rfl) (fun _ h => by cases h) scanChoices_row_tie rfl ⟨rfl, rfl⟩ (by kernel_rfl) rfl
  (fun f fn hf hfn => by
   obtain rfl : f = 10 := Option.some.inj ((show Tryz.prog.funcNamed "overseer/overseerlaw54.ScanChoices" = some 10 by kernel_rfl).symm.trans hf) |>.symm
   obtain rfl : fn = Tryz.f10 := (Option.some.inj (Tryz.func10.symm.trans hfn)).symm
   exact ⟨by kernel_rfl, fun j t ht => by
    have hm : t ∈ Tryz.f10.params := Array.mem_of_getElem? ht
    have hall : (Tryz.f10.params.toList.all fun u => !(Tryz.prog.wantsStandIn u)) = true := by kernel_rfl
    exact (show Tryz.prog.wantsStandIn t = false by simpa using List.all_eq_true.1 hall t (Array.mem_toList_iff.2 hm))⟩)
  (by kernel_rfl)
end Go.Proofs.YtidakgbibobbdaaGreatDoor
