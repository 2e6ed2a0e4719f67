/- BlockingTrims returns true for every description, and leaves its arguments as they were. The condition: three tables of Go's library (math/bits, internal/strconv) hold what their source text lays, and the card ties this to the text. -/
import Derived.Deep.Slices
import Derived.ChangeSame
import Derived.ProofKit
import Derived.Test.YtfbapajcheammaaGreatDoorRows
import Derived.Test.YtfbapajcheammaaGreatDoorTie
import Derived.Test.YtfbapajcheammaaGreatDoorCards
import Derived.Lay
import Derived.LaidMore
import Derived.LaidHandle
import Derived.SevenTiedAt
import Derived.Stop.Joined
import Derived.Test.YtfbapajcheammaaGreatDoorQT6
set_option maxRecDepth 100000
namespace Go.Proofs.YtfbapajcheammaaGreatDoor
open Go.RowKit
open Go.RowKit in
def stepF (es : List Ed) (s : Nat) (e : Int) : Option Nat := (es.find? fun x => x.f == (s : Int) && x.e == e).map fun x => x.t.toNat
def subB (us vs : List Int) : Bool := us.all (hasB vs)
def runDone (es : List Ed) : Nat → List Int → Nat × Nat
 | s, [] => (s, 0)
 | s, e :: w => match stepF es s e with
  | some t => ((runDone es t w).1, (runDone es t w).2 + 1)
  | none => (s, 0)
open Go Go.RowKit
def stF (es : List Ed) (s : Nat) (e : Int) : Int := match stepF es s e with
 | some t => (t : Int)
 | none => -1
open Go.RowKit
open Go Go.RowKit
theorem stepF_in {es : List Ed} {s t : Nat} {e : Int} (h : stepF es s e = some t) : ∃ x ∈ es, x.f = s ∧ x.e = e ∧ x.t.toNat = t := by
 unfold stepF at h
 cases hf : es.find? (fun x => x.f == (s : Int) && x.e == e) with
 | none => rw [hf] at h; cases h
 | some x =>
  rw [hf] at h
  have h1 := List.find?_some hf
  rw [Bool.and_eq_true] at h1
  exact ⟨x, List.mem_of_find?_eq_some hf, by simpa using h1.1, by simpa using h1.2, by simpa using h⟩
def scanL {α S O : Type} (g : Nat → S → α → S ⊕ O) (fin : S → O) : Nat → List α → S → O
 | _, [], s => fin s
 | i, x :: xs, s => match g i s x with
  | .inl s' => scanL g fin (i + 1) xs s'
  | .inr o => o
theorem iter_scan {α S T O : Type} {xs : List α} {f : T → Option (T ⊕ O)} (mk : Nat → S → T) (g : Nat → S → α → S ⊕ O) (fin : S → O) (P : Nat → S → Prop) (hl : xs.length < 18446744073709551615)
  (step : ∀ i (h : i < xs.length) s, P i s → (∀ s', g i s xs[i] = .inl s' → f (mk i s) = some (.inl (mk (i + 1) s')) ∧ P (i + 1) s') ∧ ∀ o, g i s xs[i] = .inr o → f (mk i s) = some (.inr o))
  (last : ∀ s, P xs.length s → f (mk xs.length s) = some (.inr (fin s))) {s : S} (h0 : P 0 s) : iter f (mk 0 s) = some (scanL g fin 0 xs s) := by
 have key : ∀ (j i : Nat), i + j = xs.length → ∀ s, P i s → iterF f (j + 1) (mk i s) = some (scanL g fin i (xs.drop i) s) := by
  intro j
  induction j with
  | zero =>
   intro i hi s h
   obtain rfl : i = xs.length := by omega
   rw [iterF_succ, last s h, List.drop_length]
   rfl
  | succ j ih =>
   intro i hi s h
   have hlt : i < xs.length := by omega
   rw [List.drop_eq_getElem_cons hlt, scanL, iterF_succ]
   cases hg : g i s xs[i] with
   | inl s' =>
    obtain ⟨h1, h2⟩ := (step i hlt s h).1 s' hg
    rw [h1]
    exact ih (i + 1) (by omega) s' h2
   | inr o => rw [(step i hlt s h).2 o hg]
 have := key xs.length 0 (by omega) s h0
 rw [List.drop_zero] at this
 exact iter_of (by omega) this
theorem indexF_eq {xs : List Int} {p : Int → Option Bool} {q : Int → Bool} (hl : xs.length < 4611686018427387904) (hp : ∀ x ∈ xs, p x = some (q x)) : m_slices_IndexFunc_int xs p = some (if xs.any q = true then ((xs.findIdx q : Nat) : Int) else -1) := by
 have h := iter_scan (f := m_slices_IndexFunc_int_l1 xs p) (xs := xs) (fun i (_ : Unit) => (i : Int)) (fun i _ y => if q y then .inr (.inr (i : Int)) else .inl ()) (fun _ => .inl ()) (fun _ _ => True) (by omega) (fun i h _ _ => by
   rw [m_slices_IndexFunc_int_l1, if_pos (ct_lt h), idx_at h, Option.bind_some, hp _ (List.getElem_mem h), Option.bind_some, nxt (by omega)]
   refine ⟨fun s' e => ?_, fun o e => ?_⟩
   ·split at e
    ·cases e
    ·rename_i h1; rw [if_neg h1]; exact ⟨rfl, trivial⟩
   ·split at e
    ·rename_i h1; rw [if_pos h1]; cases e; rfl
    ·cases e) (fun _ _ => by rw [m_slices_IndexFunc_int_l1, if_neg ct_ge]) (s := ()) trivial
 have key : ∀ (ys : List Int) (i : Nat), scanL (O := Unit ⊕ Int) (fun i (_ : Unit) y => if q y then .inr (.inr (i : Int)) else .inl ()) (fun _ => .inl ()) i ys () = if ys.any q = true then .inr ((i + ys.findIdx q : Nat) : Int) else .inl () := by
  intro ys
  induction ys with
  | nil => intro i; rfl
  | cons y ys ih =>
   intro i
   rw [scanL, List.any_cons, List.findIdx_cons]
   cases hy : q y with
   | true => rfl
   | false =>
    rw [if_neg (by simp)]
    dsimp only
    rw [ih, Bool.false_or, cond_false]
    split
    ·congr 2; omega
    ·rfl
 rw [m_slices_IndexFunc_int, show iter (m_slices_IndexFunc_int_l1 xs p) 0 = _ from h, Option.bind_some, key]
 by_cases hm : xs.any q = true
 ·rw [if_pos hm, if_pos hm]; simp
 ·rw [if_neg hm, if_neg hm]
theorem subB_of {xs ys : List Int} (h : ∀ x ∈ xs, x ∈ ys) : subB xs ys = true := List.all_eq_true.2 fun x hx => hasB_true.2 (h x hx)
theorem containsF_eq {xs : List Int} {p : Int → Option Bool} {q : Int → Bool} (hl : xs.length < 4611686018427387904) (hp : ∀ x ∈ xs, p x = some (q x)) : m_slices_ContainsFunc_int xs p = some (xs.any q) := by
 rw [m_slices_ContainsFunc_int, indexF_eq hl hp, Option.bind_some]
 by_cases hm : xs.any q = true
 ·rw [if_pos hm, hm]; simp
 ·rw [if_neg hm, show xs.any q = false by simpa using hm]; rfl
theorem any_subB (us al : List Int) : us.any (fun y => !hasB al y) = !subB us al := by
 unfold subB
 rw [Bool.eq_iff_iff]
 simp
theorem binE_go {xs : List (Int × Int × Int)} {p : (Int × Int × Int) → Int → Option Int} {c : (Int × Int × Int) → Int} {t : Int} (hp : ∀ x ∈ xs, p x t = some (c x)) (hl : xs.length < 4294967296) (hs : ∀ i j (hi : i < xs.length) (hj : j < xs.length), i < j → c xs[j] < 0 → c xs[i] < 0) :
  ∀ (f i j : Nat), j ≤ i + f → i ≤ j → j ≤ xs.length → (∀ k (h : k < xs.length), k < i → c xs[k] < 0) → (∀ k (h : k < xs.length), j ≤ k → 0 ≤ c xs[k]) →
  ∃ q : Nat, iterF (m_slices_BinarySearchFunc_api_Edge_api_Edge_int_l1 xs t p) (f + 1) ((j : Int), (i : Int)) = some (q : Int) ∧ q ≤ xs.length ∧ (∀ k (h : k < xs.length), k < q → c xs[k] < 0) ∧ (∀ k (h : k < xs.length), q ≤ k → 0 ≤ c xs[k])
 | 0, i, j, h1, h2, h3, h4, h5 => by
  obtain rfl : i = j := by omega
  refine ⟨i, ?_, h3, h4, h5⟩
  rw [iterF_succ, m_slices_BinarySearchFunc_api_Edge_api_Edge_int_l1]
  dsimp only
  rw [if_neg ct_ge]
 | f + 1, i, j, h1, h2, h3, h4, h5 => by
  by_cases hlt : i < j
  ·have hm : (i + j) / 2 < xs.length := by omega
   rw [iterF_succ, m_slices_BinarySearchFunc_api_Edge_api_Edge_int_l1]
   dsimp only
   rw [if_pos (ct_lt hlt), half_eq (by omega), idx_at hm, Option.bind_some, hp _ (List.getElem_mem hm), Option.bind_some]
   by_cases hc : c xs[(i + j) / 2] < 0
   ·rw [if_pos (decide_eq_true hc), nxt (by omega)]
    dsimp only
    refine binE_go hp hl hs f ((i + j) / 2 + 1) j (by omega) (by omega) h3 (fun k hk hlt2 => ?_) h5
    by_cases hk2 : k = (i + j) / 2
    ·subst hk2; exact hc
    ·exact hs k ((i + j) / 2) hk hm (by omega) hc
   ·rw [if_neg (by simpa using hc)]
    dsimp only
    refine binE_go hp hl hs f i ((i + j) / 2) (by omega) (by omega) (by omega) h4 (fun k hk hle => ?_)
    by_cases hk2 : k = (i + j) / 2
    ·subst hk2; omega
    ·have := mt (hs ((i + j) / 2) k hm hk (by omega)) hc
     omega
  ·obtain rfl : i = j := by omega
   refine ⟨i, ?_, h3, h4, h5⟩
   rw [iterF_succ, m_slices_BinarySearchFunc_api_Edge_api_Edge_int_l1]
   dsimp only
   rw [if_neg ct_ge]
structure AOk (a : Aut) : Prop where
 n0 : 0 ≤ a.n
 n1 : a.n ≤ 4096
 ed : ∀ x ∈ a.es, 0 ≤ x.f ∧ x.f < a.n ∧ 0 ≤ x.t ∧ x.t < a.n
 so : Sorted a.es
 el : a.es.length ≤ 1000000
 al : a.al.length ≤ 1000000
 ml : a.ms.length ≤ 1000000
theorem bin_edges {a : Aut} (h : AOk a) {p : (Int × Int × Int) → Int → Option Int} (hp : ∀ x t, p x t = some (W (x.1 - t))) {t : Nat} (ht : t ≤ 10000) :
  ∃ (q : Nat) (b : Bool), m_slices_BinarySearchFunc_api_Edge_api_Edge_int (a.es.map edP) (t : Int) p = some ((q : Int), b) ∧ q ≤ a.es.length ∧ (∀ k (hk : k < a.es.length), k < q → a.es[k].f < t) ∧ (∀ k (hk : k < a.es.length), q ≤ k → (t : Int) ≤ a.es[k].f) := by
 have hel := h.el; have hn1 := h.n1
 have hlm : (a.es.map edP).length = a.es.length := List.length_map ..
 have hat : ∀ k (hk : k < (a.es.map edP).length), (a.es.map edP)[k].1 = (a.es[k]'(by omega)).f := fun k hk => by rw [List.getElem_map]; rfl
 obtain ⟨q, h1, h2, h3, h4⟩ := binE_go (xs := a.es.map edP) (p := p) (c := fun x => x.1 - t) (t := t) (fun x hx => by
   obtain ⟨y, hy, rfl⟩ := List.mem_map.1 hx
   have := h.ed y hy
   rw [hp, W_of (by show _ ≤ y.f - _; omega) (by show y.f - _ < _; omega)]) (by omega) (fun i j hi hj hij hc => by
   rw [hat] at hc ⊢
   have hs := List.pairwise_iff_getElem.1 h.so i j (by omega) (by omega) hij
   have : (a.es[i]'(by omega)).f ≤ (a.es[j]'(by omega)).f := by rcases hs with hs | ⟨hs, _⟩ <;> omega
   omega) a.es.length 0 a.es.length (by omega) (by omega) (by omega) (fun k hk h0 => absurd h0 (Nat.not_lt_zero _)) (fun k hk h0 => by omega)
 have hr : ∃ b : Bool, (if decide ((q : Int) < ((a.es.map edP).length : Int)) then (idx (a.es.map edP) (q : Int)).bind fun x19 => (p x19 (t : Int)).bind fun r21 => some (r21 == 0) else some false) = some b := by
  by_cases hq : q < (a.es.map edP).length
  ·rw [if_pos (ct_lt hq), idx_at hq, Option.bind_some, hp, Option.bind_some]; exact ⟨_, rfl⟩
  ·rw [if_neg (by simp at hq ⊢; omega)]; exact ⟨_, rfl⟩
 obtain ⟨b, hb⟩ := hr
 refine ⟨q, b, ?_, by omega, fun k hk hlt => ?_, fun k hk hle => ?_⟩
 ·rw [m_slices_BinarySearchFunc_api_Edge_api_Edge_int, hlm, show iter (m_slices_BinarySearchFunc_api_Edge_api_Edge_int_l1 (a.es.map edP) (t : Int) p) ((a.es.length : Int), 0) = some (q : Int) from iter_of (by omega) h1, Option.bind_some]
  rw [hlm] at hb
  rw [hb]
  rfl
 ·have := h3 k (by omega) hlt
  rw [hat] at this
  omega
 ·have := h4 k (by omega) hle
  rw [hat] at this
  omega
def outL (a : Aut) (s : Nat) : List Ed := a.es.filter fun x => x.f == (s : Int)
theorem out_eq {a : Aut} (h : AOk a) {s : Nat} (hs : s ≤ 4096) : m_automaton_out (autP a) (s : Int) = some ((outL a s).map edP) := by
 have hel := h.el
 obtain ⟨q1, b1, h1, h2, h3, h4⟩ := bin_edges h (p := m_automaton_out_1) (fun x t => rfl) (t := s) (by omega)
 obtain ⟨q2, b2, g1, g2, g3, g4⟩ := bin_edges h (p := m_automaton_out_2) (fun x t => rfl) (t := s + 1) (by omega)
 have hle : q1 ≤ q2 := by
  by_cases hc : q1 ≤ q2
  ·exact hc
  ·have k1 := h3 q2 (by omega) (by omega)
   have k2 := g4 q2 (by omega) (Nat.le_refl _)
   omega
 rw [m_automaton_out, show m_slices_BinarySearchFunc_api_Edge_api_Edge_int (autP a).2.2.2 (s : Int) m_automaton_out_1 = _ from h1, Option.bind_some, nxt (by omega), show m_slices_BinarySearchFunc_api_Edge_api_Edge_int (autP a).2.2.2 ((s + 1 : Nat) : Int) m_automaton_out_2 = _ from g1, Option.bind_some]
 dsimp only
 rw [show (autP a).2.2.2 = a.es.map edP from rfl, slc, if_pos ⟨by omega, by omega, by rw [List.length_map]; omega⟩, Option.bind_some, Int.toNat_natCast, Int.toNat_natCast, ← List.map_take, ← List.map_drop]
 rw [mid_filter (fun x : Ed => x.f == (s : Int)) a.es q1 q2 hle g2 (fun k hk => ?_)]
 ·rfl
 ·rw [Bool.eq_iff_iff, beq_iff_eq, decide_eq_true_eq]
  constructor
  ·intro he
   refine ⟨?_, ?_⟩
   ·by_cases hc : q1 ≤ k
    ·exact hc
    ·have := h3 k hk (by omega); omega
   ·by_cases hc : k < q2
    ·exact hc
    ·have := g4 k hk (by omega); omega
  ·rintro ⟨k1, k2⟩
   have := h4 k hk k1
   have := g3 k hk k2
   omega
theorem find_filter2 {es : List Ed} (s e : Int) : (es.filter fun x => x.f == s).find? (fun x => x.e == e) = es.find? fun x => x.f == s && x.e == e := by
 induction es with
 | nil => rfl
 | cons x es ih =>
  cases h1 : x.f == s with
  | false => rw [List.filter_cons_of_neg (by simp [h1]), List.find?_cons_of_neg (by simp [h1]), ih]
  | true =>
   rw [List.filter_cons_of_pos (by simp [h1])]
   cases h2 : x.e == e with
   | true => rw [List.find?_cons_of_pos (by simp [h2]), List.find?_cons_of_pos (by simp [h1, h2])]
   | false => rw [List.find?_cons_of_neg (by simp [h2]), List.find?_cons_of_neg (by simp [h1, h2]), ih]
theorem indexE_eq {xs : List Ed} {e : Int} (hl : xs.length < 4611686018427387904) : m_slices_IndexFunc_Edge (xs.map edP) (m_automaton_next_1 e) = some (if xs.any (fun x => x.e == e) = true then ((xs.findIdx (fun x => x.e == e) : Nat) : Int) else -1) := by
 have hlm : (xs.map edP).length = xs.length := List.length_map ..
 have h := iter_scan (f := m_slices_IndexFunc_Edge_l1 (xs.map edP) (m_automaton_next_1 e)) (xs := xs) (fun i (_ : Unit) => (i : Int)) (fun i _ y => if y.e == e then .inr (.inr (i : Int)) else .inl ()) (fun _ => .inl ()) (fun _ _ => True) (by omega) (fun i h _ _ => by
   rw [m_slices_IndexFunc_Edge_l1, if_pos (show decide ((i : Int) < ((xs.map edP).length : Int)) = true from by rw [hlm]; exact ct_lt h), idx_at (by omega), Option.bind_some, List.getElem_map, show m_automaton_next_1 e (edP xs[i]) = some (xs[i].e == e) from rfl, Option.bind_some, nxt (by omega)]
   refine ⟨fun s' g => ?_, fun o g => ?_⟩
   ·split at g
    ·cases g
    ·rename_i h1; rw [if_neg h1]; exact ⟨rfl, trivial⟩
   ·split at g
    ·rename_i h1; rw [if_pos h1]; cases g; rfl
    ·cases g) (fun _ _ => by rw [m_slices_IndexFunc_Edge_l1, if_neg (by rw [hlm]; exact ct_ge)]) (s := ()) trivial
 have key : ∀ (ys : List Ed) (i : Nat), scanL (O := Unit ⊕ Int) (fun i (_ : Unit) y => if y.e == e then .inr (.inr (i : Int)) else .inl ()) (fun _ => .inl ()) i ys () = if ys.any (fun x => x.e == e) = true then .inr ((i + ys.findIdx (fun x => x.e == e) : Nat) : Int) else .inl () := by
  intro ys
  induction ys with
  | nil => intro i; rfl
  | cons y ys ih =>
   intro i
   rw [scanL, List.any_cons, List.findIdx_cons]
   cases hy : y.e == e with
   | true => rfl
   | false =>
    rw [if_neg (by simp)]
    dsimp only
    rw [ih, Bool.false_or, cond_false]
    split
    ·congr 2; omega
    ·rfl
 rw [m_slices_IndexFunc_Edge, show iter (m_slices_IndexFunc_Edge_l1 (xs.map edP) (m_automaton_next_1 e)) 0 = _ from h, Option.bind_some, key]
 by_cases hm : xs.any (fun x => x.e == e) = true
 ·rw [if_pos hm, if_pos hm]; simp
 ·rw [if_neg hm, if_neg hm]
theorem next_eq {a : Aut} (h : AOk a) {s : Nat} (hs : s ≤ 4096) {e : Int} : m_automaton_next (autP a) (s : Int) e = some (stF a.es s e) := by
 have hel := h.el
 have hol : (outL a s).length ≤ a.es.length := List.length_filter_le ..
 rw [m_automaton_next, out_eq h hs, Option.bind_some, indexE_eq (by omega), Option.bind_some, stF, stepF, ← find_filter2, show a.es.filter (fun x => x.f == (s : Int)) = outL a s from rfl]
 by_cases hm : (outL a s).any (fun x => x.e == e) = true
 ·have hlt : (outL a s).findIdx (fun x => x.e == e) < (outL a s).length := List.findIdx_lt_length_of_exists (by simpa [List.any_eq_true] using hm)
  rw [if_pos hm, if_neg (by simp), idx_at (by rw [List.length_map]; exact hlt), Option.bind_some, List.getElem_map]
  have hf : (outL a s).find? (fun x => x.e == e) = some ((outL a s)[(outL a s).findIdx (fun x => x.e == e)]) := by
   rw [← List.getElem?_eq_getElem hlt]
   exact (List.find?_eq_getElem?_findIdx).symm ▸ rfl
  rw [hf]
  have hmem := List.getElem_mem hlt
  have hed := h.ed _ (List.mem_filter.1 hmem).1
  show some ((outL a s)[(outL a s).findIdx (fun x => x.e == e)]).t = some ((((outL a s)[(outL a s).findIdx (fun x => x.e == e)]).t.toNat : Nat) : Int)
  rw [Int.toNat_of_nonneg hed.2.2.1]
 ·have hf : (outL a s).find? (fun x => x.e == e) = none := by
   refine List.find?_eq_none.2 fun x hx hc => hm (List.any_eq_true.2 ⟨x, hx, hc⟩)
  rw [if_neg hm, if_pos (by simp), hf]
  rfl
theorem stepF_lt {a : Aut} (h : AOk a) {s t : Nat} {e : Int} (hs : stepF a.es s e = some t) : (t : Int) < a.n := by
 obtain ⟨x, hx, _, _, rfl⟩ := stepF_in hs
 have := h.ed x hx
 omega
theorem checkS_eq {a : Aut} (h : AOk a) (he : a.err = 0) (s : Int) : m_automaton_checkState (autP a) s = some (if s < 0 ∨ a.n ≤ s then 2 else 0) := by
 have h1 := h.el; have h2 := h.al; have h3 := h.ml
 rw [m_automaton_checkState, check_eq (by omega) (by omega) (by omega), Option.bind_some, he, if_neg (by simp)]
 by_cases hc : s < 0 ∨ a.n ≤ s
 ·rw [if_pos hc, if_pos (by show (decide (s < 0) || decide (s ≥ a.n)) = true; simp; omega)]
 ·rw [if_neg hc, if_neg (by show ¬ (decide (s < 0) || decide (s ≥ a.n)) = true; simp; omega)]
theorem folW_eq {a : Aut} (h : AOk a) {w : List Int} (hl : w.length ≤ 1000000) : ∀ (j i s : Nat), i + j = w.length → (s : Int) < a.n → ∃ o, iterF (m_automaton_follow_l1 (autP a) w) (j + 1) ((i : Int), (s : Int)) = some o ∧
  (match o with | .inl u => (u, (w.length : Int)) | .inr u => (u.2, u.1)) = (((runDone a.es s (w.drop i)).1 : Int), ((i + (runDone a.es s (w.drop i)).2 : Nat) : Int)) := by
 intro j
 have hn1 := h.n1
 induction j with
 | zero =>
  intro i s hi hs
  obtain rfl : i = w.length := by omega
  rw [iterF_succ, m_automaton_follow_l1]
  dsimp only
  rw [if_neg ct_ge, List.drop_length]
  exact ⟨_, rfl, rfl⟩
 | succ j ih =>
  intro i s hi hs
  have hlt : i < w.length := by omega
  rw [iterF_succ, m_automaton_follow_l1, List.drop_eq_getElem_cons hlt, runDone]
  dsimp only
  rw [if_pos (ct_lt hlt), idx_at hlt, Option.bind_some, next_eq h (by omega), Option.bind_some, stF]
  cases hst : stepF a.es s w[i] with
  | none =>
   dsimp only
   rw [if_pos (by simp)]
   exact ⟨_, rfl, rfl⟩
  | some t =>
   dsimp only
   rw [if_neg (by simp), nxt (by omega)]
   dsimp only
   obtain ⟨o, h1, h2⟩ := ih (i + 1) t (by omega) (stepF_lt h hst)
   refine ⟨o, h1, ?_⟩
   rw [h2]
   congr 2; omega
theorem run_eq {a : Aut} (h : AOk a) (he : a.err = 0) (h0 : 0 < a.n) {w : List Int} (hl : w.length ≤ 1000000) (hw : ∀ x ∈ w, x ∈ a.al) : m_automaton_Run (autP a) 0 w = some (((runDone a.es 0 w).1 : Int), ((runDone a.es 0 w).2 : Int), 0) := by
 have hal := h.al
 obtain ⟨o, h1, h2⟩ := folW_eq h hl w.length 0 0 (by omega) (by omega)
 have hany := containsF_eq (xs := w) (p := m_automaton_Run_1 (autP a)) (q := fun y => !hasB a.al y) (by omega) (fun y hy => by
  rw [m_automaton_Run_1, show m_slices_Contains_int (autP a).1 y = some (hasB a.al y) from contains_eq (xs := a.al) (by omega)]; rfl)
 rw [m_automaton_Run, checkS_eq h he, Option.bind_some, if_neg (show ¬ ((0 : Int) < 0 ∨ a.n ≤ 0) by omega), if_neg (by simp), hany, Option.bind_some, any_subB, subB_of hw, if_neg (by simp), m_automaton_follow, show iter (m_automaton_follow_l1 (autP a) w) (0, 0) = some o from iter_of (by omega) h1, Option.bind_some]
 rw [List.drop_zero, Nat.zero_add] at h2
 cases o with
 | inl u =>
  dsimp only at h2 ⊢
  rw [h2]; rfl
 | inr u =>
  dsimp only at h2 ⊢
  rw [h2]; rfl
end Go.Proofs.YtfbapajcheammaaGreatDoor

namespace Go.Proofs.YtfbapajcheammaaGreatDoor
open Go Go.RowKit
theorem Right.aok {a : AutT} {n : Nat} (hr : Right a n) : AOk (toAut a) := by
 have hn := hr.nn
 have hl := hr.nl
 have hN : (toAut a).n = (n : Int) := hn
 exact ⟨by rw [hN]; omega, by rw [hN]; omega, fun x hx => by rw [hN]; exact hr.ein x hx, hr.sorted, by show (a.2.2.2.map toEd).length ≤ _; rw [List.length_map]; exact hr.l3, hr.l1, hr.l2⟩
theorem aout_eq {a : AutT} {n : Nat} (hr : Right a n) {s : Nat} (hs : s < n) : m_automaton_out a (s : Int) = some (a.2.2.2.filter fun x => x.1 == (s : Int)) := by
 have hl := hr.nl
 have h := out_eq hr.aok (s := s) (by omega)
 rw [autP_toAut] at h
 rw [h, outL]
 show some (((a.2.2.2.map toEd).filter fun x => x.f == (s : Int)).map edP) = _
 rw [List.filter_map, List.map_map]
 congr 1
 exact List.map_id' _
structure CI (a : AutT) (n : Nat) (os : List (Int × Int × Int)) (i j : Nat) (Q NM : List Int) (E : List (Int × Int × Int)) : Prop where
 pos : 0 < Q.length
 nl : NM.length = n
 cnt : Q.length + NM.count (-1) = n
 qr : ∀ s ∈ Q, 0 ≤ s ∧ s < (n : Int)
 nv : ∀ v ∈ NM, v = -1 ∨ (0 ≤ v ∧ v < (Q.length : Int))
 er : ∀ x ∈ E, 0 ≤ x.1 ∧ x.1 ≤ (i : Int) ∧ 0 ≤ x.2.2 ∧ x.2.2 < (Q.length : Int) ∧ x.2.1 ∈ a.1
 es : ∀ x ∈ E, x.1 = (i : Int) → ∃ k, k < j ∧ ∃ h : k < os.length, x.2.1 = os[k].2.1
 so : E.Pairwise fun x y => x.1 < y.1 ∨ (x.1 = y.1 ∧ x.2.1 < y.2.1)
 el : E.length ≤ 24 * i + j
section
variable {a : AutT} {n : Nat} {os : List (Int × Int × Int)} {i j : Nat} {Q NM : List Int} {E : List (Int × Int × Int)}
theorem CI.edge (h : CI a n os i j Q NM E) (hso : os.Pairwise fun x y => x.2.1 < y.2.1) (hj : j < os.length) (he : os[j].2.1 ∈ a.1) {q : Int} (h0 : 0 ≤ q) (h1 : q < (Q.length : Int)) : CI a n os i (j + 1) Q NM (E ++ [((i : Int), os[j].2.1, q)]) := by
 refine ⟨h.pos, h.nl, h.cnt, h.qr, h.nv, fun x hx => ?_, fun x hx e => ?_, ?_, by have := h.el; rw [List.length_append, List.length_singleton]; omega⟩
 ·rcases List.mem_append.1 hx with hx | hx
  ·exact h.er x hx
  ·rw [List.mem_singleton.1 hx]; exact ⟨by dsimp only; omega, by dsimp only; omega, h0, h1, he⟩
 ·rcases List.mem_append.1 hx with hx | hx
  ·obtain ⟨k, hk, hk2, e2⟩ := h.es x hx e
   exact ⟨k, by omega, hk2, e2⟩
  ·rw [List.mem_singleton.1 hx]; exact ⟨j, by omega, hj, rfl⟩
 ·rw [List.pairwise_append]
  refine ⟨h.so, List.pairwise_singleton _ _, fun x hx b hb => ?_⟩
  rw [List.mem_singleton.1 hb]
  have h2 := h.er x hx
  by_cases e : x.1 = (i : Int)
  ·obtain ⟨k, hk, hk2, e2⟩ := h.es x hx e
   exact .inr ⟨e, by dsimp only; rw [e2]; exact List.pairwise_iff_getElem.1 hso k j hk2 hj hk⟩
  ·exact .inl (by dsimp only; omega)
theorem CI.new (h : CI a n os i j Q NM E) {t : Nat} (ht : t < n) (hm : NM[t]? = some (-1)) : CI a n os i j (Q ++ [(t : Int)]) (NM.set t (Q.length : Int)) E := by
 have hc := h.cnt
 have := count_setm (v := (Q.length : Int)) hm (by omega)
 refine ⟨by simp, by rw [List.length_set]; exact h.nl, by rw [List.length_append, List.length_singleton]; omega, fun s hs => ?_, fun v hv => ?_, fun x hx => ?_, h.es, h.so, h.el⟩
 ·rcases List.mem_append.1 hs with hs | hs
  ·exact h.qr s hs
  ·rw [List.mem_singleton.1 hs]; omega
 ·rw [List.length_append, List.length_singleton]
  rcases List.mem_or_eq_of_mem_set hv with hv | rfl
  ·have := h.nv v hv; omega
  ·omega
 ·rw [List.length_append, List.length_singleton]
  have := h.er x hx
  exact ⟨this.1, this.2.1, this.2.2.1, by omega, this.2.2.2.2⟩
theorem CI.next {os' : List (Int × Int × Int)} (h : CI a n os i j Q NM E) (hj : j ≤ 24) : CI a n os' (i + 1) 0 Q NM E :=
 ⟨h.pos, h.nl, h.cnt, h.qr, h.nv, fun x hx => by have := h.er x hx; exact ⟨this.1, by omega, this.2.2⟩, fun x hx e => by have := h.er x hx; omega, h.so, by have := h.el; omega⟩
end
theorem canon_inner {a : AutT} {n : Nat} (hn6 : n ≤ 6) {os : List (Int × Int × Int)} (hso : os.Pairwise fun x y => x.2.1 < y.2.1) (hos : ∀ x ∈ os, 0 ≤ x.2.2 ∧ x.2.2 < (n : Int) ∧ x.2.1 ∈ a.1) (hl : os.length ≤ 24) {i : Nat} (hi6 : i ≤ 6) (z : List Int × List Int × List Int × List (Int × Int × Int)) {Q NM : List Int} {E : List (Int × Int × Int)} (h : CI a n os i 0 Q NM E) :
  ∃ Q' NM' E', iter (m_automaton_canonical_l3 ((i : Int), z) os) (0, Q, NM, E) = some (Q', NM', E') ∧ CI a n os i os.length Q' NM' E' ∧ ∃ U, Q' = Q ++ U := by
 obtain ⟨o, h1, h2⟩ := iter_inv (f := m_automaton_canonical_l3 ((i : Int), z) os) (fun j s => s.1 = (j : Int) ∧ j ≤ os.length ∧ CI a n os i j s.2.1 s.2.2.1 s.2.2.2 ∧ ∃ U, s.2.1 = Q ++ U) (fun o => CI a n os i os.length o.1 o.2.1 o.2.2 ∧ ∃ U, o.1 = Q ++ U) os.length 0 (by omega) (fun j s hj ⟨e1, _, hC, U, hU⟩ => by
   obtain ⟨k, Q1, NM, E⟩ := s
   dsimp only at e1 hC hU
   subst e1
   have hx := hos _ (List.getElem_mem hj)
   obtain ⟨t, ht⟩ : ∃ t : Nat, os[j].2.2 = t := ⟨os[j].2.2.toNat, by omega⟩
   have htn : t < n := by omega
   have hnl := hC.nl
   have hcnt := hC.cnt
   have hel := hC.el
   have htl : t < NM.length := by omega
   have hj2 : ∀ (Q2 NM2 : List Int) (hh : t < NM2.length), m_automaton_canonical_j2 ((i : Int), z) ((j : Int), Q1, NM, E) os[j] Q2 NM2 = some (.inl (((j + 1 : Nat) : Int), Q2, NM2, E ++ [((i : Int), os[j].2.1, NM2[t])])) := fun Q2 NM2 hh => by
    rw [m_automaton_canonical_j2]
    dsimp only
    rw [ht, idx_at hh, Option.bind_some, app_eq (by simp; omega), Option.bind_some, nxt (by omega)]
   left
   rw [m_automaton_canonical_l3]
   dsimp only
   rw [if_pos (ct_lt hj), idx_at hj, Option.bind_some, ht, idx_at htl, Option.bind_some]
   rcases hC.nv _ (List.getElem_mem htl) with hv | hv
   ·have hnew := hC.new htn (by rw [List.getElem?_eq_getElem htl, hv])
    rw [if_pos (by rw [hv]; rfl), Option.bind_some, upd_at htl, Option.bind_some, app_eq (by simp; omega), Option.bind_some, hj2 _ _ (by rw [List.length_set]; exact htl)]
    refine ⟨_, rfl, rfl, by omega, ?_, U ++ [(t : Int)], by dsimp only; rw [hU, List.append_assoc]⟩
    refine hnew.edge hso hj hx.2.2 ?_ ?_
    ·rw [List.getElem_set_self]; omega
    ·rw [List.getElem_set_self, List.length_append, List.length_singleton]; omega
   ·rw [if_neg (by simp; omega), hj2 _ _ htl]
    exact ⟨_, rfl, rfl, by omega, hC.edge hso hj hx.2.2 hv.1 hv.2, U, hU⟩) (fun s ⟨e1, _, hC, U, hU⟩ => by
   obtain ⟨k, Q1, NM, E⟩ := s
   dsimp only at e1 hC hU
   subst e1
   refine ⟨(Q1, NM, E), ?_, hC, U, hU⟩
   rw [m_automaton_canonical_l3]
   dsimp only
   rw [if_neg ct_ge]) (Nat.zero_le _) (0, Q, NM, E) ⟨rfl, Nat.zero_le _, h, [], (List.append_nil _).symm⟩
 obtain ⟨Q', NM', E'⟩ := o
 exact ⟨Q', NM', E', h1, h2.1, h2.2⟩
theorem canon_ex {a : AutT} {n : Nat} (hr : Right a n) (h1 : 1 ≤ n) (h6 : n ≤ 6) (hE : a.2.2.2.length ≤ 24) : ∃ k M E, m_automaton_canonical a = some (a.1, ((k : Nat) : Int), M, E) ∧ 1 ≤ k ∧ k ≤ 6 ∧ ∀ M' : List Int, Inc M' → (∀ x ∈ M', 0 ≤ x ∧ x < (k : Int)) → Right (a.1, (k : Int), M', E) k := by
 have hnn := hr.nn
 have hl1 := hr.l1
 have hf : iter (m_automaton_canonical_l1 (List.replicate n 0)) (0, List.replicate n 0) = some (List.replicate n (-1)) := by
  obtain ⟨o, g1, rfl⟩ := iter_inv (f := m_automaton_canonical_l1 (List.replicate n 0)) (fun i s => i ≤ n ∧ s = ((i : Int), List.replicate i (-1) ++ List.replicate (n - i) 0)) (fun o => o = List.replicate n (-1)) n 0 (by omega) (fun i s hi ⟨_, e1⟩ => by
    subst e1
    refine .inl ⟨(((i + 1 : Nat) : Int), List.replicate (i + 1) (-1) ++ List.replicate (n - (i + 1)) 0), ?_, hi, rfl⟩
    rw [m_automaton_canonical_l1]
    dsimp only
    rw [if_pos (by simp; omega), idx_at (by simp; omega), Option.bind_some, upd_at (by simp; omega), Option.bind_some, nxt (by omega)]
    rw [List.set_append_right _ _ (by simp), List.length_replicate, Nat.sub_self, show n - i = (n - (i + 1)) + 1 by omega, List.replicate_succ, List.set_cons_zero, List.replicate_succ', List.append_assoc]
    rfl) (fun s ⟨_, e1⟩ => by
    subst e1
    refine ⟨_, ?_, rfl⟩
    rw [m_automaton_canonical_l1]
    dsimp only
    rw [if_neg (by simp), Nat.sub_self]
    simp) (Nat.zero_le _) (0, List.replicate n 0) ⟨Nat.zero_le _, by simp⟩
  exact g1
 have hbin : ∀ x : Int, ∃ r, m_slices_BinarySearch_int a.2.2.1 x = some r := fun x => by
  have h := containsA_eq (xs := a.2.2.1) (t := x) (by have := hr.l2; omega) hr.msi
  rw [m_alphabet_Contains] at h
  obtain ⟨r, h, _⟩ := bindS h
  exact ⟨r, h⟩
 have h0 : CI a n [] 0 0 [0] ((List.replicate n (-1)).set 0 0) [] := by
  have hc := count_setm (l := List.replicate n (-1)) (j := 0) (v := 0) (by rw [List.getElem?_replicate, if_pos (by omega)]) (by omega)
  rw [List.count_replicate_self] at hc
  refine ⟨by simp, by simp, by simp only [List.length_singleton]; omega, fun s hs => by rw [List.mem_singleton.1 hs]; omega, fun v hv => ?_, fun x hx => (by cases hx), fun x hx => (by cases hx), List.Pairwise.nil, by simp⟩
  rcases List.mem_or_eq_of_mem_set hv with hv | rfl
  ·exact .inl (List.eq_of_mem_replicate hv)
  ·exact .inr ⟨by omega, by simp⟩
 obtain ⟨o, g1, g2⟩ := iter_inv (f := m_automaton_canonical_l2 a) (fun i s => s.1 = (i : Int) ∧ i ≤ s.2.1.length ∧ s.2.2.2.1.length ≤ i ∧ CI a n [] i 0 s.2.1 s.2.2.1 s.2.2.2.2) (fun o => ∃ NM, CI a n [] o.1.length 0 o.1 NM o.2.2) n 0 (by omega) (fun i s hi ⟨e1, hle, hM, hC⟩ => by
   obtain ⟨k, Q, NM, M, E⟩ := s
   dsimp only at e1 hle hM hC
   subst e1
   have hcnt := hC.cnt
   by_cases hiq : i < Q.length
   ·left
    have hq := hC.qr _ (List.getElem_mem hiq)
    obtain ⟨s, hs⟩ : ∃ s : Nat, Q[i] = s := ⟨Q[i].toNat, by omega⟩
    have hsn : s < n := by omega
    obtain ⟨os, hos⟩ : ∃ os, os = a.2.2.2.filter fun x => x.1 == (s : Int) := ⟨_, rfl⟩
    have hmem : ∀ x ∈ os, x ∈ a.2.2.2 ∧ x.1 = (s : Int) := fun x hx => by
     rw [hos] at hx
     have := List.mem_filter.1 hx
     exact ⟨this.1, by simpa using this.2⟩
    have hso : os.Pairwise fun x y => x.2.1 < y.2.1 := by
     have h := hr.so.filter (fun x => x.1 == (s : Int))
     rw [← hos] at h
     refine h.imp_of_mem fun {x y} hx hy hxy => ?_
     have := (hmem x hx).2
     have := (hmem y hy).2
     omega
    have hol : os.length ≤ 24 := by rw [hos]; exact Nat.le_trans (List.length_filter_le _ _) hE
    obtain ⟨Q', NM', E', w1, w2, U, hU⟩ := canon_inner h6 hso (fun x hx => by have := hr.es x (hmem x hx).1; exact ⟨this.2.2.1, this.2.2.2.1, this.2.2.2.2⟩) hol (i := i) (by omega) (Q, NM, M, E) (Q := Q) (NM := NM) (E := E) ⟨hC.pos, hC.nl, hC.cnt, hC.qr, hC.nv, hC.er, fun x hx e => by obtain ⟨k, hk, _⟩ := hC.es x hx e; omega, hC.so, hC.el⟩
    have hj1 : ∀ M' : List Int, m_automaton_canonical_j1 a ((i : Int), Q, NM, M, E) M' = some (.inl (((i + 1 : Nat) : Int), Q', NM', M', E')) := fun M' => by
     rw [m_automaton_canonical_j1]
     dsimp only
     rw [idx_at hiq, Option.bind_some, hs, aout_eq hr hsn, Option.bind_some, ← hos, w1, Option.bind_some, nxt (by omega)]
    obtain ⟨r, hbr⟩ := hbin Q[i]
    rw [m_automaton_canonical_l2]
    dsimp only
    rw [if_pos (ct_lt hiq), idx_at hiq, Option.bind_some, hbr, Option.bind_some]
    have hql : i + 1 ≤ Q'.length := by rw [hU, List.length_append]; omega
    cases hb : r.2 with
    | true =>
     rw [if_pos rfl, app_eq (by simp; omega), Option.bind_some, hj1]
     exact ⟨_, rfl, rfl, hql, by simp; omega, w2.next hol⟩
    | false =>
     rw [if_neg (by simp), hj1]
     exact ⟨_, rfl, rfl, hql, by dsimp only; omega, w2.next hol⟩
   ·right
    obtain rfl : i = Q.length := by omega
    refine ⟨(Q, M, E), ?_, NM, hC⟩
    rw [m_automaton_canonical_l2]
    dsimp only
    rw [if_neg ct_ge]) (fun s ⟨e1, hle, hM, hC⟩ => by
   obtain ⟨k, Q, NM, M, E⟩ := s
   dsimp only at e1 hle hM hC
   subst e1
   have hcnt := hC.cnt
   have hnq : n = Q.length := by omega
   refine ⟨(Q, M, E), ?_, NM, by dsimp only; rw [← hnq]; exact hC⟩
   rw [m_automaton_canonical_l2]
   dsimp only
   rw [if_neg (by simp; omega)]) (Nat.zero_le _) (0, [0], (List.replicate n (-1)).set 0 0, [], []) ⟨rfl, by simp, by simp, h0⟩
 obtain ⟨Q, M, E⟩ := o
 obtain ⟨NM, hC⟩ := g2
 dsimp only at hC
 have hcnt := hC.cnt
 have hel := hC.el
 refine ⟨Q.length, M, E, ?_, hC.pos, by omega, fun M' hMi hMr => ⟨rfl, by omega, hr.ali, hr.alr, hMi, hMr, fun x hx => ?_, hC.so, hl1, ?_, by dsimp only; omega⟩⟩
 ·have hcl : m_slices_Clone_int a.1 = some a.1 := clone_eq (by omega)
  rw [m_automaton_canonical, hcl, Option.bind_some, if_neg (by rw [hnn]; simp; omega), hnn, mkL_eq (by omega) (by omega), Option.bind_some, Int.toNat_natCast, hf, Option.bind_some, show idx (List.replicate n (-1 : Int)) 0 = some (-1) by rw [show (0 : Int) = ((0 : Nat) : Int) from rfl, idx_at (by simp; omega)]; simp, Option.bind_some, show upd (List.replicate n (-1 : Int)) 0 0 = some ((List.replicate n (-1)).set 0 0) from upd_at (i := 0) (by simp; omega), Option.bind_some, g1]
  rfl
 ·have h2 := hC.er x hx
  refine ⟨h2.1, ?_, h2.2.2⟩
  rcases Int.lt_or_le x.1 (Q.length : Int) with h4 | h4
  ·exact h4
  ·obtain ⟨k, hk, _⟩ := hC.es x hx (by omega)
   omega
 ·have := inc_len (n := 6) (lo := 0) hMi (fun x hx => by have := hMr x hx; omega) (Int.le_refl _)
  dsimp only
  omega
theorem closed_ex {a : AutT} {n : Nat} (hr : Right a n) (h1 : 1 ≤ n) (h6 : n ≤ 6) (hE : a.2.2.2.length ≤ 24) : ∃ c k, m_automaton_Closed a = some (c, 0) ∧ 1 ≤ k ∧ k ≤ 6 ∧ Right c k ∧ ∀ x : Int, 0 ≤ x → x < (k : Int) → x ∈ c.2.2.1 := by
 obtain ⟨k, M, E, hc, k1, k6, hR⟩ := canon_ex hr h1 h6 hE
 obtain ⟨o, g1, rfl⟩ := iter_inv (f := m_automaton_Closed_l1 (a.1, ((k : Nat) : Int), M, E)) (fun i s => i ≤ k ∧ s = ((i : Int), allL i)) (fun o => o = allL k) k 0 (by omega) (fun i s hi ⟨_, e1⟩ => by
   subst e1
   refine .inl ⟨(((i + 1 : Nat) : Int), allL (i + 1)), ?_, hi, rfl⟩
   rw [m_automaton_Closed_l1]
   dsimp only
   rw [if_pos (by simp; omega), app_eq (by have := allL_len i; simp; omega), Option.bind_some, nxt (by omega), allL_succ]) (fun s ⟨_, e1⟩ => by
   subst e1
   refine ⟨_, ?_, rfl⟩
   rw [m_automaton_Closed_l1]
   dsimp only
   rw [if_neg (by simp)]) (Nat.zero_le _) (0, []) ⟨Nat.zero_le _, rfl⟩
 refine ⟨(a.1, (k : Int), allL k, E), k, ?_, k1, k6, hR _ (allL_inc k) (allL_in k), fun x x0 x1 => hasB_true.1 (allL_has x0 x1)⟩
 rw [m_automaton_Closed, hr.check, Option.bind_some, if_neg (by simp), hc, Option.bind_some, g1]
 rfl
end Go.Proofs.YtfbapajcheammaaGreatDoor

namespace Go.Proofs.YtfbapajcheammaaGreatDoor
open Go Go.RowKit
def choL (p : List Int) (a b : Int) (k : Nat) : List Int := ((List.range k).filter fun i => decide (a ≤ p.getD i 0 ∧ p.getD i 0 ≤ b)).map fun (i : Nat) => (i : Int)
theorem choL_succ (p : List Int) (a b : Int) (k : Nat) : choL p a b (k + 1) = if a ≤ p.getD k 0 ∧ p.getD k 0 ≤ b then choL p a b k ++ [(k : Int)] else choL p a b k := by
 unfold choL
 rw [List.range_succ, List.filter_append, List.map_append]
 by_cases h : a ≤ p.getD k 0 ∧ p.getD k 0 ≤ b
 ·rw [if_pos h, List.filter_cons_of_pos (by simpa using h)]; rfl
 ·rw [if_neg h, List.filter_cons_of_neg (by simpa using h)]; simp
theorem choL_len (p : List Int) (a b : Int) (k : Nat) : (choL p a b k).length ≤ k := by
 unfold choL
 rw [List.length_map]
 exact Nat.le_trans (List.length_filter_le _ _) (by simp)
theorem Rch.refl (es : List Ed) (x : Int) : Rch es x x := ⟨0, List.mem_singleton.2 rfl⟩
theorem reachIn_trans {es : List Ed} {y z : Int} {j : Nat} (hz : ReachIn es [z] j y) : ∀ {k : Nat} {x : Int}, ReachIn es [y] k x → ReachIn es [z] (k + j) x
 | 0, x, h => by rw [List.mem_singleton.1 h, Nat.zero_add]; exact hz
 | k + 1, x, ⟨e, he, h1, h2⟩ => by
  rw [Nat.add_right_comm]
  exact ⟨e, he, h1, reachIn_trans hz h2⟩
theorem Rch.trans {es : List Ed} {x y z : Int} (h : Rch es x y) (h2 : Rch es y z) : Rch es x z := by
 obtain ⟨k, h⟩ := h
 obtain ⟨j, h2⟩ := h2
 exact ⟨_, reachIn_trans h2 h⟩
def DeadS (p : AutT) (x : Int) : Prop := ∀ e ∈ p.2.2.2, e.1 ≠ x
def NoM (p : AutT) (x : Int) : Prop := ∀ k, ¬ ReachIn (edsOf p) p.2.2.1 k x
def KindIs (p : AutT) (x k : Int) : Prop :=
 (k = 1 ∧ x ∈ p.2.2.1) ∨ (k = 2 ∧ x ∉ p.2.2.1 ∧ ¬ NoM p x) ∨ (k = 3 ∧ NoM p x ∧ DeadS p x) ∨
 (k = 5 ∧ NoM p x ∧ ¬ DeadS p x ∧ ∃ y, Rch (edsOf p) x y ∧ DeadS p y) ∨ (k = 4 ∧ NoM p x ∧ ¬ DeadS p x ∧ ∀ y, Rch (edsOf p) x y → ¬ DeadS p y)
theorem NoM.not {p : AutT} {x : Int} (h : NoM p x) : x ∉ p.2.2.1 := fun hx => h 0 hx
theorem KindIs.block {p : AutT} {x k : Int} (h : KindIs p x k) : (3 ≤ k ∧ k ≤ 5) ↔ NoM p x := by
 have hn : NoM p x → x ∉ p.2.2.1 := NoM.not
 rcases h with ⟨rfl, h1⟩ | ⟨rfl, h1, h2⟩ | ⟨rfl, h1, h2⟩ | ⟨rfl, h1, h2, y, h3, h4⟩ | ⟨rfl, h1, h2, h3⟩
 ·exact ⟨fun h => by omega, fun h => absurd h1 (hn h)⟩
 ·exact ⟨fun h => by omega, fun h => absurd h h2⟩
 ·exact ⟨fun _ => h1, fun _ => by omega⟩
 ·exact ⟨fun _ => h1, fun _ => by omega⟩
 ·exact ⟨fun _ => h1, fun _ => by omega⟩
theorem noM_iff {p : AutT} {x : Int} : NoM p x ↔ ∀ y ∈ p.2.2.1, ¬ Rch (edsOf p) x y := by
 constructor
 ·rintro h y hy ⟨k, hk⟩
  exact h k (reachIn_iff.2 ⟨y, hy, hk⟩)
 ·intro h k hk
  obtain ⟨y, hy, h1⟩ := reachIn_iff.1 hk
  exact h y hy ⟨k, h1⟩
theorem Right.rch {p : AutT} {n : Nat} (hR : Right p n) {x y : Int} (h0 : 0 ≤ x ∧ x < (n : Int)) (h : Rch (edsOf p) x y) : 0 ≤ y ∧ y < (n : Int) :=
 h.closed (S := fun z => 0 ≤ z ∧ z < (n : Int)) (fun e he _ => (hR.ein e he).2.2) h0
def KindsOf (p : AutT) (n : Nat) (ks : List Int) : Prop := ks.length = n ∧ ∀ i (h : i < ks.length), KindIs p (i : Int) ks[i]
theorem busy_ex {p : AutT} {n : Nat} (hR : Right p n) : ∃ F : List Bool, iter (m_blocking_kinds_l1 p) (0, List.replicate n false) = some F ∧ F.length = n ∧ ∀ s : Nat, s < n → (F[s]? = some false ↔ DeadS p s) := by
 have hl3 := hR.l3
 obtain ⟨o, h1, h2, h3⟩ := iter_inv (f := m_blocking_kinds_l1 p) (fun i s => s.1 = (i : Int) ∧ s.2.length = n ∧ ∀ k : Nat, k < n → (s.2[k]? = some false ↔ ∀ e ∈ p.2.2.2.take i, e.1 ≠ (k : Int))) (fun F => F.length = n ∧ ∀ s : Nat, s < n → (F[s]? = some false ↔ DeadS p s)) p.2.2.2.length 0 (by omega) (fun i s hi ⟨e1, g1, g2⟩ => by
   obtain ⟨k, F⟩ := s
   dsimp only at e1 g1 g2
   subst e1
   have hx := hR.es _ (List.getElem_mem hi)
   obtain ⟨y, hy⟩ := Int.eq_ofNat_of_zero_le hx.1
   have hyn : y < n := by omega
   have hyF : y < F.length := by omega
   left
   rw [m_blocking_kinds_l1]
   dsimp only
   rw [if_pos (ct_lt hi), idx_at hi, Option.bind_some, hy, idx_at hyF, Option.bind_some, upd_at hyF, Option.bind_some, nxt (by omega)]
   refine ⟨_, rfl, rfl, by simp [g1], fun k hk => ?_⟩
   dsimp only
   rw [take_snoc _ i hi]
   by_cases e : y = k
   ·subst e
    rw [List.getElem?_set_self hyF]
    exact ⟨fun h => by simp at h, fun h => absurd hy (h _ (List.mem_append_right _ (List.mem_singleton.2 rfl)))⟩
   ·rw [List.getElem?_set_ne e, g2 k hk]
    constructor
    ·intro h x hx
     rcases List.mem_append.1 hx with hx | hx
     ·exact h x hx
     ·rw [List.mem_singleton.1 hx, hy]; omega
    ·exact fun h x hx => h x (List.mem_append_left _ hx)) (fun s ⟨e1, g1, g2⟩ => by
   obtain ⟨k, F⟩ := s
   dsimp only at e1 g1 g2
   subst e1
   refine ⟨F, ?_, g1, fun s hs => by rw [g2 s hs, List.take_length]; rfl⟩
   rw [m_blocking_kinds_l1]
   dsimp only
   rw [if_neg ct_ge]) (Nat.zero_le _) (0, List.replicate n false) ⟨rfl, by simp, fun k hk => by simp [hk]⟩
 exact ⟨o, h1, h2, h3⟩
theorem deads_ex {p : AutT} {n : Nat} (hR : Right p n) {R : List Int} {F : List Bool} (hRl : R.length = n) (hF : F.length = n) : ∃ D, iter (m_blocking_kinds_l2 R F) (0, ([] : List Int)) = some D ∧ Inc D ∧ (∀ s ∈ D, 0 ≤ s ∧ s < (n : Int)) ∧ ∀ s : Nat, s < n → ((s : Int) ∈ D ↔ R.getD s 0 < 0 ∧ F[s]? = some false) := by
 have hnl := hR.nl
 obtain ⟨o, h1, h2⟩ := iter_inv (f := m_blocking_kinds_l2 R F) (fun i s => s.1 = (i : Int) ∧ Inc s.2 ∧ (∀ x ∈ s.2, 0 ≤ x ∧ x < (i : Int)) ∧ ∀ k : Nat, k < i → ((k : Int) ∈ s.2 ↔ R.getD k 0 < 0 ∧ F[k]? = some false)) (fun D => Inc D ∧ (∀ s ∈ D, 0 ≤ s ∧ s < (n : Int)) ∧ ∀ s : Nat, s < n → ((s : Int) ∈ D ↔ R.getD s 0 < 0 ∧ F[s]? = some false)) n 0 (by omega) (fun i s hi ⟨e1, g1, g2, g3⟩ => by
   obtain ⟨k, D⟩ := s
   dsimp only at e1 g1 g2 g3
   subst e1
   have hiR : i < R.length := by omega
   have hiF : i < F.length := by omega
   have hDl := inc_len (n := i) (lo := 0) g1 g2 (Int.le_refl _)
   have hj : ∀ u, m_blocking_kinds_j1 ((i : Int), D) u = some (.inl (((i + 1 : Nat) : Int), u)) := fun u => by
    rw [m_blocking_kinds_j1]; dsimp only; rw [nxt (by omega)]
   have hb : (if decide (R[i] < 0) = true then (idx F (i : Int)).bind fun x => some (!x) else some false) = some (decide (R[i] < 0 ∧ F[i] = false)) := by
    by_cases h : R[i] < 0
    ·rw [if_pos (by simpa using h), idx_at hiF, Option.bind_some]; simp [h]
    ·rw [if_neg (by simpa using h)]; simp [h]
   have hnot : (i : Int) ∉ D := fun h => by have := g2 _ h; omega
   left
   rw [m_blocking_kinds_l2]
   dsimp only
   rw [hRl, if_pos (ct_lt hi), idx_at hiR, Option.bind_some, hb, Option.bind_some]
   have hg : R.getD i 0 = R[i] := by rw [List.getD_eq_getElem?_getD, List.getElem?_eq_getElem hiR]; rfl
   have hgF : F[i]? = some F[i] := List.getElem?_eq_getElem hiF
   by_cases hc : R[i] < 0 ∧ F[i] = false
   ·rw [if_pos (by simpa using hc), app_eq (by simp; omega), Option.bind_some, hj]
    refine ⟨_, rfl, rfl, ?_, fun x hx => ?_, fun k hk => ?_⟩
    ·dsimp only
     unfold Inc at g1 ⊢
     rw [List.pairwise_append]
     exact ⟨g1, List.pairwise_singleton _ _, fun a ha b hb => by rw [List.mem_singleton.1 hb]; exact (g2 a ha).2⟩
    ·dsimp only at hx
     rcases List.mem_append.1 hx with hx | hx
     ·have := g2 x hx; omega
     ·rw [List.mem_singleton.1 hx]; omega
    ·dsimp only
     rw [List.mem_append, List.mem_singleton]
     by_cases e : k < i
     ·rw [g3 k e]; exact ⟨fun h => h.resolve_right (by omega), .inl⟩
     ·obtain rfl : k = i := by omega
      rw [hg, hgF]
      exact ⟨fun _ => ⟨hc.1, by rw [hc.2]⟩, fun _ => .inr rfl⟩
   ·rw [if_neg (by simpa using hc), hj]
    refine ⟨_, rfl, rfl, g1, fun x hx => by have := g2 x hx; omega, fun k hk => ?_⟩
    dsimp only
    by_cases e : k < i
    ·exact g3 k e
    ·obtain rfl : k = i := by omega
     rw [hg, hgF]
     exact ⟨fun h => absurd h hnot, fun h => absurd ⟨h.1, Option.some.inj h.2⟩ hc⟩) (fun s ⟨e1, g1, g2, g3⟩ => by
   obtain ⟨k, D⟩ := s
   dsimp only at e1 g1 g2 g3
   subst e1
   refine ⟨D, ?_, g1, g2, g3⟩
   rw [m_blocking_kinds_l2]
   dsimp only
   rw [hRl, if_neg ct_ge]) (Nat.zero_le _) (0, []) ⟨rfl, List.Pairwise.nil, fun x hx => (by cases hx), fun k hk => absurd hk (by omega)⟩
 exact ⟨o, h1, h2⟩
noncomputable abbrev testsL (R E : List Int) : List (Int × (Option (Int → Option Bool))) := [(1, (some (m_blocking_kinds_1 R))), (2, (some (m_blocking_kinds_2 R))), (3, (some (m_blocking_kinds_3 E))), (5, (some (m_blocking_kinds_4 E))), (4, (some m_blocking_kinds_5))]
theorem tests_ex {R E : List Int} {s : Nat} (hR : s < R.length) (hE : s < E.length) : ∃ k x, m_slices_IndexFunc_blocking_test_blocking_test (testsL R E) (m_blocking_kinds_6 (s : Int)) = some k ∧ idx (testsL R E) k = some x ∧
  ((x.1 = 1 ∧ R[s] = 0) ∨ (x.1 = 2 ∧ 0 < R[s]) ∨ (x.1 = 3 ∧ R[s] < 0 ∧ E[s] = 0) ∨ (x.1 = 5 ∧ R[s] < 0 ∧ 0 < E[s]) ∨ (x.1 = 4 ∧ R[s] < 0 ∧ E[s] < 0)) := by
 have hP : ∀ (q : Int) (f : Int → Option Bool) (b : Bool), f (s : Int) = some b → m_blocking_kinds_6 (s : Int) (q, some f) = some b := fun q f b h => by
  rw [m_blocking_kinds_6]; dsimp only [Option.bind_some]; rw [h]; rfl
 have f1 := hP 1 (m_blocking_kinds_1 R) (R[s] == 0) (by rw [m_blocking_kinds_1, idx_at hR]; rfl)
 have f2 := hP 2 (m_blocking_kinds_2 R) (decide (R[s] > 0)) (by rw [m_blocking_kinds_2, idx_at hR]; rfl)
 have f3 := hP 3 (m_blocking_kinds_3 E) (E[s] == 0) (by rw [m_blocking_kinds_3, idx_at hE]; rfl)
 have f4 := hP 5 (m_blocking_kinds_4 E) (decide (E[s] > 0)) (by rw [m_blocking_kinds_4, idx_at hE]; rfl)
 have f5 := hP 4 m_blocking_kinds_5 true (by rw [m_blocking_kinds_5])
 have l0 : m_slices_IndexFunc_blocking_test_blocking_test_l1 (testsL R E) (m_blocking_kinds_6 (s : Int)) 0 = (m_blocking_kinds_6 (s : Int) (1, some (m_blocking_kinds_1 R))).bind fun r => if r then some (.inr (.inr 0)) else some (.inl 1) := rfl
 have l1 : m_slices_IndexFunc_blocking_test_blocking_test_l1 (testsL R E) (m_blocking_kinds_6 (s : Int)) 1 = (m_blocking_kinds_6 (s : Int) (2, some (m_blocking_kinds_2 R))).bind fun r => if r then some (.inr (.inr 1)) else some (.inl 2) := rfl
 have l2 : m_slices_IndexFunc_blocking_test_blocking_test_l1 (testsL R E) (m_blocking_kinds_6 (s : Int)) 2 = (m_blocking_kinds_6 (s : Int) (3, some (m_blocking_kinds_3 E))).bind fun r => if r then some (.inr (.inr 2)) else some (.inl 3) := rfl
 have l3 : m_slices_IndexFunc_blocking_test_blocking_test_l1 (testsL R E) (m_blocking_kinds_6 (s : Int)) 3 = (m_blocking_kinds_6 (s : Int) (5, some (m_blocking_kinds_4 E))).bind fun r => if r then some (.inr (.inr 3)) else some (.inl 4) := rfl
 have l4 : m_slices_IndexFunc_blocking_test_blocking_test_l1 (testsL R E) (m_blocking_kinds_6 (s : Int)) 4 = (m_blocking_kinds_6 (s : Int) (4, some m_blocking_kinds_5)).bind fun r => if r then some (.inr (.inr 4)) else some (.inl 5) := rfl
 rw [f1, Option.bind_some] at l0
 rw [f2, Option.bind_some] at l1
 rw [f3, Option.bind_some] at l2
 rw [f4, Option.bind_some] at l3
 rw [f5, Option.bind_some, if_pos rfl] at l4
 by_cases h1 : R[s] = 0
 ·rw [if_pos (by simpa using h1)] at l0
  have hi : iter (m_slices_IndexFunc_blocking_test_blocking_test_l1 (testsL R E) (m_blocking_kinds_6 (s : Int))) 0 = some (.inr 0) := iter_of (n := 1) (by omega) (by rw [iterF_succ, l0])
  exact ⟨0, _, by rw [m_slices_IndexFunc_blocking_test_blocking_test, hi]; rfl, rfl, .inl ⟨rfl, h1⟩⟩
 ·rw [if_neg (by simpa using h1)] at l0
  by_cases h2 : 0 < R[s]
  ·rw [if_pos (by simpa using h2)] at l1
   have hi : iter (m_slices_IndexFunc_blocking_test_blocking_test_l1 (testsL R E) (m_blocking_kinds_6 (s : Int))) 0 = some (.inr 1) := iter_of (n := 2) (by omega) (by rw [iterF_succ, l0]; dsimp only; rw [iterF_succ, l1])
   exact ⟨1, _, by rw [m_slices_IndexFunc_blocking_test_blocking_test, hi]; rfl, rfl, .inr (.inl ⟨rfl, h2⟩)⟩
  ·rw [if_neg (by simpa using h2)] at l1
   by_cases h3 : E[s] = 0
   ·rw [if_pos (by simpa using h3)] at l2
    have hi : iter (m_slices_IndexFunc_blocking_test_blocking_test_l1 (testsL R E) (m_blocking_kinds_6 (s : Int))) 0 = some (.inr 2) := iter_of (n := 3) (by omega) (by rw [iterF_succ, l0]; dsimp only; rw [iterF_succ, l1]; dsimp only; rw [iterF_succ, l2])
    exact ⟨2, _, by rw [m_slices_IndexFunc_blocking_test_blocking_test, hi]; rfl, rfl, .inr (.inr (.inl ⟨rfl, by omega, h3⟩))⟩
   ·rw [if_neg (by simpa using h3)] at l2
    by_cases h4 : 0 < E[s]
    ·rw [if_pos (by simpa using h4)] at l3
     have hi : iter (m_slices_IndexFunc_blocking_test_blocking_test_l1 (testsL R E) (m_blocking_kinds_6 (s : Int))) 0 = some (.inr 3) := iter_of (n := 4) (by omega) (by rw [iterF_succ, l0]; dsimp only; rw [iterF_succ, l1]; dsimp only; rw [iterF_succ, l2]; dsimp only; rw [iterF_succ, l3])
     exact ⟨3, _, by rw [m_slices_IndexFunc_blocking_test_blocking_test, hi]; rfl, rfl, .inr (.inr (.inr (.inl ⟨rfl, by omega, h4⟩)))⟩
    ·rw [if_neg (by simpa using h4)] at l3
     have hi : iter (m_slices_IndexFunc_blocking_test_blocking_test_l1 (testsL R E) (m_blocking_kinds_6 (s : Int))) 0 = some (.inr 4) := iter_of (n := 5) (by omega) (by rw [iterF_succ, l0]; dsimp only; rw [iterF_succ, l1]; dsimp only; rw [iterF_succ, l2]; dsimp only; rw [iterF_succ, l3]; dsimp only; rw [iterF_succ, l4])
     exact ⟨4, _, by rw [m_slices_IndexFunc_blocking_test_blocking_test, hi]; rfl, rfl, .inr (.inr (.inr (.inr ⟨rfl, by omega, by omega⟩)))⟩
theorem NoM.step {p : AutT} {x y : Int} (h : NoM p x) (hr : Rch (edsOf p) x y) : NoM p y := noM_iff.2 fun z hz h2 => noM_iff.1 h z hz (hr.trans h2)
theorem bkinds_ex {p : AutT} {n : Nat} (hR : Right p n) : ∃ ks, m_blocking_kinds p = some ks ∧ KindsOf p n ks := by
 have hnl := hR.nl
 obtain ⟨F, hF, hFl, hFd⟩ := busy_ex hR
 have hRl := bk_len hR hR.msr
 obtain ⟨D, hD, hDi, hDr, hDm⟩ := deads_ex hR hRl hFl
 have hDl := inc_len (n := n) (lo := 0) hDi hDr (Int.le_refl _)
 have hEl := bk_len hR hDr
 have hmf : mkL p.2.1 false = some (List.replicate n false) := by unfold mkL; rw [hR.nn, if_pos ⟨by omega, by omega⟩, Int.toNat_natCast]
 have hmz : mkL p.2.1 (0 : Int) = some (List.replicate n 0) := by unfold mkL; rw [hR.nn, if_pos ⟨by omega, by omega⟩, Int.toNat_natCast]
 have hkind : ∀ (s : Nat) (k : Int) (hs : s < n) (h1 : s < (backward n (edsOf p) p.2.2.1).length) (h2 : s < (backward n (edsOf p) D).length), ((k = 1 ∧ (backward n (edsOf p) p.2.2.1)[s] = 0) ∨ (k = 2 ∧ 0 < (backward n (edsOf p) p.2.2.1)[s]) ∨ (k = 3 ∧ (backward n (edsOf p) p.2.2.1)[s] < 0 ∧ (backward n (edsOf p) D)[s] = 0) ∨ (k = 5 ∧ (backward n (edsOf p) p.2.2.1)[s] < 0 ∧ 0 < (backward n (edsOf p) D)[s]) ∨ (k = 4 ∧ (backward n (edsOf p) p.2.2.1)[s] < 0 ∧ (backward n (edsOf p) D)[s] < 0)) → KindIs p s k := by
  intro s k hs h1 h2 h
  have d1 := bk_dist hR hR.msr hs
  have d2 := bk_dist hR hDr hs
  rw [List.getD_eq_getElem?_getD, List.getElem?_eq_getElem h1, Option.getD_some] at d1
  rw [List.getD_eq_getElem?_getD, List.getElem?_eq_getElem h2, Option.getD_some] at d2
  have hms := hDm s hs
  rw [List.getD_eq_getElem?_getD, List.getElem?_eq_getElem h1, Option.getD_some, hFd s hs] at hms
  have hrange : ∀ y, Rch (edsOf p) s y → 0 ≤ y ∧ y < (n : Int) := fun y => hR.rch ⟨by omega, by omega⟩
  have hall : ∀ y : Nat, y < n → ((y : Int) ∈ D ↔ NoM p y ∧ DeadS p y) := by
   intro y hy
   rw [hDm y hy, hFd y hy]
   have d3 := bk_dist hR hR.msr hy
   constructor
   ·rintro ⟨g1, g2⟩
    rcases d3 with ⟨_, h3⟩ | ⟨k, h3, _⟩
    ·exact ⟨h3, g2⟩
    ·omega
   ·rintro ⟨g1, g2⟩
    rcases d3 with ⟨h3, _⟩ | ⟨k, _, h3, _⟩
    ·exact ⟨by omega, g2⟩
    ·exact absurd h3 (g1 k)
  generalize (backward n (edsOf p) p.2.2.1)[s] = R at *
  generalize (backward n (edsOf p) D)[s] = E at *
  have hno : R < 0 → NoM p s := fun h0 => by
   rcases d1 with ⟨_, h3⟩ | ⟨k, h3, _⟩
   ·exact h3
   ·omega
  rcases h with ⟨rfl, rfl⟩ | ⟨rfl, g1⟩ | ⟨rfl, g1, rfl⟩ | ⟨rfl, g1, g2⟩ | ⟨rfl, g1, g2⟩
  ·rcases d1 with ⟨h3, _⟩ | ⟨k, h3, h4, _⟩
   ·omega
   ·obtain rfl : k = 0 := by omega
    exact .inl ⟨rfl, h4⟩
  ·rcases d1 with ⟨h3, _⟩ | ⟨k, h3, h4, h5⟩
   ·omega
   ·exact .inr (.inl ⟨rfl, fun h => h5 0 (by omega) h, fun h => h k h4⟩)
  ·rcases d2 with ⟨h3, _⟩ | ⟨k, h3, h4, _⟩
   ·omega
   ·obtain rfl : k = 0 := by omega
    exact .inr (.inr (.inl ⟨rfl, hno g1, ((hall s hs).1 h4).2⟩))
  ·have hnd : ¬ DeadS p s := fun hd => by
    have := (hall s hs).2 ⟨hno g1, hd⟩
    rcases d2 with ⟨h3, _⟩ | ⟨k, h3, h4, h5⟩
    ·omega
    ·exact h5 0 (by omega) this
   rcases d2 with ⟨h3, _⟩ | ⟨k, h3, h4, h5⟩
   ·omega
   ·obtain ⟨y, hy, h6⟩ := reachIn_iff.1 h4
    have hyr := hDr y hy
    have h7 := (hall y.toNat (by omega)).1 (by rw [Int.toNat_of_nonneg hyr.1]; exact hy)
    rw [Int.toNat_of_nonneg hyr.1] at h7
    exact .inr (.inr (.inr (.inl ⟨rfl, hno g1, hnd, y, ⟨k, h6⟩, h7.2⟩)))
  ·have hz : ∀ y, Rch (edsOf p) s y → ¬ DeadS p y := fun y hy hd => by
    have hyr := hrange y hy
    have h7 := (hall y.toNat (by omega)).2 (by rw [Int.toNat_of_nonneg hyr.1]; exact ⟨(hno g1).step hy, hd⟩)
    rw [Int.toNat_of_nonneg hyr.1] at h7
    obtain ⟨k, hk⟩ := hy
    rcases d2 with ⟨_, h3⟩ | ⟨k', h3, _⟩
    ·exact h3 k (reachIn_iff.2 ⟨y, h7, hk⟩)
    ·omega
   exact .inr (.inr (.inr (.inr ⟨rfl, hno g1, hz s (Rch.refl _ _), hz⟩)))
 obtain ⟨o, h1, h2⟩ := iter_inv (f := m_blocking_kinds_l3 (backward n (edsOf p) p.2.2.1) (backward n (edsOf p) D) (List.replicate n 0)) (fun i s => s.1 = (i : Int) ∧ s.2.length = n ∧ ∀ k (h : k < s.2.length), k < i → KindIs p (k : Int) s.2[k]) (fun o => KindsOf p n o) n 0 (by omega) (fun i s hi ⟨e1, g1, g2⟩ => by
   obtain ⟨k, O⟩ := s
   dsimp only at e1 g1 g2
   subst e1
   have hiO : i < O.length := by omega
   obtain ⟨k, x, t1, t2, t3⟩ := tests_ex (R := backward n (edsOf p) p.2.2.1) (E := backward n (edsOf p) D) (s := i) (by omega) (by omega)
   have hK := hkind i x.1 hi (by omega) (by omega) t3
   left
   rw [m_blocking_kinds_l3]
   dsimp only
   rw [List.length_replicate, if_pos (ct_lt hi), t1, Option.bind_some, t2, Option.bind_some, idx_at hiO, Option.bind_some, upd_at hiO, Option.bind_some, nxt (by omega)]
   refine ⟨_, rfl, rfl, by simp [g1], fun j hj hji => ?_⟩
   dsimp only
   rw [List.getElem_set]
   split
   ·rename_i e; subst e; exact hK
   ·exact g2 j (by simpa using hj) (by omega)) (fun s ⟨e1, g1, g2⟩ => by
   obtain ⟨k, O⟩ := s
   dsimp only at e1 g1 g2
   subst e1
   refine ⟨O, ?_, g1, fun i hi => g2 i hi (by omega)⟩
   rw [m_blocking_kinds_l3]
   dsimp only
   rw [List.length_replicate, if_neg ct_ge]) (Nat.zero_le _) (0, List.replicate n 0) ⟨rfl, by simp, fun k hk hk0 => absurd hk0 (by omega)⟩
 refine ⟨o, ?_, h2⟩
 rw [m_blocking_kinds, sprd hR hR.l2 hR.msr, Option.bind_some, hmf, Option.bind_some, hF, Option.bind_some, hD, Option.bind_some, sprd hR (by omega) hDr, Option.bind_some, hmz, Option.bind_some, h1]
 rfl
theorem escape_loop {ks : List Int} {k : Int} (hl : ks.length ≤ 1000000) : iter (m_blocking_Escape_l1 k ks) (0, ([] : List Int)) = some (choL ks k k ks.length) := by
 have h := iter_inv (f := m_blocking_Escape_l1 k ks) (fun i s => i ≤ ks.length ∧ s = ((i : Int), choL ks k k i)) (fun o => o = choL ks k k ks.length) ks.length 0 (by omega) ?_ ?_ (Nat.zero_le _) (0, []) ⟨Nat.zero_le _, rfl⟩
 ·obtain ⟨o, h1, rfl⟩ := h
  exact h1
 ·rintro i s hi ⟨_, rfl⟩
  refine .inl ⟨_, ?_, by omega, rfl⟩
  have hn := choL_len ks k k i
  rw [m_blocking_Escape_l1]
  dsimp only
  have hg : ks.getD i 0 = ks[i] := by rw [List.getD_eq_getElem?_getD, List.getElem?_eq_getElem hi]; rfl
  rw [if_pos (ct_lt hi), idx_at hi, Option.bind_some, choL_succ, hg]
  by_cases h1 : ks[i] = k
  ·rw [if_pos (by simpa using h1), if_pos (by omega), app_eq (by simp; omega), Option.bind_some, m_blocking_Escape_j1]
   dsimp only
   rw [nxt (by omega)]
  ·rw [if_neg (by simpa using h1), if_neg (by omega), m_blocking_Escape_j1]
   dsimp only
   rw [nxt (by omega)]
 ·rintro s ⟨_, rfl⟩
  refine ⟨_, ?_, rfl⟩
  rw [m_blocking_Escape_l1]
  dsimp only
  rw [if_neg ct_ge]
theorem dist_len {p : AutT} {n : Nat} (hR : Right p n) {tg : List Int} (hr : ∀ y ∈ tg, 0 ≤ y ∧ y < (n : Int)) {x : Nat} (hx : x < n) {r : List Int × Bool × Int} (h : PathSays (edsOf p) tg x r) : r.1.length ≤ n := by
 have hn := hR.nl
 cases hb : r.2.1 with
 | false => rw [(h.no hb).1]; simp
 | true =>
  obtain ⟨g1, g2⟩ := h.yes hb
  have hd := backward_bd (es := edsOf p) (tg := tg) (n := n) (by omega) hR.ein hr x hx
  have : IsDist (edsOf p) tg (x : Int) (r.1.length : Int) := .inr ⟨_, rfl, g1, g2⟩
  have := this.unique hd.1
  omega
end Go.Proofs.YtfbapajcheammaaGreatDoor

namespace Go.Proofs.YtfbapajcheammaaGreatDoor
open Go Go.RowKit
theorem known24 : m_overseerlaw24_known = some true := by kernel_rfl
theorem known04 : m_overseerlaw04_known = some true := by kernel_rfl
theorem Known24 : m_overseerlaw24_Known = some true := by
 rw [m_overseerlaw24_Known, known24, Option.bind_some, if_pos rfl, m_overseerlaw04_Known, known04]
 rfl
end Go.Proofs.YtfbapajcheammaaGreatDoor

namespace Go.Proofs.YtfbapajcheammaaGreatDoor
open Go Go.RowKit
theorem path_lead {p : AutT} {n : Nat} (h : Right p n) {x : Int} (x0 : 0 ≤ x) (x1 : x < (n : Int)) {tg : List Int} (hi : Inc tg) (hr : ∀ y ∈ tg, 0 ≤ y ∧ y < (n : Int)) (hl : tg.length ≤ 1000000) {r : List Int × Bool × Int} (hp : m_reach_Path p x tg (allL n) = some r) (hb : r.2.1 = true) :
  ∃ y ∈ tg, Leads (edsOf p) (fun e : Ed => hasB (allL n) e.t) x r.1 y := by
 have hn := h.nl
 have hN : (toAut p).n = n := h.nn
 have hpe : pathErr (toAut p) x tg (allL n) = 0 := by
  unfold pathErr
  rw [h.err, hN, if_neg (by omega), setErr_ok hi hr (fun q hq => by cases hq), setErr_ok (allL_inc n) (allL_in n) (fun q hq => by cases hq)]
  rfl
 have hall := allL_len n
 have hpa : reachPath (toAut p) x tg (allL n) = pathF n (p.2.2.2.map toEd) (hasB tg) (fun e => hasB (allL n) e.t) x.toNat := by
  unfold reachPath
  rw [if_pos (allL_has x0 x1), hN, Int.toNat_natCast]
  rfl
 have hs := pathF_says (es := p.2.2.2.map toEd) (perm := fun e => hasB (allL n) e.t) (want := hasB tg) (from_ := x.toNat) (n := n) h.sorted (fun e he => (h.ein e he).2.2) h.evs (by omega)
 rw [Int.toNat_of_nonneg x0] at hs
 have hc : p.1.length ≤ 1000000 ∧ p.2.2.1.length ≤ 1000000 ∧ p.2.2.2.length ≤ 1000000 ∧ tg.length ≤ 1000000 ∧ (allL n).length ≤ 1000000 := ⟨h.l1, h.l2, h.l3, hl, by omega⟩
 rw [m_reach_Path, if_pos hc, if_pos hpe, hpa] at hp
 generalize pathF n (p.2.2.2.map toEd) (hasB tg) (fun e => hasB (allL n) e.t) x.toNat = q at hs hp
 obtain rfl := Option.some.inj hp
 cases q with
 | none => cases hb
 | some w =>
  obtain ⟨t, h1, h2⟩ := hs.leads
  exact ⟨t, hasB_true.1 h2, h1⟩
theorem sorted_unique {es : List Ed} (h : Sorted es) {x z : Ed} (hx : x ∈ es) (hz : z ∈ es) (hf : x.f = z.f) (he : x.e = z.e) : x = z := by
 obtain ⟨i, hi, rfl⟩ := List.mem_iff_getElem.1 hx
 obtain ⟨j, hj, rfl⟩ := List.mem_iff_getElem.1 hz
 rcases Nat.lt_trichotomy i j with h1 | h1 | h1
 ·have h2 := List.pairwise_iff_getElem.1 h i j hi hj h1
  unfold edLt at h2
  omega
 ·subst h1; rfl
 ·have h2 := List.pairwise_iff_getElem.1 h j i hj hi h1
  unfold edLt at h2
  omega
theorem stepF_lead {es : List Ed} (hso : Sorted es) {x : Ed} (hx : x ∈ es) {s : Nat} (hf : x.f = (s : Int)) : stepF es s x.e = some x.t.toNat := by
 unfold stepF
 cases hfi : es.find? fun y => y.f == (s : Int) && y.e == x.e with
 | none =>
  have := List.find?_eq_none.1 hfi x hx
  simp [hf] at this
 | some z =>
  have h1 := List.mem_of_find?_eq_some hfi
  have h2 := List.find?_some hfi
  simp only [Bool.and_eq_true, beq_iff_eq] at h2
  rw [sorted_unique hso h1 hx (h2.1.trans hf.symm) h2.2]
  rfl
theorem lead_run {es : List Ed} (hso : Sorted es) (hes : ∀ x ∈ es, 0 ≤ x.t) {perm : Ed → Bool} : ∀ (w : List Int) (s : Nat) (y : Int), Leads es perm (s : Int) w y → ((runDone es s w).1 : Int) = y ∧ (runDone es s w).2 = w.length
 | [], s, y, h => ⟨h, rfl⟩
 | e :: w, s, y, h => by
  obtain ⟨x, hx, hf, rfl, _, h2⟩ := h
  have ht := hes x hx
  rw [← Int.toNat_of_nonneg ht] at h2
  obtain ⟨h3, h4⟩ := lead_run hso hes w x.t.toNat y h2
  rw [runDone, stepF_lead hso hx hf]
  exact ⟨h3, by rw [List.length_cons, ← h4]⟩
theorem lead_evs {es : List Ed} {perm : Ed → Bool} {al : List Int} (hes : ∀ x ∈ es, x.e ∈ al) : ∀ (w : List Int) (s y : Int), Leads es perm s w y → ∀ e ∈ w, e ∈ al
 | [], _, _, _ => fun e he => by cases he
 | e :: w, s, y, h => by
  obtain ⟨x, hx, hf, rfl, _, h2⟩ := h
  intro e' he'
  rcases List.mem_cons.1 he' with rfl | he'
  ·exact hes x hx
  ·exact lead_evs hes w x.t y h2 e' he'
theorem trims_law {d : DesT} (h0 : 0 ≤ d.1) : m_overseerlaw24_BlockingTrims d = some true := by
 obtain ⟨p, n, hp, n1, n6, hR, _, hE⟩ := make_ex h0
 obtain ⟨t, ht, htc⟩ := trim_ex hR n1 n6 hE
 obtain ⟨c, k, hc, k1, k6, hcR, hcm⟩ := closed_ex hR n1 n6 hE
 have hnt : ∃ w, m_blocking_Nonblocking [t] = some (w, true, 0) := by
  rcases htc with rfl | ⟨k, k1, k6, hk, hkc⟩
  ·exact ⟨_, nb_empty hR.ali hR.alr⟩
  ·exact nb_one hk k1 k6 hkc
 have hnc : ∃ w, m_blocking_Nonblocking [c] = some (w, true, 0) := nb_one hcR k1 k6 fun x x0 x1 => ⟨0, hcm x x0 x1⟩
 obtain ⟨wt, hnt⟩ := hnt
 obtain ⟨wc, hnc⟩ := hnc
 obtain ⟨ks, hk, hki⟩ := bkinds_ex hR
 have hkl := hki.1
 have hloop : iter (m_overseerlaw24_BlockingTrims_l1 p) 3 = some (.inl ()) := by
  obtain ⟨o, g1, rfl⟩ := iter_inv (f := m_overseerlaw24_BlockingTrims_l1 p) (fun i s => 3 ≤ i ∧ s = (i : Int)) (fun o => o = .inl ()) 6 3 (by omega) (fun f s hf ⟨hf3, e1⟩ => by
    subst e1
    refine .inl ⟨((f + 1 : Nat) : Int), ?_, by omega, rfl⟩
    have hj : m_overseerlaw24_BlockingTrims_j1 (f : Int) = some (.inl ((f + 1 : Nat) : Int)) := by
     rw [m_overseerlaw24_BlockingTrims_j1, nxt (by omega)]
    have hci : Inc (choL ks f f n) := cast_inc n _
    have hcr : ∀ y ∈ choL ks f f n, 0 ≤ y ∧ y < (n : Int) := cast_in n _
    have hcl := choL_len ks f f n
    obtain ⟨q, hq, hT⟩ := path_ex hR (x := 0) (by omega) (by omega) hci hcr (by omega)
    have e2 : m_blocking_Escape p f = some (q.1, q.2.1, 0) := by
     rw [m_blocking_Escape, hR.check, Option.bind_some, if_neg (by simp), if_neg (by simp; omega), hk, Option.bind_some, escape_loop (by omega), Option.bind_some, hkl, bpath_eq hR (by omega) hq]; rfl
    have lq := dist_len hR hcr (x := 0) (by omega) (r := q) hT
    rw [m_overseerlaw24_BlockingTrims_l1, if_pos (by simp; omega), e2, Option.bind_some, if_neg (by simp)]
    dsimp only
    cases hb : q.2.1 with
    | false => rw [if_pos (by simp), hj]
    | true =>
     obtain ⟨y, hy, hl⟩ := path_lead hR (x := 0) (by omega) (by omega) hci hcr (by omega) hq hb
     have hy2 := hcr y hy
     obtain ⟨i, hi, rfl⟩ := List.mem_map.1 hy
     obtain ⟨hi1, hi2⟩ := List.mem_filter.1 hi
     have hin : i < n := List.mem_range.1 hi1
     have hki2 := hki.2 i (by omega)
     have hkf : ks[i]'(by omega) = (f : Int) := by
      rw [List.getD_eq_getElem?_getD, List.getElem?_eq_getElem (by omega)] at hi2
      simp at hi2
      omega
     rw [hkf] at hki2
     have hno : NoM p (i : Int) := (KindIs.block hki2).1 (by omega)
     obtain ⟨r1, r2⟩ := lead_run (es := edsOf p) hR.sorted (fun x hx => (hR.ein x hx).2.2.1) q.1 0 _ hl
     have hrun : m_automaton_Run p 0 q.1 = some ((i : Int), (q.1.length : Int), 0) := by
      have := run_eq hR.aok hR.err (by show 0 < (toAut p).n; rw [show (toAut p).n = (n : Int) from hR.nn]; omega) (w := q.1) (by omega) (fun e he => lead_evs (al := p.1) (fun x hx => by
       obtain ⟨z, hz, rfl⟩ := List.mem_map.1 hx
       exact (hR.es z hz).2.2.2.2) q.1 0 _ hl e he)
      rw [autP_toAut] at this
      rw [this]
      show some (((runDone (edsOf p) 0 q.1).1 : Int), ((runDone (edsOf p) 0 q.1).2 : Int), (0 : Int)) = _
      rw [r1, r2]
     obtain ⟨r, hr, hS⟩ := path_ex hR (x := (i : Int)) (by omega) (by omega) hR.msi hR.msr hR.l2
     have hrf : r.2.1 = false := by
      cases hrb : r.2.1 with
      | false => rfl
      | true => exact absurd (hS.yes hrb).1 (hno _)
     have e1 : m_blocking_Shortest p (i : Int) = some (r.1, r.2.1, 0) := by
      rw [m_blocking_Shortest, hR.check, Option.bind_some, if_neg (by simp), if_neg (by rw [hR.nn]; simp; omega), bpath_eq hR (by omega) hr]; rfl
     rw [if_neg (by simp), hrun, Option.bind_some, e1, Option.bind_some, hrf]
     dsimp only
     rw [if_neg (by simp), hj]) (fun s ⟨_, e1⟩ => by
    subst e1
    exact ⟨.inl (), rfl, rfl⟩) (by omega) 3 ⟨by omega, rfl⟩
  exact g1
 rw [m_overseerlaw24_BlockingTrims, Known24, Option.bind_some, if_neg (by simp), hp, Option.bind_some, ht, Option.bind_some, hc, Option.bind_some, hnt, Option.bind_some, hnc, Option.bind_some, if_neg (by simp), hloop]
 rfl
end Go.Proofs.YtfbapajcheammaaGreatDoor

namespace Go.Proofs.YtfbapajcheammaaGreatDoor
open Go Go.RowKit Go.ChangeShapes Go.WideShapes Go.Deep

def Op (P : Program) {α : Type} (r : Rep α) (Q : α → Prop) (t : TypeId) : Prop :=
 ∀ (H : Type) (enc : TypeId × Value → H) (w : World) (fuel : Nat) (cs : List Value) (x : DataW H × List MemPlace), DataW.trod enc P w 0 (fun _ => true) true fuel t cs = some x → ∃ y : α, r.rd ⟨w, fun _ => 0⟩ cs y ∧ Q y
section
variable {P : Program} {α β : Type} {r : Rep α} {q : Rep β} {Q : α → Prop} {R : β → Prop} {t e : TypeId}
theorem op_agg {w : World} {base : Nat} {v : Value} {fs : Array Field} {ts : List TypeId} (ht : P.underlying t = some (.struct fs)) (hts : P.cellTypes P.depth t = some ts) (hsz : P.cellsOf t = ts.length) (hok : Value.okWide P w .any base t v) :
  ∃ cs, v = .agg cs ∧ cs.size = ts.length ∧ ∀ (i : Nat) (u : TypeId), ts[i]? = some u → ∃ c : Value, cs[i]? = some c ∧ Cell.okWide P w .any base u c := by
 simp only [Value.okWide, ht] at hok
 obtain ⟨cs, rfl, h1, ts', h2, h3, h4⟩ := hok
 rw [hts] at h2
 cases h2
 refine ⟨cs, rfl, by omega, fun i u hu => ?_⟩
 have hlt : i < ts.length := (List.getElem?_eq_some_iff.1 hu).1
 obtain ⟨u', g1, g2⟩ := h4 i cs[i] (Array.getElem?_eq_getElem (by omega))
 rw [Nat.mod_eq_of_lt hlt, hu] at g1
 cases g1
 exact ⟨_, Array.getElem?_eq_getElem (by omega), g2⟩
end
end Go.Proofs.YtfbapajcheammaaGreatDoor

namespace Go.Proofs.YtfbapajcheammaaGreatDoor
open Go Go.ChangeShapes Go.WideShapes Go.ChangeAt Go.RowKit Go.Deep

theorem Tryz.own : ownKnob Tryz.prog.godebug = none := by kernel_rfl
theorem Tryz.laidOut : laidOutB Tryz.prog = true := by kernel_rfl

section
variable {H : Type} {enc : TypeId × Value → H}
def carryB (P : Program) (ts : List TypeId) : Bool := ts.all fun t => P.readableRec t && decide (t < P.types.size)
theorem trodAll_carry {P : Program} (hl : laidOutB P = true) {W W' : World} (hb : Below W.heap.size W W') {sp : Nat → Bool} : ∀ {ts : List TypeId} {vs : List Value} {ds : List (DataW H)} {ps : List MemPlace}, carryB P ts = true →
  DataW.TrodAll enc P W 0 (fun _ => true) true ts vs ds ps → (∀ x ∈ ps, x.block < W.heap.size) → (∀ x ∈ ps, sp x.block = true) → DataW.TrodAll enc P W' 0 sp true ts vs ds ps
 | [], [], [], _, _, h, _, _ => h
 | [], _ :: _, _, _, _, h, _, _ => h.elim
 | [], [], _ :: _, _, _, h, _, _ => h.elim
 | t :: ts, [], _, _, _, h, _, _ => h.elim
 | t :: ts, _ :: _, [], _, _, h, _, _ => h.elim
 | t :: ts, v :: vs, d :: ds, ps, hc, ⟨p, q, h1, h2, e⟩, hlt, hsp => by
  subst e
  unfold carryB at hc
  rw [List.all_cons, Bool.and_eq_true, Bool.and_eq_true] at hc
  exact ⟨p, q, WideElems.Trod_stays hl hc.1.1 (of_decide_eq_true hc.1.2) h1 (fun x hx => hb.same (hlt x (List.mem_append_left _ hx))) (fun x hx => hsp x (List.mem_append_left _ hx)),
   trodAll_carry hl hb hc.2 h2 (fun x hx => hlt x (List.mem_append_right _ hx)) (fun x hx => hsp x (List.mem_append_right _ hx)), rfl⟩

theorem law_post {P : Program} (hl : laidOutB P = true) {f : Func} {s : ChangeSpec} {apart fresh handsOn again : Bool} {W W' : World} {args : Array Value} {ds : List (DataW H)} {before : List MemPlace} {tb : TypeId} {b : Bool}
  (hW : DataW.Whole enc P f.params.toList s.vars apart W args.toList ds [] before) (hv : s.vars = []) (hc : carryB P f.params.toList = true) (hrt : f.resultTypes = #[tb]) (ht : P.underlying tb = some .bool)
  (hr : (s.fn H (ds ++ [])).results = [.lit (.bool b)]) (ha : (s.fn H (ds ++ [])).args = ds) (hvn : (s.fn H (ds ++ [])).vars = []) (hb : Below W.heap.size W W') :
  s.post enc P f apart fresh handsOn again W args (.bool b) W' := by
 have hlt : ∀ p ∈ before, p.block < W.heap.size := fun p hp => hW.lt p hp
 have hWc := hW
 obtain ⟨p, q, hA, hV, rfl, hz, hn⟩ := hWc
 rw [hv] at hV
 obtain ⟨-, rfl⟩ := trodVars_none hV
 rw [List.append_nil] at hlt hz hn
 have hargs : ∀ sp : Nat → Bool, (∀ x ∈ p, sp x.block = true) → DataW.TrodAll enc P W' 0 sp true f.params.toList args.toList (s.fn H (ds ++ [])).args p := fun sp hsp => by
  rw [ha]; exact trodAll_carry hl hb hc hA hlt hsp
 have hres : ∀ (b0 : Nat) (sp : Nat → Bool) (hd : Bool), DataW.TrodAll enc P W' b0 sp hd f.resultTypes.toList ((Value.bool b).resultList f.resultTypes.size) (s.fn H (ds ++ [])).results [] := fun _ _ _ => by
  rw [hr, hrt]; exact trodAll_mk1 (shut_bool ht b)
 have hvars : ∀ sp : Nat → Bool, DataW.TrodVars enc P W' sp s.vars (s.fn H (ds ++ [])).vars [] := fun sp => by rw [hv, hvn]; rfl
 have hold : ∀ x ∈ p, (fun b => decide (b < W.heap.size)) x.block = true := fun x hx => by simpa using hlt x hx
 refine ⟨ds, [], p ++ [], [], p, [], hW, hres _ _ _, hargs _ hold, hvars _, World.keptBut_mono (fun x hx => ?_) (hb.frame (· ∈ p)), fun _ => ?_⟩
 ·exact ⟨by rwa [List.append_nil], Or.inr (.inl hx)⟩
 ·have hok := ok_one (f := f) (W' := W') (by rw [hrt]) rfl (okWide_bool_mk (W' := W') ht b)
  refine ⟨hok, _, _, ([] ++ p) ++ [], ⟨[] ++ p, [], trodAll_append (hargs _ (fun _ _ => rfl)) (hres _ _ _), hvars _, rfl, ?_, ?_⟩, ?_⟩
  ·intro b0 off hp
   have hin : MemPlace.cell b0 off ∈ p := by simpa using hp
   rw [hb.frozen (hlt _ hin)]
   exact hz b0 off hin
  ·intro hap
   simpa using hn hap
  ·intro x hx _
   simpa using hx
end

/-- A cell of a byte. -/
theorem cell_u8 {w : World} {r : Reach} {base : Nat} {v : Value} (h : Cell.okWide Tryz.prog w r base 5 v) : ∃ n : Int, v = .int .u8 n ∧ 0 ≤ n ∧ n < 256 := by
 simp only [Cell.okWide, Tryz.underlying5] at h
 cases v <;> simp_all [Cell.ok]
 rename_i k n
 obtain ⟨rfl, h2⟩ := h
 simp [IntKind.has, IntKind.min, IntKind.max, IntKind.signed, IntKind.bits] at h2
 omega

def lay24 : List (String × DataW Unit) := [("math/bits.deBruijn32tab", Rows.laid_math_bits_deBruijn32tab), ("math/bits.deBruijn64tab", Rows.laid_math_bits_deBruijn64tab), ("internal/strconv.uint64pow10", Rows.laid_internal_strconv_uint64pow10)]
theorem lay24_met (os : Os) (args : Array Value) : laidMetH Tryz.prog lay24 ((World.laidAll Tryz.prog os lay24).forCall (fun _ _ => 0) ⟨#[], args, []⟩).memory :=
 laidMetH_of_parts3 (fuel := 8) (laidMet_laidAll args (by kernel_rfl) (by kernel_rfl)) (by kernel_rfl) (by kernel_rfl)
section
variable {H : Type} {enc : TypeId × Value → H} {w : World} {base : Nat} {v : Value} {d : DataW H} {ps : List MemPlace}
def smT : List TypeId := List.replicate 26 5
theorem sm_types : Tryz.prog.cellTypes Tryz.prog.depth 25 = some smT := by kernel_rfl
theorem sm_cells : Tryz.prog.cellsOf 25 = smT.length := by kernel_rfl
theorem sm_at (i : Nat) (hi : i < 26) : smT[i]? = some 5 := by unfold smT; rw [List.getElem?_replicate, if_pos hi]
/-- A description. -/
theorem arg_small (hok : Value.okWide Tryz.prog w .any base 25 v) : ∃ p : DesT, 0 ≤ p.1 ∧ v = .agg #[.int .u8 p.1, .int .u8 p.2.1, .int .u8 p.2.2.1.1, .int .u8 p.2.2.1.2.1, .int .u8 p.2.2.1.2.2.1, .int .u8 p.2.2.1.2.2.2, .int .u8 p.2.2.2.1.1, .int .u8 p.2.2.2.1.2.1, .int .u8 p.2.2.2.1.2.2.1, .int .u8 p.2.2.2.1.2.2.2, .int .u8 p.2.2.2.2.1.1, .int .u8 p.2.2.2.2.1.2.1, .int .u8 p.2.2.2.2.1.2.2.1, .int .u8 p.2.2.2.2.1.2.2.2, .int .u8 p.2.2.2.2.2.1.1, .int .u8 p.2.2.2.2.2.1.2.1, .int .u8 p.2.2.2.2.2.1.2.2.1, .int .u8 p.2.2.2.2.2.1.2.2.2, .int .u8 p.2.2.2.2.2.2.1.1, .int .u8 p.2.2.2.2.2.2.1.2.1, .int .u8 p.2.2.2.2.2.2.1.2.2.1, .int .u8 p.2.2.2.2.2.2.1.2.2.2, .int .u8 p.2.2.2.2.2.2.2.1, .int .u8 p.2.2.2.2.2.2.2.2.1, .int .u8 p.2.2.2.2.2.2.2.2.2.1, .int .u8 p.2.2.2.2.2.2.2.2.2.2] := by
 obtain ⟨cs, rfl, h1, h2⟩ := op_agg Tryz.underlying25 sm_types sm_cells hok
 have h1' : cs.size = 26 := h1
 obtain ⟨f, hf⟩ := choose_lt (α := Int) (n := 26) (p := fun i n => cs[i]? = some (.int .u8 n) ∧ 0 ≤ n ∧ n < 256) (fun i hi => by
  obtain ⟨c, g1, g2⟩ := h2 i 5 (sm_at i hi)
  obtain ⟨n, rfl, g3⟩ := cell_u8 g2
  exact ⟨n, g1, g3⟩)
 have hcs : cs = ((List.range 26).map fun i => Value.int .u8 (f i)).toArray := by
  apply Array.ext_getElem?
  intro i
  by_cases hi : i < 26
  ·rw [(hf i hi).1]; simp [hi]
  ·rw [Array.getElem?_eq_none (by omega), Array.getElem?_eq_none (by simp; omega)]
 exact ⟨(f 0, f 1, ((f 2, f 3, f 4, f 5), (f 6, f 7, f 8, f 9), (f 10, f 11, f 12, f 13), (f 14, f 15, f 16, f 17), (f 18, f 19, f 20, f 21), (f 22, f 23, f 24, f 25))), (hf 0 (by omega)).2.1, by rw [hcs]; rfl⟩
end
end Go.Proofs.YtfbapajcheammaaGreatDoor

namespace Go.Proofs.YtfbapajcheammaaGreatDoor
open Go Go.ChangeShapes Go.WideShapes Go.ChangeAt Go.RowKit

theorem blockingTrims_lifted (os : Os) (started : os.Started) (H : Type) (enc : TypeId × Value → H) :
  ReturnsInHanded {} Tryz.checked os 3 .any (fun w args => (Rows.blockingTrimsSpec.pre enc Tryz.prog Tryz.f3 [] false w args ∧ laidMetH Tryz.prog lay24 w) ∧ sizedMet enc Tryz.prog Tryz.f3 (OpenSpec.ofChange Rows.blockingTrimsSpec) false w args) (Rows.blockingTrimsSpec.post enc Tryz.prog Tryz.f3 false true false false) := by
 refine returnsInHanded_of_change_and (C := Tryz.checked) (X := fun w _ => laidMetH Tryz.prog lay24 w) (fun _ _ _ hh h => h.of_heap hh) Tryz.own started (by kernel_rfl) Tryz.func3
  (ChangeSpec.witness_shaped (enc := enc) (C := Tryz.checked) (os := os) (X := fun w _ => laidMetH Tryz.prog lay24 w) false (World.laidAll Tryz.prog os lay24) #[.agg #[.int .u8 0, .int .u8 0, .int .u8 0, .int .u8 0, .int .u8 0, .int .u8 0, .int .u8 0, .int .u8 0, .int .u8 0, .int .u8 0, .int .u8 0, .int .u8 0, .int .u8 0, .int .u8 0, .int .u8 0, .int .u8 0, .int .u8 0, .int .u8 0, .int .u8 0, .int .u8 0, .int .u8 0, .int .u8 0, .int .u8 0, .int .u8 0, .int .u8 0, .int .u8 0]] 8 (World.laidAll_os _ _ _) (World.shaped_of_ZipB (by kernel_rfl) (by kernel_rfl)) (by kernel_rfl) (by kernel_rfl) (by kernel_rfl) (lay24_met os _)) ?_
 intro W base args ds gs before hval0 hW _ _ _ _
 have hval : ∀ (j : Nat) t v, Tryz.f3.params[j]? = some t → args[j]? = some v → Value.okWide Tryz.prog W .any base t v := hval0
 have hW' := hW
 obtain ⟨p, q, hA0, hV, rfl, hfz, hnd⟩ := hW
 have hA : DataW.TrodAll enc Tryz.prog W 0 (fun _ => true) true Tryz.f3.params.toList args.toList ds p := hA0
 rw [Tryz.params3] at hA hval
 obtain ⟨v0, d0, rfl, rfl, h0⟩ := trodAll_one hA
 obtain ⟨x, hx, rfl⟩ := arg_small (hval 0 25 v0 rfl rfl)
 obtain ⟨rfl, rfl⟩ := trodVars_none hV
 clear hA0 hval0
 refine (m_overseerlaw24_BlockingTrims_c (s := ⟨W, fun _ => 0⟩) (trims_law hx)).mono fun e W' ⟨v, s', hw, he, hm, hv⟩ => ?_
 subst hw
 subst he
 subst hv
 have hbl := hm.below
 exact ⟨_, rfl, law_post Tryz.laidOut hW' rfl (by kernel_rfl) (by kernel_rfl) Tryz.underlying4 rfl rfl rfl hbl⟩

theorem blockingTrims_holds : Rows.BlockingTrimsSaid :=
 OpenClaim.holds_of_wide 3 Tryz.f3 rfl rfl rfl rfl rfl rfl rfl ⟨rfl, rfl, rfl, rfl, rfl⟩ rfl rfl rfl rfl rfl (by kernel_rfl) Tryz.func3 (by kernel_rfl)
  (of_decide_eq_true (by kernel_rfl)) (by unfold Func.isWrapper; first | (rw [if_pos (by decide +kernel)]; kernel_rfl) | (rw [if_neg (by decide +kernel)]; exact ⟨rfl, rfl⟩))
  (fun os started H enc _ => blockingTrims_lifted os started H enc)
theorem blockingTrims_card_holds : Rows.BlockingTrimsCardSaid :=
 Claim7.holds_tied_plain_at .later [] [.data, .data, .data] true _ false
  blockingTrims_holds (fun _ h => by cases h) (by kernel_rfl) (fun _ h => by cases h) blockingTrims_row_tie rfl ⟨rfl, rfl⟩ (by kernel_rfl) rfl
  (fun f fn hf hfn => by
   obtain rfl : f = 3 := Option.some.inj ((show Tryz.prog.funcNamed "overseer/overseerlaw24.BlockingTrims" = some 3 by kernel_rfl).symm.trans hf) |>.symm
   obtain rfl : fn = Tryz.f3 := (Option.some.inj (Tryz.func3.symm.trans hfn)).symm
   exact ⟨by kernel_rfl, fun j t ht => by
    have hm : t ∈ Tryz.f3.params := Array.mem_of_getElem? ht
    have hall : (Tryz.f3.params.toList.all fun u => !(Tryz.prog.wantsStandIn u)) = true := by kernel_rfl
    exact (show Tryz.prog.wantsStandIn t = false by simpa using List.all_eq_true.1 hall t (Array.mem_toList_iff.2 hm))⟩)
  (by kernel_rfl)
end Go.Proofs.YtfbapajcheammaaGreatDoor
