/- What the printed functions on sets compute, in plain words. -/
import Derived.Test.YtkkemchihllklaaG3
import Derived.Test.YtkkemchihllklaaPla
import Derived.IntWalk
namespace Go.Proofs.Ytkkemchihllklaa
open Go Go.RowKit

theorem W_of {x : Int} (h0 : -9223372036854775808 ≤ x) (h1 : x < 9223372036854775808) : W x = x := IntWalk.i64_in _ (by omega)
theorem W_nat {k : Nat} (h : k < 9223372036854775808) : W (k : Int) = k := W_of (by omega) (by omega)
theorem idx_at {α : Type} {xs : List α} {i : Nat} (h : i < xs.length) : idx xs (i : Int) = some xs[i] := by rw [idx_nat, List.getElem?_eq_getElem h]
theorem iter_of {S O : Type} {f : S → Option (S ⊕ O)} {s : S} {o : O} {n : Nat} (hn : n ≤ 18446744073709551616) (h : iterF f n s = some o) : iter f s = some o := by
  have mono : ∀ (n m : Nat) (s : S), n ≤ m → iterF f n s = some o → iterF f m s = some o := by
    intro n
    induction n with
    | zero => intro m s _ h; cases h
    | succ n ih =>
      intro m s hm h
      obtain ⟨k, rfl⟩ : ∃ k, m = k + 1 := ⟨m - 1, by omega⟩
      rw [iterF_succ] at h ⊢
      split at h
      · cases h
      · rename_i h1; exact ih k _ (by omega) h
      · rename_i h1; exact h
  exact mono n _ s hn h

/-- An error, as the printed loops hand it on. -/
def errO (e : Int) : Unit ⊕ Int := if e = 0 then .inl () else .inr e
theorem checkSet_go {xs : List Int} {n : Int} (hl : xs.length < 4611686018427387904) : ∀ (j i : Nat), i + j = xs.length →
    iterF (m_automaton_checkSet_l1 xs n) (j + 1) (i : Int) = some (errO (setErr n (prevAt xs i) (xs.drop i))) := by
  intro j
  induction j with
  | zero =>
    intro i hi
    have e : xs.drop i = [] := List.drop_of_length_le (by omega)
    rw [iterF_succ, m_automaton_checkSet_l1, if_neg (by simp; omega), e]
    rfl
  | succ j ih =>
    intro i hi
    have hlt : i < xs.length := by omega
    rw [iterF_succ, m_automaton_checkSet_l1, if_pos (by simp; omega), idx_at hlt, Option.bind_some]
    by_cases h1 : xs[i] < 0 ∨ n ≤ xs[i]
    · rw [if_pos (by simpa using h1), setErr_2 hlt h1]
      rfl
    · rw [if_neg (by simpa using h1)]
      by_cases h0 : 0 < i
      · rw [if_pos (by simp; omega), show (i : Int) - 1 = ((i - 1 : Nat) : Int) by omega, W_nat (by omega), idx_at (show i - 1 < xs.length by omega), Option.bind_some, Option.bind_some]
        by_cases h2 : xs[i] ≤ xs[i - 1]
        · rw [if_pos (by simpa using h2), setErr_5 hlt h1 h0 h2]
          rfl
        · rw [if_neg (by simpa using h2), show (i : Int) + 1 = ((i + 1 : Nat) : Int) by omega, W_nat (by omega), setErr_next hlt h1 (fun _ => by omega)]
          exact ih (i + 1) (by omega)
      · rw [if_neg (by simp; omega), Option.bind_some, if_neg (by simp), show (i : Int) + 1 = ((i + 1 : Nat) : Int) by omega, W_nat (by omega), setErr_next hlt h1 (fun h => absurd h h0)]
        exact ih (i + 1) (by omega)
theorem checkSet_eq {xs : List Int} {n : Int} (hl : xs.length < 4611686018427387904) : m_automaton_checkSet xs n = some (setErr n none xs) := by
  have h : iter (m_automaton_checkSet_l1 xs n) 0 = some (errO (setErr n none xs)) := iter_of (by omega) (checkSet_go (n := n) hl xs.length 0 (by omega))
  rw [m_automaton_checkSet, h, Option.bind_some]
  by_cases h0 : setErr n none xs = 0
  · rw [h0]; rfl
  · rw [errO, if_neg h0]
/-- alphabet.CheckSet is the same. -/
theorem checkSet2_eq {xs : List Int} {n : Int} (hl : xs.length < 4611686018427387904) : m_alphabet_CheckSet xs n = some (setErr n none xs) := checkSet_eq hl

theorem index_go {xs : List Int} {x : Int} (hl : xs.length < 4611686018427387904) : ∀ (j i : Nat), i + j = xs.length →
    ∃ o, iterF (m_slices_Index_int_l1 xs x) (j + 1) (i : Int) = some o ∧ ((o = .inl () ∧ x ∉ xs.drop i) ∨ ∃ k : Nat, i ≤ k ∧ o = .inr (k : Int) ∧ x ∈ xs.drop i) := by
  intro j
  induction j with
  | zero =>
    intro i hi
    have e : xs.drop i = [] := List.drop_of_length_le (by omega)
    refine ⟨.inl (), ?_, .inl ⟨rfl, by rw [e]; simp⟩⟩
    rw [iterF_succ, m_slices_Index_int_l1, if_neg (by simp; omega)]
  | succ j ih =>
    intro i hi
    have hlt : i < xs.length := by omega
    rw [iterF_succ, m_slices_Index_int_l1, if_pos (by simp; omega), idx_at hlt, Option.bind_some]
    by_cases h1 : x = xs[i]
    · rw [if_pos (by simpa using h1)]
      exact ⟨_, rfl, .inr ⟨i, Nat.le_refl _, rfl, by rw [List.drop_eq_getElem_cons hlt, h1]; exact List.mem_cons_self⟩⟩
    · rw [if_neg (by simpa using h1), show (i : Int) + 1 = ((i + 1 : Nat) : Int) by omega, W_nat (by omega)]
      obtain ⟨o, h2, h3⟩ := ih (i + 1) (by omega)
      refine ⟨o, h2, ?_⟩
      rw [List.drop_eq_getElem_cons hlt]
      rcases h3 with ⟨h4, h5⟩ | ⟨k, h4, h5, h6⟩
      · exact .inl ⟨h4, fun hc => (List.mem_cons.1 hc).elim h1 h5⟩
      · exact .inr ⟨k, by omega, h5, List.mem_cons_of_mem _ h6⟩
theorem contains_eq {xs : List Int} {x : Int} (hl : xs.length < 4611686018427387904) : m_slices_Contains_int xs x = some (hasB xs x) := by
  obtain ⟨o, h1, h2⟩ := index_go (x := x) hl xs.length 0 (by omega)
  have h : iter (m_slices_Index_int_l1 xs x) 0 = some o := iter_of (by omega) h1
  rw [m_slices_Contains_int, m_slices_Index_int, h, Option.bind_some]
  rcases h2 with ⟨rfl, h4⟩ | ⟨k, _, rfl, h4⟩
  · rw [hasB_false.2 (by simpa using h4)]; rfl
  · rw [hasB_true.2 (by simpa using h4)]
    show some (decide ((k : Int) ≥ 0)) = some true
    simp
/-- An edge as the printed functions have it. -/
def edP (x : Ed) : Int × Int × Int := (x.f, x.e, x.t)
def autP (a : Aut) : List Int × Int × List Int × List (Int × Int × Int) := (a.al, a.n, a.ms, a.es.map edP)
def prevE (es : List Ed) (k : Nat) : Option Ed := if k = 0 then none else es[k - 1]?
theorem edErr_drop {al : List Int} {n : Int} {es : List Ed} {k : Nat} (hk : k < es.length) : edErr al n (prevE es k) (es.drop k) =
    if (es[k].f < 0 ∨ n ≤ es[k].f ∨ es[k].t < 0 ∨ n ≤ es[k].t) then 2 else if hasB al es[k].e = false then 9 else if (∃ q, prevE es k = some q ∧ (es[k].f < q.f ∨ (es[k].f = q.f ∧ es[k].e ≤ q.e))) then 5 else edErr al n (prevE es (k + 1)) (es.drop (k + 1)) := by
  rw [List.drop_eq_getElem_cons hk, edErr]
  congr 3
  simp [prevE, List.getElem?_eq_getElem hk]
theorem edges_go {a : Aut} (hl : a.es.length < 4611686018427387904) (hal : a.al.length < 4611686018427387904) : ∀ (j i : Nat), i + j = a.es.length →
    iterF (m_automaton_checkEdges_l1 (autP a)) (j + 1) (i : Int) = some (errO (edErr a.al a.n (prevE a.es i) (a.es.drop i))) := by
  have hlen : (autP a).2.2.2.length = a.es.length := by simp [autP]
  have hat : ∀ (i : Nat) (h : i < a.es.length), idx (autP a).2.2.2 (i : Int) = some (edP a.es[i]) := fun i h => by
    rw [idx_at (by rw [hlen]; exact h)]; simp [autP]
  intro j
  induction j with
  | zero =>
    intro i hi
    have e : a.es.drop i = [] := List.drop_of_length_le (by omega)
    rw [iterF_succ, m_automaton_checkEdges_l1, if_neg (by rw [hlen]; simp; omega), e]
    rfl
  | succ j ih =>
    intro i hi
    have hlt : i < a.es.length := by omega
    have hnext : m_automaton_checkEdges_j1 (i : Int) = some (.inl ((i + 1 : Nat) : Int)) := by
      rw [m_automaton_checkEdges_j1, show (i : Int) + 1 = ((i + 1 : Nat) : Int) by omega, W_nat (by omega)]
    rw [iterF_succ, m_automaton_checkEdges_l1, if_pos (by rw [hlen]; simp; omega), hat i hlt, Option.bind_some, edErr_drop hlt]
    by_cases h1 : a.es[i].f < 0 ∨ a.n ≤ a.es[i].f ∨ a.es[i].t < 0 ∨ a.n ≤ a.es[i].t
    · rw [if_pos (by simp only [Bool.or_eq_true, decide_eq_true_eq]; show ((a.es[i].f < 0 ∨ a.es[i].f ≥ a.n) ∨ a.es[i].t < 0) ∨ a.es[i].t ≥ a.n; omega), if_pos h1]
      rfl
    · rw [if_neg (by simp only [Bool.or_eq_true, decide_eq_true_eq]; show ¬ (((a.es[i].f < 0 ∨ a.es[i].f ≥ a.n) ∨ a.es[i].t < 0) ∨ a.es[i].t ≥ a.n); omega), if_neg h1]
      rw [show m_slices_Contains_int (autP a).1 (edP a.es[i]).2.1 = some (hasB a.al a.es[i].e) from contains_eq hal, Option.bind_some]
      cases h2 : hasB a.al a.es[i].e with
      | false => rfl
      | true =>
        rw [if_neg (show ¬ (!true) = true by simp), if_neg (show ¬ (true = false) by simp)]
        by_cases h0 : i = 0
        · subst h0
          rw [if_pos (by simp), hnext, if_neg (by rintro ⟨q, hq, _⟩; simp [prevE] at hq)]
          exact ih 1 (by omega)
        · have hp : prevE a.es i = some a.es[i - 1] := by rw [prevE, if_neg h0, List.getElem?_eq_getElem (by omega)]
          rw [if_neg (by simp; omega), show (i : Int) - 1 = ((i - 1 : Nat) : Int) by omega, W_nat (by omega), hat (i - 1) (by omega), Option.bind_some]
          by_cases h3 : a.es[i].f < a.es[i - 1].f ∨ (a.es[i].f = a.es[i - 1].f ∧ a.es[i].e ≤ a.es[i - 1].e)
          · rw [if_pos (by simp only [Bool.or_eq_true, Bool.and_eq_true, decide_eq_true_eq, beq_iff_eq]; exact h3), if_pos ⟨_, hp, h3⟩]
            rfl
          · rw [if_neg (by simp only [Bool.or_eq_true, Bool.and_eq_true, decide_eq_true_eq, beq_iff_eq]; exact h3), hnext, if_neg (by rintro ⟨q, hq, h4⟩; rw [hp] at hq; cases hq; exact h3 h4)]
            exact ih (i + 1) (by omega)
theorem check_eq {a : Aut} (hl : a.es.length < 4611686018427387904) (hal : a.al.length < 4611686018427387904) (hms : a.ms.length < 4611686018427387904) : m_automaton_Check (autP a) = some a.err := by
  have h : iter (m_automaton_checkEdges_l1 (autP a)) 0 = some (errO (edErr a.al a.n none a.es)) := iter_of (by omega) (edges_go hl hal a.es.length 0 (by omega))
  have he : m_automaton_checkEdges (autP a) = some (edErr a.al a.n none a.es) := by
    rw [m_automaton_checkEdges, h, Option.bind_some]
    by_cases h0 : edErr a.al a.n none a.es = 0
    · rw [h0]; rfl
    · rw [errO, if_neg h0]
  rw [m_automaton_Check, show m_automaton_checkSet (autP a).1 32 = some (setErr 32 none a.al) from checkSet_eq hal, Option.bind_some, Aut.err]
  by_cases h1 : (setErr 32 none a.al != 0) = true
  · rw [if_pos h1, if_pos h1]
  · rw [if_neg h1, if_neg h1]
    by_cases h2 : a.n < 0
    · rw [if_pos (show decide ((autP a).2.1 < 0) = true from decide_eq_true h2), if_pos h2]
    · rw [if_neg (show ¬ decide ((autP a).2.1 < 0) = true from fun e => h2 (of_decide_eq_true e)), if_neg h2]
      by_cases h3 : 4096 < a.n
      · rw [if_pos (show decide ((autP a).2.1 > 4096) = true from decide_eq_true h3), if_pos h3]
      · rw [if_neg (show ¬ decide ((autP a).2.1 > 4096) = true from fun e => h3 (of_decide_eq_true e)), if_neg h3, show m_automaton_checkSet (autP a).2.2.1 (autP a).2.1 = some (setErr a.n none a.ms) from checkSet_eq hms, Option.bind_some]
        by_cases h4 : (setErr a.n none a.ms != 0) = true
        · rw [if_pos h4, if_pos h4]
        · rw [if_neg h4, if_neg h4, he]
          rfl
end Go.Proofs.Ytkkemchihllklaa
