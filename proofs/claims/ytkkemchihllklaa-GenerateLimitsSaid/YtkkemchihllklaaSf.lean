/- Sets: the difference, the part, the binary search, and the inputs. -/
import Derived.Test.YtkkemchihllklaaSe
namespace Go.Proofs.Ytkkemchihllklaa
open Go Go.RowKit

theorem idx_hd {α : Type} (a : α) (us : List α) : idx (a :: us) 0 = some a := rfl
theorem slc_tl {α : Type} (a : α) (us : List α) : slc (a :: us) 1 ((a :: us).length : Int) = some us := by
  rw [slc, if_pos ⟨by omega, by simp; omega, by omega⟩]
  simp
theorem merge_go : ∀ (f : Nat) (us vs out : List Int), us.length + vs.length ≤ f → out.length + us.length ≤ 4294967296 → iterF (m_alphabet_merge_l1 m_alphabet_Minus_1) (f + 1) (out, us, vs) = some (minusL f us vs out) := by
  intro f
  induction f with
  | zero =>
    intro us vs out h _
    have h1 : us = [] := List.eq_nil_of_length_eq_zero (by omega)
    have h2 : vs = [] := List.eq_nil_of_length_eq_zero (by omega)
    subst h1; subst h2
    rfl
  | succ f ih =>
    intro us vs out h ho
    rw [iterF_succ]
    cases us with
    | nil =>
      cases vs with
      | nil => rfl
      | cons b vs =>
        have e : m_alphabet_merge_l1 m_alphabet_Minus_1 (out, [], b :: vs) = some (.inl (out, [], vs)) := by
          rw [m_alphabet_merge_l1]
          dsimp only
          rw [if_pos (by simp), if_neg (by simp), m_alphabet_merge_j1]
          dsimp only
          rw [if_pos (by simp), if_pos (by simp), m_alphabet_merge_j2, if_neg (by simp), m_alphabet_merge_j3, if_pos rfl]
          dsimp only
          rw [idx_hd, Option.bind_some, slc_tl, Option.bind_some]
          rfl
        rw [e]
        exact ih [] vs out (by simp at h ⊢; omega) ho
    | cons a us =>
      rw [List.length_cons] at h ho
      have ho' : app out ([a] : List Int) = some (out ++ [a]) := app_eq (by simp; omega)
      cases vs with
      | nil =>
        have e : m_alphabet_merge_l1 m_alphabet_Minus_1 (out, a :: us, []) = some (.inl (out ++ [a], us, [])) := by
          rw [m_alphabet_merge_l1]
          dsimp only
          rw [if_pos (by simp), if_pos (by simp), if_pos (by simp), m_alphabet_merge_j1]
          dsimp only
          rw [if_neg (by simp), m_alphabet_merge_j2, if_pos rfl]
          dsimp only
          rw [idx_hd, Option.bind_some, slc_tl, Option.bind_some, m_alphabet_merge_j3, if_neg (by simp), m_alphabet_merge_j4, show m_alphabet_Minus_1 true false = some true from rfl, Option.bind_some, if_pos rfl]
          dsimp only
          rw [ho', Option.bind_some]
        rw [e]
        exact ih us [] (out ++ [a]) (by simp at h ⊢; omega) (by simp; omega)
      | cons b vs =>
        rw [List.length_cons] at h
        have e0 : m_alphabet_merge_l1 m_alphabet_Minus_1 (out, a :: us, b :: vs) = m_alphabet_merge_j2 m_alphabet_Minus_1 (out, a :: us, b :: vs) (decide (a ≤ b)) (decide (b ≤ a)) := by
          rw [m_alphabet_merge_l1]
          dsimp only
          rw [if_pos (by simp), if_pos (by simp), if_neg (by simp; omega), idx_hd, Option.bind_some, idx_hd, Option.bind_some, m_alphabet_merge_j1]
          dsimp only
          rw [if_pos (by simp), if_neg (by simp; omega), idx_hd, Option.bind_some, idx_hd, Option.bind_some]
        rw [e0, minusL, m_alphabet_merge_j2]
        dsimp only
        by_cases h1 : a < b
        · rw [if_pos (show decide (a ≤ b) = true by simp; omega), idx_hd, Option.bind_some, slc_tl, Option.bind_some, m_alphabet_merge_j3, if_neg (by simp; omega), m_alphabet_merge_j4, show decide (a ≤ b) = true by simp; omega, show decide (b ≤ a) = false by simp; omega,
            show m_alphabet_Minus_1 true false = some true from rfl, Option.bind_some, if_pos rfl, if_pos h1]
          dsimp only
          rw [ho', Option.bind_some]
          exact ih us (b :: vs) (out ++ [a]) (by simp; omega) (by simp; omega)
        · rw [if_neg h1]
          by_cases h2 : b < a
          · rw [if_neg (show ¬ decide (a ≤ b) = true by simp; omega), m_alphabet_merge_j3, if_pos (show decide (b ≤ a) = true by simp; omega)]
            dsimp only
            rw [idx_hd, Option.bind_some, slc_tl, Option.bind_some, m_alphabet_merge_j4, show decide (a ≤ b) = false by simp; omega, show decide (b ≤ a) = true by simp; omega,
              show m_alphabet_Minus_1 false true = some false from rfl, Option.bind_some, if_neg (by simp), if_pos h2]
            exact ih (a :: us) vs out (by simp; omega) (by simp; omega)
          · rw [if_pos (show decide (a ≤ b) = true by simp; omega), idx_hd, Option.bind_some, slc_tl, Option.bind_some, m_alphabet_merge_j3, if_pos (show decide (b ≤ a) = true by simp; omega)]
            dsimp only
            rw [idx_hd, Option.bind_some, slc_tl, Option.bind_some, m_alphabet_merge_j4, show decide (a ≤ b) = true by simp; omega, show decide (b ≤ a) = true by simp; omega,
              show m_alphabet_Minus_1 true true = some false from rfl, Option.bind_some, if_neg (by simp), if_neg h2]
            exact ih us vs out (by omega) (by omega)
/-- What a set has and another has not. -/
theorem minus_eq {us vs : List Int} (hu : us.length ≤ 4294967296) (hv : vs.length ≤ 4294967296) : m_alphabet_Minus us vs = some (minusL (us.length + vs.length) us vs []) := by
  have h : iter (m_alphabet_merge_l1 m_alphabet_Minus_1) (([] : List Int), us, vs) = some (minusL (us.length + vs.length) us vs []) := iter_of (by omega) (merge_go _ us vs [] (Nat.le_refl _) (by simpa using hu))
  rw [m_alphabet_Minus, m_alphabet_merge, h]
  rfl
theorem subset_eq {us vs : List Int} (hu : us.length ≤ 4294967296) (hv : vs.length ≤ 4294967296) (iu : Inc us) (iv : Inc vs) : m_alphabet_Subset us vs = some (subB us vs) := by
  rw [m_alphabet_Subset, minus_eq hu hv, Option.bind_some]
  have h := minus_nil iu iv
  cases hb : subB us vs with
  | true => rw [h.2 hb]; rfl
  | false =>
    have hn : minusL (us.length + vs.length) us vs [] ≠ [] := fun e => by rw [h.1 e] at hb; cases hb
    have : (minusL (us.length + vs.length) us vs []).length ≠ 0 := fun e => hn (List.eq_nil_of_length_eq_zero e)
    rw [show (((minusL (us.length + vs.length) us vs []).length : Int) == 0) = false from by simpa using hn]
theorem half_eq {i j : Nat} (h : i + j < 9223372036854775808) : W ((IntKind.u64.wrap (W ((i : Int) + (j : Int)))).fdiv (2 ^ (min (1 : Int).toNat 64))) = (((i + j) / 2 : Nat) : Int) := by
  rw [W_of (x := (i : Int) + j) (by omega) (by omega), IntWalk.u64_in _ (by omega), show (2 : Int) ^ (min (1 : Int).toNat 64) = 2 from rfl, Int.fdiv_eq_ediv_of_nonneg _ (by omega), W_of (by omega) (by omega)]
  omega
theorem less_eq (x y : Int) : m_cmp_Less_int x y = some (decide (x < y)) := by
  rw [m_cmp_Less_int, show m_cmp_isNaN_int x = some false by rw [m_cmp_isNaN_int]; simp, Option.bind_some, if_neg (by simp), Option.bind_some, Bool.false_or]
theorem bin_go {xs : List Int} {t : Int} (hl : xs.length < 4294967296) (hs : Inc xs) : ∀ (f i j : Nat), j ≤ i + f → i ≤ j → j ≤ xs.length → (∀ k (h : k < xs.length), k < i → xs[k] < t) → (∀ k (h : k < xs.length), j ≤ k → t ≤ xs[k]) →
    ∃ p : Nat, iterF (m_slices_BinarySearch_int_l1 xs t) (f + 1) ((j : Int), (i : Int)) = some (p : Int) ∧ p ≤ xs.length ∧ (∀ k (h : k < xs.length), k < p → xs[k] < t) ∧ (∀ k (h : k < xs.length), p ≤ k → t ≤ xs[k]) := by
  intro f
  induction f with
  | zero =>
    intro i j h1 h2 h3 h4 h5
    refine ⟨i, ?_, by omega, h4, fun k h hk => h5 k h (by omega)⟩
    rw [iterF_succ, m_slices_BinarySearch_int_l1, if_neg (by simp; omega)]
  | succ f ih =>
    intro i j h1 h2 h3 h4 h5
    rw [iterF_succ, m_slices_BinarySearch_int_l1]
    dsimp only
    by_cases hij : i < j
    · have hm : (i + j) / 2 < xs.length := by omega
      rw [if_pos (by simp; omega), half_eq (by omega), idx_at hm, Option.bind_some, less_eq, Option.bind_some]
      have mono : ∀ (a b : Nat) (ha : a < xs.length) (hb : b < xs.length), a ≤ b → xs[a] ≤ xs[b] := fun a b ha hb hab => by
        rcases Nat.lt_or_ge a b with h | h
        · exact Int.le_of_lt (List.pairwise_iff_getElem.1 hs a b ha hb h)
        · have : a = b := by omega
          subst this
          exact Int.le_refl _
      by_cases hc : xs[(i + j) / 2] < t
      · rw [if_pos (decide_eq_true hc), show (((i + j) / 2 : Nat) : Int) + 1 = (((i + j) / 2 + 1 : Nat) : Int) by omega, W_nat (by omega)]
        exact ih _ j (by omega) (by omega) h3 (fun k h hk => by have := mono k _ h hm (by omega); omega) h5
      · rw [if_neg (by simpa using hc)]
        exact ih i _ (by omega) (by omega) (by omega) h4 (fun k h hk => by have := mono _ k hm h hk; omega)
    · rw [if_neg (by simp; omega)]
      exact ⟨i, rfl, by omega, h4, fun k h hk => h5 k h (by omega)⟩
/-- Whether a sorted set holds a word. -/
theorem containsA_eq {xs : List Int} {t : Int} (hl : xs.length < 4294967296) (hs : Inc xs) : m_alphabet_Contains xs t = some (hasB xs t) := by
  obtain ⟨p, hp, hle, hlo, hhi⟩ := bin_go (t := t) hl hs xs.length 0 xs.length (by omega) (by omega) (by omega) (fun k h hk => absurd hk (by omega)) (fun k h hk => absurd hk (by omega))
  have hi : iter (m_slices_BinarySearch_int_l1 xs t) ((xs.length : Int), 0) = some (p : Int) := iter_of (by omega) hp
  rw [m_alphabet_Contains, m_slices_BinarySearch_int, hi, Option.bind_some]
  by_cases hlt : p < xs.length
  · rw [if_pos (by simpa using hlt), idx_at hlt, Option.bind_some]
    by_cases he : xs[p] = t
    · rw [if_pos (by simpa using he)]
      show some true = _
      rw [hasB_true.2 (he ▸ List.getElem_mem hlt)]
    · rw [if_neg (by simpa using he), Option.bind_some, show m_slices_isNaN_int xs[p] = some false by rw [m_slices_isNaN_int]; simp, Option.bind_some, if_neg (by simp)]
      show some false = _
      rw [hasB_false.2]
      intro hm
      obtain ⟨k, hk, hk2⟩ := List.getElem_of_mem hm
      rcases Nat.lt_trichotomy k p with h | h | h
      · have := hlo k hk h; omega
      · subst h; exact he hk2
      · have := hhi p hlt (Nat.le_refl _)
        have := List.pairwise_iff_getElem.1 hs p k hlt hk h
        omega
  · rw [if_neg (by simpa using hlt)]
    show some false = _
    rw [hasB_false.2]
    intro hm
    obtain ⟨k, hk, hk2⟩ := List.getElem_of_mem hm
    have := hlo k hk (by omega)
    omega
/-- A set within another. -/
theorem among_eq {us al : List Int} (hu : us.length < 4294967296) (ha : al.length < 4294967296) (iu : Inc us) (ia : Inc al) (he : setErr 32 none us = 0) (hs : subB us al = true) : m_generate_among us al = some 0 := by
  rw [m_generate_among, checkSet2_eq (by omega), he, Option.bind_some, if_neg (by simp), subset_eq (by omega) (by omega) iu ia, hs, Option.bind_some]
  rfl
end Go.Proofs.Ytkkemchihllklaa
