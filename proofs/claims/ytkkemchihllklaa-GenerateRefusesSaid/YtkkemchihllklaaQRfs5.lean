/- GenerateRefuses returns true for all arguments, and leaves its arguments as they were. No conditions. -/
import Derived.Test.YtkkemchihllklaaProg
import Derived.Test.YtkkemchihllklaaRows
import Derived.ProofKit
import Derived.Deep.Slices
import Derived.ChangeSame
import Derived.Test.YtkkemchihllklaaQRfs4
namespace Go.Proofs.Ytkkemchihllklaa
open Go Go.RowKit

theorem idx_hd {α : Type} (a : α) (us : List α) : idx (a :: us) 0 = some a := rfl
theorem slc_tl {α : Type} (a : α) (us : List α) : slc (a :: us) 1 ((a :: us).length : Int) = some us := by
  rw [slc, if_pos ⟨by omega, by simp; omega, by omega⟩]
  simp
theorem merge_go : ∀ (f : Nat) (us vs out : List Int), us.length + vs.length ≤ f → out.length + us.length ≤ 4294967296 → iterF (m_alphabet_merge_l1 m_alphabet_Minus_1) (f + 1) (out, us, vs) = some (minusL f us vs out) := by
  intro f
  induction f with
  | zero =>
    intro us vs out h _
    have h1 : us = [] := List.eq_nil_of_length_eq_zero (by omega)
    have h2 : vs = [] := List.eq_nil_of_length_eq_zero (by omega)
    subst h1; subst h2
    rfl
  | succ f ih =>
    intro us vs out h ho
    rw [iterF_succ]
    cases us with
    | nil =>
      cases vs with
      | nil => rfl
      | cons b vs =>
        have e : m_alphabet_merge_l1 m_alphabet_Minus_1 (out, [], b :: vs) = some (.inl (out, [], vs)) := by
          rw [m_alphabet_merge_l1]
          dsimp only
          rw [if_pos (by simp), if_neg (by simp), m_alphabet_merge_j1]
          dsimp only
          rw [if_pos (by simp), if_pos (by simp), m_alphabet_merge_j2, if_neg (by simp), m_alphabet_merge_j3, if_pos rfl]
          dsimp only
          rw [idx_hd, Option.bind_some, slc_tl, Option.bind_some]
          rfl
        rw [e]
        exact ih [] vs out (by simp at h ⊢; omega) ho
    | cons a us =>
      rw [List.length_cons] at h ho
      have ho' : app out ([a] : List Int) = some (out ++ [a]) := app_eq (by simp; omega)
      cases vs with
      | nil =>
        have e : m_alphabet_merge_l1 m_alphabet_Minus_1 (out, a :: us, []) = some (.inl (out ++ [a], us, [])) := by
          rw [m_alphabet_merge_l1]
          dsimp only
          rw [if_pos (by simp), if_pos (by simp), if_pos (by simp), m_alphabet_merge_j1]
          dsimp only
          rw [if_neg (by simp), m_alphabet_merge_j2, if_pos rfl]
          dsimp only
          rw [idx_hd, Option.bind_some, slc_tl, Option.bind_some, m_alphabet_merge_j3, if_neg (by simp), m_alphabet_merge_j4, show m_alphabet_Minus_1 true false = some true from rfl, Option.bind_some, if_pos rfl]
          dsimp only
          rw [ho', Option.bind_some]
        rw [e]
        exact ih us [] (out ++ [a]) (by simp at h ⊢; omega) (by simp; omega)
      | cons b vs =>
        rw [List.length_cons] at h
        have e0 : m_alphabet_merge_l1 m_alphabet_Minus_1 (out, a :: us, b :: vs) = m_alphabet_merge_j2 m_alphabet_Minus_1 (out, a :: us, b :: vs) (decide (a ≤ b)) (decide (b ≤ a)) := by
          rw [m_alphabet_merge_l1]
          dsimp only
          rw [if_pos (by simp), if_pos (by simp), if_neg (by simp; omega), idx_hd, Option.bind_some, idx_hd, Option.bind_some, m_alphabet_merge_j1]
          dsimp only
          rw [if_pos (by simp), if_neg (by simp; omega), idx_hd, Option.bind_some, idx_hd, Option.bind_some]
        rw [e0, minusL, m_alphabet_merge_j2]
        dsimp only
        by_cases h1 : a < b
        · rw [if_pos (show decide (a ≤ b) = true by simp; omega), idx_hd, Option.bind_some, slc_tl, Option.bind_some, m_alphabet_merge_j3, if_neg (by simp; omega), m_alphabet_merge_j4, show decide (a ≤ b) = true by simp; omega, show decide (b ≤ a) = false by simp; omega,
            show m_alphabet_Minus_1 true false = some true from rfl, Option.bind_some, if_pos rfl, if_pos h1]
          dsimp only
          rw [ho', Option.bind_some]
          exact ih us (b :: vs) (out ++ [a]) (by simp; omega) (by simp; omega)
        · rw [if_neg h1]
          by_cases h2 : b < a
          · rw [if_neg (show ¬ decide (a ≤ b) = true by simp; omega), m_alphabet_merge_j3, if_pos (show decide (b ≤ a) = true by simp; omega)]
            dsimp only
            rw [idx_hd, Option.bind_some, slc_tl, Option.bind_some, m_alphabet_merge_j4, show decide (a ≤ b) = false by simp; omega, show decide (b ≤ a) = true by simp; omega,
              show m_alphabet_Minus_1 false true = some false from rfl, Option.bind_some, if_neg (by simp), if_pos h2]
            exact ih (a :: us) vs out (by simp; omega) (by simp; omega)
          · rw [if_pos (show decide (a ≤ b) = true by simp; omega), idx_hd, Option.bind_some, slc_tl, Option.bind_some, m_alphabet_merge_j3, if_pos (show decide (b ≤ a) = true by simp; omega)]
            dsimp only
            rw [idx_hd, Option.bind_some, slc_tl, Option.bind_some, m_alphabet_merge_j4, show decide (a ≤ b) = true by simp; omega, show decide (b ≤ a) = true by simp; omega,
              show m_alphabet_Minus_1 true true = some false from rfl, Option.bind_some, if_neg (by simp), if_neg h2]
            exact ih us vs out (by omega) (by omega)
/-- What a set has and another has not. -/
theorem minus_eq {us vs : List Int} (hu : us.length ≤ 4294967296) (hv : vs.length ≤ 4294967296) : m_alphabet_Minus us vs = some (minusL (us.length + vs.length) us vs []) := by
  have h : iter (m_alphabet_merge_l1 m_alphabet_Minus_1) (([] : List Int), us, vs) = some (minusL (us.length + vs.length) us vs []) := iter_of (by omega) (merge_go _ us vs [] (Nat.le_refl _) (by simpa using hu))
  rw [m_alphabet_Minus, m_alphabet_merge, h]
  rfl
theorem subset_eq {us vs : List Int} (hu : us.length ≤ 4294967296) (hv : vs.length ≤ 4294967296) (iu : Inc us) (iv : Inc vs) : m_alphabet_Subset us vs = some (subB us vs) := by
  rw [m_alphabet_Subset, minus_eq hu hv, Option.bind_some]
  have h := minus_nil iu iv
  cases hb : subB us vs with
  | true => rw [h.2 hb]; rfl
  | false =>
    have hn : minusL (us.length + vs.length) us vs [] ≠ [] := fun e => by rw [h.1 e] at hb; cases hb
    have : (minusL (us.length + vs.length) us vs []).length ≠ 0 := fun e => hn (List.eq_nil_of_length_eq_zero e)
    rw [show (((minusL (us.length + vs.length) us vs []).length : Int) == 0) = false from by simpa using hn]
theorem half_eq {i j : Nat} (h : i + j < 9223372036854775808) : W ((IntKind.u64.wrap (W ((i : Int) + (j : Int)))).fdiv (2 ^ (min (1 : Int).toNat 64))) = (((i + j) / 2 : Nat) : Int) := by
  rw [W_of (x := (i : Int) + j) (by omega) (by omega), IntWalk.u64_in _ (by omega), show (2 : Int) ^ (min (1 : Int).toNat 64) = 2 from rfl, Int.fdiv_eq_ediv_of_nonneg _ (by omega), W_of (by omega) (by omega)]
  omega
end Go.Proofs.Ytkkemchihllklaa

namespace Go.Proofs.Ytkkemchihllklaa
open Go Go.RowKit
noncomputable def m_overseerlaw53_step_l1 (p0 : List Int × Int × List Int × (List (Int × Int × Int))) (p1 : Int) (p2 : Int) (st18 : Int) : Option (Int ⊕ (Unit ⊕ Int)) :=
  if decide (st18 < (p0.2.2.2.length : Int)) then
    (idx p0.2.2.2 st18).bind fun x27 =>
    if ((x27.1 == p1) && (x27.2.1 == p2)) then
      some (.inr (.inr (x27.2.2)))
    else
      some (.inl (W (st18 + 1)))
  else
    some (.inr (.inl ()))
/-- What overseerlaw53.step computes. -/
noncomputable def m_overseerlaw53_step (p0 : List Int × Int × List Int × (List (Int × Int × Int))) (p1 : Int) (p2 : Int) : Option Int :=
  (iter (m_overseerlaw53_step_l1 p0 p1 p2) 0).bind fun o18 =>
  match o18 with
  | .inl u21 =>
    some (-1)
  | .inr (u24) =>
    some u24
/-- What generate.Alarmed computes. -/
noncomputable def m_generate_Alarmed (p0 : (Int × Int × Int × List Bool × (List (Int × Int))) × List Int × List Int × Int) (p1 : List Bool × List Bool) : Option (Bool × Int) :=
  (m_generate_fits p0 p1).bind fun r13 =>
  if (r13 != 0) then
    some (false, r13)
  else
    (idx p1.1 (p0.2.2.1.length : Int)).bind fun x16 =>
    some (x16, 0)
noncomputable def m_overseerlaw53_shows_j1 (st57 : Int × List Int) (l97 : List Int) : Option ((Int × List Int) ⊕ ((List Int) ⊕ Unit)) :=
  some (.inl (W (st57.1 + 1), l97))
noncomputable def m_overseerlaw53_shows_l2 (p0 : List Int × Int × List Int × (List (Int × Int × Int))) (p1 : List Int) (p3 : List Bool × List Bool) (p4 : Int) (p6 : Bool) (st57 : Int × List Int) : Option ((Int × List Int) ⊕ ((List Int) ⊕ Unit)) :=
  if decide (st57.1 < (p1.length : Int)) then
    (idx p1 st57.1).bind fun x101 =>
    (if p6 then
      (m_overseerlaw53_step p0 p4 x101).bind fun r116 =>
      some (decide (r116 ≥ 0))
    else
      some false).bind fun b103 =>
    (idx p3.1 st57.1).bind fun x106 =>
    if (x106 != b103) then
      some (.inr (.inr (())))
    else
      if b103 then
        (app st57.2 ([x101] : List Int)).bind fun x111 =>
        m_overseerlaw53_shows_j1 st57 x111
      else
        m_overseerlaw53_shows_j1 st57 st57.2
  else
    some (.inr (.inl st57.2))
noncomputable def m_overseerlaw53_shows_l1 (p0 : List Int × Int × List Int × (List (Int × Int × Int))) (p3 : List Bool × List Bool) (p4 : Int) (st25 : Int) : Option (Int ⊕ (Unit ⊕ Unit)) :=
  if decide (st25 < p0.2.1) then
    (idx p3.2 st25).bind fun x123 =>
    if (x123 != (st25 == p4)) then
      some (.inr (.inr (())))
    else
      some (.inl (W (st25 + 1)))
  else
    some (.inr (.inl ()))
/-- What overseerlaw53.shows computes. -/
noncomputable def m_overseerlaw53_shows (p0 : List Int × Int × List Int × (List (Int × Int × Int))) (p1 : List Int) (p2 : (Int × Int × Int × List Bool × (List (Int × Int))) × List Int × List Int × Int) (p3 : List Bool × List Bool) (p4 : Int) (p5 : Bool) (p6 : Bool) : Option Bool :=
  if (((p3.1.length : Int) != (W ((p1.length : Int) + 1))) || (decide ((p3.2.length : Int) < p0.2.1))) then
    some false
  else
    (iter (m_overseerlaw53_shows_l1 p0 p3 p4) 0).bind fun o25 =>
    match o25 with
    | .inl u27 =>
      (iter (m_overseerlaw53_shows_l2 p0 p1 p3 p4 p6) (0, ([] : List Int))).bind fun o57 =>
      match o57 with
      | .inl u61 =>
        (m_generate_State p2 p3).bind fun r63 =>
        (m_generate_Enabled p2 p3).bind fun r66 =>
        (m_generate_Alarmed p2 p3).bind fun r70 =>
        (if ((((r63.2 == 0) && (r66.2 == 0)) && (r70.2 == 0)) && (r63.1 == p4)) then
          (m_slices_Equal_int r66.1 u61).bind fun r87 =>
          some r87
        else
          some false).bind fun b76 =>
        (if (b76 && (r70.1 == p5)) then
          (idx p3.1 (p1.length : Int)).bind fun x83 =>
          some (x83 == p5)
        else
          some false).bind fun b80 =>
        some b80
      | .inr (u94) =>
        some false
    | .inr (u120) =>
      some false
theorem cf11 : Cf Try.prog 11 := Cf.mk Try.func11 (by kernel_rfl) (by kernel_rfl)
end Go.Proofs.Ytkkemchihllklaa

namespace Go.Proofs.Ytkkemchihllklaa
open Go Go.RowKit

section
variable {a : Aut} {ctrl : List Int} {n : Nat}
/-- The generated program is valid. -/
theorem genP_in (h : GenIn a ctrl n) (ia : Inc a.al) (ic : Inc ctrl) : PrgIn a.al.length (ctrl.length + 1) (n + 1) (true :: List.replicate n false) (genP a ctrl) := by
  have h0 := h.n0; have h1 := h.n1; have h2 := h.es; have h3 := h.al; have h4 := h.ct; have h5 := h.hn
  have h6 := genP_len ia ic (a := a)
  exact ⟨by omega, by omega, by omega, by simp, by omega, genP_ok h5 h.ed⟩
theorem fits_eq {out mem : List Bool} (ho : out.length = ctrl.length + 1) (hm : mem.length = n + 1) : m_generate_fits (codeP a ctrl n) (out, mem) = some 0 := by
  rw [m_generate_fits, if_neg (by simp [codeP, ho, hm])]
theorem alarmed_eq (h : GenIn a ctrl n) {out mem : List Bool} (ho : out.length = ctrl.length + 1) (hm : mem.length = n + 1) : m_generate_Alarmed (codeP a ctrl n) (out, mem) = some (out.getD ctrl.length false, 0) := by
  rw [m_generate_Alarmed, fits_eq ho hm, Option.bind_some, if_neg (by simp), show idx (out, mem).1 ((codeP a ctrl n).2.2.1.length : Int) = some (out[ctrl.length]'(by omega)) from idx_at (xs := out) (i := ctrl.length) (by omega), Option.bind_some, List.getD_eq_getElem?_getD, List.getElem?_eq_getElem (by omega)]
  rfl
theorem enabled_eq (h : GenIn a ctrl n) {out mem : List Bool} (ho : out.length = ctrl.length + 1) (hm : mem.length = n + 1) {q : Int → Bool} (hq : ∀ k, k < ctrl.length → out.getD k false = q (ctrl.getD k 0)) :
    m_generate_Enabled (codeP a ctrl n) (out, mem) = some (ctrl.filter q, 0) := by
  have h4 := h.ct
  have hi : iter (m_generate_Enabled_l1 (codeP a ctrl n) (out, mem)) (0, ([] : List Int)) = some (ctrl.filter q) := by
    have e0 : ((0 : Int), ([] : List Int)) = (fun k : Nat => ((k : Int), (ctrl.take k).filter q)) 0 := by simp
    refine Eq.trans (congrArg _ e0) (iter_run (f := m_generate_Enabled_l1 (codeP a ctrl n) (out, mem)) (fun k : Nat => ((k : Int), (ctrl.take k).filter q)) ctrl.length (by omega) (fun k hk => ?_) ?_)
    · rw [m_generate_Enabled_l1]
      dsimp only
      have ht : (ctrl.take (k + 1)).filter q = (ctrl.take k).filter q ++ (if q ctrl[k] then [ctrl[k]] else []) := by
        rw [List.take_succ_eq_append_getElem hk, List.filter_append]
        cases hc : q ctrl[k] <;> simp [hc]
      have hk3 : out[k]'(by omega) = q ctrl[k] := by
        have := hq k hk
        rwa [List.getD_eq_getElem?_getD, List.getElem?_eq_getElem (by omega), List.getD_eq_getElem?_getD, List.getElem?_eq_getElem hk] at this
      have hlen : ((ctrl.take k).filter q).length ≤ 32 := Nat.le_trans (List.length_filter_le ..) (by simp; omega)
      rw [if_pos (show decide ((k : Int) < ((codeP a ctrl n).2.2.1.length : Int)) = true from decide_eq_true (show (k : Int) < (ctrl.length : Int) by omega)), show idx (codeP a ctrl n).2.2.1 (k : Int) = some ctrl[k] from idx_at hk, Option.bind_some, idx_at (by omega), Option.bind_some, hk3, ht]
      cases hc : q ctrl[k] with
      | true =>
        rw [if_pos rfl, app_eq (by simp; omega), Option.bind_some, m_generate_Enabled_j1, show (k : Int) + 1 = ((k + 1 : Nat) : Int) by omega, W_nat (by omega)]
        rfl
      | false =>
        rw [if_neg (by simp), m_generate_Enabled_j1, show (k : Int) + 1 = ((k + 1 : Nat) : Int) by omega, W_nat (by omega), if_neg (by simp), List.append_nil]
    · rw [m_generate_Enabled_l1]
      dsimp only
      rw [if_neg (show ¬ decide ((ctrl.length : Int) < ((codeP a ctrl n).2.2.1.length : Int)) = true from by rw [decide_eq_true_eq]; show ¬ (ctrl.length : Int) < (ctrl.length : Int); omega), List.take_of_length_le (Nat.le_refl _)]
  rw [m_generate_Enabled, fits_eq ho hm, Option.bind_some, if_neg (by simp), hi]
  rfl
theorem gstate_eq (h : GenIn a ctrl n) {out mem : List Bool} (ho : out.length = ctrl.length + 1) (hm : mem.length = n + 1) {s : Nat} (hs : s < n) (hq : ∀ k, k < n → mem.getD k false = decide (k = s)) :
    m_generate_State (codeP a ctrl n) (out, mem) = some ((s : Int), 0) := by
  have h1 := h.n1
  have hl : (mem.take n).length = n := by simp; omega
  have hi : iter (m_generate_State_l1 (mem.take n)) (0, 0, 0) = some (1, (s : Int)) := by
    have e0 : ((0 : Int), (0 : Int), (0 : Int)) = (fun k : Nat => ((k : Int), (if s < k then 1 else 0 : Int), (if s < k then (s : Int) else 0))) 0 := by simp
    refine Eq.trans (congrArg _ e0) (iter_run (f := m_generate_State_l1 (mem.take n)) (fun k : Nat => ((k : Int), (if s < k then 1 else 0 : Int), (if s < k then (s : Int) else 0))) n (by omega) (fun k hk => ?_) ?_)
    · rw [m_generate_State_l1]
      dsimp only
      have hk3 : (mem.take n)[k]'(by omega) = decide (k = s) := by
        have := hq k hk
        rw [List.getElem_take]
        rwa [List.getD_eq_getElem?_getD, List.getElem?_eq_getElem (by omega)] at this
      rw [if_pos (by rw [hl]; simp; omega), idx_at (by omega), Option.bind_some, hk3]
      by_cases hks : k = s
      · subst hks
        rw [if_pos (by simp), if_neg (by omega), if_neg (by omega), if_pos (by omega), if_pos (by omega), m_generate_State_j1, show (k : Int) + 1 = ((k + 1 : Nat) : Int) by omega, W_nat (by omega)]
        rfl
      · rw [if_neg (by simpa using hks), m_generate_State_j1, show (k : Int) + 1 = ((k + 1 : Nat) : Int) by omega, W_nat (by omega)]
        by_cases hsk : s < k
        · rw [if_pos hsk, if_pos hsk, if_pos (by omega), if_pos (by omega)]
        · rw [if_neg hsk, if_neg hsk, if_neg (by omega), if_neg (by omega)]
    · rw [m_generate_State_l1]
      dsimp only
      rw [if_neg (by rw [hl]; simp), if_pos hs, if_pos hs]
  rw [m_generate_State, fits_eq ho hm, Option.bind_some, if_neg (by simp), show slc (out, mem).2 0 (codeP a ctrl n).2.2.2 = some (mem.take n) from by
    show slc mem 0 (n : Int) = _
    rw [slc, if_pos ⟨by omega, by omega, by omega⟩]; simp, Option.bind_some, hi, Option.bind_some, if_neg (by simp)]
end
end Go.Proofs.Ytkkemchihllklaa

namespace Go.Proofs.Ytkkemchihllklaa
open Go Go.RowKit

/-- The state behind an event, or -1. -/
def stF (es : List Ed) (s : Nat) (e : Int) : Int := match stepF es s e with
  | some t => (t : Int)
  | none => -1
theorem stF_ge {es : List Ed} {s : Nat} {e : Int} : decide (stF es s e ≥ 0) = (stepF es s e).isSome := by
  unfold stF
  cases stepF es s e with
  | none => rfl
  | some t => simp
theorem step_go {a : Aut} {s e : Int} (hl : a.es.length < 4611686018427387904) : ∀ (j i : Nat), i + j = a.es.length →
    iterF (m_overseerlaw53_step_l1 (autP a) s e) (j + 1) (i : Int) = some (match (a.es.drop i).find? (fun x => x.f == s && x.e == e) with | some x => .inr x.t | none => .inl ()) := by
  have hlen : (autP a).2.2.2.length = a.es.length := by simp [autP]
  intro j
  induction j with
  | zero =>
    intro i hi
    rw [iterF_succ, m_overseerlaw53_step_l1, if_neg (by rw [hlen]; simp; omega), List.drop_of_length_le (by omega)]
    rfl
  | succ j ih =>
    intro i hi
    have hlt : i < a.es.length := by omega
    have hat : idx (autP a).2.2.2 (i : Int) = some (edP a.es[i]) := by
      rw [idx_at (by rw [hlen]; exact hlt)]; simp [autP]
    rw [iterF_succ, m_overseerlaw53_step_l1, if_pos (by rw [hlen]; simp; omega), hat, Option.bind_some, List.drop_eq_getElem_cons hlt]
    by_cases hc : (a.es[i].f == s && a.es[i].e == e) = true
    · rw [if_pos (show ((edP a.es[i]).1 == s && (edP a.es[i]).2.1 == e) = true from hc), List.find?_cons_of_pos (p := fun x : Ed => x.f == s && x.e == e) hc]
      rfl
    · rw [if_neg (show ¬ ((edP a.es[i]).1 == s && (edP a.es[i]).2.1 == e) = true from hc), List.find?_cons_of_neg (p := fun x : Ed => x.f == s && x.e == e) hc, show (i : Int) + 1 = ((i + 1 : Nat) : Int) by omega, W_nat (by omega)]
      exact ih (i + 1) (by omega)
theorem step_eq {a : Aut} {s : Nat} {e : Int} (hl : a.es.length < 4611686018427387904) (ht : ∀ x ∈ a.es, 0 ≤ x.t) : m_overseerlaw53_step (autP a) (s : Int) e = some (stF a.es s e) := by
  rw [m_overseerlaw53_step, show iter (m_overseerlaw53_step_l1 (autP a) (s : Int) e) 0 = _ from iter_of (by omega) (step_go hl a.es.length 0 (by omega)), Option.bind_some, List.drop_zero, stF, stepF]
  cases hf : a.es.find? (fun x => x.f == (s : Int) && x.e == e) with
  | none => rfl
  | some x =>
    have := ht x (List.mem_of_find?_eq_some hf)
    show some x.t = some ((x.t.toNat : Nat) : Int)
    rw [show ((x.t.toNat : Nat) : Int) = x.t by omega]
theorem equal_self {xs : List Int} (hl : xs.length < 4611686018427387904) : m_slices_Equal_int xs xs = some true := by
  have hi : iter (m_slices_Equal_int_l1 xs xs) 0 = some (.inl ()) := by
    refine iter_run (f := m_slices_Equal_int_l1 xs xs) (fun k => (k : Int)) xs.length (by omega) (fun k hk => ?_) ?_
    · rw [m_slices_Equal_int_l1, if_pos (by simp; omega), idx_at hk, Option.bind_some, Option.bind_some, if_neg (by simp), show (k : Int) + 1 = ((k + 1 : Nat) : Int) by omega, W_nat (by omega)]
    · rw [m_slices_Equal_int_l1, if_neg (by simp)]
  rw [m_slices_Equal_int, if_neg (by simp), hi]
  rfl
theorem shows_eq {a : Aut} {ctrl : List Int} {n : Nat} (h : GenIn a ctrl n) {out mem : List Bool} (ho : out.length = ctrl.length + 1) (hm : mem.length = n + 1) {s : Nat} (hs : s < n) (hq : ∀ k, k < n → mem.getD k false = decide (k = s)) {al p6 : Bool} (ha : out.getD ctrl.length false = al)
    (hc : ∀ k, k < ctrl.length → out.getD k false = (p6 && (stepF a.es s (ctrl.getD k 0)).isSome)) : m_overseerlaw53_shows (autP a) ctrl (codeP a ctrl n) (out, mem) (s : Int) al p6 = some true := by
  have h1 := h.n1; have h2 := h.es; have h4 := h.ct; have h5 := h.hn
  have en := enabled_eq h ho hm (q := fun e => p6 && (stepF a.es s e).isSome) hc
  have hi1 : iter (m_overseerlaw53_shows_l1 (autP a) (out, mem) (s : Int)) 0 = some (.inl ()) := by
    refine iter_run (f := m_overseerlaw53_shows_l1 (autP a) (out, mem) (s : Int)) (fun k => (k : Int)) n (by omega) (fun k hk => ?_) ?_
    · have hk3 : mem[k]'(by omega) = decide (k = s) := by
        have := hq k hk
        rwa [List.getD_eq_getElem?_getD, List.getElem?_eq_getElem (by omega)] at this
      have hd : ((k : Int) == (s : Int)) = decide (k = s) := by
        rw [Bool.eq_iff_iff]; simp; omega
      rw [m_overseerlaw53_shows_l1, if_pos (show decide ((k : Int) < (autP a).2.1) = true from decide_eq_true (show (k : Int) < a.n by omega)), show idx (out, mem).2 (k : Int) = some (mem[k]'(by omega)) from idx_at (xs := mem) (by omega), Option.bind_some, hk3, hd, if_neg (by simp), show (k : Int) + 1 = ((k + 1 : Nat) : Int) by omega, W_nat (by omega)]
    · rw [m_overseerlaw53_shows_l1, if_neg (show ¬ decide ((n : Int) < (autP a).2.1) = true from fun e => by have e2 : (n : Int) < a.n := of_decide_eq_true e; omega)]
  have hi2 : iter (m_overseerlaw53_shows_l2 (autP a) ctrl (out, mem) (s : Int) p6) (0, ([] : List Int)) = some (.inl (ctrl.filter fun e => p6 && (stepF a.es s e).isSome)) := by
    have e0 : ((0 : Int), ([] : List Int)) = (fun k : Nat => ((k : Int), (ctrl.take k).filter fun e => p6 && (stepF a.es s e).isSome)) 0 := by simp
    refine Eq.trans (congrArg _ e0) (iter_run (f := m_overseerlaw53_shows_l2 (autP a) ctrl (out, mem) (s : Int) p6) (fun k : Nat => ((k : Int), (ctrl.take k).filter fun e => p6 && (stepF a.es s e).isSome)) ctrl.length (by omega) (fun k hk => ?_) ?_)
    · generalize hqq : (fun e => p6 && (stepF a.es s e).isSome) = q
      have hb : (if p6 = true then (m_overseerlaw53_step (autP a) (s : Int) ctrl[k]).bind fun r116 => some (decide (r116 ≥ 0)) else some false) = some (q ctrl[k]) := by
        rw [← hqq]
        cases p6 with
        | false => rfl
        | true => rw [if_pos rfl, step_eq (by omega) (fun x hx => (h.ed x hx).2.2.1), Option.bind_some, stF_ge]; rfl
      have ht : (ctrl.take (k + 1)).filter q = (ctrl.take k).filter q ++ (if q ctrl[k] then [ctrl[k]] else []) := by
        rw [List.take_succ_eq_append_getElem hk, List.filter_append]
        cases hc : q ctrl[k] <;> simp [hc]
      have hk3 : out[k]'(by omega) = q ctrl[k] := by
        have := hc k hk
        rw [← hqq]
        rwa [List.getD_eq_getElem?_getD, List.getElem?_eq_getElem (by omega), List.getD_eq_getElem?_getD, List.getElem?_eq_getElem hk] at this
      have hlen : ((ctrl.take k).filter q).length ≤ 32 := Nat.le_trans (List.length_filter_le ..) (by simp; omega)
      rw [m_overseerlaw53_shows_l2]
      dsimp only
      rw [if_pos (by simp; omega), idx_at hk, Option.bind_some, hb, Option.bind_some, idx_at (show k < out.length by omega), Option.bind_some, hk3, if_neg (by simp), ht]
      cases hc : q ctrl[k] with
      | true =>
        rw [if_pos rfl, app_eq (by simp; omega), Option.bind_some, m_overseerlaw53_shows_j1, show (k : Int) + 1 = ((k + 1 : Nat) : Int) by omega, W_nat (by omega)]
        rfl
      | false =>
        rw [if_neg (by simp), m_overseerlaw53_shows_j1, show (k : Int) + 1 = ((k + 1 : Nat) : Int) by omega, W_nat (by omega), if_neg (by simp), List.append_nil]
    · rw [m_overseerlaw53_shows_l2]
      dsimp only
      rw [if_neg (by simp), List.take_of_length_le (Nat.le_refl _)]
  have hf : (ctrl.filter fun e => p6 && (stepF a.es s e).isSome).length ≤ 32 := Nat.le_trans (List.length_filter_le ..) h4
  have ho2 : out[ctrl.length]'(by omega) = al := by
    rwa [List.getD_eq_getElem?_getD, List.getElem?_eq_getElem (by omega)] at ha
  have hw : W ((ctrl.length : Int) + 1) = ((ctrl.length + 1 : Nat) : Int) := by rw [show (ctrl.length : Int) + 1 = ((ctrl.length + 1 : Nat) : Int) by omega, W_nat (by omega)]
  rw [m_overseerlaw53_shows, hw, if_neg (by
      rw [Bool.or_eq_true, not_or]
      refine ⟨by simp [ho], ?_⟩
      show ¬ decide ((mem.length : Int) < a.n) = true
      simp; omega), hi1, Option.bind_some]
  dsimp only
  rw [hi2, Option.bind_some]
  dsimp only
  rw [gstate_eq h ho hm hs hq, Option.bind_some, en, Option.bind_some, alarmed_eq h ho hm, Option.bind_some, ha]
  dsimp only
  rw [if_pos (by simp), equal_self (by omega), Option.bind_some, Option.bind_some, if_pos (by simp), idx_at (show ctrl.length < out.length by omega), Option.bind_some, ho2]
  simp
end Go.Proofs.Ytkkemchihllklaa

namespace Go.Proofs.Ytkkemchihllklaa
open Go Go.RowKit

/-- What a state shows of state s, alarm al. -/
structure Shows (a : Aut) (ctrl : List Int) (n : Nat) (s : Nat) (al : Bool) (st : List Bool × List Bool) : Prop where
  ho : st.1.length = ctrl.length + 1
  hm : st.2.length = n + 1
  hs : s < n
  hq : ∀ k, k < n → st.2.getD k false = decide (k = s)
  ha : st.1.getD ctrl.length false = al
theorem subB_mem {us vs : List Int} (h : subB us vs = true) : ∀ x ∈ us, x ∈ vs := fun x hx => hasB_true.1 (List.all_eq_true.1 h x hx)
theorem Shows.start {a : Aut} {ctrl : List Int} {n : Nat} (h0 : 0 < n) : Shows a ctrl n 0 false (List.replicate (ctrl.length + 1) false, true :: List.replicate n false) := by
  refine ⟨by simp, by simp, h0, fun k hk => ?_, ?_⟩
  · cases k with
    | zero => rfl
    | succ k =>
      show (true :: List.replicate n false).getD (k + 1) false = _
      rw [List.getD_cons_succ, List.getD_eq_getElem?_getD, List.getElem?_replicate]
      split <;> simp
  · show (List.replicate (ctrl.length + 1) false).getD ctrl.length false = _
    rw [List.getD_eq_getElem?_getD, List.getElem?_replicate]
    split <;> rfl
theorem Shows.says {a : Aut} {ctrl : List Int} {n : Nat} (h : GenIn a ctrl n) {s : Nat} {al p6 : Bool} {st : List Bool × List Bool} (hv : Shows a ctrl n s al st) (hc : ∀ k, k < ctrl.length → st.1.getD k false = (p6 && (stepF a.es s (ctrl.getD k 0)).isSome)) :
    m_overseerlaw53_shows (autP a) ctrl (codeP a ctrl n) st (s : Int) al p6 = some true := shows_eq (out := st.1) (mem := st.2) h hv.ho hv.hm hv.hs hv.hq hv.ha hc
theorem gstart_eq {a : Aut} {ctrl : List Int} {n : Nat} (h : GenIn a ctrl n) (ia : Inc a.al) (ic : Inc ctrl) : m_instruction_Start (codeP a ctrl n).1 = some ((List.replicate (ctrl.length + 1) false, true :: List.replicate n false), 0) := start_eq (genP_in h ia ic)
end Go.Proofs.Ytkkemchihllklaa

namespace Go.Proofs.Ytkkemchihllklaa
open Go Go.RowKit
set_option maxRecDepth 1000000 in
theorem known53 : m_overseerlaw53_known = some true := by kernel_rfl
end Go.Proofs.Ytkkemchihllklaa

namespace Go.Proofs.Ytkkemchihllklaa
open Go.ChangeShapes Go.WideShapes Go.ChangeAt Go.RowKit

theorem Try.own : ownKnob Try.prog.godebug = none := by kernel_rfl
theorem Try.laidOut : laidOutB Try.prog = true := by kernel_rfl

section
variable {H : Type} {enc : TypeId × Value → H}
/-- Types whose values may be carried. -/
def carryB (P : Program) (ts : List TypeId) : Bool := ts.all fun t => P.readableRec t && decide (t < P.types.size)
/-- All arguments read as they did. -/
theorem trodAll_carry {P : Program} (hl : laidOutB P = true) {W W' : World} (hb : Below W.heap.size W W') {sp : Nat → Bool} : ∀ {ts : List TypeId} {vs : List Value} {ds : List (DataW H)} {ps : List MemPlace}, carryB P ts = true →
    DataW.TrodAll enc P W 0 (fun _ => true) true ts vs ds ps → (∀ x ∈ ps, x.block < W.heap.size) → (∀ x ∈ ps, sp x.block = true) → DataW.TrodAll enc P W' 0 sp true ts vs ds ps
  | [], [], [], _, _, h, _, _ => h
  | [], _ :: _, _, _, _, h, _, _ => h.elim
  | [], [], _ :: _, _, _, h, _, _ => h.elim
  | t :: ts, [], _, _, _, h, _, _ => h.elim
  | t :: ts, _ :: _, [], _, _, h, _, _ => h.elim
  | t :: ts, v :: vs, d :: ds, ps, hc, ⟨p, q, h1, h2, e⟩, hlt, hsp => by
    subst e
    unfold carryB at hc
    rw [List.all_cons, Bool.and_eq_true, Bool.and_eq_true] at hc
    exact ⟨p, q, WideElems.Trod_stays hl hc.1.1 (of_decide_eq_true hc.1.2) h1 (fun x hx => hb.same (hlt x (List.mem_append_left _ hx))) (fun x hx => hsp x (List.mem_append_left _ hx)),
      trodAll_carry hl hb hc.2 h2 (fun x hx => hlt x (List.mem_append_right _ hx)) (fun x hx => hsp x (List.mem_append_right _ hx)), rfl⟩

/-- A law's end: it has returned a bool, and nothing that was there has turned. -/
theorem law_post {P : Program} (hl : laidOutB P = true) {f : Func} {s : ChangeSpec} {apart fresh handsOn again : Bool} {W W' : World} {args : Array Value} {ds : List (DataW H)} {before : List MemPlace} {tb : TypeId} {b : Bool}
    (hW : DataW.Whole enc P f.params.toList s.vars apart W args.toList ds [] before) (hv : s.vars = []) (hc : carryB P f.params.toList = true) (hrt : f.resultTypes = #[tb]) (ht : P.underlying tb = some .bool)
    (hr : (s.fn H (ds ++ [])).results = [.lit (.bool b)]) (ha : (s.fn H (ds ++ [])).args = ds) (hvn : (s.fn H (ds ++ [])).vars = []) (hb : Below W.heap.size W W') :
    s.post enc P f apart fresh handsOn again W args (.bool b) W' := by
  have hlt : ∀ p ∈ before, p.block < W.heap.size := fun p hp => hW.lt p hp
  have hWc := hW
  obtain ⟨p, q, hA, hV, rfl, hz, hn⟩ := hWc
  rw [hv] at hV
  obtain ⟨-, rfl⟩ := trodVars_none hV
  rw [List.append_nil] at hlt hz hn
  have hargs : ∀ sp : Nat → Bool, (∀ x ∈ p, sp x.block = true) → DataW.TrodAll enc P W' 0 sp true f.params.toList args.toList (s.fn H (ds ++ [])).args p := fun sp hsp => by
    rw [ha]; exact trodAll_carry hl hb hc hA hlt hsp
  have hres : ∀ (b0 : Nat) (sp : Nat → Bool) (hd : Bool), DataW.TrodAll enc P W' b0 sp hd f.resultTypes.toList ((Value.bool b).resultList f.resultTypes.size) (s.fn H (ds ++ [])).results [] := fun _ _ _ => by
    rw [hr, hrt]; exact trodAll_mk1 (shut_bool ht b)
  have hvars : ∀ sp : Nat → Bool, DataW.TrodVars enc P W' sp s.vars (s.fn H (ds ++ [])).vars [] := fun sp => by rw [hv, hvn]; rfl
  have hold : ∀ x ∈ p, (fun b => decide (b < W.heap.size)) x.block = true := fun x hx => by simpa using hlt x hx
  refine ⟨ds, [], p ++ [], [], p, [], hW, hres _ _ _, hargs _ hold, hvars _, World.keptBut_mono (fun x hx => ?_) (hb.frame (· ∈ p)), fun _ => ?_⟩
  · exact ⟨by rwa [List.append_nil], Or.inr (.inl hx)⟩
  · have hok := ok_one (f := f) (W' := W') (by rw [hrt]) rfl (okWide_bool_mk (W' := W') ht b)
    refine ⟨hok, _, _, ([] ++ p) ++ [], ⟨[] ++ p, [], trodAll_append (hargs _ (fun _ _ => rfl)) (hres _ _ _), hvars _, rfl, ?_, ?_⟩, ?_⟩
    · intro b0 off hp
      have hin : MemPlace.cell b0 off ∈ p := by simpa using hp
      rw [hb.frozen (hlt _ hin)]
      exact hz b0 off hin
    · intro hap
      simpa using hn hap
    · intro x hx _
      simpa using hx
end

end Go.Proofs.Ytkkemchihllklaa

namespace Go.Proofs.Ytkkemchihllklaa
open Go Go.RowKit Go.ChangeShapes Go.WideShapes Go.Deep

/-- Data of a type, wherever they are read, lie so in cells. -/
def Op (P : Program) {α : Type} (r : Rep α) (Q : α → Prop) (t : TypeId) : Prop :=
  ∀ (H : Type) (enc : TypeId × Value → H) (w : World) (fuel : Nat) (cs : List Value) (x : DataW H × List MemPlace), DataW.trod enc P w 0 (fun _ => true) true fuel t cs = some x → ∃ y : α, r.rd ⟨w, fun _ => 0⟩ cs y ∧ Q y
section
variable {P : Program} {α β : Type} {r : Rep α} {q : Rep β} {Q : α → Prop} {R : β → Prop} {t e : TypeId}
theorem Op.int {k : IntKind} (ht : P.underlying t = some (.int k)) : Op P (rK k) (fun n => k.min ≤ n ∧ n ≤ k.max) t := by
  intro H enc w fuel cs x h
  obtain ⟨n, h1, h2, h3⟩ := DataW.trod_int ht h
  refine ⟨n, h1, ?_⟩
  simpa [Lit.wf] using h3
theorem Op.bool (ht : P.underlying t = some .bool) : Op P rB (fun _ => True) t := by
  intro H enc w fuel cs x h
  obtain ⟨b, h1, h2⟩ := DataW.trod_bool ht h
  exact ⟨b, h1, trivial⟩
/-- A slice that is an argument, or lies in one. -/
theorem op_slice {H : Type} {enc : TypeId × Value → H} {w : World} {base fuel : Nat} {v : Value} {x : DataW H × List MemPlace} (ht : P.underlying t = some (.slice e)) (hc : P.cellsOf e = r.sz) (ho : Op P r Q e) (hok : Cell.okWide P w .any base t v)
    (h : DataW.trod enc P w 0 (fun _ => true) true fuel t [v] = some x) : ∃ (a : Option Addr) (c : Nat) (xs : List α), v = .slice a xs.length c ∧ RdL r ⟨w, fun _ => 0⟩ a c xs ∧ ∀ y ∈ xs, Q y := by
  rcases open_slice ht h with ⟨h1, -⟩ | ⟨a, len, cap, m, n, D, Pl, h1, -, h3, h4, h5, -, h7⟩
  · rw [List.cons.injEq] at h1
    refine ⟨none, 0, [], h1.1, ⟨[], ⟨by simp, by simp, by simp, fun _ => rfl, fun ad e => (by cases e), fun ad e => (by cases e)⟩, fun ad e => (by cases e), rfl⟩, fun y hy => (by cases hy)⟩
  · rw [List.cons.injEq] at h1
    have hv := h1.1
    subst hv
    rw [if_pos rfl] at h5
    subst h5
    have hsp : a.spot = none := by
      simp only [Cell.okWide, ht, Cell.ok] at hok
      exact hok.2.2.2.1
    have hadd : ∀ k, a.add k = ⟨a.block, a.off + k, none⟩ := fun k => by
      obtain ⟨b, o, sp⟩ := a
      dsimp only at hsp
      subst hsp
      unfold Addr.add
      split
      · rename_i hk; subst hk; rfl
      · rfl
    have key : ∀ k, k ≤ len → ∃ (xs : List α) (cs : List Value), xs.length = k ∧ Cells r ⟨w, fun _ => 0⟩ cs xs ∧ (∀ y ∈ xs, Q y) ∧ ∀ j (hj : j < cs.length), w.cell? ⟨a.block, a.off + j, none⟩ = some cs[j] := by
      intro k
      induction k with
      | zero => intro _; exact ⟨[], [], rfl, rfl, fun y hy => (by cases hy), fun j hj => absurd hj (Nat.not_lt_zero _)⟩
      | succ k ih =>
        intro hk
        obtain ⟨xs, cs, g1, g2, g3, g4⟩ := ih (by omega)
        obtain ⟨cs', k1, k2⟩ := h7 k (by omega)
        obtain ⟨y, k3, k4⟩ := ho H enc w n cs' _ k2
        obtain ⟨-, k5, k6⟩ := World.cells?_some k1
        have hl := g2.len
        rw [g1] at hl
        rw [hc] at k5 k6
        refine ⟨xs ++ [y], cs ++ cs', by simp [g1], g2.append ⟨cs', [], by simp, k3, rfl⟩, fun z hz => ?_, fun j hj => ?_⟩
        · rcases List.mem_append.1 hz with hz | hz
          · exact g3 z hz
          · rw [List.mem_singleton.1 hz]; exact k4
        · by_cases hlt : j < cs.length
          · rw [List.getElem_append_left hlt]; exact g4 j hlt
          · have hj2 : j - cs.length < cs'.length := by rw [List.length_append] at hj; omega
            rw [List.getElem_append_right (by omega)]
            have := k6 (j - cs.length) (by omega)
            rw [add_add, hadd, List.getElem?_eq_getElem hj2] at this
            rw [← this]
            congr 2
            omega
    obtain ⟨xs, cs, g1, g2, g3, g4⟩ := key len (Nat.le_refl _)
    subst g1
    refine ⟨some a, m, xs, rfl, ⟨cs, ⟨g2.len, h3, h4, fun e => (by cases e), fun ad e => (by cases e; exact hsp), fun ad e j hj => (by cases e; exact g4 j hj)⟩, fun _ _ _ => rfl, g2⟩, g3⟩
/-- The cells of a struct, one type each. -/
theorem op_agg {w : World} {base : Nat} {v : Value} {fs : Array Field} {ts : List TypeId} (ht : P.underlying t = some (.struct fs)) (hts : P.cellTypes P.depth t = some ts) (hsz : P.cellsOf t = ts.length) (hok : Value.okWide P w .any base t v) :
    ∃ cs, v = .agg cs ∧ cs.size = ts.length ∧ ∀ (i : Nat) (u : TypeId), ts[i]? = some u → ∃ c : Value, cs[i]? = some c ∧ Cell.okWide P w .any base u c := by
  simp only [Value.okWide, ht] at hok
  obtain ⟨cs, rfl, h1, ts', h2, h3, h4⟩ := hok
  rw [hts] at h2
  cases h2
  refine ⟨cs, rfl, by omega, fun i u hu => ?_⟩
  have hlt : i < ts.length := (List.getElem?_eq_some_iff.1 hu).1
  obtain ⟨u', g1, g2⟩ := h4 i cs[i] (Array.getElem?_eq_getElem (by omega))
  rw [Nat.mod_eq_of_lt hlt, hu] at g1
  cases g1
  exact ⟨_, Array.getElem?_eq_getElem (by omega), g2⟩
/-- A field of a struct. -/
theorem op_field {H : Type} {enc : TypeId × Value → H} {w : World} {fuel : Nat} {cs : List Value} {x : DataW H × List MemPlace} {fs : Array Field} (ht : P.underlying t = some (.struct fs)) (h : DataW.trod enc P w 0 (fun _ => true) true fuel t cs = some x) {i : Nat} {f : Field} (hf : fs[i]? = some f) :
    ∃ n y, DataW.trod enc P w 0 (fun _ => true) true n f.type ((cs.drop f.offset).take (P.cellsOf f.type)) = some y := by
  obtain ⟨xs, n, _, _, _, h5, h6⟩ := DataW.trod_struct ht h
  have hlt := (Array.getElem?_eq_some_iff.1 hf).1
  exact ⟨n, xs[i]'(by omega), by rw [h6 i f hf, List.getElem?_eq_getElem (by omega)]⟩
theorem op_field1 {H : Type} {enc : TypeId × Value → H} {w : World} {fuel : Nat} {cs : List Value} {x : DataW H × List MemPlace} {fs : Array Field} (ht : P.underlying t = some (.struct fs)) (h : DataW.trod enc P w 0 (fun _ => true) true fuel t cs = some x) (i : Nat) (u : TypeId) {f : Field} {o : Nat} {c : Value} (hf : fs[i]? = some f) (hu : f.type = u) (ho : f.offset = o) (hc : P.cellsOf u = 1) (hat : cs[o]? = some c) :
    ∃ n y, DataW.trod enc P w 0 (fun _ => true) true n u [c] = some y := by
  obtain ⟨n, y, g⟩ := op_field ht h hf
  subst hu
  subst ho
  rw [hc] at g
  obtain ⟨hlt, he⟩ := List.getElem?_eq_some_iff.1 hat
  rw [List.drop_eq_getElem_cons hlt, he, List.take_succ_cons, List.take_zero] at g
  exact ⟨n, y, g⟩
theorem Op.struct3 {γ : Type} {u : Rep γ} {U : γ → Prop} {f0 f1 f2 : Field} (ht : P.underlying t = some (.struct #[f0, f1, f2])) (h0 : Op P r Q f0.type) (h1 : Op P q R f1.type) (h2 : Op P u U f2.type) (o0 : f0.offset = 0) (o1 : f1.offset = r.sz) (o2 : f2.offset = r.sz + q.sz)
    (c0 : P.cellsOf f0.type = r.sz) (c1 : P.cellsOf f1.type = q.sz) (c2 : P.cellsOf f2.type = u.sz) (c : P.cellsOf t = r.sz + q.sz + u.sz) : Op P (rP r (rP q u)) (fun y => Q y.1 ∧ R y.2.1 ∧ U y.2.2) t := by
  intro H enc w fuel cs x h
  obtain ⟨xs, n, _, _, hl, h5, h6⟩ := DataW.trod_struct ht h
  obtain ⟨n0, x0, g0⟩ := op_field (i := 0) (f := f0) ht h rfl
  obtain ⟨n1, x1, g1⟩ := op_field (i := 1) (f := f1) ht h rfl
  obtain ⟨n2, x2, g2⟩ := op_field (i := 2) (f := f2) ht h rfl
  obtain ⟨y0, a0, b0⟩ := h0 _ _ _ _ _ _ g0
  obtain ⟨y1, a1, b1⟩ := h1 _ _ _ _ _ _ g1
  obtain ⟨y2, a2, b2⟩ := h2 _ _ _ _ _ _ g2
  rw [o0, c0] at a0
  rw [o1, c1] at a1
  rw [o2, c2] at a2
  refine ⟨(y0, y1, y2), ⟨_, _, ?_, a0, _, _, rfl, a1, a2⟩, b0, b1, b2⟩
  have e2 : ((cs.drop (r.sz + q.sz)).take u.sz) = cs.drop (r.sz + q.sz) := List.take_of_length_le (by rw [List.length_drop]; omega)
  rw [e2, List.drop_zero, ← List.drop_drop, List.take_append_drop, List.take_append_drop]
end
end Go.Proofs.Ytkkemchihllklaa

namespace Go.Proofs.Ytkkemchihllklaa
open Go Go.RowKit

/-- The queue holds states below n, each once; so it is short. -/
structure QOk (n : Nat) (q : List Int) : Prop where
  nd : q.Nodup
  rng : ∀ s ∈ q, 0 ≤ s ∧ s < (n : Int)
theorem QOk.len : ∀ {n : Nat} {q : List Int}, QOk n q → q.length ≤ n
  | 0, [], _ => Nat.le_refl _
  | 0, x :: q, h => by have := h.rng x (List.mem_cons_self ..); omega
  | n + 1, q, h => by
    by_cases hm : (n : Int) ∈ q
    · have h1 : QOk n (q.erase (n : Int)) := ⟨h.nd.erase _, fun s hs => by
        have h2 := (h.nd.mem_erase_iff).1 hs
        have h3 := h.rng s h2.2
        have := h2.1
        omega⟩
      have h2 := h1.len
      rw [List.length_erase_of_mem hm] at h2
      omega
    · have h1 : QOk n q := ⟨h.nd, fun s hs => by
        have h3 := h.rng s hs
        have : s ≠ n := fun e => hm (e ▸ hs)
        omega⟩
      have := h1.len
      omega
end Go.Proofs.Ytkkemchihllklaa

namespace Go.Proofs.Ytkkemchihllklaa

theorem stepF_in {es : List Ed} {s t : Nat} {e : Int} (h : stepF es s e = some t) : ∃ x ∈ es, x.f = s ∧ x.e = e ∧ x.t.toNat = t := by
  unfold stepF at h
  cases hf : es.find? (fun x => x.f == (s : Int) && x.e == e) with
  | none => rw [hf] at h; cases h
  | some x =>
    rw [hf] at h
    have h1 := List.find?_some hf
    rw [Bool.and_eq_true] at h1
    exact ⟨x, List.mem_of_find?_eq_some hf, by simpa using h1.1, by simpa using h1.2, by simpa using h⟩
end Go.Proofs.Ytkkemchihllklaa

namespace Go.Proofs.Ytkkemchihllklaa
open Go Go.RowKit
noncomputable def m_slices_IndexFunc_int_l1 (p0 : List Int) (p1 : Int → Option Bool) (st9 : Int) : Option (Int ⊕ (Unit ⊕ Int)) :=
  if decide (st9 < (p0.length : Int)) then
    (idx p0 st9).bind fun x18 =>
    (p1 x18).bind fun r20 =>
    if r20 then
      some (.inr (.inr (st9)))
    else
      some (.inl (W (st9 + 1)))
  else
    some (.inr (.inl ()))
/-- What slices.IndexFunc<<>int,int> computes. -/
noncomputable def m_slices_IndexFunc_int (p0 : List Int) (p1 : Int → Option Bool) : Option Int :=
  (iter (m_slices_IndexFunc_int_l1 p0 p1) 0).bind fun o9 =>
  match o9 with
  | .inl u12 =>
    some (-1)
  | .inr (u15) =>
    some u15
set_option maxRecDepth 100000 in
set_option maxHeartbeats 8000000 in
theorem m_slices_IndexFunc_int_c {s : Sig} {p0 : List Int} {p1 : Int → Option Bool} {a1 : Option Addr} {c1 : Nat} {vp1 : Value} {r : Int} (h1 : RdL (rK .i64) s a1 c1 p0) (hp1 : FV1 Try.prog s vp1 (fun (x0 : Int) => [.int .i64 x0]) (fun (r : Bool) => .bool r) p1) (hm : m_slices_IndexFunc_int p0 p1 = some r) :
    Calls Try.prog 60 #[.slice a1 p0.length c1, vp1] s.w (RetS No s fun v s' => v = .int .i64 r) := by
 unfold m_slices_IndexFunc_int at hm
 obtain ⟨N, hN, hNb⟩ := s.fresh
 have m0 : Mv (Up N No) s s := Mv.refl _ _
 refine E.entry Try.func60 rfl Try.ntmps60 rfl rfl (E.seq (E.reg (L.as Wt.no rfl rfl (L.nil (X.seqN (E.seq (E.seq (E.reg (L.mv Wt.no rfl rfl (L.len sl23 Wt.no rfl rfl (L.mv Wt.no rfl rfl (L.nil (X.seqN (E.block ?_))))))))))))))
 obtain ⟨o9, eo9, hm⟩ := bindS hm
 refine E.cut (x := .exit 0) (fun e w => ∃ (s13 : Sig) (u12 : Unit), o9 = .inl u12 ∧ Mv (Up N No) s s13 ∧ e = [] ∧ w = s13.w) ?_ ?_
 ·rintro _ _ ⟨s13, u12, rfl, m0, rfl, rfl⟩
  dsimp only at hm
  refine X.blkE (X.seqN (E.seq (E.reg (L.as Wt.no rfl rfl (L.nil (X.seqN (E.ret ?_)))))))
  obtain rfl := Option.some.inj hm
  exact X.rt (.inl rfl) Try.results60 (Rs.tmp rfl Rs.nil) rfl ⟨_, (s13).ren N (fun _ => 0), rfl, rfl, m0.ren hNb, rfl⟩
 intro K14
 refine E.cut (x := .ret) (fun e w => ∃ (s16 : Sig) (u15 : Int), o9 = .inr (u15) ∧ Mv (Up N No) s s16 ∧ e = [(4, .int .i64 u15)] ∧ w = s16.w) ?_ ?_
 ·rintro _ _ ⟨s16, u15, rfl, m0, rfl, rfl⟩
  dsimp only at hm
  refine X.blkR (X.seqR ?_)
  obtain rfl := Option.some.inj hm
  exact X.rt (.inl rfl) Try.results60 (Rs.tmp rfl Rs.nil) rfl ⟨_, (s16).ren N (fun _ => 0), rfl, rfl, m0.ren hNb, rfl⟩
 intro K17
 refine E.iter (fun (st9 : Int) (e : List (Nat × Value)) (w : World) => ∃ (s11 : Sig), Mv (Up N No) s s11 ∧ RdL (rK .i64) s11 a1 c1 p0 ∧ FV1 Try.prog s11 vp1 (fun (x0 : Int) => [.int .i64 x0]) (fun (r : Bool) => .bool r) p1 ∧ e = [(8, .int .i64 st9), (7, .int .i64 (p0.length : Int)), (0, .slice a1 p0.length c1), (1, vp1)] ∧ w = s11.w) eo9 ⟨s, m0, h1, hp1, rfl, rfl⟩ (Sub.rf rfl) ?_
 rintro st9 res9 hm ih9 ho9 _ _ ⟨s11, m0, h1, hp1, rfl, rfl⟩
 unfold m_slices_IndexFunc_int_l1 at hm
 refine E.seq (E.reg (L.bi Wt.no rfl rfl rfl rfl (L.nil (X.seqN (E.seq ?_)))))
 rcases ifS hm with ⟨hc, hm⟩ | ⟨hc, hm⟩
 ·refine E.cT rfl hc (E.skip (X.seqN (E.seq (E.block (E.seq (E.reg (L.mv Wt.no rfl rfl (L.as Wt.no rfl rfl (L.nil (X.seqN (E.seq (E.reg (L.mv Wt.no rfl rfl (L.mv Wt.no rfl rfl (L.mv Wt.no rfl rfl ?_)))))))))))))))
  obtain ⟨x18, ex18, hm⟩ := bindS hm
  refine L.ix (r := (rK .i64)) sl23 h1 Wt.no rfl rfl ex18 rfl fun b19 o19 cc19 me19 rd19 => ?_
  obtain rfl := rd19
  refine L.ld (j := 0) me19 nag3 Wt.no rfl rfl rfl rfl ?_
  obtain ⟨r20, er20, hm⟩ := bindS hm
  refine L.fv1 (y := x18) hp1 rfl rfl Wt.no rfl rfl er20 rfl fun s21 m22 => ?_
  replace m0 := m0.trans m22.no
  replace h1 := h1.mono (m22.le no_No)
  replace hp1 := hp1.mono (m22.le no_No)
  refine L.nil (X.seqN ?_)
  rcases ifS hm with ⟨hc, hm⟩ | ⟨hc, hm⟩
  ·refine E.cT rfl hc (E.seq (E.reg (L.mv Wt.no rfl rfl (L.as Wt.no rfl rfl (L.nil (X.seqN (E.ret (X.blkR (X.seqR (X.seqR ?_))))))))))
   have hx := ho9 _ (Option.some.inj hm).symm
   exact X.sub (K17 _ _ ⟨s21, st9, hx.symm, m0, rfl, rfl⟩) (Sub.rf rfl)
  ·exact E.cF rfl hc (E.skip (X.blkN (X.seqN (E.reg (L.bi Wt.no rfl rfl rfl rfl (L.mv Wt.no rfl rfl (L.nil (X.sub (ih9 _ (Option.some.inj hm).symm _ _ ⟨s21, m0, h1, hp1, rfl, rfl⟩) (Sub.rf rfl)))))))))
 ·refine E.cF rfl hc (E.exit (X.seqX (X.seqX ?_)))
  have hx := ho9 _ (Option.some.inj hm).symm
  exact X.sub (K14 _ _ ⟨s11, (), hx.symm, m0, rfl, rfl⟩) Sub.nil

end Go.Proofs.Ytkkemchihllklaa

namespace Go.Proofs.Ytkkemchihllklaa
open Go Go.RowKit

/-- A loop over a list that may stop ahead of its end. -/
def scanL {α S O : Type} (g : Nat → S → α → S ⊕ O) (fin : S → O) : Nat → List α → S → O
  | _, [], s => fin s
  | i, x :: xs, s => match g i s x with
    | .inl s' => scanL g fin (i + 1) xs s'
    | .inr o => o
theorem iter_scan {α S T O : Type} {xs : List α} {f : T → Option (T ⊕ O)} (mk : Nat → S → T) (g : Nat → S → α → S ⊕ O) (fin : S → O) (P : Nat → S → Prop) (hl : xs.length < 18446744073709551615)
    (step : ∀ i (h : i < xs.length) s, P i s → (∀ s', g i s xs[i] = .inl s' → f (mk i s) = some (.inl (mk (i + 1) s')) ∧ P (i + 1) s') ∧ ∀ o, g i s xs[i] = .inr o → f (mk i s) = some (.inr o))
    (last : ∀ s, P xs.length s → f (mk xs.length s) = some (.inr (fin s))) {s : S} (h0 : P 0 s) : iter f (mk 0 s) = some (scanL g fin 0 xs s) := by
  have key : ∀ (j i : Nat), i + j = xs.length → ∀ s, P i s → iterF f (j + 1) (mk i s) = some (scanL g fin i (xs.drop i) s) := by
    intro j
    induction j with
    | zero =>
      intro i hi s h
      obtain rfl : i = xs.length := by omega
      rw [iterF_succ, last s h, List.drop_length]
      rfl
    | succ j ih =>
      intro i hi s h
      have hlt : i < xs.length := by omega
      rw [List.drop_eq_getElem_cons hlt, scanL, iterF_succ]
      cases hg : g i s xs[i] with
      | inl s' =>
        obtain ⟨h1, h2⟩ := (step i hlt s h).1 s' hg
        rw [h1]
        exact ih (i + 1) (by omega) s' h2
      | inr o => rw [(step i hlt s h).2 o hg]
  have := key xs.length 0 (by omega) s h0
  rw [List.drop_zero] at this
  exact iter_of (by omega) this
theorem nxt {i : Nat} (h : i < 4611686018427387904) : W ((i : Int) + 1) = ((i + 1 : Nat) : Int) := by rw [show (i : Int) + 1 = ((i + 1 : Nat) : Int) by omega, W_nat (by omega)]
theorem ct_lt {i n : Nat} (h : i < n) : decide ((i : Int) < (n : Int)) = true := by simp; omega
theorem ct_ge {n : Nat} : ¬ decide ((n : Int) < (n : Int)) = true := by simp

end Go.Proofs.Ytkkemchihllklaa

namespace Go.Proofs.Ytkkemchihllklaa
open Go Go.RowKit
theorem cf60 : Cf Try.prog 60 := Cf.mk Try.func60 (by kernel_rfl) (by kernel_rfl)
end Go.Proofs.Ytkkemchihllklaa

namespace Go.Proofs.Ytkkemchihllklaa
open Go Go.RowKit

/-- The first place whose element has a property. -/
theorem indexF_eq {xs : List Int} {p : Int → Option Bool} {q : Int → Bool} (hl : xs.length < 4611686018427387904) (hp : ∀ x ∈ xs, p x = some (q x)) : m_slices_IndexFunc_int xs p = some (if xs.any q = true then ((xs.findIdx q : Nat) : Int) else -1) := by
  have h := iter_scan (f := m_slices_IndexFunc_int_l1 xs p) (xs := xs) (fun i (_ : Unit) => (i : Int)) (fun i _ y => if q y then .inr (.inr (i : Int)) else .inl ()) (fun _ => .inl ()) (fun _ _ => True) (by omega) (fun i h _ _ => by
      rw [m_slices_IndexFunc_int_l1, if_pos (ct_lt h), idx_at h, Option.bind_some, hp _ (List.getElem_mem h), Option.bind_some, nxt (by omega)]
      refine ⟨fun s' e => ?_, fun o e => ?_⟩
      · split at e
        · cases e
        · rename_i h1; rw [if_neg h1]; exact ⟨rfl, trivial⟩
      · split at e
        · rename_i h1; rw [if_pos h1]; cases e; rfl
        · cases e) (fun _ _ => by rw [m_slices_IndexFunc_int_l1, if_neg ct_ge]) (s := ()) trivial
  have key : ∀ (ys : List Int) (i : Nat), scanL (O := Unit ⊕ Int) (fun i (_ : Unit) y => if q y then .inr (.inr (i : Int)) else .inl ()) (fun _ => .inl ()) i ys () = if ys.any q = true then .inr ((i + ys.findIdx q : Nat) : Int) else .inl () := by
    intro ys
    induction ys with
    | nil => intro i; rfl
    | cons y ys ih =>
      intro i
      rw [scanL, List.any_cons, List.findIdx_cons]
      cases hy : q y with
      | true => rfl
      | false =>
        rw [if_neg (by simp)]
        dsimp only
        rw [ih, Bool.false_or, cond_false]
        split
        · congr 2; omega
        · rfl
  rw [m_slices_IndexFunc_int, show iter (m_slices_IndexFunc_int_l1 xs p) 0 = _ from h, Option.bind_some, key]
  by_cases hm : xs.any q = true
  · rw [if_pos hm, if_pos hm]; simp
  · rw [if_neg hm, if_neg hm]
theorem inc_nodup {xs : List Int} (h : Inc xs) : xs.Nodup := by
  unfold Inc at h
  exact List.Pairwise.imp (fun {a b} hab e => by omega) h
theorem sub_len {xs ys : List Int} (h : Inc xs) (hs : ∀ x ∈ xs, x ∈ ys) : xs.length ≤ ys.length := (inc_nodup h).length_le_of_subset hs
theorem subB_of {xs ys : List Int} (h : ∀ x ∈ xs, x ∈ ys) : subB xs ys = true := List.all_eq_true.2 fun x hx => hasB_true.2 (h x hx)
/-- What a sketch is. -/
structure SkIn (a : Aut) (l : List Int) (n : Nat) : Prop where
  gen : GenIn a l n
  ia : Inc a.al
  ic : Inc l
  al : ∀ x ∈ a.al, 0 ≤ x ∧ x < 5
  sub : ∀ x ∈ l, x ∈ a.al
  err : a.err = 0
  so : Sorted a.es
  ms : a.ms.length ≤ 5
  n5 : n ≤ 5
theorem err_ed {a : Aut} (h : a.err = 0) : ∀ x ∈ a.es, 0 ≤ x.f ∧ x.f < a.n ∧ 0 ≤ x.t ∧ x.t < a.n ∧ x.e ∈ a.al := by
  have he : edErr a.al a.n none a.es = 0 := by
    unfold Aut.err at h
    split at h
    · rename_i h1; rw [h] at h1; exact absurd h1 (by decide)
    · split at h
      · cases h
      · split at h
        · cases h
        · split at h
          · rename_i h1; rw [h] at h1; exact absurd h1 (by decide)
          · exact h
  have key : ∀ (es : List Ed) (p : Option Ed), edErr a.al a.n p es = 0 → ∀ x ∈ es, 0 ≤ x.f ∧ x.f < a.n ∧ 0 ≤ x.t ∧ x.t < a.n ∧ x.e ∈ a.al := by
    intro es
    induction es with
    | nil => intro p _ x hx; cases hx
    | cons y es ih =>
      intro p h x hx
      rw [edErr] at h
      split at h
      · cases h
      · rename_i h1
        split at h
        · cases h
        · rename_i h2
          split at h
          · cases h
          · rcases List.mem_cons.1 hx with rfl | hx
            · have h3 : hasB a.al x.e = true := by simpa using h2
              have h4 := hasB_true.1 h3
              exact ⟨by omega, by omega, by omega, by omega, h4⟩
            · exact ih _ h x hx
  exact key a.es none he
section
variable {a : Aut} {l : List Int} {n : Nat}
theorem SkIn.set32 (h : SkIn a l n) {xs : List Int} (ix : Inc xs) (hx : ∀ x ∈ xs, x ∈ a.al) : setErr 32 none xs = 0 := setErr_ok ix (fun x hm => by have := h.al x (hx x hm); omega) (fun q hq => by cases hq)
theorem SkIn.code (h : SkIn a l n) : m_generate_Generate (autP a) l = some (codeP a l n, 0) :=
  generate_eq h.gen (by have := h.ms; omega) h.err (h.set32 h.ic h.sub) (by rw [subset_eq (by have := h.gen.ct; omega) (by have := h.gen.al; omega) h.ic h.ia, subB_of h.sub])
theorem SkIn.start (h : SkIn a l n) : m_instruction_Start (codeP a l n).1 = some ((List.replicate (l.length + 1) false, true :: List.replicate n false), 0) := gstart_eq h.gen h.ia h.ic
theorem Shows.alarm (h : SkIn a l n) {st : List Bool × List Bool} {s : Nat} {al : Bool} (hv : Shows a l n s al st) : m_generate_Alarmed (codeP a l n) st = some (al, 0) := by
  rw [alarmed_eq (out := st.1) (mem := st.2) h.gen hv.ho hv.hm, hv.ha]
end
end Go.Proofs.Ytkkemchihllklaa

namespace Go.Proofs.Ytkkemchihllklaa
open Go Go.RowKit Go.ChangeShapes Go.WideShapes Go.ChangeAt Go.Deep

theorem op_i64 : Op Try.prog (rK .i64) (fun n => -9223372036854775808 ≤ n ∧ n < 9223372036854775808) 3 := by
  intro H enc w fuel cs x h
  obtain ⟨y, h1, h2⟩ := (Op.int (P := Try.prog) (k := .i64) Try.underlying3) H enc w fuel cs x h
  refine ⟨y, h1, ?_⟩
  simp [IntKind.min, IntKind.max, IntKind.signed, IntKind.bits] at h2
  omega
section
variable {H : Type} {enc : TypeId × Value → H} {w : World} {base : Nat} {v : Value} {d : DataW H} {ps : List MemPlace}
set_option maxRecDepth 100000 in
/-- A list of ints. -/
theorem arg_ints (hok : Value.okWide Try.prog w .any base 23 v) (h : DataW.Trod enc Try.prog w 0 (fun _ => true) true 23 v d ps) : ∃ a c xs, v = .slice a xs.length c ∧ RdL (rK .i64) ⟨w, fun _ => 0⟩ a c xs ∧ ∀ y ∈ xs, -9223372036854775808 ≤ y ∧ y < 9223372036854775808 := by
  obtain ⟨fuel, hf⟩ := h
  simp only [Value.okWide, Try.underlying23] at hok
  have hv : v.cells.toList = [v] := by
    simp only [Cell.okWide, Try.underlying23] at hok
    cases v <;> simp_all [Cell.ok, Value.cells]
  rw [hv] at hf
  exact op_slice Try.underlying23 (by kernel_rfl) op_i64 hok hf
theorem arr4 {cs : Array Value} (h : cs.size = 4) : ∃ a b c d, cs = #[a, b, c, d] := by
  obtain ⟨l⟩ := cs
  match l, h with
  | [a, b, c, d], _ => exact ⟨a, b, c, d, rfl⟩
theorem ints_cells : Try.prog.cellsOf 23 = 1 := by kernel_rfl
theorem int_cells : Try.prog.cellsOf 3 = 1 := by kernel_rfl
theorem edges_cells : Try.prog.cellsOf 24 = 1 := by kernel_rfl
theorem edge_cells : Try.prog.cellsOf 28 = 3 := by kernel_rfl
theorem aut_types : Try.prog.cellTypes Try.prog.depth 26 = some [23, 3, 23, 24] := by kernel_rfl
theorem aut_cells : Try.prog.cellsOf 26 = [23, 3, 23, 24].length := by kernel_rfl
set_option maxRecDepth 100000 in
theorem op_edge : Op Try.prog (rP (rK .i64) (rP (rK .i64) (rK .i64))) (fun _ => True) 28 := by
  intro H enc w fuel cs x h
  obtain ⟨y, h1, -⟩ := Op.struct3 Try.underlying28 op_i64 op_i64 op_i64 rfl rfl rfl int_cells int_cells int_cells edge_cells H enc w fuel cs x h
  exact ⟨y, h1, trivial⟩
set_option maxRecDepth 100000 in
/-- An automaton. -/
theorem arg_aut (hok : Value.okWide Try.prog w .any base 26 v) (h : DataW.Trod enc Try.prog w 0 (fun _ => true) true 26 v d ps) : ∃ (p : List Int × Int × List Int × List (Int × Int × Int)) (a : Option Addr) (c : Nat) (b : Option Addr) (e : Nat) (f : Option Addr) (g : Nat), v = .agg #[.slice a p.1.length c, .int .i64 p.2.1, .slice b p.2.2.1.length e, .slice f p.2.2.2.length g] ∧
    RdL (rK .i64) ⟨w, fun _ => 0⟩ a c p.1 ∧ RdL (rK .i64) ⟨w, fun _ => 0⟩ b e p.2.2.1 ∧ RdL (rP (rK .i64) (rP (rK .i64) (rK .i64))) ⟨w, fun _ => 0⟩ f g p.2.2.2 := by
  obtain ⟨cs, rfl, h1, h2⟩ := op_agg Try.underlying26 aut_types aut_cells hok
  obtain ⟨x, y, z, u, rfl⟩ := arr4 h1
  obtain ⟨fuel, hf⟩ := h
  obtain ⟨c0, e0, o0⟩ := h2 0 23 rfl
  obtain ⟨c2, e2, o2⟩ := h2 2 23 rfl
  obtain ⟨c3, e3, o3⟩ := h2 3 24 rfl
  cases e0
  cases e2
  cases e3
  obtain ⟨n0, x0, g0⟩ := op_field1 Try.underlying26 hf 0 23 rfl rfl rfl ints_cells rfl
  obtain ⟨n1, x1, g1⟩ := op_field1 Try.underlying26 hf 1 3 rfl rfl rfl int_cells rfl
  obtain ⟨n2, x2, g2⟩ := op_field1 Try.underlying26 hf 2 23 rfl rfl rfl ints_cells rfl
  obtain ⟨n3, x3, g3⟩ := op_field1 Try.underlying26 hf 3 24 rfl rfl rfl edges_cells rfl
  obtain ⟨a, c, xs, rfl, r0, -⟩ := op_slice Try.underlying23 int_cells op_i64 o0 g0
  obtain ⟨b, e, ys, rfl, r2, -⟩ := op_slice Try.underlying23 int_cells op_i64 o2 g2
  obtain ⟨f, g, zs, rfl, r3, -⟩ := op_slice Try.underlying24 edge_cells op_edge o3 g3
  obtain ⟨k, hk, -⟩ := op_i64 _ _ _ _ _ _ g1
  cases hk
  exact ⟨(xs, k, ys, zs), a, c, b, e, f, g, rfl, r0, r2, r3⟩
end
end Go.Proofs.Ytkkemchihllklaa

namespace Go.Proofs.Ytkkemchihllklaa
open Go Go.RowKit
/-- What slices.ContainsFunc<<>int,int> computes. -/
noncomputable def m_slices_ContainsFunc_int (p0 : List Int) (p1 : Int → Option Bool) : Option Bool :=
  (m_slices_IndexFunc_int p0 p1).bind fun r2 =>
  some (decide (r2 ≥ 0))
set_option maxRecDepth 100000 in
set_option maxHeartbeats 8000000 in
theorem m_slices_ContainsFunc_int_c {s : Sig} {p0 : List Int} {p1 : Int → Option Bool} {a1 : Option Addr} {c1 : Nat} {vp1 : Value} {r : Bool} (h1 : RdL (rK .i64) s a1 c1 p0) (hp1 : FV1 Try.prog s vp1 (fun (x0 : Int) => [.int .i64 x0]) (fun (r : Bool) => .bool r) p1) (hm : m_slices_ContainsFunc_int p0 p1 = some r) :
    Calls Try.prog 29 #[.slice a1 p0.length c1, vp1] s.w (RetS No s fun v s' => v = .bool r) := by
 unfold m_slices_ContainsFunc_int at hm
 obtain ⟨N, hN, hNb⟩ := s.fresh
 have m0 : Mv (Up N No) s s := Mv.refl _ _
 refine E.entry Try.func29 rfl Try.ntmps29 rfl rfl (E.seq (E.reg (L.as Wt.no rfl rfl (L.nil (X.seqN (E.seq (E.reg (L.mv Wt.no rfl rfl (L.mv Wt.no rfl rfl ?_)))))))))
 obtain ⟨r2, er2, hm⟩ := bindS hm
 refine L.ca cf60 rfl rfl Wt.no rfl (m_slices_IndexFunc_int_c (s := s) (p0 := p0) (p1 := p1) h1 hp1 er2) rfl ?_
 rintro _ s3 m4 rfl
 replace m0 := m0.trans m4.no
 refine L.bi Wt.no rfl rfl rfl rfl (L.as Wt.no rfl rfl (L.nil (X.seqN (E.ret ?_))))
 obtain rfl := Option.some.inj hm
 exact X.rt (.inl rfl) Try.results29 (Rs.tmp rfl Rs.nil) rfl ⟨_, (s3).ren N (fun _ => 0), rfl, rfl, m0.ren hNb, rfl⟩

theorem cf29 : Cf Try.prog 29 := Cf.mk Try.func29 (by kernel_rfl) (by kernel_rfl)
/-- What overseerlaw53.few computes. -/
noncomputable def m_overseerlaw53_few (p0 : List Int × Int × List Int × (List (Int × Int × Int))) : Option Bool :=
  some (((((decide (p0.2.1 ≤ 8)) || (decide (p0.2.1 > 64))) && (decide ((p0.1.length : Int) ≤ 40))) && (decide ((p0.2.2.1.length : Int) ≤ 40))) && (decide ((p0.2.2.2.length : Int) ≤ 40)))
set_option maxRecDepth 100000 in
set_option maxHeartbeats 8000000 in
theorem m_overseerlaw53_few_c {s : Sig} {p0 : List Int × Int × List Int × (List (Int × Int × Int))} {a1 : Option Addr} {c1 : Nat} {a2 : Option Addr} {c2 : Nat} {a3 : Option Addr} {c3 : Nat} {r : Bool} (h1 : RdL (rK .i64) s a1 c1 p0.1) (h2 : RdL (rK .i64) s a2 c2 p0.2.2.1) (h3 : RdL (rP (rK .i64) (rP (rK .i64) (rK .i64))) s a3 c3 p0.2.2.2) (hm : m_overseerlaw53_few p0 = some r) :
    Calls Try.prog 32 #[.agg #[.slice a1 p0.1.length c1, .int .i64 p0.2.1, .slice a2 p0.2.2.1.length c2, .slice a3 p0.2.2.2.length c3]] s.w (RetS No s fun v s' => v = .bool r) := by
 unfold m_overseerlaw53_few at hm
 obtain ⟨N, hN, hNb⟩ := s.fresh
 have m0 : Mv (Up N No) s s := Mv.refl _ _
 refine E.entry Try.func32 rfl Try.ntmps32 rfl rfl (E.seq (E.reg (L.box (N + 0) Wt.no rfl rfl rfl fun b4 s5 m6 bx4 => ?_)))
 replace m0 := m0.trans m6.no
 refine L.as Wt.no rfl rfl (L.nil (X.seqN (E.seq (E.reg (L.fa fa26_1 Wt.no rfl rfl (L.ld (j := 1) bx4.mem nag3 Wt.no rfl rfl rfl rfl (L.bi Wt.no rfl rfl rfl rfl (L.mv Wt.no rfl rfl (L.cut 4 (fun e w => ∃ (v7 : Bool), ((decide (p0.2.1 ≤ 8)) || (decide (p0.2.1 > 64))) = v7 ∧ e = (10, .bool v7) :: [(1, .pointer (some ⟨b4, 0, none⟩))] ∧ w = s5.w) ?_ ?_)))))))))
 ·rintro _ _ ⟨v7, rfl, rfl, rfl⟩
  refine L.mv Wt.no rfl rfl (L.cut 5 (fun e w => ∃ (v8 : Bool), (((decide (p0.2.1 ≤ 8)) || (decide (p0.2.1 > 64))) && (decide ((p0.1.length : Int) ≤ 40))) = v8 ∧ e = (16, .bool v8) :: [(1, .pointer (some ⟨b4, 0, none⟩))] ∧ w = s5.w) ?_ ?_)
  ·rintro _ _ ⟨v8, rfl, rfl, rfl⟩
   refine L.mv Wt.no rfl rfl (L.cut 5 (fun e w => ∃ (v9 : Bool), ((((decide (p0.2.1 ≤ 8)) || (decide (p0.2.1 > 64))) && (decide ((p0.1.length : Int) ≤ 40))) && (decide ((p0.2.2.1.length : Int) ≤ 40))) = v9 ∧ e = (22, .bool v9) :: [(1, .pointer (some ⟨b4, 0, none⟩))] ∧ w = s5.w) ?_ ?_)
   ·rintro _ _ ⟨v9, rfl, rfl, rfl⟩
    refine L.mv Wt.no rfl rfl (L.cut 5 (fun e w => ∃ (v10 : Bool), (((((decide (p0.2.1 ≤ 8)) || (decide (p0.2.1 > 64))) && (decide ((p0.1.length : Int) ≤ 40))) && (decide ((p0.2.2.1.length : Int) ≤ 40))) && (decide ((p0.2.2.2.length : Int) ≤ 40))) = v10 ∧ e = (28, .bool v10) :: [] ∧ w = s5.w) ?_ ?_)
    ·rintro _ _ ⟨v10, rfl, rfl, rfl⟩
     refine L.as Wt.no rfl rfl (L.nil (X.seqN (E.ret ?_)))
     obtain rfl := Option.some.inj hm
     exact X.rt (.inl rfl) Try.results32 (Rs.tmp rfl Rs.nil) rfl ⟨_, (s5).ren N (fun _ => 0), rfl, rfl, m0.ren hNb, rfl⟩
    ·intro J11
     rcases Bool.eq_false_or_eq_true ((((decide (p0.2.1 ≤ 8)) || (decide (p0.2.1 > 64))) && (decide ((p0.1.length : Int) ≤ 40))) && (decide ((p0.2.2.1.length : Int) ≤ 40))) with hc | hc
     ·exact L.know (d := 23) rfl hc (L.fa fa26_3 (Wt.mk rfl rfl) rfl rfl (L.ld (j := 3) bx4.mem nag24 (Wt.mk rfl rfl) rfl rfl rfl rfl (L.len sl24 (Wt.mk rfl rfl) rfl rfl (L.bi (Wt.mk rfl rfl) rfl rfl rfl rfl (L.pkT Wt.no rfl rfl rfl rfl (L.sb (J11 _ _ ⟨(decide ((p0.2.2.2.length : Int) ≤ 40)), (andT hc).symm, rfl, rfl⟩) rfl))))))
     ·exact L.know (d := 23) rfl hc (L.skip rfl rfl rfl rfl (L.skip rfl rfl rfl rfl (L.skip rfl rfl rfl rfl (L.skip rfl rfl rfl rfl (L.pkF Wt.no rfl rfl rfl rfl (L.sb (J11 _ _ ⟨false, (andF hc).symm, rfl, rfl⟩) rfl))))))
   ·intro J12
    rcases Bool.eq_false_or_eq_true (((decide (p0.2.1 ≤ 8)) || (decide (p0.2.1 > 64))) && (decide ((p0.1.length : Int) ≤ 40))) with hc | hc
    ·exact L.know (d := 17) rfl hc (L.fa fa26_2 (Wt.mk rfl rfl) rfl rfl (L.ld (j := 2) bx4.mem nag23 (Wt.mk rfl rfl) rfl rfl rfl rfl (L.len sl23 (Wt.mk rfl rfl) rfl rfl (L.bi (Wt.mk rfl rfl) rfl rfl rfl rfl (L.pkT Wt.no rfl rfl rfl rfl (L.sb (J12 _ _ ⟨(decide ((p0.2.2.1.length : Int) ≤ 40)), (andT hc).symm, rfl, rfl⟩) rfl))))))
    ·exact L.know (d := 17) rfl hc (L.skip rfl rfl rfl rfl (L.skip rfl rfl rfl rfl (L.skip rfl rfl rfl rfl (L.skip rfl rfl rfl rfl (L.pkF Wt.no rfl rfl rfl rfl (L.sb (J12 _ _ ⟨false, (andF hc).symm, rfl, rfl⟩) rfl))))))
  ·intro J13
   rcases Bool.eq_false_or_eq_true ((decide (p0.2.1 ≤ 8)) || (decide (p0.2.1 > 64))) with hc | hc
   ·exact L.know (d := 11) rfl hc (L.fa fa26_0 (Wt.mk rfl rfl) rfl rfl (L.ld (j := 0) bx4.mem nag23 (Wt.mk rfl rfl) rfl rfl rfl rfl (L.len sl23 (Wt.mk rfl rfl) rfl rfl (L.bi (Wt.mk rfl rfl) rfl rfl rfl rfl (L.pkT Wt.no rfl rfl rfl rfl (L.sb (J13 _ _ ⟨(decide ((p0.1.length : Int) ≤ 40)), (andT hc).symm, rfl, rfl⟩) rfl))))))
   ·exact L.know (d := 11) rfl hc (L.skip rfl rfl rfl rfl (L.skip rfl rfl rfl rfl (L.skip rfl rfl rfl rfl (L.skip rfl rfl rfl rfl (L.pkF Wt.no rfl rfl rfl rfl (L.sb (J13 _ _ ⟨false, (andF hc).symm, rfl, rfl⟩) rfl))))))
 ·intro J14
  rcases Bool.eq_false_or_eq_true (decide (p0.2.1 ≤ 8)) with hc | hc
  ·exact L.know (d := 6) rfl hc (L.skip rfl rfl rfl rfl (L.skip rfl rfl rfl rfl (L.skip rfl rfl rfl rfl (L.pkT Wt.no rfl rfl rfl rfl (L.sb (J14 _ _ ⟨true, (orT hc).symm, rfl, rfl⟩) rfl)))))
  ·exact L.know (d := 6) rfl hc (L.fa fa26_1 (Wt.mk rfl rfl) rfl rfl (L.ld (j := 1) bx4.mem nag3 (Wt.mk rfl rfl) rfl rfl rfl rfl (L.bi (Wt.mk rfl rfl) rfl rfl rfl rfl (L.pkF Wt.no rfl rfl rfl rfl (L.sb (J14 _ _ ⟨(decide (p0.2.1 > 64)), (orF hc).symm, rfl, rfl⟩) rfl)))))

end Go.Proofs.Ytkkemchihllklaa

namespace Go.Proofs.Ytkkemchihllklaa
open Go Go.RowKit

theorem containsF_eq {xs : List Int} {p : Int → Option Bool} {q : Int → Bool} (hl : xs.length < 4611686018427387904) (hp : ∀ x ∈ xs, p x = some (q x)) : m_slices_ContainsFunc_int xs p = some (xs.any q) := by
  rw [m_slices_ContainsFunc_int, indexF_eq hl hp, Option.bind_some]
  by_cases hm : xs.any q = true
  · rw [if_pos hm, hm]; simp
  · rw [if_neg hm, show xs.any q = false by simpa using hm]; rfl
/-- The error of a set of events that must be among some. -/
def amErr (us al : List Int) : Int := if setErr 32 none us ≠ 0 then setErr 32 none us else if subB us al = true then 0 else 9
theorem setErr_inc {n : Int} {xs : List Int} (h : setErr n none xs = 0) : Inc xs ∧ ∀ x ∈ xs, 0 ≤ x ∧ x < n := by
  have key : ∀ (xs : List Int) (p : Option Int), setErr n p xs = 0 → Inc xs ∧ (∀ x ∈ xs, 0 ≤ x ∧ x < n) ∧ ∀ q, p = some q → ∀ x ∈ xs, q < x := by
    intro xs
    induction xs with
    | nil => intro p _; exact ⟨List.Pairwise.nil, fun x hx => (by cases hx), fun q _ x hx => (by cases hx)⟩
    | cons y xs ih =>
      intro p h
      rw [setErr] at h
      split at h
      · cases h
      · rename_i h1
        split at h
        · cases h
        · rename_i h2
          obtain ⟨g1, g2, g3⟩ := ih _ h
          have g4 := g3 y rfl
          refine ⟨List.pairwise_cons.2 ⟨g4, g1⟩, fun x hx => ?_, fun q hq x hx => ?_⟩
          · rcases List.mem_cons.1 hx with rfl | hx
            · omega
            · exact g2 x hx
          · have hqy : q < y := by
              have := h2
              exact Int.not_le.1 (fun hle => this ⟨q, hq, hle⟩)
            rcases List.mem_cons.1 hx with rfl | hx
            · exact hqy
            · have := g4 x hx; omega
  exact ⟨(key xs none h).1, (key xs none h).2.1⟩
theorem among2_eq {us al : List Int} (hu : us.length < 4294967296) (ha : al.length < 4294967296) (ia : Inc al) : m_generate_among us al = some (amErr us al) := by
  rw [m_generate_among, checkSet2_eq (by omega), Option.bind_some, amErr]
  by_cases h0 : setErr 32 none us = 0
  · rw [if_neg (show ¬ (setErr 32 none us ≠ 0) from fun h => h h0), h0, if_neg (by simp), subset_eq (by omega) (by omega) (setErr_inc h0).1 ia, Option.bind_some]
    cases subB us al <;> rfl
  · rw [if_pos (by simpa using h0), if_pos h0]
theorem amErr_0 {us al : List Int} (h : amErr us al = 0) : Inc us ∧ ∀ x ∈ us, x ∈ al := by
  unfold amErr at h
  by_cases h0 : setErr 32 none us = 0
  · rw [if_neg (fun h => h h0)] at h
    refine ⟨(setErr_inc h0).1, ?_⟩
    split at h
    · rename_i h1; exact subB_mem h1
    · cases h
  · rw [if_pos h0] at h; exact absurd h h0
theorem any_subB (us al : List Int) : us.any (fun y => !hasB al y) = !subB us al := by
  unfold subB
  rw [Bool.eq_iff_iff]
  simp
end Go.Proofs.Ytkkemchihllklaa

namespace Go.Proofs.Ytkkemchihllklaa
open Go Go.RowKit
/-- What automaton.checkState computes. -/
noncomputable def m_automaton_checkState (p0 : List Int × Int × List Int × (List (Int × Int × Int))) (p1 : Int) : Option Int :=
  (m_automaton_Check p0).bind fun r7 =>
  if (r7 != 0) then
    some r7
  else
    if ((decide (p1 < 0)) || (decide (p1 ≥ p0.2.1))) then
      some 2
    else
      some 0
set_option maxRecDepth 100000 in
set_option maxHeartbeats 8000000 in
theorem m_automaton_checkState_c {s : Sig} {p0 : List Int × Int × List Int × (List (Int × Int × Int))} {p1 : Int} {a1 : Option Addr} {c1 : Nat} {a2 : Option Addr} {c2 : Nat} {a3 : Option Addr} {c3 : Nat} {r : Int} (h1 : RdL (rK .i64) s a1 c1 p0.1) (h2 : RdL (rK .i64) s a2 c2 p0.2.2.1) (h3 : RdL (rP (rK .i64) (rP (rK .i64) (rK .i64))) s a3 c3 p0.2.2.2) (hm : m_automaton_checkState p0 p1 = some r) :
    Calls Try.prog 65 #[.agg #[.slice a1 p0.1.length c1, .int .i64 p0.2.1, .slice a2 p0.2.2.1.length c2, .slice a3 p0.2.2.2.length c3], .int .i64 p1] s.w (RetS No s fun v s' => v = .int .i64 r) := by
 unfold m_automaton_checkState at hm
 obtain ⟨N, hN, hNb⟩ := s.fresh
 have m0 : Mv (Up N No) s s := Mv.refl _ _
 refine E.entry Try.func65 rfl Try.ntmps65 rfl rfl (E.seq (E.reg (L.box (N + 0) Wt.no rfl rfl rfl fun b4 s5 m6 bx4 => ?_)))
 replace m0 := m0.trans m6.no
 replace h1 := h1.mono (m6.le no_No)
 replace h2 := h2.mono (m6.le no_No)
 replace h3 := h3.mono (m6.le no_No)
 refine L.as Wt.no rfl rfl (L.nil (X.seqN (E.seq (E.seq (E.reg (L.lg (j := 0) (cs := [.slice a1 p0.1.length c1, .int .i64 p0.2.1, .slice a2 p0.2.2.1.length c2, .slice a3 p0.2.2.2.length c3]) bx4.mem ag26 Wt.no rfl rfl rfl rfl rfl ?_))))))
 obtain ⟨r7, er7, hm⟩ := bindS hm
 refine L.ca cf33 rfl rfl Wt.no rfl (m_automaton_Check_c (s := s5) (p0 := p0) h1 h2 h3 er7) rfl ?_
 rintro _ s8 m9 rfl
 replace m0 := m0.trans m9.no
 replace bx4 := bx4.mv m9 no_No
 refine L.as Wt.no rfl rfl (L.nil (X.seqN (E.seq (E.reg (L.mv Wt.no rfl rfl (L.bi Wt.no rfl rfl rfl rfl (L.nil (X.seqN ?_))))))))
 rcases ifS hm with ⟨hc, hm⟩ | ⟨hc, hm⟩
 ·refine E.cT rfl hc (E.seq (E.reg (L.mv Wt.no rfl rfl (L.as Wt.no rfl rfl (L.nil (X.seqN (E.ret (X.seqR ?_))))))))
  obtain rfl := Option.some.inj hm
  exact X.rt (.inl rfl) Try.results65 (Rs.tmp rfl Rs.nil) rfl ⟨_, (s8).ren N (fun _ => 0), rfl, rfl, m0.ren hNb, rfl⟩
 ·refine E.cF rfl hc (E.skip (X.seqN (E.seq (E.seq (E.reg (L.mv Wt.no rfl rfl (L.bi Wt.no rfl rfl rfl rfl (L.mv Wt.no rfl rfl (L.cut 5 (fun e w => ∃ (v10 : Bool), ((decide (p1 < 0)) || (decide (p1 ≥ p0.2.1))) = v10 ∧ e = (18, .bool v10) :: [] ∧ w = s8.w) ?_ ?_)))))))))
  ·rintro _ _ ⟨v10, rfl, rfl, rfl⟩
   refine L.nil (X.seqN ?_)
   rcases ifS hm with ⟨hc, hm⟩ | ⟨hc, hm⟩
   ·refine E.cT rfl hc (E.seq (E.reg (L.as Wt.no rfl rfl (L.nil (X.seqN (E.ret (X.seqR ?_)))))))
    obtain rfl := Option.some.inj hm
    exact X.rt (.inl rfl) Try.results65 (Rs.tmp rfl Rs.nil) rfl ⟨_, (s8).ren N (fun _ => 0), rfl, rfl, m0.ren hNb, rfl⟩
   ·refine E.cF rfl hc (E.skip (X.seqN (E.seq (E.reg (L.as Wt.no rfl rfl (L.nil (X.seqN (E.ret ?_))))))))
    obtain rfl := Option.some.inj hm
    exact X.rt (.inl rfl) Try.results65 (Rs.tmp rfl Rs.nil) rfl ⟨_, (s8).ren N (fun _ => 0), rfl, rfl, m0.ren hNb, rfl⟩
  ·intro J11
   rcases Bool.eq_false_or_eq_true (decide (p1 < 0)) with hc | hc
   ·exact L.know (d := 13) rfl hc (L.skip rfl rfl rfl rfl (L.skip rfl rfl rfl rfl (L.skip rfl rfl rfl rfl (L.skip rfl rfl rfl rfl (L.pkT Wt.no rfl rfl rfl rfl (L.sb (J11 _ _ ⟨true, (orT hc).symm, rfl, rfl⟩) rfl))))))
   ·exact L.know (d := 13) rfl hc (L.mv (Wt.mk rfl rfl) rfl rfl (L.fa fa26_1 (Wt.mk rfl rfl) rfl rfl (L.ld (j := 1) bx4.mem nag3 (Wt.mk rfl rfl) rfl rfl rfl rfl (L.bi (Wt.mk rfl rfl) rfl rfl rfl rfl (L.pkF Wt.no rfl rfl rfl rfl (L.sb (J11 _ _ ⟨(decide (p1 ≥ p0.2.1)), (orF hc).symm, rfl, rfl⟩) rfl))))))

noncomputable def m_slices_BinarySearchFunc_api_Edge_api_Edge_int_l1 (p0 : List (Int × Int × Int)) (p1 : Int) (p2 : (Int × Int × Int) → Int → Option Int) (st11 : Int × Int) : Option ((Int × Int) ⊕ Int) :=
  if decide (st11.2 < st11.1) then
    (idx p0 (W ((IntKind.u64.wrap (W (st11.2 + st11.1))).fdiv (2 ^ (min (1 : Int).toNat 64))))).bind fun x25 =>
    (p2 x25 p1).bind fun r27 =>
    if decide (r27 < 0) then
      some (.inl (st11.1, W ((W ((IntKind.u64.wrap (W (st11.2 + st11.1))).fdiv (2 ^ (min (1 : Int).toNat 64)))) + 1)))
    else
      some (.inl (W ((IntKind.u64.wrap (W (st11.2 + st11.1))).fdiv (2 ^ (min (1 : Int).toNat 64))), st11.2))
  else
    some (.inr st11.2)
/-- What api.Edge,int> computes. -/
noncomputable def m_slices_BinarySearchFunc_api_Edge_api_Edge_int (p0 : List (Int × Int × Int)) (p1 : Int) (p2 : (Int × Int × Int) → Int → Option Int) : Option (Int × Bool) :=
  (iter (m_slices_BinarySearchFunc_api_Edge_api_Edge_int_l1 p0 p1 p2) ((p0.length : Int), 0)).bind fun o11 =>
  (if decide (o11 < (p0.length : Int)) then
    (idx p0 o11).bind fun x19 =>
    (p2 x19 p1).bind fun r21 =>
    some (r21 == 0)
  else
    some false).bind fun b15 =>
  some (o11, b15)
set_option maxRecDepth 100000 in
set_option maxHeartbeats 8000000 in
theorem m_slices_BinarySearchFunc_api_Edge_api_Edge_int_c {s : Sig} {p0 : List (Int × Int × Int)} {p1 : Int} {p2 : (Int × Int × Int) → Int → Option Int} {a1 : Option Addr} {c1 : Nat} {vp2 : Value} {r : Int × Bool} (h1 : RdL (rP (rK .i64) (rP (rK .i64) (rK .i64))) s a1 c1 p0) (hp2 : FV2 Try.prog s vp2 (fun (x0 : Int × Int × Int) (x1 : Int) => [.agg #[.int .i64 x0.1, .int .i64 x0.2.1, .int .i64 x0.2.2], .int .i64 x1]) (fun (r : Int) => .int .i64 r) p2) (hm : m_slices_BinarySearchFunc_api_Edge_api_Edge_int p0 p1 p2 = some r) :
    Calls Try.prog 100 #[.slice a1 p0.length c1, .int .i64 p1, vp2] s.w (RetS No s fun v s' => v = .tuple #[.int .i64 r.1, .bool r.2]) := by
 unfold m_slices_BinarySearchFunc_api_Edge_api_Edge_int at hm
 obtain ⟨N, hN, hNb⟩ := s.fresh
 have m0 : Mv (Up N No) s s := Mv.refl _ _
 refine E.entry Try.func100 rfl Try.ntmps100 rfl rfl (E.seq (E.reg (L.as Wt.no rfl rfl (L.as Wt.no rfl rfl (L.nil (X.seqN (E.seq (E.reg (L.mv Wt.no rfl rfl (L.len sl24 Wt.no rfl rfl (L.as Wt.no rfl rfl (L.nil (X.seqN (E.seq (E.reg (L.mv Wt.no rfl rfl (L.as Wt.no rfl rfl (L.as Wt.no rfl rfl (L.nil (X.seqN (E.seq (E.block ?_))))))))))))))))))))))
 obtain ⟨o11, eo11, hm⟩ := bindS hm
 refine E.cut (x := .exit 0) (fun e w => ∃ (s14 : Sig), Mv (Up N No) s s14 ∧ RdL (rP (rK .i64) (rP (rK .i64) (rK .i64))) s14 a1 c1 p0 ∧ FV2 Try.prog s14 vp2 (fun (x0 : Int × Int × Int) (x1 : Int) => [.agg #[.int .i64 x0.1, .int .i64 x0.2.1, .int .i64 x0.2.2], .int .i64 x1]) (fun (r : Int) => .int .i64 r) p2 ∧ e = [(9, .int .i64 o11), (8, .int .i64 (p0.length : Int)), (0, .slice a1 p0.length c1), (1, .int .i64 p1), (2, vp2)] ∧ w = s14.w) ?_ ?_
 ·rintro _ _ ⟨s14, m0, h1, hp2, rfl, rfl⟩
  refine X.blkE (X.seqN (E.seq (E.reg (L.mv Wt.no rfl rfl (L.mv Wt.no rfl rfl (L.mv Wt.no rfl rfl (L.bi Wt.no rfl rfl rfl rfl (L.mv Wt.no rfl rfl ?_))))))))
  obtain ⟨b15, eb15, hm⟩ := bindS hm
  refine L.cut 9 (fun e w => ∃ (s17 : Sig) (v16 : Bool), b15 = v16 ∧ Mv (Up N No) s s17 ∧ e = (48, .bool v16) :: [(35, .int .i64 o11)] ∧ w = s17.w) ?_ ?_
  ·rintro _ _ ⟨s17, v16, rfl, m0, rfl, rfl⟩
   refine L.as Wt.no rfl rfl (L.as Wt.no rfl rfl (L.nil (X.seqN (E.ret ?_))))
   obtain rfl := Option.some.inj hm
   exact X.rt (.inl rfl) Try.results100 (Rs.tmp rfl (Rs.tmp rfl Rs.nil)) rfl ⟨_, (s17).ren N (fun _ => 0), rfl, rfl, m0.ren hNb, rfl⟩
  ·intro J18
   rcases ifS eb15 with ⟨hc, hm⟩ | ⟨hc, hm⟩
   ·refine L.know (d := 39) rfl hc (L.mv (Wt.mk rfl rfl) rfl rfl (L.mv (Wt.mk rfl rfl) rfl rfl (L.mv (Wt.mk rfl rfl) rfl rfl ?_)))
    obtain ⟨x19, ex19, hm⟩ := bindS hm
    refine L.ix (r := (rP (rK .i64) (rP (rK .i64) (rK .i64)))) sl24 h1 (Wt.mk rfl rfl) rfl rfl ex19 rfl fun b20 o20 cc20 me20 rd20 => ?_
    obtain ⟨_, _, rfl, rfl, ⟨_, _, rfl, rfl, rfl⟩⟩ := rd20
    refine L.lg (j := 0) (cs := [.int .i64 x19.1, .int .i64 x19.2.1, .int .i64 x19.2.2]) me20 ag28 (Wt.mk rfl rfl) rfl rfl rfl rfl rfl (L.mv (Wt.mk rfl rfl) rfl rfl ?_)
    obtain ⟨r21, er21, hm⟩ := bindS hm
    refine L.fv2 (y := x19) (z := p1) hp2 rfl rfl (Wt.mk rfl rfl) rfl rfl er21 rfl fun s22 m23 => ?_
    replace m0 := m0.trans m23.no
    exact L.bi (Wt.mk rfl rfl) rfl rfl rfl rfl (L.pkT Wt.no rfl rfl rfl rfl (L.sb (J18 _ _ ⟨s22, (r21 == 0), (Option.some.inj hm).symm, m0, rfl, rfl⟩) rfl))
   ·exact L.know (d := 39) rfl hc (L.skip rfl rfl rfl rfl (L.skip rfl rfl rfl rfl (L.skip rfl rfl rfl rfl (L.skip rfl rfl rfl rfl (L.skip rfl rfl rfl rfl (L.skip rfl rfl rfl rfl (L.skip rfl rfl rfl rfl (L.skip rfl rfl rfl rfl (L.pkF Wt.no rfl rfl rfl rfl (L.sb (J18 _ _ ⟨s14, false, (Option.some.inj hm).symm, m0, rfl, rfl⟩) rfl))))))))))
 intro K24
 refine E.iter (fun (st11 : Int × Int) (e : List (Nat × Value)) (w : World) => ∃ (s13 : Sig), Mv (Up N No) s s13 ∧ RdL (rP (rK .i64) (rP (rK .i64) (rK .i64))) s13 a1 c1 p0 ∧ FV2 Try.prog s13 vp2 (fun (x0 : Int × Int × Int) (x1 : Int) => [.agg #[.int .i64 x0.1, .int .i64 x0.2.1, .int .i64 x0.2.2], .int .i64 x1]) (fun (r : Int) => .int .i64 r) p2 ∧ e = [(10, .int .i64 st11.1), (9, .int .i64 st11.2), (8, .int .i64 (p0.length : Int)), (0, .slice a1 p0.length c1), (1, .int .i64 p1), (2, vp2)] ∧ w = s13.w) eo11 ⟨s, m0, h1, hp2, rfl, rfl⟩ (Sub.rf rfl) ?_
 rintro st11 res11 hm ih11 ho11 _ _ ⟨s13, m0, h1, hp2, rfl, rfl⟩
 unfold m_slices_BinarySearchFunc_api_Edge_api_Edge_int_l1 at hm
 refine E.seq (E.seq (E.reg (L.mv Wt.no rfl rfl (L.mv Wt.no rfl rfl (L.bi Wt.no rfl rfl rfl rfl (L.nil (X.seqN ?_)))))))
 rcases ifS hm with ⟨hc, hm⟩ | ⟨hc, hm⟩
 ·refine E.cT rfl hc (E.skip (X.seqN (E.block (E.seq (E.reg (L.mv Wt.no rfl rfl (L.mv Wt.no rfl rfl (L.bi Wt.no rfl rfl rfl rfl (L.cv Try.underlying3 Try.underlying136 Wt.no rfl rfl (L.shr Wt.no rfl rfl (by decide) rfl (L.cv Try.underlying136 Try.underlying3 Wt.no rfl rfl (L.as Wt.no rfl rfl (L.nil (X.seqN (E.seq (E.reg (L.mv Wt.no rfl rfl (L.mv Wt.no rfl rfl (L.mv Wt.no rfl rfl ?_)))))))))))))))))))
  obtain ⟨x25, ex25, hm⟩ := bindS hm
  refine L.ix (r := (rP (rK .i64) (rP (rK .i64) (rK .i64)))) sl24 h1 Wt.no rfl rfl ex25 rfl fun b26 o26 cc26 me26 rd26 => ?_
  obtain ⟨_, _, rfl, rfl, ⟨_, _, rfl, rfl, rfl⟩⟩ := rd26
  refine L.lg (j := 0) (cs := [.int .i64 x25.1, .int .i64 x25.2.1, .int .i64 x25.2.2]) me26 ag28 Wt.no rfl rfl rfl rfl rfl (L.mv Wt.no rfl rfl ?_)
  obtain ⟨r27, er27, hm⟩ := bindS hm
  refine L.fv2 (y := x25) (z := p1) hp2 rfl rfl Wt.no rfl rfl er27 rfl fun s28 m29 => ?_
  replace m0 := m0.trans m29.no
  replace h1 := h1.mono (m29.le no_No)
  replace hp2 := hp2.mono (m29.le no_No)
  refine L.bi Wt.no rfl rfl rfl rfl (L.nil (X.seqN ?_))
  rcases ifS hm with ⟨hc, hm⟩ | ⟨hc, hm⟩
  ·exact E.cT rfl hc (E.reg (L.mv Wt.no rfl rfl (L.bi Wt.no rfl rfl rfl rfl (L.as Wt.no rfl rfl (L.nil (X.blkN (X.sub (ih11 _ (Option.some.inj hm).symm _ _ ⟨s28, m0, h1, hp2, rfl, rfl⟩) (Sub.rf rfl))))))))
  ·exact E.cF rfl hc (E.reg (L.mv Wt.no rfl rfl (L.as Wt.no rfl rfl (L.nil (X.blkN (X.sub (ih11 _ (Option.some.inj hm).symm _ _ ⟨s28, m0, h1, hp2, rfl, rfl⟩) (Sub.rf rfl)))))))
 ·refine E.cF rfl hc (E.exit (X.seqX (X.seqX ?_)))
  have hx := ho11 _ (Option.some.inj hm).symm
  subst hx
  exact X.sub (K24 _ _ ⟨s13, m0, h1, hp2, rfl, rfl⟩) (Sub.rf rfl)

/-- What automaton.out$1 computes. -/
noncomputable def m_automaton_out_1 (p0 : Int × Int × Int) (p1 : Int) : Option Int :=
  some (W (p0.1 - p1))
set_option maxRecDepth 100000 in
set_option maxHeartbeats 8000000 in
theorem m_automaton_out_1_c {s : Sig} {p0 : Int × Int × Int} {p1 : Int} {r : Int} (hm : m_automaton_out_1 p0 p1 = some r) :
    Calls Try.prog 101 #[.agg #[.int .i64 p0.1, .int .i64 p0.2.1, .int .i64 p0.2.2], .int .i64 p1] s.w (RetS No s fun v s' => v = .int .i64 r) := by
 unfold m_automaton_out_1 at hm
 obtain ⟨N, hN, hNb⟩ := s.fresh
 have m0 : Mv (Up N No) s s := Mv.refl _ _
 refine E.entry Try.func101 rfl Try.ntmps101 rfl rfl (E.seq (E.reg (L.box (N + 0) Wt.no rfl rfl rfl fun b1 s2 m3 bx1 => ?_)))
 replace m0 := m0.trans m3.no
 refine L.as Wt.no rfl rfl (L.nil (X.seqN (E.seq (E.reg (L.fa fa28_0 Wt.no rfl rfl (L.ld (j := 0) bx1.mem nag3 Wt.no rfl rfl rfl rfl (L.mv Wt.no rfl rfl (L.bi Wt.no rfl rfl rfl rfl (L.as Wt.no rfl rfl (L.nil (X.seqN (E.ret ?_))))))))))))
 obtain rfl := Option.some.inj hm
 exact X.rt (.inl rfl) Try.results101 (Rs.tmp rfl Rs.nil) rfl ⟨_, (s2).ren N (fun _ => 0), rfl, rfl, m0.ren hNb, rfl⟩

/-- What automaton.out$2 computes. -/
noncomputable def m_automaton_out_2 (p0 : Int × Int × Int) (p1 : Int) : Option Int :=
  some (W (p0.1 - p1))
set_option maxRecDepth 100000 in
set_option maxHeartbeats 8000000 in
theorem m_automaton_out_2_c {s : Sig} {p0 : Int × Int × Int} {p1 : Int} {r : Int} (hm : m_automaton_out_2 p0 p1 = some r) :
    Calls Try.prog 102 #[.agg #[.int .i64 p0.1, .int .i64 p0.2.1, .int .i64 p0.2.2], .int .i64 p1] s.w (RetS No s fun v s' => v = .int .i64 r) := by
 unfold m_automaton_out_2 at hm
 obtain ⟨N, hN, hNb⟩ := s.fresh
 have m0 : Mv (Up N No) s s := Mv.refl _ _
 refine E.entry Try.func102 rfl Try.ntmps102 rfl rfl (E.seq (E.reg (L.box (N + 0) Wt.no rfl rfl rfl fun b1 s2 m3 bx1 => ?_)))
 replace m0 := m0.trans m3.no
 refine L.as Wt.no rfl rfl (L.nil (X.seqN (E.seq (E.reg (L.fa fa28_0 Wt.no rfl rfl (L.ld (j := 0) bx1.mem nag3 Wt.no rfl rfl rfl rfl (L.mv Wt.no rfl rfl (L.bi Wt.no rfl rfl rfl rfl (L.as Wt.no rfl rfl (L.nil (X.seqN (E.ret ?_))))))))))))
 obtain rfl := Option.some.inj hm
 exact X.rt (.inl rfl) Try.results102 (Rs.tmp rfl Rs.nil) rfl ⟨_, (s2).ren N (fun _ => 0), rfl, rfl, m0.ren hNb, rfl⟩

theorem cf100 : Cf Try.prog 100 := Cf.mk Try.func100 (by kernel_rfl) (by kernel_rfl)
theorem cf101 : Cf Try.prog 101 := Cf.mk Try.func101 (by kernel_rfl) (by kernel_rfl)
theorem cf102 : Cf Try.prog 102 := Cf.mk Try.func102 (by kernel_rfl) (by kernel_rfl)
theorem fv101 {s : Sig} : FV2 Try.prog s (.func (.func 101) #[] #[]) (fun (x0 : Int × Int × Int) (x1 : Int) => [.agg #[.int .i64 x0.1, .int .i64 x0.2.1, .int .i64 x0.2.2], .int .i64 x1]) (fun r => .int .i64 r) m_automaton_out_1 := ⟨101, #[], #[], rfl, cf101, fun x0 x1 r hm s' hl => by have hh := m_automaton_out_1_c (s := s') hm; simpa using hh⟩
theorem fv102 {s : Sig} : FV2 Try.prog s (.func (.func 102) #[] #[]) (fun (x0 : Int × Int × Int) (x1 : Int) => [.agg #[.int .i64 x0.1, .int .i64 x0.2.1, .int .i64 x0.2.2], .int .i64 x1]) (fun r => .int .i64 r) m_automaton_out_2 := ⟨102, #[], #[], rfl, cf102, fun x0 x1 r hm s' hl => by have hh := m_automaton_out_2_c (s := s') hm; simpa using hh⟩
/-- What automaton.out computes. -/
noncomputable def m_automaton_out (p0 : List Int × Int × List Int × (List (Int × Int × Int))) (p1 : Int) : Option (List (Int × Int × Int)) :=
  (m_slices_BinarySearchFunc_api_Edge_api_Edge_int p0.2.2.2 p1 m_automaton_out_1).bind fun r8 =>
  (m_slices_BinarySearchFunc_api_Edge_api_Edge_int p0.2.2.2 (W (p1 + 1)) m_automaton_out_2).bind fun r11 =>
  (slc p0.2.2.2 r8.1 r11.1).bind fun x14 =>
  some x14
set_option maxRecDepth 100000 in
set_option maxHeartbeats 8000000 in
theorem m_automaton_out_c {s : Sig} {p0 : List Int × Int × List Int × (List (Int × Int × Int))} {p1 : Int} {a1 : Option Addr} {c1 : Nat} {a2 : Option Addr} {c2 : Nat} {a3 : Option Addr} {c3 : Nat} {r : (List (Int × Int × Int))} (h1 : RdL (rK .i64) s a1 c1 p0.1) (h2 : RdL (rK .i64) s a2 c2 p0.2.2.1) (h3 : RdL (rP (rK .i64) (rP (rK .i64) (rK .i64))) s a3 c3 p0.2.2.2) (hm : m_automaton_out p0 p1 = some r) :
    Calls Try.prog 76 #[.agg #[.slice a1 p0.1.length c1, .int .i64 p0.2.1, .slice a2 p0.2.2.1.length c2, .slice a3 p0.2.2.2.length c3], .int .i64 p1] s.w (RetS No s fun v s' => ∃ (a4 : Option Addr) (c4 : Nat), v = .slice a4 r.length c4 ∧ RdL (rP (rK .i64) (rP (rK .i64) (rK .i64))) s' a4 c4 r) := by
 unfold m_automaton_out at hm
 obtain ⟨N, hN, hNb⟩ := s.fresh
 have m0 : Mv (Up N No) s s := Mv.refl _ _
 refine E.entry Try.func76 rfl Try.ntmps76 rfl rfl (E.seq (E.reg (L.box (N + 0) Wt.no rfl rfl rfl fun b5 s6 m7 bx5 => ?_)))
 replace m0 := m0.trans m7.no
 replace h3 := h3.mono (m7.le no_No)
 refine L.as Wt.no rfl rfl (L.nil (X.seqN (E.seq (E.reg (L.fa fa26_3 Wt.no rfl rfl (L.ld (j := 3) bx5.mem nag24 Wt.no rfl rfl rfl rfl (L.mv Wt.no rfl rfl ?_)))))))
 obtain ⟨r8, er8, hm⟩ := bindS hm
 refine L.ca cf100 rfl rfl Wt.no rfl (m_slices_BinarySearchFunc_api_Edge_api_Edge_int_c (s := s6) (p0 := p0.2.2.2) (p1 := p1) (p2 := m_automaton_out_1) h3 fv101 er8) rfl ?_
 rintro _ s9 m10 rfl
 replace m0 := m0.trans m10.no
 replace bx5 := bx5.mv m10 no_No
 replace h3 := h3.mono (m10.le no_No)
 refine L.mv Wt.no rfl rfl (L.ex Wt.no rfl rfl rfl (L.ex Wt.no rfl rfl rfl (L.as Wt.no rfl rfl (L.as Wt.no rfl rfl (L.nil (X.seqN (E.seq (E.reg (L.fa fa26_3 Wt.no rfl rfl (L.ld (j := 3) bx5.mem nag24 Wt.no rfl rfl rfl rfl (L.mv Wt.no rfl rfl (L.bi Wt.no rfl rfl rfl rfl ?_))))))))))))
 obtain ⟨r11, er11, hm⟩ := bindS hm
 refine L.ca cf100 rfl rfl Wt.no rfl (m_slices_BinarySearchFunc_api_Edge_api_Edge_int_c (s := s9) (p0 := p0.2.2.2) (p1 := (W (p1 + 1))) (p2 := m_automaton_out_2) h3 fv102 er11) rfl ?_
 rintro _ s12 m13 rfl
 replace m0 := m0.trans m13.no
 replace bx5 := bx5.mv m13 no_No
 replace h3 := h3.mono (m13.le no_No)
 refine L.mv Wt.no rfl rfl (L.ex Wt.no rfl rfl rfl (L.ex Wt.no rfl rfl rfl (L.as Wt.no rfl rfl (L.as Wt.no rfl rfl (L.nil (X.seqN (E.seq (E.reg (L.fa fa26_3 Wt.no rfl rfl (L.ld (j := 3) bx5.mem nag24 Wt.no rfl rfl rfl rfl (L.mv Wt.no rfl rfl (L.mv Wt.no rfl rfl ?_))))))))))))
 obtain ⟨x14, ex14, hm⟩ := bindS hm
 refine L.sl (r := (rP (rK .i64) (rP (rK .i64) (rK .i64)))) sl24 h3 Wt.no rfl rfl rfl ex14 rfl fun a15 c15 h15 => L.as Wt.no rfl rfl (L.nil (X.seqN (E.ret ?_)))
 obtain rfl := Option.some.inj hm
 exact X.rt (.inl rfl) Try.results76 (Rs.tmp rfl Rs.nil) rfl ⟨_, (s12).ren N (fun _ => 0), rfl, rfl, m0.ren hNb, ⟨a15, c15, rfl, (h15.ren hN)⟩⟩

theorem cf65 : Cf Try.prog 65 := Cf.mk Try.func65 (by kernel_rfl) (by kernel_rfl)
theorem cf76 : Cf Try.prog 76 := Cf.mk Try.func76 (by kernel_rfl) (by kernel_rfl)
noncomputable def m_automaton_Enabled_l1 (r11 : (List (Int × Int × Int))) (st35 : Int × List Int) : Option ((Int × List Int) ⊕ (List Int)) :=
  if decide (st35.1 < (r11.length : Int)) then
    (idx r11 st35.1).bind fun x41 =>
    (app st35.2 ([x41.2.1] : List Int)).bind fun x51 =>
    some (.inl (W (st35.1 + 1), x51))
  else
    some (.inr st35.2)
/-- What automaton.Enabled computes. -/
noncomputable def m_automaton_Enabled (p0 : List Int × Int × List Int × (List (Int × Int × Int))) (p1 : Int) : Option (List Int × Int) :=
  (m_automaton_checkState p0 p1).bind fun r8 =>
  if (r8 != 0) then
    some (([] : List Int), r8)
  else
    (m_automaton_out p0 p1).bind fun r11 =>
    (iter (m_automaton_Enabled_l1 r11) (0, ([] : List Int))).bind fun o35 =>
    some (o35, 0)
set_option maxRecDepth 100000 in
set_option maxHeartbeats 8000000 in
theorem m_automaton_Enabled_c {s : Sig} {p0 : List Int × Int × List Int × (List (Int × Int × Int))} {p1 : Int} {a1 : Option Addr} {c1 : Nat} {a2 : Option Addr} {c2 : Nat} {a3 : Option Addr} {c3 : Nat} {u0 : Nat} {r : List Int × Int} (h1 : RdL (rK .i64) s a1 c1 p0.1) (h2 : RdL (rK .i64) s a2 c2 p0.2.2.1) (h3 : RdL (rP (rK .i64) (rP (rK .i64) (rK .i64))) s a3 c3 p0.2.2.2) (hm : m_automaton_Enabled p0 p1 = some r) :
    Calls Try.prog 63 #[.agg #[.slice a1 p0.1.length c1, .int .i64 p0.2.1, .slice a2 p0.2.2.1.length c2, .slice a3 p0.2.2.2.length c3], .int .i64 p1] s.w (RetS No s fun v s' => ∃ (a4 : Option Addr) (c4 : Nat), v = .tuple #[.slice a4 r.1.length c4, .int .i64 r.2] ∧ RowT (rK .i64) s' u0 3 a4 c4 r.1) := by
 unfold m_automaton_Enabled at hm
 obtain ⟨N, hN, hNb⟩ := s.fresh
 have m0 : Mv (Up N No) s s := Mv.refl _ _
 refine E.entry Try.func63 rfl Try.ntmps63 rfl rfl (E.seq (E.reg (L.box (N + 0) Wt.no rfl rfl rfl fun b5 s6 m7 bx5 => ?_)))
 replace m0 := m0.trans m7.no
 replace h1 := h1.mono (m7.le no_No)
 replace h2 := h2.mono (m7.le no_No)
 replace h3 := h3.mono (m7.le no_No)
 refine L.as Wt.no rfl rfl (L.as Wt.no rfl rfl (L.nil (X.seqN (E.seq (E.seq (E.reg (L.lg (j := 0) (cs := [.slice a1 p0.1.length c1, .int .i64 p0.2.1, .slice a2 p0.2.2.1.length c2, .slice a3 p0.2.2.2.length c3]) bx5.mem ag26 Wt.no rfl rfl rfl rfl rfl (L.mv Wt.no rfl rfl ?_))))))))
 obtain ⟨r8, er8, hm⟩ := bindS hm
 refine L.ca cf65 rfl rfl Wt.no rfl (m_automaton_checkState_c (s := s6) (p0 := p0) (p1 := p1) h1 h2 h3 er8) rfl ?_
 rintro _ s9 m10 rfl
 replace m0 := m0.trans m10.no
 replace bx5 := bx5.mv m10 no_No
 replace h1 := h1.mono (m10.le no_No)
 replace h2 := h2.mono (m10.le no_No)
 replace h3 := h3.mono (m10.le no_No)
 refine L.as Wt.no rfl rfl (L.nil (X.seqN (E.seq (E.reg (L.mv Wt.no rfl rfl (L.bi Wt.no rfl rfl rfl rfl (L.nil (X.seqN ?_))))))))
 rcases ifS hm with ⟨hc, hm⟩ | ⟨hc, hm⟩
 ·refine E.cT rfl hc (E.seq (E.reg (L.mv Wt.no rfl rfl (L.as Wt.no rfl rfl (L.as Wt.no rfl rfl (L.nil (X.seqN (E.ret (X.seqR ?_)))))))))
  obtain rfl := Option.some.inj hm
  exact X.rt (.inl rfl) Try.results63 (Rs.tmp rfl (Rs.tmp rfl Rs.nil)) rfl ⟨_, (s9).ren N (fun _ => 0), rfl, rfl, m0.ren hNb, ⟨none, 0, rfl, RowT.nil⟩⟩
 ·refine E.cF rfl hc (E.skip (X.seqN (E.seq (E.reg (L.as Wt.no rfl rfl (L.nil (X.seqN (E.seq (E.seq (E.reg (L.lg (j := 0) (cs := [.slice a1 p0.1.length c1, .int .i64 p0.2.1, .slice a2 p0.2.2.1.length c2, .slice a3 p0.2.2.2.length c3]) bx5.mem ag26 Wt.no rfl rfl rfl rfl rfl (L.mv Wt.no rfl rfl ?_))))))))))))
  obtain ⟨r11, er11, hm⟩ := bindS hm
  refine L.ca cf76 rfl rfl Wt.no rfl (m_automaton_out_c (s := s9) (p0 := p0) (p1 := p1) h1 h2 h3 er11) rfl ?_
  rintro _ s12 m13 ⟨a14, c14, rfl, h14⟩
  replace m0 := m0.trans m13.no
  refine L.len sl24 Wt.no rfl rfl (L.mv Wt.no rfl rfl (L.nil (X.seqN (E.block ?_))))
  obtain ⟨o35, eo35, hm⟩ := bindS hm
  refine E.cut (x := .exit 0) (fun e w => ∃ (s39 : Sig) (a37 : Option Addr) (c37 : Nat), Mv (Up N No) s s39 ∧ RowT (rK .i64) s39 (N + 2) 3 a37 c37 o35 ∧ e = [(7, .slice a37 o35.length c37)] ∧ w = s39.w) ?_ ?_
  ·rintro _ _ ⟨s39, a37, c37, m0, h37, rfl, rfl⟩
   refine X.blkE (X.seqN (E.seq (E.reg (L.mv Wt.no rfl rfl (L.as Wt.no rfl rfl (L.as Wt.no rfl rfl (L.nil (X.seqN (E.ret ?_)))))))))
   obtain rfl := Option.some.inj hm
   exact X.rt (.inl rfl) Try.results63 (Rs.tmp rfl (Rs.tmp rfl Rs.nil)) rfl ⟨_, (s39).ren N (fun k => cond (Nat.beq k 2) u0 (0)), rfl, rfl, m0.ren hNb, ⟨a37, c37, rfl, (h37.ren hN)⟩⟩
  intro K40
  refine E.iter (fun (st35 : Int × List Int) (e : List (Nat × Value)) (w : World) => ∃ (s38 : Sig) (a17 : Option Addr) (c17 : Nat), Mv (Up N No) s s38 ∧ RdL (rP (rK .i64) (rP (rK .i64) (rK .i64))) s38 a14 c14 r11 ∧ RowT (rK .i64) s38 (N + 2) 3 a17 c17 st35.2 ∧ e = [(20, .int .i64 st35.1), (19, .int .i64 (r11.length : Int)), (18, .slice a14 r11.length c14), (7, .slice a17 st35.2.length c17)] ∧ w = s38.w) eo35 ⟨s12, none, 0, m0, h14, RowT.nil, rfl, rfl⟩ (Sub.rf rfl) ?_
  rintro st35 res35 hm ih35 ho35 _ _ ⟨s38, a17, c17, m0, h14, h17, rfl, rfl⟩
  unfold m_automaton_Enabled_l1 at hm
  refine E.seq (E.reg (L.bi Wt.no rfl rfl rfl rfl (L.nil (X.seqN (E.seq ?_)))))
  rcases ifS hm with ⟨hc, hm⟩ | ⟨hc, hm⟩
  ·refine E.cT rfl hc (E.skip (X.seqN (E.seq (E.block (E.seq (E.reg ?_))))))
   obtain ⟨x41, ex41, hm⟩ := bindS hm
   refine L.ix (r := (rP (rK .i64) (rP (rK .i64) (rK .i64)))) sl24 h14 Wt.no rfl rfl ex41 rfl fun b42 o42 cc42 me42 rd42 => ?_
   obtain ⟨_, _, rfl, rfl, ⟨_, _, rfl, rfl, rfl⟩⟩ := rd42
   refine L.lg (j := 0) (cs := [.int .i64 x41.1, .int .i64 x41.2.1, .int .i64 x41.2.2]) me42 ag28 Wt.no rfl rfl rfl rfl rfl (L.al (N + 1) zz28 rfl Wt.no rfl fun b43 s44 m45 bx43 => ?_)
   replace m0 := m0.trans m45.no
   replace h14 := h14.mono (m45.le no_No)
   replace h17 := h17.mv m45 no_No no_No
   refine L.st (c := [.int .i64 x41.1, .int .i64 x41.2.1, .int .i64 x41.2.2]) (cs' := #[.int .i64 x41.1, .int .i64 x41.2.1, .int .i64 x41.2.2]) bx43 ag28.sz Wt.no rfl rfl rfl rfl rfl (Nat.le_of_ble_eq_true rfl) rfl fun s46 m47 bx43 => ?_
   replace m0 := m0.trans (m47.one up)
   replace h14 := h14.mono (m47.le (tg0 hN))
   replace h17 := h17.mv m47 (tgN (by decide)) (tg0 hN)
   refine L.nil (X.seqN (E.reg (L.mv Wt.no rfl rfl (L.fa fa28_1 Wt.no rfl rfl (L.ld (j := 1) bx43.mem nag3 Wt.no rfl rfl rfl rfl (L.bsE (k := 1) (cs := [.int .i64 x41.2.1]) 0 bs23 (Nat.le_of_ble_eq_true rfl) Wt.no rfl rfl rfl rfl fun b48 s49 m50 bx48 => ?_))))))
   replace m0 := m0.trans m50.no
   replace h14 := h14.mono (m50.le no_No)
   replace h17 := h17.mv m50 no_No no_No
   have h48 := Bx.rdL (r := (rK .i64)) (xs := ([x41.2.1] : List Int)) bx48 ⟨[.int .i64 x41.2.1], _, rfl, rfl, rfl⟩ (Nat.le_of_ble_eq_true rfl)
   obtain ⟨x51, ex51, hm⟩ := bindS hm
   refine L.ap (r := (rK .i64)) Try.underlying23 el3 rfl (tgp hN) h17 h48.wk Wt.no rfl rfl ex51 rfl fun a52 c52 s53 m54 h52 => ?_
   replace m0 := m0.trans (m54.one up)
   replace h14 := h14.mono (m54.le (tg0 hN))
   exact L.as Wt.no rfl rfl (L.nil (X.blkN (X.seqN (E.reg (L.bi Wt.no rfl rfl rfl rfl (L.mv Wt.no rfl rfl (L.nil (X.sub (ih35 _ (Option.some.inj hm).symm _ _ ⟨s53, a52, c52, m0, h14, h52, rfl, rfl⟩) (Sub.rf rfl)))))))))
  ·refine E.cF rfl hc (E.exit (X.seqX (X.seqX ?_)))
   have hx := ho35 _ (Option.some.inj hm).symm
   subst hx
   exact X.sub (K40 _ _ ⟨s38, a17, c17, m0, h17, rfl, rfl⟩) (Sub.rf rfl)

/-- What automaton.next$1 computes. -/
noncomputable def m_automaton_next_1 (q0 : Int) (p0 : Int × Int × Int) : Option Bool :=
  some (p0.2.1 == q0)
set_option maxRecDepth 100000 in
set_option maxHeartbeats 8000000 in
theorem m_automaton_next_1_c {s : Sig} {q0 : Int} {p0 : Int × Int × Int} {b1 : Nat} {r : Bool} (bx1 : Bx s 0 b1 #[.int .i64 q0] 3) (hm : m_automaton_next_1 q0 p0 = some r) :
    Calls Try.prog 104 #[.agg #[.int .i64 p0.1, .int .i64 p0.2.1, .int .i64 p0.2.2], .pointer (some ⟨b1, 0, none⟩)] s.w (RetS No s fun v s' => v = .bool r) := by
 unfold m_automaton_next_1 at hm
 obtain ⟨N, hN, hNb⟩ := s.fresh
 have m0 : Mv (Up N No) s s := Mv.refl _ _
 refine E.entry Try.func104 rfl Try.ntmps104 rfl rfl (E.seq (E.reg (L.box (N + 0) Wt.no rfl rfl rfl fun b2 s3 m4 bx2 => ?_)))
 replace m0 := m0.trans m4.no
 replace bx1 := bx1.mv m4 no_No
 refine L.as Wt.no rfl rfl (L.nil (X.seqN (E.seq (E.reg (L.fa fa28_1 Wt.no rfl rfl (L.ld (j := 1) bx2.mem nag3 Wt.no rfl rfl rfl rfl (L.ld (j := 0) bx1.mem nag3 Wt.no rfl rfl rfl rfl (L.bi Wt.no rfl rfl rfl rfl (L.as Wt.no rfl rfl (L.nil (X.seqN (E.ret ?_))))))))))))
 obtain rfl := Option.some.inj hm
 exact X.rt (.inl rfl) Try.results104 (Rs.tmp rfl Rs.nil) rfl ⟨_, (s3).ren N (fun _ => 0), rfl, rfl, m0.ren hNb, rfl⟩

end Go.Proofs.Ytkkemchihllklaa

namespace Go.Proofs.Ytkkemchihllklaa
open Go Go.RowKit
noncomputable def m_slices_IndexFunc_Edge_l1 (p0 : List (Int × Int × Int)) (p1 : (Int × Int × Int) → Option Bool) (st9 : Int) : Option (Int ⊕ (Unit ⊕ Int)) :=
  if decide (st9 < (p0.length : Int)) then
    (idx p0 st9).bind fun x18 =>
    (p1 x18).bind fun r20 =>
    if r20 then
      some (.inr (.inr (st9)))
    else
      some (.inl (W (st9 + 1)))
  else
    some (.inr (.inl ()))
/-- What api.Edge> computes. -/
noncomputable def m_slices_IndexFunc_Edge (p0 : List (Int × Int × Int)) (p1 : (Int × Int × Int) → Option Bool) : Option Int :=
  (iter (m_slices_IndexFunc_Edge_l1 p0 p1) 0).bind fun o9 =>
  match o9 with
  | .inl u12 =>
    some (-1)
  | .inr (u15) =>
    some u15
set_option maxRecDepth 100000 in
set_option maxHeartbeats 8000000 in
theorem m_slices_IndexFunc_Edge_c {s : Sig} {p0 : List (Int × Int × Int)} {p1 : (Int × Int × Int) → Option Bool} {a1 : Option Addr} {c1 : Nat} {vp1 : Value} {r : Int} (h1 : RdL (rP (rK .i64) (rP (rK .i64) (rK .i64))) s a1 c1 p0) (hp1 : FV1 Try.prog s vp1 (fun (x0 : Int × Int × Int) => [.agg #[.int .i64 x0.1, .int .i64 x0.2.1, .int .i64 x0.2.2]]) (fun (r : Bool) => .bool r) p1) (hm : m_slices_IndexFunc_Edge p0 p1 = some r) :
    Calls Try.prog 103 #[.slice a1 p0.length c1, vp1] s.w (RetS No s fun v s' => v = .int .i64 r) := by
 unfold m_slices_IndexFunc_Edge at hm
 obtain ⟨N, hN, hNb⟩ := s.fresh
 have m0 : Mv (Up N No) s s := Mv.refl _ _
 refine E.entry Try.func103 rfl Try.ntmps103 rfl rfl (E.seq (E.reg (L.as Wt.no rfl rfl (L.nil (X.seqN (E.seq (E.seq (E.reg (L.mv Wt.no rfl rfl (L.len sl24 Wt.no rfl rfl (L.mv Wt.no rfl rfl (L.nil (X.seqN (E.block ?_))))))))))))))
 obtain ⟨o9, eo9, hm⟩ := bindS hm
 refine E.cut (x := .exit 0) (fun e w => ∃ (s13 : Sig) (u12 : Unit), o9 = .inl u12 ∧ Mv (Up N No) s s13 ∧ e = [] ∧ w = s13.w) ?_ ?_
 ·rintro _ _ ⟨s13, u12, rfl, m0, rfl, rfl⟩
  dsimp only at hm
  refine X.blkE (X.seqN (E.seq (E.reg (L.as Wt.no rfl rfl (L.nil (X.seqN (E.ret ?_)))))))
  obtain rfl := Option.some.inj hm
  exact X.rt (.inl rfl) Try.results103 (Rs.tmp rfl Rs.nil) rfl ⟨_, (s13).ren N (fun _ => 0), rfl, rfl, m0.ren hNb, rfl⟩
 intro K14
 refine E.cut (x := .ret) (fun e w => ∃ (s16 : Sig) (u15 : Int), o9 = .inr (u15) ∧ Mv (Up N No) s s16 ∧ e = [(4, .int .i64 u15)] ∧ w = s16.w) ?_ ?_
 ·rintro _ _ ⟨s16, u15, rfl, m0, rfl, rfl⟩
  dsimp only at hm
  refine X.blkR (X.seqR ?_)
  obtain rfl := Option.some.inj hm
  exact X.rt (.inl rfl) Try.results103 (Rs.tmp rfl Rs.nil) rfl ⟨_, (s16).ren N (fun _ => 0), rfl, rfl, m0.ren hNb, rfl⟩
 intro K17
 refine E.iter (fun (st9 : Int) (e : List (Nat × Value)) (w : World) => ∃ (s11 : Sig), Mv (Up N No) s s11 ∧ RdL (rP (rK .i64) (rP (rK .i64) (rK .i64))) s11 a1 c1 p0 ∧ FV1 Try.prog s11 vp1 (fun (x0 : Int × Int × Int) => [.agg #[.int .i64 x0.1, .int .i64 x0.2.1, .int .i64 x0.2.2]]) (fun (r : Bool) => .bool r) p1 ∧ e = [(8, .int .i64 st9), (7, .int .i64 (p0.length : Int)), (0, .slice a1 p0.length c1), (1, vp1)] ∧ w = s11.w) eo9 ⟨s, m0, h1, hp1, rfl, rfl⟩ (Sub.rf rfl) ?_
 rintro st9 res9 hm ih9 ho9 _ _ ⟨s11, m0, h1, hp1, rfl, rfl⟩
 unfold m_slices_IndexFunc_Edge_l1 at hm
 refine E.seq (E.reg (L.bi Wt.no rfl rfl rfl rfl (L.nil (X.seqN (E.seq ?_)))))
 rcases ifS hm with ⟨hc, hm⟩ | ⟨hc, hm⟩
 ·refine E.cT rfl hc (E.skip (X.seqN (E.seq (E.block (E.seq (E.reg (L.mv Wt.no rfl rfl (L.as Wt.no rfl rfl (L.nil (X.seqN (E.seq (E.reg (L.mv Wt.no rfl rfl (L.mv Wt.no rfl rfl (L.mv Wt.no rfl rfl ?_)))))))))))))))
  obtain ⟨x18, ex18, hm⟩ := bindS hm
  refine L.ix (r := (rP (rK .i64) (rP (rK .i64) (rK .i64)))) sl24 h1 Wt.no rfl rfl ex18 rfl fun b19 o19 cc19 me19 rd19 => ?_
  obtain ⟨_, _, rfl, rfl, ⟨_, _, rfl, rfl, rfl⟩⟩ := rd19
  refine L.lg (j := 0) (cs := [.int .i64 x18.1, .int .i64 x18.2.1, .int .i64 x18.2.2]) me19 ag28 Wt.no rfl rfl rfl rfl rfl ?_
  obtain ⟨r20, er20, hm⟩ := bindS hm
  refine L.fv1 (y := x18) hp1 rfl rfl Wt.no rfl rfl er20 rfl fun s21 m22 => ?_
  replace m0 := m0.trans m22.no
  replace h1 := h1.mono (m22.le no_No)
  replace hp1 := hp1.mono (m22.le no_No)
  refine L.nil (X.seqN ?_)
  rcases ifS hm with ⟨hc, hm⟩ | ⟨hc, hm⟩
  ·refine E.cT rfl hc (E.seq (E.reg (L.mv Wt.no rfl rfl (L.as Wt.no rfl rfl (L.nil (X.seqN (E.ret (X.blkR (X.seqR (X.seqR ?_))))))))))
   have hx := ho9 _ (Option.some.inj hm).symm
   exact X.sub (K17 _ _ ⟨s21, st9, hx.symm, m0, rfl, rfl⟩) (Sub.rf rfl)
  ·exact E.cF rfl hc (E.skip (X.blkN (X.seqN (E.reg (L.bi Wt.no rfl rfl rfl rfl (L.mv Wt.no rfl rfl (L.nil (X.sub (ih9 _ (Option.some.inj hm).symm _ _ ⟨s21, m0, h1, hp1, rfl, rfl⟩) (Sub.rf rfl)))))))))
 ·refine E.cF rfl hc (E.exit (X.seqX (X.seqX ?_)))
  have hx := ho9 _ (Option.some.inj hm).symm
  exact X.sub (K14 _ _ ⟨s11, (), hx.symm, m0, rfl, rfl⟩) Sub.nil

theorem cf103 : Cf Try.prog 103 := Cf.mk Try.func103 (by kernel_rfl) (by kernel_rfl)
theorem cf104 : Cf Try.prog 104 := Cf.mk Try.func104 (by kernel_rfl) (by kernel_rfl)
/-- What automaton.next computes. -/
noncomputable def m_automaton_next (p0 : List Int × Int × List Int × (List (Int × Int × Int))) (p1 : Int) (p2 : Int) : Option Int :=
  (m_automaton_out p0 p1).bind fun r10 =>
  (m_slices_IndexFunc_Edge r10 (m_automaton_next_1 p2)).bind fun r16 =>
  if decide (r16 < 0) then
    some (-1)
  else
    (idx r10 r16).bind fun x19 =>
    some x19.2.2
set_option maxRecDepth 100000 in
set_option maxHeartbeats 8000000 in
theorem m_automaton_next_c {s : Sig} {p0 : List Int × Int × List Int × (List (Int × Int × Int))} {p1 : Int} {p2 : Int} {a1 : Option Addr} {c1 : Nat} {a2 : Option Addr} {c2 : Nat} {a3 : Option Addr} {c3 : Nat} {r : Int} (h1 : RdL (rK .i64) s a1 c1 p0.1) (h2 : RdL (rK .i64) s a2 c2 p0.2.2.1) (h3 : RdL (rP (rK .i64) (rP (rK .i64) (rK .i64))) s a3 c3 p0.2.2.2) (hm : m_automaton_next p0 p1 p2 = some r) :
    Calls Try.prog 77 #[.agg #[.slice a1 p0.1.length c1, .int .i64 p0.2.1, .slice a2 p0.2.2.1.length c2, .slice a3 p0.2.2.2.length c3], .int .i64 p1, .int .i64 p2] s.w (RetS No s fun v s' => v = .int .i64 r) := by
 unfold m_automaton_next at hm
 obtain ⟨N, hN, hNb⟩ := s.fresh
 have m0 : Mv (Up N No) s s := Mv.refl _ _
 refine E.entry Try.func77 rfl Try.ntmps77 rfl rfl (E.seq (E.reg (L.box (N + 0) Wt.no rfl rfl rfl fun b4 s5 m6 bx4 => ?_)))
 replace m0 := m0.trans m6.no
 replace h1 := h1.mono (m6.le no_No)
 replace h2 := h2.mono (m6.le no_No)
 replace h3 := h3.mono (m6.le no_No)
 refine L.box (N + 1) Wt.no rfl rfl rfl fun b7 s8 m9 bx7 => ?_
 replace m0 := m0.trans m9.no
 replace bx4 := bx4.mv m9 no_No
 replace h1 := h1.mono (m9.le no_No)
 replace h2 := h2.mono (m9.le no_No)
 replace h3 := h3.mono (m9.le no_No)
 refine L.as Wt.no rfl rfl (L.nil (X.seqN (E.seq (E.reg (L.lg (j := 0) (cs := [.slice a1 p0.1.length c1, .int .i64 p0.2.1, .slice a2 p0.2.2.1.length c2, .slice a3 p0.2.2.2.length c3]) bx4.mem ag26 Wt.no rfl rfl rfl rfl rfl (L.mv Wt.no rfl rfl ?_))))))
 obtain ⟨r10, er10, hm⟩ := bindS hm
 refine L.ca cf76 rfl rfl Wt.no rfl (m_automaton_out_c (s := s8) (p0 := p0) (p1 := p1) h1 h2 h3 er10) rfl ?_
 rintro _ s11 m12 ⟨a13, c13, rfl, h13⟩
 replace m0 := m0.trans m12.no
 replace bx7 := bx7.mv m12 no_No
 refine L.as Wt.no rfl rfl (L.nil (X.seqN (E.seq (E.reg (L.mv Wt.no rfl rfl ?_)))))
 have m14 := Sig.fz_mv (N + 1) s11
 replace bx7 := bx7.fz (tgn hN)
 replace m0 := m0.trans (m14.one up)
 replace h13 := h13.mono (m14.le (tg0 hN))
 refine L.toR (s' := (Sig.fz (N + 1) s11)) rfl ?_
 have h15 : FV1 Try.prog (Sig.fz (N + 1) s11) (.func (.func 104) #[] #[.pointer (some ⟨b7, 0, none⟩)]) (fun (x0 : Int × Int × Int) => [.agg #[.int .i64 x0.1, .int .i64 x0.2.1, .int .i64 x0.2.2]]) (fun (r : Bool) => .bool r) (m_automaton_next_1 p2) := ⟨104, #[], #[.pointer (some ⟨b7, 0, none⟩)], rfl, cf104, fun x0 r hm s' hl => by have hh := m_automaton_next_1_c (s := s') (bx7.le hl) hm; simpa using hh⟩
 refine L.mf Wt.no rfl rfl rfl ?_
 obtain ⟨r16, er16, hm⟩ := bindS hm
 refine L.ca cf103 rfl rfl Wt.no rfl (m_slices_IndexFunc_Edge_c (s := (Sig.fz (N + 1) s11)) (p0 := r10) (p1 := (m_automaton_next_1 p2)) h13 h15 er16) rfl ?_
 rintro _ s17 m18 rfl
 replace m0 := m0.trans m18.no
 replace h13 := h13.mono (m18.le no_No)
 refine L.as Wt.no rfl rfl (L.nil (X.seqN (E.seq (E.seq (E.reg (L.mv Wt.no rfl rfl (L.bi Wt.no rfl rfl rfl rfl (L.nil (X.seqN ?_)))))))))
 rcases ifS hm with ⟨hc, hm⟩ | ⟨hc, hm⟩
 ·refine E.cT rfl hc (E.seq (E.reg (L.as Wt.no rfl rfl (L.nil (X.seqN (E.ret (X.seqR ?_)))))))
  obtain rfl := Option.some.inj hm
  exact X.rt (.inl rfl) Try.results77 (Rs.tmp rfl Rs.nil) rfl ⟨_, (s17).ren N (fun _ => 0), rfl, rfl, m0.ren hNb, rfl⟩
 ·refine E.cF rfl hc (E.skip (X.seqN (E.seq (E.reg (L.mv Wt.no rfl rfl (L.mv Wt.no rfl rfl ?_))))))
  obtain ⟨x19, ex19, hm⟩ := bindS hm
  refine L.ix (r := (rP (rK .i64) (rP (rK .i64) (rK .i64)))) sl24 h13 Wt.no rfl rfl ex19 rfl fun b20 o20 cc20 me20 rd20 => ?_
  obtain ⟨_, _, rfl, rfl, ⟨_, _, rfl, rfl, rfl⟩⟩ := rd20
  refine L.fa fa28_2 Wt.no rfl rfl (L.ld (j := 2) me20 nag3 Wt.no rfl rfl rfl rfl (L.as Wt.no rfl rfl (L.nil (X.seqN (E.ret ?_)))))
  obtain rfl := Option.some.inj hm
  exact X.rt (.inl rfl) Try.results77 (Rs.tmp rfl Rs.nil) rfl ⟨_, (s17).ren N (fun _ => 0), rfl, rfl, m0.ren hNb, rfl⟩

theorem cf77 : Cf Try.prog 77 := Cf.mk Try.func77 (by kernel_rfl) (by kernel_rfl)
/-- What automaton.Step computes. -/
noncomputable def m_automaton_Step (p0 : List Int × Int × List Int × (List (Int × Int × Int))) (p1 : Int) (p2 : Int) : Option (Int × Bool × Int) :=
  (m_automaton_checkState p0 p1).bind fun r7 =>
  if (r7 != 0) then
    some (0, false, r7)
  else
    (m_slices_Contains_int p0.1 p2).bind fun r10 =>
    if (!r10) then
      some (0, false, 9)
    else
      (m_automaton_next p0 p1 p2).bind fun r13 =>
      if decide (r13 ≥ 0) then
        some (r13, true, 0)
      else
        some (0, false, 0)
set_option maxRecDepth 100000 in
set_option maxHeartbeats 8000000 in
theorem m_automaton_Step_c {s : Sig} {p0 : List Int × Int × List Int × (List (Int × Int × Int))} {p1 : Int} {p2 : Int} {a1 : Option Addr} {c1 : Nat} {a2 : Option Addr} {c2 : Nat} {a3 : Option Addr} {c3 : Nat} {r : Int × Bool × Int} (h1 : RdL (rK .i64) s a1 c1 p0.1) (h2 : RdL (rK .i64) s a2 c2 p0.2.2.1) (h3 : RdL (rP (rK .i64) (rP (rK .i64) (rK .i64))) s a3 c3 p0.2.2.2) (hm : m_automaton_Step p0 p1 p2 = some r) :
    Calls Try.prog 64 #[.agg #[.slice a1 p0.1.length c1, .int .i64 p0.2.1, .slice a2 p0.2.2.1.length c2, .slice a3 p0.2.2.2.length c3], .int .i64 p1, .int .i64 p2] s.w (RetS No s fun v s' => v = .tuple #[.int .i64 r.1, .bool r.2.1, .int .i64 r.2.2]) := by
 unfold m_automaton_Step at hm
 obtain ⟨N, hN, hNb⟩ := s.fresh
 have m0 : Mv (Up N No) s s := Mv.refl _ _
 refine E.entry Try.func64 rfl Try.ntmps64 rfl rfl (E.seq (E.reg (L.box (N + 0) Wt.no rfl rfl rfl fun b4 s5 m6 bx4 => ?_)))
 replace m0 := m0.trans m6.no
 replace h1 := h1.mono (m6.le no_No)
 replace h2 := h2.mono (m6.le no_No)
 replace h3 := h3.mono (m6.le no_No)
 refine L.as Wt.no rfl rfl (L.as Wt.no rfl rfl (L.as Wt.no rfl rfl (L.nil (X.seqN (E.seq (E.seq (E.reg (L.lg (j := 0) (cs := [.slice a1 p0.1.length c1, .int .i64 p0.2.1, .slice a2 p0.2.2.1.length c2, .slice a3 p0.2.2.2.length c3]) bx4.mem ag26 Wt.no rfl rfl rfl rfl rfl (L.mv Wt.no rfl rfl ?_)))))))))
 obtain ⟨r7, er7, hm⟩ := bindS hm
 refine L.ca cf65 rfl rfl Wt.no rfl (m_automaton_checkState_c (s := s5) (p0 := p0) (p1 := p1) h1 h2 h3 er7) rfl ?_
 rintro _ s8 m9 rfl
 replace m0 := m0.trans m9.no
 replace bx4 := bx4.mv m9 no_No
 replace h1 := h1.mono (m9.le no_No)
 replace h2 := h2.mono (m9.le no_No)
 replace h3 := h3.mono (m9.le no_No)
 refine L.as Wt.no rfl rfl (L.nil (X.seqN (E.seq (E.reg (L.mv Wt.no rfl rfl (L.bi Wt.no rfl rfl rfl rfl (L.nil (X.seqN ?_))))))))
 rcases ifS hm with ⟨hc, hm⟩ | ⟨hc, hm⟩
 ·refine E.cT rfl hc (E.seq (E.reg (L.mv Wt.no rfl rfl (L.as Wt.no rfl rfl (L.as Wt.no rfl rfl (L.as Wt.no rfl rfl (L.nil (X.seqN (E.ret (X.seqR ?_))))))))))
  obtain rfl := Option.some.inj hm
  exact X.rt (.inl rfl) Try.results64 (Rs.tmp rfl (Rs.tmp rfl (Rs.tmp rfl Rs.nil))) rfl ⟨_, (s8).ren N (fun _ => 0), rfl, rfl, m0.ren hNb, rfl⟩
 ·refine E.cF rfl hc (E.skip (X.seqN (E.seq (E.seq (E.reg (L.fa fa26_0 Wt.no rfl rfl (L.ld (j := 0) bx4.mem nag23 Wt.no rfl rfl rfl rfl (L.mv Wt.no rfl rfl ?_))))))))
  obtain ⟨r10, er10, hm⟩ := bindS hm
  refine L.ca cf23 rfl rfl Wt.no rfl (m_slices_Contains_int_c (s := s8) (p0 := p0.1) (p1 := p2) h1 er10) rfl ?_
  rintro _ s11 m12 rfl
  replace m0 := m0.trans m12.no
  replace bx4 := bx4.mv m12 no_No
  replace h1 := h1.mono (m12.le no_No)
  replace h2 := h2.mono (m12.le no_No)
  replace h3 := h3.mono (m12.le no_No)
  refine L.not Wt.no rfl rfl (L.nil (X.seqN ?_))
  rcases ifS hm with ⟨hc, hm⟩ | ⟨hc, hm⟩
  ·refine E.cT rfl hc (E.seq (E.reg (L.as Wt.no rfl rfl (L.as Wt.no rfl rfl (L.as Wt.no rfl rfl (L.nil (X.seqN (E.ret (X.seqR ?_)))))))))
   obtain rfl := Option.some.inj hm
   exact X.rt (.inl rfl) Try.results64 (Rs.tmp rfl (Rs.tmp rfl (Rs.tmp rfl Rs.nil))) rfl ⟨_, (s11).ren N (fun _ => 0), rfl, rfl, m0.ren hNb, rfl⟩
  ·refine E.cF rfl hc (E.skip (X.seqN (E.seq (E.seq (E.reg (L.lg (j := 0) (cs := [.slice a1 p0.1.length c1, .int .i64 p0.2.1, .slice a2 p0.2.2.1.length c2, .slice a3 p0.2.2.2.length c3]) bx4.mem ag26 Wt.no rfl rfl rfl rfl rfl (L.mv Wt.no rfl rfl (L.mv Wt.no rfl rfl ?_))))))))
   obtain ⟨r13, er13, hm⟩ := bindS hm
   refine L.ca cf77 rfl rfl Wt.no rfl (m_automaton_next_c (s := s11) (p0 := p0) (p1 := p1) (p2 := p2) h1 h2 h3 er13) rfl ?_
   rintro _ s14 m15 rfl
   replace m0 := m0.trans m15.no
   refine L.as Wt.no rfl rfl (L.nil (X.seqN (E.seq (E.reg (L.mv Wt.no rfl rfl (L.bi Wt.no rfl rfl rfl rfl (L.nil (X.seqN ?_))))))))
   rcases ifS hm with ⟨hc, hm⟩ | ⟨hc, hm⟩
   ·refine E.cT rfl hc (E.seq (E.reg (L.mv Wt.no rfl rfl (L.as Wt.no rfl rfl (L.as Wt.no rfl rfl (L.as Wt.no rfl rfl (L.nil (X.seqN (E.ret (X.seqR ?_))))))))))
    obtain rfl := Option.some.inj hm
    exact X.rt (.inl rfl) Try.results64 (Rs.tmp rfl (Rs.tmp rfl (Rs.tmp rfl Rs.nil))) rfl ⟨_, (s14).ren N (fun _ => 0), rfl, rfl, m0.ren hNb, rfl⟩
   ·refine E.cF rfl hc (E.skip (X.seqN (E.seq (E.reg (L.as Wt.no rfl rfl (L.as Wt.no rfl rfl (L.as Wt.no rfl rfl (L.nil (X.seqN (E.ret ?_))))))))))
    obtain rfl := Option.some.inj hm
    exact X.rt (.inl rfl) Try.results64 (Rs.tmp rfl (Rs.tmp rfl (Rs.tmp rfl Rs.nil))) rfl ⟨_, (s14).ren N (fun _ => 0), rfl, rfl, m0.ren hNb, rfl⟩

theorem cf63 : Cf Try.prog 63 := Cf.mk Try.func63 (by kernel_rfl) (by kernel_rfl)
theorem cf64 : Cf Try.prog 64 := Cf.mk Try.func64 (by kernel_rfl) (by kernel_rfl)
noncomputable def m_generate_Follow_j1 (st31 : Int × Bool × Int) (r39 : Int × Bool × Int) (n42 : Int) : Option ((Int × Bool × Int) ⊕ (Bool × Int)) :=
  some (.inl (W (st31.1 + 1), (st31.2.1 || (!r39.2.1)), n42))
noncomputable def m_generate_Follow_l1 (p0 : List Int × Int × List Int × (List (Int × Int × Int))) (p2 : List Int) (st31 : Int × Bool × Int) : Option ((Int × Bool × Int) ⊕ (Bool × Int)) :=
  if decide (st31.1 < (p2.length : Int)) then
    (idx p2 st31.1).bind fun x37 =>
    (m_automaton_Step p0 st31.2.2 x37).bind fun r39 =>
    if r39.2.1 then
      m_generate_Follow_j1 st31 r39 r39.1
    else
      m_generate_Follow_j1 st31 r39 st31.2.2
  else
    some (.inr st31.2)
/-- What generate.Follow computes. -/
noncomputable def m_generate_Follow (p0 : List Int × Int × List Int × (List (Int × Int × Int))) (p1 : Int) (p2 : List Int) : Option (Int × Bool × Int) :=
  (m_automaton_Enabled p0 p1).bind fun r8 =>
  if (r8.2 != 0) then
    some (0, false, r8.2)
  else
    (m_generate_among p2 p0.1).bind fun r12 =>
    if (r12 != 0) then
      some (0, false, r12)
    else
      (iter (m_generate_Follow_l1 p0 p2) (0, false, p1)).bind fun o31 =>
      some (o31.2, o31.1, 0)
set_option maxRecDepth 100000 in
set_option maxHeartbeats 8000000 in
theorem m_generate_Follow_c {s : Sig} {p0 : List Int × Int × List Int × (List (Int × Int × Int))} {p1 : Int} {p2 : List Int} {a1 : Option Addr} {c1 : Nat} {a2 : Option Addr} {c2 : Nat} {a3 : Option Addr} {c3 : Nat} {a4 : Option Addr} {c4 : Nat} {r : Int × Bool × Int} (h1 : RdL (rK .i64) s a1 c1 p0.1) (h2 : RdL (rK .i64) s a2 c2 p0.2.2.1) (h3 : RdL (rP (rK .i64) (rP (rK .i64) (rK .i64))) s a3 c3 p0.2.2.2) (h4 : RdL (rK .i64) s a4 c4 p2) (hm : m_generate_Follow p0 p1 p2 = some r) :
    Calls Try.prog 34 #[.agg #[.slice a1 p0.1.length c1, .int .i64 p0.2.1, .slice a2 p0.2.2.1.length c2, .slice a3 p0.2.2.2.length c3], .int .i64 p1, .slice a4 p2.length c4] s.w (RetS No s fun v s' => v = .tuple #[.int .i64 r.1, .bool r.2.1, .int .i64 r.2.2]) := by
 unfold m_generate_Follow at hm
 obtain ⟨N, hN, hNb⟩ := s.fresh
 have m0 : Mv (Up N No) s s := Mv.refl _ _
 refine E.entry Try.func34 rfl Try.ntmps34 rfl rfl (E.seq (E.reg (L.box (N + 0) Wt.no rfl rfl rfl fun b5 s6 m7 bx5 => ?_)))
 replace m0 := m0.trans m7.no
 replace h4 := h4.mono (m7.le no_No)
 replace h1 := h1.mono (m7.le no_No)
 replace h2 := h2.mono (m7.le no_No)
 replace h3 := h3.mono (m7.le no_No)
 refine L.as Wt.no rfl rfl (L.as Wt.no rfl rfl (L.as Wt.no rfl rfl (L.nil (X.seqN (E.seq (E.seq (E.reg (L.lg (j := 0) (cs := [.slice a1 p0.1.length c1, .int .i64 p0.2.1, .slice a2 p0.2.2.1.length c2, .slice a3 p0.2.2.2.length c3]) bx5.mem ag26 Wt.no rfl rfl rfl rfl rfl (L.mv Wt.no rfl rfl ?_)))))))))
 obtain ⟨r8, er8, hm⟩ := bindS hm
 refine L.ca cf63 rfl rfl Wt.no rfl (m_automaton_Enabled_c (s := s6) (p0 := p0) (p1 := p1) (u0 := 0) h1 h2 h3 er8) rfl ?_
 rintro _ s9 m10 ⟨a11, c11, rfl, h11⟩
 replace h11 := h11.p
 replace m0 := m0.trans m10.no
 replace h4 := h4.mono (m10.le no_No)
 replace bx5 := bx5.mv m10 no_No
 replace h1 := h1.mono (m10.le no_No)
 replace h2 := h2.mono (m10.le no_No)
 replace h3 := h3.mono (m10.le no_No)
 refine L.mv Wt.no rfl rfl (L.ex Wt.no rfl rfl rfl (L.ex Wt.no rfl rfl rfl (L.as Wt.no rfl rfl (L.as Wt.no rfl rfl (L.nil (X.seqN (E.seq (E.reg (L.mv Wt.no rfl rfl (L.bi Wt.no rfl rfl rfl rfl (L.nil (X.seqN ?_))))))))))))
 rcases ifS hm with ⟨hc, hm⟩ | ⟨hc, hm⟩
 ·refine E.cT rfl hc (E.seq (E.reg (L.mv Wt.no rfl rfl (L.as Wt.no rfl rfl (L.as Wt.no rfl rfl (L.as Wt.no rfl rfl (L.nil (X.seqN (E.ret (X.seqR ?_))))))))))
  obtain rfl := Option.some.inj hm
  exact X.rt (.inl rfl) Try.results34 (Rs.tmp rfl (Rs.tmp rfl (Rs.tmp rfl Rs.nil))) rfl ⟨_, (s9).ren N (fun _ => 0), rfl, rfl, m0.ren hNb, rfl⟩
 ·refine E.cF rfl hc (E.skip (X.seqN (E.seq (E.seq (E.reg (L.mv Wt.no rfl rfl (L.fa fa26_0 Wt.no rfl rfl (L.ld (j := 0) bx5.mem nag23 Wt.no rfl rfl rfl rfl ?_))))))))
  obtain ⟨r12, er12, hm⟩ := bindS hm
  refine L.ca cf51 rfl rfl Wt.no rfl (m_generate_among_c (s := s9) (p0 := p2) (p1 := p0.1) h4 h1 er12) rfl ?_
  rintro _ s13 m14 rfl
  replace m0 := m0.trans m14.no
  replace h4 := h4.mono (m14.le no_No)
  replace bx5 := bx5.mv m14 no_No
  replace h1 := h1.mono (m14.le no_No)
  replace h2 := h2.mono (m14.le no_No)
  replace h3 := h3.mono (m14.le no_No)
  refine L.as Wt.no rfl rfl (L.nil (X.seqN (E.seq (E.reg (L.mv Wt.no rfl rfl (L.bi Wt.no rfl rfl rfl rfl (L.nil (X.seqN ?_))))))))
  rcases ifS hm with ⟨hc, hm⟩ | ⟨hc, hm⟩
  ·refine E.cT rfl hc (E.seq (E.reg (L.mv Wt.no rfl rfl (L.as Wt.no rfl rfl (L.as Wt.no rfl rfl (L.as Wt.no rfl rfl (L.nil (X.seqN (E.ret (X.seqR ?_))))))))))
   obtain rfl := Option.some.inj hm
   exact X.rt (.inl rfl) Try.results34 (Rs.tmp rfl (Rs.tmp rfl (Rs.tmp rfl Rs.nil))) rfl ⟨_, (s13).ren N (fun _ => 0), rfl, rfl, m0.ren hNb, rfl⟩
  ·refine E.cF rfl hc (E.skip (X.seqN (E.seq (E.seq (E.reg (L.mv Wt.no rfl rfl (L.len sl23 Wt.no rfl rfl (L.mv Wt.no rfl rfl (L.nil (X.seqN (E.block ?_)))))))))))
   obtain ⟨o31, eo31, hm⟩ := bindS hm
   refine E.cut (x := .exit 0) (fun e w => ∃ (s35 : Sig), Mv (Up N No) s s35 ∧ e = [(7, .bool o31.1), (1, .int .i64 o31.2)] ∧ w = s35.w) ?_ ?_
   ·rintro _ _ ⟨s35, m0, rfl, rfl⟩
    refine X.blkE (X.seqN (E.seq (E.reg (L.mv Wt.no rfl rfl (L.mv Wt.no rfl rfl (L.as Wt.no rfl rfl (L.as Wt.no rfl rfl (L.as Wt.no rfl rfl (L.nil (X.seqN (E.ret ?_)))))))))))
    obtain rfl := Option.some.inj hm
    exact X.rt (.inl rfl) Try.results34 (Rs.tmp rfl (Rs.tmp rfl (Rs.tmp rfl Rs.nil))) rfl ⟨_, (s35).ren N (fun _ => 0), rfl, rfl, m0.ren hNb, rfl⟩
   intro K36
   refine E.iter (fun (st31 : Int × Bool × Int) (e : List (Nat × Value)) (w : World) => ∃ (s34 : Sig), Mv (Up N No) s s34 ∧ RdL (rK .i64) s34 a4 c4 p2 ∧ RdL (rK .i64) s34 a1 c1 p0.1 ∧ RdL (rK .i64) s34 a2 c2 p0.2.2.1 ∧ RdL (rP (rK .i64) (rP (rK .i64) (rK .i64))) s34 a3 c3 p0.2.2.2 ∧ Bx s34 (N + 0) b5 #[.slice a1 p0.1.length c1, .int .i64 p0.2.1, .slice a2 p0.2.2.1.length c2, .slice a3 p0.2.2.2.length c3] 26 ∧ e = [(35, .int .i64 st31.1), (34, .int .i64 (p2.length : Int)), (33, .slice a4 p2.length c4), (7, .bool st31.2.1), (3, .pointer (some ⟨b5, 0, none⟩)), (1, .int .i64 st31.2.2)] ∧ w = s34.w) eo31 ⟨s13, m0, h4, h1, h2, h3, bx5, rfl, rfl⟩ (Sub.rf rfl) ?_
   rintro st31 res31 hm ih31 ho31 _ _ ⟨s34, m0, h4, h1, h2, h3, bx5, rfl, rfl⟩
   unfold m_generate_Follow_l1 at hm
   refine E.seq (E.reg (L.bi Wt.no rfl rfl rfl rfl (L.nil (X.seqN (E.seq ?_)))))
   rcases ifS hm with ⟨hc, hm⟩ | ⟨hc, hm⟩
   ·refine E.cT rfl hc (E.skip (X.seqN (E.seq (E.block (E.seq (E.reg ?_))))))
    obtain ⟨x37, ex37, hm⟩ := bindS hm
    refine L.ix (r := (rK .i64)) sl23 h4 Wt.no rfl rfl ex37 rfl fun b38 o38 cc38 me38 rd38 => ?_
    obtain rfl := rd38
    refine L.ld (j := 0) me38 nag3 Wt.no rfl rfl rfl rfl (L.as Wt.no rfl rfl (L.nil (X.seqN (E.seq (E.reg (L.lg (j := 0) (cs := [.slice a1 p0.1.length c1, .int .i64 p0.2.1, .slice a2 p0.2.2.1.length c2, .slice a3 p0.2.2.2.length c3]) bx5.mem ag26 Wt.no rfl rfl rfl rfl rfl (L.mv Wt.no rfl rfl (L.mv Wt.no rfl rfl ?_))))))))
    obtain ⟨r39, er39, hm⟩ := bindS hm
    refine L.ca cf64 rfl rfl Wt.no rfl (m_automaton_Step_c (s := s34) (p0 := p0) (p1 := st31.2.2) (p2 := x37) h1 h2 h3 er39) rfl ?_
    rintro _ s40 m41 rfl
    replace m0 := m0.trans m41.no
    replace h4 := h4.mono (m41.le no_No)
    replace bx5 := bx5.mv m41 no_No
    replace h1 := h1.mono (m41.le no_No)
    replace h2 := h2.mono (m41.le no_No)
    replace h3 := h3.mono (m41.le no_No)
    refine L.mv Wt.no rfl rfl (L.ex Wt.no rfl rfl rfl (L.ex Wt.no rfl rfl rfl (L.ex Wt.no rfl rfl rfl (L.as Wt.no rfl rfl (L.as Wt.no rfl rfl (L.as Wt.no rfl rfl (L.nil (X.seqN (E.seqJ (fun e w => ∃ (s43 : Sig) (n42 : Int), m_generate_Follow_j1 st31 r39 n42 = some res31 ∧ Mv (Up N No) s s43 ∧ RdL (rK .i64) s43 a4 c4 p2 ∧ RdL (rK .i64) s43 a1 c1 p0.1 ∧ RdL (rK .i64) s43 a2 c2 p0.2.2.1 ∧ RdL (rP (rK .i64) (rP (rK .i64) (rK .i64))) s43 a3 c3 p0.2.2.2 ∧ Bx s43 (N + 0) b5 #[.slice a1 p0.1.length c1, .int .i64 p0.2.1, .slice a2 p0.2.2.1.length c2, .slice a3 p0.2.2.2.length c3] 26 ∧ e = [(1, .int .i64 n42), (15, .bool r39.2.1), (35, .int .i64 st31.1), (34, .int .i64 (p2.length : Int)), (33, .slice a4 p2.length c4), (7, .bool st31.2.1), (3, .pointer (some ⟨b5, 0, none⟩))] ∧ w = s43.w) ?_ ?_)))))))))
    ·rintro _ _ ⟨s43, n42, hm, m0, h4, h1, h2, h3, bx5, rfl, rfl⟩
     unfold m_generate_Follow_j1 at hm
     refine E.reg (L.mv Wt.no rfl rfl (L.mv Wt.no rfl rfl (L.cut 3 (fun e w => ∃ (v45 : Bool), (st31.2.1 || (!r39.2.1)) = v45 ∧ e = (53, .bool v45) :: [(1, .int .i64 n42), (35, .int .i64 st31.1), (34, .int .i64 (p2.length : Int)), (33, .slice a4 p2.length c4), (3, .pointer (some ⟨b5, 0, none⟩))] ∧ w = s43.w) ?_ ?_)))
     ·rintro _ _ ⟨v45, rfl, rfl, rfl⟩
      exact L.as Wt.no rfl rfl (L.nil (X.blkN (X.seqN (E.reg (L.bi Wt.no rfl rfl rfl rfl (L.mv Wt.no rfl rfl (L.nil (X.sub (ih31 _ (Option.some.inj hm).symm _ _ ⟨s43, m0, h4, h1, h2, h3, bx5, rfl, rfl⟩) (Sub.rf rfl)))))))))
     ·intro J46
      rcases Bool.eq_false_or_eq_true st31.2.1 with hc | hc
      ·exact L.know (d := 50) rfl hc (L.skip rfl rfl rfl rfl (L.skip rfl rfl rfl rfl (L.pkT Wt.no rfl rfl rfl rfl (L.sb (J46 _ _ ⟨true, (orT hc).symm, rfl, rfl⟩) rfl))))
      ·exact L.know (d := 50) rfl hc (L.mv (Wt.mk rfl rfl) rfl rfl (L.not (Wt.mk rfl rfl) rfl rfl (L.pkF Wt.no rfl rfl rfl rfl (L.sb (J46 _ _ ⟨(!r39.2.1), (orF hc).symm, rfl, rfl⟩) rfl))))
    ·intro Jj44
     refine E.seq (E.reg (L.mv Wt.no rfl rfl (L.nil (X.seqN ?_))))
     rcases ifS hm with ⟨hc, hm⟩ | ⟨hc, hm⟩
     ·exact E.cT rfl hc (E.reg (L.mv Wt.no rfl rfl (L.as Wt.no rfl rfl (L.nil (X.sub (Jj44 _ _ ⟨s40, r39.1, hm, m0, h4, h1, h2, h3, bx5, rfl, rfl⟩) (Sub.rf rfl))))))
     ·exact E.cF rfl hc (E.skip (X.sub (Jj44 _ _ ⟨s40, st31.2.2, hm, m0, h4, h1, h2, h3, bx5, rfl, rfl⟩) (Sub.rf rfl)))
   ·refine E.cF rfl hc (E.exit (X.seqX (X.seqX ?_)))
    have hx := ho31 _ (Option.some.inj hm).symm
    subst hx
    exact X.sub (K36 _ _ ⟨s34, m0, rfl, rfl⟩) (Sub.rf rfl)

/-- What overseerlaw53.GenerateRefuses$1 computes. -/
noncomputable def m_overseerlaw53_GenerateRefuses_1 (q0 : List Int × Int × List Int × (List (Int × Int × Int))) (p0 : Int) : Option Bool :=
  (m_slices_Contains_int q0.1 p0).bind fun r5 =>
  some (!r5)
set_option maxRecDepth 100000 in
set_option maxHeartbeats 8000000 in
theorem m_overseerlaw53_GenerateRefuses_1_c {s : Sig} {q0 : List Int × Int × List Int × (List (Int × Int × Int))} {p0 : Int} {a1 : Option Addr} {c1 : Nat} {a2 : Option Addr} {c2 : Nat} {a3 : Option Addr} {c3 : Nat} {b4 : Nat} {r : Bool} (h1 : RdL (rK .i64) s a1 c1 q0.1) (h2 : RdL (rK .i64) s a2 c2 q0.2.2.1) (h3 : RdL (rP (rK .i64) (rP (rK .i64) (rK .i64))) s a3 c3 q0.2.2.2) (bx4 : Bx s 0 b4 #[.slice a1 q0.1.length c1, .int .i64 q0.2.1, .slice a2 q0.2.2.1.length c2, .slice a3 q0.2.2.2.length c3] 26) (hm : m_overseerlaw53_GenerateRefuses_1 q0 p0 = some r) :
    Calls Try.prog 35 #[.int .i64 p0, .pointer (some ⟨b4, 0, none⟩)] s.w (RetS No s fun v s' => v = .bool r) := by
 unfold m_overseerlaw53_GenerateRefuses_1 at hm
 obtain ⟨N, hN, hNb⟩ := s.fresh
 have m0 : Mv (Up N No) s s := Mv.refl _ _
 refine E.entry Try.func35 rfl Try.ntmps35 rfl rfl (E.seq (E.reg (L.as Wt.no rfl rfl (L.nil (X.seqN (E.seq (E.reg (L.fa fa26_0 Wt.no rfl rfl (L.ld (j := 0) bx4.mem nag23 Wt.no rfl rfl rfl rfl (L.mv Wt.no rfl rfl ?_))))))))))
 obtain ⟨r5, er5, hm⟩ := bindS hm
 refine L.ca cf23 rfl rfl Wt.no rfl (m_slices_Contains_int_c (s := s) (p0 := q0.1) (p1 := p0) h1 er5) rfl ?_
 rintro _ s6 m7 rfl
 replace m0 := m0.trans m7.no
 refine L.not Wt.no rfl rfl (L.as Wt.no rfl rfl (L.nil (X.seqN (E.ret ?_))))
 obtain rfl := Option.some.inj hm
 exact X.rt (.inl rfl) Try.results35 (Rs.tmp rfl Rs.nil) rfl ⟨_, (s6).ren N (fun _ => 0), rfl, rfl, m0.ren hNb, rfl⟩

theorem cf32 : Cf Try.prog 32 := Cf.mk Try.func32 (by kernel_rfl) (by kernel_rfl)
theorem cf34 : Cf Try.prog 34 := Cf.mk Try.func34 (by kernel_rfl) (by kernel_rfl)
theorem cf35 : Cf Try.prog 35 := Cf.mk Try.func35 (by kernel_rfl) (by kernel_rfl)
noncomputable def m_overseerlaw53_GenerateRefuses_j4 (p0 : List Int × Int × List Int × (List (Int × Int × Int))) (p1 : List Int) (n34 : Int) : Option Bool :=
  (m_generate_Generate p0 p1).bind fun r37 =>
  some ((r37.2 == n34) && ((n34 == 0) || ((W ((W (r37.1.2.2.2 + (r37.1.1.2.2.2.2.length : Int))) + (r37.1.2.1.length : Int))) == 0)))
noncomputable def m_overseerlaw53_GenerateRefuses_j3 (p0 : List Int × Int × List Int × (List (Int × Int × Int))) (p1 : List Int) (n31 : Int) : Option Bool :=
  if ((n31 == 0) && (decide (p0.2.1 > 64))) then
    m_overseerlaw53_GenerateRefuses_j4 p0 p1 3
  else
    m_overseerlaw53_GenerateRefuses_j4 p0 p1 n31
noncomputable def m_overseerlaw53_GenerateRefuses_j2 (p0 : List Int × Int × List Int × (List (Int × Int × Int))) (p1 : List Int) (n28 : Int) : Option Bool :=
  if ((n28 == 0) && (p0.2.1 == 0)) then
    m_overseerlaw53_GenerateRefuses_j3 p0 p1 21
  else
    m_overseerlaw53_GenerateRefuses_j3 p0 p1 n28
noncomputable def m_overseerlaw53_GenerateRefuses_j1 (p0 : List Int × Int × List Int × (List (Int × Int × Int))) (p1 : List Int) (n25 : Int) : Option Bool :=
  (if (n25 == 0) then
    (m_slices_ContainsFunc_int p1 (m_overseerlaw53_GenerateRefuses_1 p0)).bind fun r63 =>
    some r63
  else
    some false).bind fun b57 =>
  if b57 then
    m_overseerlaw53_GenerateRefuses_j2 p0 p1 9
  else
    m_overseerlaw53_GenerateRefuses_j2 p0 p1 n25
/-- What overseerlaw53.GenerateRefuses computes. -/
noncomputable def m_overseerlaw53_GenerateRefuses (p0 : List Int × Int × List Int × (List (Int × Int × Int))) (p1 : List Int) : Option Bool :=
  (m_overseerlaw53_known).bind fun r8 =>
  (if (!r8) then
    some true
  else
    (m_overseerlaw53_few p0).bind fun r77 =>
    some (!r77)).bind fun b11 =>
  if (b11 || (decide ((p1.length : Int) > 8))) then
    (m_overseerlaw53_known).bind fun r15 =>
    some r15
  else
    (m_automaton_Check p0).bind fun r18 =>
    (m_generate_Follow p0 0 ([] : List Int)).bind fun r21 =>
    if ((r18 != 0) && (((r21.2.2 != r18) || (r21.1 != 0)) || r21.2.1)) then
      some false
    else
      if (r18 == 0) then
        (m_alphabet_CheckSet p1 32).bind fun r67 =>
        m_overseerlaw53_GenerateRefuses_j1 p0 p1 r67
      else
        m_overseerlaw53_GenerateRefuses_j1 p0 p1 r18
set_option maxRecDepth 100000 in
set_option maxHeartbeats 8000000 in
theorem m_overseerlaw53_GenerateRefuses_c {s : Sig} {p0 : List Int × Int × List Int × (List (Int × Int × Int))} {p1 : List Int} {a1 : Option Addr} {c1 : Nat} {a2 : Option Addr} {c2 : Nat} {a3 : Option Addr} {c3 : Nat} {a4 : Option Addr} {c4 : Nat} {r : Bool} (h1 : RdL (rK .i64) s a1 c1 p0.1) (h2 : RdL (rK .i64) s a2 c2 p0.2.2.1) (h3 : RdL (rP (rK .i64) (rP (rK .i64) (rK .i64))) s a3 c3 p0.2.2.2) (h4 : RdL (rK .i64) s a4 c4 p1) (hm : m_overseerlaw53_GenerateRefuses p0 p1 = some r) :
    Calls Try.prog 8 #[.agg #[.slice a1 p0.1.length c1, .int .i64 p0.2.1, .slice a2 p0.2.2.1.length c2, .slice a3 p0.2.2.2.length c3], .slice a4 p1.length c4] s.w (RetS No s fun v s' => v = .bool r) := by
 unfold m_overseerlaw53_GenerateRefuses at hm
 obtain ⟨N, hN, hNb⟩ := s.fresh
 have m0 : Mv (Up N No) s s := Mv.refl _ _
 refine E.entry Try.func8 rfl Try.ntmps8 rfl rfl (E.seq (E.reg (L.box (N + 0) Wt.no rfl rfl rfl fun b5 s6 m7 bx5 => ?_)))
 replace m0 := m0.trans m7.no
 replace h4 := h4.mono (m7.le no_No)
 replace h1 := h1.mono (m7.le no_No)
 replace h2 := h2.mono (m7.le no_No)
 replace h3 := h3.mono (m7.le no_No)
 refine L.as Wt.no rfl rfl (L.nil (X.seqN (E.seq (E.seq (E.reg ?_)))))
 obtain ⟨r8, er8, hm⟩ := bindS hm
 refine L.ca cf11 rfl rfl Wt.no rfl (m_overseerlaw53_known_c (s := s6) er8) rfl ?_
 rintro _ s9 m10 rfl
 replace m0 := m0.trans m10.no
 replace h4 := h4.mono (m10.le no_No)
 replace bx5 := bx5.mv m10 no_No
 replace h1 := h1.mono (m10.le no_No)
 replace h2 := h2.mono (m10.le no_No)
 replace h3 := h3.mono (m10.le no_No)
 refine L.not Wt.no rfl rfl (L.mv Wt.no rfl rfl ?_)
 obtain ⟨b11, eb11, hm⟩ := bindS hm
 refine L.cut 4 (fun e w => ∃ (s13 : Sig) (v12 : Bool), b11 = v12 ∧ Mv (Up N No) s s13 ∧ RdL (rK .i64) s13 a4 c4 p1 ∧ RdL (rK .i64) s13 a1 c1 p0.1 ∧ RdL (rK .i64) s13 a2 c2 p0.2.2.1 ∧ RdL (rP (rK .i64) (rP (rK .i64) (rK .i64))) s13 a3 c3 p0.2.2.2 ∧ Bx s13 (N + 0) b5 #[.slice a1 p0.1.length c1, .int .i64 p0.2.1, .slice a2 p0.2.2.1.length c2, .slice a3 p0.2.2.2.length c3] 26 ∧ e = (17, .bool v12) :: [(2, .pointer (some ⟨b5, 0, none⟩)), (1, .slice a4 p1.length c4)] ∧ w = s13.w) ?_ ?_
 ·rintro _ _ ⟨s13, v12, rfl, m0, h4, h1, h2, h3, bx5, rfl, rfl⟩
  refine L.mv Wt.no rfl rfl (L.cut 4 (fun e w => ∃ (v14 : Bool), (b11 || (decide ((p1.length : Int) > 8))) = v14 ∧ e = (22, .bool v14) :: [(2, .pointer (some ⟨b5, 0, none⟩)), (1, .slice a4 p1.length c4)] ∧ w = s13.w) ?_ ?_)
  ·rintro _ _ ⟨v14, rfl, rfl, rfl⟩
   refine L.nil (X.seqN ?_)
   rcases ifS hm with ⟨hc, hm⟩ | ⟨hc, hm⟩
   ·refine E.cT rfl hc (E.seq (E.reg ?_))
    obtain ⟨r15, er15, hm⟩ := bindS hm
    refine L.ca cf11 rfl rfl Wt.no rfl (m_overseerlaw53_known_c (s := s13) er15) rfl ?_
    rintro _ s16 m17 rfl
    replace m0 := m0.trans m17.no
    refine L.as Wt.no rfl rfl (L.nil (X.seqN (E.ret (X.seqR ?_))))
    obtain rfl := Option.some.inj hm
    exact X.rt (.inl rfl) Try.results8 (Rs.tmp rfl Rs.nil) rfl ⟨_, (s16).ren N (fun _ => 0), rfl, rfl, m0.ren hNb, rfl⟩
   ·refine E.cF rfl hc (E.skip (X.seqN (E.seq (E.reg (L.lg (j := 0) (cs := [.slice a1 p0.1.length c1, .int .i64 p0.2.1, .slice a2 p0.2.2.1.length c2, .slice a3 p0.2.2.2.length c3]) bx5.mem ag26 Wt.no rfl rfl rfl rfl rfl ?_)))))
    obtain ⟨r18, er18, hm⟩ := bindS hm
    refine L.ca cf33 rfl rfl Wt.no rfl (m_automaton_Check_c (s := s13) (p0 := p0) h1 h2 h3 er18) rfl ?_
    rintro _ s19 m20 rfl
    replace m0 := m0.trans m20.no
    replace h4 := h4.mono (m20.le no_No)
    replace bx5 := bx5.mv m20 no_No
    replace h1 := h1.mono (m20.le no_No)
    replace h2 := h2.mono (m20.le no_No)
    replace h3 := h3.mono (m20.le no_No)
    refine L.as Wt.no rfl rfl (L.nil (X.seqN (E.seq (E.reg (L.lg (j := 0) (cs := [.slice a1 p0.1.length c1, .int .i64 p0.2.1, .slice a2 p0.2.2.1.length c2, .slice a3 p0.2.2.2.length c3]) bx5.mem ag26 Wt.no rfl rfl rfl rfl rfl ?_)))))
    obtain ⟨r21, er21, hm⟩ := bindS hm
    refine L.ca cf34 rfl rfl Wt.no rfl (m_generate_Follow_c (s := s19) (p0 := p0) (p1 := 0) (p2 := ([] : List Int)) h1 h2 h3 RdL.nil er21) rfl ?_
    rintro _ s22 m23 rfl
    replace m0 := m0.trans m23.no
    replace h4 := h4.mono (m23.le no_No)
    replace bx5 := bx5.mv m23 no_No
    replace h1 := h1.mono (m23.le no_No)
    replace h2 := h2.mono (m23.le no_No)
    replace h3 := h3.mono (m23.le no_No)
    refine L.mv Wt.no rfl rfl (L.ex Wt.no rfl rfl rfl (L.ex Wt.no rfl rfl rfl (L.ex Wt.no rfl rfl rfl (L.as Wt.no rfl rfl (L.as Wt.no rfl rfl (L.as Wt.no rfl rfl (L.nil (X.seqN (E.seq (E.seq (E.reg (L.mv Wt.no rfl rfl (L.bi Wt.no rfl rfl rfl rfl (L.mv Wt.no rfl rfl (L.cut 11 (fun e w => ∃ (v24 : Bool), ((r18 != 0) && (((r21.2.2 != r18) || (r21.1 != 0)) || r21.2.1)) = v24 ∧ e = (45, .bool v24) :: [(5, .int .i64 r18), (2, .pointer (some ⟨b5, 0, none⟩)), (1, .slice a4 p1.length c4)] ∧ w = s22.w) ?_ ?_)))))))))))))))
    ·rintro _ _ ⟨v24, rfl, rfl, rfl⟩
     refine L.nil (X.seqN ?_)
     rcases ifS hm with ⟨hc, hm⟩ | ⟨hc, hm⟩
     ·refine E.cT rfl hc (E.seq (E.reg (L.as Wt.no rfl rfl (L.nil (X.seqN (E.ret (X.seqR ?_)))))))
      obtain rfl := Option.some.inj hm
      exact X.rt (.inl rfl) Try.results8 (Rs.tmp rfl Rs.nil) rfl ⟨_, (s22).ren N (fun _ => 0), rfl, rfl, m0.ren hNb, rfl⟩
     ·refine E.cF rfl hc (E.skip (X.seqN (E.seqJ (fun e w => ∃ (s26 : Sig) (n25 : Int), m_overseerlaw53_GenerateRefuses_j1 p0 p1 n25 = some r ∧ Mv (Up N No) s s26 ∧ RdL (rK .i64) s26 a4 c4 p1 ∧ RdL (rK .i64) s26 a1 c1 p0.1 ∧ RdL (rK .i64) s26 a2 c2 p0.2.2.1 ∧ RdL (rP (rK .i64) (rP (rK .i64) (rK .i64))) s26 a3 c3 p0.2.2.2 ∧ Bx s26 (N + 0) b5 #[.slice a1 p0.1.length c1, .int .i64 p0.2.1, .slice a2 p0.2.2.1.length c2, .slice a3 p0.2.2.2.length c3] 26 ∧ e = [(5, .int .i64 n25), (2, .pointer (some ⟨b5, 0, none⟩)), (1, .slice a4 p1.length c4)] ∧ w = s26.w) ?_ ?_)))
      ·rintro _ _ ⟨s26, n25, hm, m0, h4, h1, h2, h3, bx5, rfl, rfl⟩
       unfold m_overseerlaw53_GenerateRefuses_j1 at hm
       refine E.seqJ (fun e w => ∃ (s29 : Sig) (n28 : Int), m_overseerlaw53_GenerateRefuses_j2 p0 p1 n28 = some r ∧ Mv (Up N No) s s29 ∧ RdL (rK .i64) s29 a4 c4 p1 ∧ RdL (rK .i64) s29 a1 c1 p0.1 ∧ RdL (rK .i64) s29 a2 c2 p0.2.2.1 ∧ RdL (rP (rK .i64) (rP (rK .i64) (rK .i64))) s29 a3 c3 p0.2.2.2 ∧ Bx s29 0 b5 #[.slice a1 p0.1.length c1, .int .i64 p0.2.1, .slice a2 p0.2.2.1.length c2, .slice a3 p0.2.2.2.length c3] 26 ∧ e = [(5, .int .i64 n28), (2, .pointer (some ⟨b5, 0, none⟩)), (1, .slice a4 p1.length c4)] ∧ w = s29.w) ?_ ?_
       ·rintro _ _ ⟨s29, n28, hm, m0, h4, h1, h2, h3, bx5, rfl, rfl⟩
        unfold m_overseerlaw53_GenerateRefuses_j2 at hm
        refine E.seqJ (fun e w => ∃ (s32 : Sig) (n31 : Int), m_overseerlaw53_GenerateRefuses_j3 p0 p1 n31 = some r ∧ Mv (Up N No) s s32 ∧ RdL (rK .i64) s32 a4 c4 p1 ∧ RdL (rK .i64) s32 a1 c1 p0.1 ∧ RdL (rK .i64) s32 a2 c2 p0.2.2.1 ∧ RdL (rP (rK .i64) (rP (rK .i64) (rK .i64))) s32 a3 c3 p0.2.2.2 ∧ Bx s32 0 b5 #[.slice a1 p0.1.length c1, .int .i64 p0.2.1, .slice a2 p0.2.2.1.length c2, .slice a3 p0.2.2.2.length c3] 26 ∧ e = [(5, .int .i64 n31), (2, .pointer (some ⟨b5, 0, none⟩)), (1, .slice a4 p1.length c4)] ∧ w = s32.w) ?_ ?_
        ·rintro _ _ ⟨s32, n31, hm, m0, h4, h1, h2, h3, bx5, rfl, rfl⟩
         unfold m_overseerlaw53_GenerateRefuses_j3 at hm
         refine E.seqJ (fun e w => ∃ (s35 : Sig) (n34 : Int), m_overseerlaw53_GenerateRefuses_j4 p0 p1 n34 = some r ∧ Mv (Up N No) s s35 ∧ RdL (rK .i64) s35 a4 c4 p1 ∧ RdL (rK .i64) s35 a1 c1 p0.1 ∧ RdL (rK .i64) s35 a2 c2 p0.2.2.1 ∧ RdL (rP (rK .i64) (rP (rK .i64) (rK .i64))) s35 a3 c3 p0.2.2.2 ∧ Bx s35 0 b5 #[.slice a1 p0.1.length c1, .int .i64 p0.2.1, .slice a2 p0.2.2.1.length c2, .slice a3 p0.2.2.2.length c3] 26 ∧ e = [(5, .int .i64 n34), (2, .pointer (some ⟨b5, 0, none⟩)), (1, .slice a4 p1.length c4)] ∧ w = s35.w) ?_ ?_
         ·rintro _ _ ⟨s35, n34, hm, m0, h4, h1, h2, h3, bx5, rfl, rfl⟩
          unfold m_overseerlaw53_GenerateRefuses_j4 at hm
          refine E.seq (E.reg (L.lg (j := 0) (cs := [.slice a1 p0.1.length c1, .int .i64 p0.2.1, .slice a2 p0.2.2.1.length c2, .slice a3 p0.2.2.2.length c3]) bx5.mem ag26 Wt.no rfl rfl rfl rfl rfl (L.mv Wt.no rfl rfl ?_)))
          obtain ⟨r37, er37, hm⟩ := bindS hm
          refine L.ca cf12 rfl rfl Wt.no rfl (m_generate_Generate_c (s := s35) (p0 := p0) (p1 := p1) (u0 := 0) (u1 := 0) (u2 := 0) (u3 := 0) h1 h2 h3 h4 er37) rfl ?_
          rintro _ s38 m39 ⟨a40, c40, a41, c41, a42, c42, a43, c43, rfl, h40, h41, h42, h43⟩
          replace h40 := h40.p
          replace h41 := h41.p
          replace h42 := h42.p
          replace h43 := h43.p
          replace m0 := m0.trans m39.no
          refine L.mv Wt.no rfl rfl (L.ex Wt.no rfl rfl rfl (L.ex Wt.no rfl rfl rfl (L.al (N + 1) zz34 rfl Wt.no rfl fun b44 s45 m46 bx44 => ?_)))
          replace m0 := m0.trans m46.no
          refine L.st (c := [.int .i64 r37.1.1.1, .int .i64 r37.1.1.2.1, .int .i64 r37.1.1.2.2.1, .slice a40 r37.1.1.2.2.2.1.length c40, .slice a41 r37.1.1.2.2.2.2.length c41, .slice a42 r37.1.2.1.length c42, .slice a43 r37.1.2.2.1.length c43, .int .i64 r37.1.2.2.2]) (cs' := #[.int .i64 r37.1.1.1, .int .i64 r37.1.1.2.1, .int .i64 r37.1.1.2.2.1, .slice a40 r37.1.1.2.2.2.1.length c40, .slice a41 r37.1.1.2.2.2.2.length c41, .slice a42 r37.1.2.1.length c42, .slice a43 r37.1.2.2.1.length c43, .int .i64 r37.1.2.2.2]) bx44 ag34.sz Wt.no rfl rfl rfl rfl rfl (Nat.le_of_ble_eq_true rfl) rfl fun s47 m48 bx44 => ?_
          replace m0 := m0.trans (m48.one up)
          refine L.as Wt.no rfl rfl (L.nil (X.seqN (E.seq (E.reg (L.mv Wt.no rfl rfl (L.mv Wt.no rfl rfl (L.bi Wt.no rfl rfl rfl rfl (L.mv Wt.no rfl rfl (L.cut 17 (fun e w => ∃ (v49 : Bool), ((r37.2 == n34) && ((n34 == 0) || ((W ((W (r37.1.2.2.2 + (r37.1.1.2.2.2.2.length : Int))) + (r37.1.2.1.length : Int))) == 0))) = v49 ∧ e = (97, .bool v49) :: [] ∧ w = s47.w) ?_ ?_)))))))))
          ·rintro _ _ ⟨v49, rfl, rfl, rfl⟩
           refine L.as Wt.no rfl rfl (L.nil (X.seqN (E.ret ?_)))
           obtain rfl := Option.some.inj hm
           exact X.rt (.inl rfl) Try.results8 (Rs.tmp rfl Rs.nil) rfl ⟨_, (s47).ren N (fun _ => 0), rfl, rfl, m0.ren hNb, rfl⟩
          ·intro J50
           rcases Bool.eq_false_or_eq_true (r37.2 == n34) with hc | hc
           ·refine L.know (d := 80) rfl hc (L.mv (Wt.mk rfl rfl) rfl rfl (L.bi (Wt.mk rfl rfl) rfl rfl rfl rfl (L.mv (Wt.mk rfl rfl) rfl rfl (L.cut 13 (fun e w => ∃ (v51 : Bool), ((n34 == 0) || ((W ((W (r37.1.2.2.2 + (r37.1.1.2.2.2.2.length : Int))) + (r37.1.2.1.length : Int))) == 0)) = v51 ∧ e = (96, .bool v51) :: [(80, .bool true)] ∧ w = s47.w) ?_ ?_))))
            ·rintro _ _ ⟨v51, rfl, rfl, rfl⟩
             exact L.pkT Wt.no rfl rfl rfl rfl (L.sb (J50 _ _ ⟨((n34 == 0) || ((W ((W (r37.1.2.2.2 + (r37.1.1.2.2.2.2.length : Int))) + (r37.1.2.1.length : Int))) == 0)), (andT hc).symm, rfl, rfl⟩) rfl)
            ·intro J52
             rcases Bool.eq_false_or_eq_true (n34 == 0) with hc | hc
             ·exact L.know (d := 83) rfl hc (L.skip rfl rfl rfl rfl (L.skip rfl rfl rfl rfl (L.skip rfl rfl rfl rfl (L.skip rfl rfl rfl rfl (L.skip rfl rfl rfl rfl (L.skip rfl rfl rfl rfl (L.skip rfl rfl rfl rfl (L.skip rfl rfl rfl rfl (L.skip rfl rfl rfl rfl (L.skip rfl rfl rfl rfl (L.skip rfl rfl rfl rfl (L.skip rfl rfl rfl rfl (L.pkT (Wt.mk rfl rfl) rfl rfl rfl rfl (L.sb (J52 _ _ ⟨true, (orT hc).symm, rfl, rfl⟩) rfl))))))))))))))
             ·exact L.know (d := 83) rfl hc (L.fa fa34_3 (Wt.mk rfl rfl) rfl rfl (L.ld (j := 7) bx44.mem nag3 (Wt.mk rfl rfl) rfl rfl rfl rfl (L.fa fa34_0 (Wt.mk rfl rfl) rfl rfl (L.fa fa32_4 (Wt.mk rfl rfl) rfl rfl (L.ld (j := 4) bx44.mem nag30 (Wt.mk rfl rfl) rfl rfl rfl rfl (L.len sl30 (Wt.mk rfl rfl) rfl rfl (L.bi (Wt.mk rfl rfl) rfl rfl rfl rfl (L.fa fa34_1 (Wt.mk rfl rfl) rfl rfl (L.ld (j := 5) bx44.mem nag23 (Wt.mk rfl rfl) rfl rfl rfl rfl (L.len sl23 (Wt.mk rfl rfl) rfl rfl (L.bi (Wt.mk rfl rfl) rfl rfl rfl rfl (L.bi (Wt.mk rfl rfl) rfl rfl rfl rfl (L.pkF (Wt.mk rfl rfl) rfl rfl rfl rfl (L.sb (J52 _ _ ⟨((W ((W (r37.1.2.2.2 + (r37.1.1.2.2.2.2.length : Int))) + (r37.1.2.1.length : Int))) == 0), (orF hc).symm, rfl, rfl⟩) rfl))))))))))))))
           ·exact L.know (d := 80) rfl hc (L.skip rfl rfl rfl rfl (L.skip rfl rfl rfl rfl (L.skip rfl rfl rfl rfl (L.skipU rfl rfl rfl (L.skipU rfl rfl rfl (L.skipU rfl rfl rfl (L.skipU rfl rfl rfl (L.skipU rfl rfl rfl (L.skipU rfl rfl rfl (L.skipU rfl rfl rfl (L.skipU rfl rfl rfl (L.skipU rfl rfl rfl (L.skipU rfl rfl rfl (L.skipU rfl rfl rfl (L.skipU rfl rfl rfl (L.skip rfl rfl rfl rfl (L.pkF Wt.no rfl rfl rfl rfl (L.sb (J50 _ _ ⟨false, (andF hc).symm, rfl, rfl⟩) rfl))))))))))))))))))
         ·intro Jj36
          refine E.seq (E.reg (L.mv Wt.no rfl rfl (L.bi Wt.no rfl rfl rfl rfl (L.mv Wt.no rfl rfl (L.cut 4 (fun e w => ∃ (v53 : Bool), ((n31 == 0) && (decide (p0.2.1 > 64))) = v53 ∧ e = (70, .bool v53) :: [(5, .int .i64 n31), (2, .pointer (some ⟨b5, 0, none⟩)), (1, .slice a4 p1.length c4)] ∧ w = s32.w) ?_ ?_)))))
          ·rintro _ _ ⟨v53, rfl, rfl, rfl⟩
           refine L.nil (X.seqN ?_)
           rcases ifS hm with ⟨hc, hm⟩ | ⟨hc, hm⟩
           ·exact E.cT rfl hc (E.reg (L.as Wt.no rfl rfl (L.nil (X.sub (Jj36 _ _ ⟨s32, 3, hm, m0, h4, h1, h2, h3, bx5, rfl, rfl⟩) (Sub.rf rfl)))))
           ·exact E.cF rfl hc (E.skip (X.sub (Jj36 _ _ ⟨s32, n31, hm, m0, h4, h1, h2, h3, bx5, rfl, rfl⟩) (Sub.rf rfl)))
          ·intro J54
           rcases Bool.eq_false_or_eq_true (n31 == 0) with hc | hc
           ·exact L.know (d := 66) rfl hc (L.fa fa26_1 (Wt.mk rfl rfl) rfl rfl (L.ld (j := 1) bx5.mem nag3 (Wt.mk rfl rfl) rfl rfl rfl rfl (L.bi (Wt.mk rfl rfl) rfl rfl rfl rfl (L.pkT Wt.no rfl rfl rfl rfl (L.sb (J54 _ _ ⟨(decide (p0.2.1 > 64)), (andT hc).symm, rfl, rfl⟩) rfl)))))
           ·exact L.know (d := 66) rfl hc (L.skip rfl rfl rfl rfl (L.skip rfl rfl rfl rfl (L.skip rfl rfl rfl rfl (L.pkF Wt.no rfl rfl rfl rfl (L.sb (J54 _ _ ⟨false, (andF hc).symm, rfl, rfl⟩) rfl)))))
        ·intro Jj33
         refine E.seq (E.reg (L.mv Wt.no rfl rfl (L.bi Wt.no rfl rfl rfl rfl (L.mv Wt.no rfl rfl (L.cut 4 (fun e w => ∃ (v55 : Bool), ((n28 == 0) && (p0.2.1 == 0)) = v55 ∧ e = (63, .bool v55) :: [(5, .int .i64 n28), (2, .pointer (some ⟨b5, 0, none⟩)), (1, .slice a4 p1.length c4)] ∧ w = s29.w) ?_ ?_)))))
         ·rintro _ _ ⟨v55, rfl, rfl, rfl⟩
          refine L.nil (X.seqN ?_)
          rcases ifS hm with ⟨hc, hm⟩ | ⟨hc, hm⟩
          ·exact E.cT rfl hc (E.reg (L.as Wt.no rfl rfl (L.nil (X.sub (Jj33 _ _ ⟨s29, 21, hm, m0, h4, h1, h2, h3, bx5, rfl, rfl⟩) (Sub.rf rfl)))))
          ·exact E.cF rfl hc (E.skip (X.sub (Jj33 _ _ ⟨s29, n28, hm, m0, h4, h1, h2, h3, bx5, rfl, rfl⟩) (Sub.rf rfl)))
         ·intro J56
          rcases Bool.eq_false_or_eq_true (n28 == 0) with hc | hc
          ·exact L.know (d := 59) rfl hc (L.fa fa26_1 (Wt.mk rfl rfl) rfl rfl (L.ld (j := 1) bx5.mem nag3 (Wt.mk rfl rfl) rfl rfl rfl rfl (L.bi (Wt.mk rfl rfl) rfl rfl rfl rfl (L.pkT Wt.no rfl rfl rfl rfl (L.sb (J56 _ _ ⟨(p0.2.1 == 0), (andT hc).symm, rfl, rfl⟩) rfl)))))
          ·exact L.know (d := 59) rfl hc (L.skip rfl rfl rfl rfl (L.skip rfl rfl rfl rfl (L.skip rfl rfl rfl rfl (L.pkF Wt.no rfl rfl rfl rfl (L.sb (J56 _ _ ⟨false, (andF hc).symm, rfl, rfl⟩) rfl)))))
       ·intro Jj30
        refine E.seq (E.reg (L.mv Wt.no rfl rfl (L.bi Wt.no rfl rfl rfl rfl (L.mv Wt.no rfl rfl ?_))))
        obtain ⟨b57, eb57, hm⟩ := bindS hm
        refine L.cut 4 (fun e w => ∃ (s59 : Sig) (v58 : Bool), b57 = v58 ∧ Mv (Up N No) s s59 ∧ RdL (rK .i64) s59 a4 c4 p1 ∧ RdL (rK .i64) s59 a1 c1 p0.1 ∧ RdL (rK .i64) s59 a2 c2 p0.2.2.1 ∧ RdL (rP (rK .i64) (rP (rK .i64) (rK .i64))) s59 a3 c3 p0.2.2.2 ∧ Bx s59 0 b5 #[.slice a1 p0.1.length c1, .int .i64 p0.2.1, .slice a2 p0.2.2.1.length c2, .slice a3 p0.2.2.2.length c3] 26 ∧ e = (56, .bool v58) :: [(5, .int .i64 n25), (2, .pointer (some ⟨b5, 0, none⟩)), (1, .slice a4 p1.length c4)] ∧ w = s59.w) ?_ ?_
        ·rintro _ _ ⟨s59, v58, rfl, m0, h4, h1, h2, h3, bx5, rfl, rfl⟩
         refine L.nil (X.seqN ?_)
         rcases ifS hm with ⟨hc, hm⟩ | ⟨hc, hm⟩
         ·exact E.cT rfl hc (E.reg (L.as Wt.no rfl rfl (L.nil (X.sub (Jj30 _ _ ⟨s59, 9, hm, m0, h4, h1, h2, h3, bx5, rfl, rfl⟩) (Sub.rf rfl)))))
         ·exact E.cF rfl hc (E.skip (X.sub (Jj30 _ _ ⟨s59, n25, hm, m0, h4, h1, h2, h3, bx5, rfl, rfl⟩) (Sub.rf rfl)))
        ·intro J60
         rcases ifS eb57 with ⟨hc, hm⟩ | ⟨hc, hm⟩
         ·refine L.know (d := 52) rfl hc (L.mv (Wt.mk rfl rfl) rfl rfl ?_)
          have m61 := Sig.fz_mv (N + 0) s26
          replace bx5 := bx5.fz (tgn hN)
          replace m0 := m0.trans (m61.one up)
          replace h4 := h4.mono (m61.le (tg0 hN))
          replace h1 := h1.mono (m61.le (tg0 hN))
          replace h2 := h2.mono (m61.le (tg0 hN))
          replace h3 := h3.mono (m61.le (tg0 hN))
          refine L.toR (s' := (Sig.fz (N + 0) s26)) rfl ?_
          have h62 : FV1 Try.prog (Sig.fz (N + 0) s26) (.func (.func 35) #[] #[.pointer (some ⟨b5, 0, none⟩)]) (fun (x0 : Int) => [.int .i64 x0]) (fun (r : Bool) => .bool r) (m_overseerlaw53_GenerateRefuses_1 p0) := ⟨35, #[], #[.pointer (some ⟨b5, 0, none⟩)], rfl, cf35, fun x0 r hm s' hl => by have hh := m_overseerlaw53_GenerateRefuses_1_c (s := s') (h1.mono hl) (h2.mono hl) (h3.mono hl) (bx5.le hl) hm; simpa using hh⟩
          refine L.mf (Wt.mk rfl rfl) rfl rfl rfl ?_
          obtain ⟨r63, er63, hm⟩ := bindS hm
          refine L.ca cf29 rfl rfl (Wt.mk rfl rfl) rfl (m_slices_ContainsFunc_int_c (s := (Sig.fz (N + 0) s26)) (p0 := p1) (p1 := (m_overseerlaw53_GenerateRefuses_1 p0)) h4 h62 er63) rfl ?_
          rintro _ s64 m65 rfl
          replace m0 := m0.trans m65.no
          replace h4 := h4.mono (m65.le no_No)
          replace bx5 := bx5.mv m65 no_No
          replace h1 := h1.mono (m65.le no_No)
          replace h2 := h2.mono (m65.le no_No)
          replace h3 := h3.mono (m65.le no_No)
          exact L.pkT Wt.no rfl rfl rfl rfl (L.sb (J60 _ _ ⟨s64, r63, (Option.some.inj hm).symm, m0, h4, h1, h2, h3, bx5, rfl, rfl⟩) rfl)
         ·refine L.know (d := 52) rfl hc (L.skip rfl rfl rfl rfl (L.skip rfl rfl rfl rfl (L.skip rfl rfl rfl rfl (L.pkF Wt.no rfl rfl rfl rfl ?_))))
          have m66 := Sig.fz_mv (N + 0) s26
          replace bx5 := bx5.fz (tgn hN)
          replace m0 := m0.trans (m66.one up)
          replace h4 := h4.mono (m66.le (tg0 hN))
          replace h1 := h1.mono (m66.le (tg0 hN))
          replace h2 := h2.mono (m66.le (tg0 hN))
          replace h3 := h3.mono (m66.le (tg0 hN))
          exact L.sb (J60 _ _ ⟨(Sig.fz (N + 0) s26), false, (Option.some.inj hm).symm, m0, h4, h1, h2, h3, bx5, rfl, rfl⟩) rfl
      ·intro Jj27
       refine E.seq (E.reg (L.mv Wt.no rfl rfl (L.bi Wt.no rfl rfl rfl rfl (L.nil (X.seqN ?_)))))
       rcases ifS hm with ⟨hc, hm⟩ | ⟨hc, hm⟩
       ·refine E.cT rfl hc (E.reg (L.mv Wt.no rfl rfl ?_))
        obtain ⟨r67, er67, hm⟩ := bindS hm
        refine L.ca cf28 rfl rfl Wt.no rfl (m_alphabet_CheckSet_c (s := s22) (p0 := p1) (p1 := 32) h4 er67) rfl ?_
        rintro _ s68 m69 rfl
        replace m0 := m0.trans m69.no
        replace h4 := h4.mono (m69.le no_No)
        replace bx5 := bx5.mv m69 no_No
        replace h1 := h1.mono (m69.le no_No)
        replace h2 := h2.mono (m69.le no_No)
        replace h3 := h3.mono (m69.le no_No)
        exact L.as Wt.no rfl rfl (L.nil (X.sub (Jj27 _ _ ⟨s68, r67, hm, m0, h4, h1, h2, h3, bx5, rfl, rfl⟩) (Sub.rf rfl)))
       ·exact E.cF rfl hc (E.skip (X.sub (Jj27 _ _ ⟨s22, r18, hm, m0, h4, h1, h2, h3, bx5, rfl, rfl⟩) (Sub.rf rfl)))
    ·intro J70
     rcases Bool.eq_false_or_eq_true (r18 != 0) with hc | hc
     ·refine L.know (d := 34) rfl hc (L.mv (Wt.mk rfl rfl) rfl rfl (L.mv (Wt.mk rfl rfl) rfl rfl (L.bi (Wt.mk rfl rfl) rfl rfl rfl rfl (L.mv (Wt.mk rfl rfl) rfl rfl (L.cut 3 (fun e w => ∃ (v71 : Bool), ((r21.2.2 != r18) || (r21.1 != 0)) = v71 ∧ e = (41, .bool v71) :: [(34, .bool true), (7, .bool r21.2.1), (5, .int .i64 r18), (2, .pointer (some ⟨b5, 0, none⟩)), (1, .slice a4 p1.length c4)] ∧ w = s22.w) ?_ ?_)))))
      ·rintro _ _ ⟨v71, rfl, rfl, rfl⟩
       refine L.mv (Wt.mk rfl rfl) rfl rfl (L.cut 2 (fun e w => ∃ (v72 : Bool), (((r21.2.2 != r18) || (r21.1 != 0)) || r21.2.1) = v72 ∧ e = (44, .bool v72) :: [(34, .bool true), (5, .int .i64 r18), (2, .pointer (some ⟨b5, 0, none⟩)), (1, .slice a4 p1.length c4)] ∧ w = s22.w) ?_ ?_)
       ·rintro _ _ ⟨v72, rfl, rfl, rfl⟩
        exact L.pkT Wt.no rfl rfl rfl rfl (L.sb (J70 _ _ ⟨(((r21.2.2 != r18) || (r21.1 != 0)) || r21.2.1), (andT hc).symm, rfl, rfl⟩) rfl)
       ·intro J73
        rcases Bool.eq_false_or_eq_true ((r21.2.2 != r18) || (r21.1 != 0)) with hc | hc
        ·exact L.know (d := 42) rfl hc (L.skip rfl rfl rfl rfl (L.pkT (Wt.mk rfl rfl) rfl rfl rfl rfl (L.sb (J73 _ _ ⟨true, (orT hc).symm, rfl, rfl⟩) rfl)))
        ·exact L.know (d := 42) rfl hc (L.mv (Wt.mk rfl rfl) rfl rfl (L.pkF (Wt.mk rfl rfl) rfl rfl rfl rfl (L.sb (J73 _ _ ⟨r21.2.1, (orF hc).symm, rfl, rfl⟩) rfl)))
      ·intro J74
       rcases Bool.eq_false_or_eq_true (r21.2.2 != r18) with hc | hc
       ·exact L.know (d := 38) rfl hc (L.skip rfl rfl rfl rfl (L.skip rfl rfl rfl rfl (L.pkT (Wt.mk rfl rfl) rfl rfl rfl rfl (L.sb (J74 _ _ ⟨true, (orT hc).symm, rfl, rfl⟩) rfl))))
       ·exact L.know (d := 38) rfl hc (L.mv (Wt.mk rfl rfl) rfl rfl (L.bi (Wt.mk rfl rfl) rfl rfl rfl rfl (L.pkF (Wt.mk rfl rfl) rfl rfl rfl rfl (L.sb (J74 _ _ ⟨(r21.1 != 0), (orF hc).symm, rfl, rfl⟩) rfl))))
     ·exact L.know (d := 34) rfl hc (L.skip rfl rfl rfl rfl (L.skip rfl rfl rfl rfl (L.skip rfl rfl rfl rfl (L.skip rfl rfl rfl rfl (L.skipU rfl rfl rfl (L.skipU rfl rfl rfl (L.skip rfl rfl rfl rfl (L.skip rfl rfl rfl rfl (L.skipU rfl rfl rfl (L.skip rfl rfl rfl rfl (L.pkF Wt.no rfl rfl rfl rfl (L.sb (J70 _ _ ⟨false, (andF hc).symm, rfl, rfl⟩) rfl))))))))))))
  ·intro J75
   rcases Bool.eq_false_or_eq_true b11 with hc | hc
   ·exact L.know (d := 18) rfl hc (L.skip rfl rfl rfl rfl (L.skip rfl rfl rfl rfl (L.skip rfl rfl rfl rfl (L.pkT Wt.no rfl rfl rfl rfl (L.sb (J75 _ _ ⟨true, (orT hc).symm, rfl, rfl⟩) rfl)))))
   ·exact L.know (d := 18) rfl hc (L.mv (Wt.mk rfl rfl) rfl rfl (L.len sl23 (Wt.mk rfl rfl) rfl rfl (L.bi (Wt.mk rfl rfl) rfl rfl rfl rfl (L.pkF Wt.no rfl rfl rfl rfl (L.sb (J75 _ _ ⟨(decide ((p1.length : Int) > 8)), (orF hc).symm, rfl, rfl⟩) rfl)))))
 ·intro J76
  rcases ifS eb11 with ⟨hc, hm⟩ | ⟨hc, hm⟩
  ·exact L.know (d := 13) rfl hc (L.skip rfl rfl rfl rfl (L.skip rfl rfl rfl rfl (L.skip rfl rfl rfl rfl (L.pkT Wt.no rfl rfl rfl rfl (L.sb (J76 _ _ ⟨s9, true, (Option.some.inj hm).symm, m0, h4, h1, h2, h3, bx5, rfl, rfl⟩) rfl)))))
  ·refine L.know (d := 13) rfl hc (L.lg (j := 0) (cs := [.slice a1 p0.1.length c1, .int .i64 p0.2.1, .slice a2 p0.2.2.1.length c2, .slice a3 p0.2.2.2.length c3]) bx5.mem ag26 (Wt.mk rfl rfl) rfl rfl rfl rfl rfl ?_)
   obtain ⟨r77, er77, hm⟩ := bindS hm
   refine L.ca cf32 rfl rfl (Wt.mk rfl rfl) rfl (m_overseerlaw53_few_c (s := s9) (p0 := p0) h1 h2 h3 er77) rfl ?_
   rintro _ s78 m79 rfl
   replace m0 := m0.trans m79.no
   replace h4 := h4.mono (m79.le no_No)
   replace bx5 := bx5.mv m79 no_No
   replace h1 := h1.mono (m79.le no_No)
   replace h2 := h2.mono (m79.le no_No)
   replace h3 := h3.mono (m79.le no_No)
   exact L.not (Wt.mk rfl rfl) rfl rfl (L.pkF Wt.no rfl rfl rfl rfl (L.sb (J76 _ _ ⟨s78, (!r77), (Option.some.inj hm).symm, m0, h4, h1, h2, h3, bx5, rfl, rfl⟩) rfl))

end Go.Proofs.Ytkkemchihllklaa

namespace Go.Proofs.Ytkkemchihllklaa
open Go Go.RowKit

/-- A search by halves among edges. -/
theorem binE_go {xs : List (Int × Int × Int)} {p : (Int × Int × Int) → Int → Option Int} {c : (Int × Int × Int) → Int} {t : Int} (hp : ∀ x ∈ xs, p x t = some (c x)) (hl : xs.length < 4294967296) (hs : ∀ i j (hi : i < xs.length) (hj : j < xs.length), i < j → c xs[j] < 0 → c xs[i] < 0) :
    ∀ (f i j : Nat), j ≤ i + f → i ≤ j → j ≤ xs.length → (∀ k (h : k < xs.length), k < i → c xs[k] < 0) → (∀ k (h : k < xs.length), j ≤ k → 0 ≤ c xs[k]) →
    ∃ q : Nat, iterF (m_slices_BinarySearchFunc_api_Edge_api_Edge_int_l1 xs t p) (f + 1) ((j : Int), (i : Int)) = some (q : Int) ∧ q ≤ xs.length ∧ (∀ k (h : k < xs.length), k < q → c xs[k] < 0) ∧ (∀ k (h : k < xs.length), q ≤ k → 0 ≤ c xs[k])
  | 0, i, j, h1, h2, h3, h4, h5 => by
    obtain rfl : i = j := by omega
    refine ⟨i, ?_, h3, h4, h5⟩
    rw [iterF_succ, m_slices_BinarySearchFunc_api_Edge_api_Edge_int_l1]
    dsimp only
    rw [if_neg ct_ge]
  | f + 1, i, j, h1, h2, h3, h4, h5 => by
    by_cases hlt : i < j
    · have hm : (i + j) / 2 < xs.length := by omega
      rw [iterF_succ, m_slices_BinarySearchFunc_api_Edge_api_Edge_int_l1]
      dsimp only
      rw [if_pos (ct_lt hlt), half_eq (by omega), idx_at hm, Option.bind_some, hp _ (List.getElem_mem hm), Option.bind_some]
      by_cases hc : c xs[(i + j) / 2] < 0
      · rw [if_pos (decide_eq_true hc), nxt (by omega)]
        dsimp only
        refine binE_go hp hl hs f ((i + j) / 2 + 1) j (by omega) (by omega) h3 (fun k hk hlt2 => ?_) h5
        by_cases hk2 : k = (i + j) / 2
        · subst hk2; exact hc
        · exact hs k ((i + j) / 2) hk hm (by omega) hc
      · rw [if_neg (by simpa using hc)]
        dsimp only
        refine binE_go hp hl hs f i ((i + j) / 2) (by omega) (by omega) (by omega) h4 (fun k hk hle => ?_)
        by_cases hk2 : k = (i + j) / 2
        · subst hk2; omega
        · have := mt (hs ((i + j) / 2) k hm hk (by omega)) hc
          omega
    · obtain rfl : i = j := by omega
      refine ⟨i, ?_, h3, h4, h5⟩
      rw [iterF_succ, m_slices_BinarySearchFunc_api_Edge_api_Edge_int_l1]
      dsimp only
      rw [if_neg ct_ge]
/-- What the walks of the package automaton ask. -/
structure AOk (a : Aut) : Prop where
  n0 : 0 ≤ a.n
  n1 : a.n ≤ 4096
  ed : ∀ x ∈ a.es, 0 ≤ x.f ∧ x.f < a.n ∧ 0 ≤ x.t ∧ x.t < a.n
  so : Sorted a.es
  el : a.es.length ≤ 1000000
  al : a.al.length ≤ 1000000
  ml : a.ms.length ≤ 1000000
theorem bin_edges {a : Aut} (h : AOk a) {p : (Int × Int × Int) → Int → Option Int} (hp : ∀ x t, p x t = some (W (x.1 - t))) {t : Nat} (ht : t ≤ 10000) :
    ∃ (q : Nat) (b : Bool), m_slices_BinarySearchFunc_api_Edge_api_Edge_int (a.es.map edP) (t : Int) p = some ((q : Int), b) ∧ q ≤ a.es.length ∧ (∀ k (hk : k < a.es.length), k < q → a.es[k].f < t) ∧ (∀ k (hk : k < a.es.length), q ≤ k → (t : Int) ≤ a.es[k].f) := by
  have hel := h.el; have hn1 := h.n1
  have hlm : (a.es.map edP).length = a.es.length := List.length_map ..
  have hat : ∀ k (hk : k < (a.es.map edP).length), (a.es.map edP)[k].1 = (a.es[k]'(by omega)).f := fun k hk => by rw [List.getElem_map]; rfl
  obtain ⟨q, h1, h2, h3, h4⟩ := binE_go (xs := a.es.map edP) (p := p) (c := fun x => x.1 - t) (t := t) (fun x hx => by
      obtain ⟨y, hy, rfl⟩ := List.mem_map.1 hx
      have := h.ed y hy
      rw [hp, W_of (by show _ ≤ y.f - _; omega) (by show y.f - _ < _; omega)]) (by omega) (fun i j hi hj hij hc => by
      rw [hat] at hc ⊢
      have hs := List.pairwise_iff_getElem.1 h.so i j (by omega) (by omega) hij
      have : (a.es[i]'(by omega)).f ≤ (a.es[j]'(by omega)).f := by rcases hs with hs | ⟨hs, _⟩ <;> omega
      omega) a.es.length 0 a.es.length (by omega) (by omega) (by omega) (fun k hk h0 => absurd h0 (Nat.not_lt_zero _)) (fun k hk h0 => by omega)
  have hr : ∃ b : Bool, (if decide ((q : Int) < ((a.es.map edP).length : Int)) then (idx (a.es.map edP) (q : Int)).bind fun x19 => (p x19 (t : Int)).bind fun r21 => some (r21 == 0) else some false) = some b := by
    by_cases hq : q < (a.es.map edP).length
    · rw [if_pos (ct_lt hq), idx_at hq, Option.bind_some, hp, Option.bind_some]; exact ⟨_, rfl⟩
    · rw [if_neg (by simp at hq ⊢; omega)]; exact ⟨_, rfl⟩
  obtain ⟨b, hb⟩ := hr
  refine ⟨q, b, ?_, by omega, fun k hk hlt => ?_, fun k hk hle => ?_⟩
  · rw [m_slices_BinarySearchFunc_api_Edge_api_Edge_int, hlm, show iter (m_slices_BinarySearchFunc_api_Edge_api_Edge_int_l1 (a.es.map edP) (t : Int) p) ((a.es.length : Int), 0) = some (q : Int) from iter_of (by omega) h1, Option.bind_some]
    rw [hlm] at hb
    rw [hb]
    rfl
  · have := h3 k (by omega) hlt
    rw [hat] at this
    omega
  · have := h4 k (by omega) hle
    rw [hat] at this
    omega
/-- A part of a list between two places. -/
theorem mid_filter {α : Type} (q : α → Bool) : ∀ (xs : List α) (i j : Nat), i ≤ j → j ≤ xs.length → (∀ k (h : k < xs.length), q xs[k] = decide (i ≤ k ∧ k < j)) → (xs.take j).drop i = xs.filter q := by
  intro xs i j hij hj h
  have e1 : xs = xs.take i ++ ((xs.take j).drop i ++ xs.drop j) := by
    have h1 : (xs.take j).take i = xs.take i := by rw [List.take_take, Nat.min_eq_left hij]
    rw [← List.append_assoc, ← h1, List.take_append_drop, List.take_append_drop]
  have f1 : (xs.take i).filter q = [] := by
    refine List.filter_eq_nil_iff.2 fun x hx => ?_
    obtain ⟨k, hk, rfl⟩ := List.mem_iff_getElem.1 hx
    rw [List.length_take] at hk
    rw [List.getElem_take, h k (by omega)]
    simp; omega
  have f2 : ((xs.take j).drop i).filter q = (xs.take j).drop i := by
    refine List.filter_eq_self.2 fun x hx => ?_
    obtain ⟨k, hk, rfl⟩ := List.mem_iff_getElem.1 hx
    rw [List.length_drop, List.length_take] at hk
    rw [List.getElem_drop, List.getElem_take, h (i + k) (by omega)]
    simp; omega
  have f3 : (xs.drop j).filter q = [] := by
    refine List.filter_eq_nil_iff.2 fun x hx => ?_
    obtain ⟨k, hk, rfl⟩ := List.mem_iff_getElem.1 hx
    rw [List.length_drop] at hk
    rw [List.getElem_drop, h (j + k) (by omega)]
    simp
  conv => rhs; rw [e1]
  rw [List.filter_append, List.filter_append, f1, f2, f3]
  simp
def outL (a : Aut) (s : Nat) : List Ed := a.es.filter fun x => x.f == (s : Int)
theorem out_eq {a : Aut} (h : AOk a) {s : Nat} (hs : s ≤ 4096) : m_automaton_out (autP a) (s : Int) = some ((outL a s).map edP) := by
  have hel := h.el
  obtain ⟨q1, b1, h1, h2, h3, h4⟩ := bin_edges h (p := m_automaton_out_1) (fun x t => rfl) (t := s) (by omega)
  obtain ⟨q2, b2, g1, g2, g3, g4⟩ := bin_edges h (p := m_automaton_out_2) (fun x t => rfl) (t := s + 1) (by omega)
  have hle : q1 ≤ q2 := by
    by_cases hc : q1 ≤ q2
    · exact hc
    · have k1 := h3 q2 (by omega) (by omega)
      have k2 := g4 q2 (by omega) (Nat.le_refl _)
      omega
  rw [m_automaton_out, show m_slices_BinarySearchFunc_api_Edge_api_Edge_int (autP a).2.2.2 (s : Int) m_automaton_out_1 = _ from h1, Option.bind_some, nxt (by omega), show m_slices_BinarySearchFunc_api_Edge_api_Edge_int (autP a).2.2.2 ((s + 1 : Nat) : Int) m_automaton_out_2 = _ from g1, Option.bind_some]
  dsimp only
  rw [show (autP a).2.2.2 = a.es.map edP from rfl, slc, if_pos ⟨by omega, by omega, by rw [List.length_map]; omega⟩, Option.bind_some, Int.toNat_natCast, Int.toNat_natCast, ← List.map_take, ← List.map_drop]
  rw [mid_filter (fun x : Ed => x.f == (s : Int)) a.es q1 q2 hle g2 (fun k hk => ?_)]
  · rfl
  · rw [Bool.eq_iff_iff, beq_iff_eq, decide_eq_true_eq]
    constructor
    · intro he
      refine ⟨?_, ?_⟩
      · by_cases hc : q1 ≤ k
        · exact hc
        · have := h3 k hk (by omega); omega
      · by_cases hc : k < q2
        · exact hc
        · have := g4 k hk (by omega); omega
    · rintro ⟨k1, k2⟩
      have := h4 k hk k1
      have := g3 k hk k2
      omega
theorem find_filter2 {es : List Ed} (s e : Int) : (es.filter fun x => x.f == s).find? (fun x => x.e == e) = es.find? fun x => x.f == s && x.e == e := by
  induction es with
  | nil => rfl
  | cons x es ih =>
    cases h1 : x.f == s with
    | false => rw [List.filter_cons_of_neg (by simp [h1]), List.find?_cons_of_neg (by simp [h1]), ih]
    | true =>
      rw [List.filter_cons_of_pos (by simp [h1])]
      cases h2 : x.e == e with
      | true => rw [List.find?_cons_of_pos (by simp [h2]), List.find?_cons_of_pos (by simp [h1, h2])]
      | false => rw [List.find?_cons_of_neg (by simp [h2]), List.find?_cons_of_neg (by simp [h1, h2]), ih]
theorem indexE_eq {xs : List Ed} {e : Int} (hl : xs.length < 4611686018427387904) : m_slices_IndexFunc_Edge (xs.map edP) (m_automaton_next_1 e) = some (if xs.any (fun x => x.e == e) = true then ((xs.findIdx (fun x => x.e == e) : Nat) : Int) else -1) := by
  have hlm : (xs.map edP).length = xs.length := List.length_map ..
  have h := iter_scan (f := m_slices_IndexFunc_Edge_l1 (xs.map edP) (m_automaton_next_1 e)) (xs := xs) (fun i (_ : Unit) => (i : Int)) (fun i _ y => if y.e == e then .inr (.inr (i : Int)) else .inl ()) (fun _ => .inl ()) (fun _ _ => True) (by omega) (fun i h _ _ => by
      rw [m_slices_IndexFunc_Edge_l1, if_pos (show decide ((i : Int) < ((xs.map edP).length : Int)) = true from by rw [hlm]; exact ct_lt h), idx_at (by omega), Option.bind_some, List.getElem_map, show m_automaton_next_1 e (edP xs[i]) = some (xs[i].e == e) from rfl, Option.bind_some, nxt (by omega)]
      refine ⟨fun s' g => ?_, fun o g => ?_⟩
      · split at g
        · cases g
        · rename_i h1; rw [if_neg h1]; exact ⟨rfl, trivial⟩
      · split at g
        · rename_i h1; rw [if_pos h1]; cases g; rfl
        · cases g) (fun _ _ => by rw [m_slices_IndexFunc_Edge_l1, if_neg (by rw [hlm]; exact ct_ge)]) (s := ()) trivial
  have key : ∀ (ys : List Ed) (i : Nat), scanL (O := Unit ⊕ Int) (fun i (_ : Unit) y => if y.e == e then .inr (.inr (i : Int)) else .inl ()) (fun _ => .inl ()) i ys () = if ys.any (fun x => x.e == e) = true then .inr ((i + ys.findIdx (fun x => x.e == e) : Nat) : Int) else .inl () := by
    intro ys
    induction ys with
    | nil => intro i; rfl
    | cons y ys ih =>
      intro i
      rw [scanL, List.any_cons, List.findIdx_cons]
      cases hy : y.e == e with
      | true => rfl
      | false =>
        rw [if_neg (by simp)]
        dsimp only
        rw [ih, Bool.false_or, cond_false]
        split
        · congr 2; omega
        · rfl
  rw [m_slices_IndexFunc_Edge, show iter (m_slices_IndexFunc_Edge_l1 (xs.map edP) (m_automaton_next_1 e)) 0 = _ from h, Option.bind_some, key]
  by_cases hm : xs.any (fun x => x.e == e) = true
  · rw [if_pos hm, if_pos hm]; simp
  · rw [if_neg hm, if_neg hm]
theorem next_eq {a : Aut} (h : AOk a) {s : Nat} (hs : s ≤ 4096) {e : Int} : m_automaton_next (autP a) (s : Int) e = some (stF a.es s e) := by
  have hel := h.el
  have hol : (outL a s).length ≤ a.es.length := List.length_filter_le ..
  rw [m_automaton_next, out_eq h hs, Option.bind_some, indexE_eq (by omega), Option.bind_some, stF, stepF, ← find_filter2, show a.es.filter (fun x => x.f == (s : Int)) = outL a s from rfl]
  by_cases hm : (outL a s).any (fun x => x.e == e) = true
  · have hlt : (outL a s).findIdx (fun x => x.e == e) < (outL a s).length := List.findIdx_lt_length_of_exists (by simpa [List.any_eq_true] using hm)
    rw [if_pos hm, if_neg (by simp), idx_at (by rw [List.length_map]; exact hlt), Option.bind_some, List.getElem_map]
    have hf : (outL a s).find? (fun x => x.e == e) = some ((outL a s)[(outL a s).findIdx (fun x => x.e == e)]) := by
      rw [← List.getElem?_eq_getElem hlt]
      exact (List.find?_eq_getElem?_findIdx).symm ▸ rfl
    rw [hf]
    have hmem := List.getElem_mem hlt
    have hed := h.ed _ (List.mem_filter.1 hmem).1
    show some ((outL a s)[(outL a s).findIdx (fun x => x.e == e)]).t = some ((((outL a s)[(outL a s).findIdx (fun x => x.e == e)]).t.toNat : Nat) : Int)
    rw [Int.toNat_of_nonneg hed.2.2.1]
  · have hf : (outL a s).find? (fun x => x.e == e) = none := by
      refine List.find?_eq_none.2 fun x hx hc => hm (List.any_eq_true.2 ⟨x, hx, hc⟩)
    rw [if_neg hm, if_pos (by simp), hf]
    rfl
theorem stepF_lt {a : Aut} (h : AOk a) {s t : Nat} {e : Int} (hs : stepF a.es s e = some t) : (t : Int) < a.n := by
  obtain ⟨x, hx, _, _, rfl⟩ := stepF_in hs
  have := h.ed x hx
  omega
theorem checkS_eq {a : Aut} (h : AOk a) (he : a.err = 0) (s : Int) : m_automaton_checkState (autP a) s = some (if s < 0 ∨ a.n ≤ s then 2 else 0) := by
  have h1 := h.el; have h2 := h.al; have h3 := h.ml
  rw [m_automaton_checkState, check_eq (by omega) (by omega) (by omega), Option.bind_some, he, if_neg (by simp)]
  by_cases hc : s < 0 ∨ a.n ≤ s
  · rw [if_pos hc, if_pos (by show (decide (s < 0) || decide (s ≥ a.n)) = true; simp; omega)]
  · rw [if_neg hc, if_neg (by show ¬ (decide (s < 0) || decide (s ≥ a.n)) = true; simp; omega)]
theorem enabledA_eq {a : Aut} (h : AOk a) (he : a.err = 0) (s : Int) : m_automaton_Enabled (autP a) s = some (if s < 0 ∨ a.n ≤ s then ([], 2) else ((outL a s.toNat).map (·.e), 0)) := by
  have hn1 := h.n1; have hel := h.el
  rw [m_automaton_Enabled, checkS_eq h he, Option.bind_some]
  by_cases hc : s < 0 ∨ a.n ≤ s
  · rw [if_pos hc, if_pos hc, if_pos (by simp)]
  · rw [if_neg hc, if_neg hc, if_neg (by simp), show s = ((s.toNat : Nat) : Int) by omega, out_eq h (by omega), Option.bind_some, Int.toNat_natCast]
    have hol : (outL a s.toNat).length ≤ a.es.length := List.length_filter_le ..
    have hlm : ((outL a s.toNat).map edP).length = (outL a s.toNat).length := List.length_map ..
    rw [show iter (m_automaton_Enabled_l1 ((outL a s.toNat).map edP)) (0, ([] : List Int)) = some ((outL a s.toNat).map (·.e)) from iter_run (f := m_automaton_Enabled_l1 ((outL a s.toNat).map edP)) (fun k : Nat => ((k : Int), ((outL a s.toNat).take k).map (·.e))) (outL a s.toNat).length (by omega) (fun k hk => by
      rw [m_automaton_Enabled_l1]
      dsimp only
      rw [if_pos (by rw [hlm]; exact ct_lt hk), idx_at (by omega), Option.bind_some, app_eq (by simp; omega), Option.bind_some, nxt (by omega), List.take_succ_eq_append_getElem hk, List.map_append, List.getElem_map]
      rfl) (by
      rw [m_automaton_Enabled_l1]
      dsimp only
      rw [if_neg (by rw [hlm]; exact ct_ge), List.take_length])]
    rfl
theorem stepA_eq {a : Aut} (h : AOk a) (he : a.err = 0) {s : Nat} (hs : (s : Int) < a.n) {e : Int} (hm : e ∈ a.al) : m_automaton_Step (autP a) (s : Int) e = some (match stepF a.es s e with | some t => ((t : Int), true, 0) | none => (0, false, 0)) := by
  have hn1 := h.n1; have hal := h.al
  rw [m_automaton_Step, checkS_eq h he, Option.bind_some, if_neg (show ¬ ((s : Int) < 0 ∨ a.n ≤ (s : Int)) by omega), if_neg (by simp), show m_slices_Contains_int (autP a).1 e = some (hasB a.al e) from contains_eq (xs := a.al) (by omega), Option.bind_some, hasB_true.2 hm, if_neg (by simp), next_eq h (by omega), Option.bind_some, stF]
  cases stepF a.es s e with
  | none => rfl
  | some t => dsimp only; rw [if_pos (by simp)]
theorem fol_lt {a : Aut} (h : AOk a) : ∀ (w : List Int) (s : Nat) (b : Bool), (s : Int) < a.n → (((w.foldl (folStep a.es) (s, b)).1 : Nat) : Int) < a.n
  | [], _, _, hs => hs
  | e :: w, s, b, hs => by
    rw [List.foldl_cons]
    cases hst : stepF a.es s e with
    | none =>
      have : folStep a.es (s, b) e = (s, true) := by unfold folStep; dsimp only; rw [hst]
      rw [this]; exact fol_lt h w s true hs
    | some t =>
      have : folStep a.es (s, b) e = (t, b) := by unfold folStep; dsimp only; rw [hst]
      rw [this]; exact fol_lt h w t b (stepF_lt h hst)
/-- What a scan does by definition. -/
theorem gfollow_eq {a : Aut} (h : AOk a) (he : a.err = 0) (ia : Inc a.al) {s : Int} {ev : List Int} (hl : ev.length ≤ 100) :
    m_generate_Follow (autP a) s ev = some (if s < 0 ∨ a.n ≤ s then (0, false, 2) else if amErr ev a.al ≠ 0 then (0, false, amErr ev a.al) else (((ev.foldl (folStep a.es) (s.toNat, false)).1 : Int), (ev.foldl (folStep a.es) (s.toNat, false)).2, 0)) := by
  have hal := h.al
  rw [m_generate_Follow, enabledA_eq h he, Option.bind_some]
  by_cases hc : s < 0 ∨ a.n ≤ s
  · rw [if_pos hc, if_pos hc, if_pos (by simp)]
  · rw [if_neg hc, if_neg hc, if_neg (by simp), show m_generate_among ev (autP a).1 = some (amErr ev a.al) from among2_eq (al := a.al) (by omega) (by omega) ia, Option.bind_some]
    by_cases h0 : amErr ev a.al ≠ 0
    · rw [if_pos (by simpa using h0), if_pos h0]
    · rw [if_neg (by simpa using h0), if_neg h0]
      have hsub := (amErr_0 (show amErr ev a.al = 0 by omega)).2
      obtain ⟨k0, rfl⟩ : ∃ k : Nat, s = (k : Int) := ⟨s.toNat, by omega⟩
      rw [Int.toNat_natCast]
      have hst := iter_run (f := m_generate_Follow_l1 (autP a) ev) (fun k : Nat => ((k : Int), ((ev.take k).foldl (folStep a.es) (k0, false)).2, (((ev.take k).foldl (folStep a.es) (k0, false)).1 : Int))) ev.length (by omega) (o := ((ev.foldl (folStep a.es) (k0, false)).2, ((ev.foldl (folStep a.es) (k0, false)).1 : Int))) (fun k hk => by
        have hlt := fol_lt h (ev.take k) k0 false (by omega)
        rw [List.take_succ_eq_append_getElem hk, List.foldl_append]
        generalize (ev.take k).foldl (folStep a.es) (k0, false) = S at hlt
        obtain ⟨S1, S2⟩ := S
        rw [m_generate_Follow_l1]
        dsimp only at hlt ⊢
        rw [if_pos (ct_lt hk), idx_at hk, Option.bind_some, stepA_eq h he hlt (hsub _ (List.getElem_mem hk)), Option.bind_some, List.foldl_cons, List.foldl_nil, folStep]
        dsimp only
        cases stepF a.es S1 ev[k] with
        | none =>
          dsimp only
          rw [if_neg (by simp), m_generate_Follow_j1]
          dsimp only
          rw [nxt (by omega)]
          simp
        | some t =>
          dsimp only
          rw [if_pos rfl, m_generate_Follow_j1]
          dsimp only
          rw [nxt (by omega)]
          simp) (by
        rw [m_generate_Follow_l1]
        dsimp only
        rw [if_neg ct_ge, List.take_length])
      rw [show iter (m_generate_Follow_l1 (autP a) ev) (0, false, (k0 : Int)) = _ from hst, Option.bind_some]
/-- An automaton as it was handed over. -/
def ofP (p : List Int × Int × List Int × List (Int × Int × Int)) : Aut := ⟨p.1, p.2.1, p.2.2.1, p.2.2.2.map fun x => ⟨x.1, x.2.1, x.2.2⟩⟩
theorem ofP_eq (p : List Int × Int × List Int × List (Int × Int × Int)) : autP (ofP p) = p := by
  obtain ⟨p1, p2, p3, p4⟩ := p
  rw [autP, ofP]
  dsimp only
  rw [List.map_map, show (edP ∘ fun x : Int × Int × Int => (⟨x.1, x.2.1, x.2.2⟩ : Ed)) = id from funext fun x => rfl, List.map_id]
theorem err_parts {a : Aut} (h : a.err = 0) : setErr 32 none a.al = 0 ∧ 0 ≤ a.n ∧ a.n ≤ 4096 ∧ setErr a.n none a.ms = 0 ∧ edErr a.al a.n none a.es = 0 := by
  unfold Aut.err at h
  split at h
  · rename_i h1; rw [h] at h1; exact absurd h1 (by decide)
  · rename_i h1
    split at h
    · cases h
    · split at h
      · cases h
      · split at h
        · rename_i h4; rw [h] at h4; exact absurd h4 (by decide)
        · rename_i h2 h3 h4
          exact ⟨by simpa using h1, by omega, by omega, by simpa using h4, h⟩
theorem edErr_sorted {al : List Int} {n : Int} : ∀ (es : List Ed) (p : Option Ed), edErr al n p es = 0 → Sorted es ∧ ∀ q, p = some q → ∀ x ∈ es, edLt q x
  | [], _, _ => ⟨List.Pairwise.nil, fun _ _ x hx => by cases hx⟩
  | y :: es, p, h => by
    rw [edErr] at h
    split at h
    · cases h
    · split at h
      · cases h
      · split at h
        · cases h
        · rename_i h3
          obtain ⟨g1, g2⟩ := edErr_sorted es _ h
          have g3 := g2 y rfl
          refine ⟨List.pairwise_cons.2 ⟨g3, g1⟩, fun q hq x hx => ?_⟩
          have hqy : edLt q y := by
            have h4 : ¬ (y.f < q.f ∨ (y.f = q.f ∧ y.e ≤ q.e)) := fun hc => h3 ⟨q, hq, hc⟩
            unfold edLt; omega
          rcases List.mem_cons.1 hx with rfl | hx
          · exact hqy
          · have h5 := g3 x hx
            unfold edLt at hqy h5 ⊢; omega
theorem aok_of {a : Aut} (h : a.err = 0) (h1 : a.es.length ≤ 1000000) (h2 : a.al.length ≤ 1000000) (h3 : a.ms.length ≤ 1000000) : AOk a := by
  obtain ⟨g1, g2, g3, g4, g5⟩ := err_parts h
  exact ⟨g2, g3, fun x hx => by have := err_ed h x hx; omega, (edErr_sorted _ _ g5).1, h1, h2, h3⟩
theorem refuses_eq {p : List Int × Int × List Int × List (Int × Int × Int)} {l : List Int} : m_overseerlaw53_GenerateRefuses p l = some true := by
  obtain ⟨a, rfl⟩ : ∃ a, p = autP a := ⟨ofP p, (ofP_eq p).symm⟩
  rw [m_overseerlaw53_GenerateRefuses, known53, Option.bind_some, if_neg (by simp), m_overseerlaw53_few, Option.bind_some, Option.bind_some, Option.bind_some]
  have e1 : (autP a).2.1 = a.n := rfl
  have e2 : (autP a).1 = a.al := rfl
  have e3 : (autP a).2.2.1 = a.ms := rfl
  have e4 : (autP a).2.2.2.length = a.es.length := List.length_map ..
  rw [e1, e2, e3, e4]
  by_cases hf : (a.n ≤ 8 ∨ a.n > 64) ∧ a.al.length ≤ 40 ∧ a.ms.length ≤ 40 ∧ a.es.length ≤ 40 ∧ l.length ≤ 8
  · obtain ⟨f1, f2, f3, f4, f5⟩ := hf
    rw [if_neg (by simp; omega), check_eq (by omega) (by omega) (by omega), Option.bind_some]
    have fin : ∀ (e : Int), (∃ c, m_generate_Generate (autP a) l = some (c, e) ∧ (e = 0 ∨ c = ((0, 0, 0, ([] : List Bool), ([] : List (Int × Int))), ([] : List Int), ([] : List Int), 0))) → m_overseerlaw53_GenerateRefuses_j4 (autP a) l e = some true := by
      rintro e ⟨c, hc, hz⟩
      rw [m_overseerlaw53_GenerateRefuses_j4, hc, Option.bind_some]
      rcases hz with rfl | rfl
      · simp
      · simp
        right
        decide
    by_cases he : a.err = 0
    · have hok := aok_of he (by omega) (by omega) (by omega)
      obtain ⟨g1, g2, g3, g4, g5⟩ := err_parts he
      have ia := (setErr_inc g1).1
      have hfo := gfollow_eq hok he ia (s := 0) (ev := []) (by simp)
      have hC := checkSet2_eq (xs := l) (n := 32) (by omega)
      have hany := containsF_eq (xs := l) (p := m_overseerlaw53_GenerateRefuses_1 (autP a)) (q := fun y => !hasB a.al y) (by omega) (fun y hy => by
        rw [m_overseerlaw53_GenerateRefuses_1, show m_slices_Contains_int (autP a).1 y = some (hasB a.al y) from contains_eq (xs := a.al) (by omega)]; rfl)
      rw [hfo, Option.bind_some, he, if_neg (by simp), if_pos (by simp), hC, Option.bind_some, m_overseerlaw53_GenerateRefuses_j1]
      rw [any_subB] at hany
      have hG : m_generate_Generate (autP a) l = if (setErr 32 none l != 0) = true then some (((0, 0, 0, ([] : List Bool), ([] : List (Int × Int))), ([] : List Int), ([] : List Int), 0), setErr 32 none l) else m_generate_Generate (autP a) l := by
        by_cases h0 : (setErr 32 none l != 0) = true
        · rw [if_pos h0, m_generate_Generate, check_eq (by omega) (by omega) (by omega), Option.bind_some, he, if_neg (by simp), hC, Option.bind_some, if_pos h0]
        · rw [if_neg h0]
      by_cases h0 : setErr 32 none l = 0
      · have il := (setErr_inc h0).1
        have hS : m_alphabet_Subset l (autP a).1 = some (subB l a.al) := subset_eq (by omega) (by rw [e2]; omega) il ia
        rw [if_pos (by simpa using h0), hany, Option.bind_some, Option.bind_some, h0]
        have hG2 : ∀ e : Int, ((if (!(subB l a.al)) = true then some (((0, 0, 0, ([] : List Bool), ([] : List (Int × Int))), ([] : List Int), ([] : List Int), 0), (9 : Int)) else if (a.n == 0) = true then some (((0, 0, 0, ([] : List Bool), ([] : List (Int × Int))), ([] : List Int), ([] : List Int), 0), 21) else if (decide (a.n > 64) || decide ((a.es.length : Int) > 256)) = true then some (((0, 0, 0, ([] : List Bool), ([] : List (Int × Int))), ([] : List Int), ([] : List Int), 0), 3) else m_generate_Generate (autP a) l) = m_generate_Generate (autP a) l) := by
          intro _
          conv => rhs; rw [m_generate_Generate, check_eq (by omega) (by omega) (by omega), Option.bind_some, he, if_neg (by simp), hC, Option.bind_some, h0, if_neg (by simp), hS, Option.bind_some, e1, e4]
          split
          · rfl
          · split
            · rfl
            · split
              · rfl
              · rename_i k1 k2 k3
                rw [m_generate_Generate, check_eq (by omega) (by omega) (by omega), Option.bind_some, he, if_neg (by simp), hC, Option.bind_some, h0, if_neg (by simp), hS, Option.bind_some, e1, e4, if_neg k1, if_neg k2, if_neg k3]
        have hG3 := hG2 0
        cases hsb : subB l a.al with
        | false =>
          rw [hsb, if_pos (by simp)] at hG3
          rw [if_pos (by simp), m_overseerlaw53_GenerateRefuses_j2, if_neg (by simp), m_overseerlaw53_GenerateRefuses_j3, if_neg (by simp)]
          exact fin 9 ⟨_, hG3.symm, .inr rfl⟩
        | true =>
          rw [hsb, if_neg (by simp)] at hG3
          rw [if_neg (by simp), m_overseerlaw53_GenerateRefuses_j2, e1]
          by_cases hz : a.n = 0
          · rw [if_pos (by simpa using hz)] at hG3
            rw [if_pos (by simpa using hz), m_overseerlaw53_GenerateRefuses_j3, if_neg (by simp)]
            exact fin 21 ⟨_, hG3.symm, .inr rfl⟩
          · rw [if_neg (by simpa using hz)] at hG3
            rw [if_neg (by simpa using hz), m_overseerlaw53_GenerateRefuses_j3, e1]
            by_cases hb : a.n > 64
            · rw [if_pos (by simp; omega)] at hG3
              rw [if_pos (by simp; omega)]
              exact fin 3 ⟨_, hG3.symm, .inr rfl⟩
            · rw [if_neg (by simp; omega)]
              have hsub := subB_mem hsb
              have hgen : GenIn a l a.n.toNat := ⟨by omega, by omega, by omega, by omega, ?_, ?_, fun x hx => by have := err_ed he x hx; omega⟩
              · exact fin 0 ⟨_, generate_eq hgen (by omega) he h0 (by rw [← hsb]; exact hS), .inl rfl⟩
              · have := sub_len (ys := (List.range 32).map fun (i : Nat) => (i : Int)) ia (fun y hy => by
                  have := (setErr_inc g1).2 y hy
                  exact List.mem_map.2 ⟨y.toNat, List.mem_range.2 (by omega), by omega⟩)
                simpa using this
              · omega
      · rw [if_pos (by simpa using h0)] at hG
        rw [if_neg (by simpa using h0), Option.bind_some, if_neg (by simp), m_overseerlaw53_GenerateRefuses_j2, if_neg (by simp [h0]), m_overseerlaw53_GenerateRefuses_j3, if_neg (by simp [h0])]
        exact fin _ ⟨_, hG, .inr rfl⟩
    · have hck := check_eq (a := a) (by omega) (by omega) (by omega)
      have hfo : m_generate_Follow (autP a) 0 [] = some (0, false, a.err) := by
        rw [m_generate_Follow, m_automaton_Enabled, m_automaton_checkState, hck, Option.bind_some, if_pos (by simpa using he), Option.bind_some, if_pos (by simpa using he), Option.bind_some, if_pos (by simpa using he)]
      have hG : m_generate_Generate (autP a) l = some (((0, 0, 0, ([] : List Bool), ([] : List (Int × Int))), ([] : List Int), ([] : List Int), 0), a.err) := by
        rw [m_generate_Generate, hck, Option.bind_some, if_pos (by simpa using he)]
      rw [hfo, Option.bind_some, if_neg (by simp), if_neg (by simpa using he), m_overseerlaw53_GenerateRefuses_j1, if_neg (by simpa using he), Option.bind_some, if_neg (by simp), m_overseerlaw53_GenerateRefuses_j2, if_neg (by simp [he]), m_overseerlaw53_GenerateRefuses_j3, if_neg (by simp [he])]
      exact fin _ ⟨_, hG, .inr rfl⟩
  · rw [if_pos (by simp; omega)]
end Go.Proofs.Ytkkemchihllklaa

namespace Go.Proofs.Ytkkemchihllklaa
open Go Go.ChangeShapes Go.WideShapes Go.ChangeAt Go.RowKit

set_option maxRecDepth 100000 in
theorem generateRefuses_lifted (os : Os) (started : os.Started) (H : Type) (enc : TypeId × Value → H) :
    ReturnsInHanded {} Try.checked os 8 .any (Rows.generateRefusesSpec.pre6 enc Try.prog Try.f8 Rows.generateRefusesRow.domain false) (Rows.generateRefusesSpec.post enc Try.prog Try.f8 false true false false) := by
  refine returnsInHanded_of_change (C := Try.checked) Try.own started (by kernel_rfl) Try.func8
    (ChangeSpec.witness6 (enc := enc) (C := Try.checked) false ⟨#[], #[.agg #[.slice none 0 0, .int .i64 0, .slice none 0 0, .slice none 0 0], .slice none 0 0], []⟩ 8 (by kernel_rfl) (by kernel_rfl) (by kernel_rfl) (by kernel_rfl)) ?_
  intro W base args ds gs before hval0 hW hcnd _
  have hval : ∀ (j : Nat) t v, Try.f8.params[j]? = some t → args[j]? = some v → Value.okWide Try.prog W .any base t v := hval0
  have hW' := hW
  obtain ⟨p, q, hA0, hV, rfl, hfz, hnd⟩ := hW
  have hA : DataW.TrodAll enc Try.prog W 0 (fun _ => true) true Try.f8.params.toList args.toList ds p := hA0
  rw [Try.params8] at hA hval
  obtain ⟨v0, v1, d0, d1, p0, p1, rfl, rfl, rfl, h0, h1⟩ := trodAll_two hA
  obtain ⟨p, a0, c0, b0, e0, f0, g0, rfl, r0, s0, q0⟩ := arg_aut (hval 0 26 v0 rfl rfl) h0
  obtain ⟨a1, c1, xs1, rfl, r1, k1⟩ := arg_ints (hval 1 23 v1 rfl rfl) h1
  obtain ⟨rfl, rfl⟩ := trodVars_none hV
  clear hA0 hval0
  refine (m_overseerlaw53_GenerateRefuses_c (s := ⟨W, fun _ => 0⟩) r0 s0 q0 r1 (refuses_eq)).mono fun e W' ⟨v, s', hw, he, hm, hv⟩ => ?_
  subst hw
  subst he
  subst hv
  have hbl := hm.below
  exact ⟨_, rfl, law_post Try.laidOut hW' rfl (by kernel_rfl) (by kernel_rfl) Try.underlying4 rfl rfl rfl hbl⟩

/-- The statement. -/
theorem generateRefuses_holds : Rows.GenerateRefusesSaid :=
  OpenClaim.holds_of_wide 8 Try.f8 rfl rfl rfl rfl rfl rfl rfl ⟨rfl, rfl, rfl, rfl, rfl⟩ rfl rfl rfl rfl rfl (by kernel_rfl) Try.func8 (by kernel_rfl)
    (of_decide_eq_true (by kernel_rfl)) (by unfold Func.isWrapper; first | (rw [if_pos (by decide +kernel)]; kernel_rfl) | (rw [if_neg (by decide +kernel)]; exact ⟨rfl, rfl⟩))
    (fun os started H enc _ => generateRefuses_lifted os started H enc)
end Go.Proofs.Ytkkemchihllklaa
