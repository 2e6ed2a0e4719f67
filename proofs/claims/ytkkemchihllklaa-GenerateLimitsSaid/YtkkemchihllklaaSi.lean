/- What the law's own step and show say. -/
import Derived.Test.YtkkemchihllklaaSh
namespace Go.Proofs.Ytkkemchihllklaa
open Go Go.RowKit

/-- The state behind an event, or -1. -/
def stF (es : List Ed) (s : Nat) (e : Int) : Int := match stepF es s e with
  | some t => (t : Int)
  | none => -1
theorem stF_ge {es : List Ed} {s : Nat} {e : Int} : decide (stF es s e ≥ 0) = (stepF es s e).isSome := by
  unfold stF
  cases stepF es s e with
  | none => rfl
  | some t => simp
theorem step_go {a : Aut} {s e : Int} (hl : a.es.length < 4611686018427387904) : ∀ (j i : Nat), i + j = a.es.length →
    iterF (m_overseerlaw53_step_l1 (autP a) s e) (j + 1) (i : Int) = some (match (a.es.drop i).find? (fun x => x.f == s && x.e == e) with | some x => .inr x.t | none => .inl ()) := by
  have hlen : (autP a).2.2.2.length = a.es.length := by simp [autP]
  intro j
  induction j with
  | zero =>
    intro i hi
    rw [iterF_succ, m_overseerlaw53_step_l1, if_neg (by rw [hlen]; simp; omega), List.drop_of_length_le (by omega)]
    rfl
  | succ j ih =>
    intro i hi
    have hlt : i < a.es.length := by omega
    have hat : idx (autP a).2.2.2 (i : Int) = some (edP a.es[i]) := by
      rw [idx_at (by rw [hlen]; exact hlt)]; simp [autP]
    rw [iterF_succ, m_overseerlaw53_step_l1, if_pos (by rw [hlen]; simp; omega), hat, Option.bind_some, List.drop_eq_getElem_cons hlt]
    by_cases hc : (a.es[i].f == s && a.es[i].e == e) = true
    · rw [if_pos (show ((edP a.es[i]).1 == s && (edP a.es[i]).2.1 == e) = true from hc), List.find?_cons_of_pos (p := fun x : Ed => x.f == s && x.e == e) hc]
      rfl
    · rw [if_neg (show ¬ ((edP a.es[i]).1 == s && (edP a.es[i]).2.1 == e) = true from hc), List.find?_cons_of_neg (p := fun x : Ed => x.f == s && x.e == e) hc, show (i : Int) + 1 = ((i + 1 : Nat) : Int) by omega, W_nat (by omega)]
      exact ih (i + 1) (by omega)
theorem step_eq {a : Aut} {s : Nat} {e : Int} (hl : a.es.length < 4611686018427387904) (ht : ∀ x ∈ a.es, 0 ≤ x.t) : m_overseerlaw53_step (autP a) (s : Int) e = some (stF a.es s e) := by
  rw [m_overseerlaw53_step, show iter (m_overseerlaw53_step_l1 (autP a) (s : Int) e) 0 = _ from iter_of (by omega) (step_go hl a.es.length 0 (by omega)), Option.bind_some, List.drop_zero, stF, stepF]
  cases hf : a.es.find? (fun x => x.f == (s : Int) && x.e == e) with
  | none => rfl
  | some x =>
    have := ht x (List.mem_of_find?_eq_some hf)
    show some x.t = some ((x.t.toNat : Nat) : Int)
    rw [show ((x.t.toNat : Nat) : Int) = x.t by omega]
theorem equal_self {xs : List Int} (hl : xs.length < 4611686018427387904) : m_slices_Equal_int xs xs = some true := by
  have hi : iter (m_slices_Equal_int_l1 xs xs) 0 = some (.inl ()) := by
    refine iter_run (f := m_slices_Equal_int_l1 xs xs) (fun k => (k : Int)) xs.length (by omega) (fun k hk => ?_) ?_
    · rw [m_slices_Equal_int_l1, if_pos (by simp; omega), idx_at hk, Option.bind_some, Option.bind_some, if_neg (by simp), show (k : Int) + 1 = ((k + 1 : Nat) : Int) by omega, W_nat (by omega)]
    · rw [m_slices_Equal_int_l1, if_neg (by simp)]
  rw [m_slices_Equal_int, if_neg (by simp), hi]
  rfl
theorem shows_eq {a : Aut} {ctrl : List Int} {n : Nat} (h : GenIn a ctrl n) {out mem : List Bool} (ho : out.length = ctrl.length + 1) (hm : mem.length = n + 1) {s : Nat} (hs : s < n) (hq : ∀ k, k < n → mem.getD k false = decide (k = s)) {al p6 : Bool} (ha : out.getD ctrl.length false = al)
    (hc : ∀ k, k < ctrl.length → out.getD k false = (p6 && (stepF a.es s (ctrl.getD k 0)).isSome)) : m_overseerlaw53_shows (autP a) ctrl (codeP a ctrl n) (out, mem) (s : Int) al p6 = some true := by
  have h1 := h.n1; have h2 := h.es; have h4 := h.ct; have h5 := h.hn
  have en := enabled_eq h ho hm (q := fun e => p6 && (stepF a.es s e).isSome) hc
  have hi1 : iter (m_overseerlaw53_shows_l1 (autP a) (out, mem) (s : Int)) 0 = some (.inl ()) := by
    refine iter_run (f := m_overseerlaw53_shows_l1 (autP a) (out, mem) (s : Int)) (fun k => (k : Int)) n (by omega) (fun k hk => ?_) ?_
    · have hk3 : mem[k]'(by omega) = decide (k = s) := by
        have := hq k hk
        rwa [List.getD_eq_getElem?_getD, List.getElem?_eq_getElem (by omega)] at this
      have hd : ((k : Int) == (s : Int)) = decide (k = s) := by
        rw [Bool.eq_iff_iff]; simp; omega
      rw [m_overseerlaw53_shows_l1, if_pos (show decide ((k : Int) < (autP a).2.1) = true from decide_eq_true (show (k : Int) < a.n by omega)), show idx (out, mem).2 (k : Int) = some (mem[k]'(by omega)) from idx_at (xs := mem) (by omega), Option.bind_some, hk3, hd, if_neg (by simp), show (k : Int) + 1 = ((k + 1 : Nat) : Int) by omega, W_nat (by omega)]
    · rw [m_overseerlaw53_shows_l1, if_neg (show ¬ decide ((n : Int) < (autP a).2.1) = true from fun e => by have e2 : (n : Int) < a.n := of_decide_eq_true e; omega)]
  have hi2 : iter (m_overseerlaw53_shows_l2 (autP a) ctrl (out, mem) (s : Int) p6) (0, ([] : List Int)) = some (.inl (ctrl.filter fun e => p6 && (stepF a.es s e).isSome)) := by
    have e0 : ((0 : Int), ([] : List Int)) = (fun k : Nat => ((k : Int), (ctrl.take k).filter fun e => p6 && (stepF a.es s e).isSome)) 0 := by simp
    refine Eq.trans (congrArg _ e0) (iter_run (f := m_overseerlaw53_shows_l2 (autP a) ctrl (out, mem) (s : Int) p6) (fun k : Nat => ((k : Int), (ctrl.take k).filter fun e => p6 && (stepF a.es s e).isSome)) ctrl.length (by omega) (fun k hk => ?_) ?_)
    · generalize hqq : (fun e => p6 && (stepF a.es s e).isSome) = q
      have hb : (if p6 = true then (m_overseerlaw53_step (autP a) (s : Int) ctrl[k]).bind fun r116 => some (decide (r116 ≥ 0)) else some false) = some (q ctrl[k]) := by
        rw [← hqq]
        cases p6 with
        | false => rfl
        | true => rw [if_pos rfl, step_eq (by omega) (fun x hx => (h.ed x hx).2.2.1), Option.bind_some, stF_ge]; rfl
      have ht : (ctrl.take (k + 1)).filter q = (ctrl.take k).filter q ++ (if q ctrl[k] then [ctrl[k]] else []) := by
        rw [List.take_succ_eq_append_getElem hk, List.filter_append]
        cases hc : q ctrl[k] <;> simp [hc]
      have hk3 : out[k]'(by omega) = q ctrl[k] := by
        have := hc k hk
        rw [← hqq]
        rwa [List.getD_eq_getElem?_getD, List.getElem?_eq_getElem (by omega), List.getD_eq_getElem?_getD, List.getElem?_eq_getElem hk] at this
      have hlen : ((ctrl.take k).filter q).length ≤ 32 := Nat.le_trans (List.length_filter_le ..) (by simp; omega)
      rw [m_overseerlaw53_shows_l2]
      dsimp only
      rw [if_pos (by simp; omega), idx_at hk, Option.bind_some, hb, Option.bind_some, idx_at (show k < out.length by omega), Option.bind_some, hk3, if_neg (by simp), ht]
      cases hc : q ctrl[k] with
      | true =>
        rw [if_pos rfl, app_eq (by simp; omega), Option.bind_some, m_overseerlaw53_shows_j1, show (k : Int) + 1 = ((k + 1 : Nat) : Int) by omega, W_nat (by omega)]
        rfl
      | false =>
        rw [if_neg (by simp), m_overseerlaw53_shows_j1, show (k : Int) + 1 = ((k + 1 : Nat) : Int) by omega, W_nat (by omega), if_neg (by simp), List.append_nil]
    · rw [m_overseerlaw53_shows_l2]
      dsimp only
      rw [if_neg (by simp), List.take_of_length_le (Nat.le_refl _)]
  have hf : (ctrl.filter fun e => p6 && (stepF a.es s e).isSome).length ≤ 32 := Nat.le_trans (List.length_filter_le ..) h4
  have ho2 : out[ctrl.length]'(by omega) = al := by
    rwa [List.getD_eq_getElem?_getD, List.getElem?_eq_getElem (by omega)] at ha
  have hw : W ((ctrl.length : Int) + 1) = ((ctrl.length + 1 : Nat) : Int) := by rw [show (ctrl.length : Int) + 1 = ((ctrl.length + 1 : Nat) : Int) by omega, W_nat (by omega)]
  rw [m_overseerlaw53_shows, hw, if_neg (by
      rw [Bool.or_eq_true, not_or]
      refine ⟨by simp [ho], ?_⟩
      show ¬ decide ((mem.length : Int) < a.n) = true
      simp; omega), hi1, Option.bind_some]
  dsimp only
  rw [hi2, Option.bind_some]
  dsimp only
  rw [gstate_eq h ho hm hs hq, Option.bind_some, en, Option.bind_some, alarmed_eq h ho hm, Option.bind_some, ha]
  dsimp only
  rw [if_pos (by simp), equal_self (by omega), Option.bind_some, Option.bind_some, if_pos (by simp), idx_at (show ctrl.length < out.length by omega), Option.bind_some, ho2]
  simp
end Go.Proofs.Ytkkemchihllklaa
