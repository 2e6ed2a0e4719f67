/- The law of the limits, in plain words. -/
import Derived.Test.YtkkemchihllklaaSj
import Derived.Test.YtkkemchihllklaaKn
namespace Go.Proofs.Ytkkemchihllklaa
open Go Go.RowKit

theorem W_tmod {i n : Nat} (hi : i < 1000000) (hn : n < 1000000) : (W ((i : Int) + 1)).tmod (n : Int) = (((i + 1) % n : Nat) : Int) := by
  rw [show (i : Int) + 1 = ((i + 1 : Nat) : Int) by omega, W_nat (by omega), Int.tmod_eq_emod_of_nonneg (by omega)]
  rfl
theorem allL_succ (n : Nat) : allL (n + 1) = allL n ++ [(n : Int)] := by simp [allL, List.range_succ]
section
variable {p0 p1 : Int} {n k : Nat}
theorem lim_al (hk : W (p1.tmod 7) = (k : Int)) (hk6 : k ≤ 6) : iter (m_overseerlaw53_GenerateLimits_l1 p1) (0, ([] : List Int)) = some (allL (k + 1)) := by
  refine iter_run (f := m_overseerlaw53_GenerateLimits_l1 p1) (fun i => ((i : Int), allL i)) (k + 1) (by omega) (fun i hi => ?_) ?_
  · rw [m_overseerlaw53_GenerateLimits_l1]
    dsimp only
    have hl : (allL i).length = i := by simp [allL]
    rw [hk, show (k : Int) + 1 = ((k + 1 : Nat) : Int) by omega, W_nat (by omega), if_pos (by simp; omega), app_eq (by simp; omega), Option.bind_some, show (i : Int) + 1 = ((i + 1 : Nat) : Int) by omega, W_nat (by omega), allL_succ]
  · rw [m_overseerlaw53_GenerateLimits_l1]
    dsimp only
    rw [hk, show (k : Int) + 1 = ((k + 1 : Nat) : Int) by omega, W_nat (by omega), if_neg (by simp)]
theorem lim_row (hk : W (p1.tmod 7) = (k : Int)) (hk6 : k ≤ 6) {i : Nat} {x y : List (Int × Int × Int)} (hx : x.length ≤ 100000) : iter (m_overseerlaw53_GenerateLimits_l4 p1 ((i : Int), y)) (0, x) = some (x ++ (List.range k).map fun e : Nat => ((i : Int), (e : Int) + 1, (i : Int))) := by
  have e0 : ((0 : Int), x) = (fun e : Nat => ((e : Int), x ++ (List.range e).map fun e : Nat => ((i : Int), (e : Int) + 1, (i : Int)))) 0 := by simp
  refine Eq.trans (congrArg _ e0) (iter_run (f := m_overseerlaw53_GenerateLimits_l4 p1 ((i : Int), y)) (fun e : Nat => ((e : Int), x ++ (List.range e).map fun e : Nat => ((i : Int), (e : Int) + 1, (i : Int)))) k (by omega) (fun e he => ?_) ?_)
  · rw [m_overseerlaw53_GenerateLimits_l4]
    dsimp only
    rw [hk, if_pos (by simp; omega), app_eq (by simp; omega), Option.bind_some, show W ((e : Int) + 1) = (e : Int) + 1 from W_of (by omega) (by omega), List.range_succ, List.map_append, List.append_assoc]
    rfl
  · rw [m_overseerlaw53_GenerateLimits_l4]
    dsimp only
    rw [hk, if_neg (by simp)]
theorem lim_es (hn : W (1 + W (p0.tmod 70)) = (n : Int)) (h0 : 0 < n) (h70 : n ≤ 70) (hk : W (p1.tmod 7) = (k : Int)) (hk6 : k ≤ 6) : iter (m_overseerlaw53_GenerateLimits_l2 p0 p1) (0, ([] : List (Int × Int × Int))) = some ((ringEs n k n).map edP) := by
  have e0 : ((0 : Int), ([] : List (Int × Int × Int))) = (fun i : Nat => ((i : Int), (ringEs n k i).map edP)) 0 := by simp [ringEs]
  refine Eq.trans (congrArg _ e0) (iter_run (f := m_overseerlaw53_GenerateLimits_l2 p0 p1) (fun i : Nat => ((i : Int), (ringEs n k i).map edP)) n (by omega) (fun i hi => ?_) ?_)
  · have hl : ((ringEs n k i).map edP).length ≤ 10000 := by
      rw [List.length_map, ringEs_len]
      exact Nat.le_trans (Nat.mul_le_mul (show i ≤ 70 by omega) (show k + 1 ≤ 7 by omega)) (by omega)
    rw [m_overseerlaw53_GenerateLimits_l2]
    dsimp only
    rw [hn, if_pos (by simp; omega), show nz (n : Int) = some () from if_neg (by omega), Option.bind_some, W_tmod (by omega) (by omega), app_eq (by simp at hl ⊢; omega), Option.bind_some, lim_row hk hk6 (by simp at hl ⊢; omega), Option.bind_some, show (i : Int) + 1 = ((i + 1 : Nat) : Int) by omega, W_nat (by omega),
      ringEs_succ, List.map_append, List.append_assoc, ringRow, List.map_cons, List.map_map]
    rfl
  · rw [m_overseerlaw53_GenerateLimits_l2]
    dsimp only
    rw [hn, if_neg (by simp)]
theorem ring_inc : Inc (allL (k + 1)) := by
  rw [allL]
  refine List.pairwise_map.2 (List.Pairwise.imp (fun {x y} h => ?_) List.pairwise_lt_range)
  exact Int.ofNat_lt.2 h
theorem limits_eq (hn : W (1 + W (p0.tmod 70)) = (n : Int)) (h0 : 0 < n) (h70 : n ≤ 70) (hk : W (p1.tmod 7) = (k : Int)) (hk6 : k ≤ 6) : m_overseerlaw53_GenerateLimits p0 p1 = some true := by
  have hel : ((ringEs n k n).map edP).length = n * (k + 1) := by rw [List.length_map, ringEs_len]
  have hbig : n * (k + 1) ≤ 490 := Nat.le_trans (Nat.mul_le_mul h70 (show k + 1 ≤ 7 by omega)) (by omega)
  have hall : (allL (k + 1)).length = k + 1 := by simp [allL]
  have hz : (0 : Int) ∈ allL (k + 1) := List.mem_map.2 ⟨0, List.mem_range.2 (by omega), rfl⟩
  have hsub0 : subB [0] (allL (k + 1)) = true := by simp [subB, hasB_true.2 hz]
  have i0 : Inc ([0] : List Int) := List.pairwise_singleton ..
  have hsub : m_alphabet_Subset [0] (allL (k + 1)) = some true := by rw [subset_eq (by simp) (by omega) i0 ring_inc, hsub0]
  have herr := ring_err h0 (by omega) (k := k) (by omega)
  have hes := ring_es h0 (k := k)
  have hc0 : setErr 32 none ([0] : List Int) = 0 := by decide
  rw [m_overseerlaw53_GenerateLimits, known53, Option.bind_some, if_neg (by simp), lim_al hk hk6, Option.bind_some, lim_es hn h0 h70 hk hk6, Option.bind_some, hn, hel]
  have hP : (allL (k + 1), (n : Int), ([0] : List Int), (ringEs n k n).map edP) = autP (ringA n k) := rfl
  rw [hP]
  by_cases hbad : 64 < n ∨ 256 < n * (k + 1)
  · have hg : m_generate_Generate (autP (ringA n k)) [0] = some (((0, 0, 0, ([] : List Bool), ([] : List (Int × Int))), ([] : List Int), ([] : List Int), 0), 3) := by
      rw [m_generate_Generate, check_eq (a := ringA n k) (by show (ringEs n k n).length < _; rw [ringEs_len]; omega) (by show (allL (k + 1)).length < _; omega) (by show ([0] : List Int).length < _; simp), Option.bind_some, herr, if_neg (by simp), checkSet2_eq (by simp), Option.bind_some, hc0, if_neg (by simp),
        show m_alphabet_Subset [0] (autP (ringA n k)).1 = some true from hsub, Option.bind_some, if_neg (by simp), if_neg (show ¬ ((autP (ringA n k)).2.1 == 0) = true from fun e => by have e2 : (n : Int) = 0 := eq_of_beq e; omega), if_pos]
      rw [Bool.or_eq_true, decide_eq_true_eq, decide_eq_true_eq]
      show (n : Int) > 64 ∨ (((ringEs n k n).map edP).length : Int) > 256
      rw [hel]; omega
    rw [hg, Option.bind_some, if_pos (by rw [Bool.or_eq_true, decide_eq_true_eq, decide_eq_true_eq]; omega)]
    rfl
  · have hG : GenIn (ringA n k) [0] n := ⟨rfl, h0, by omega, by show (ringEs n k n).length ≤ _; rw [ringEs_len]; omega, by show (allL (k + 1)).length ≤ _; omega, by simp, hes⟩
    have hg := generate_eq hG (by show ([0] : List Int).length ≤ _; simp) herr hc0 hsub
    rw [hg, Option.bind_some, if_neg (by rw [Bool.or_eq_true, decide_eq_true_eq, decide_eq_true_eq]; omega), gstart_eq hG ring_inc i0, Option.bind_some, if_neg (by simp)]
    have step : ∀ (j s : Nat) (st : List Bool × List Bool), j < 3 → s = j % n → Shows (ringA n k) [0] n s false st → ∃ st', m_overseerlaw53_GenerateLimits_l3 p0 (allL (k + 1)) ((ringEs n k n).map edP) (codeP (ringA n k) [0] n, 0) ((j : Int), st) = some (.inl (((j + 1 : Nat) : Int), st')) ∧ Shows (ringA n k) [0] n ((j + 1) % n) false st' := by
      intro j s st hj hs hv
      obtain ⟨st', h1, h2, h3⟩ := view_scan hG ring_inc i0 i0 (by simp) hc0 hsub0 hv
      have hf : ([0] : List Int).foldl (folStep (ringA n k).es) (s, false) = ((j + 1) % n, false) := by
        have : stepF (ringEs n k n) s 0 = some ((s + 1) % n) := ring_step n s hv.hs
        show folStep (ringEs n k n) (s, false) 0 = _
        rw [folStep, this, hs]
        simp [Nat.add_mod]
      rw [hf] at h2 h3
      have h4 := h2.says hG (p6 := true) (fun k hk => by rw [h3 k hk]; rfl)
      refine ⟨st', ?_, h2⟩
      rw [m_overseerlaw53_GenerateLimits_l3]
      dsimp only
      rw [if_pos (by simp; omega), h1, Option.bind_some, if_neg (by simp), hn, show nz (n : Int) = some () from if_neg (by omega), Option.bind_some, W_tmod (by omega) (by omega), hP, h4, Option.bind_some, m_overseerlaw53_GenerateLimits_j1, if_neg (by simp)]
      dsimp only
      rw [show (j : Int) + 1 = ((j + 1 : Nat) : Int) by omega, W_nat (by omega)]
    obtain ⟨s1, a1, b1⟩ := step 0 0 _ (by omega) (by simp) (Shows.start h0)
    obtain ⟨s2, a2, b2⟩ := step 1 _ _ (by omega) rfl b1
    obtain ⟨s3, a3, b3⟩ := step 2 _ _ (by omega) rfl b2
    have hi : iter (m_overseerlaw53_GenerateLimits_l3 p0 (allL (k + 1)) ((ringEs n k n).map edP) (codeP (ringA n k) [0] n, 0)) (0, List.replicate (([0] : List Int).length + 1) false, true :: List.replicate n false) = some (.inl ()) := by
      refine iter_of (n := 4) (by omega) ?_
      rw [iterF_succ, show m_overseerlaw53_GenerateLimits_l3 p0 (allL (k + 1)) ((ringEs n k n).map edP) (codeP (ringA n k) [0] n, 0) (0, List.replicate (([0] : List Int).length + 1) false, true :: List.replicate n false) = _ from a1]
      dsimp only
      rw [iterF_succ, a2]
      dsimp only
      rw [iterF_succ, a3]
      dsimp only
      rw [iterF_succ, m_overseerlaw53_GenerateLimits_l3, if_neg (by simp)]
    rw [hi]
    rfl
end
end Go.Proofs.Ytkkemchihllklaa
