/- Contracts of the functions that only read lists of ints. -/
import Derived.Test.YthchkddhibhenaaChecked
import Derived.Test.YthchkddhibhenaaBase
namespace Go.Proofs.Ythchkddhibhenaa
open Go.RowKit

theorem take_snoc {α : Type} (xs : List α) (k : Nat) (h : k < xs.length) : xs.take (k + 1) = xs.take k ++ [xs[k]] := by
  rw [List.take_succ_eq_append_getElem h]

theorem notin_snoc {xs : List Int} {k : Nat} {n : Int} (h : k < xs.length) (hn : Hid (n ∉ xs.take k)) (hx : (xs[k] == n) = false) : Hid (n ∉ xs.take (k + 1)) := by
  show n ∉ xs.take (k + 1)
  rw [take_snoc xs k h, List.mem_append]
  rintro (h1 | h1)
  · exact hn.out h1
  · rw [List.mem_singleton.1 h1, beq_self_eq_true] at hx; cases hx

theorem notin_all {xs : List Int} {k : Nat} {n : Int} (hk : k ≤ xs.length) (h : ¬ k < xs.length) (hn : Hid (n ∉ xs.take k)) : n ∉ xs := by
  have h1 := hn.out
  rwa [List.take_of_length_le (by omega)] at h1

theorem has_any (v : Value) (xs : List Int) (n : Int) (w : World) (hr : RdI w v xs) (hl : xs.length ≤ 1000000) :
    Calls Try.prog 50 #[v, .int .i64 n] w fun e w' => e = .returned (.bool (hasB xs n)) ∧ w = w' := by
  obtain ⟨a, cap, rfl, hr⟩ := hr
  go_enter Try.func50, Try.ntmps50
  go_wp2
  go_loop [5] (fun i => ∃ k : Nat, k ≤ xs.length ∧ i = .int .i64 k ∧ Hid (n ∉ xs.take k)) (fun i => xs.length - (intOf i).toNat)
  case atStart => exact ⟨0, Nat.zero_le _, rfl, by simp [Hid]⟩
  case round =>
    obtain ⟨k, hk, rfl, hn⟩ := hrel
    by_cases hlt : k < xs.length
    · obtain ⟨b, off, rfl, hc⟩ := hr.at_int k hlt
      go_wp2
      · have hx : (xs[k] == n) = true := by assumption
        go_ret
        exact ⟨ret_bool (hasB_true.2 (eq_of_beq hx ▸ List.getElem_mem hlt)).symm, rfl⟩
      · have hx : (xs[k] == n) = false := by assumption
        go_round
        case rel => exact ⟨k + 1, by omega, by go_num, notin_snoc hlt hn hx⟩
        case measure => simp [intOf]; omega
    · go_wp2
      go_ret
      exact ⟨ret_bool (hasB_false.2 (notin_all hk hlt hn)).symm, rfl⟩

theorem acheckSet_any (v : Value) (xs : List Int) (n : Int) (w : World) (hr : RdI w v xs) (hl : xs.length ≤ 1000000) :
    Calls Try.prog 77 #[v, .int .i64 n] w fun e w' => e = .returned (.int .i64 (setErr n none xs)) ∧ w = w' := by
  obtain ⟨a, cap, rfl, hr⟩ := hr
  go_enter Try.func77, Try.ntmps77
  go_wp2
  go_loop [9] (fun i => ∃ k : Nat, k ≤ xs.length ∧ i = .int .i64 k ∧ Hid (setErr n none xs = setErr n (prevAt xs k) (xs.drop k))) (fun i => xs.length - (intOf i).toNat)
  case atStart => exact ⟨0, Nat.zero_le _, rfl, by simp [Hid, prevAt]⟩
  case round =>
    obtain ⟨k, hk, rfl, hn⟩ := hrel
    by_cases hlt : k < xs.length
    · obtain ⟨b, off, rfl, hc⟩ := hr.at_int k hlt
      obtain ⟨b', off', hb', hc'⟩ := hr.at_int (k - 1) (by omega)
      cases hb'
      by_cases h0 : 0 < k
      all_goals
        go_wp2
        all_goals first
          | (go_ret; exact ⟨ret_int (hn.out.trans (setErr_2 hlt (by omega))).symm, rfl⟩)
          | (go_ret; exact ⟨ret_int (hn.out.trans (setErr_5 hlt (by omega) (by omega) (by omega))).symm, rfl⟩)
          | (go_round
             case rel => exact ⟨k + 1, by omega, by go_num, hn.out.trans (setErr_next hlt (by omega) (by omega))⟩
             case measure => simp [intOf]; omega)
    · go_wp2
      go_ret
      exact ⟨ret_int (hn.out.trans (setErr_end hlt)).symm, rfl⟩

theorem rcheckSet_any (v : Value) (xs : List Int) (n : Int) (w : World) (hr : RdI w v xs) (hl : xs.length ≤ 1000000) :
    Calls Try.prog 61 #[v, .int .i64 n] w fun e w' => e = .returned (.int .i64 (setErr n none xs)) ∧ w = w' := by
  obtain ⟨a, cap, rfl, hr⟩ := hr
  go_enter Try.func61, Try.ntmps61
  go_wp2
  go_loop [9] (fun i => ∃ k : Nat, k ≤ xs.length ∧ i = .int .i64 k ∧ Hid (setErr n none xs = setErr n (prevAt xs k) (xs.drop k))) (fun i => xs.length - (intOf i).toNat)
  case atStart => exact ⟨0, Nat.zero_le _, rfl, by simp [Hid, prevAt]⟩
  case round =>
    obtain ⟨k, hk, rfl, hn⟩ := hrel
    by_cases hlt : k < xs.length
    · obtain ⟨b, off, rfl, hc⟩ := hr.at_int k hlt
      obtain ⟨b', off', hb', hc'⟩ := hr.at_int (k - 1) (by omega)
      cases hb'
      by_cases h0 : 0 < k
      all_goals
        go_wp2
        all_goals first
          | (go_ret; exact ⟨ret_int (hn.out.trans (setErr_2 hlt (by omega))).symm, rfl⟩)
          | (go_ret; exact ⟨ret_int (hn.out.trans (setErr_5 hlt (by omega) (by omega) (by omega))).symm, rfl⟩)
          | (go_round
             case rel => exact ⟨k + 1, by omega, by go_num, hn.out.trans (setErr_next hlt (by omega) (by omega))⟩
             case measure => simp [intOf]; omega)
    · go_wp2
      go_ret
      exact ⟨ret_int (hn.out.trans (setErr_end hlt)).symm, rfl⟩

/-- The place of a number in a list, or -1. -/
def idxI (xs : List Int) (n : Int) : Int := if n ∈ xs then (xs.idxOf n : Int) else -1
theorem idxI_at {xs : List Int} {n : Int} {k : Nat} (h : k < xs.length) (hn : Hid (n ∉ xs.take k)) (hx : (n == xs[k]) = true) : idxI xs n = k := by
  have hx' := eq_of_beq hx
  have hm : n ∈ xs := hx' ▸ List.getElem_mem h
  rw [idxI, if_pos hm]
  congr 1
  have h1 := hn.out
  rw [← List.take_append_drop k xs, List.idxOf_append, if_neg h1, List.drop_eq_getElem_cons h, ← hx', List.idxOf_cons_self, List.length_take]
  omega
theorem idxI_none {xs : List Int} {n : Int} (h : n ∉ xs) : idxI xs n = -1 := by rw [idxI, if_neg h]
theorem idxI_hasB (xs : List Int) (n : Int) : decide (0 ≤ idxI xs n) = hasB xs n := by
  by_cases h : n ∈ xs
  · rw [hasB_true.2 h, idxI, if_pos h]; simp
  · rw [hasB_false.2 h, idxI_none h]; rfl

theorem index_any (v : Value) (xs : List Int) (n : Int) (w : World) (hr : RdI w v xs) (hl : xs.length ≤ 1000000) :
    Calls Try.prog 80 #[v, .int .i64 n] w fun e w' => e = .returned (.int .i64 (idxI xs n)) ∧ w = w' := by
  obtain ⟨a, cap, rfl, hr⟩ := hr
  go_enter Try.func80, Try.ntmps80
  go_wp2
  go_loop [8] (fun i => ∃ k : Nat, k ≤ xs.length ∧ i = .int .i64 k ∧ Hid (n ∉ xs.take k)) (fun i => xs.length - (intOf i).toNat)
  case atStart => exact ⟨0, Nat.zero_le _, rfl, by simp [Hid]⟩
  case round =>
    obtain ⟨k, hk, rfl, hn⟩ := hrel
    by_cases hlt : k < xs.length
    · obtain ⟨b, off, rfl, hc⟩ := hr.at_int k hlt
      go_wp2
      · have hx : (n == xs[k]) = true := by assumption
        go_ret
        exact ⟨ret_int (idxI_at hlt hn hx).symm, rfl⟩
      · have hx : (n == xs[k]) = false := by assumption
        go_round
        case rel => exact ⟨k + 1, by omega, by go_num, notin_snoc hlt hn (by rw [Bool.eq_false_iff] at hx ⊢; intro h; exact hx (by rw [eq_of_beq h]; exact beq_self_eq_true _))⟩
        case measure => simp [intOf]; omega
    · go_wp2
      go_ret
      exact ⟨ret_int (idxI_none (notin_all hk hlt hn)).symm, rfl⟩

theorem contains_any (v : Value) (xs : List Int) (n : Int) (w : World) (hr : RdI w v xs) (hl : xs.length ≤ 1000000) :
    Calls Try.prog 57 #[v, .int .i64 n] w fun e w' => e = .returned (.bool (hasB xs n)) ∧ w = w' := by
  go_enter Try.func57, Try.ntmps57
  go_wp2_with (go_at_call 80; ((with_reducible refine (index_any _ _ _ _ hr hl).mono ?_); rintro e w1 ⟨rfl, rfl⟩))
  go_ret
  exact ⟨ret_bool (idxI_hasB xs n), rfl⟩
end Go.Proofs.Ythchkddhibhenaa
