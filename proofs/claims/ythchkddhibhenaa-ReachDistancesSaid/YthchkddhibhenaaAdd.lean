/- The contract of add. -/
import Derived.Test.YthchkddhibhenaaOwn
import Derived.Test.YthchkddhibhenaaRow
import Derived.BigQuiet
namespace Go.Proofs.Ythchkddhibhenaa
open Go.RowKit

/-- Where a number stands, or would stand, in an increasing list. -/
def atI (xs : List Int) (n : Int) : Nat := (xs.takeWhile fun x => decide (x < n)).length
/-- The list with the number, if it is new. -/
def addL (xs : List Int) (n : Int) : List Int := if xs[atI xs n]? = some n then xs else xs.take (atI xs n) ++ [n] ++ xs.drop (atI xs n)
theorem atI_le (xs : List Int) (n : Int) : atI xs n ≤ xs.length := by
  unfold atI; exact (List.takeWhile_prefix _).length_le
theorem atI_eq {xs : List Int} {n : Int} {k : Nat} (hk : k ≤ xs.length) (h1 : ∀ j, (h : j < k) → xs[j] < n) (h2 : ∀ h : k < xs.length, ¬ xs[k] < n) : atI xs n = k := by
  unfold atI
  induction xs generalizing k with
  | nil => simp at hk; simp [hk]
  | cons a l ih =>
    cases k with
    | zero =>
      have := h2 (by simp)
      rw [List.takeWhile_cons_of_neg (by simpa using this)]; rfl
    | succ k =>
      have h3 := h1 0 (by omega)
      rw [List.takeWhile_cons_of_pos (by simpa using h3), List.length_cons, ih (k := k) (by simpa using hk)]
      · intro j hj; have := h1 (j + 1) (by omega); simpa using this
      · intro hj; have := h2 (by simpa using hj); simpa using this

theorem Row.rdI2 {w : World} {B : Nat} {tag : Nat → Nat} {t : TypeId} {v : Value} {xs : List Int} {p : Prop} (h : Row w B tag 1 t 1 v xs.length (ints xs)) : RdI w v xs ∧ (p → ∃ tag, Row w B tag 1 t 1 v xs.length (ints xs)) := ⟨h.rdI, fun _ => ⟨tag, h⟩⟩
theorem Row.rdI3 {w : World} {B : Nat} {tag : Nat → Nat} {t : TypeId} {v : Value} {xs : List Int} (h : Row w B tag 1 t 1 v xs.length (ints xs)) : RdI w v xs ∧ ∃ tag, Row w B tag 1 t 1 v xs.length (ints xs) := ⟨h.rdI, tag, h⟩
set_option maxRecDepth 20000 in
theorem add_row (v : Value) (xs : List Int) (n : Int) (w : World) (hr : RdI w v xs) (hl : xs.length ≤ 1000000) :
    Calls Try.prog 51 #[v, .int .i64 n] w (Ret w fun u w' => RdI w' u (addL xs n) ∧ (n ∉ xs → ∃ tag, Row w' w.heap.size tag 1 3 1 u (addL xs n).length (ints (addL xs n)))) := by
  have hr0 := Lib.hid hr
  obtain ⟨a, cap, rfl, hr⟩ := hr
  obtain ⟨i0, hi, hz0, hz1, hz2⟩ := info_parts Try.info_int
  go_enter Try.func51, Try.ntmps51
  go_wp2_with fail
  go_loop [5] (fun i => ∃ k : Nat, k ≤ xs.length ∧ i = .int .i64 k ∧ Hid (∀ j, (h : j < k) → ∀ h2 : j < xs.length, xs[j] < n)) (fun i => xs.length - (intOf i).toNat)
  case atStart => exact ⟨0, Nat.zero_le _, rfl, fun j h => absurd h (by omega)⟩
  case round =>
    obtain ⟨k, hk, rfl, hn⟩ := hrel
    by_cases hlt : k < xs.length
    · obtain ⟨b, off, rfl, hc⟩ := hr.at_int k hlt
      by_cases hx : xs[k] < n
      · have Hx := Lib.hid hx
        generalize xs[k] = y at hc hx
        go_wp2
        go_round
        case rel => exact ⟨k + 1, by omega, by go_num, fun j hj h2 => by
          by_cases e : j = k
          · subst e; exact Hx.out
          · exact hn.out j (by omega) h2⟩
        case measure => simp [intOf]; omega
      · have hat : Hid (atI xs n = k) := atI_eq hk (fun j hj => hn.out j hj (by omega)) (fun _ => hx)
        by_cases he : xs[k] = n
        · have hadd : Hid (addL xs n = xs) := by
            show _ = _
            rw [addL, hat.out, List.getElem?_eq_getElem hlt, he, if_pos rfl]
          have hmem : Hid (n ∈ xs) := by
            show _ ∈ _
            rw [← he]; exact List.getElem_mem hlt
          rw [he] at hc
          clear he hx
          go_wp2
          go_ret
          exact ⟨_, rfl, by rw [hadd.out]; exact ⟨hr0.out, fun h => absurd hmem.out h⟩, Below.refl _ _⟩
        · have hadd : Hid (addL xs n = xs.take k ++ [n] ++ xs.drop k) := by
            show _ = _
            rw [addL, hat.out, List.getElem?_eq_getElem hlt, if_neg (by simpa using he)]
          have hcap := hr.hcap
          have hne : ¬ cap = k := by omega
          have hx' : n < xs[k] := by omega
          have hx2 : (xs[k] == n) = false := by rw [beq_eq_false_iff_ne]; exact he
          have Hsrc := Lib.hid (own_src hr)
          have Hs1 : Hid (∀ j u, (ints (xs.take k))[j]? = some u → w.cell? ((⟨b, off, none⟩ : Addr).add j) = some u) := by
            intro j u hu
            refine Hsrc.out j u ?_
            rw [ints, List.map_take, List.getElem?_take] at hu
            split at hu
            · exact hu
            · cases hu
          have Hs3 : Hid (∀ j u, (ints (xs.drop k))[j]? = some u → w.cell? ((⟨b, off + k, none⟩ : Addr).add j) = some u) := by
            intro j u hu
            rw [ints, List.map_drop, List.getElem?_drop] at hu
            have h1 := Hsrc.out (k + j) u hu
            rw [Addr.add_lit] at h1 ⊢
            rw [Nat.add_assoc]; exact h1
          have hrow := Own.new w w.heap.size (tagUp (fun _ => 0) w.heap.size 1) 1 #[] 3 (Nat.le_refl _) (tagUp_at _ _ _)
          have hr0 : Row (w.alloc (.cells #[] 3)) w.heap.size (tagUp (fun _ => 0) w.heap.size 1) 1 3 1 (.slice (some ⟨w.heap.size, 0, none⟩) 0 0) 0 [] := ⟨by simp, .inr ⟨_, 0, 0, _, rfl, hrow, Nat.le_refl _, by simp [maxLen], by simp, by simp⟩⟩
          have hB0 := bel_alloc w (.cells #[] 3)
          clear he hx hrow
          generalize xs[k] = y at *
          go_wp2_with (first
            | (at_builtin; refine wpList_append_row rfl _ _ 28 rfl 3 i0 (.int .i64 0) 8 Try.underlying28 hi hz0 hz1 hz2 rfl rfl hr0 (some ⟨b, off, none⟩) k cap (ints (xs.take k)) rfl (by simp; omega) (fun e => by cases e) (fun ad e j u hu => by cases e; exact keep0 hB0 (Hs1.out j u hu)) (ints_oneCell .i64 _) (by unfold maxLen; omega) (by omega) hB0.size ?_; intro v1 w1 tag1 hr1 ht1; simp only [Nat.zero_add, List.nil_append] at hr1; have hB1 := belTurn hB0 ht1 hB0.size; obtain ⟨a1, c1, rfl⟩ := hr1.val; have hr1' := hr1.below (bel_alloc w1 (.cells #[.int .i64 n] 3)))
            | (at_builtin; refine wpList_append_row rfl _ _ 28 rfl 3 i0 (.int .i64 0) 8 Try.underlying28 hi hz0 hz1 hz2 rfl rfl hr1' (some ⟨_, 0, none⟩) 1 1 [.int .i64 n] rfl (by simp) (fun e => by cases e) (fun ad e => by cases e; exact new_cells_at _ _ rfl) (by simp [Value.oneCell']) (by unfold maxLen; omega) (by omega) (Nat.le_trans hB1.size (by simp)) ?_; intro v2 w2 tag2 hr2 ht2; have hB2 := belTurn (belCall hB1 (bel_alloc w1 (.cells #[.int .i64 n] 3)) hB1.size) ht2 (Nat.le_trans hB1.size (by simp)); obtain ⟨a2, c2, rfl⟩ := hr2.val)
            | (at_builtin; refine wpList_append_row rfl _ _ 28 rfl 3 i0 (.int .i64 0) 8 Try.underlying28 hi hz0 hz1 hz2 rfl rfl hr2 (some ⟨b, off + k, none⟩) (xs.length - k) (cap - k) (ints (xs.drop k)) rfl (by simp) (fun e => by cases e) (fun ad e j u hu => by cases e; exact keep0 hB2 (Hs3.out j u hu)) (ints_oneCell .i64 _) (by unfold maxLen; omega) (by omega) hB2.size ?_; intro v3 w3 tag3 hr3 ht3; have hB3 := belTurn hB2 ht3 hB2.size; have Hr3 := Lib.hid hr3; clear hr3))
          go_ret
          refine ⟨_, rfl, ?_, hB3⟩
          rw [hadd.out]
          have h9 := Hr3.out
          have e1 : k + 1 + (xs.length - k) = (xs.take k ++ [n] ++ xs.drop k).length := by simp; omega
          rw [e1] at h9
          first | refine Row.rdI2 (tag := tag3) ?_ | refine Row.rdI3 (tag := tag3) ?_
          simpa [ints] using h9
    · have hkl : k = xs.length := by omega
      have hat : Hid (atI xs n = k) := atI_eq hk (fun j hj => hn.out j hj (by omega)) (fun h => absurd h hlt)
      have hadd : Hid (addL xs n = xs ++ [n]) := by
        show _ = _
        rw [addL, hat.out, List.getElem?_eq_none (by omega), if_neg (by simp), List.take_of_length_le (by omega), List.drop_of_length_le (by omega), List.append_nil]
      have hrow := Own.new w w.heap.size (tagUp (fun _ => 0) w.heap.size 1) 1 #[] 3 (Nat.le_refl _) (tagUp_at _ _ _)
      have hrw : Row (w.alloc (.cells #[] 3)) w.heap.size (tagUp (fun _ => 0) w.heap.size 1) 1 3 1 (.slice (some ⟨w.heap.size, 0, none⟩) 0 0) 0 [] := ⟨by simp, .inr ⟨_, 0, 0, _, rfl, hrow, Nat.le_refl _, by simp [maxLen], by simp, by simp⟩⟩
      have hB0 := bel_alloc w (.cells #[] 3)
      have hcap := hr.hcap
      clear hrow
      subst hkl
      cases a with
      | none =>
        obtain rfl : cap = 0 := hr.hnil rfl
        have h0 : xs = [] := List.eq_nil_of_length_eq_zero (by omega)
        subst h0
        go_wp2_with (first
            | (at_builtin; refine wpList_append_row rfl _ _ 28 rfl 3 i0 (.int .i64 0) 8 Try.underlying28 hi hz0 hz1 hz2 rfl rfl hrw none 0 0 [] rfl (by simp) (fun _ => ⟨rfl, rfl⟩) (fun ad e => by cases e) (by simp) (by unfold maxLen; omega) (by omega) hB0.size ?_; intro v1 w1 tag1 hr1 ht1; simp only [Nat.zero_add, List.nil_append] at hr1; have hB1 := belTurn hB0 ht1 hB0.size; obtain ⟨a1, c1, rfl⟩ := hr1.val; have hr1' := hr1.below (bel_alloc w1 (.cells #[.int .i64 n] 3)))
            | (at_builtin; refine wpList_append_row rfl _ _ 28 rfl 3 i0 (.int .i64 0) 8 Try.underlying28 hi hz0 hz1 hz2 rfl rfl hr1' (some ⟨_, 0, none⟩) 1 1 [.int .i64 n] rfl (by simp) (fun e => by cases e) (fun ad e => by cases e; exact new_cells_at _ _ rfl) (by simp [Value.oneCell']) (by unfold maxLen; omega) (by omega) (Nat.le_trans hB1.size (by simp)) ?_; intro v2 w2 tag2 hr2 ht2; have hB2 := belTurn (belCall hB1 (bel_alloc w1 (.cells #[.int .i64 n] 3)) hB1.size) ht2 (Nat.le_trans hB1.size (by simp)); obtain ⟨a2, c2, rfl⟩ := hr2.val)
            | (at_builtin; refine wpList_append_row rfl _ _ 28 rfl 3 i0 (.int .i64 0) 8 Try.underlying28 hi hz0 hz1 hz2 rfl rfl hr2 none 0 0 [] rfl (by simp) (fun _ => ⟨rfl, rfl⟩) (fun ad e => by cases e) (by simp) (by unfold maxLen; omega) (by omega) hB2.size ?_; intro v3 w3 tag3 hr3 ht3; have hB3 := belTurn hB2 ht3 hB2.size; have Hr3 := Lib.hid hr3; clear hr3))
        go_ret
        refine ⟨_, rfl, ?_, hB3⟩
        rw [hadd.out]
        have h9 := Hr3.out
        first | refine Row.rdI2 (tag := tag3) ?_ | refine Row.rdI3 (tag := tag3) ?_
        simpa [ints] using h9
      | some ad =>
        obtain ⟨b, off, sp⟩ := ad
        obtain rfl : sp = none := hr.spot _ rfl
        have Hsrc := Lib.hid (own_src hr)
        by_cases hc : cap = xs.length
        · subst hc
          go_wp2_with (first
              | (at_builtin; refine wpList_append_row rfl _ _ 28 rfl 3 i0 (.int .i64 0) 8 Try.underlying28 hi hz0 hz1 hz2 rfl rfl hrw (some ⟨b, off, none⟩) xs.length xs.length (ints xs) rfl (by simp) (fun e => (by first | cases e | exact ⟨rfl, rfl⟩)) (fun ad e j u hu => by cases e; exact keep0 hB0 (Hsrc.out j u hu)) (ints_oneCell .i64 _) (by unfold maxLen; omega) (by omega) hB0.size ?_; intro v1 w1 tag1 hr1 ht1; simp only [Nat.zero_add, List.nil_append] at hr1; have hB1 := belTurn hB0 ht1 hB0.size; obtain ⟨a1, c1, rfl⟩ := hr1.val; have hr1' := hr1.below (bel_alloc w1 (.cells #[.int .i64 n] 3)))
              | (at_builtin; refine wpList_append_row rfl _ _ 28 rfl 3 i0 (.int .i64 0) 8 Try.underlying28 hi hz0 hz1 hz2 rfl rfl hr1' (some ⟨_, 0, none⟩) 1 1 [.int .i64 n] rfl (by simp) (fun e => by cases e) (fun ad e => by cases e; exact new_cells_at _ _ rfl) (by simp [Value.oneCell']) (by unfold maxLen; omega) (by omega) (Nat.le_trans hB1.size (by simp)) ?_; intro v2 w2 tag2 hr2 ht2; have hB2 := belTurn (belCall hB1 (bel_alloc w1 (.cells #[.int .i64 n] 3)) hB1.size) ht2 (Nat.le_trans hB1.size (by simp)); obtain ⟨a2, c2, rfl⟩ := hr2.val)
              | (at_builtin; refine wpList_append_row rfl _ _ 28 rfl 3 i0 (.int .i64 0) 8 Try.underlying28 hi hz0 hz1 hz2 rfl rfl hr2 (some ⟨b, off, none⟩) 0 0 [] rfl (by simp) (fun e => by cases e) (fun ad e j u hu => by simp at hu) (by simp) (by unfold maxLen; omega) (by omega) hB2.size ?_; intro v3 w3 tag3 hr3 ht3; have hB3 := belTurn hB2 ht3 hB2.size; have Hr3 := Lib.hid hr3; clear hr3))
          go_ret
          refine ⟨_, rfl, ?_, hB3⟩
          rw [hadd.out]
          have h9 := Hr3.out
          first | refine Row.rdI2 (tag := tag3) ?_ | refine Row.rdI3 (tag := tag3) ?_
          simpa [ints] using h9
        · go_wp2_with (first
              | (at_builtin; refine wpList_append_row rfl _ _ 28 rfl 3 i0 (.int .i64 0) 8 Try.underlying28 hi hz0 hz1 hz2 rfl rfl hrw (some ⟨b, off, none⟩) xs.length cap (ints xs) rfl (by simp) (fun e => (by first | cases e | exact ⟨rfl, rfl⟩)) (fun ad e j u hu => by cases e; exact keep0 hB0 (Hsrc.out j u hu)) (ints_oneCell .i64 _) (by unfold maxLen; omega) (by omega) hB0.size ?_; intro v1 w1 tag1 hr1 ht1; simp only [Nat.zero_add, List.nil_append] at hr1; have hB1 := belTurn hB0 ht1 hB0.size; obtain ⟨a1, c1, rfl⟩ := hr1.val; have hr1' := hr1.below (bel_alloc w1 (.cells #[.int .i64 n] 3)))
              | (at_builtin; refine wpList_append_row rfl _ _ 28 rfl 3 i0 (.int .i64 0) 8 Try.underlying28 hi hz0 hz1 hz2 rfl rfl hr1' (some ⟨_, 0, none⟩) 1 1 [.int .i64 n] rfl (by simp) (fun e => by cases e) (fun ad e => by cases e; exact new_cells_at _ _ rfl) (by simp [Value.oneCell']) (by unfold maxLen; omega) (by omega) (Nat.le_trans hB1.size (by simp)) ?_; intro v2 w2 tag2 hr2 ht2; have hB2 := belTurn (belCall hB1 (bel_alloc w1 (.cells #[.int .i64 n] 3)) hB1.size) ht2 (Nat.le_trans hB1.size (by simp)); obtain ⟨a2, c2, rfl⟩ := hr2.val)
              | (at_builtin; refine wpList_append_row rfl _ _ 28 rfl 3 i0 (.int .i64 0) 8 Try.underlying28 hi hz0 hz1 hz2 rfl rfl hr2 (some ⟨b, off + xs.length, none⟩) 0 (cap - xs.length) [] rfl (by simp) (fun e => by cases e) (fun ad e j u hu => by simp at hu) (by simp) (by unfold maxLen; omega) (by omega) hB2.size ?_; intro v3 w3 tag3 hr3 ht3; have hB3 := belTurn hB2 ht3 hB2.size; have Hr3 := Lib.hid hr3; clear hr3))
          go_ret
          refine ⟨_, rfl, ?_, hB3⟩
          rw [hadd.out]
          have h9 := Hr3.out
          first | refine Row.rdI2 (tag := tag3) ?_ | refine Row.rdI3 (tag := tag3) ?_
          simpa [ints] using h9
theorem add_any (v : Value) (xs : List Int) (n : Int) (w : World) (hr : RdI w v xs) (hl : xs.length ≤ 1000000) :
    Calls Try.prog 51 #[v, .int .i64 n] w (Ret w fun u w' => RdI w' u (addL xs n)) :=
  (add_row v xs n w hr hl).mono fun _ _ ⟨u, he, hu, hb⟩ => ⟨u, he, hu.1, hb⟩
end Go.Proofs.Ythchkddhibhenaa
