/- The contract of Bits. -/
import Derived.Test.YthchkddhibhenaaOwn
namespace Go.Proofs.Ythchkddhibhenaa
open Go.RowKit

/-- Whether bit k of b is set. -/
def bitB (b : Int) (k : Nat) : Bool := b / 2 ^ k % 2 == 1
/-- The numbers below k whose bits are set. -/
def bitsL (b : Int) (k : Nat) : List Int := ((List.range k).filter fun i => bitB b i).map fun (i : Nat) => (i : Int)
theorem bitsL_true {b : Int} {k : Nat} (h : bitB b k = true) : bitsL b (k + 1) = bitsL b k ++ [(k : Int)] := by simp [bitsL, List.range_succ, List.filter_append, h]
theorem bitsL_false {b : Int} {k : Nat} (h : bitB b k = false) : bitsL b (k + 1) = bitsL b k := by simp [bitsL, List.range_succ, List.filter_append, h]
theorem bitsL_le (b : Int) (k : Nat) : (bitsL b k).length ≤ k := by
  unfold bitsL
  rw [List.length_map]
  exact Nat.le_trans (List.length_filter_le _ _) (by simp)

set_option maxRecDepth 20000 in
theorem bits_any (b : Int) (n : Nat) (w : World) (hb0 : 0 ≤ b) (hb1 : b < 256) (hn : n ≤ 8) :
    Calls Try.prog 14 #[.int .u8 b, .int .i64 n] w (Ret w fun u w' => w'.ownsRow w.heap.size 3 1 u (bitsL b n).length (ints (bitsL b n))) := by
  obtain ⟨i0, hi, hz0, hz1, hz2⟩ := info_parts Try.info_int
  go_enter Try.func14, Try.ntmps14
  go_wp2_with fail
  go_loopw [5, 6] (fun v i wr => ∃ k : Nat, k ≤ n ∧ i = .int .i64 k ∧ Below w.heap.size w wr ∧ wr.ownsRow w.heap.size 3 1 v (bitsL b k).length (ints (bitsL b k))) (fun _ i _ => n - (intOf i).toNat)
  case atStart => exact ⟨0, Nat.zero_le _, rfl, Below.refl _ _, by simpa [bitsL] using World.ownsRow_nil w w.heap.size 3 1⟩
  case round =>
    obtain ⟨k, hk, rfl, hB, hown⟩ := hrel
    have hsz := hB.size
    have hle := bitsL_le b k
    by_cases hlt : k < n
    · have hk8 : k < 8 := by omega
      have hk0 : (0 : Int) ≤ k := by omega
      have hk9 : (k : Int) < 8 := by omega
      have hbits : bits .and .u8 (b / 2 ^ k) 1 = b / 2 ^ k % 2 := by
        have q0 : 0 ≤ b / 2 ^ k := Int.ediv_nonneg hb0 (by have := Int.pow_pos (n := (2 : Int)) (m := k) (by decide); omega)
        have q1 : b / 2 ^ k < 256 := Int.lt_of_le_of_lt (Int.ediv_le_self _ hb0) hb1
        rw [u8_and _ 1 q0 q1 (by decide) (by decide), show Int.toNat 1 = 1 from rfl, Nat.and_one_is_mod]
        omega
      cases hx : bitB b k
      · have hs := Lib.hid (bitsL_false hx)
        have hx' : (bits .and .u8 (b / 2 ^ k) 1 == 1) = false := by rw [hbits]; exact hx
        clear hx hbits
        go_wp2
        go_roundw
        case rel => exact ⟨k + 1, by omega, by go_num, hB, by rw [hs.out]; exact hown⟩
        case measure => simp [intOf]; omega
      · have hs := Lib.hid (bitsL_true hx)
        have hx' : (bits .and .u8 (b / 2 ^ k) 1 == 1) = true := by rw [hbits]; exact hx
        clear hx hbits
        go_wp2_with ((at_builtin; refine wpList_append_own _ rfl _ _ 28 rfl (w.heap.size) 3 i0 (.int .i64 0) 1 8 Try.underlying28 hi hz0 hz1 hz2 rfl (by decide) _ ((bitsL b k).length) _ rfl ((hown).alloc _) ⟨_, 0, none⟩ 1 1 [.int .i64 k] rfl rfl (new_cells _ [_] _) (by simp [Value.oneCell']) (by unfold maxLen; omega) (by omega) (by first | omega | (simp; done) | (simp; omega) | (simp at *; omega)) ?_; intro v1 w1 hown1 hgrow1 _); have Hown := Lib.hid hown1; clear hown1)
        go_roundw
        case rel =>
          refine ⟨k + 1, by omega, by go_num, Below.grown (by (repeat (first | with_reducible exact Below.refl _ _ | with_reducible exact hB | (with_reducible refine belCall ?_ hB (by first | omega | (simp; done) | (simp; omega) | (simp at *; omega))) | (with_reducible refine Below.alloc ?_ (by first | omega | (simp; done) | (simp; omega) | (simp at *; omega)) _) | (with_reducible refine Below.drew ?_) | (with_reducible refine Below.setCell ?_ (by first | omega | (simp; done) | (simp; omega) | (simp at *; omega)) _)))) hgrow1 (by first | omega | (simp; done) | (simp; omega) | (simp at *; omega)) (fun j e => (hown.lt j e).1), ?_⟩
          have h1 := Hown.out
          rw [hs.out]
          simpa [ints] using h1
        case measure => simp [intOf]; omega
    · go_wp2
      go_ret
      obtain rfl : n = k := by omega
      exact ⟨_, rfl, hown, hB⟩
end Go.Proofs.Ythchkddhibhenaa
