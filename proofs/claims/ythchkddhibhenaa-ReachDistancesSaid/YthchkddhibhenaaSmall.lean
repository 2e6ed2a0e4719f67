/- The contracts of same, All and Bits. -/
import Derived.Test.YthchkddhibhenaaOwn
import Derived.BigQuiet
import Derived.Deep.QuietTactic
namespace Go.Proofs.Ythchkddhibhenaa
open Go.RowKit

def sameB (xs ys : List Int) : Bool := xs == ys
theorem sameB_true {xs ys : List Int} : sameB xs ys = true ↔ xs = ys := by simp [sameB]

theorem same_any (v1 v2 : Value) (xs ys : List Int) (w : World) (h1 : RdI w v1 xs) (h2 : RdI w v2 ys) (hl1 : xs.length ≤ 1000000) (hl2 : ys.length ≤ 1000000) :
    Calls Try.prog 19 #[v1, v2] w (Ret w fun u _ => u = .bool (sameB xs ys)) := by
  obtain ⟨a, cap, rfl, hr1⟩ := h1
  obtain ⟨a2, cap2, rfl, hr2⟩ := h2
  go_enter Try.func19, Try.ntmps19
  by_cases hlen : xs.length = ys.length
  · have hb : ((xs.length : Int) != ys.length) = false := by simp [hlen]
    have hle : xs.length ≤ ys.length := by omega
    have Hlen := Lib.hid hlen
    clear hlen
    go_wp2_with fail
    go_loopw [5] (fun i wr => ∃ k : Nat, k ≤ xs.length ∧ i = .int .i64 k ∧ Below w.heap.size w wr ∧ Hid (xs.take k = ys.take k)) (fun i _ => xs.length - (intOf i).toNat)
    case atStart => exact ⟨0, Nat.zero_le _, rfl, Below.refl _ _, rfl⟩
    case round =>
      obtain ⟨k, hk, rfl, hB, hn⟩ := hrel
      by_cases hlt : k < xs.length
      · obtain ⟨b, off, rfl, hc⟩ := hr1.at_int k hlt
        obtain ⟨b2, off2, rfl, hc2⟩ := hr2.at_int k (by omega)
        replace hc := keep0 hB hc
        replace hc2 := keep0 hB hc2
        have Hs1 := Lib.hid (take_snoc xs k hlt)
        have Hs2 := Lib.hid (take_snoc ys k (by omega))
        go_wp2_with fail
        go_region
        go_wp2
        · have hx : (xs[k] != ys[k]) = true := by assumption
          go_ret
          refine ⟨_, rfl, congrArg Value.bool ?_, hB.drew⟩
          symm
          rw [Bool.eq_false_iff]
          intro h
          have h := sameB_true.1 h
          subst h
          simp at hx
        · have hx : (xs[k] != ys[k]) = false := by assumption
          go_roundw
          case rel => exact ⟨k + 1, by omega, by go_num, hB.drew, by show _ = _; rw [Hs1.out, Hs2.out, hn.out]; simp at hx; rw [hx]⟩
          case measure => simp [intOf]; omega
      · go_wp2
        go_ret
        refine ⟨_, rfl, congrArg Value.bool ?_, hB⟩
        symm
        rw [sameB_true]
        have h := hn.out
        rwa [List.take_of_length_le (by omega), List.take_of_length_le (by have := Hlen.out; omega)] at h
  · have hb : ((xs.length : Int) != ys.length) = true := by rw [bne_iff_ne]; omega
    have Hlen := Lib.hid hlen
    clear hlen
    go_wp2_with fail
    go_ret
    refine ⟨_, rfl, congrArg Value.bool ?_, Below.refl _ _⟩
    symm
    rw [Bool.eq_false_iff]
    intro h
    exact Hlen.out (by rw [sameB_true.1 h])

def allL (n : Nat) : List Int := (List.range n).map fun (i : Nat) => (i : Int)
theorem allL_succ (n : Nat) : allL (n + 1) = allL n ++ [(n : Int)] := by simp [allL, List.range_succ]
theorem allL_length (n : Nat) : (allL n).length = n := by simp [allL]
theorem all_any (n : Nat) (w : World) (hn : n ≤ 1000000) :
    Calls Try.prog 20 #[.int .i64 n] w (Ret w fun u w' => w'.ownsRow w.heap.size 3 1 u (allL n).length (ints (allL n))) := by
  obtain ⟨i0, hi, hz0, hz1, hz2⟩ := info_parts Try.info_int
  go_enter Try.func20, Try.ntmps20
  go_wp2_with fail
  go_loopw [3, 4] (fun v i wr => ∃ k : Nat, k ≤ n ∧ i = .int .i64 k ∧ Below w.heap.size w wr ∧ wr.ownsRow w.heap.size 3 1 v (allL k).length (ints (allL k))) (fun _ i _ => n - (intOf i).toNat)
  case atStart => exact ⟨0, Nat.zero_le _, rfl, Below.refl _ _, by simpa [allL] using World.ownsRow_nil w w.heap.size 3 1⟩
  case round =>
    obtain ⟨k, hk, rfl, hB, hown⟩ := hrel
    have hle := allL_length k
    have hsz := hB.size
    by_cases hlt : k < n
    · have hs := Lib.hid (allL_succ k)
      have hle' : (allL k).length ≤ 1000000 := by omega
      clear hle
      go_wp2_with ((at_builtin; refine wpList_append_own _ rfl _ _ 28 rfl (w.heap.size) 3 i0 (.int .i64 0) 1 8 Try.underlying28 hi hz0 hz1 hz2 rfl (by decide) _ ((allL k).length) _ rfl ((hown).alloc _) ⟨_, 0, none⟩ 1 1 [.int .i64 k] rfl rfl (new_cells _ [_] _) (by simp [Value.oneCell']) (by unfold maxLen; omega) (by omega) (by first | omega | (simp; done) | (simp; omega) | (simp at *; omega)) ?_; intro v1 w1 hown1 hgrow1 _); have Hown := Lib.hid hown1; clear hown1)
      go_roundw
      case rel =>
        refine ⟨k + 1, by omega, by go_num, Below.grown (by (repeat (first | with_reducible exact Below.refl _ _ | with_reducible exact hB | (with_reducible refine belCall ?_ hB (by first | omega | (simp; done) | (simp; omega) | (simp at *; omega))) | (with_reducible refine Below.alloc ?_ (by first | omega | (simp; done) | (simp; omega) | (simp at *; omega)) _) | (with_reducible refine Below.drew ?_) | (with_reducible refine Below.setCell ?_ (by first | omega | (simp; done) | (simp; omega) | (simp at *; omega)) _)))) hgrow1 (by first | omega | (simp; done) | (simp; omega) | (simp at *; omega)) (fun j e => (hown.lt j e).1), ?_⟩
        have h1 := Hown.out
        rw [hs.out]
        simpa [ints] using h1
      case measure => simp [intOf]; omega
    · clear hle
      go_wp2
      go_ret
      obtain rfl : n = k := by omega
      exact ⟨_, rfl, hown, hB⟩
end Go.Proofs.Ythchkddhibhenaa
