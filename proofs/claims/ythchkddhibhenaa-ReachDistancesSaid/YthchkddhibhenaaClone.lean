/- The contract of slices.Clone at ints. -/
import Derived.Test.YthchkddhibhenaaOwn
import Derived.Lib.SliceRun
namespace Go.Proofs.Ythchkddhibhenaa
open Go.RowKit

theorem clone_any (v : Value) (xs : List Int) (w : World) (hr : RdI w v xs) (hl : xs.length ≤ 1000000) :
    Calls Try.prog 67 #[v] w (Ret w fun u w' => w'.ownsRow w.heap.size 3 1 u xs.length (ints xs)) := by
  obtain ⟨a, cap, rfl, hr⟩ := hr
  obtain ⟨i0, hi, hz0, hz1, hz2⟩ := info_parts Try.info_int
  cases a with
  | none =>
    obtain rfl : cap = 0 := hr.hnil rfl
    have h0 : xs = [] := List.eq_nil_of_length_eq_zero (by have := hr.hcap; omega)
    subst h0
    have he := Lib.run_eql_slice_nil (P := Try.prog) w 28 3 none 0 0 0 0 Try.underlying28
    go_enter Try.func67, Try.ntmps67
    go_wp2
    go_ret
    exact ⟨_, rfl, World.ownsRow_nil _ _ _ _, Below.refl _ _⟩
  | some ad =>
    obtain ⟨b, off, sp⟩ := ad
    obtain rfl : sp = none := hr.spot _ rfl
    have he := Lib.run_eql_slice_nil (P := Try.prog) w 28 3 (some ⟨b, off, none⟩) xs.length cap 0 0 Try.underlying28
    have hnil := World.ownsRow_lit (e := 3) (size := 1) (base := w.heap.size) w #[] 0 (Nat.le_refl _) (by simp [maxLen]) rfl
    have Hnew := Lib.hid (own_src hr)
    have Hone := Lib.hid (ints_oneCell .i64 xs)
    go_enter Try.func67, Try.ntmps67
    go_wp2_with (at_builtin; (refine wpList_append_own _ rfl _ _ 28 rfl w.heap.size 3 i0 (.int .i64 0) 1 8 Try.underlying28 hi hz0 hz1 hz2 rfl (by decide) _ 0 _ rfl hnil ⟨b, off, none⟩ xs.length cap (ints xs) rfl (by simp) (fun j u h => keep0 (w := w) (by (repeat (first | with_reducible exact Below.refl _ _ | with_reducible exact hr | (with_reducible refine belCall ?_ hr (by first | omega | (simp; done) | (simp; omega) | (simp at *; omega))) | (with_reducible refine Below.alloc ?_ (by first | omega | (simp; done) | (simp; omega) | (simp at *; omega)) _) | (with_reducible refine Below.drew ?_) | (with_reducible refine Below.setCell ?_ (by first | omega | (simp; done) | (simp; omega) | (simp at *; omega)) _)))) (Hnew.out j u h)) Hone.out (by unfold maxLen; omega) (by omega) (by simp) ?_); intro v1 w1 hown hgrow _)
    go_ret
    refine ⟨_, rfl, by simpa using hown, Below.grown (by (repeat (first | with_reducible exact Below.refl _ _ | with_reducible exact hr | (with_reducible refine belCall ?_ hr (by first | omega | (simp; done) | (simp; omega) | (simp at *; omega))) | (with_reducible refine Below.alloc ?_ (by first | omega | (simp; done) | (simp; omega) | (simp at *; omega)) _) | (with_reducible refine Below.drew ?_) | (with_reducible refine Below.setCell ?_ (by first | omega | (simp; done) | (simp; omega) | (simp at *; omega)) _)))) hgrow (by simp) (fun k e => ?_)⟩
    exact (hnil.lt k e).1
end Go.Proofs.Ythchkddhibhenaa
