/- The two functions that Path hands to path. -/
import Derived.Test.YthchkddhibhenaaPath
import Derived.Test.YthchkddhibhenaaReach
namespace Go.Proofs.Ythchkddhibhenaa
open Go.RowKit

theorem path1_any (be : Nat) (v : Value) (fl : List Bool) (s : Int) (w : World) (hb : w.cell? ⟨be, 0, none⟩ = some v) (hf : RdB w v fl) (h0 : 0 ≤ s) (h1 : s < fl.length) (hl : fl.length ≤ 1000000) :
    Calls Try.prog 54 #[.int .i64 s, .pointer (some ⟨be, 0, none⟩)] w fun e w' => e = .returned (.bool (fl.getD s.toNat false)) ∧ Below w.heap.size w w' := by
  obtain ⟨a, cap, rfl, hr⟩ := hf
  obtain ⟨b, off, rfl, hc⟩ := hr.at_bool s.toNat (by omega)
  have hg : fl.getD s.toNat false = fl[s.toNat] := by rw [List.getD_eq_getElem?_getD, List.getElem?_eq_getElem (by omega)]; rfl
  rw [hg]
  clear hg
  go_enter Try.func54, Try.ntmps54
  go_wp2
  go_ret
  exact ⟨rfl, Below.refl _ _⟩

theorem path2_any (be : Nat) (v : Value) (fl : List Bool) (x : Ed) (w : World) (hb : w.cell? ⟨be, 0, none⟩ = some v) (hf : RdB w v fl) (h0 : 0 ≤ x.t) (h1 : x.t < fl.length) (hl : fl.length ≤ 1000000) :
    Calls Try.prog 55 #[x.val, .pointer (some ⟨be, 0, none⟩)] w fun e w' => e = .returned (.bool (fl.getD x.t.toNat false)) ∧ Below w.heap.size w w' := by
  obtain ⟨a, cap, rfl, hr⟩ := hf
  obtain ⟨b, off, rfl, hc⟩ := hr.at_bool x.t.toNat (by omega)
  have hbl := World.block_lt_of_cell? w _ hb
  have hbl2 := World.block_lt_of_cell? w _ hc
  dsimp only at hbl hbl2
  have hg : fl.getD x.t.toNat false = fl[x.t.toNat] := by rw [List.getD_eq_getElem?_getD, List.getElem?_eq_getElem (by omega)]; rfl
  rw [hg]
  clear hg
  dsimp only [Ed.val]
  go_enter Try.func55, Try.ntmps55
  go_wp2
  go_ret
  exact ⟨rfl, (by (repeat (first | with_reducible exact Below.refl _ _ | with_reducible exact hb | (with_reducible refine belCall ?_ hb (by first | omega | (simp; done) | (simp; omega) | (simp at *; omega))) | (with_reducible refine Below.alloc ?_ (by first | omega | (simp; done) | (simp; omega) | (simp at *; omega)) _) | (with_reducible refine Below.drew ?_) | (with_reducible refine Below.setCell ?_ (by first | omega | (simp; done) | (simp; omega) | (simp at *; omega)) _))))⟩
end Go.Proofs.Ythchkddhibhenaa
