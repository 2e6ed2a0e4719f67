/- What slices.Grow does to the empty list: functions whose walk is not printed. -/
import Derived.Test.YtkkemchihllklaaRf
import Derived.Test.YtkkemchihllklaaProg
import Derived.Lib.AppendZeros
namespace Go.Proofs.Ytkkemchihllklaa
open Go Go.RowKit

/-- What slices.Grow computes, of a nil slice. -/
def m_slices_Grow_bool (p0 : List Bool) (p1 : Int) : Option (List Bool) := if p0 = [] ∧ 0 ≤ p1 ∧ p1 ≤ 100000 then some [] else none
theorem Row.as_at {w : World} {B k' : Nat} {tag tag' : Nat → Nat} {k : Nat} {t : TypeId} {sz : Nat} {v : Value} {n : Nat} {cs : List Value} (h : Row w B tag k t sz v n cs) (ht : ∀ b, B ≤ b → b < w.heap.size → tag' b = k') : Row w 0 tag' k' t sz v n cs :=
  ⟨h.1, h.2.imp id fun ⟨b, off, cap, cur, h1, h2, h3⟩ => ⟨b, off, cap, cur, h1, ⟨h2.heap, ht b h2.base h2.lt, Nat.zero_le _⟩, h3⟩⟩
theorem Try.ginfo_bool : (Try.prog.info? 4).map (fun i => (i.zero, i.size, i.bytes)) = some (some (.bool false), 1, 1) := by kernel_rfl
set_option maxRecDepth 100000 in
theorem grow_row (n : Nat) (w : World) (hn : n ≤ 100000) :
    Calls Try.prog 86 #[.slice none 0 0, .int .i64 n] w (Ret w fun u w' => Row w' w.heap.size (fun _ => 1) 1 4 1 u 0 []) := by
  obtain ⟨i0, hi, hz0, hz1, hz2⟩ := info_parts Try.ginfo_bool
  go_enter Try.func86, Try.ntmps86
  by_cases h0 : n = 0
  · subst h0
    go_wp2
    go_ret
    exact ⟨_, rfl, Row.nil _ _ _ _ _ _, Below.refl _ _⟩
  · have h1 : (0 : Int) < (n : Int) := by omega
    have hge := grownCap_ge w n 0 4
    have hcm := grownCap_le_maxLen w n 0 4 (by unfold maxLen; omega)
    have hr := fun ty => Lib.run_append_nil_zeros (P := Try.prog) w 29 3 ty 4 i0 (.bool false) .i64 .i64 Try.underlying29 Try.underlying3 hi hz0 n (by omega) (by rw [hz1]; decide) (by omega) (by rw [hz2]; omega)
    have hsz : (Builtin.zeroCells (Value.bool false).cells n ++ Builtin.zeroCells (Value.bool false).cells (grownCap w n 0 4 - n)).size = grownCap w n 0 4 := by
      rw [Array.size_append, size_zeroCells, size_zeroCells]
      simp [Value.cells]; omega
    generalize Builtin.zeroCells (Value.bool false).cells n ++ Builtin.zeroCells (Value.bool false).cells (grownCap w n 0 4 - n) = cs at *
    generalize grownCap w n 0 4 = cap at *
    go_wp2_with (at_builtin; refine Lib.wpList_append_run _ rfl _ _ 29 3 rfl _ _ rfl rfl _ _ (hr _) ?_)
    go_ret
    refine ⟨_, rfl, ⟨by simp, .inr ⟨w.heap.size, 0, cap, cs, rfl, ⟨heap_alloc_new _ _, rfl, Nat.le_refl _⟩, Nat.zero_le _, hcm, by omega, by simp⟩⟩, (by (repeat (first | with_reducible exact Below.refl _ _ | with_reducible exact Below.refl _ _ | (with_reducible refine belCall ?_ Below.refl _ _ (by first | omega | (simp; done) | (simp; omega) | (simp at *; omega))) | (with_reducible refine Below.alloc ?_ (by first | omega | (simp; done) | (simp; omega) | (simp at *; omega)) _) | (with_reducible refine Below.drew ?_) | (with_reducible refine Below.setCell ?_ (by first | omega | (simp; done) | (simp; omega) | (simp at *; omega)) _))))⟩
set_option maxRecDepth 100000 in
theorem m_slices_Grow_bool_c {s : Sig} {p0 : List Bool} {p1 : Int} {u0 : Nat} {r : List Bool} (hm : m_slices_Grow_bool p0 p1 = some r) :
    Calls Try.prog 86 #[.slice none 0 0, .int .i64 p1] s.w (RetS No s fun v s' => ∃ (a1 : Option Addr) (c1 : Nat), v = .slice a1 r.length c1 ∧ RowT rB s' u0 4 a1 c1 r) := by
  unfold m_slices_Grow_bool at hm
  split at hm
  · rename_i hc
    cases hm
    obtain ⟨_, h1, h2⟩ := hc
    obtain ⟨n, rfl⟩ : ∃ n : Nat, p1 = n := ⟨p1.toNat, by omega⟩
    have hn : n ≤ 100000 := by omega
    have hg : Calls Try.prog 86 #[.slice none 0 0, .int .i64 n] s.w (Ret s.w fun u w' => Row w' s.w.heap.size (fun _ => 1) 1 4 1 u 0 []) := grow_row n s.w hn
    refine hg.mono fun en w' hh => ?_
    obtain ⟨u, rfl, hrow, hbel⟩ := hh
    obtain ⟨a1, c1, rfl⟩ := hrow.val
    refine ⟨_, ⟨w', fun b => if b < s.w.heap.size then s.tag b else u0⟩, rfl, rfl, Below.mv hbel (fun b hb => if_pos hb), a1, c1, rfl, [], hrow.as_at fun b h3 h4 => if_neg (by omega), rfl⟩
  · cases hm
end Go.Proofs.Ytkkemchihllklaa
