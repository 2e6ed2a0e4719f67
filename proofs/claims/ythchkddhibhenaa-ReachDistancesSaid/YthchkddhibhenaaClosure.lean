/- The contract of closure. -/
import Derived.Test.YthchkddhibhenaaReach
namespace Go.Proofs.Ythchkddhibhenaa
open Go.RowKit

theorem closure_any (v vs vv : Value) (a : Aut) (set evs : List Int) (w : World) (ha : RdA w v a) (hs : a.small) (h1 : RdI w vs set) (h2 : RdI w vv evs) (hl1 : set.length ≤ 1000000) (hl2 : evs.length ≤ 1000000) :
    Calls Try.prog 56 #[v, vs, vv] w (Ret w fun u _ => u = .int .i64 (err2 a.err (err2 (setErr a.n none set) (setErr 32 none evs)))) := by
  have ha0 := ha
  obtain ⟨va, vm, ve, rfl, ⟨aa, ca, rfl, hra⟩, ⟨am, cm, rfl, hrm⟩, ⟨ae, ce, rfl, hre⟩⟩ := ha
  have Ha0 := Lib.hid ha0
  have Hs := Lib.hid hs
  have Hr1 := Lib.hid h1
  have Hr2 := Lib.hid h2
  clear ha0 hs h1 h2
  go_enter Try.func56, Try.ntmps56
  go_wp2_with fail
  refine (check_any _ a _ (Ha0.out.mono (by (repeat (first | with_reducible exact Below.refl _ _ | with_reducible exact Ha0 | (with_reducible refine belCall ?_ Ha0 (by first | omega | (simp; done) | (simp; omega) | (simp at *; omega))) | (with_reducible refine Below.alloc ?_ (by first | omega | (simp; done) | (simp; omega) | (simp at *; omega)) _) | (with_reducible refine Below.drew ?_) | (with_reducible refine Below.setCell ?_ (by first | omega | (simp; done) | (simp; omega) | (simp at *; omega)) _))))) Hs.out).mono ?_
  rintro e w1 ⟨_, rfl, rfl, hb1⟩
  have hW1 : Below w.heap.size w w1 := ((Below.refl _ _).alloc (Nat.le_refl _) _).trans (hb1.mono (by simp))
  have hbx := box4 hb1
  clear hb1
  by_cases h1 : a.err = 0
  · have H1 := Lib.hid h1
    rw [h1]
    clear h1
    obtain ⟨x0, x1, x2, x3, x4⟩ := hbx
    go_wp2_with fail
    refine (checkStates_any _ _ _ _ _ _ _ _ _ _ _ set _ (Hr1.out.mono hW1) hl1).mono ?_
    rintro e w2 ⟨_, rfl, rfl, hb2⟩
    have hW2 := hW1.trans (hb2.mono hW1.size)
    clear x0 x1 x2 x3 x4
    by_cases h2 : setErr a.n none set = 0
    · have H2 := Lib.hid h2
      rw [h2]
      clear h2
      go_wp2_with (go_at_call 61; ((with_reducible refine (rcheckSet_any _ _ _ _ (Hr2.out.mono hW2) hl2).mono ?_); rintro e w1 ⟨rfl, rfl⟩))
      go_ret
      exact ⟨_, rfl, by rw [err2, if_pos H1.out, err2, if_pos H2.out]; rfl, hW2⟩
    · have H2 := Lib.hid h2
      have h2' : (setErr a.n none set != 0) = true := by simpa using h2
      clear h2
      go_wp2_with fail
      go_ret
      exact ⟨_, rfl, by rw [err2, if_pos H1.out, err2, if_neg H2.out]; rfl, hW2⟩
  · have H1 := Lib.hid h1
    have h1' : (a.err != 0) = true := by simpa using h1
    clear h1
    go_wp2_with fail
    go_ret
    exact ⟨_, rfl, by rw [err2, if_neg H1.out]; rfl, hW1⟩
end Go.Proofs.Ythchkddhibhenaa
