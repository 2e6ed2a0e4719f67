/- The contract of automaton.Check. -/
import Derived.Test.YthchkddhibhenaaCheck
namespace Go.Proofs.Ythchkddhibhenaa
open Go.RowKit

/-- The error of an automaton. -/
def Aut.err (a : Aut) : Int :=
  if (setErr 32 none a.al != 0) = true then setErr 32 none a.al else if a.n < 0 then 2 else if 4096 < a.n then 3 else if (setErr a.n none a.ms != 0) = true then setErr a.n none a.ms else edErr a.al a.n none a.es

theorem check_any (v : Value) (a : Aut) (w : World) (hr : RdA w v a) (hs : a.small) :
    Calls Try.prog 43 #[v] w (Ret w fun u _ => u = .int .i64 a.err) := by
  have hr0 := hr
  obtain ⟨va, vm, ve, rfl, ha, hm, he⟩ := hr
  have hs0 := hs
  obtain ⟨al, n, ms, es⟩ := a
  obtain ⟨hs1, hs2, hs3⟩ := hs
  dsimp only at *
  go_enter Try.func43, Try.ntmps43
  go_wp2_with (first | (go_at_call 77; ((with_reducible refine (acheckSet_any _ _ _ _ (ha.mono (by (repeat (first | with_reducible exact Below.refl _ _ | with_reducible exact hb | (with_reducible refine belCall ?_ hb (by first | omega | (simp; done) | (simp; omega) | (simp at *; omega))) | (with_reducible refine Below.alloc ?_ (by first | omega | (simp; done) | (simp; omega) | (simp at *; omega)) _) | (with_reducible refine Below.drew ?_) | (with_reducible refine Below.setCell ?_ (by first | omega | (simp; done) | (simp; omega) | (simp at *; omega)) _))))) hs1).mono ?_); rintro e w1 ⟨rfl, rfl⟩)) | (go_at_call 77; ((with_reducible refine (acheckSet_any _ _ _ _ (hm.mono (by (repeat (first | with_reducible exact Below.refl _ _ | with_reducible exact hb | (with_reducible refine belCall ?_ hb (by first | omega | (simp; done) | (simp; omega) | (simp at *; omega))) | (with_reducible refine Below.alloc ?_ (by first | omega | (simp; done) | (simp; omega) | (simp at *; omega)) _) | (with_reducible refine Below.drew ?_) | (with_reducible refine Below.setCell ?_ (by first | omega | (simp; done) | (simp; omega) | (simp at *; omega)) _))))) hs2).mono ?_); rintro e w1 ⟨rfl, rfl⟩)) | (go_at_call 78; ((with_reducible refine (checkEdges_any _ _ _ (hr0.mono (by (repeat (first | with_reducible exact Below.refl _ _ | with_reducible exact hb | (with_reducible refine belCall ?_ hb (by first | omega | (simp; done) | (simp; omega) | (simp at *; omega))) | (with_reducible refine Below.alloc ?_ (by first | omega | (simp; done) | (simp; omega) | (simp at *; omega)) _) | (with_reducible refine Below.drew ?_) | (with_reducible refine Below.setCell ?_ (by first | omega | (simp; done) | (simp; omega) | (simp at *; omega)) _))))) hs0).mono ?_); rintro e w1 ⟨_, rfl, rfl, hb⟩)))
  all_goals
    go_ret
    refine ⟨_, rfl, congrArg (Value.int .i64) ?_, ?_⟩
    · simp [Aut.err, *]
      try omega
    · first | ((repeat (first | with_reducible exact Below.refl _ _ | with_reducible exact hb | (with_reducible refine belCall ?_ hb (by first | omega | (simp; done) | (simp; omega) | (simp at *; omega))) | (with_reducible refine Below.alloc ?_ (by first | omega | (simp; done) | (simp; omega) | (simp at *; omega)) _) | (with_reducible refine Below.drew ?_) | (with_reducible refine Below.setCell ?_ (by first | omega | (simp; done) | (simp; omega) | (simp at *; omega)) _))); done) | ((repeat (first | with_reducible exact Below.refl _ _ | with_reducible exact hr0 | (with_reducible refine belCall ?_ hr0 (by first | omega | (simp; done) | (simp; omega) | (simp at *; omega))) | (with_reducible refine Below.alloc ?_ (by first | omega | (simp; done) | (simp; omega) | (simp at *; omega)) _) | (with_reducible refine Below.drew ?_) | (with_reducible refine Below.setCell ?_ (by first | omega | (simp; done) | (simp; omega) | (simp at *; omega)) _))); done)
end Go.Proofs.Ythchkddhibhenaa
