/- The contract of known: the examples of the chapter. -/
import Derived.Test.YthchkddhibhenaaExample
import Derived.Test.YthchkddhibhenaaInterior
import Derived.Test.YthchkddhibhenaaCorea
import Derived.Test.YthchkddhibhenaaReachPath
import Derived.Test.YthchkddhibhenaaSmall
namespace Go.Proofs.Ythchkddhibhenaa
open Go.RowKit

theorem exA_err : exA.err = 0 := by decide +kernel
theorem exA_small : exA.small := ⟨by decide, by decide, by decide⟩
theorem exA_corea : corea exA = [0, 1] := by decide +kernel
theorem exA_dist : backward exA.n.toNat exA.es [3] = [2, -1, 1, 0] := by decide +kernel
theorem exA_distErr : err2 exA.err (setErr exA.n none [3]) = 0 := by decide +kernel
theorem exA_path : reachPath exA 0 [3] [0, 1, 2, 3] = some [1, 0] := by decide +kernel
theorem exA_pathErr : pathErr exA 0 [3] [0, 1, 2, 3] = 0 := by decide +kernel
theorem exA_int : interior exA.n.toNat exA.es [0, 1, 2] [0] = [0, 1] := by decide +kernel
theorem exA_intErr : err2 exA.err (err2 (setErr exA.n none [0, 1, 2]) (setErr 32 none [0])) = 0 := by decide +kernel

/-- An automaton's value written out. -/
theorem RdA.val {w : World} {v : Value} {a : Aut} (h : RdA w v a) : ∃ aa ca am cm ae ce, v = .agg #[.slice aa a.al.length ca, .int .i64 a.n, .slice am a.ms.length cm, .slice ae a.es.length ce] := by
  obtain ⟨va, vm, ve, rfl, ⟨aa, ca, rfl, _⟩, ⟨am, cm, rfl, _⟩, ⟨ae, ce, rfl, _⟩⟩ := h
  exact ⟨_, _, _, _, _, _, rfl⟩

set_option maxRecDepth 100000 in
set_option maxHeartbeats 1600000 in
theorem known_any (w : World) : Calls Try.prog 12 #[] w (Ret w fun u _ => u = .bool true) := by
  go_enter Try.func12, Try.ntmps12
  go_wp2_with fail
  refine (example_any _).mono ?_
  rintro e w1 ⟨v1, rfl, ha1, hb1⟩
  have hW1 := hb1
  have Ha1 := Lib.hid ha1
  obtain ⟨aa1, ca1, am1, cm1, ae1, ce1, rfl⟩ := ha1.val
  clear ha1
  go_wp2_with fail
  refine (corea_any _ exA _ Ha1.out exA_small).mono ?_
  rintro e w2 ⟨v2, rfl, hp2, hb2⟩
  have hW2 := hW1.trans (hb2.mono hW1.size)
  rw [ListPost, if_pos exA_err, exA_corea] at hp2
  obtain ⟨v2, rfl, hr2⟩ := hp2
  have Hr2 := Lib.hid hr2
  obtain ⟨a2, c2, rfl, hr2'⟩ := hr2
  clear hr2' hb1 hb2
  go_wp2_with fail
  refine (example_any _).mono ?_
  rintro e w3 ⟨v3, rfl, ha3, hb3⟩
  have hW3 := hW2.trans (hb3.mono hW2.size)
  have Ha3 := Lib.hid ha3
  obtain ⟨aa3, ca3, am3, cm3, ae3, ce3, rfl⟩ := ha3.val
  have Hr2 := Lib.hid (Hr2.out.mono hb3)
  clear ha3 hb3
  go_wp2_with fail
  refine (distances_any _ _ exA [3] _ (Ha3.out.mono (bel_alloc _ _)) exA_small ⟨_, 1, rfl, RdS.lit (cs := #[.int .i64 3]) (t := 3) (by repeat (first | with_reducible assumption | (with_reducible refine heap_at ?_; (first | (simp; done) | (simp; omega))) | (with_reducible refine heap_past ?_ ?_; (next => first | omega | (simp; done) | (simp; omega))))) rfl (by decide)⟩ (by decide)).mono ?_
  rintro e w4 ⟨v4, rfl, hp4, hb4⟩
  have hW4 := (hW3.alloc hW3.size _).trans (hb4.mono (Nat.le_trans hW3.size (by simp)))
  rw [ListPost, if_pos exA_distErr, exA_dist] at hp4
  obtain ⟨v4, rfl, hr4⟩ := hp4
  have Hr4 := Lib.hid hr4
  obtain ⟨a4, c4, rfl, hr4'⟩ := hr4
  have Hr2 := Lib.hid (RdI.mono (RdI.mono Hr2.out (bel_alloc _ _)) hb4)
  clear hr4' hb4
  go_wp2_with fail
  refine (example_any _).mono ?_
  rintro e w5 ⟨v5, rfl, ha5, hb5⟩
  have hW5 := hW4.trans (hb5.mono hW4.size)
  have Ha5 := Lib.hid ha5
  obtain ⟨aa5, ca5, am5, cm5, ae5, ce5, rfl⟩ := ha5.val
  have Hr2 := Lib.hid (Hr2.out.mono hb5)
  have Hr4 := Lib.hid (Hr4.out.mono hb5)
  clear ha5 hb5
  go_wp2_with fail
  refine (rpath_any _ _ _ exA 0 [3] [0, 1, 2, 3] _ ((Ha5.out.mono (bel_alloc _ _)).mono (bel_alloc _ _)) exA_small ⟨_, 1, rfl, RdS.lit (cs := #[.int .i64 3]) (t := 3) (by repeat (first | with_reducible assumption | (with_reducible refine heap_at ?_; (first | (simp; done) | (simp; omega))) | (with_reducible refine heap_past ?_ ?_; (next => first | omega | (simp; done) | (simp; omega))))) rfl (by decide)⟩ ⟨_, 4, rfl, RdS.lit (cs := #[.int .i64 0, .int .i64 1, .int .i64 2, .int .i64 3]) (t := 3) (by repeat (first | with_reducible assumption | (with_reducible refine heap_at ?_; (first | (simp; done) | (simp; omega))) | (with_reducible refine heap_past ?_ ?_; (next => first | omega | (simp; done) | (simp; omega))))) rfl (by decide)⟩ (by decide) (by decide)).mono ?_
  rintro e w6 ⟨v6, rfl, hp6, hb6⟩
  have hW6 := ((hW5.alloc hW5.size _).alloc (Nat.le_trans hW5.size (by simp)) _).trans (hb6.mono (Nat.le_trans hW5.size (by simp; omega)))
  rw [exA_pathErr, exA_path] at hp6
  unfold PPost at hp6
  rw [if_pos rfl] at hp6
  obtain ⟨v6, rfl, hr6⟩ := hp6
  have Hr6 := Lib.hid hr6
  obtain ⟨a6, c6, rfl, hr6'⟩ := hr6
  have Hr2 := Lib.hid (RdI.mono (RdI.mono (RdI.mono Hr2.out (bel_alloc _ _)) (bel_alloc _ _)) hb6)
  have Hr4 := Lib.hid (RdI.mono (RdI.mono (RdI.mono Hr4.out (bel_alloc _ _)) (bel_alloc _ _)) hb6)
  clear hr6' hb6
  go_wp2_with fail
  refine (example_any _).mono ?_
  rintro e w7 ⟨v7, rfl, ha7, hb7⟩
  have hW7 := hW6.trans (hb7.mono hW6.size)
  have Ha7 := Lib.hid ha7
  obtain ⟨aa7, ca7, am7, cm7, ae7, ce7, rfl⟩ := ha7.val
  have Hr2 := Lib.hid (Hr2.out.mono hb7)
  have Hr4 := Lib.hid (Hr4.out.mono hb7)
  have Hr6 := Lib.hid (Hr6.out.mono hb7)
  clear ha7 hb7
  go_wp2_with fail
  refine (interior_any _ _ _ exA [0, 1, 2] [0] _ ((Ha7.out.mono (bel_alloc _ _)).mono (bel_alloc _ _)) exA_small ⟨_, 3, rfl, RdS.lit (cs := #[.int .i64 0, .int .i64 1, .int .i64 2]) (t := 3) (by repeat (first | with_reducible assumption | (with_reducible refine heap_at ?_; (first | (simp; done) | (simp; omega))) | (with_reducible refine heap_past ?_ ?_; (next => first | omega | (simp; done) | (simp; omega))))) rfl (by decide)⟩ ⟨_, 1, rfl, RdS.lit (cs := #[.int .i64 0]) (t := 3) (by repeat (first | with_reducible assumption | (with_reducible refine heap_at ?_; (first | (simp; done) | (simp; omega))) | (with_reducible refine heap_past ?_ ?_; (next => first | omega | (simp; done) | (simp; omega))))) rfl (by decide)⟩ (by decide) (by decide)).mono ?_
  rintro e w8 ⟨v8, rfl, hp8, hb8⟩
  have hW8 := ((hW7.alloc hW7.size _).alloc (Nat.le_trans hW7.size (by simp)) _).trans (hb8.mono (Nat.le_trans hW7.size (by simp; omega)))
  rw [ListPost, if_pos exA_intErr, exA_int] at hp8
  obtain ⟨v8, rfl, hr8⟩ := hp8
  have Hr8 := Lib.hid hr8
  obtain ⟨a8, c8, rfl, hr8'⟩ := hr8
  have Hr2 := Lib.hid (RdI.mono (RdI.mono (RdI.mono Hr2.out (bel_alloc _ _)) (bel_alloc _ _)) hb8)
  have Hr4 := Lib.hid (RdI.mono (RdI.mono (RdI.mono Hr4.out (bel_alloc _ _)) (bel_alloc _ _)) hb8)
  have Hr6 := Lib.hid (RdI.mono (RdI.mono (RdI.mono Hr6.out (bel_alloc _ _)) (bel_alloc _ _)) hb8)
  clear hr8' hb8 hW1 hW2 hW3 hW4 hW5 hW6 hW7 Ha1 Ha3 Ha5 Ha7
  go_wp2_with fail
  refine (same_any _ _ [0, 1] [0, 1] _ (Hr2.out.mono (bel_alloc _ _)) ⟨_, 2, rfl, RdS.lit (cs := #[.int .i64 0, .int .i64 1]) (t := 3) (by repeat (first | with_reducible assumption | (with_reducible refine heap_at ?_; (first | (simp; done) | (simp; omega))) | (with_reducible refine heap_past ?_ ?_; (next => first | omega | (simp; done) | (simp; omega))))) rfl (by decide)⟩ (by decide) (by decide)).mono ?_
  rintro e w9 ⟨_, rfl, rfl, hb9⟩
  have hW9 := (hW8.alloc hW8.size _).trans (hb9.mono (Nat.le_trans hW8.size (by simp)))
  have Hr4 := Lib.hid (RdI.mono (RdI.mono Hr4.out (bel_alloc _ _)) hb9)
  have Hr6 := Lib.hid (RdI.mono (RdI.mono Hr6.out (bel_alloc _ _)) hb9)
  have Hr8 := Lib.hid (RdI.mono (RdI.mono Hr8.out (bel_alloc _ _)) hb9)
  rw [show sameB [0, 1] [0, 1] = true by decide]
  clear hb9 hW8
  go_wp2_with fail
  refine (same_any _ _ [2, -1, 1, 0] [2, -1, 1, 0] _ (Hr4.out.mono (bel_alloc _ _)) ⟨_, 4, rfl, RdS.lit (cs := #[.int .i64 2, .int .i64 (-1), .int .i64 1, .int .i64 0]) (t := 3) (by repeat (first | with_reducible assumption | (with_reducible refine heap_at ?_; (first | (simp; done) | (simp; omega))) | (with_reducible refine heap_past ?_ ?_; (next => first | omega | (simp; done) | (simp; omega))))) rfl (by decide)⟩ (by decide) (by decide)).mono ?_
  rintro e w10 ⟨_, rfl, rfl, hb10⟩
  have hW10 := (hW9.alloc hW9.size _).trans (hb10.mono (Nat.le_trans hW9.size (by simp)))
  have Hr6 := Lib.hid (RdI.mono (RdI.mono Hr6.out (bel_alloc _ _)) hb10)
  have Hr8 := Lib.hid (RdI.mono (RdI.mono Hr8.out (bel_alloc _ _)) hb10)
  rw [show sameB [2, -1, 1, 0] [2, -1, 1, 0] = true by decide]
  clear hb10 hW9
  go_wp2_with fail
  refine (same_any _ _ [1, 0] [1, 0] _ (Hr6.out.mono (bel_alloc _ _)) ⟨_, 2, rfl, RdS.lit (cs := #[.int .i64 1, .int .i64 0]) (t := 3) (by repeat (first | with_reducible assumption | (with_reducible refine heap_at ?_; (first | (simp; done) | (simp; omega))) | (with_reducible refine heap_past ?_ ?_; (next => first | omega | (simp; done) | (simp; omega))))) rfl (by decide)⟩ (by decide) (by decide)).mono ?_
  rintro e w11 ⟨_, rfl, rfl, hb11⟩
  have hW11 := (hW10.alloc hW10.size _).trans (hb11.mono (Nat.le_trans hW10.size (by simp)))
  have Hr8 := Lib.hid (RdI.mono (RdI.mono Hr8.out (bel_alloc _ _)) hb11)
  rw [show sameB [1, 0] [1, 0] = true by decide]
  clear hb11 hW10
  go_wp2_with fail
  refine (same_any _ _ [0, 1] [0, 1] _ (Hr8.out.mono (bel_alloc _ _)) ⟨_, 2, rfl, RdS.lit (cs := #[.int .i64 0, .int .i64 1]) (t := 3) (by repeat (first | with_reducible assumption | (with_reducible refine heap_at ?_; (first | (simp; done) | (simp; omega))) | (with_reducible refine heap_past ?_ ?_; (next => first | omega | (simp; done) | (simp; omega))))) rfl (by decide)⟩ (by decide) (by decide)).mono ?_
  rintro e w12 ⟨_, rfl, rfl, hb12⟩
  have hW12 := (hW11.alloc hW11.size _).trans (hb12.mono (Nat.le_trans hW11.size (by simp)))
  rw [show sameB [0, 1] [0, 1] = true by decide]
  go_wp2_with fail
  go_ret
  exact ⟨_, rfl, rfl, hW12⟩
end Go.Proofs.Ythchkddhibhenaa
