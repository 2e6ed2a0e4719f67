/- The contract of example. -/
import Derived.Test.YthchkddhibhenaaOwn
import Derived.Test.YthchkddhibhenaaCheckB
import Derived.Test.YthchkddhibhenaaRow
namespace Go.Proofs.Ythchkddhibhenaa
open Go.RowKit

/-- The automaton of the examples. -/
def exA : Aut := ⟨[0, 1], 4, [1], [⟨0, 0, 1⟩, ⟨0, 1, 2⟩, ⟨1, 0, 1⟩, ⟨2, 0, 3⟩, ⟨3, 1, 2⟩]⟩

/-- A new block read whole. -/
theorem RdS.lit {w : World} {sz b len : Nat} {cs : Array Value} {t : TypeId} (h : w.heap[b]? = some (.cells cs t (0, 0))) (hl : cs.size = len * sz) (hm : len ≤ 1000000) : RdS w sz (some ⟨b, 0, none⟩) len len cs.toList := by
  refine ⟨by simpa using hl, Nat.le_refl _, by unfold maxLen; omega, fun e => (by cases e), fun _ e => (by cases e; rfl), fun _ e j hj => ?_⟩
  cases e
  simp only [Nat.zero_add]
  rw [World.cell?, h]
  simp at hj
  simp [hj]

theorem example_any (w : World) : Calls Try.prog 46 #[] w (Ret w fun u w' => RdA w' u exA) := by
  go_enter Try.func46, Try.ntmps46
  go_wp2_with fail
  refine bodyPost_ret (v := .agg #[.slice (some ⟨w.heap.size + 1, 0, none⟩) 2 2, .int .i64 4, .slice (some ⟨w.heap.size + 1 + 1, 0, none⟩) 1 1, .slice (some ⟨w.heap.size + 1 + 1 + 1, 0, none⟩) 5 5]) (by simp [results, Try.results46, go_sem]) rfl ⟨_, rfl, ?_, (((((Below.refl _ _).alloc (Nat.le_refl _) _).alloc (by simp) _).alloc (by simp; omega) _).alloc (by simp; omega) _)⟩
  refine ⟨_, _, _, rfl, ⟨_, _, rfl, RdS.lit (cs := #[.int .i64 0, .int .i64 1]) (t := 3) (by repeat (first | with_reducible assumption | (with_reducible refine heap_at ?_; (first | (simp; done) | (simp; omega))) | (with_reducible refine heap_past ?_ ?_; (next => first | omega | (simp; done) | (simp; omega))))) rfl (by decide)⟩, ⟨_, _, rfl, RdS.lit (cs := #[.int .i64 1]) (t := 3) (by repeat (first | with_reducible assumption | (with_reducible refine heap_at ?_; (first | (simp; done) | (simp; omega))) | (with_reducible refine heap_past ?_ ?_; (next => first | omega | (simp; done) | (simp; omega))))) rfl (by decide)⟩, ⟨_, _, rfl, ?_⟩⟩
  exact RdS.lit (cs := #[.int .i64 0, .int .i64 0, .int .i64 1, .int .i64 0, .int .i64 1, .int .i64 2, .int .i64 1, .int .i64 0, .int .i64 1, .int .i64 2, .int .i64 0, .int .i64 3, .int .i64 3, .int .i64 1, .int .i64 2]) (t := 45) (len := 5) (by repeat (first | with_reducible assumption | (with_reducible refine heap_at ?_; (first | (simp; done) | (simp; omega))) | (with_reducible refine heap_past ?_ ?_; (next => first | omega | (simp; done) | (simp; omega))))) rfl (by decide)
end Go.Proofs.Ythchkddhibhenaa
