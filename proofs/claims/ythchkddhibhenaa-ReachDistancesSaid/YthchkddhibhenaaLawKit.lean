/- Words that the laws over descriptions share. -/
import Derived.Test.YthchkddhibhenaaFacts
import Derived.Test.YthchkddhibhenaaKnown
namespace Go.Proofs.Ythchkddhibhenaa
open Go.RowKit

theorem Try.small_size : (Try.prog.info? 25).map (·.size) = some 26 := by kernel_rfl
theorem Desc.size {xs : List Int} (h : Desc xs) : (Try.prog.info? 25).map (·.size) = some (bytes8 xs).size := by
  rw [Try.small_size]
  simp [bytes8, h.len]
/-- The value of an automaton that Make makes. -/
theorem mkA_val {w : World} {v : Value} {xs : List Int} (h : RdA w v (mkA xs)) : ∃ aa ca am cm ae ce, v = .agg #[.slice aa 4 ca, .int .i64 (mkN xs : Nat), .slice am (mkA xs).ms.length cm, .slice ae (mkA xs).es.length ce] := h.val
end Go.Proofs.Ythchkddhibhenaa
