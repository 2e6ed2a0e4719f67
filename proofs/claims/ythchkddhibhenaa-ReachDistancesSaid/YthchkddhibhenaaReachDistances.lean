/- ReachDistances returns true for every description, every byte of a state and every two bytes of sets, and leaves its arguments as they were. No conditions. -/
import Derived.Test.YthchkddhibhenaaLift
import Derived.Test.YthchkddhibhenaaDistLaw
namespace Go.Proofs.Ythchkddhibhenaa
open Go.ChangeShapes Go.WideShapes Go.ChangeAt Go.RowKit

theorem Try.pair_types : Try.prog.cellTypes Try.prog.depth 26 = some [5, 5] := by kernel_rfl
theorem Try.pair_cells : Try.prog.cellsOf 26 = 2 := by kernel_rfl
set_option maxRecDepth 100000 in
/-- What a pair of bytes is. -/
theorem pair_of {w : World} {r : Reach} {base : Nat} {v : Value} (h : Value.okWide Try.prog w r base 26 v) : ∃ b0 b1 : Int, v = .agg #[.int .u8 b0, .int .u8 b1] ∧ 0 ≤ b0 ∧ b0 < 256 ∧ 0 ≤ b1 ∧ b1 < 256 := by
  simp only [Value.okWide, Try.underlying26] at h
  obtain ⟨cs, rfl, hsz, ts, hts, _, hc⟩ := h
  rw [Try.pair_types] at hts
  rw [Try.pair_cells] at hsz
  cases hts
  obtain ⟨u0, hu0, hk0⟩ := hc 0 cs[0] (Array.getElem?_eq_getElem (by omega))
  obtain ⟨u1, hu1, hk1⟩ := hc 1 cs[1] (Array.getElem?_eq_getElem (by omega))
  cases hu0
  cases hu1
  obtain ⟨n0, h0, h00, h01⟩ := cell_u8 hk0
  obtain ⟨n1, h1, h10, h11⟩ := cell_u8 hk1
  refine ⟨n0, n1, ?_, h00, h01, h10, h11⟩
  rw [← h0, ← h1]
  congr 1
  apply Array.ext
  · simpa using hsz
  · intro i hi _
    have : i = 0 ∨ i = 1 := by omega
    rcases this with rfl | rfl <;> rfl

set_option maxRecDepth 100000 in
theorem reachDistances_lifted (os : Os) (started : os.Started) (H : Type) (enc : TypeId × Value → H) :
    ReturnsInHanded {} Try.checked os 3 .any (Rows.reachDistancesSpec.pre6 enc Try.prog Try.f3 Rows.reachDistancesRow.domain false) (Rows.reachDistancesSpec.post enc Try.prog Try.f3 false true false false) := by
  refine returnsInHanded_of_change (C := Try.checked) Try.own started (by kernel_rfl) Try.func3
    (ChangeSpec.witness6 (enc := enc) (C := Try.checked) false ⟨#[], #[.agg (Array.replicate 26 (.int .u8 0)), .int .u8 0, .agg #[.int .u8 0, .int .u8 0]], []⟩ 8 (by kernel_rfl) (by kernel_rfl) (by kernel_rfl) (by kernel_rfl)) ?_
  intro W base args ds gs before hval0 hW hcnd _
  have hval : ∀ (j : Nat) t v, Try.f3.params[j]? = some t → args[j]? = some v → Value.okWide Try.prog W .any base t v := hval0
  have hW' := hW
  obtain ⟨p, q, hA0, hV, rfl, hfz, hnd⟩ := hW
  have hA : DataW.TrodAll enc Try.prog W 0 (fun _ => true) true Try.f3.params.toList args.toList ds p := hA0
  rw [Try.params3] at hA hval
  obtain ⟨v0, v1, v2, d0, d1, d2, p0, p1, p2, rfl, rfl, rfl, h0, h1, h2⟩ := trodAll_three hA
  obtain ⟨xs, rfl, hd⟩ := desc_of (hval 0 25 v0 rfl rfl)
  obtain ⟨x, rfl, rfl, rfl, wb⟩ := open_int Try.underlying5 (hval 1 5 v1 rfl rfl) h1
  obtain ⟨b0, b1, rfl, h00, h01, h10, h11⟩ := pair_of (hval 2 26 v2 rfl rfl)
  obtain ⟨rfl, rfl⟩ := trodVars_none hV
  clear hA0 hval0
  have hb : 0 ≤ x ∧ x < 256 := by
    simp [Lit.wf, IntKind.min, IntKind.max, IntKind.signed, IntKind.bits] at wb
    omega
  refine (reachDistances_any xs hd x b0 b1 hb.1 hb.2 h00 h01 h10 h11 W).mono fun e W' ⟨v, he, hv, hbl⟩ => ?_
  subst he
  subst hv
  exact ⟨_, rfl, law_post Try.laidOut hW' rfl (by kernel_rfl) (by kernel_rfl) Try.underlying4 rfl rfl rfl hbl⟩

/-- The statement. -/
theorem reachDistances_holds : Rows.ReachDistancesSaid :=
  OpenClaim.holds_of_wide 3 Try.f3 rfl rfl rfl rfl rfl rfl rfl ⟨rfl, rfl, rfl, rfl, rfl⟩ rfl rfl rfl rfl rfl (by kernel_rfl) Try.func3 (by kernel_rfl)
    (of_decide_eq_true (by kernel_rfl)) (by unfold Func.isWrapper; first | (rw [if_pos (by decide +kernel)]; kernel_rfl) | (rw [if_neg (by decide +kernel)]; exact ⟨rfl, rfl⟩))
    (fun os started H enc _ => reachDistances_lifted os started H enc)
#print axioms reachDistances_holds
end Go.Proofs.Ythchkddhibhenaa
