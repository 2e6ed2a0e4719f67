/- ReachRestricts returns true for every description and every byte, and leaves its arguments as they were. No conditions. -/
import Derived.Test.YthchkddhibhenaaRS9
import Derived.Test.YthchkddhibhenaaRS19
namespace Go.Proofs.Ythchkddhibhenaa
open Go.ChangeShapes Go.WideShapes Go.ChangeAt Go.RowKit

set_option maxRecDepth 100000 in
theorem reachRestricts_lifted (os : Os) (started : os.Started) (H : Type) (enc : TypeId × Value → H) :
    ReturnsInHanded {} Try.checked os 9 .any (Rows.reachRestrictsSpec.pre6 enc Try.prog Try.f9 Rows.reachRestrictsRow.domain false) (Rows.reachRestrictsSpec.post enc Try.prog Try.f9 false true false false) := by
  refine returnsInHanded_of_change (C := Try.checked) Try.own started (by kernel_rfl) Try.func9
    (ChangeSpec.witness6 (enc := enc) (C := Try.checked) false ⟨#[], #[.agg (Array.replicate 26 (.int .u8 0)), .int .u8 0], []⟩ 8 (by kernel_rfl) (by kernel_rfl) (by kernel_rfl) (by kernel_rfl)) ?_
  intro W base args ds gs before hval0 hW hcnd _
  have hval : ∀ (j : Nat) t v, Try.f9.params[j]? = some t → args[j]? = some v → Value.okWide Try.prog W .any base t v := hval0
  have hW' := hW
  obtain ⟨p, q, hA0, hV, rfl, hfz, hnd⟩ := hW
  have hA : DataW.TrodAll enc Try.prog W 0 (fun _ => true) true Try.f9.params.toList args.toList ds p := hA0
  rw [Try.params9] at hA hval
  obtain ⟨v0, v1, d0, d1, p0, p1, rfl, rfl, rfl, h0, h1⟩ := trodAll_two hA
  obtain ⟨xs, rfl, hd⟩ := desc_of (hval 0 25 v0 rfl rfl)
  obtain ⟨b, rfl, rfl, rfl, wb⟩ := open_int Try.underlying5 (hval 1 5 v1 rfl rfl) h1
  obtain ⟨rfl, rfl⟩ := trodVars_none hV
  clear hA0 hval0
  have hb : 0 ≤ b ∧ b < 256 := by
    simp [Lit.wf, IntKind.min, IntKind.max, IntKind.signed, IntKind.bits] at wb
    omega
  refine (reachRestricts_any xs hd b hb.1 hb.2 W).mono fun e W' ⟨v, he, hv, hbl⟩ => ?_
  subst he
  subst hv
  exact ⟨_, rfl, law_post Try.laidOut hW' rfl (by kernel_rfl) (by kernel_rfl) Try.underlying4 rfl rfl rfl hbl⟩

/-- The statement. -/
theorem reachRestricts_holds : Rows.ReachRestrictsSaid :=
  OpenClaim.holds_of_wide 9 Try.f9 rfl rfl rfl rfl rfl rfl rfl ⟨rfl, rfl, rfl, rfl, rfl⟩ rfl rfl rfl rfl rfl (by kernel_rfl) Try.func9 (by kernel_rfl)
    (of_decide_eq_true (by kernel_rfl)) (by unfold Func.isWrapper; first | (rw [if_pos (by decide +kernel)]; kernel_rfl) | (rw [if_neg (by decide +kernel)]; exact ⟨rfl, rfl⟩))
    (fun os started H enc _ => reachRestricts_lifted os started H enc)
#print axioms reachRestricts_holds
end Go.Proofs.Ythchkddhibhenaa
