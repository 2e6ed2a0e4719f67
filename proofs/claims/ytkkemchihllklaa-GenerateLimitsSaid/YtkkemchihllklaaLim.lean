/- GenerateLimits returns true for every two bytes, and leaves its arguments as they were. No conditions. -/
import Derived.Test.YtkkemchihllklaaLi
namespace Go.Proofs.Ytkkemchihllklaa
open Go Go.ChangeShapes Go.WideShapes Go.ChangeAt Go.RowKit

theorem lim_nat {b m : Int} (h0 : 0 ≤ b) (hm : 0 < m) (hm2 : m ≤ 1000) : ∃ k : Nat, (k : Int) < m ∧ W (b.tmod m) = (k : Int) := by
  have h1 := Int.emod_nonneg b (show m ≠ 0 by omega)
  have h2 := Int.emod_lt_of_pos b hm
  refine ⟨(b % m).toNat, by omega, ?_⟩
  rw [Int.tmod_eq_emod_of_nonneg h0, W_of (by omega) (by omega)]
  omega
theorem limits_any {b1 b2 : Int} (h1 : 0 ≤ b1) (h2 : 0 ≤ b2) : m_overseerlaw53_GenerateLimits b1 b2 = some true := by
  obtain ⟨x, hx, hx2⟩ := lim_nat h1 (show (0 : Int) < 70 by omega) (by omega)
  obtain ⟨k, hk, hk2⟩ := lim_nat h2 (show (0 : Int) < 7 by omega) (by omega)
  refine limits_eq (n := 1 + x) (k := k) ?_ (by omega) (by omega) hk2 (by omega)
  rw [hx2, W_of (by omega) (by omega)]
  omega
set_option maxRecDepth 100000 in
theorem generateLimits_lifted (os : Os) (started : os.Started) (H : Type) (enc : TypeId × Value → H) :
    ReturnsInHanded {} Try.checked os 3 .any (Rows.generateLimitsSpec.pre6 enc Try.prog Try.f3 Rows.generateLimitsRow.domain false) (Rows.generateLimitsSpec.post enc Try.prog Try.f3 false true false false) := by
  refine returnsInHanded_of_change (C := Try.checked) Try.own started (by kernel_rfl) Try.func3
    (ChangeSpec.witness6 (enc := enc) (C := Try.checked) false ⟨#[], #[.int .u8 0, .int .u8 0], []⟩ 8 (by kernel_rfl) (by kernel_rfl) (by kernel_rfl) (by kernel_rfl)) ?_
  intro W base args ds gs before hval0 hW hcnd _
  have hval : ∀ (j : Nat) t v, Try.f3.params[j]? = some t → args[j]? = some v → Value.okWide Try.prog W .any base t v := hval0
  have hW' := hW
  obtain ⟨p, q, hA0, hV, rfl, hfz, hnd⟩ := hW
  have hA : DataW.TrodAll enc Try.prog W 0 (fun _ => true) true Try.f3.params.toList args.toList ds p := hA0
  rw [Try.params3] at hA hval
  obtain ⟨v0, v1, d0, d1, p0, p1, rfl, rfl, rfl, h0, h1⟩ := trodAll_two hA
  obtain ⟨a, rfl, rfl, rfl, wa⟩ := open_int Try.underlying5 (hval 0 5 v0 rfl rfl) h0
  obtain ⟨b, rfl, rfl, rfl, wb⟩ := open_int Try.underlying5 (hval 1 5 v1 rfl rfl) h1
  obtain ⟨rfl, rfl⟩ := trodVars_none hV
  clear hA0 hval0
  have ha : 0 ≤ a ∧ a < 256 := by
    simp [Lit.wf, IntKind.min, IntKind.max, IntKind.signed, IntKind.bits] at wa
    omega
  have hb : 0 ≤ b ∧ b < 256 := by
    simp [Lit.wf, IntKind.min, IntKind.max, IntKind.signed, IntKind.bits] at wb
    omega
  refine (m_overseerlaw53_GenerateLimits_c (s := ⟨W, fun _ => 0⟩) (limits_any ha.1 hb.1)).mono fun e W' ⟨v, s', hw, he, hm, hv⟩ => ?_
  subst hw
  subst he
  subst hv
  have hbl := hm.below
  exact ⟨_, rfl, law_post Try.laidOut hW' rfl (by kernel_rfl) (by kernel_rfl) Try.underlying4 rfl rfl rfl hbl⟩

/-- The statement. -/
theorem generateLimits_holds : Rows.GenerateLimitsSaid :=
  OpenClaim.holds_of_wide 3 Try.f3 rfl rfl rfl rfl rfl rfl rfl ⟨rfl, rfl, rfl, rfl, rfl⟩ rfl rfl rfl rfl rfl (by kernel_rfl) Try.func3 (by kernel_rfl)
    (of_decide_eq_true (by kernel_rfl)) (by unfold Func.isWrapper; first | (rw [if_pos (by decide +kernel)]; kernel_rfl) | (rw [if_neg (by decide +kernel)]; exact ⟨rfl, rfl⟩))
    (fun os started H enc _ => generateLimits_lifted os started H enc)
#print axioms generateLimits_holds
end Go.Proofs.Ytkkemchihllklaa
