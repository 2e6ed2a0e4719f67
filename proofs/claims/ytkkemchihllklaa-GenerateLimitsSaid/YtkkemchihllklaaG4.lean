/- What some functions compute, as plain functions (m_..), and that the code computes it. Written by gen.py. -/
import Derived.Test.YtkkemchihllklaaG3
import Derived.Test.YtkkemchihllklaaProg
namespace Go.Proofs.Ytkkemchihllklaa
open Go Go.RowKit
/-- What instruction.operations$3 computes. -/
noncomputable def m_instruction_operations_3 (p0 : Bool) (p1 : Bool) : Option Bool :=
  some (p0 && p1)
set_option maxRecDepth 100000 in
set_option maxHeartbeats 8000000 in
theorem m_instruction_operations_3_c {s : Sig} {p0 : Bool} {p1 : Bool} {r : Bool} (hm : m_instruction_operations_3 p0 p1 = some r) :
    Calls Try.prog 89 #[.bool p0, .bool p1] s.w (RetS No s fun v s' => v = .bool r) := by
  unfold m_instruction_operations_3 at hm
  obtain ⟨N, hN, hNb⟩ := s.fresh
  have m0 : Mv (Up N No) s s := Mv.refl _ _
  refine E.entry (vs := [.bool p0, .bool p1]) (e := [(0, .bool p0), (1, .bool p1)]) Try.func89 rfl Try.ntmps89 rfl rfl ?_
  refine E.seq ?_
  refine E.reg ?_
  refine L.as Wt.no rfl rfl ?_
  refine L.nil ?_
  refine X.seqN ?_
  refine E.seq ?_
  refine E.reg ?_
  refine L.mv Wt.no rfl rfl ?_
  refine L.mv Wt.no rfl rfl ?_
  refine L.cut 2 (fun e w => ∃ (v1 : Bool), (p0 && p1) = v1 ∧ e = (8, .bool v1) :: [] ∧ w = s.w) ?_ ?_
  · rintro _ _ ⟨v1, rfl, rfl, rfl⟩
    refine L.as Wt.no rfl rfl ?_
    refine L.nil ?_
    refine X.seqN ?_
    refine E.ret ?_
    obtain rfl := Option.some.inj hm
    exact X.rt (.inl rfl) Try.results89 (Rs.tmp rfl Rs.nil) rfl ⟨_, (s).ren N (fun _ => 0), rfl, rfl, m0.ren hNb, rfl⟩
  · intro J2
    rcases Bool.eq_false_or_eq_true p0 with hc | hc
    · refine L.know (d := 6) rfl hc ?_
      refine L.mv (Wt.mk rfl rfl) rfl rfl ?_
      refine L.pkT Wt.no rfl rfl rfl rfl ?_
      exact L.sub (Sub.cons rfl Sub.nil) (J2 _ _ ⟨p1, (andT hc).symm, rfl, rfl⟩)
    · refine L.know (d := 6) rfl hc ?_
      refine L.skip rfl rfl rfl rfl ?_
      refine L.pkF Wt.no rfl rfl rfl rfl ?_
      exact L.sub (Sub.cons rfl Sub.nil) (J2 _ _ ⟨false, (andF hc).symm, rfl, rfl⟩)

/-- What instruction.operations$4 computes. -/
noncomputable def m_instruction_operations_4 (p0 : Bool) (p1 : Bool) : Option Bool :=
  some (p0 && (!p1))
set_option maxRecDepth 100000 in
set_option maxHeartbeats 8000000 in
theorem m_instruction_operations_4_c {s : Sig} {p0 : Bool} {p1 : Bool} {r : Bool} (hm : m_instruction_operations_4 p0 p1 = some r) :
    Calls Try.prog 90 #[.bool p0, .bool p1] s.w (RetS No s fun v s' => v = .bool r) := by
  unfold m_instruction_operations_4 at hm
  obtain ⟨N, hN, hNb⟩ := s.fresh
  have m0 : Mv (Up N No) s s := Mv.refl _ _
  refine E.entry (vs := [.bool p0, .bool p1]) (e := [(0, .bool p0), (1, .bool p1)]) Try.func90 rfl Try.ntmps90 rfl rfl ?_
  refine E.seq ?_
  refine E.reg ?_
  refine L.as Wt.no rfl rfl ?_
  refine L.nil ?_
  refine X.seqN ?_
  refine E.seq ?_
  refine E.reg ?_
  refine L.mv Wt.no rfl rfl ?_
  refine L.mv Wt.no rfl rfl ?_
  refine L.cut 3 (fun e w => ∃ (v1 : Bool), (p0 && (!p1)) = v1 ∧ e = (9, .bool v1) :: [] ∧ w = s.w) ?_ ?_
  · rintro _ _ ⟨v1, rfl, rfl, rfl⟩
    refine L.as Wt.no rfl rfl ?_
    refine L.nil ?_
    refine X.seqN ?_
    refine E.ret ?_
    obtain rfl := Option.some.inj hm
    exact X.rt (.inl rfl) Try.results90 (Rs.tmp rfl Rs.nil) rfl ⟨_, (s).ren N (fun _ => 0), rfl, rfl, m0.ren hNb, rfl⟩
  · intro J2
    rcases Bool.eq_false_or_eq_true p0 with hc | hc
    · refine L.know (d := 6) rfl hc ?_
      refine L.mv (Wt.mk rfl rfl) rfl rfl ?_
      refine L.not (Wt.mk rfl rfl) rfl rfl ?_
      refine L.pkT Wt.no rfl rfl rfl rfl ?_
      exact L.sub (Sub.cons rfl Sub.nil) (J2 _ _ ⟨(!p1), (andT hc).symm, rfl, rfl⟩)
    · refine L.know (d := 6) rfl hc ?_
      refine L.skip rfl rfl rfl rfl ?_
      refine L.skip rfl rfl rfl rfl ?_
      refine L.pkF Wt.no rfl rfl rfl rfl ?_
      exact L.sub (Sub.cons rfl Sub.nil) (J2 _ _ ⟨false, (andF hc).symm, rfl, rfl⟩)

/-- What instruction.operations$5 computes. -/
noncomputable def m_instruction_operations_5 (p0 : Bool) (p1 : Bool) : Option Bool :=
  some (p0 || p1)
set_option maxRecDepth 100000 in
set_option maxHeartbeats 8000000 in
theorem m_instruction_operations_5_c {s : Sig} {p0 : Bool} {p1 : Bool} {r : Bool} (hm : m_instruction_operations_5 p0 p1 = some r) :
    Calls Try.prog 91 #[.bool p0, .bool p1] s.w (RetS No s fun v s' => v = .bool r) := by
  unfold m_instruction_operations_5 at hm
  obtain ⟨N, hN, hNb⟩ := s.fresh
  have m0 : Mv (Up N No) s s := Mv.refl _ _
  refine E.entry (vs := [.bool p0, .bool p1]) (e := [(0, .bool p0), (1, .bool p1)]) Try.func91 rfl Try.ntmps91 rfl rfl ?_
  refine E.seq ?_
  refine E.reg ?_
  refine L.as Wt.no rfl rfl ?_
  refine L.nil ?_
  refine X.seqN ?_
  refine E.seq ?_
  refine E.reg ?_
  refine L.mv Wt.no rfl rfl ?_
  refine L.mv Wt.no rfl rfl ?_
  refine L.cut 2 (fun e w => ∃ (v1 : Bool), (p0 || p1) = v1 ∧ e = (8, .bool v1) :: [] ∧ w = s.w) ?_ ?_
  · rintro _ _ ⟨v1, rfl, rfl, rfl⟩
    refine L.as Wt.no rfl rfl ?_
    refine L.nil ?_
    refine X.seqN ?_
    refine E.ret ?_
    obtain rfl := Option.some.inj hm
    exact X.rt (.inl rfl) Try.results91 (Rs.tmp rfl Rs.nil) rfl ⟨_, (s).ren N (fun _ => 0), rfl, rfl, m0.ren hNb, rfl⟩
  · intro J2
    rcases Bool.eq_false_or_eq_true p0 with hc | hc
    · refine L.know (d := 6) rfl hc ?_
      refine L.skip rfl rfl rfl rfl ?_
      refine L.pkT Wt.no rfl rfl rfl rfl ?_
      exact L.sub (Sub.cons rfl Sub.nil) (J2 _ _ ⟨true, (orT hc).symm, rfl, rfl⟩)
    · refine L.know (d := 6) rfl hc ?_
      refine L.mv (Wt.mk rfl rfl) rfl rfl ?_
      refine L.pkF Wt.no rfl rfl rfl rfl ?_
      exact L.sub (Sub.cons rfl Sub.nil) (J2 _ _ ⟨p1, (orF hc).symm, rfl, rfl⟩)

/-- What instruction.operations$6 computes. -/
noncomputable def m_instruction_operations_6 (p0 : Bool) (p1 : Bool) : Option Bool :=
  some (p0 || (!p1))
set_option maxRecDepth 100000 in
set_option maxHeartbeats 8000000 in
theorem m_instruction_operations_6_c {s : Sig} {p0 : Bool} {p1 : Bool} {r : Bool} (hm : m_instruction_operations_6 p0 p1 = some r) :
    Calls Try.prog 92 #[.bool p0, .bool p1] s.w (RetS No s fun v s' => v = .bool r) := by
  unfold m_instruction_operations_6 at hm
  obtain ⟨N, hN, hNb⟩ := s.fresh
  have m0 : Mv (Up N No) s s := Mv.refl _ _
  refine E.entry (vs := [.bool p0, .bool p1]) (e := [(0, .bool p0), (1, .bool p1)]) Try.func92 rfl Try.ntmps92 rfl rfl ?_
  refine E.seq ?_
  refine E.reg ?_
  refine L.as Wt.no rfl rfl ?_
  refine L.nil ?_
  refine X.seqN ?_
  refine E.seq ?_
  refine E.reg ?_
  refine L.mv Wt.no rfl rfl ?_
  refine L.mv Wt.no rfl rfl ?_
  refine L.cut 3 (fun e w => ∃ (v1 : Bool), (p0 || (!p1)) = v1 ∧ e = (9, .bool v1) :: [] ∧ w = s.w) ?_ ?_
  · rintro _ _ ⟨v1, rfl, rfl, rfl⟩
    refine L.as Wt.no rfl rfl ?_
    refine L.nil ?_
    refine X.seqN ?_
    refine E.ret ?_
    obtain rfl := Option.some.inj hm
    exact X.rt (.inl rfl) Try.results92 (Rs.tmp rfl Rs.nil) rfl ⟨_, (s).ren N (fun _ => 0), rfl, rfl, m0.ren hNb, rfl⟩
  · intro J2
    rcases Bool.eq_false_or_eq_true p0 with hc | hc
    · refine L.know (d := 6) rfl hc ?_
      refine L.skip rfl rfl rfl rfl ?_
      refine L.skip rfl rfl rfl rfl ?_
      refine L.pkT Wt.no rfl rfl rfl rfl ?_
      exact L.sub (Sub.cons rfl Sub.nil) (J2 _ _ ⟨true, (orT hc).symm, rfl, rfl⟩)
    · refine L.know (d := 6) rfl hc ?_
      refine L.mv (Wt.mk rfl rfl) rfl rfl ?_
      refine L.not (Wt.mk rfl rfl) rfl rfl ?_
      refine L.pkF Wt.no rfl rfl rfl rfl ?_
      exact L.sub (Sub.cons rfl Sub.nil) (J2 _ _ ⟨(!p1), (orF hc).symm, rfl, rfl⟩)

/-- What instruction.operations$7 computes. -/
noncomputable def m_instruction_operations_7 (p0 : Bool) (p1 : Bool) : Option Bool :=
  some p0
set_option maxRecDepth 100000 in
set_option maxHeartbeats 8000000 in
theorem m_instruction_operations_7_c {s : Sig} {p0 : Bool} {p1 : Bool} {r : Bool} (hm : m_instruction_operations_7 p0 p1 = some r) :
    Calls Try.prog 93 #[.bool p0, .bool p1] s.w (RetS No s fun v s' => v = .bool r) := by
  unfold m_instruction_operations_7 at hm
  obtain ⟨N, hN, hNb⟩ := s.fresh
  have m0 : Mv (Up N No) s s := Mv.refl _ _
  refine E.entry (vs := [.bool p0, .bool p1]) (e := [(0, .bool p0), (1, .bool p1)]) Try.func93 rfl Try.ntmps93 rfl rfl ?_
  refine E.seq ?_
  refine E.reg ?_
  refine L.as Wt.no rfl rfl ?_
  refine L.nil ?_
  refine X.seqN ?_
  refine E.seq ?_
  refine E.reg ?_
  refine L.mv Wt.no rfl rfl ?_
  refine L.as Wt.no rfl rfl ?_
  refine L.nil ?_
  refine X.seqN ?_
  refine E.ret ?_
  obtain rfl := Option.some.inj hm
  exact X.rt (.inl rfl) Try.results93 (Rs.tmp rfl Rs.nil) rfl ⟨_, (s).ren N (fun _ => 0), rfl, rfl, m0.ren hNb, rfl⟩

/-- What instruction.operations$8 computes. -/
noncomputable def m_instruction_operations_8 (p0 : Bool) (p1 : Bool) : Option Bool :=
  some (!p0)
set_option maxRecDepth 100000 in
set_option maxHeartbeats 8000000 in
theorem m_instruction_operations_8_c {s : Sig} {p0 : Bool} {p1 : Bool} {r : Bool} (hm : m_instruction_operations_8 p0 p1 = some r) :
    Calls Try.prog 94 #[.bool p0, .bool p1] s.w (RetS No s fun v s' => v = .bool r) := by
  unfold m_instruction_operations_8 at hm
  obtain ⟨N, hN, hNb⟩ := s.fresh
  have m0 : Mv (Up N No) s s := Mv.refl _ _
  refine E.entry (vs := [.bool p0, .bool p1]) (e := [(0, .bool p0), (1, .bool p1)]) Try.func94 rfl Try.ntmps94 rfl rfl ?_
  refine E.seq ?_
  refine E.reg ?_
  refine L.as Wt.no rfl rfl ?_
  refine L.nil ?_
  refine X.seqN ?_
  refine E.seq ?_
  refine E.reg ?_
  refine L.mv Wt.no rfl rfl ?_
  refine L.not Wt.no rfl rfl ?_
  refine L.as Wt.no rfl rfl ?_
  refine L.nil ?_
  refine X.seqN ?_
  refine E.ret ?_
  obtain rfl := Option.some.inj hm
  exact X.rt (.inl rfl) Try.results94 (Rs.tmp rfl Rs.nil) rfl ⟨_, (s).ren N (fun _ => 0), rfl, rfl, m0.ren hNb, rfl⟩

/-- What instruction.operations$9 computes. -/
noncomputable def m_instruction_operations_9 (p0 : Bool) (p1 : Bool) : Option Bool :=
  some (p1 || p0)
set_option maxRecDepth 100000 in
set_option maxHeartbeats 8000000 in
theorem m_instruction_operations_9_c {s : Sig} {p0 : Bool} {p1 : Bool} {r : Bool} (hm : m_instruction_operations_9 p0 p1 = some r) :
    Calls Try.prog 95 #[.bool p0, .bool p1] s.w (RetS No s fun v s' => v = .bool r) := by
  unfold m_instruction_operations_9 at hm
  obtain ⟨N, hN, hNb⟩ := s.fresh
  have m0 : Mv (Up N No) s s := Mv.refl _ _
  refine E.entry (vs := [.bool p0, .bool p1]) (e := [(0, .bool p0), (1, .bool p1)]) Try.func95 rfl Try.ntmps95 rfl rfl ?_
  refine E.seq ?_
  refine E.reg ?_
  refine L.as Wt.no rfl rfl ?_
  refine L.nil ?_
  refine X.seqN ?_
  refine E.seq ?_
  refine E.reg ?_
  refine L.mv Wt.no rfl rfl ?_
  refine L.mv Wt.no rfl rfl ?_
  refine L.cut 2 (fun e w => ∃ (v1 : Bool), (p1 || p0) = v1 ∧ e = (8, .bool v1) :: [] ∧ w = s.w) ?_ ?_
  · rintro _ _ ⟨v1, rfl, rfl, rfl⟩
    refine L.as Wt.no rfl rfl ?_
    refine L.nil ?_
    refine X.seqN ?_
    refine E.ret ?_
    obtain rfl := Option.some.inj hm
    exact X.rt (.inl rfl) Try.results95 (Rs.tmp rfl Rs.nil) rfl ⟨_, (s).ren N (fun _ => 0), rfl, rfl, m0.ren hNb, rfl⟩
  · intro J2
    rcases Bool.eq_false_or_eq_true p1 with hc | hc
    · refine L.know (d := 6) rfl hc ?_
      refine L.skip rfl rfl rfl rfl ?_
      refine L.pkT Wt.no rfl rfl rfl rfl ?_
      exact L.sub (Sub.cons rfl Sub.nil) (J2 _ _ ⟨true, (orT hc).symm, rfl, rfl⟩)
    · refine L.know (d := 6) rfl hc ?_
      refine L.mv (Wt.mk rfl rfl) rfl rfl ?_
      refine L.pkF Wt.no rfl rfl rfl rfl ?_
      exact L.sub (Sub.cons rfl Sub.nil) (J2 _ _ ⟨p0, (orF hc).symm, rfl, rfl⟩)

end Go.Proofs.Ytkkemchihllklaa
