/- What some functions compute, as plain functions (m_..), and that the code computes it. Written by gen.py. -/
import Derived.Test.YtkkemchihllklaaG4
import Derived.Test.YtkkemchihllklaaProg
namespace Go.Proofs.Ytkkemchihllklaa
open Go Go.RowKit
/-- What instruction.operations$10 computes. -/
noncomputable def m_instruction_operations_10 (p0 : Bool) (p1 : Bool) : Option Bool :=
  some (p1 && (!p0))
set_option maxRecDepth 100000 in
set_option maxHeartbeats 8000000 in
theorem m_instruction_operations_10_c {s : Sig} {p0 : Bool} {p1 : Bool} {r : Bool} (hm : m_instruction_operations_10 p0 p1 = some r) :
    Calls Try.prog 96 #[.bool p0, .bool p1] s.w (RetS No s fun v s' => v = .bool r) := by
  unfold m_instruction_operations_10 at hm
  obtain ⟨N, hN, hNb⟩ := s.fresh
  have m0 : Mv (Up N No) s s := Mv.refl _ _
  refine E.entry (vs := [.bool p0, .bool p1]) (e := [(0, .bool p0), (1, .bool p1)]) Try.func96 rfl Try.ntmps96 rfl rfl ?_
  refine E.seq ?_
  refine E.reg ?_
  refine L.as Wt.no rfl rfl ?_
  refine L.nil ?_
  refine X.seqN ?_
  refine E.seq ?_
  refine E.reg ?_
  refine L.mv Wt.no rfl rfl ?_
  refine L.mv Wt.no rfl rfl ?_
  refine L.cut 3 (fun e w => ∃ (v1 : Bool), (p1 && (!p0)) = v1 ∧ e = (9, .bool v1) :: [] ∧ w = s.w) ?_ ?_
  · rintro _ _ ⟨v1, rfl, rfl, rfl⟩
    refine L.as Wt.no rfl rfl ?_
    refine L.nil ?_
    refine X.seqN ?_
    refine E.ret ?_
    obtain rfl := Option.some.inj hm
    exact X.rt (.inl rfl) Try.results96 (Rs.tmp rfl Rs.nil) rfl ⟨_, (s).ren N (fun _ => 0), rfl, rfl, m0.ren hNb, rfl⟩
  · intro J2
    rcases Bool.eq_false_or_eq_true p1 with hc | hc
    · refine L.know (d := 6) rfl hc ?_
      refine L.mv (Wt.mk rfl rfl) rfl rfl ?_
      refine L.not (Wt.mk rfl rfl) rfl rfl ?_
      refine L.pkT Wt.no rfl rfl rfl rfl ?_
      exact L.sub (Sub.cons rfl Sub.nil) (J2 _ _ ⟨(!p0), (andT hc).symm, rfl, rfl⟩)
    · refine L.know (d := 6) rfl hc ?_
      refine L.skip rfl rfl rfl rfl ?_
      refine L.skip rfl rfl rfl rfl ?_
      refine L.pkF Wt.no rfl rfl rfl rfl ?_
      exact L.sub (Sub.cons rfl Sub.nil) (J2 _ _ ⟨false, (andF hc).symm, rfl, rfl⟩)

/-- What instruction.operations$11 computes. -/
noncomputable def m_instruction_operations_11 (p0 : Bool) : Option Bool :=
  some true
set_option maxRecDepth 100000 in
set_option maxHeartbeats 8000000 in
theorem m_instruction_operations_11_c {s : Sig} {p0 : Bool} {r : Bool} (hm : m_instruction_operations_11 p0 = some r) :
    Calls Try.prog 97 #[.bool p0] s.w (RetS No s fun v s' => v = .bool r) := by
  unfold m_instruction_operations_11 at hm
  obtain ⟨N, hN, hNb⟩ := s.fresh
  have m0 : Mv (Up N No) s s := Mv.refl _ _
  refine E.entry (vs := [.bool p0]) (e := [(0, .bool p0)]) Try.func97 rfl Try.ntmps97 rfl rfl ?_
  refine E.seq ?_
  refine E.reg ?_
  refine L.as Wt.no rfl rfl ?_
  refine L.nil ?_
  refine X.seqN ?_
  refine E.seq ?_
  refine E.reg ?_
  refine L.as Wt.no rfl rfl ?_
  refine L.nil ?_
  refine X.seqN ?_
  refine E.ret ?_
  obtain rfl := Option.some.inj hm
  exact X.rt (.inl rfl) Try.results97 (Rs.tmp rfl Rs.nil) rfl ⟨_, (s).ren N (fun _ => 0), rfl, rfl, m0.ren hNb, rfl⟩

/-- What instruction.operations$12 computes. -/
noncomputable def m_instruction_operations_12 (p0 : Bool) : Option Bool :=
  some p0
set_option maxRecDepth 100000 in
set_option maxHeartbeats 8000000 in
theorem m_instruction_operations_12_c {s : Sig} {p0 : Bool} {r : Bool} (hm : m_instruction_operations_12 p0 = some r) :
    Calls Try.prog 98 #[.bool p0] s.w (RetS No s fun v s' => v = .bool r) := by
  unfold m_instruction_operations_12 at hm
  obtain ⟨N, hN, hNb⟩ := s.fresh
  have m0 : Mv (Up N No) s s := Mv.refl _ _
  refine E.entry (vs := [.bool p0]) (e := [(0, .bool p0)]) Try.func98 rfl Try.ntmps98 rfl rfl ?_
  refine E.seq ?_
  refine E.reg ?_
  refine L.as Wt.no rfl rfl ?_
  refine L.nil ?_
  refine X.seqN ?_
  refine E.seq ?_
  refine E.reg ?_
  refine L.mv Wt.no rfl rfl ?_
  refine L.as Wt.no rfl rfl ?_
  refine L.nil ?_
  refine X.seqN ?_
  refine E.ret ?_
  obtain rfl := Option.some.inj hm
  exact X.rt (.inl rfl) Try.results98 (Rs.tmp rfl Rs.nil) rfl ⟨_, (s).ren N (fun _ => 0), rfl, rfl, m0.ren hNb, rfl⟩

/-- What instruction.operations$13 computes. -/
noncomputable def m_instruction_operations_13 (p0 : Bool) : Option Bool :=
  some (!p0)
set_option maxRecDepth 100000 in
set_option maxHeartbeats 8000000 in
theorem m_instruction_operations_13_c {s : Sig} {p0 : Bool} {r : Bool} (hm : m_instruction_operations_13 p0 = some r) :
    Calls Try.prog 99 #[.bool p0] s.w (RetS No s fun v s' => v = .bool r) := by
  unfold m_instruction_operations_13 at hm
  obtain ⟨N, hN, hNb⟩ := s.fresh
  have m0 : Mv (Up N No) s s := Mv.refl _ _
  refine E.entry (vs := [.bool p0]) (e := [(0, .bool p0)]) Try.func99 rfl Try.ntmps99 rfl rfl ?_
  refine E.seq ?_
  refine E.reg ?_
  refine L.as Wt.no rfl rfl ?_
  refine L.nil ?_
  refine X.seqN ?_
  refine E.seq ?_
  refine E.reg ?_
  refine L.mv Wt.no rfl rfl ?_
  refine L.not Wt.no rfl rfl ?_
  refine L.as Wt.no rfl rfl ?_
  refine L.nil ?_
  refine X.seqN ?_
  refine E.ret ?_
  obtain rfl := Option.some.inj hm
  exact X.rt (.inl rfl) Try.results99 (Rs.tmp rfl Rs.nil) rfl ⟨_, (s).ren N (fun _ => 0), rfl, rfl, m0.ren hNb, rfl⟩

theorem bs124 : Bs Try.prog 124 129 5 [.int .i64 0, .string (⟨#[]⟩ : ByteArray), .nilFunc, .nilFunc, .nilFunc] := Bs.mk' Try.underlying124 (by kernel_rfl) (by kernel_rfl) rfl
theorem cf87 : Cf Try.prog 87 := Cf.mk Try.func87 (by kernel_rfl) (by kernel_rfl)
theorem cf88 : Cf Try.prog 88 := Cf.mk Try.func88 (by kernel_rfl) (by kernel_rfl)
theorem cf89 : Cf Try.prog 89 := Cf.mk Try.func89 (by kernel_rfl) (by kernel_rfl)
theorem cf90 : Cf Try.prog 90 := Cf.mk Try.func90 (by kernel_rfl) (by kernel_rfl)
theorem cf91 : Cf Try.prog 91 := Cf.mk Try.func91 (by kernel_rfl) (by kernel_rfl)
theorem cf92 : Cf Try.prog 92 := Cf.mk Try.func92 (by kernel_rfl) (by kernel_rfl)
theorem cf93 : Cf Try.prog 93 := Cf.mk Try.func93 (by kernel_rfl) (by kernel_rfl)
theorem cf94 : Cf Try.prog 94 := Cf.mk Try.func94 (by kernel_rfl) (by kernel_rfl)
theorem cf95 : Cf Try.prog 95 := Cf.mk Try.func95 (by kernel_rfl) (by kernel_rfl)
theorem cf96 : Cf Try.prog 96 := Cf.mk Try.func96 (by kernel_rfl) (by kernel_rfl)
theorem cf97 : Cf Try.prog 97 := Cf.mk Try.func97 (by kernel_rfl) (by kernel_rfl)
theorem cf98 : Cf Try.prog 98 := Cf.mk Try.func98 (by kernel_rfl) (by kernel_rfl)
theorem cf99 : Cf Try.prog 99 := Cf.mk Try.func99 (by kernel_rfl) (by kernel_rfl)
theorem el129 : El Try.prog 129 5 48 := El.mk' (z := .agg #[.int .i64 0, .string (⟨#[]⟩ : ByteArray), .nilFunc, .nilFunc, .nilFunc]) (by kernel_rfl) (by kernel_rfl) (by kernel_rfl) rfl
theorem pl129 : Pl Try.prog 129 [(0, 1), (1, 1), (2, 1), (3, 1), (4, 1)] [.int .i64 0, .string (⟨#[]⟩ : ByteArray), .nilFunc, .nilFunc, .nilFunc] := Pl.str Try.underlying129 (by kernel_rfl) (by kernel_rfl)
theorem fv87 {s : Sig} : FV2 Try.prog s (.func (.func 87) #[] #[]) (fun (x0 : Bool) (x1 : Bool) => [.bool x0, .bool x1]) (fun r => .bool r) m_instruction_operations_1 := ⟨87, #[], #[], rfl, cf87, fun x0 x1 r hm s' hl => by have hh := m_instruction_operations_1_c (s := s') hm; simpa using hh⟩
theorem fv88 {s : Sig} : FV2 Try.prog s (.func (.func 88) #[] #[]) (fun (x0 : Bool) (x1 : Bool) => [.bool x0, .bool x1]) (fun r => .bool r) m_instruction_operations_2 := ⟨88, #[], #[], rfl, cf88, fun x0 x1 r hm s' hl => by have hh := m_instruction_operations_2_c (s := s') hm; simpa using hh⟩
theorem fv89 {s : Sig} : FV2 Try.prog s (.func (.func 89) #[] #[]) (fun (x0 : Bool) (x1 : Bool) => [.bool x0, .bool x1]) (fun r => .bool r) m_instruction_operations_3 := ⟨89, #[], #[], rfl, cf89, fun x0 x1 r hm s' hl => by have hh := m_instruction_operations_3_c (s := s') hm; simpa using hh⟩
theorem fv90 {s : Sig} : FV2 Try.prog s (.func (.func 90) #[] #[]) (fun (x0 : Bool) (x1 : Bool) => [.bool x0, .bool x1]) (fun r => .bool r) m_instruction_operations_4 := ⟨90, #[], #[], rfl, cf90, fun x0 x1 r hm s' hl => by have hh := m_instruction_operations_4_c (s := s') hm; simpa using hh⟩
theorem fv91 {s : Sig} : FV2 Try.prog s (.func (.func 91) #[] #[]) (fun (x0 : Bool) (x1 : Bool) => [.bool x0, .bool x1]) (fun r => .bool r) m_instruction_operations_5 := ⟨91, #[], #[], rfl, cf91, fun x0 x1 r hm s' hl => by have hh := m_instruction_operations_5_c (s := s') hm; simpa using hh⟩
theorem fv92 {s : Sig} : FV2 Try.prog s (.func (.func 92) #[] #[]) (fun (x0 : Bool) (x1 : Bool) => [.bool x0, .bool x1]) (fun r => .bool r) m_instruction_operations_6 := ⟨92, #[], #[], rfl, cf92, fun x0 x1 r hm s' hl => by have hh := m_instruction_operations_6_c (s := s') hm; simpa using hh⟩
theorem fv93 {s : Sig} : FV2 Try.prog s (.func (.func 93) #[] #[]) (fun (x0 : Bool) (x1 : Bool) => [.bool x0, .bool x1]) (fun r => .bool r) m_instruction_operations_7 := ⟨93, #[], #[], rfl, cf93, fun x0 x1 r hm s' hl => by have hh := m_instruction_operations_7_c (s := s') hm; simpa using hh⟩
theorem fv94 {s : Sig} : FV2 Try.prog s (.func (.func 94) #[] #[]) (fun (x0 : Bool) (x1 : Bool) => [.bool x0, .bool x1]) (fun r => .bool r) m_instruction_operations_8 := ⟨94, #[], #[], rfl, cf94, fun x0 x1 r hm s' hl => by have hh := m_instruction_operations_8_c (s := s') hm; simpa using hh⟩
theorem fv95 {s : Sig} : FV2 Try.prog s (.func (.func 95) #[] #[]) (fun (x0 : Bool) (x1 : Bool) => [.bool x0, .bool x1]) (fun r => .bool r) m_instruction_operations_9 := ⟨95, #[], #[], rfl, cf95, fun x0 x1 r hm s' hl => by have hh := m_instruction_operations_9_c (s := s') hm; simpa using hh⟩
theorem fv96 {s : Sig} : FV2 Try.prog s (.func (.func 96) #[] #[]) (fun (x0 : Bool) (x1 : Bool) => [.bool x0, .bool x1]) (fun r => .bool r) m_instruction_operations_10 := ⟨96, #[], #[], rfl, cf96, fun x0 x1 r hm s' hl => by have hh := m_instruction_operations_10_c (s := s') hm; simpa using hh⟩
theorem fv97 {s : Sig} : FV1 Try.prog s (.func (.func 97) #[] #[]) (fun (x0 : Bool) => [.bool x0]) (fun r => .bool r) m_instruction_operations_11 := ⟨97, #[], #[], rfl, cf97, fun x0 r hm s' hl => by have hh := m_instruction_operations_11_c (s := s') hm; simpa using hh⟩
theorem fv98 {s : Sig} : FV1 Try.prog s (.func (.func 98) #[] #[]) (fun (x0 : Bool) => [.bool x0]) (fun r => .bool r) m_instruction_operations_12 := ⟨98, #[], #[], rfl, cf98, fun x0 r hm s' hl => by have hh := m_instruction_operations_12_c (s := s') hm; simpa using hh⟩
theorem fv99 {s : Sig} : FV1 Try.prog s (.func (.func 99) #[] #[]) (fun (x0 : Bool) => [.bool x0]) (fun r => .bool r) m_instruction_operations_13 := ⟨99, #[], #[], rfl, cf99, fun x0 r hm s' hl => by have hh := m_instruction_operations_13_c (s := s') hm; simpa using hh⟩
/-- What instruction.operations computes. -/
noncomputable def m_instruction_operations : Option (List (Int × ByteArray × (Option (Bool → Bool → Option Bool)) × (Option (Bool → Bool → Option Bool)) × (Option (Bool → Option Bool)))) :=
  some ([(1, (⟨#[76, 68]⟩ : ByteArray), (some m_instruction_operations_1), none, none), (2, (⟨#[76, 68, 78]⟩ : ByteArray), (some m_instruction_operations_2), none, none), (3, (⟨#[65, 78, 68]⟩ : ByteArray), (some m_instruction_operations_3), none, none), (4, (⟨#[65, 78, 68, 78]⟩ : ByteArray), (some m_instruction_operations_4), none, none), (5, (⟨#[79, 82]⟩ : ByteArray), (some m_instruction_operations_5), none, none), (6, (⟨#[79, 82, 78]⟩ : ByteArray), (some m_instruction_operations_6), none, none), (7, (⟨#[83, 84]⟩ : ByteArray), none, (some m_instruction_operations_7), none), (8, (⟨#[83, 84, 78]⟩ : ByteArray), none, (some m_instruction_operations_8), none), (9, (⟨#[83]⟩ : ByteArray), none, (some m_instruction_operations_9), none), (10, (⟨#[82]⟩ : ByteArray), none, (some m_instruction_operations_10), none), (11, (⟨#[74, 77, 80]⟩ : ByteArray), none, none, (some m_instruction_operations_11)), (12, (⟨#[74, 77, 80, 67]⟩ : ByteArray), none, none, (some m_instruction_operations_12)), (13, (⟨#[74, 77, 80, 67, 78]⟩ : ByteArray), none, none, (some m_instruction_operations_13))] : List (Int × ByteArray × (Option (Bool → Bool → Option Bool)) × (Option (Bool → Bool → Option Bool)) × (Option (Bool → Option Bool))))
set_option maxRecDepth 100000 in
set_option maxHeartbeats 8000000 in
theorem m_instruction_operations_c {s : Sig} {r : (List (Int × ByteArray × (Option (Bool → Bool → Option Bool)) × (Option (Bool → Bool → Option Bool)) × (Option (Bool → Option Bool))))} (hm : m_instruction_operations = some r) :
    Calls Try.prog 74 #[] s.w (RetS No s fun v s' => ∃ (a1 : Option Addr) (c1 : Nat), v = .slice a1 r.length c1 ∧ RdL (rP (rK .i64) (rP rStr (rP (rF2 Try.prog (fun (x0 : Bool) (x1 : Bool) => [.bool x0, .bool x1]) (fun (r : Bool) => .bool r)) (rP (rF2 Try.prog (fun (x0 : Bool) (x1 : Bool) => [.bool x0, .bool x1]) (fun (r : Bool) => .bool r)) (rF1 Try.prog (fun (x0 : Bool) => [.bool x0]) (fun (r : Bool) => .bool r)))))) s' a1 c1 r) := by
  unfold m_instruction_operations at hm
  obtain ⟨N, hN, hNb⟩ := s.fresh
  have m0 : Mv (Up N No) s s := Mv.refl _ _
  refine E.entry (vs := []) (e := []) Try.func74 rfl Try.ntmps74 rfl rfl ?_
  refine E.seq ?_
  refine E.reg ?_
  refine L.as Wt.no rfl rfl ?_
  refine L.nil ?_
  refine X.seqN ?_
  refine E.seq ?_
  refine E.reg ?_
  refine L.bu (cs := [.int .i64 1, .string (⟨#[76, 68]⟩ : ByteArray), (.func (.func 87) #[] #[]), .nilFunc, .nilFunc]) pl129 Wt.no rfl rfl rfl ?_
  refine L.bu (cs := [.int .i64 2, .string (⟨#[76, 68, 78]⟩ : ByteArray), (.func (.func 88) #[] #[]), .nilFunc, .nilFunc]) pl129 Wt.no rfl rfl rfl ?_
  refine L.bu (cs := [.int .i64 3, .string (⟨#[65, 78, 68]⟩ : ByteArray), (.func (.func 89) #[] #[]), .nilFunc, .nilFunc]) pl129 Wt.no rfl rfl rfl ?_
  refine L.bu (cs := [.int .i64 4, .string (⟨#[65, 78, 68, 78]⟩ : ByteArray), (.func (.func 90) #[] #[]), .nilFunc, .nilFunc]) pl129 Wt.no rfl rfl rfl ?_
  refine L.bu (cs := [.int .i64 5, .string (⟨#[79, 82]⟩ : ByteArray), (.func (.func 91) #[] #[]), .nilFunc, .nilFunc]) pl129 Wt.no rfl rfl rfl ?_
  refine L.bu (cs := [.int .i64 6, .string (⟨#[79, 82, 78]⟩ : ByteArray), (.func (.func 92) #[] #[]), .nilFunc, .nilFunc]) pl129 Wt.no rfl rfl rfl ?_
  refine L.bu (cs := [.int .i64 7, .string (⟨#[83, 84]⟩ : ByteArray), .nilFunc, (.func (.func 93) #[] #[]), .nilFunc]) pl129 Wt.no rfl rfl rfl ?_
  refine L.bu (cs := [.int .i64 8, .string (⟨#[83, 84, 78]⟩ : ByteArray), .nilFunc, (.func (.func 94) #[] #[]), .nilFunc]) pl129 Wt.no rfl rfl rfl ?_
  refine L.bu (cs := [.int .i64 9, .string (⟨#[83]⟩ : ByteArray), .nilFunc, (.func (.func 95) #[] #[]), .nilFunc]) pl129 Wt.no rfl rfl rfl ?_
  refine L.bu (cs := [.int .i64 10, .string (⟨#[82]⟩ : ByteArray), .nilFunc, (.func (.func 96) #[] #[]), .nilFunc]) pl129 Wt.no rfl rfl rfl ?_
  refine L.bu (cs := [.int .i64 11, .string (⟨#[74, 77, 80]⟩ : ByteArray), .nilFunc, .nilFunc, (.func (.func 97) #[] #[])]) pl129 Wt.no rfl rfl rfl ?_
  refine L.bu (cs := [.int .i64 12, .string (⟨#[74, 77, 80, 67]⟩ : ByteArray), .nilFunc, .nilFunc, (.func (.func 98) #[] #[])]) pl129 Wt.no rfl rfl rfl ?_
  refine L.bu (cs := [.int .i64 13, .string (⟨#[74, 77, 80, 67, 78]⟩ : ByteArray), .nilFunc, .nilFunc, (.func (.func 99) #[] #[])]) pl129 Wt.no rfl rfl rfl ?_
  refine L.bsE (k := 13) (cs := [.int .i64 1, .string (⟨#[76, 68]⟩ : ByteArray), (.func (.func 87) #[] #[]), .nilFunc, .nilFunc, .int .i64 2, .string (⟨#[76, 68, 78]⟩ : ByteArray), (.func (.func 88) #[] #[]), .nilFunc, .nilFunc, .int .i64 3, .string (⟨#[65, 78, 68]⟩ : ByteArray), (.func (.func 89) #[] #[]), .nilFunc, .nilFunc, .int .i64 4, .string (⟨#[65, 78, 68, 78]⟩ : ByteArray), (.func (.func 90) #[] #[]), .nilFunc, .nilFunc, .int .i64 5, .string (⟨#[79, 82]⟩ : ByteArray), (.func (.func 91) #[] #[]), .nilFunc, .nilFunc, .int .i64 6, .string (⟨#[79, 82, 78]⟩ : ByteArray), (.func (.func 92) #[] #[]), .nilFunc, .nilFunc, .int .i64 7, .string (⟨#[83, 84]⟩ : ByteArray), .nilFunc, (.func (.func 93) #[] #[]), .nilFunc, .int .i64 8, .string (⟨#[83, 84, 78]⟩ : ByteArray), .nilFunc, (.func (.func 94) #[] #[]), .nilFunc, .int .i64 9, .string (⟨#[83]⟩ : ByteArray), .nilFunc, (.func (.func 95) #[] #[]), .nilFunc, .int .i64 10, .string (⟨#[82]⟩ : ByteArray), .nilFunc, (.func (.func 96) #[] #[]), .nilFunc, .int .i64 11, .string (⟨#[74, 77, 80]⟩ : ByteArray), .nilFunc, .nilFunc, (.func (.func 97) #[] #[]), .int .i64 12, .string (⟨#[74, 77, 80, 67]⟩ : ByteArray), .nilFunc, .nilFunc, (.func (.func 98) #[] #[]), .int .i64 13, .string (⟨#[74, 77, 80, 67, 78]⟩ : ByteArray), .nilFunc, .nilFunc, (.func (.func 99) #[] #[])]) 0 bs124 (Nat.le_of_ble_eq_true rfl) Wt.no rfl rfl rfl rfl ?_
  intro b2 s3 m4 bx2
  replace m0 := m0.trans m4.no
  have h2 := Bx.rdL (r := (rP (rK .i64) (rP rStr (rP (rF2 Try.prog (fun (x0 : Bool) (x1 : Bool) => [.bool x0, .bool x1]) (fun (r : Bool) => .bool r)) (rP (rF2 Try.prog (fun (x0 : Bool) (x1 : Bool) => [.bool x0, .bool x1]) (fun (r : Bool) => .bool r)) (rF1 Try.prog (fun (x0 : Bool) => [.bool x0]) (fun (r : Bool) => .bool r))))))) (xs := ([(1, (⟨#[76, 68]⟩ : ByteArray), (some m_instruction_operations_1), none, none), (2, (⟨#[76, 68, 78]⟩ : ByteArray), (some m_instruction_operations_2), none, none), (3, (⟨#[65, 78, 68]⟩ : ByteArray), (some m_instruction_operations_3), none, none), (4, (⟨#[65, 78, 68, 78]⟩ : ByteArray), (some m_instruction_operations_4), none, none), (5, (⟨#[79, 82]⟩ : ByteArray), (some m_instruction_operations_5), none, none), (6, (⟨#[79, 82, 78]⟩ : ByteArray), (some m_instruction_operations_6), none, none), (7, (⟨#[83, 84]⟩ : ByteArray), none, (some m_instruction_operations_7), none), (8, (⟨#[83, 84, 78]⟩ : ByteArray), none, (some m_instruction_operations_8), none), (9, (⟨#[83]⟩ : ByteArray), none, (some m_instruction_operations_9), none), (10, (⟨#[82]⟩ : ByteArray), none, (some m_instruction_operations_10), none), (11, (⟨#[74, 77, 80]⟩ : ByteArray), none, none, (some m_instruction_operations_11)), (12, (⟨#[74, 77, 80, 67]⟩ : ByteArray), none, none, (some m_instruction_operations_12)), (13, (⟨#[74, 77, 80, 67, 78]⟩ : ByteArray), none, none, (some m_instruction_operations_13))] : List (Int × ByteArray × (Option (Bool → Bool → Option Bool)) × (Option (Bool → Bool → Option Bool)) × (Option (Bool → Option Bool))))) bx2 ⟨[.int .i64 1, .string (⟨#[76, 68]⟩ : ByteArray), (.func (.func 87) #[] #[]), .nilFunc, .nilFunc], _, rfl, ⟨[.int .i64 1], [.string (⟨#[76, 68]⟩ : ByteArray), (.func (.func 87) #[] #[]), .nilFunc, .nilFunc], rfl, rfl, ⟨[.string (⟨#[76, 68]⟩ : ByteArray)], [(.func (.func 87) #[] #[]), .nilFunc, .nilFunc], rfl, rfl, ⟨[(.func (.func 87) #[] #[])], [.nilFunc, .nilFunc], rfl, ⟨_, rfl, fv87⟩, ⟨[.nilFunc], [.nilFunc], rfl, ⟨_, rfl, rfl⟩, ⟨_, rfl, rfl⟩⟩⟩⟩⟩, ⟨[.int .i64 2, .string (⟨#[76, 68, 78]⟩ : ByteArray), (.func (.func 88) #[] #[]), .nilFunc, .nilFunc], _, rfl, ⟨[.int .i64 2], [.string (⟨#[76, 68, 78]⟩ : ByteArray), (.func (.func 88) #[] #[]), .nilFunc, .nilFunc], rfl, rfl, ⟨[.string (⟨#[76, 68, 78]⟩ : ByteArray)], [(.func (.func 88) #[] #[]), .nilFunc, .nilFunc], rfl, rfl, ⟨[(.func (.func 88) #[] #[])], [.nilFunc, .nilFunc], rfl, ⟨_, rfl, fv88⟩, ⟨[.nilFunc], [.nilFunc], rfl, ⟨_, rfl, rfl⟩, ⟨_, rfl, rfl⟩⟩⟩⟩⟩, ⟨[.int .i64 3, .string (⟨#[65, 78, 68]⟩ : ByteArray), (.func (.func 89) #[] #[]), .nilFunc, .nilFunc], _, rfl, ⟨[.int .i64 3], [.string (⟨#[65, 78, 68]⟩ : ByteArray), (.func (.func 89) #[] #[]), .nilFunc, .nilFunc], rfl, rfl, ⟨[.string (⟨#[65, 78, 68]⟩ : ByteArray)], [(.func (.func 89) #[] #[]), .nilFunc, .nilFunc], rfl, rfl, ⟨[(.func (.func 89) #[] #[])], [.nilFunc, .nilFunc], rfl, ⟨_, rfl, fv89⟩, ⟨[.nilFunc], [.nilFunc], rfl, ⟨_, rfl, rfl⟩, ⟨_, rfl, rfl⟩⟩⟩⟩⟩, ⟨[.int .i64 4, .string (⟨#[65, 78, 68, 78]⟩ : ByteArray), (.func (.func 90) #[] #[]), .nilFunc, .nilFunc], _, rfl, ⟨[.int .i64 4], [.string (⟨#[65, 78, 68, 78]⟩ : ByteArray), (.func (.func 90) #[] #[]), .nilFunc, .nilFunc], rfl, rfl, ⟨[.string (⟨#[65, 78, 68, 78]⟩ : ByteArray)], [(.func (.func 90) #[] #[]), .nilFunc, .nilFunc], rfl, rfl, ⟨[(.func (.func 90) #[] #[])], [.nilFunc, .nilFunc], rfl, ⟨_, rfl, fv90⟩, ⟨[.nilFunc], [.nilFunc], rfl, ⟨_, rfl, rfl⟩, ⟨_, rfl, rfl⟩⟩⟩⟩⟩, ⟨[.int .i64 5, .string (⟨#[79, 82]⟩ : ByteArray), (.func (.func 91) #[] #[]), .nilFunc, .nilFunc], _, rfl, ⟨[.int .i64 5], [.string (⟨#[79, 82]⟩ : ByteArray), (.func (.func 91) #[] #[]), .nilFunc, .nilFunc], rfl, rfl, ⟨[.string (⟨#[79, 82]⟩ : ByteArray)], [(.func (.func 91) #[] #[]), .nilFunc, .nilFunc], rfl, rfl, ⟨[(.func (.func 91) #[] #[])], [.nilFunc, .nilFunc], rfl, ⟨_, rfl, fv91⟩, ⟨[.nilFunc], [.nilFunc], rfl, ⟨_, rfl, rfl⟩, ⟨_, rfl, rfl⟩⟩⟩⟩⟩, ⟨[.int .i64 6, .string (⟨#[79, 82, 78]⟩ : ByteArray), (.func (.func 92) #[] #[]), .nilFunc, .nilFunc], _, rfl, ⟨[.int .i64 6], [.string (⟨#[79, 82, 78]⟩ : ByteArray), (.func (.func 92) #[] #[]), .nilFunc, .nilFunc], rfl, rfl, ⟨[.string (⟨#[79, 82, 78]⟩ : ByteArray)], [(.func (.func 92) #[] #[]), .nilFunc, .nilFunc], rfl, rfl, ⟨[(.func (.func 92) #[] #[])], [.nilFunc, .nilFunc], rfl, ⟨_, rfl, fv92⟩, ⟨[.nilFunc], [.nilFunc], rfl, ⟨_, rfl, rfl⟩, ⟨_, rfl, rfl⟩⟩⟩⟩⟩, ⟨[.int .i64 7, .string (⟨#[83, 84]⟩ : ByteArray), .nilFunc, (.func (.func 93) #[] #[]), .nilFunc], _, rfl, ⟨[.int .i64 7], [.string (⟨#[83, 84]⟩ : ByteArray), .nilFunc, (.func (.func 93) #[] #[]), .nilFunc], rfl, rfl, ⟨[.string (⟨#[83, 84]⟩ : ByteArray)], [.nilFunc, (.func (.func 93) #[] #[]), .nilFunc], rfl, rfl, ⟨[.nilFunc], [(.func (.func 93) #[] #[]), .nilFunc], rfl, ⟨_, rfl, rfl⟩, ⟨[(.func (.func 93) #[] #[])], [.nilFunc], rfl, ⟨_, rfl, fv93⟩, ⟨_, rfl, rfl⟩⟩⟩⟩⟩, ⟨[.int .i64 8, .string (⟨#[83, 84, 78]⟩ : ByteArray), .nilFunc, (.func (.func 94) #[] #[]), .nilFunc], _, rfl, ⟨[.int .i64 8], [.string (⟨#[83, 84, 78]⟩ : ByteArray), .nilFunc, (.func (.func 94) #[] #[]), .nilFunc], rfl, rfl, ⟨[.string (⟨#[83, 84, 78]⟩ : ByteArray)], [.nilFunc, (.func (.func 94) #[] #[]), .nilFunc], rfl, rfl, ⟨[.nilFunc], [(.func (.func 94) #[] #[]), .nilFunc], rfl, ⟨_, rfl, rfl⟩, ⟨[(.func (.func 94) #[] #[])], [.nilFunc], rfl, ⟨_, rfl, fv94⟩, ⟨_, rfl, rfl⟩⟩⟩⟩⟩, ⟨[.int .i64 9, .string (⟨#[83]⟩ : ByteArray), .nilFunc, (.func (.func 95) #[] #[]), .nilFunc], _, rfl, ⟨[.int .i64 9], [.string (⟨#[83]⟩ : ByteArray), .nilFunc, (.func (.func 95) #[] #[]), .nilFunc], rfl, rfl, ⟨[.string (⟨#[83]⟩ : ByteArray)], [.nilFunc, (.func (.func 95) #[] #[]), .nilFunc], rfl, rfl, ⟨[.nilFunc], [(.func (.func 95) #[] #[]), .nilFunc], rfl, ⟨_, rfl, rfl⟩, ⟨[(.func (.func 95) #[] #[])], [.nilFunc], rfl, ⟨_, rfl, fv95⟩, ⟨_, rfl, rfl⟩⟩⟩⟩⟩, ⟨[.int .i64 10, .string (⟨#[82]⟩ : ByteArray), .nilFunc, (.func (.func 96) #[] #[]), .nilFunc], _, rfl, ⟨[.int .i64 10], [.string (⟨#[82]⟩ : ByteArray), .nilFunc, (.func (.func 96) #[] #[]), .nilFunc], rfl, rfl, ⟨[.string (⟨#[82]⟩ : ByteArray)], [.nilFunc, (.func (.func 96) #[] #[]), .nilFunc], rfl, rfl, ⟨[.nilFunc], [(.func (.func 96) #[] #[]), .nilFunc], rfl, ⟨_, rfl, rfl⟩, ⟨[(.func (.func 96) #[] #[])], [.nilFunc], rfl, ⟨_, rfl, fv96⟩, ⟨_, rfl, rfl⟩⟩⟩⟩⟩, ⟨[.int .i64 11, .string (⟨#[74, 77, 80]⟩ : ByteArray), .nilFunc, .nilFunc, (.func (.func 97) #[] #[])], _, rfl, ⟨[.int .i64 11], [.string (⟨#[74, 77, 80]⟩ : ByteArray), .nilFunc, .nilFunc, (.func (.func 97) #[] #[])], rfl, rfl, ⟨[.string (⟨#[74, 77, 80]⟩ : ByteArray)], [.nilFunc, .nilFunc, (.func (.func 97) #[] #[])], rfl, rfl, ⟨[.nilFunc], [.nilFunc, (.func (.func 97) #[] #[])], rfl, ⟨_, rfl, rfl⟩, ⟨[.nilFunc], [(.func (.func 97) #[] #[])], rfl, ⟨_, rfl, rfl⟩, ⟨_, rfl, fv97⟩⟩⟩⟩⟩, ⟨[.int .i64 12, .string (⟨#[74, 77, 80, 67]⟩ : ByteArray), .nilFunc, .nilFunc, (.func (.func 98) #[] #[])], _, rfl, ⟨[.int .i64 12], [.string (⟨#[74, 77, 80, 67]⟩ : ByteArray), .nilFunc, .nilFunc, (.func (.func 98) #[] #[])], rfl, rfl, ⟨[.string (⟨#[74, 77, 80, 67]⟩ : ByteArray)], [.nilFunc, .nilFunc, (.func (.func 98) #[] #[])], rfl, rfl, ⟨[.nilFunc], [.nilFunc, (.func (.func 98) #[] #[])], rfl, ⟨_, rfl, rfl⟩, ⟨[.nilFunc], [(.func (.func 98) #[] #[])], rfl, ⟨_, rfl, rfl⟩, ⟨_, rfl, fv98⟩⟩⟩⟩⟩, ⟨[.int .i64 13, .string (⟨#[74, 77, 80, 67, 78]⟩ : ByteArray), .nilFunc, .nilFunc, (.func (.func 99) #[] #[])], _, rfl, ⟨[.int .i64 13], [.string (⟨#[74, 77, 80, 67, 78]⟩ : ByteArray), .nilFunc, .nilFunc, (.func (.func 99) #[] #[])], rfl, rfl, ⟨[.string (⟨#[74, 77, 80, 67, 78]⟩ : ByteArray)], [.nilFunc, .nilFunc, (.func (.func 99) #[] #[])], rfl, rfl, ⟨[.nilFunc], [.nilFunc, (.func (.func 99) #[] #[])], rfl, ⟨_, rfl, rfl⟩, ⟨[.nilFunc], [(.func (.func 99) #[] #[])], rfl, ⟨_, rfl, rfl⟩, ⟨_, rfl, fv99⟩⟩⟩⟩⟩, rfl⟩⟩⟩⟩⟩⟩⟩⟩⟩⟩⟩⟩⟩ (Nat.le_of_ble_eq_true rfl)
  refine L.as Wt.no rfl rfl ?_
  refine L.nil ?_
  refine X.seqN ?_
  refine E.ret ?_
  obtain rfl := Option.some.inj hm
  exact X.rt (.inl rfl) Try.results74 (Rs.tmp rfl Rs.nil) rfl ⟨_, (s3).ren N (fun _ => 0), rfl, rfl, m0.ren hNb, ⟨(some ⟨b2, 0, none⟩), ([(1, (⟨#[76, 68]⟩ : ByteArray), (some m_instruction_operations_1), none, none), (2, (⟨#[76, 68, 78]⟩ : ByteArray), (some m_instruction_operations_2), none, none), (3, (⟨#[65, 78, 68]⟩ : ByteArray), (some m_instruction_operations_3), none, none), (4, (⟨#[65, 78, 68, 78]⟩ : ByteArray), (some m_instruction_operations_4), none, none), (5, (⟨#[79, 82]⟩ : ByteArray), (some m_instruction_operations_5), none, none), (6, (⟨#[79, 82, 78]⟩ : ByteArray), (some m_instruction_operations_6), none, none), (7, (⟨#[83, 84]⟩ : ByteArray), none, (some m_instruction_operations_7), none), (8, (⟨#[83, 84, 78]⟩ : ByteArray), none, (some m_instruction_operations_8), none), (9, (⟨#[83]⟩ : ByteArray), none, (some m_instruction_operations_9), none), (10, (⟨#[82]⟩ : ByteArray), none, (some m_instruction_operations_10), none), (11, (⟨#[74, 77, 80]⟩ : ByteArray), none, none, (some m_instruction_operations_11)), (12, (⟨#[74, 77, 80, 67]⟩ : ByteArray), none, none, (some m_instruction_operations_12)), (13, (⟨#[74, 77, 80, 67, 78]⟩ : ByteArray), none, none, (some m_instruction_operations_13))] : List (Int × ByteArray × (Option (Bool → Bool → Option Bool)) × (Option (Bool → Bool → Option Bool)) × (Option (Bool → Option Bool)))).length, rfl, (h2.ren hN)⟩⟩

/-- What instruction.width computes. -/
noncomputable def m_instruction_width (p0 : Int × Int × Int × List Bool × (List (Int × Int))) : Option Int :=
  some (W ((W (p0.1 + p0.2.1)) + p0.2.2.1))
set_option maxRecDepth 100000 in
set_option maxHeartbeats 8000000 in
theorem m_instruction_width_c {s : Sig} {p0 : Int × Int × Int × List Bool × (List (Int × Int))} {a1 : Option Addr} {c1 : Nat} {a2 : Option Addr} {c2 : Nat} {r : Int} (h1 : RdL rB s a1 c1 p0.2.2.2.1) (h2 : RdL (rP (rK .i64) (rK .i64)) s a2 c2 p0.2.2.2.2) (hm : m_instruction_width p0 = some r) :
    Calls Try.prog 75 #[.agg #[.int .i64 p0.1, .int .i64 p0.2.1, .int .i64 p0.2.2.1, .slice a1 p0.2.2.2.1.length c1, .slice a2 p0.2.2.2.2.length c2]] s.w (RetS No s fun v s' => v = .int .i64 r) := by
  unfold m_instruction_width at hm
  obtain ⟨N, hN, hNb⟩ := s.fresh
  have m0 : Mv (Up N No) s s := Mv.refl _ _
  refine E.entry (vs := [.agg #[.int .i64 p0.1, .int .i64 p0.2.1, .int .i64 p0.2.2.1, .slice a1 p0.2.2.2.1.length c1, .slice a2 p0.2.2.2.2.length c2]]) (e := [(0, .agg #[.int .i64 p0.1, .int .i64 p0.2.1, .int .i64 p0.2.2.1, .slice a1 p0.2.2.2.1.length c1, .slice a2 p0.2.2.2.2.length c2])]) Try.func75 rfl Try.ntmps75 rfl rfl ?_
  refine E.seq ?_
  refine E.reg ?_
  refine L.box (N + 0) Wt.no rfl rfl rfl ?_
  intro b3 s4 m5 bx3
  replace m0 := m0.trans m5.no
  replace h1 := h1.mono (m5.le no_No)
  replace h2 := h2.mono (m5.le no_No)
  refine L.as Wt.no rfl rfl ?_
  refine L.nil ?_
  refine X.seqN ?_
  refine E.seq ?_
  refine E.reg ?_
  refine L.fa fa32_0 Wt.no rfl rfl ?_
  refine L.ld (j := 0) bx3.mem nag3 Wt.no rfl rfl rfl rfl ?_
  refine L.fa fa32_1 Wt.no rfl rfl ?_
  refine L.ld (j := 1) bx3.mem nag3 Wt.no rfl rfl rfl rfl ?_
  refine L.bi Wt.no rfl rfl rfl rfl ?_
  refine L.fa fa32_2 Wt.no rfl rfl ?_
  refine L.ld (j := 2) bx3.mem nag3 Wt.no rfl rfl rfl rfl ?_
  refine L.bi Wt.no rfl rfl rfl rfl ?_
  refine L.as Wt.no rfl rfl ?_
  refine L.nil ?_
  refine X.seqN ?_
  refine E.ret ?_
  obtain rfl := Option.some.inj hm
  exact X.rt (.inl rfl) Try.results75 (Rs.tmp rfl Rs.nil) rfl ⟨_, (s4).ren N (fun _ => 0), rfl, rfl, m0.ren hNb, rfl⟩

theorem ag119 : Ag Try.prog 119 2 := Ag.mk' Try.underlying119 rfl (by kernel_rfl)
theorem ag129 : Ag Try.prog 129 5 := Ag.mk' Try.underlying129 rfl (by kernel_rfl)
theorem ag32 : Ag Try.prog 32 5 := Ag.mk' Try.underlying32 rfl (by kernel_rfl)
theorem cf74 : Cf Try.prog 74 := Cf.mk Try.func74 (by kernel_rfl) (by kernel_rfl)
theorem cf75 : Cf Try.prog 75 := Cf.mk Try.func75 (by kernel_rfl) (by kernel_rfl)
theorem fa119_0 : FA Try.prog 119 0 0 := FA.mk Try.underlying119 rfl rfl ⟨1, by decide, by kernel_rfl⟩
theorem fa129_3 : FA Try.prog 129 3 3 := FA.mk Try.underlying129 rfl rfl ⟨1, by decide, by kernel_rfl⟩
theorem fa129_4 : FA Try.prog 129 4 4 := FA.mk Try.underlying129 rfl rfl ⟨1, by decide, by kernel_rfl⟩
theorem nag126 : NAg Try.prog 126 := NAg.mk' Try.underlying126 rfl (by kernel_rfl)
theorem nag127 : NAg Try.prog 127 := NAg.mk' Try.underlying127 rfl (by kernel_rfl)
theorem sl124 : Sl Try.prog 124 129 5 := Sl.mk' Try.underlying124 (by kernel_rfl)
theorem zz119 : (Try.prog.info? 119).bind (·.zero) = some (.agg #[.int .i64 0, .int .i64 0]) := by kernel_rfl
theorem zz129 : (Try.prog.info? 129).bind (·.zero) = some (.agg #[.int .i64 0, .string (⟨#[]⟩ : ByteArray), .nilFunc, .nilFunc, .nilFunc]) := by kernel_rfl
noncomputable def m_instruction_checkInstruction_j1 (p0 : Int × Int × Int × List Bool × (List (Int × Int))) (x6 : Int × Int) (x18 : Int × ByteArray × (Option (Bool → Bool → Option Bool)) × (Option (Bool → Bool → Option Bool)) × (Option (Bool → Option Bool))) (b30 : Bool) : Option Int :=
  if b30 then
    some 2
  else
    if (x18.2.2.2.1.isSome && (decide (x6.2 < p0.1))) then
      some 19
    else
      some 0
/-- What instruction.checkInstruction computes. -/
noncomputable def m_instruction_checkInstruction (p0 : Int × Int × Int × List Bool × (List (Int × Int))) (p1 : Int) : Option Int :=
  (idx p0.2.2.2.2 p1).bind fun x6 =>
  (m_instruction_operations).bind fun r13 =>
  if ((decide (x6.1 < 1)) || (decide (x6.1 > (r13.length : Int)))) then
    some 11
  else
    (idx r13 (W (x6.1 - 1))).bind fun x18 =>
    if x18.2.2.2.2.isSome then
      if ((decide (x6.2 ≤ p1)) || (decide (x6.2 > (p0.2.2.2.2.length : Int)))) then
        some 2
      else
        some 0
    else
      if decide (x6.2 < 0) then
        m_instruction_checkInstruction_j1 p0 x6 x18 true
      else
        (m_instruction_width p0).bind fun r51 =>
        m_instruction_checkInstruction_j1 p0 x6 x18 (decide (x6.2 ≥ r51))
set_option maxRecDepth 100000 in
set_option maxHeartbeats 8000000 in
theorem m_instruction_checkInstruction_c {s : Sig} {p0 : Int × Int × Int × List Bool × (List (Int × Int))} {p1 : Int} {a1 : Option Addr} {c1 : Nat} {a2 : Option Addr} {c2 : Nat} {r : Int} (h1 : RdL rB s a1 c1 p0.2.2.2.1) (h2 : RdL (rP (rK .i64) (rK .i64)) s a2 c2 p0.2.2.2.2) (hm : m_instruction_checkInstruction p0 p1 = some r) :
    Calls Try.prog 58 #[.agg #[.int .i64 p0.1, .int .i64 p0.2.1, .int .i64 p0.2.2.1, .slice a1 p0.2.2.2.1.length c1, .slice a2 p0.2.2.2.2.length c2], .int .i64 p1] s.w (RetS No s fun v s' => v = .int .i64 r) := by
  unfold m_instruction_checkInstruction at hm
  obtain ⟨N, hN, hNb⟩ := s.fresh
  have m0 : Mv (Up N No) s s := Mv.refl _ _
  refine E.entry (vs := [.agg #[.int .i64 p0.1, .int .i64 p0.2.1, .int .i64 p0.2.2.1, .slice a1 p0.2.2.2.1.length c1, .slice a2 p0.2.2.2.2.length c2], .int .i64 p1]) (e := [(0, .agg #[.int .i64 p0.1, .int .i64 p0.2.1, .int .i64 p0.2.2.1, .slice a1 p0.2.2.2.1.length c1, .slice a2 p0.2.2.2.2.length c2]), (1, .int .i64 p1)]) Try.func58 rfl Try.ntmps58 rfl rfl ?_
  refine E.seq ?_
  refine E.reg ?_
  refine L.box (N + 0) Wt.no rfl rfl rfl ?_
  intro b3 s4 m5 bx3
  replace m0 := m0.trans m5.no
  replace h1 := h1.mono (m5.le no_No)
  replace h2 := h2.mono (m5.le no_No)
  refine L.as Wt.no rfl rfl ?_
  refine L.nil ?_
  refine X.seqN ?_
  refine E.seq ?_
  refine E.reg ?_
  refine L.fa fa32_4 Wt.no rfl rfl ?_
  refine L.ld (j := 4) bx3.mem nag30 Wt.no rfl rfl rfl rfl ?_
  refine L.mv Wt.no rfl rfl ?_
  obtain ⟨x6, ex6, hm⟩ := bindS hm
  refine L.ix (r := (rP (rK .i64) (rK .i64))) sl30 h2 Wt.no rfl rfl ex6 rfl ?_
  rintro b7 o7 cc7 me7 rd7
  obtain ⟨_, _, rfl, rfl, rfl⟩ := rd7
  refine L.lg (j := 0) (cs := [.int .i64 x6.1, .int .i64 x6.2]) me7 ag119 Wt.no rfl rfl rfl rfl rfl ?_
  refine L.al (N + 1) zz119 rfl Wt.no rfl ?_
  intro b8 s9 m10 bx8
  replace m0 := m0.trans m10.no
  replace bx3 := bx3.mv m10 no_No
  replace h1 := h1.mono (m10.le no_No)
  replace h2 := h2.mono (m10.le no_No)
  refine L.st (c := [.int .i64 x6.1, .int .i64 x6.2]) (cs' := #[.int .i64 x6.1, .int .i64 x6.2]) bx8 ag119.sz Wt.no rfl rfl rfl rfl rfl (Nat.le_of_ble_eq_true rfl) rfl ?_
  intro s11 m12 bx8
  replace m0 := m0.trans (m12.one up)
  replace bx3 := bx3.mv m12 (tgN (by decide))
  replace h1 := h1.mono (m12.le (tg0 hN))
  replace h2 := h2.mono (m12.le (tg0 hN))
  refine L.nil ?_
  refine X.seqN ?_
  refine E.seq ?_
  refine E.reg ?_
  obtain ⟨r13, er13, hm⟩ := bindS hm
  refine L.ca (vs := []) cf74 rfl rfl Wt.no rfl (m_instruction_operations_c (s := s11) er13) rfl ?_
  rintro _ s14 m15 ⟨a16, c16, rfl, h16⟩
  replace m0 := m0.trans m15.no
  replace bx3 := bx3.mv m15 no_No
  replace h1 := h1.mono (m15.le no_No)
  replace h2 := h2.mono (m15.le no_No)
  replace bx8 := bx8.mv m15 no_No
  refine L.as Wt.no rfl rfl ?_
  refine L.nil ?_
  refine X.seqN ?_
  refine E.seq ?_
  refine E.seq ?_
  refine E.reg ?_
  refine L.fa fa119_0 Wt.no rfl rfl ?_
  refine L.ld (j := 0) bx8.mem nag3 Wt.no rfl rfl rfl rfl ?_
  refine L.bi Wt.no rfl rfl rfl rfl ?_
  refine L.mv Wt.no rfl rfl ?_
  refine L.cut 6 (fun e w => ∃ (v17 : Bool), ((decide (x6.1 < 1)) || (decide (x6.1 > (r13.length : Int)))) = v17 ∧ e = (23, .bool v17) :: [(6, .slice a16 r13.length c16), (5, .pointer (some ⟨b8, 0, none⟩)), (2, .pointer (some ⟨b3, 0, none⟩)), (1, .int .i64 p1)] ∧ w = s14.w) ?_ ?_
  · rintro _ _ ⟨v17, rfl, rfl, rfl⟩
    refine L.nil ?_
    refine X.seqN ?_
    rcases ifS hm with ⟨hc, hm⟩ | ⟨hc, hm⟩
    · refine E.cT rfl hc ?_
      refine E.seq ?_
      refine E.reg ?_
      refine L.as Wt.no rfl rfl ?_
      refine L.nil ?_
      refine X.seqN ?_
      refine E.ret ?_
      refine X.seqR ?_
      obtain rfl := Option.some.inj hm
      exact X.rt (.inl rfl) Try.results58 (Rs.tmp rfl Rs.nil) rfl ⟨_, (s14).ren N (fun _ => 0), rfl, rfl, m0.ren hNb, rfl⟩
    · refine E.cF rfl hc ?_
      refine E.skip ?_
      refine X.seqN ?_
      refine E.seq ?_
      refine E.reg ?_
      refine L.mv Wt.no rfl rfl ?_
      refine L.fa fa119_0 Wt.no rfl rfl ?_
      refine L.ld (j := 0) bx8.mem nag3 Wt.no rfl rfl rfl rfl ?_
      refine L.bi Wt.no rfl rfl rfl rfl ?_
      obtain ⟨x18, ex18, hm⟩ := bindS hm
      refine L.ix (r := (rP (rK .i64) (rP rStr (rP (rF2 Try.prog (fun (x0 : Bool) (x1 : Bool) => [.bool x0, .bool x1]) (fun (r : Bool) => .bool r)) (rP (rF2 Try.prog (fun (x0 : Bool) (x1 : Bool) => [.bool x0, .bool x1]) (fun (r : Bool) => .bool r)) (rF1 Try.prog (fun (x0 : Bool) => [.bool x0]) (fun (r : Bool) => .bool r))))))) sl124 h16 Wt.no rfl rfl ex18 rfl ?_
      rintro b19 o19 cc19 me19 rd19
      obtain ⟨_, _, rfl, rfl, ⟨_, _, rfl, rfl, ⟨_, _, rfl, ⟨v20, rfl, h20⟩, ⟨_, _, rfl, ⟨v21, rfl, h21⟩, ⟨v22, rfl, h22⟩⟩⟩⟩⟩ := rd19
      refine L.lg (j := 0) (cs := [.int .i64 x18.1, .string x18.2.1, v20, v21, v22]) me19 ag129 Wt.no rfl rfl rfl rfl rfl ?_
      refine L.al (N + 2) zz129 rfl Wt.no rfl ?_
      intro b23 s24 m25 bx23
      replace m0 := m0.trans m25.no
      replace h20 := h20.mono (m25.le no_No)
      replace h21 := h21.mono (m25.le no_No)
      replace h22 := h22.mono (m25.le no_No)
      replace bx3 := bx3.mv m25 no_No
      replace h1 := h1.mono (m25.le no_No)
      replace h2 := h2.mono (m25.le no_No)
      replace bx8 := bx8.mv m25 no_No
      refine L.st (c := [.int .i64 x18.1, .string x18.2.1, v20, v21, v22]) (cs' := #[.int .i64 x18.1, .string x18.2.1, v20, v21, v22]) bx23 ag129.sz Wt.no rfl rfl rfl rfl (oneC rfl (oneC rfl (oneC h20.one (oneC h21.one (oneC h22.one rfl))))) (Nat.le_of_ble_eq_true rfl) rfl ?_
      intro s26 m27 bx23
      replace m0 := m0.trans (m27.one up)
      replace bx3 := bx3.mv m27 (tgN (by decide))
      replace h1 := h1.mono (m27.le (tg0 hN))
      replace h2 := h2.mono (m27.le (tg0 hN))
      replace bx8 := bx8.mv m27 (tgN (by decide))
      replace h20 := h20.mono (m27.le (tg0 hN))
      replace h21 := h21.mono (m27.le (tg0 hN))
      replace h22 := h22.mono (m27.le (tg0 hN))
      refine L.nil ?_
      refine X.seqN ?_
      refine E.seq ?_
      refine E.seq ?_
      refine E.reg ?_
      refine L.fa fa129_4 Wt.no rfl rfl ?_
      refine L.ld (j := 4) bx23.mem nag127 Wt.no rfl rfl rfl rfl ?_
      refine L.fne1 Try.underlying127 h22 Wt.no rfl rfl rfl ?_
      refine L.nil ?_
      refine X.seqN ?_
      rcases ifS hm with ⟨hc, hm⟩ | ⟨hc, hm⟩
      · refine E.cT rfl hc ?_
        refine E.seq ?_
        refine E.seq ?_
        refine E.reg ?_
        refine L.fa fa119_1 Wt.no rfl rfl ?_
        refine L.ld (j := 1) bx8.mem nag3 Wt.no rfl rfl rfl rfl ?_
        refine L.mv Wt.no rfl rfl ?_
        refine L.bi Wt.no rfl rfl rfl rfl ?_
        refine L.mv Wt.no rfl rfl ?_
        refine L.cut 7 (fun e w => ∃ (v28 : Bool), ((decide (x6.2 ≤ p1)) || (decide (x6.2 > (p0.2.2.2.2.length : Int)))) = v28 ∧ e = (44, .bool v28) :: [] ∧ w = s26.w) ?_ ?_
        · rintro _ _ ⟨v28, rfl, rfl, rfl⟩
          refine L.nil ?_
          refine X.seqN ?_
          rcases ifS hm with ⟨hc, hm⟩ | ⟨hc, hm⟩
          · refine E.cT rfl hc ?_
            refine E.seq ?_
            refine E.reg ?_
            refine L.as Wt.no rfl rfl ?_
            refine L.nil ?_
            refine X.seqN ?_
            refine E.ret ?_
            refine X.seqR ?_
            refine X.seqR ?_
            obtain rfl := Option.some.inj hm
            exact X.rt (.inl rfl) Try.results58 (Rs.tmp rfl Rs.nil) rfl ⟨_, (s26).ren N (fun _ => 0), rfl, rfl, m0.ren hNb, rfl⟩
          · refine E.cF rfl hc ?_
            refine E.skip ?_
            refine X.seqN ?_
            refine E.seq ?_
            refine E.reg ?_
            refine L.as Wt.no rfl rfl ?_
            refine L.nil ?_
            refine X.seqN ?_
            refine E.ret ?_
            refine X.seqR ?_
            obtain rfl := Option.some.inj hm
            exact X.rt (.inl rfl) Try.results58 (Rs.tmp rfl Rs.nil) rfl ⟨_, (s26).ren N (fun _ => 0), rfl, rfl, m0.ren hNb, rfl⟩
        · intro J29
          rcases Bool.eq_false_or_eq_true (decide (x6.2 ≤ p1)) with hc | hc
          · refine L.know (d := 37) rfl hc ?_
            refine L.skip rfl rfl rfl rfl ?_
            refine L.skip rfl rfl rfl rfl ?_
            refine L.skip rfl rfl rfl rfl ?_
            refine L.skip rfl rfl rfl rfl ?_
            refine L.skip rfl rfl rfl rfl ?_
            refine L.skip rfl rfl rfl rfl ?_
            refine L.pkT Wt.no rfl rfl rfl rfl ?_
            exact L.sub (Sub.cons rfl Sub.nil) (J29 _ _ ⟨true, (orT hc).symm, rfl, rfl⟩)
          · refine L.know (d := 37) rfl hc ?_
            refine L.fa fa119_1 (Wt.mk rfl rfl) rfl rfl ?_
            refine L.ld (j := 1) bx8.mem nag3 (Wt.mk rfl rfl) rfl rfl rfl rfl ?_
            refine L.fa fa32_4 (Wt.mk rfl rfl) rfl rfl ?_
            refine L.ld (j := 4) bx3.mem nag30 (Wt.mk rfl rfl) rfl rfl rfl rfl ?_
            refine L.len sl30 (Wt.mk rfl rfl) rfl rfl ?_
            refine L.bi (Wt.mk rfl rfl) rfl rfl rfl rfl ?_
            refine L.pkF Wt.no rfl rfl rfl rfl ?_
            exact L.sub (Sub.cons rfl Sub.nil) (J29 _ _ ⟨(decide (x6.2 > (p0.2.2.2.2.length : Int))), (orF hc).symm, rfl, rfl⟩)
      · refine E.cF rfl hc ?_
        refine E.skip ?_
        refine X.seqN ?_
        refine E.seq ?_
        refine E.seqJ (fun e w => ∃ (s31 : Sig) (b30 : Bool), m_instruction_checkInstruction_j1 p0 x6 x18 b30 = some r ∧ Mv (Up N No) s s31 ∧ RdL rB s31 a1 c1 p0.2.2.2.1 ∧ RdL (rP (rK .i64) (rK .i64)) s31 a2 c2 p0.2.2.2.2 ∧ FO2 Try.prog s31 v20 (fun (x0 : Bool) (x1 : Bool) => [.bool x0, .bool x1]) (fun (r : Bool) => .bool r) x18.2.2.1 ∧ FO2 Try.prog s31 v21 (fun (x0 : Bool) (x1 : Bool) => [.bool x0, .bool x1]) (fun (r : Bool) => .bool r) x18.2.2.2.1 ∧ FO1 Try.prog s31 v22 (fun (x0 : Bool) => [.bool x0]) (fun (r : Bool) => .bool r) x18.2.2.2.2 ∧ Bx s31 (N + 0) b3 #[.int .i64 p0.1, .int .i64 p0.2.1, .int .i64 p0.2.2.1, .slice a1 p0.2.2.2.1.length c1, .slice a2 p0.2.2.2.2.length c2] 32 ∧ Bx s31 (N + 1) b8 #[.int .i64 x6.1, .int .i64 x6.2] 119 ∧ Bx s31 (N + 2) b23 #[.int .i64 x18.1, .string x18.2.1, v20, v21, v22] 129 ∧ e = [(54, .bool b30), (7, .pointer (some ⟨b23, 0, none⟩)), (5, .pointer (some ⟨b8, 0, none⟩)), (2, .pointer (some ⟨b3, 0, none⟩))] ∧ w = s31.w) ?_ ?_
        · rintro _ _ ⟨s31, b30, hm, m0, h1, h2, h20, h21, h22, bx3, bx8, bx23, rfl, rfl⟩
          unfold m_instruction_checkInstruction_j1 at hm
          rcases ifS hm with ⟨hc, hm⟩ | ⟨hc, hm⟩
          · refine E.cT rfl hc ?_
            refine E.seq ?_
            refine E.reg ?_
            refine L.as Wt.no rfl rfl ?_
            refine L.nil ?_
            refine X.seqN ?_
            refine E.ret ?_
            refine X.seqR ?_
            obtain rfl := Option.some.inj hm
            exact X.rt (.inl rfl) Try.results58 (Rs.tmp rfl Rs.nil) rfl ⟨_, (s31).ren N (fun _ => 0), rfl, rfl, m0.ren hNb, rfl⟩
          · refine E.cF rfl hc ?_
            refine E.skip ?_
            refine X.seqN ?_
            refine E.seq ?_
            refine E.seq ?_
            refine E.reg ?_
            refine L.fa fa129_3 Wt.no rfl rfl ?_
            refine L.ld (j := 3) bx23.mem nag126 Wt.no rfl rfl rfl rfl ?_
            refine L.fne2 Try.underlying126 h21 Wt.no rfl rfl rfl ?_
            refine L.mv Wt.no rfl rfl ?_
            refine L.cut 6 (fun e w => ∃ (v33 : Bool), (x18.2.2.2.1.isSome && (decide (x6.2 < p0.1))) = v33 ∧ e = (64, .bool v33) :: [] ∧ w = s31.w) ?_ ?_
            · rintro _ _ ⟨v33, rfl, rfl, rfl⟩
              refine L.nil ?_
              refine X.seqN ?_
              rcases ifS hm with ⟨hc, hm⟩ | ⟨hc, hm⟩
              · refine E.cT rfl hc ?_
                refine E.seq ?_
                refine E.reg ?_
                refine L.as Wt.no rfl rfl ?_
                refine L.nil ?_
                refine X.seqN ?_
                refine E.ret ?_
                refine X.seqR ?_
                obtain rfl := Option.some.inj hm
                exact X.rt (.inl rfl) Try.results58 (Rs.tmp rfl Rs.nil) rfl ⟨_, (s31).ren N (fun _ => 0), rfl, rfl, m0.ren hNb, rfl⟩
              · refine E.cF rfl hc ?_
                refine E.skip ?_
                refine X.seqN ?_
                refine E.seq ?_
                refine E.reg ?_
                refine L.as Wt.no rfl rfl ?_
                refine L.nil ?_
                refine X.seqN ?_
                refine E.ret ?_
                obtain rfl := Option.some.inj hm
                exact X.rt (.inl rfl) Try.results58 (Rs.tmp rfl Rs.nil) rfl ⟨_, (s31).ren N (fun _ => 0), rfl, rfl, m0.ren hNb, rfl⟩
            · intro J34
              rcases Bool.eq_false_or_eq_true x18.2.2.2.1.isSome with hc | hc
              · refine L.know (d := 58) rfl hc ?_
                refine L.fa fa119_1 (Wt.mk rfl rfl) rfl rfl ?_
                refine L.ld (j := 1) bx8.mem nag3 (Wt.mk rfl rfl) rfl rfl rfl rfl ?_
                refine L.fa fa32_0 (Wt.mk rfl rfl) rfl rfl ?_
                refine L.ld (j := 0) bx3.mem nag3 (Wt.mk rfl rfl) rfl rfl rfl rfl ?_
                refine L.bi (Wt.mk rfl rfl) rfl rfl rfl rfl ?_
                refine L.pkT Wt.no rfl rfl rfl rfl ?_
                exact L.sub (Sub.cons rfl Sub.nil) (J34 _ _ ⟨(decide (x6.2 < p0.1)), (andT hc).symm, rfl, rfl⟩)
              · refine L.know (d := 58) rfl hc ?_
                refine L.skip rfl rfl rfl rfl ?_
                refine L.skip rfl rfl rfl rfl ?_
                refine L.skip rfl rfl rfl rfl ?_
                refine L.skip rfl rfl rfl rfl ?_
                refine L.skip rfl rfl rfl rfl ?_
                refine L.pkF Wt.no rfl rfl rfl rfl ?_
                exact L.sub (Sub.cons rfl Sub.nil) (J34 _ _ ⟨false, (andF hc).symm, rfl, rfl⟩)
        · intro Jj32
          rcases ifS hm with ⟨hc39, hm⟩ | ⟨hc39, hm⟩
          · have _ := hN
            refine E.draw [[], [0], [0, 1], [0, 1, 2], [0, 1, 2, 3], [0, 1, 2, 3, 4], [0, 1, 2, 3], [0, 1, 2, 3, 6], [0, 1, 2, 3, 4, 5, 6, 7], [0, 1, 2, 3, 4, 5, 6, 7, 8]] (fun D e sx => Mv No s26 sx ∧ Sub [(7, .pointer (some ⟨b23, 0, none⟩)), (5, .pointer (some ⟨b8, 0, none⟩)), (2, .pointer (some ⟨b3, 0, none⟩))] e ∧ (D 0 = true → (Env.get e 45 = some (.pointer (some ⟨b8, 1, none⟩)))) ∧ (D 1 = true → (Env.get e 46 = some (.int .i64 x6.2))) ∧ (D 2 = true → (Env.get e 47 = some (.bool (decide (x6.2 < 0))))) ∧ (D 3 = true → (Env.get e 48 = some (.bool (decide (x6.2 < 0))))) ∧ (D 4 = true → (Env.get e 49 = some undef)) ∧ (D 5 = true → (Env.get e 50 = some undef)) ∧ (D 6 = true → (Env.get e 51 = some undef)) ∧ (D 7 = true → (Env.get e 52 = some undef)) ∧ (D 8 = true → (Env.get e 53 = some undef)) ∧ (D 9 = true → (Env.get e 54 = some (.bool true)))) (by kernel_rfl) (by kernel_rfl) (by kernel_rfl) ?_ ?_ ?_
            · intro sz mz
              exact ⟨mz, (Sub.cons rfl (Sub.cons rfl (Sub.cons rfl Sub.nil))), nofun, nofun, nofun, nofun, nofun, nofun, nofun, nofun, nofun, nofun⟩
            · refine ⟨?_, ?_, ?_, ?_, ?_, ?_, ?_, ?_, ?_, ?_, trivial⟩
              · rintro D e s35 ⟨im, ib, i0, i1, i2, i3, i4, i5, i6, i7, i8, i9⟩ hk hf ha
                refine L.kns [(5, .pointer (some ⟨b8, 0, none⟩))] ⟨(ib 5 _ rfl), trivial⟩ ?_
                refine L.fa fa119_1 Wt.no rfl rfl ?_
                refine L.nil ?_
                refine X.dr (s := s35) (e' := (45, .pointer (some ⟨b8, 1, none⟩)) :: e) (Sub.both (Kn.sup ⟨(ib 5 _ rfl), trivial⟩)) ⟨im, Sub.fresh ib rfl, fun _ => rfl, i1, i2, i3, i4, i5, i6, i7, i8, i9⟩
              · rintro D e s36 ⟨im, ib, i0, i1, i2, i3, i4, i5, i6, i7, i8, i9⟩ hk hf ha
                obtain ⟨d0, -⟩ := ha
                have g0_ := i0 d0
                have bx8 := bx8.mv im no_No
                refine L.kns [(45, .pointer (some ⟨b8, 1, none⟩))] ⟨g0_, trivial⟩ ?_
                refine L.ld (j := 1) bx8.mem nag3 Wt.no rfl rfl rfl rfl ?_
                refine L.nil ?_
                refine X.dr (s := s36) (e' := (46, .int .i64 x6.2) :: e) (Sub.both (Kn.sup ⟨g0_, trivial⟩)) ⟨im, Sub.fresh ib rfl, i0, fun _ => rfl, i2, i3, i4, i5, i6, i7, i8, i9⟩
              · rintro D e s37 ⟨im, ib, i0, i1, i2, i3, i4, i5, i6, i7, i8, i9⟩ hk hf ha
                obtain ⟨d0, d1, -⟩ := ha
                have g1_ := i1 d1
                refine L.kns [(46, .int .i64 x6.2)] ⟨g1_, trivial⟩ ?_
                refine L.bi Wt.no rfl rfl rfl rfl ?_
                refine L.nil ?_
                refine X.dr (s := s37) (e' := (47, .bool (decide (x6.2 < 0))) :: e) (Sub.both (Kn.sup ⟨g1_, trivial⟩)) ⟨im, Sub.fresh ib rfl, i0, i1, fun _ => rfl, i3, i4, i5, i6, i7, i8, i9⟩
              · rintro D e s38 ⟨im, ib, i0, i1, i2, i3, i4, i5, i6, i7, i8, i9⟩ hk hf ha
                obtain ⟨d0, d1, d2, -⟩ := ha
                have g2_ := i2 d2
                refine L.kns [(47, .bool (decide (x6.2 < 0)))] ⟨g2_, trivial⟩ ?_
                refine L.mv Wt.no rfl rfl ?_
                refine L.nil ?_
                refine X.dr (s := s38) (e' := (48, .bool (decide (x6.2 < 0))) :: e) (Sub.both (Kn.sup ⟨g2_, trivial⟩)) ⟨im, Sub.fresh ib rfl, i0, i1, i2, fun _ => rfl, i4, i5, i6, i7, i8, i9⟩
              · rintro D e s40 ⟨im, ib, i0, i1, i2, i3, i4, i5, i6, i7, i8, i9⟩ hk hf ha
                obtain ⟨d0, d1, d2, d3, -⟩ := ha
                have g3_ := i3 d3
                rw [hc39] at g3_
                refine L.kns [(5, .pointer (some ⟨b8, 0, none⟩)), (48, .bool true)] ⟨(ib 5 _ rfl), g3_, trivial⟩ ?_
                refine L.skip rfl rfl rfl rfl ?_
                refine L.nil ?_
                refine X.dr (s := s40) (e' := (49, undef) :: e) (Sub.both (Kn.sup ⟨(ib 5 _ rfl), g3_, trivial⟩)) ⟨im, Sub.fresh ib rfl, i0, i1, i2, i3, fun _ => rfl, i5, i6, i7, i8, i9⟩
              · rintro D e s41 ⟨im, ib, i0, i1, i2, i3, i4, i5, i6, i7, i8, i9⟩ hk hf ha
                obtain ⟨d0, d1, d2, d3, d4, -⟩ := ha
                have g3_ := i3 d3
                have g4_ := i4 d4
                rw [hc39] at g3_
                refine L.kns [(49, undef), (48, .bool true)] ⟨g4_, g3_, trivial⟩ ?_
                refine L.skip rfl rfl rfl rfl ?_
                refine L.nil ?_
                refine X.dr (s := s41) (e' := (50, undef) :: e) (Sub.both (Kn.sup ⟨g4_, g3_, trivial⟩)) ⟨im, Sub.fresh ib rfl, i0, i1, i2, i3, i4, fun _ => rfl, i6, i7, i8, i9⟩
              · rintro D e s42 ⟨im, ib, i0, i1, i2, i3, i4, i5, i6, i7, i8, i9⟩ hk hf ha
                obtain ⟨d0, d1, d2, d3, -⟩ := ha
                have g3_ := i3 d3
                rw [hc39] at g3_
                refine L.kns [(2, .pointer (some ⟨b3, 0, none⟩)), (48, .bool true)] ⟨(ib 2 _ rfl), g3_, trivial⟩ ?_
                refine L.skip rfl rfl rfl rfl ?_
                refine L.nil ?_
                refine X.dr (s := s42) (e' := (51, undef) :: e) (Sub.both (Kn.sup ⟨(ib 2 _ rfl), g3_, trivial⟩)) ⟨im, Sub.fresh ib rfl, i0, i1, i2, i3, i4, i5, fun _ => rfl, i7, i8, i9⟩
              · rintro D e s43 ⟨im, ib, i0, i1, i2, i3, i4, i5, i6, i7, i8, i9⟩ hk hf ha
                obtain ⟨d0, d1, d2, d3, d6, -⟩ := ha
                have g3_ := i3 d3
                have g6_ := i6 d6
                rw [hc39] at g3_
                refine L.kns [(51, undef), (48, .bool true)] ⟨g6_, g3_, trivial⟩ ?_
                refine L.skip rfl rfl rfl rfl ?_
                refine L.nil ?_
                refine X.dr (s := s43) (e' := (52, undef) :: e) (Sub.both (Kn.sup ⟨g6_, g3_, trivial⟩)) ⟨im, Sub.fresh ib rfl, i0, i1, i2, i3, i4, i5, i6, fun _ => rfl, i8, i9⟩
              · rintro D e s44 ⟨im, ib, i0, i1, i2, i3, i4, i5, i6, i7, i8, i9⟩ hk hf ha
                obtain ⟨d0, d1, d2, d3, d4, d5, d6, d7, -⟩ := ha
                have g3_ := i3 d3
                have g5_ := i5 d5
                have g7_ := i7 d7
                rw [hc39] at g3_
                refine L.kns [(50, undef), (52, undef), (48, .bool true)] ⟨g5_, g7_, g3_, trivial⟩ ?_
                refine L.skip rfl rfl rfl rfl ?_
                refine L.nil ?_
                refine X.dr (s := s44) (e' := (53, undef) :: e) (Sub.both (Kn.sup ⟨g5_, g7_, g3_, trivial⟩)) ⟨im, Sub.fresh ib rfl, i0, i1, i2, i3, i4, i5, i6, i7, fun _ => rfl, i9⟩
              · rintro D e s45 ⟨im, ib, i0, i1, i2, i3, i4, i5, i6, i7, i8, i9⟩ hk hf ha
                obtain ⟨d0, d1, d2, d3, d4, d5, d6, d7, d8, -⟩ := ha
                have g3_ := i3 d3
                have g8_ := i8 d8
                rw [hc39] at g3_
                refine L.kns [(48, .bool true), (53, undef)] ⟨g3_, g8_, trivial⟩ ?_
                refine L.pkT Wt.no rfl rfl rfl rfl ?_
                refine L.nil ?_
                refine X.dr (s := s45) (e' := (54, .bool true) :: e) (Sub.both (Kn.sup ⟨g3_, g8_, trivial⟩)) ⟨im, Sub.fresh ib rfl, i0, i1, i2, i3, i4, i5, i6, i7, i8, fun _ => rfl⟩
            · rintro D e s46 hD ⟨im, ib, i0, i1, i2, i3, i4, i5, i6, i7, i8, i9⟩
              have g9_ := i9 (hD 9 rfl)
              have bx23 := bx23.mv im no_No
              have h20 := h20.mono (im.le no_No)
              have h21 := h21.mono (im.le no_No)
              have h22 := h22.mono (im.le no_No)
              have bx8 := bx8.mv im no_No
              have bx3 := bx3.mv im no_No
              have h1 := h1.mono (im.le no_No)
              have h2 := h2.mono (im.le no_No)
              have m0 := m0.trans im.no
              refine X.sub (e' := [(54, .bool true), (7, .pointer (some ⟨b23, 0, none⟩)), (5, .pointer (some ⟨b8, 0, none⟩)), (2, .pointer (some ⟨b3, 0, none⟩))]) ?_ (Sub.cons g9_ (Sub.cons (ib 7 _ rfl) (Sub.cons (ib 5 _ rfl) (Sub.cons (ib 2 _ rfl) Sub.nil))))
              exact X.sub (Jj32 _ _ ⟨s46, true, hm, m0, h1, h2, h20, h21, h22, bx3, bx8, bx23, rfl, rfl⟩) (Sub.cons rfl (Sub.cons rfl (Sub.cons rfl (Sub.cons rfl Sub.nil))))
          · have _ := hN
            obtain ⟨r51, er51, hm⟩ := bindS hm
            refine E.draw [[], [0], [0, 1], [0, 1, 2], [0, 1, 2, 3], [0, 1, 2, 3, 4], [0, 1, 2, 3], [0, 1, 2, 3, 6], [0, 1, 2, 3, 4, 5, 6, 7], [0, 1, 2, 3, 4, 5, 6, 7, 8]] (fun D e sx => Mv No s26 sx ∧ Sub [(7, .pointer (some ⟨b23, 0, none⟩)), (5, .pointer (some ⟨b8, 0, none⟩)), (2, .pointer (some ⟨b3, 0, none⟩))] e ∧ (D 0 = true → (Env.get e 45 = some (.pointer (some ⟨b8, 1, none⟩)))) ∧ (D 1 = true → (Env.get e 46 = some (.int .i64 x6.2))) ∧ (D 2 = true → (Env.get e 47 = some (.bool (decide (x6.2 < 0))))) ∧ (D 3 = true → (Env.get e 48 = some (.bool (decide (x6.2 < 0))))) ∧ (D 4 = true → (Env.get e 49 = some (.pointer (some ⟨b8, 1, none⟩)))) ∧ (D 5 = true → (Env.get e 50 = some (.int .i64 x6.2))) ∧ (D 6 = true → (Env.get e 51 = some (.agg #[.int .i64 p0.1, .int .i64 p0.2.1, .int .i64 p0.2.2.1, .slice a1 p0.2.2.2.1.length c1, .slice a2 p0.2.2.2.2.length c2]))) ∧ (D 7 = true → (Env.get e 52 = some (.int .i64 r51))) ∧ (D 8 = true → (Env.get e 53 = some (.bool (decide (x6.2 ≥ r51))))) ∧ (D 9 = true → (Env.get e 54 = some (.bool (decide (x6.2 ≥ r51)))))) (by kernel_rfl) (by kernel_rfl) (by kernel_rfl) ?_ ?_ ?_
            · intro sz mz
              exact ⟨mz, (Sub.cons rfl (Sub.cons rfl (Sub.cons rfl Sub.nil))), nofun, nofun, nofun, nofun, nofun, nofun, nofun, nofun, nofun, nofun⟩
            · refine ⟨?_, ?_, ?_, ?_, ?_, ?_, ?_, ?_, ?_, ?_, trivial⟩
              · rintro D e s35 ⟨im, ib, i0, i1, i2, i3, i4, i5, i6, i7, i8, i9⟩ hk hf ha
                refine L.kns [(5, .pointer (some ⟨b8, 0, none⟩))] ⟨(ib 5 _ rfl), trivial⟩ ?_
                refine L.fa fa119_1 Wt.no rfl rfl ?_
                refine L.nil ?_
                refine X.dr (s := s35) (e' := (45, .pointer (some ⟨b8, 1, none⟩)) :: e) (Sub.both (Kn.sup ⟨(ib 5 _ rfl), trivial⟩)) ⟨im, Sub.fresh ib rfl, fun _ => rfl, i1, i2, i3, i4, i5, i6, i7, i8, i9⟩
              · rintro D e s36 ⟨im, ib, i0, i1, i2, i3, i4, i5, i6, i7, i8, i9⟩ hk hf ha
                obtain ⟨d0, -⟩ := ha
                have g0_ := i0 d0
                have bx8 := bx8.mv im no_No
                refine L.kns [(45, .pointer (some ⟨b8, 1, none⟩))] ⟨g0_, trivial⟩ ?_
                refine L.ld (j := 1) bx8.mem nag3 Wt.no rfl rfl rfl rfl ?_
                refine L.nil ?_
                refine X.dr (s := s36) (e' := (46, .int .i64 x6.2) :: e) (Sub.both (Kn.sup ⟨g0_, trivial⟩)) ⟨im, Sub.fresh ib rfl, i0, fun _ => rfl, i2, i3, i4, i5, i6, i7, i8, i9⟩
              · rintro D e s37 ⟨im, ib, i0, i1, i2, i3, i4, i5, i6, i7, i8, i9⟩ hk hf ha
                obtain ⟨d0, d1, -⟩ := ha
                have g1_ := i1 d1
                refine L.kns [(46, .int .i64 x6.2)] ⟨g1_, trivial⟩ ?_
                refine L.bi Wt.no rfl rfl rfl rfl ?_
                refine L.nil ?_
                refine X.dr (s := s37) (e' := (47, .bool (decide (x6.2 < 0))) :: e) (Sub.both (Kn.sup ⟨g1_, trivial⟩)) ⟨im, Sub.fresh ib rfl, i0, i1, fun _ => rfl, i3, i4, i5, i6, i7, i8, i9⟩
              · rintro D e s38 ⟨im, ib, i0, i1, i2, i3, i4, i5, i6, i7, i8, i9⟩ hk hf ha
                obtain ⟨d0, d1, d2, -⟩ := ha
                have g2_ := i2 d2
                refine L.kns [(47, .bool (decide (x6.2 < 0)))] ⟨g2_, trivial⟩ ?_
                refine L.mv Wt.no rfl rfl ?_
                refine L.nil ?_
                refine X.dr (s := s38) (e' := (48, .bool (decide (x6.2 < 0))) :: e) (Sub.both (Kn.sup ⟨g2_, trivial⟩)) ⟨im, Sub.fresh ib rfl, i0, i1, i2, fun _ => rfl, i4, i5, i6, i7, i8, i9⟩
              · rintro D e s47 ⟨im, ib, i0, i1, i2, i3, i4, i5, i6, i7, i8, i9⟩ hk hf ha
                obtain ⟨d0, d1, d2, d3, -⟩ := ha
                have g3_ := i3 d3
                rw [hc39] at g3_
                refine L.kns [(5, .pointer (some ⟨b8, 0, none⟩)), (48, .bool false)] ⟨(ib 5 _ rfl), g3_, trivial⟩ ?_
                refine L.fa fa119_1 (Wt.mk rfl rfl) rfl rfl ?_
                refine L.nil ?_
                refine X.dr (s := s47) (e' := (49, .pointer (some ⟨b8, 1, none⟩)) :: e) (Sub.both (Kn.sup ⟨(ib 5 _ rfl), g3_, trivial⟩)) ⟨im, Sub.fresh ib rfl, i0, i1, i2, i3, fun _ => rfl, i5, i6, i7, i8, i9⟩
              · rintro D e s48 ⟨im, ib, i0, i1, i2, i3, i4, i5, i6, i7, i8, i9⟩ hk hf ha
                obtain ⟨d0, d1, d2, d3, d4, -⟩ := ha
                have g3_ := i3 d3
                have g4_ := i4 d4
                have bx8 := bx8.mv im no_No
                rw [hc39] at g3_
                refine L.kns [(49, .pointer (some ⟨b8, 1, none⟩)), (48, .bool false)] ⟨g4_, g3_, trivial⟩ ?_
                refine L.ld (j := 1) bx8.mem nag3 (Wt.mk rfl rfl) rfl rfl rfl rfl ?_
                refine L.nil ?_
                refine X.dr (s := s48) (e' := (50, .int .i64 x6.2) :: e) (Sub.both (Kn.sup ⟨g4_, g3_, trivial⟩)) ⟨im, Sub.fresh ib rfl, i0, i1, i2, i3, i4, fun _ => rfl, i6, i7, i8, i9⟩
              · rintro D e s49 ⟨im, ib, i0, i1, i2, i3, i4, i5, i6, i7, i8, i9⟩ hk hf ha
                obtain ⟨d0, d1, d2, d3, -⟩ := ha
                have g3_ := i3 d3
                have bx3 := bx3.mv im no_No
                rw [hc39] at g3_
                refine L.kns [(2, .pointer (some ⟨b3, 0, none⟩)), (48, .bool false)] ⟨(ib 2 _ rfl), g3_, trivial⟩ ?_
                refine L.lg (j := 0) (cs := [.int .i64 p0.1, .int .i64 p0.2.1, .int .i64 p0.2.2.1, .slice a1 p0.2.2.2.1.length c1, .slice a2 p0.2.2.2.2.length c2]) bx3.mem ag32 (Wt.mk rfl rfl) rfl rfl rfl rfl rfl ?_
                refine L.nil ?_
                refine X.dr (s := s49) (e' := (51, .agg #[.int .i64 p0.1, .int .i64 p0.2.1, .int .i64 p0.2.2.1, .slice a1 p0.2.2.2.1.length c1, .slice a2 p0.2.2.2.2.length c2]) :: e) (Sub.both (Kn.sup ⟨(ib 2 _ rfl), g3_, trivial⟩)) ⟨im, Sub.fresh ib rfl, i0, i1, i2, i3, i4, i5, fun _ => rfl, i7, i8, i9⟩
              · rintro D e s50 ⟨im, ib, i0, i1, i2, i3, i4, i5, i6, i7, i8, i9⟩ hk hf ha
                obtain ⟨d0, d1, d2, d3, d6, -⟩ := ha
                have g3_ := i3 d3
                have g6_ := i6 d6
                have h1 := h1.mono (im.le no_No)
                have h2 := h2.mono (im.le no_No)
                rw [hc39] at g3_
                refine L.kns [(51, .agg #[.int .i64 p0.1, .int .i64 p0.2.1, .int .i64 p0.2.2.1, .slice a1 p0.2.2.2.1.length c1, .slice a2 p0.2.2.2.2.length c2]), (48, .bool false)] ⟨g6_, g3_, trivial⟩ ?_
                refine L.ca (vs := [.agg #[.int .i64 p0.1, .int .i64 p0.2.1, .int .i64 p0.2.2.1, .slice a1 p0.2.2.2.1.length c1, .slice a2 p0.2.2.2.2.length c2]]) cf75 rfl rfl (Wt.mk rfl rfl) rfl (m_instruction_width_c (s := s50) (p0 := p0) h1 h2 er51) rfl ?_
                rintro _ s52 m53 rfl
                refine L.nil ?_
                refine X.dr (s := s52) (e' := (52, .int .i64 r51) :: e) (Sub.both (Kn.sup ⟨g6_, g3_, trivial⟩)) ⟨im.trans m53.no, Sub.fresh ib rfl, i0, i1, i2, i3, i4, i5, i6, fun _ => rfl, i8, i9⟩
              · rintro D e s54 ⟨im, ib, i0, i1, i2, i3, i4, i5, i6, i7, i8, i9⟩ hk hf ha
                obtain ⟨d0, d1, d2, d3, d4, d5, d6, d7, -⟩ := ha
                have g3_ := i3 d3
                have g5_ := i5 d5
                have g7_ := i7 d7
                rw [hc39] at g3_
                refine L.kns [(50, .int .i64 x6.2), (52, .int .i64 r51), (48, .bool false)] ⟨g5_, g7_, g3_, trivial⟩ ?_
                refine L.bi (Wt.mk rfl rfl) rfl rfl rfl rfl ?_
                refine L.nil ?_
                refine X.dr (s := s54) (e' := (53, .bool (decide (x6.2 ≥ r51))) :: e) (Sub.both (Kn.sup ⟨g5_, g7_, g3_, trivial⟩)) ⟨im, Sub.fresh ib rfl, i0, i1, i2, i3, i4, i5, i6, i7, fun _ => rfl, i9⟩
              · rintro D e s55 ⟨im, ib, i0, i1, i2, i3, i4, i5, i6, i7, i8, i9⟩ hk hf ha
                obtain ⟨d0, d1, d2, d3, d4, d5, d6, d7, d8, -⟩ := ha
                have g3_ := i3 d3
                have g8_ := i8 d8
                rw [hc39] at g3_
                refine L.kns [(48, .bool false), (53, .bool (decide (x6.2 ≥ r51)))] ⟨g3_, g8_, trivial⟩ ?_
                refine L.pkF Wt.no rfl rfl rfl rfl ?_
                refine L.nil ?_
                refine X.dr (s := s55) (e' := (54, .bool (decide (x6.2 ≥ r51))) :: e) (Sub.both (Kn.sup ⟨g3_, g8_, trivial⟩)) ⟨im, Sub.fresh ib rfl, i0, i1, i2, i3, i4, i5, i6, i7, i8, fun _ => rfl⟩
            · rintro D e s56 hD ⟨im, ib, i0, i1, i2, i3, i4, i5, i6, i7, i8, i9⟩
              have g9_ := i9 (hD 9 rfl)
              have bx23 := bx23.mv im no_No
              have h20 := h20.mono (im.le no_No)
              have h21 := h21.mono (im.le no_No)
              have h22 := h22.mono (im.le no_No)
              have bx8 := bx8.mv im no_No
              have bx3 := bx3.mv im no_No
              have h1 := h1.mono (im.le no_No)
              have h2 := h2.mono (im.le no_No)
              have m0 := m0.trans im.no
              refine X.sub (e' := [(54, .bool (decide (x6.2 ≥ r51))), (7, .pointer (some ⟨b23, 0, none⟩)), (5, .pointer (some ⟨b8, 0, none⟩)), (2, .pointer (some ⟨b3, 0, none⟩))]) ?_ (Sub.cons g9_ (Sub.cons (ib 7 _ rfl) (Sub.cons (ib 5 _ rfl) (Sub.cons (ib 2 _ rfl) Sub.nil))))
              exact X.sub (Jj32 _ _ ⟨s56, (decide (x6.2 ≥ r51)), hm, m0, h1, h2, h20, h21, h22, bx3, bx8, bx23, rfl, rfl⟩) (Sub.cons rfl (Sub.cons rfl (Sub.cons rfl (Sub.cons rfl Sub.nil))))
  · intro J57
    rcases Bool.eq_false_or_eq_true (decide (x6.1 < 1)) with hc | hc
    · refine L.know (d := 17) rfl hc ?_
      refine L.skip rfl rfl rfl rfl ?_
      refine L.skip rfl rfl rfl rfl ?_
      refine L.skip rfl rfl rfl rfl ?_
      refine L.skip rfl rfl rfl rfl ?_
      refine L.skip rfl rfl rfl rfl ?_
      refine L.pkT Wt.no rfl rfl rfl rfl ?_
      exact L.sub (Sub.cons rfl (Sub.cons rfl (Sub.cons rfl (Sub.cons rfl (Sub.cons rfl Sub.nil))))) (J57 _ _ ⟨true, (orT hc).symm, rfl, rfl⟩)
    · refine L.know (d := 17) rfl hc ?_
      refine L.fa fa119_0 (Wt.mk rfl rfl) rfl rfl ?_
      refine L.ld (j := 0) bx8.mem nag3 (Wt.mk rfl rfl) rfl rfl rfl rfl ?_
      refine L.mv (Wt.mk rfl rfl) rfl rfl ?_
      refine L.len sl124 (Wt.mk rfl rfl) rfl rfl ?_
      refine L.bi (Wt.mk rfl rfl) rfl rfl rfl rfl ?_
      refine L.pkF Wt.no rfl rfl rfl rfl ?_
      exact L.sub (Sub.cons rfl (Sub.cons rfl (Sub.cons rfl (Sub.cons rfl (Sub.cons rfl Sub.nil))))) (J57 _ _ ⟨(decide (x6.1 > (r13.length : Int))), (orF hc).symm, rfl, rfl⟩)

end Go.Proofs.Ytkkemchihllklaa
