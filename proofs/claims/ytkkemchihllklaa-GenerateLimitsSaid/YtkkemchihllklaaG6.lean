/- What some functions compute, as plain functions (m_..), and that the code computes it. Written by gen.py. -/
import Derived.Test.YtkkemchihllklaaG5
import Derived.Test.YtkkemchihllklaaProg
namespace Go.Proofs.Ytkkemchihllklaa
open Go Go.RowKit
theorem cf57 : Cf Try.prog 57 := Cf.mk Try.func57 (by kernel_rfl) (by kernel_rfl)
theorem cf58 : Cf Try.prog 58 := Cf.mk Try.func58 (by kernel_rfl) (by kernel_rfl)
noncomputable def m_instruction_Check_l1 (p0 : Int × Int × Int × List Bool × (List (Int × Int))) (st14 : Int) : Option (Int ⊕ (Unit ⊕ Int)) :=
  if decide (st14 < (p0.2.2.2.2.length : Int)) then
    (m_instruction_checkInstruction p0 st14).bind fun r23 =>
    if (r23 != 0) then
      some (.inr (.inr (r23)))
    else
      some (.inl (W (st14 + 1)))
  else
    some (.inr (.inl ()))
/-- What instruction.Check computes. -/
noncomputable def m_instruction_Check (p0 : Int × Int × Int × List Bool × (List (Int × Int))) : Option Int :=
  (m_instruction_checkHead p0).bind fun r6 =>
  if (r6 != 0) then
    some r6
  else
    (iter (m_instruction_Check_l1 p0) 0).bind fun o14 =>
    match o14 with
    | .inl u17 =>
      some 0
    | .inr (u20) =>
      some u20
set_option maxRecDepth 100000 in
set_option maxHeartbeats 8000000 in
theorem m_instruction_Check_c {s : Sig} {p0 : Int × Int × Int × List Bool × (List (Int × Int))} {a1 : Option Addr} {c1 : Nat} {a2 : Option Addr} {c2 : Nat} {r : Int} (h1 : RdL rB s a1 c1 p0.2.2.2.1) (h2 : RdL (rP (rK .i64) (rK .i64)) s a2 c2 p0.2.2.2.2) (hm : m_instruction_Check p0 = some r) :
    Calls Try.prog 26 #[.agg #[.int .i64 p0.1, .int .i64 p0.2.1, .int .i64 p0.2.2.1, .slice a1 p0.2.2.2.1.length c1, .slice a2 p0.2.2.2.2.length c2]] s.w (RetS No s fun v s' => v = .int .i64 r) := by
  unfold m_instruction_Check at hm
  obtain ⟨N, hN, hNb⟩ := s.fresh
  have m0 : Mv (Up N No) s s := Mv.refl _ _
  refine E.entry (vs := [.agg #[.int .i64 p0.1, .int .i64 p0.2.1, .int .i64 p0.2.2.1, .slice a1 p0.2.2.2.1.length c1, .slice a2 p0.2.2.2.2.length c2]]) (e := [(0, .agg #[.int .i64 p0.1, .int .i64 p0.2.1, .int .i64 p0.2.2.1, .slice a1 p0.2.2.2.1.length c1, .slice a2 p0.2.2.2.2.length c2])]) Try.func26 rfl Try.ntmps26 rfl rfl ?_
  refine E.seq ?_
  refine E.reg ?_
  refine L.box (N + 0) Wt.no rfl rfl rfl ?_
  intro b3 s4 m5 bx3
  replace m0 := m0.trans m5.no
  replace h1 := h1.mono (m5.le no_No)
  replace h2 := h2.mono (m5.le no_No)
  refine L.as Wt.no rfl rfl ?_
  refine L.nil ?_
  refine X.seqN ?_
  refine E.seq ?_
  refine E.seq ?_
  refine E.reg ?_
  refine L.lg (j := 0) (cs := [.int .i64 p0.1, .int .i64 p0.2.1, .int .i64 p0.2.2.1, .slice a1 p0.2.2.2.1.length c1, .slice a2 p0.2.2.2.2.length c2]) bx3.mem ag32 Wt.no rfl rfl rfl rfl rfl ?_
  obtain ⟨r6, er6, hm⟩ := bindS hm
  refine L.ca (vs := [.agg #[.int .i64 p0.1, .int .i64 p0.2.1, .int .i64 p0.2.2.1, .slice a1 p0.2.2.2.1.length c1, .slice a2 p0.2.2.2.2.length c2]]) cf57 rfl rfl Wt.no rfl (m_instruction_checkHead_c (s := s4) (p0 := p0) h1 h2 er6) rfl ?_
  rintro _ s7 m8 rfl
  replace m0 := m0.trans m8.no
  replace bx3 := bx3.mv m8 no_No
  replace h1 := h1.mono (m8.le no_No)
  replace h2 := h2.mono (m8.le no_No)
  refine L.as Wt.no rfl rfl ?_
  refine L.nil ?_
  refine X.seqN ?_
  refine E.seq ?_
  refine E.reg ?_
  refine L.mv Wt.no rfl rfl ?_
  refine L.bi Wt.no rfl rfl rfl rfl ?_
  refine L.nil ?_
  refine X.seqN ?_
  rcases ifS hm with ⟨hc, hm⟩ | ⟨hc, hm⟩
  · refine E.cT rfl hc ?_
    refine E.seq ?_
    refine E.reg ?_
    refine L.mv Wt.no rfl rfl ?_
    refine L.as Wt.no rfl rfl ?_
    refine L.nil ?_
    refine X.seqN ?_
    refine E.ret ?_
    refine X.seqR ?_
    obtain rfl := Option.some.inj hm
    exact X.rt (.inl rfl) Try.results26 (Rs.tmp rfl Rs.nil) rfl ⟨_, (s7).ren N (fun _ => 0), rfl, rfl, m0.ren hNb, rfl⟩
  · refine E.cF rfl hc ?_
    refine E.skip ?_
    refine X.seqN ?_
    refine E.seq ?_
    refine E.seq ?_
    refine E.reg ?_
    refine L.fa fa32_4 Wt.no rfl rfl ?_
    refine L.ld (j := 4) bx3.mem nag30 Wt.no rfl rfl rfl rfl ?_
    refine L.len sl30 Wt.no rfl rfl ?_
    refine L.mv Wt.no rfl rfl ?_
    refine L.nil ?_
    refine X.seqN ?_
    refine E.block ?_
    obtain ⟨o14, eo14, hm⟩ := bindS hm
    refine E.cut (x := .exit 0) (fun e w => ∃ (s18 : Sig) (u17 : Unit), o14 = .inl u17 ∧ Mv (Up N No) s s18 ∧ e = [] ∧ w = s18.w) ?_ ?_
    · rintro _ _ ⟨s18, u17, rfl, m0, rfl, rfl⟩
      dsimp only at hm
      refine X.blkE ?_
      refine X.seqN ?_
      refine E.seq ?_
      refine E.reg ?_
      refine L.as Wt.no rfl rfl ?_
      refine L.nil ?_
      refine X.seqN ?_
      refine E.ret ?_
      obtain rfl := Option.some.inj hm
      exact X.rt (.inl rfl) Try.results26 (Rs.tmp rfl Rs.nil) rfl ⟨_, (s18).ren N (fun _ => 0), rfl, rfl, m0.ren hNb, rfl⟩
    intro K19
    refine E.cut (x := .ret) (fun e w => ∃ (s21 : Sig) (u20 : Int), o14 = .inr (u20) ∧ Mv (Up N No) s s21 ∧ e = [(2, .int .i64 u20)] ∧ w = s21.w) ?_ ?_
    · rintro _ _ ⟨s21, u20, rfl, m0, rfl, rfl⟩
      dsimp only at hm
      refine X.blkR ?_
      refine X.seqR ?_
      obtain rfl := Option.some.inj hm
      exact X.rt (.inl rfl) Try.results26 (Rs.tmp rfl Rs.nil) rfl ⟨_, (s21).ren N (fun _ => 0), rfl, rfl, m0.ren hNb, rfl⟩
    intro K22
    refine E.iter (fun (st14 : Int) (e : List (Nat × Value)) (w : World) => ∃ (s16 : Sig), Mv (Up N No) s s16 ∧ RdL rB s16 a1 c1 p0.2.2.2.1 ∧ RdL (rP (rK .i64) (rK .i64)) s16 a2 c2 p0.2.2.2.2 ∧ Bx s16 (N + 0) b3 #[.int .i64 p0.1, .int .i64 p0.2.1, .int .i64 p0.2.2.1, .slice a1 p0.2.2.2.1.length c1, .slice a2 p0.2.2.2.2.length c2] 32 ∧ e = [(14, .int .i64 st14), (13, .int .i64 (p0.2.2.2.2.length : Int)), (1, .pointer (some ⟨b3, 0, none⟩))] ∧ w = s16.w) eo14 ⟨s7, m0, h1, h2, bx3, rfl, rfl⟩ (Sub.cons rfl (Sub.cons rfl (Sub.cons rfl Sub.nil))) ?_
    rintro st14 res14 hm ih14 ho14 _ _ ⟨s16, m0, h1, h2, bx3, rfl, rfl⟩
    unfold m_instruction_Check_l1 at hm
    refine E.seq ?_
    refine E.reg ?_
    refine L.bi Wt.no rfl rfl rfl rfl ?_
    refine L.nil ?_
    refine X.seqN ?_
    refine E.seq ?_
    rcases ifS hm with ⟨hc, hm⟩ | ⟨hc, hm⟩
    · refine E.cT rfl hc ?_
      refine E.skip ?_
      refine X.seqN ?_
      refine E.seq ?_
      refine E.block ?_
      refine E.seq ?_
      refine E.reg ?_
      refine L.mv Wt.no rfl rfl ?_
      refine L.as Wt.no rfl rfl ?_
      refine L.nil ?_
      refine X.seqN ?_
      refine E.seq ?_
      refine E.reg ?_
      refine L.lg (j := 0) (cs := [.int .i64 p0.1, .int .i64 p0.2.1, .int .i64 p0.2.2.1, .slice a1 p0.2.2.2.1.length c1, .slice a2 p0.2.2.2.2.length c2]) bx3.mem ag32 Wt.no rfl rfl rfl rfl rfl ?_
      refine L.mv Wt.no rfl rfl ?_
      obtain ⟨r23, er23, hm⟩ := bindS hm
      refine L.ca (vs := [.agg #[.int .i64 p0.1, .int .i64 p0.2.1, .int .i64 p0.2.2.1, .slice a1 p0.2.2.2.1.length c1, .slice a2 p0.2.2.2.2.length c2], .int .i64 st14]) cf58 rfl rfl Wt.no rfl (m_instruction_checkInstruction_c (s := s16) (p0 := p0) (p1 := st14) h1 h2 er23) rfl ?_
      rintro _ s24 m25 rfl
      replace m0 := m0.trans m25.no
      replace bx3 := bx3.mv m25 no_No
      replace h1 := h1.mono (m25.le no_No)
      replace h2 := h2.mono (m25.le no_No)
      refine L.as Wt.no rfl rfl ?_
      refine L.nil ?_
      refine X.seqN ?_
      refine E.seq ?_
      refine E.reg ?_
      refine L.mv Wt.no rfl rfl ?_
      refine L.bi Wt.no rfl rfl rfl rfl ?_
      refine L.nil ?_
      refine X.seqN ?_
      rcases ifS hm with ⟨hc, hm⟩ | ⟨hc, hm⟩
      · refine E.cT rfl hc ?_
        refine E.seq ?_
        refine E.reg ?_
        refine L.mv Wt.no rfl rfl ?_
        refine L.as Wt.no rfl rfl ?_
        refine L.nil ?_
        refine X.seqN ?_
        refine E.ret ?_
        refine X.blkR ?_
        refine X.seqR ?_
        refine X.seqR ?_
        have hx := ho14 _ (Option.some.inj hm).symm
        exact X.sub (K22 _ _ ⟨s24, r23, hx.symm, m0, rfl, rfl⟩) (Sub.cons rfl Sub.nil)
      · refine E.cF rfl hc ?_
        refine E.skip ?_
        refine X.blkN ?_
        refine X.seqN ?_
        refine E.reg ?_
        refine L.bi Wt.no rfl rfl rfl rfl ?_
        refine L.mv Wt.no rfl rfl ?_
        refine L.nil ?_
        exact X.sub (ih14 _ (Option.some.inj hm).symm _ _ ⟨s24, m0, h1, h2, bx3, rfl, rfl⟩) (Sub.cons rfl (Sub.cons rfl (Sub.cons rfl Sub.nil)))
    · refine E.cF rfl hc ?_
      refine E.exit ?_
      refine X.seqX ?_
      refine X.seqX ?_
      have hx := ho14 _ (Option.some.inj hm).symm
      exact X.sub (K19 _ _ ⟨s16, (), hx.symm, m0, rfl, rfl⟩) Sub.nil

theorem ag39 : Ag Try.prog 39 2 := Ag.mk' Try.underlying39 rfl (by kernel_rfl)
theorem bs29 : Bs Try.prog 29 4 1 [.bool false] := Bs.mk' Try.underlying29 (by kernel_rfl) (by kernel_rfl) rfl
theorem cf26 : Cf Try.prog 26 := Cf.mk Try.func26 (by kernel_rfl) (by kernel_rfl)
theorem el4 : El Try.prog 4 1 1 := El.mk' (z := .bool false) (by kernel_rfl) (by kernel_rfl) (by kernel_rfl) rfl
theorem pl39 : Pl Try.prog 39 [(0, 1), (1, 1)] [.slice none 0 0, .slice none 0 0] := Pl.str Try.underlying39 (by kernel_rfl) (by kernel_rfl)
theorem zz39 : (Try.prog.info? 39).bind (·.zero) = some (.agg #[.slice none 0 0, .slice none 0 0]) := by kernel_rfl
/-- What instruction.Start computes. -/
noncomputable def m_instruction_Start (p0 : Int × Int × Int × List Bool × (List (Int × Int))) : Option ((List Bool × List Bool) × Int) :=
  (m_instruction_Check p0).bind fun r11 =>
  if (r11 != 0) then
    some ((([] : List Bool), ([] : List Bool)), r11)
  else
    (mkL p0.2.1 false).bind fun x19 =>
    (app ([] : List Bool) p0.2.2.2.1).bind fun x30 =>
    some ((x19, x30), 0)
set_option maxRecDepth 100000 in
set_option maxHeartbeats 8000000 in
theorem m_instruction_Start_c {s : Sig} {p0 : Int × Int × Int × List Bool × (List (Int × Int))} {a1 : Option Addr} {c1 : Nat} {a2 : Option Addr} {c2 : Nat} {u0 : Nat} {u1 : Nat} {r : (List Bool × List Bool) × Int} (h1 : RdL rB s a1 c1 p0.2.2.2.1) (h2 : RdL (rP (rK .i64) (rK .i64)) s a2 c2 p0.2.2.2.2) (hm : m_instruction_Start p0 = some r) :
    Calls Try.prog 13 #[.agg #[.int .i64 p0.1, .int .i64 p0.2.1, .int .i64 p0.2.2.1, .slice a1 p0.2.2.2.1.length c1, .slice a2 p0.2.2.2.2.length c2]] s.w (RetS No s fun v s' => ∃ (a3 : Option Addr) (c3 : Nat) (a4 : Option Addr) (c4 : Nat), v = .tuple #[.agg #[.slice a3 r.1.1.length c3, .slice a4 r.1.2.length c4], .int .i64 r.2] ∧ RowT rB s' u0 4 a3 c3 r.1.1 ∧ RowT rB s' u1 4 a4 c4 r.1.2) := by
  unfold m_instruction_Start at hm
  obtain ⟨N, hN, hNb⟩ := s.fresh
  have m0 : Mv (Up N No) s s := Mv.refl _ _
  refine E.entry (vs := [.agg #[.int .i64 p0.1, .int .i64 p0.2.1, .int .i64 p0.2.2.1, .slice a1 p0.2.2.2.1.length c1, .slice a2 p0.2.2.2.2.length c2]]) (e := [(0, .agg #[.int .i64 p0.1, .int .i64 p0.2.1, .int .i64 p0.2.2.1, .slice a1 p0.2.2.2.1.length c1, .slice a2 p0.2.2.2.2.length c2])]) Try.func13 rfl Try.ntmps13 rfl rfl ?_
  refine E.seq ?_
  refine E.reg ?_
  refine L.box (N + 0) Wt.no rfl rfl rfl ?_
  intro b5 s6 m7 bx5
  replace m0 := m0.trans m7.no
  replace h1 := h1.mono (m7.le no_No)
  replace h2 := h2.mono (m7.le no_No)
  refine L.al (N + 1) zz39 rfl Wt.no rfl ?_
  intro b8 s9 m10 bx8
  replace m0 := m0.trans m10.no
  replace bx5 := bx5.mv m10 no_No
  replace h1 := h1.mono (m10.le no_No)
  replace h2 := h2.mono (m10.le no_No)
  refine L.as Wt.no rfl rfl ?_
  refine L.nil ?_
  refine X.seqN ?_
  refine E.seq ?_
  refine E.seq ?_
  refine E.reg ?_
  refine L.lg (j := 0) (cs := [.int .i64 p0.1, .int .i64 p0.2.1, .int .i64 p0.2.2.1, .slice a1 p0.2.2.2.1.length c1, .slice a2 p0.2.2.2.2.length c2]) bx5.mem ag32 Wt.no rfl rfl rfl rfl rfl ?_
  obtain ⟨r11, er11, hm⟩ := bindS hm
  refine L.ca (vs := [.agg #[.int .i64 p0.1, .int .i64 p0.2.1, .int .i64 p0.2.2.1, .slice a1 p0.2.2.2.1.length c1, .slice a2 p0.2.2.2.2.length c2]]) cf26 rfl rfl Wt.no rfl (m_instruction_Check_c (s := s9) (p0 := p0) h1 h2 er11) rfl ?_
  rintro _ s12 m13 rfl
  replace m0 := m0.trans m13.no
  replace bx5 := bx5.mv m13 no_No
  replace h1 := h1.mono (m13.le no_No)
  replace h2 := h2.mono (m13.le no_No)
  replace bx8 := bx8.mv m13 no_No
  refine L.as Wt.no rfl rfl ?_
  refine L.nil ?_
  refine X.seqN ?_
  refine E.seq ?_
  refine E.reg ?_
  refine L.mv Wt.no rfl rfl ?_
  refine L.bi Wt.no rfl rfl rfl rfl ?_
  refine L.nil ?_
  refine X.seqN ?_
  rcases ifS hm with ⟨hc, hm⟩ | ⟨hc, hm⟩
  · refine E.cT rfl hc ?_
    refine E.seq ?_
    refine E.reg ?_
    refine L.bu (cs := [.slice none 0 0, .slice none 0 0]) pl39 Wt.no rfl rfl rfl ?_
    refine L.mv Wt.no rfl rfl ?_
    refine L.st (c := [.slice none 0 0, .slice none 0 0]) (cs' := #[.slice none 0 0, .slice none 0 0]) bx8 ag39.sz Wt.no rfl rfl rfl rfl rfl (Nat.le_of_ble_eq_true rfl) rfl ?_
    intro s14 m15 bx8
    replace m0 := m0.trans (m15.one up)
    refine L.as Wt.no rfl rfl ?_
    refine L.nil ?_
    refine X.seqN ?_
    refine E.ret ?_
    refine X.seqR ?_
    obtain rfl := Option.some.inj hm
    exact X.rt (.inl rfl) Try.results13 (Rs.cell rfl bx8 ag39 rfl (Rs.tmp rfl Rs.nil)) rfl ⟨_, (s14).ren N (fun _ => 0), rfl, rfl, m0.ren hNb, ⟨none, 0, none, 0, rfl, RowT.nil, RowT.nil⟩⟩
  · refine E.cF rfl hc ?_
    refine E.skip ?_
    refine X.seqN ?_
    refine E.seq ?_
    obtain ⟨x19, ex19, hm⟩ := bindS hm
    obtain ⟨x30, ex30, hm⟩ := bindS hm
    refine E.draw [[], [0], [0, 1], [], [], [4], [3, 4, 5], [0, 1, 2, 3, 4, 5, 6], [0, 1, 2, 3, 4, 5, 6, 7], [0, 1, 2, 3, 4, 5, 6, 7, 8]] (fun D e sx => Mv (fun t => t = (N + 1) ∨ t = (N + 3)) s12 sx ∧ Sub [(2, .pointer (some ⟨b8, 0, none⟩)), (1, .pointer (some ⟨b5, 0, none⟩))] e ∧ (D 0 = true → (Env.get e 11 = some (.pointer (some ⟨b5, 1, none⟩)))) ∧ (D 1 = true → (Env.get e 12 = some (.int .i64 p0.2.1))) ∧ (D 2 = true → (∃ (b20 : Nat), Env.get e 13 = some (.slice (some ⟨b20, 0, none⟩) x19.length x19.length) ∧ RowT rB sx (N + 2) 4 (some ⟨b20, 0, none⟩) x19.length x19)) ∧ (D 3 = true → (∃ (b24 : Nat), Env.get e 14 = some (.slice (some ⟨b24, 0, none⟩) ([] : List Bool).length 0))) ∧ (D 4 = true → (Env.get e 15 = some (.pointer (some ⟨b5, 3, none⟩)))) ∧ (D 5 = true → (Env.get e 16 = some (.slice a1 p0.2.2.2.1.length c1))) ∧ (D 6 = true → (∃ (a31 : Option Addr) (c31 : Nat), Env.get e 17 = some (.slice a31 x30.length c31))) ∧ (D 7 = true → ∀ (b20 : Nat) (a31 : Option Addr) (c31 : Nat), Env.get e 13 = some (.slice (some ⟨b20, 0, none⟩) x19.length x19.length) → Env.get e 17 = some (.slice a31 x30.length c31) → (Env.get e 18 = some (.agg #[.slice (some ⟨b20, 0, none⟩) x19.length x19.length, .slice a31 x30.length c31]))) ∧ (D 9 = true → (Env.get e 3 = some (.int .i64 0))) ∧ (D 8 = false → Bx sx (N + 1) b8 #[.slice none 0 0, .slice none 0 0] 39) ∧ (D 8 = true → ∀ (b20 : Nat) (a31 : Option Addr) (c31 : Nat), Env.get e 13 = some (.slice (some ⟨b20, 0, none⟩) x19.length x19.length) → Env.get e 17 = some (.slice a31 x30.length c31) → Bx sx (N + 1) b8 #[.slice (some ⟨b20, 0, none⟩) x19.length x19.length, .slice a31 x30.length c31] 39) ∧ (D 3 = true → D 6 = false → ∀ (b24 : Nat), Env.get e 14 = some (.slice (some ⟨b24, 0, none⟩) ([] : List Bool).length 0) → RowT rB sx (N + 3) 4 (some ⟨b24, 0, none⟩) 0 ([] : List Bool)) ∧ (D 6 = true → ∀ (a31 : Option Addr) (c31 : Nat), Env.get e 17 = some (.slice a31 x30.length c31) → RowT rB sx (N + 3) 4 a31 c31 x30)) (by kernel_rfl) (by kernel_rfl) (by kernel_rfl) ?_ ?_ ?_
    · intro sz mz
      exact ⟨mz.no, (Sub.cons rfl (Sub.cons rfl Sub.nil)), nofun, nofun, nofun, nofun, nofun, nofun, nofun, nofun, nofun, fun _ => bx8.mv mz no_No, nofun, nofun, nofun⟩
    · refine ⟨?_, ?_, ?_, ?_, ?_, ?_, ?_, ?_, ?_, ?_, trivial⟩
      · rintro D e s16 ⟨im, ib, i0, i1, i2, i3, i4, i5, i6, i7, i8, i9, i10, i11, i12⟩ hk hf ha
        refine L.kns [(1, .pointer (some ⟨b5, 0, none⟩))] ⟨(ib 1 _ rfl), trivial⟩ ?_
        refine L.fa fa32_1 Wt.no rfl rfl ?_
        refine L.nil ?_
        refine X.dr (s := s16) (e' := (11, .pointer (some ⟨b5, 1, none⟩)) :: e) (Sub.both (Kn.sup ⟨(ib 1 _ rfl), trivial⟩)) ⟨im, Sub.fresh ib rfl, fun _ => rfl, i1, i2, i3, i4, i5, i6, i7, i8, i9, i10, i11, i12⟩
      · rintro D e s17 ⟨im, ib, i0, i1, i2, i3, i4, i5, i6, i7, i8, i9, i10, i11, i12⟩ hk hf ha
        obtain ⟨d0, -⟩ := ha
        have g0_ := i0 d0
        have bx5 := bx5.mv im (nor (tgN (by decide)) (tgN (by decide)))
        refine L.kns [(11, .pointer (some ⟨b5, 1, none⟩))] ⟨g0_, trivial⟩ ?_
        refine L.ld (j := 1) bx5.mem nag3 Wt.no rfl rfl rfl rfl ?_
        refine L.nil ?_
        refine X.dr (s := s17) (e' := (12, .int .i64 p0.2.1) :: e) (Sub.both (Kn.sup ⟨g0_, trivial⟩)) ⟨im, Sub.fresh ib rfl, i0, fun _ => rfl, i2, i3, i4, i5, i6, i7, i8, i9, i10, i11, i12⟩
      · rintro D e s18 ⟨im, ib, i0, i1, i2, i3, i4, i5, i6, i7, i8, i9, i10, i11, i12⟩ hk hf ha
        obtain ⟨d0, d1, -⟩ := ha
        have g1_ := i1 d1
        refine L.kns [(12, .int .i64 p0.2.1)] ⟨g1_, trivial⟩ ?_
        refine L.mk (z := false) (N + 2) Try.underlying29 zr4 rfl Wt.no rfl rfl ex19 rfl ?_
        intro b20 s21 m22 h20
        refine L.nil ?_
        refine X.dr (s := s21) (e' := (13, .slice (some ⟨b20, 0, none⟩) x19.length x19.length) :: e) (Sub.both (Kn.sup ⟨g1_, trivial⟩)) ⟨im.trans m22.no, Sub.fresh ib rfl, i0, i1, fun _ => ⟨b20, rfl, h20⟩, i3, i4, i5, i6, fun z => Bool.noConfusion ((hf 7 (Nat.le_of_ble_eq_true rfl) rfl).symm.trans z), i8, fun z2 => ((i9 z2).mv m22 no_No), fun z => Bool.noConfusion ((hf 8 (Nat.le_of_ble_eq_true rfl) rfl).symm.trans z), fun z z2 b24 q3 => ((i11 z z2 b24 q3).mv m22 no_No no_No), fun z a31 c31 q6 => ((i12 z a31 c31 q6).mv m22 no_No no_No)⟩
      · rintro D e s23 ⟨im, ib, i0, i1, i2, i3, i4, i5, i6, i7, i8, i9, i10, i11, i12⟩ hk hf ha
        refine L.bs0 (N + 3) bs29 (Nat.le_of_ble_eq_true rfl) Wt.no rfl ?_
        intro b24 s25 m26 bx24
        have h24 := Bx.row (r := rB) (xs := ([] : List Bool)) bx24 rfl (Nat.le_of_ble_eq_true rfl)
        refine L.nil ?_
        refine X.dr (s := s25) (e' := (14, .slice (some ⟨b24, 0, none⟩) ([] : List Bool).length 0) :: e) (Sub.both (Sub.refl)) ⟨im.trans m26.no, Sub.fresh ib rfl, i0, i1, fun z => let ⟨b20, q, h20⟩ := i2 z; ⟨b20, q, (h20.mv m26 no_No no_No)⟩, fun _ => ⟨b24, rfl⟩, i4, i5, i6, i7, i8, fun z2 => ((i9 z2).mv m26 no_No), fun z b20 a31 c31 q2 q6 => ((i10 z b20 a31 c31 q2 q6).mv m26 no_No), fun _ _ _ q3 => by cases (show some (.slice (some ⟨b24, 0, none⟩) ([] : List Bool).length 0 : Value) = some _ from q3); exact h24, fun z a31 c31 q6 => ((i12 z a31 c31 q6).mv m26 no_No no_No)⟩
      · rintro D e s27 ⟨im, ib, i0, i1, i2, i3, i4, i5, i6, i7, i8, i9, i10, i11, i12⟩ hk hf ha
        refine L.kns [(1, .pointer (some ⟨b5, 0, none⟩))] ⟨(ib 1 _ rfl), trivial⟩ ?_
        refine L.fa fa32_3 Wt.no rfl rfl ?_
        refine L.nil ?_
        refine X.dr (s := s27) (e' := (15, .pointer (some ⟨b5, 3, none⟩)) :: e) (Sub.both (Kn.sup ⟨(ib 1 _ rfl), trivial⟩)) ⟨im, Sub.fresh ib rfl, i0, i1, i2, i3, fun _ => rfl, i5, i6, i7, i8, i9, i10, i11, i12⟩
      · rintro D e s28 ⟨im, ib, i0, i1, i2, i3, i4, i5, i6, i7, i8, i9, i10, i11, i12⟩ hk hf ha
        obtain ⟨d4, -⟩ := ha
        have g4_ := i4 d4
        have bx5 := bx5.mv im (nor (tgN (by decide)) (tgN (by decide)))
        refine L.kns [(15, .pointer (some ⟨b5, 3, none⟩))] ⟨g4_, trivial⟩ ?_
        refine L.ld (j := 3) bx5.mem nag29 Wt.no rfl rfl rfl rfl ?_
        refine L.nil ?_
        refine X.dr (s := s28) (e' := (16, .slice a1 p0.2.2.2.1.length c1) :: e) (Sub.both (Kn.sup ⟨g4_, trivial⟩)) ⟨im, Sub.fresh ib rfl, i0, i1, i2, i3, i4, fun _ => rfl, i6, i7, i8, i9, i10, i11, i12⟩
      · rintro D e s29 ⟨im, ib, i0, i1, i2, i3, i4, i5, i6, i7, i8, i9, i10, i11, i12⟩ hk hf ha
        obtain ⟨d3, d4, d5, -⟩ := ha
        obtain ⟨b24, g3_⟩ := i3 d3
        have g5_ := i5 d5
        obtain h24 := i11 d3 hk b24 g3_
        have h1 := h1.mono (im.le (nor (tg0 hN) (tg0 hN)))
        refine L.kns [(14, .slice (some ⟨b24, 0, none⟩) ([] : List Bool).length 0), (16, .slice a1 p0.2.2.2.1.length c1)] ⟨g3_, g5_, trivial⟩ ?_
        refine L.ap (r := rB) Try.underlying29 el4 rfl (tgp hN) h24 h1.wk Wt.no rfl rfl ex30 rfl ?_
        intro a31 c31 s32 m33 h31
        refine L.nil ?_
        refine X.dr (s := s32) (e' := (17, .slice a31 x30.length c31) :: e) (Sub.both (Kn.sup ⟨g3_, g5_, trivial⟩)) ⟨im.trans (m33.one (.inr rfl)), Sub.fresh ib rfl, i0, i1, fun z => let ⟨b20, q, h20⟩ := i2 z; ⟨b20, q, (h20.mv m33 (tgN (by decide)) (tg0 hN))⟩, i3, i4, i5, fun _ => ⟨a31, c31, rfl⟩, fun z => Bool.noConfusion ((hf 7 (Nat.le_of_ble_eq_true rfl) rfl).symm.trans z), i8, fun z2 => ((i9 z2).mv m33 (tgN (by decide))), fun z => Bool.noConfusion ((hf 8 (Nat.le_of_ble_eq_true rfl) rfl).symm.trans z), fun _ z => Bool.noConfusion (show true = false from z), fun _ _ _ q6 => by cases (show some (.slice a31 x30.length c31 : Value) = some _ from q6); exact h31⟩
      · rintro D e s34 ⟨im, ib, i0, i1, i2, i3, i4, i5, i6, i7, i8, i9, i10, i11, i12⟩ hk hf ha
        obtain ⟨d0, d1, d2, d3, d4, d5, d6, -⟩ := ha
        obtain ⟨b20, g2_, h20⟩ := i2 d2
        obtain ⟨a31, c31, g6_⟩ := i6 d6
        refine L.kns [(13, .slice (some ⟨b20, 0, none⟩) x19.length x19.length), (17, .slice a31 x30.length c31)] ⟨g2_, g6_, trivial⟩ ?_
        refine L.bu (cs := [.slice (some ⟨b20, 0, none⟩) x19.length x19.length, .slice a31 x30.length c31]) pl39 Wt.no rfl rfl rfl ?_
        refine L.nil ?_
        refine X.dr (s := s34) (e' := (18, .agg #[.slice (some ⟨b20, 0, none⟩) x19.length x19.length, .slice a31 x30.length c31]) :: e) (Sub.both (Kn.sup ⟨g2_, g6_, trivial⟩)) ⟨im, Sub.fresh ib rfl, i0, i1, i2, i3, i4, i5, i6, fun _ _ _ _ q2 q6 => by cases g2_.symm.trans q2; cases g6_.symm.trans q6; exact rfl, i8, i9, i10, i11, i12⟩
      · rintro D e s35 ⟨im, ib, i0, i1, i2, i3, i4, i5, i6, i7, i8, i9, i10, i11, i12⟩ hk hf ha
        obtain ⟨d0, d1, d2, d3, d4, d5, d6, d7, -⟩ := ha
        obtain ⟨b20, g2_, h20⟩ := i2 d2
        obtain ⟨a31, c31, g6_⟩ := i6 d6
        have g7_ := i7 d7 b20 a31 c31 g2_ g6_
        obtain bx8 := i9 hk
        refine L.kns [(2, .pointer (some ⟨b8, 0, none⟩)), (18, .agg #[.slice (some ⟨b20, 0, none⟩) x19.length x19.length, .slice a31 x30.length c31])] ⟨(ib 2 _ rfl), g7_, trivial⟩ ?_
        refine L.st (c := [.slice (some ⟨b20, 0, none⟩) x19.length x19.length, .slice a31 x30.length c31]) (cs' := #[.slice (some ⟨b20, 0, none⟩) x19.length x19.length, .slice a31 x30.length c31]) bx8 ag39.sz Wt.no rfl rfl rfl rfl rfl (Nat.le_of_ble_eq_true rfl) rfl ?_
        intro s36 m37 bx8
        refine L.nil ?_
        refine X.dr (s := s36) (e' := e) (Kn.sup ⟨(ib 2 _ rfl), g7_, trivial⟩) ⟨im.trans (m37.one (.inl rfl)), ib, i0, i1, fun z => let ⟨b20, q, h20⟩ := i2 z; ⟨b20, q, (h20.mv m37 (tgN (by decide)) (tg0 hN))⟩, i3, i4, i5, i6, i7, i8, fun z => Bool.noConfusion (show true = false from z), fun _ _ _ _ q2 q6 => by cases g2_.symm.trans q2; cases g6_.symm.trans q6; exact bx8, fun z z2 b24 q3 => ((i11 z z2 b24 q3).mv m37 (tgN (by decide)) (tg0 hN)), fun z a31 c31 q6 => ((i12 z a31 c31 q6).mv m37 (tgN (by decide)) (tg0 hN))⟩
      · rintro D e s38 ⟨im, ib, i0, i1, i2, i3, i4, i5, i6, i7, i8, i9, i10, i11, i12⟩ hk hf ha
        obtain ⟨d0, d1, d2, d3, d4, d5, d6, d7, d8, -⟩ := ha
        refine L.as Wt.no rfl rfl ?_
        refine L.nil ?_
        refine X.dr (s := s38) (e' := (3, .int .i64 0) :: e) (Sub.both (Sub.refl)) ⟨im, Sub.fresh ib rfl, i0, i1, i2, i3, i4, i5, i6, i7, fun _ => rfl, i9, i10, i11, i12⟩
    · rintro D e s39 hD ⟨im, ib, i0, i1, i2, i3, i4, i5, i6, i7, i8, i9, i10, i11, i12⟩
      obtain ⟨b20, g2_, h20⟩ := i2 (hD 2 rfl)
      obtain ⟨a31, c31, g6_⟩ := i6 (hD 6 rfl)
      have g9_ := i8 (hD 9 rfl)
      obtain bx8 := i10 (hD 8 rfl) b20 a31 c31 g2_ g6_
      obtain h31 := i12 (hD 6 rfl) a31 c31 g6_
      have m0 := m0.trans (im.weak fun _ e => by rcases e with e | e; (rw [e]; exact up); (rw [e]; exact up))
      refine X.sub (e' := [(3, .int .i64 0), (2, .pointer (some ⟨b8, 0, none⟩))]) ?_ (Sub.cons g9_ (Sub.cons (ib 2 _ rfl) Sub.nil))
      refine X.seqN ?_
      refine E.ret ?_
      obtain rfl := Option.some.inj hm
      exact X.rt (.inl rfl) Try.results13 (Rs.cell rfl bx8 ag39 rfl (Rs.tmp rfl Rs.nil)) rfl ⟨_, (s39).ren N (fun k => cond (Nat.beq k 3) u1 (cond (Nat.beq k 2) u0 (0))), rfl, rfl, m0.ren hNb, ⟨(some ⟨b20, 0, none⟩), x19.length, a31, c31, rfl, (h20.ren hN), (h31.ren hN)⟩⟩

/-- What generate.among computes. -/
noncomputable def m_generate_among (p0 : List Int) (p1 : List Int) : Option Int :=
  (m_alphabet_CheckSet p0 32).bind fun r3 =>
  if (r3 != 0) then
    some r3
  else
    (m_alphabet_Subset p0 p1).bind fun r6 =>
    if (!r6) then
      some 9
    else
      some 0
set_option maxRecDepth 100000 in
set_option maxHeartbeats 8000000 in
theorem m_generate_among_c {s : Sig} {p0 : List Int} {p1 : List Int} {a1 : Option Addr} {c1 : Nat} {a2 : Option Addr} {c2 : Nat} {r : Int} (h1 : RdL (rK .i64) s a1 c1 p0) (h2 : RdL (rK .i64) s a2 c2 p1) (hm : m_generate_among p0 p1 = some r) :
    Calls Try.prog 51 #[.slice a1 p0.length c1, .slice a2 p1.length c2] s.w (RetS No s fun v s' => v = .int .i64 r) := by
  unfold m_generate_among at hm
  obtain ⟨N, hN, hNb⟩ := s.fresh
  have m0 : Mv (Up N No) s s := Mv.refl _ _
  refine E.entry (vs := [.slice a1 p0.length c1, .slice a2 p1.length c2]) (e := [(0, .slice a1 p0.length c1), (1, .slice a2 p1.length c2)]) Try.func51 rfl Try.ntmps51 rfl rfl ?_
  refine E.seq ?_
  refine E.reg ?_
  refine L.as Wt.no rfl rfl ?_
  refine L.nil ?_
  refine X.seqN ?_
  refine E.seq ?_
  refine E.seq ?_
  refine E.reg ?_
  refine L.mv Wt.no rfl rfl ?_
  obtain ⟨r3, er3, hm⟩ := bindS hm
  refine L.ca (vs := [.slice a1 p0.length c1, .int .i64 32]) cf28 rfl rfl Wt.no rfl (m_alphabet_CheckSet_c (s := s) (p0 := p0) (p1 := 32) h1 er3) rfl ?_
  rintro _ s4 m5 rfl
  replace m0 := m0.trans m5.no
  replace h1 := h1.mono (m5.le no_No)
  replace h2 := h2.mono (m5.le no_No)
  refine L.as Wt.no rfl rfl ?_
  refine L.nil ?_
  refine X.seqN ?_
  refine E.seq ?_
  refine E.reg ?_
  refine L.mv Wt.no rfl rfl ?_
  refine L.bi Wt.no rfl rfl rfl rfl ?_
  refine L.nil ?_
  refine X.seqN ?_
  rcases ifS hm with ⟨hc, hm⟩ | ⟨hc, hm⟩
  · refine E.cT rfl hc ?_
    refine E.seq ?_
    refine E.reg ?_
    refine L.mv Wt.no rfl rfl ?_
    refine L.as Wt.no rfl rfl ?_
    refine L.nil ?_
    refine X.seqN ?_
    refine E.ret ?_
    refine X.seqR ?_
    obtain rfl := Option.some.inj hm
    exact X.rt (.inl rfl) Try.results51 (Rs.tmp rfl Rs.nil) rfl ⟨_, (s4).ren N (fun _ => 0), rfl, rfl, m0.ren hNb, rfl⟩
  · refine E.cF rfl hc ?_
    refine E.skip ?_
    refine X.seqN ?_
    refine E.seq ?_
    refine E.seq ?_
    refine E.reg ?_
    refine L.mv Wt.no rfl rfl ?_
    refine L.mv Wt.no rfl rfl ?_
    obtain ⟨r6, er6, hm⟩ := bindS hm
    refine L.ca (vs := [.slice a1 p0.length c1, .slice a2 p1.length c2]) cf39 rfl rfl Wt.no rfl (m_alphabet_Subset_c (s := s4) (p0 := p0) (p1 := p1) h1 h2 er6) rfl ?_
    rintro _ s7 m8 rfl
    replace m0 := m0.trans m8.no
    refine L.not Wt.no rfl rfl ?_
    refine L.nil ?_
    refine X.seqN ?_
    rcases ifS hm with ⟨hc, hm⟩ | ⟨hc, hm⟩
    · refine E.cT rfl hc ?_
      refine E.seq ?_
      refine E.reg ?_
      refine L.as Wt.no rfl rfl ?_
      refine L.nil ?_
      refine X.seqN ?_
      refine E.ret ?_
      refine X.seqR ?_
      obtain rfl := Option.some.inj hm
      exact X.rt (.inl rfl) Try.results51 (Rs.tmp rfl Rs.nil) rfl ⟨_, (s7).ren N (fun _ => 0), rfl, rfl, m0.ren hNb, rfl⟩
    · refine E.cF rfl hc ?_
      refine E.skip ?_
      refine X.seqN ?_
      refine E.seq ?_
      refine E.reg ?_
      refine L.as Wt.no rfl rfl ?_
      refine L.nil ?_
      refine X.seqN ?_
      refine E.ret ?_
      obtain rfl := Option.some.inj hm
      exact X.rt (.inl rfl) Try.results51 (Rs.tmp rfl Rs.nil) rfl ⟨_, (s7).ren N (fun _ => 0), rfl, rfl, m0.ren hNb, rfl⟩

/-- What cmp.isNaN<int> computes. -/
noncomputable def m_cmp_isNaN_int (p0 : Int) : Option Bool :=
  some (p0 != p0)
set_option maxRecDepth 100000 in
set_option maxHeartbeats 8000000 in
theorem m_cmp_isNaN_int_c {s : Sig} {p0 : Int} {r : Bool} (hm : m_cmp_isNaN_int p0 = some r) :
    Calls Try.prog 105 #[.int .i64 p0] s.w (RetS No s fun v s' => v = .bool r) := by
  unfold m_cmp_isNaN_int at hm
  obtain ⟨N, hN, hNb⟩ := s.fresh
  have m0 : Mv (Up N No) s s := Mv.refl _ _
  refine E.entry (vs := [.int .i64 p0]) (e := [(0, .int .i64 p0)]) Try.func105 rfl Try.ntmps105 rfl rfl ?_
  refine E.seq ?_
  refine E.reg ?_
  refine L.as Wt.no rfl rfl ?_
  refine L.nil ?_
  refine X.seqN ?_
  refine E.seq ?_
  refine E.reg ?_
  refine L.mv Wt.no rfl rfl ?_
  refine L.mv Wt.no rfl rfl ?_
  refine L.bi Wt.no rfl rfl rfl rfl ?_
  refine L.as Wt.no rfl rfl ?_
  refine L.nil ?_
  refine X.seqN ?_
  refine E.ret ?_
  obtain rfl := Option.some.inj hm
  exact X.rt (.inl rfl) Try.results105 (Rs.tmp rfl Rs.nil) rfl ⟨_, (s).ren N (fun _ => 0), rfl, rfl, m0.ren hNb, rfl⟩

theorem cf105 : Cf Try.prog 105 := Cf.mk Try.func105 (by kernel_rfl) (by kernel_rfl)
/-- What cmp.Less<int> computes. -/
noncomputable def m_cmp_Less_int (p0 : Int) (p1 : Int) : Option Bool :=
  (m_cmp_isNaN_int p0).bind fun r1 =>
  (if r1 then
    (m_cmp_isNaN_int p1).bind fun r10 =>
    some (!r10)
  else
    some false).bind fun b4 =>
  some (b4 || (decide (p0 < p1)))
set_option maxRecDepth 100000 in
set_option maxHeartbeats 8000000 in
theorem m_cmp_Less_int_c {s : Sig} {p0 : Int} {p1 : Int} {r : Bool} (hm : m_cmp_Less_int p0 p1 = some r) :
    Calls Try.prog 84 #[.int .i64 p0, .int .i64 p1] s.w (RetS No s fun v s' => v = .bool r) := by
  unfold m_cmp_Less_int at hm
  obtain ⟨N, hN, hNb⟩ := s.fresh
  have m0 : Mv (Up N No) s s := Mv.refl _ _
  refine E.entry (vs := [.int .i64 p0, .int .i64 p1]) (e := [(0, .int .i64 p0), (1, .int .i64 p1)]) Try.func84 rfl Try.ntmps84 rfl rfl ?_
  refine E.seq ?_
  refine E.reg ?_
  refine L.as Wt.no rfl rfl ?_
  refine L.nil ?_
  refine X.seqN ?_
  refine E.seq ?_
  refine E.reg ?_
  refine L.mv Wt.no rfl rfl ?_
  obtain ⟨r1, er1, hm⟩ := bindS hm
  refine L.ca (vs := [.int .i64 p0]) cf105 rfl rfl Wt.no rfl (m_cmp_isNaN_int_c (s := s) (p0 := p0) er1) rfl ?_
  rintro _ s2 m3 rfl
  replace m0 := m0.trans m3.no
  refine L.mv Wt.no rfl rfl ?_
  obtain ⟨b4, eb4, hm⟩ := bindS hm
  refine L.cut 4 (fun e w => ∃ (s6 : Sig) (v5 : Bool), b4 = v5 ∧ Mv (Up N No) s s6 ∧ e = (11, .bool v5) :: [(0, .int .i64 p0), (1, .int .i64 p1)] ∧ w = s6.w) ?_ ?_
  · rintro _ _ ⟨s6, v5, rfl, m0, rfl, rfl⟩
    refine L.mv Wt.no rfl rfl ?_
    refine L.cut 4 (fun e w => ∃ (v7 : Bool), (b4 || (decide (p0 < p1))) = v7 ∧ e = (16, .bool v7) :: [] ∧ w = s6.w) ?_ ?_
    · rintro _ _ ⟨v7, rfl, rfl, rfl⟩
      refine L.as Wt.no rfl rfl ?_
      refine L.nil ?_
      refine X.seqN ?_
      refine E.ret ?_
      obtain rfl := Option.some.inj hm
      exact X.rt (.inl rfl) Try.results84 (Rs.tmp rfl Rs.nil) rfl ⟨_, (s6).ren N (fun _ => 0), rfl, rfl, m0.ren hNb, rfl⟩
    · intro J8
      rcases Bool.eq_false_or_eq_true b4 with hc | hc
      · refine L.know (d := 12) rfl hc ?_
        refine L.skip rfl rfl rfl rfl ?_
        refine L.skip rfl rfl rfl rfl ?_
        refine L.skip rfl rfl rfl rfl ?_
        refine L.pkT Wt.no rfl rfl rfl rfl ?_
        exact L.sub (Sub.cons rfl Sub.nil) (J8 _ _ ⟨true, (orT hc).symm, rfl, rfl⟩)
      · refine L.know (d := 12) rfl hc ?_
        refine L.mv (Wt.mk rfl rfl) rfl rfl ?_
        refine L.mv (Wt.mk rfl rfl) rfl rfl ?_
        refine L.bi (Wt.mk rfl rfl) rfl rfl rfl rfl ?_
        refine L.pkF Wt.no rfl rfl rfl rfl ?_
        exact L.sub (Sub.cons rfl Sub.nil) (J8 _ _ ⟨(decide (p0 < p1)), (orF hc).symm, rfl, rfl⟩)
  · intro J9
    rcases ifS eb4 with ⟨hc, hm⟩ | ⟨hc, hm⟩
    · refine L.know (d := 7) rfl hc ?_
      refine L.mv (Wt.mk rfl rfl) rfl rfl ?_
      obtain ⟨r10, er10, hm⟩ := bindS hm
      refine L.ca (vs := [.int .i64 p1]) cf105 rfl rfl (Wt.mk rfl rfl) rfl (m_cmp_isNaN_int_c (s := s2) (p0 := p1) er10) rfl ?_
      rintro _ s11 m12 rfl
      replace m0 := m0.trans m12.no
      refine L.not (Wt.mk rfl rfl) rfl rfl ?_
      refine L.pkT Wt.no rfl rfl rfl rfl ?_
      exact L.sub (Sub.cons rfl (Sub.cons rfl (Sub.cons rfl Sub.nil))) (J9 _ _ ⟨s11, (!r10), (Option.some.inj hm).symm, m0, rfl, rfl⟩)
    · refine L.know (d := 7) rfl hc ?_
      refine L.skip rfl rfl rfl rfl ?_
      refine L.skip rfl rfl rfl rfl ?_
      refine L.skip rfl rfl rfl rfl ?_
      refine L.pkF Wt.no rfl rfl rfl rfl ?_
      exact L.sub (Sub.cons rfl (Sub.cons rfl (Sub.cons rfl Sub.nil))) (J9 _ _ ⟨s2, false, (Option.some.inj hm).symm, m0, rfl, rfl⟩)

/-- What slices.isNaN<int> computes. -/
noncomputable def m_slices_isNaN_int (p0 : Int) : Option Bool :=
  some (p0 != p0)
set_option maxRecDepth 100000 in
set_option maxHeartbeats 8000000 in
theorem m_slices_isNaN_int_c {s : Sig} {p0 : Int} {r : Bool} (hm : m_slices_isNaN_int p0 = some r) :
    Calls Try.prog 85 #[.int .i64 p0] s.w (RetS No s fun v s' => v = .bool r) := by
  unfold m_slices_isNaN_int at hm
  obtain ⟨N, hN, hNb⟩ := s.fresh
  have m0 : Mv (Up N No) s s := Mv.refl _ _
  refine E.entry (vs := [.int .i64 p0]) (e := [(0, .int .i64 p0)]) Try.func85 rfl Try.ntmps85 rfl rfl ?_
  refine E.seq ?_
  refine E.reg ?_
  refine L.as Wt.no rfl rfl ?_
  refine L.nil ?_
  refine X.seqN ?_
  refine E.seq ?_
  refine E.reg ?_
  refine L.mv Wt.no rfl rfl ?_
  refine L.mv Wt.no rfl rfl ?_
  refine L.bi Wt.no rfl rfl rfl rfl ?_
  refine L.as Wt.no rfl rfl ?_
  refine L.nil ?_
  refine X.seqN ?_
  refine E.ret ?_
  obtain rfl := Option.some.inj hm
  exact X.rt (.inl rfl) Try.results85 (Rs.tmp rfl Rs.nil) rfl ⟨_, (s).ren N (fun _ => 0), rfl, rfl, m0.ren hNb, rfl⟩

theorem cf84 : Cf Try.prog 84 := Cf.mk Try.func84 (by kernel_rfl) (by kernel_rfl)
theorem cf85 : Cf Try.prog 85 := Cf.mk Try.func85 (by kernel_rfl) (by kernel_rfl)
noncomputable def m_slices_BinarySearch_int_l1 (p0 : List Int) (p1 : Int) (st11 : Int × Int) : Option ((Int × Int) ⊕ Int) :=
  if decide (st11.2 < st11.1) then
    (idx p0 (W ((IntKind.u64.wrap (W (st11.2 + st11.1))).fdiv (2 ^ (min (1 : Int).toNat 64))))).bind fun x38 =>
    (m_cmp_Less_int x38 p1).bind fun r40 =>
    if r40 then
      some (.inl (st11.1, W ((W ((IntKind.u64.wrap (W (st11.2 + st11.1))).fdiv (2 ^ (min (1 : Int).toNat 64)))) + 1)))
    else
      some (.inl (W ((IntKind.u64.wrap (W (st11.2 + st11.1))).fdiv (2 ^ (min (1 : Int).toNat 64))), st11.2))
  else
    some (.inr st11.2)
/-- What slices.BinarySearch<<>int,int> computes. -/
noncomputable def m_slices_BinarySearch_int (p0 : List Int) (p1 : Int) : Option (Int × Bool) :=
  (iter (m_slices_BinarySearch_int_l1 p0 p1) ((p0.length : Int), 0)).bind fun o11 =>
  (if decide (o11 < (p0.length : Int)) then
    (idx p0 o11).bind fun x19 =>
    (if (x19 == p1) then
      some true
    else
      (idx p0 o11).bind fun x25 =>
      (m_slices_isNaN_int x25).bind fun r27 =>
      (if r27 then
        (m_slices_isNaN_int p1).bind fun r34 =>
        some r34
      else
        some false).bind fun b30 =>
      some b30).bind fun b21 =>
    some b21
  else
    some false).bind fun b15 =>
  some (o11, b15)
set_option maxRecDepth 100000 in
set_option maxHeartbeats 8000000 in
theorem m_slices_BinarySearch_int_c {s : Sig} {p0 : List Int} {p1 : Int} {a1 : Option Addr} {c1 : Nat} {r : Int × Bool} (h1 : RdL (rK .i64) s a1 c1 p0) (hm : m_slices_BinarySearch_int p0 p1 = some r) :
    Calls Try.prog 72 #[.slice a1 p0.length c1, .int .i64 p1] s.w (RetS No s fun v s' => v = .tuple #[.int .i64 r.1, .bool r.2]) := by
  unfold m_slices_BinarySearch_int at hm
  obtain ⟨N, hN, hNb⟩ := s.fresh
  have m0 : Mv (Up N No) s s := Mv.refl _ _
  refine E.entry (vs := [.slice a1 p0.length c1, .int .i64 p1]) (e := [(0, .slice a1 p0.length c1), (1, .int .i64 p1)]) Try.func72 rfl Try.ntmps72 rfl rfl ?_
  refine E.seq ?_
  refine E.reg ?_
  refine L.as Wt.no rfl rfl ?_
  refine L.as Wt.no rfl rfl ?_
  refine L.nil ?_
  refine X.seqN ?_
  refine E.seq ?_
  refine E.reg ?_
  refine L.mv Wt.no rfl rfl ?_
  refine L.len sl23 Wt.no rfl rfl ?_
  refine L.as Wt.no rfl rfl ?_
  refine L.nil ?_
  refine X.seqN ?_
  refine E.seq ?_
  refine E.reg ?_
  refine L.mv Wt.no rfl rfl ?_
  refine L.as Wt.no rfl rfl ?_
  refine L.as Wt.no rfl rfl ?_
  refine L.nil ?_
  refine X.seqN ?_
  refine E.seq ?_
  refine E.block ?_
  obtain ⟨o11, eo11, hm⟩ := bindS hm
  refine E.cut (x := .exit 0) (fun e w => ∃ (s14 : Sig), Mv (Up N No) s s14 ∧ RdL (rK .i64) s14 a1 c1 p0 ∧ e = [(7, .int .i64 o11), (6, .int .i64 (p0.length : Int)), (0, .slice a1 p0.length c1), (1, .int .i64 p1)] ∧ w = s14.w) ?_ ?_
  · rintro _ _ ⟨s14, m0, h1, rfl, rfl⟩
    refine X.blkE ?_
    refine X.seqN ?_
    refine E.seq ?_
    refine E.reg ?_
    refine L.mv Wt.no rfl rfl ?_
    refine L.mv Wt.no rfl rfl ?_
    refine L.mv Wt.no rfl rfl ?_
    refine L.bi Wt.no rfl rfl rfl rfl ?_
    refine L.mv Wt.no rfl rfl ?_
    obtain ⟨b15, eb15, hm⟩ := bindS hm
    refine L.cut 18 (fun e w => ∃ (s17 : Sig) (v16 : Bool), b15 = v16 ∧ Mv (Up N No) s s17 ∧ e = (53, .bool v16) :: [(31, .int .i64 o11)] ∧ w = s17.w) ?_ ?_
    · rintro _ _ ⟨s17, v16, rfl, m0, rfl, rfl⟩
      refine L.as Wt.no rfl rfl ?_
      refine L.as Wt.no rfl rfl ?_
      refine L.nil ?_
      refine X.seqN ?_
      refine E.ret ?_
      obtain rfl := Option.some.inj hm
      exact X.rt (.inl rfl) Try.results72 (Rs.tmp rfl (Rs.tmp rfl Rs.nil)) rfl ⟨_, (s17).ren N (fun _ => 0), rfl, rfl, m0.ren hNb, rfl⟩
    · intro J18
      rcases ifS eb15 with ⟨hc, hm⟩ | ⟨hc, hm⟩
      · refine L.know (d := 35) rfl hc ?_
        refine L.mv (Wt.mk rfl rfl) rfl rfl ?_
        refine L.mv (Wt.mk rfl rfl) rfl rfl ?_
        obtain ⟨x19, ex19, hm⟩ := bindS hm
        refine L.ix (r := (rK .i64)) sl23 h1 (Wt.mk rfl rfl) rfl rfl ex19 rfl ?_
        rintro b20 o20 cc20 me20 rd20
        obtain rfl := rd20
        refine L.ld (j := 0) me20 nag3 (Wt.mk rfl rfl) rfl rfl rfl rfl ?_
        refine L.mv (Wt.mk rfl rfl) rfl rfl ?_
        refine L.bi (Wt.mk rfl rfl) rfl rfl rfl rfl ?_
        refine L.mv (Wt.mk rfl rfl) rfl rfl ?_
        obtain ⟨b21, eb21, hm⟩ := bindS hm
        refine L.cut 10 (fun e w => ∃ (s23 : Sig) (v22 : Bool), b21 = v22 ∧ Mv (Up N No) s s23 ∧ e = (52, .bool v22) :: [(35, .bool true), (31, .int .i64 o11)] ∧ w = s23.w) ?_ ?_
        · rintro _ _ ⟨s23, v22, rfl, m0, rfl, rfl⟩
          refine L.pkT Wt.no rfl rfl rfl rfl ?_
          exact L.sub (Sub.cons rfl (Sub.cons rfl Sub.nil)) (J18 _ _ ⟨s23, b21, (Option.some.inj hm).symm, m0, rfl, rfl⟩)
        · intro J24
          rcases ifS eb21 with ⟨hc, hm⟩ | ⟨hc, hm⟩
          · refine L.know (d := 42) rfl hc ?_
            refine L.skip rfl rfl rfl rfl ?_
            refine L.skip rfl rfl rfl rfl ?_
            refine L.skip rfl rfl rfl rfl ?_
            refine L.skip rfl rfl rfl rfl ?_
            refine L.skip rfl rfl rfl rfl ?_
            refine L.skip rfl rfl rfl rfl ?_
            refine L.skipU rfl rfl rfl ?_
            refine L.skipU rfl rfl rfl ?_
            refine L.skip rfl rfl rfl rfl ?_
            refine L.pkT (Wt.mk rfl rfl) rfl rfl rfl rfl ?_
            exact L.sub (Sub.cons rfl (Sub.cons rfl (Sub.cons rfl Sub.nil))) (J24 _ _ ⟨s14, true, (Option.some.inj hm).symm, m0, rfl, rfl⟩)
          · refine L.know (d := 42) rfl hc ?_
            refine L.mv (Wt.mk rfl rfl) rfl rfl ?_
            refine L.mv (Wt.mk rfl rfl) rfl rfl ?_
            obtain ⟨x25, ex25, hm⟩ := bindS hm
            refine L.ix (r := (rK .i64)) sl23 h1 (Wt.mk rfl rfl) rfl rfl ex25 rfl ?_
            rintro b26 o26 cc26 me26 rd26
            obtain rfl := rd26
            refine L.ld (j := 0) me26 nag3 (Wt.mk rfl rfl) rfl rfl rfl rfl ?_
            obtain ⟨r27, er27, hm⟩ := bindS hm
            refine L.ca (vs := [.int .i64 x25]) cf85 rfl rfl (Wt.mk rfl rfl) rfl (m_slices_isNaN_int_c (s := s14) (p0 := x25) er27) rfl ?_
            rintro _ s28 m29 rfl
            replace m0 := m0.trans m29.no
            refine L.mv (Wt.mk rfl rfl) rfl rfl ?_
            obtain ⟨b30, eb30, hm⟩ := bindS hm
            refine L.cut 3 (fun e w => ∃ (s32 : Sig) (v31 : Bool), b30 = v31 ∧ Mv (Up N No) s s32 ∧ e = (51, .bool v31) :: [(42, .bool false), (35, .bool true), (31, .int .i64 o11)] ∧ w = s32.w) ?_ ?_
            · rintro _ _ ⟨s32, v31, rfl, m0, rfl, rfl⟩
              refine L.pkF (Wt.mk rfl rfl) rfl rfl rfl rfl ?_
              exact L.sub (Sub.cons rfl (Sub.cons rfl (Sub.cons rfl Sub.nil))) (J24 _ _ ⟨s32, b30, (Option.some.inj hm).symm, m0, rfl, rfl⟩)
            · intro J33
              rcases ifS eb30 with ⟨hc, hm⟩ | ⟨hc, hm⟩
              · refine L.know (d := 48) rfl hc ?_
                refine L.mv (Wt.mk rfl rfl) rfl rfl ?_
                obtain ⟨r34, er34, hm⟩ := bindS hm
                refine L.ca (vs := [.int .i64 p1]) cf85 rfl rfl (Wt.mk rfl rfl) rfl (m_slices_isNaN_int_c (s := s28) (p0 := p1) er34) rfl ?_
                rintro _ s35 m36 rfl
                replace m0 := m0.trans m36.no
                refine L.pkT (Wt.mk rfl rfl) rfl rfl rfl rfl ?_
                exact L.sub (Sub.cons rfl (Sub.cons rfl (Sub.cons rfl (Sub.cons rfl Sub.nil)))) (J33 _ _ ⟨s35, r34, (Option.some.inj hm).symm, m0, rfl, rfl⟩)
              · refine L.know (d := 48) rfl hc ?_
                refine L.skip rfl rfl rfl rfl ?_
                refine L.skip rfl rfl rfl rfl ?_
                refine L.pkF (Wt.mk rfl rfl) rfl rfl rfl rfl ?_
                exact L.sub (Sub.cons rfl (Sub.cons rfl (Sub.cons rfl (Sub.cons rfl Sub.nil)))) (J33 _ _ ⟨s28, false, (Option.some.inj hm).symm, m0, rfl, rfl⟩)
      · refine L.know (d := 35) rfl hc ?_
        refine L.skip rfl rfl rfl rfl ?_
        refine L.skip rfl rfl rfl rfl ?_
        refine L.skip rfl rfl rfl rfl ?_
        refine L.skip rfl rfl rfl rfl ?_
        refine L.skip rfl rfl rfl rfl ?_
        refine L.skip rfl rfl rfl rfl ?_
        refine L.skip rfl rfl rfl rfl ?_
        refine L.skipU rfl rfl rfl ?_
        refine L.skipU rfl rfl rfl ?_
        refine L.skipU rfl rfl rfl ?_
        refine L.skipU rfl rfl rfl ?_
        refine L.skipU rfl rfl rfl ?_
        refine L.skipU rfl rfl rfl ?_
        refine L.skipU rfl rfl rfl ?_
        refine L.skipU rfl rfl rfl ?_
        refine L.skipU rfl rfl rfl ?_
        refine L.skip rfl rfl rfl rfl ?_
        refine L.pkF Wt.no rfl rfl rfl rfl ?_
        exact L.sub (Sub.cons rfl (Sub.cons rfl Sub.nil)) (J18 _ _ ⟨s14, false, (Option.some.inj hm).symm, m0, rfl, rfl⟩)
  intro K37
  refine E.iter (fun (st11 : Int × Int) (e : List (Nat × Value)) (w : World) => ∃ (s13 : Sig), Mv (Up N No) s s13 ∧ RdL (rK .i64) s13 a1 c1 p0 ∧ e = [(8, .int .i64 st11.1), (7, .int .i64 st11.2), (6, .int .i64 (p0.length : Int)), (0, .slice a1 p0.length c1), (1, .int .i64 p1)] ∧ w = s13.w) eo11 ⟨s, m0, h1, rfl, rfl⟩ (Sub.cons rfl (Sub.cons rfl (Sub.cons rfl (Sub.cons rfl (Sub.cons rfl Sub.nil))))) ?_
  rintro st11 res11 hm ih11 ho11 _ _ ⟨s13, m0, h1, rfl, rfl⟩
  unfold m_slices_BinarySearch_int_l1 at hm
  refine E.seq ?_
  refine E.seq ?_
  refine E.reg ?_
  refine L.mv Wt.no rfl rfl ?_
  refine L.mv Wt.no rfl rfl ?_
  refine L.bi Wt.no rfl rfl rfl rfl ?_
  refine L.nil ?_
  refine X.seqN ?_
  rcases ifS hm with ⟨hc, hm⟩ | ⟨hc, hm⟩
  · refine E.cT rfl hc ?_
    refine E.skip ?_
    refine X.seqN ?_
    refine E.block ?_
    refine E.seq ?_
    refine E.reg ?_
    refine L.mv Wt.no rfl rfl ?_
    refine L.mv Wt.no rfl rfl ?_
    refine L.bi Wt.no rfl rfl rfl rfl ?_
    refine L.cv Try.underlying3 Try.underlying136 Wt.no rfl rfl ?_
    refine L.shr Wt.no rfl rfl (by decide) rfl ?_
    refine L.cv Try.underlying136 Try.underlying3 Wt.no rfl rfl ?_
    refine L.as Wt.no rfl rfl ?_
    refine L.nil ?_
    refine X.seqN ?_
    refine E.seq ?_
    refine E.reg ?_
    refine L.mv Wt.no rfl rfl ?_
    refine L.mv Wt.no rfl rfl ?_
    obtain ⟨x38, ex38, hm⟩ := bindS hm
    refine L.ix (r := (rK .i64)) sl23 h1 Wt.no rfl rfl ex38 rfl ?_
    rintro b39 o39 cc39 me39 rd39
    obtain rfl := rd39
    refine L.ld (j := 0) me39 nag3 Wt.no rfl rfl rfl rfl ?_
    refine L.mv Wt.no rfl rfl ?_
    obtain ⟨r40, er40, hm⟩ := bindS hm
    refine L.ca (vs := [.int .i64 x38, .int .i64 p1]) cf84 rfl rfl Wt.no rfl (m_cmp_Less_int_c (s := s13) (p0 := x38) (p1 := p1) er40) rfl ?_
    rintro _ s41 m42 rfl
    replace m0 := m0.trans m42.no
    replace h1 := h1.mono (m42.le no_No)
    refine L.nil ?_
    refine X.seqN ?_
    rcases ifS hm with ⟨hc, hm⟩ | ⟨hc, hm⟩
    · refine E.cT rfl hc ?_
      refine E.reg ?_
      refine L.mv Wt.no rfl rfl ?_
      refine L.bi Wt.no rfl rfl rfl rfl ?_
      refine L.as Wt.no rfl rfl ?_
      refine L.nil ?_
      refine X.blkN ?_
      exact X.sub (ih11 _ (Option.some.inj hm).symm _ _ ⟨s41, m0, h1, rfl, rfl⟩) (Sub.cons rfl (Sub.cons rfl (Sub.cons rfl (Sub.cons rfl (Sub.cons rfl Sub.nil)))))
    · refine E.cF rfl hc ?_
      refine E.reg ?_
      refine L.mv Wt.no rfl rfl ?_
      refine L.as Wt.no rfl rfl ?_
      refine L.nil ?_
      refine X.blkN ?_
      exact X.sub (ih11 _ (Option.some.inj hm).symm _ _ ⟨s41, m0, h1, rfl, rfl⟩) (Sub.cons rfl (Sub.cons rfl (Sub.cons rfl (Sub.cons rfl (Sub.cons rfl Sub.nil)))))
  · refine E.cF rfl hc ?_
    refine E.exit ?_
    refine X.seqX ?_
    refine X.seqX ?_
    have hx := ho11 _ (Option.some.inj hm).symm
    subst hx
    exact X.sub (K37 _ _ ⟨s13, m0, h1, rfl, rfl⟩) (Sub.cons rfl (Sub.cons rfl (Sub.cons rfl (Sub.cons rfl Sub.nil))))

end Go.Proofs.Ytkkemchihllklaa
