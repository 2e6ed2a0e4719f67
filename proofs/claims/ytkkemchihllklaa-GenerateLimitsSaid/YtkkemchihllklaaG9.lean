/- What some functions compute, as plain functions (m_..), and that the code computes it. Written by gen.py. -/
import Derived.Test.YtkkemchihllklaaG8
import Derived.Test.YtkkemchihllklaaProg
namespace Go.Proofs.Ytkkemchihllklaa
open Go Go.RowKit
noncomputable def m_overseerlaw53_step_l1 (p0 : List Int × Int × List Int × (List (Int × Int × Int))) (p1 : Int) (p2 : Int) (st18 : Int) : Option (Int ⊕ (Unit ⊕ Int)) :=
  if decide (st18 < (p0.2.2.2.length : Int)) then
    (idx p0.2.2.2 st18).bind fun x27 =>
    if ((x27.1 == p1) && (x27.2.1 == p2)) then
      some (.inr (.inr (x27.2.2)))
    else
      some (.inl (W (st18 + 1)))
  else
    some (.inr (.inl ()))
/-- What overseerlaw53.step computes. -/
noncomputable def m_overseerlaw53_step (p0 : List Int × Int × List Int × (List (Int × Int × Int))) (p1 : Int) (p2 : Int) : Option Int :=
  (iter (m_overseerlaw53_step_l1 p0 p1 p2) 0).bind fun o18 =>
  match o18 with
  | .inl u21 =>
    some (-1)
  | .inr (u24) =>
    some u24
set_option maxRecDepth 100000 in
set_option maxHeartbeats 8000000 in
theorem m_overseerlaw53_step_c {s : Sig} {p0 : List Int × Int × List Int × (List (Int × Int × Int))} {p1 : Int} {p2 : Int} {a1 : Option Addr} {c1 : Nat} {a2 : Option Addr} {c2 : Nat} {a3 : Option Addr} {c3 : Nat} {r : Int} (h1 : RdL (rK .i64) s a1 c1 p0.1) (h2 : RdL (rK .i64) s a2 c2 p0.2.2.1) (h3 : RdL (rP (rK .i64) (rP (rK .i64) (rK .i64))) s a3 c3 p0.2.2.2) (hm : m_overseerlaw53_step p0 p1 p2 = some r) :
    Calls Try.prog 45 #[.agg #[.slice a1 p0.1.length c1, .int .i64 p0.2.1, .slice a2 p0.2.2.1.length c2, .slice a3 p0.2.2.2.length c3], .int .i64 p1, .int .i64 p2] s.w (RetS No s fun v s' => v = .int .i64 r) := by
  unfold m_overseerlaw53_step at hm
  obtain ⟨N, hN, hNb⟩ := s.fresh
  have m0 : Mv (Up N No) s s := Mv.refl _ _
  refine E.entry (vs := [.agg #[.slice a1 p0.1.length c1, .int .i64 p0.2.1, .slice a2 p0.2.2.1.length c2, .slice a3 p0.2.2.2.length c3], .int .i64 p1, .int .i64 p2]) (e := [(0, .agg #[.slice a1 p0.1.length c1, .int .i64 p0.2.1, .slice a2 p0.2.2.1.length c2, .slice a3 p0.2.2.2.length c3]), (1, .int .i64 p1), (2, .int .i64 p2)]) Try.func45 rfl Try.ntmps45 rfl rfl ?_
  refine E.seq ?_
  refine E.reg ?_
  refine L.box (N + 0) Wt.no rfl rfl rfl ?_
  intro b4 s5 m6 bx4
  replace m0 := m0.trans m6.no
  replace h1 := h1.mono (m6.le no_No)
  replace h2 := h2.mono (m6.le no_No)
  replace h3 := h3.mono (m6.le no_No)
  refine L.as Wt.no rfl rfl ?_
  refine L.nil ?_
  refine X.seqN ?_
  refine E.seq ?_
  refine E.seq ?_
  refine E.reg ?_
  refine L.fa fa26_3 Wt.no rfl rfl ?_
  refine L.ld (j := 3) bx4.mem nag24 Wt.no rfl rfl rfl rfl ?_
  refine L.len sl24 Wt.no rfl rfl ?_
  refine L.mv Wt.no rfl rfl ?_
  refine L.nil ?_
  refine X.seqN ?_
  refine E.block ?_
  obtain ⟨o18, eo18, hm⟩ := bindS hm
  refine E.cut (x := .exit 0) (fun e w => ∃ (s22 : Sig) (u21 : Unit), o18 = .inl u21 ∧ Mv (Up N No) s s22 ∧ e = [] ∧ w = s22.w) ?_ ?_
  · rintro _ _ ⟨s22, u21, rfl, m0, rfl, rfl⟩
    dsimp only at hm
    refine X.blkE ?_
    refine X.seqN ?_
    refine E.seq ?_
    refine E.reg ?_
    refine L.as Wt.no rfl rfl ?_
    refine L.nil ?_
    refine X.seqN ?_
    refine E.ret ?_
    obtain rfl := Option.some.inj hm
    exact X.rt (.inl rfl) Try.results45 (Rs.tmp rfl Rs.nil) rfl ⟨_, (s22).ren N (fun _ => 0), rfl, rfl, m0.ren hNb, rfl⟩
  intro K23
  refine E.cut (x := .ret) (fun e w => ∃ (s25 : Sig) (u24 : Int), o18 = .inr (u24) ∧ Mv (Up N No) s s25 ∧ e = [(6, .int .i64 u24)] ∧ w = s25.w) ?_ ?_
  · rintro _ _ ⟨s25, u24, rfl, m0, rfl, rfl⟩
    dsimp only at hm
    refine X.blkR ?_
    refine X.seqR ?_
    obtain rfl := Option.some.inj hm
    exact X.rt (.inl rfl) Try.results45 (Rs.tmp rfl Rs.nil) rfl ⟨_, (s25).ren N (fun _ => 0), rfl, rfl, m0.ren hNb, rfl⟩
  intro K26
  refine E.iter (fun (st18 : Int) (e : List (Nat × Value)) (w : World) => ∃ (s20 : Sig), Mv (Up N No) s s20 ∧ RdL (rP (rK .i64) (rP (rK .i64) (rK .i64))) s20 a3 c3 p0.2.2.2 ∧ e = [(12, .int .i64 st18), (11, .int .i64 (p0.2.2.2.length : Int)), (10, .slice a3 p0.2.2.2.length c3), (1, .int .i64 p1), (2, .int .i64 p2)] ∧ w = s20.w) eo18 ⟨s5, m0, h3, rfl, rfl⟩ (Sub.cons rfl (Sub.cons rfl (Sub.cons rfl (Sub.cons rfl (Sub.cons rfl Sub.nil))))) ?_
  rintro st18 res18 hm ih18 ho18 _ _ ⟨s20, m0, h3, rfl, rfl⟩
  unfold m_overseerlaw53_step_l1 at hm
  refine E.seq ?_
  refine E.reg ?_
  refine L.bi Wt.no rfl rfl rfl rfl ?_
  refine L.nil ?_
  refine X.seqN ?_
  refine E.seq ?_
  rcases ifS hm with ⟨hc, hm⟩ | ⟨hc, hm⟩
  · refine E.cT rfl hc ?_
    refine E.skip ?_
    refine X.seqN ?_
    refine E.seq ?_
    refine E.block ?_
    refine E.seq ?_
    refine E.reg ?_
    obtain ⟨x27, ex27, hm⟩ := bindS hm
    refine L.ix (r := (rP (rK .i64) (rP (rK .i64) (rK .i64)))) sl24 h3 Wt.no rfl rfl ex27 rfl ?_
    rintro b28 o28 cc28 me28 rd28
    obtain ⟨_, _, rfl, rfl, ⟨_, _, rfl, rfl, rfl⟩⟩ := rd28
    refine L.lg (j := 0) (cs := [.int .i64 x27.1, .int .i64 x27.2.1, .int .i64 x27.2.2]) me28 ag28 Wt.no rfl rfl rfl rfl rfl ?_
    refine L.al (N + 1) zz28 rfl Wt.no rfl ?_
    intro b29 s30 m31 bx29
    replace m0 := m0.trans m31.no
    replace h3 := h3.mono (m31.le no_No)
    refine L.st (c := [.int .i64 x27.1, .int .i64 x27.2.1, .int .i64 x27.2.2]) (cs' := #[.int .i64 x27.1, .int .i64 x27.2.1, .int .i64 x27.2.2]) bx29 ag28.sz Wt.no rfl rfl rfl rfl rfl (Nat.le_of_ble_eq_true rfl) rfl ?_
    intro s32 m33 bx29
    replace m0 := m0.trans (m33.one up)
    replace h3 := h3.mono (m33.le (tg0 hN))
    refine L.nil ?_
    refine X.seqN ?_
    refine E.seq ?_
    refine E.reg ?_
    refine L.fa fa28_0 Wt.no rfl rfl ?_
    refine L.ld (j := 0) bx29.mem nag3 Wt.no rfl rfl rfl rfl ?_
    refine L.mv Wt.no rfl rfl ?_
    refine L.bi Wt.no rfl rfl rfl rfl ?_
    refine L.mv Wt.no rfl rfl ?_
    refine L.cut 5 (fun e w => ∃ (v34 : Bool), ((x27.1 == p1) && (x27.2.1 == p2)) = v34 ∧ e = (25, .bool v34) :: [(8, .pointer (some ⟨b29, 0, none⟩)), (12, .int .i64 st18), (11, .int .i64 (p0.2.2.2.length : Int)), (10, .slice a3 p0.2.2.2.length c3), (1, .int .i64 p1), (2, .int .i64 p2)] ∧ w = s32.w) ?_ ?_
    · rintro _ _ ⟨v34, rfl, rfl, rfl⟩
      refine L.nil ?_
      refine X.seqN ?_
      rcases ifS hm with ⟨hc, hm⟩ | ⟨hc, hm⟩
      · refine E.cT rfl hc ?_
        refine E.seq ?_
        refine E.reg ?_
        refine L.fa fa28_2 Wt.no rfl rfl ?_
        refine L.ld (j := 2) bx29.mem nag3 Wt.no rfl rfl rfl rfl ?_
        refine L.as Wt.no rfl rfl ?_
        refine L.nil ?_
        refine X.seqN ?_
        refine E.ret ?_
        refine X.blkR ?_
        refine X.seqR ?_
        refine X.seqR ?_
        have hx := ho18 _ (Option.some.inj hm).symm
        exact X.sub (K26 _ _ ⟨s32, x27.2.2, hx.symm, m0, rfl, rfl⟩) (Sub.cons rfl Sub.nil)
      · refine E.cF rfl hc ?_
        refine E.skip ?_
        refine X.blkN ?_
        refine X.seqN ?_
        refine E.reg ?_
        refine L.bi Wt.no rfl rfl rfl rfl ?_
        refine L.mv Wt.no rfl rfl ?_
        refine L.nil ?_
        exact X.sub (ih18 _ (Option.some.inj hm).symm _ _ ⟨s32, m0, h3, rfl, rfl⟩) (Sub.cons rfl (Sub.cons rfl (Sub.cons rfl (Sub.cons rfl (Sub.cons rfl Sub.nil)))))
    · intro J35
      rcases Bool.eq_false_or_eq_true (x27.1 == p1) with hc | hc
      · refine L.know (d := 20) rfl hc ?_
        refine L.fa fa28_1 (Wt.mk rfl rfl) rfl rfl ?_
        refine L.ld (j := 1) bx29.mem nag3 (Wt.mk rfl rfl) rfl rfl rfl rfl ?_
        refine L.mv (Wt.mk rfl rfl) rfl rfl ?_
        refine L.bi (Wt.mk rfl rfl) rfl rfl rfl rfl ?_
        refine L.pkT Wt.no rfl rfl rfl rfl ?_
        exact L.sub (Sub.cons rfl (Sub.cons rfl (Sub.cons rfl (Sub.cons rfl (Sub.cons rfl (Sub.cons rfl (Sub.cons rfl Sub.nil))))))) (J35 _ _ ⟨(x27.2.1 == p2), (andT hc).symm, rfl, rfl⟩)
      · refine L.know (d := 20) rfl hc ?_
        refine L.skip rfl rfl rfl rfl ?_
        refine L.skip rfl rfl rfl rfl ?_
        refine L.skip rfl rfl rfl rfl ?_
        refine L.skip rfl rfl rfl rfl ?_
        refine L.pkF Wt.no rfl rfl rfl rfl ?_
        exact L.sub (Sub.cons rfl (Sub.cons rfl (Sub.cons rfl (Sub.cons rfl (Sub.cons rfl (Sub.cons rfl (Sub.cons rfl Sub.nil))))))) (J35 _ _ ⟨false, (andF hc).symm, rfl, rfl⟩)
  · refine E.cF rfl hc ?_
    refine E.exit ?_
    refine X.seqX ?_
    refine X.seqX ?_
    have hx := ho18 _ (Option.some.inj hm).symm
    exact X.sub (K23 _ _ ⟨s20, (), hx.symm, m0, rfl, rfl⟩) Sub.nil

/-- What generate.Alarmed computes. -/
noncomputable def m_generate_Alarmed (p0 : (Int × Int × Int × List Bool × (List (Int × Int))) × List Int × List Int × Int) (p1 : List Bool × List Bool) : Option (Bool × Int) :=
  (m_generate_fits p0 p1).bind fun r13 =>
  if (r13 != 0) then
    some (false, r13)
  else
    (idx p1.1 (p0.2.2.1.length : Int)).bind fun x16 =>
    some (x16, 0)
set_option maxRecDepth 100000 in
set_option maxHeartbeats 8000000 in
theorem m_generate_Alarmed_c {s : Sig} {p0 : (Int × Int × Int × List Bool × (List (Int × Int))) × List Int × List Int × Int} {p1 : List Bool × List Bool} {a1 : Option Addr} {c1 : Nat} {a2 : Option Addr} {c2 : Nat} {a3 : Option Addr} {c3 : Nat} {a4 : Option Addr} {c4 : Nat} {a5 : Option Addr} {c5 : Nat} {a6 : Option Addr} {c6 : Nat} {r : Bool × Int} (h1 : RdL rB s a1 c1 p0.1.2.2.2.1) (h2 : RdL (rP (rK .i64) (rK .i64)) s a2 c2 p0.1.2.2.2.2) (h3 : RdL (rK .i64) s a3 c3 p0.2.1) (h4 : RdL (rK .i64) s a4 c4 p0.2.2.1) (h5 : RdL rB s a5 c5 p1.1) (h6 : RdL rB s a6 c6 p1.2) (hm : m_generate_Alarmed p0 p1 = some r) :
    Calls Try.prog 31 #[.agg #[.int .i64 p0.1.1, .int .i64 p0.1.2.1, .int .i64 p0.1.2.2.1, .slice a1 p0.1.2.2.2.1.length c1, .slice a2 p0.1.2.2.2.2.length c2, .slice a3 p0.2.1.length c3, .slice a4 p0.2.2.1.length c4, .int .i64 p0.2.2.2], .agg #[.slice a5 p1.1.length c5, .slice a6 p1.2.length c6]] s.w (RetS No s fun v s' => v = .tuple #[.bool r.1, .int .i64 r.2]) := by
  unfold m_generate_Alarmed at hm
  obtain ⟨N, hN, hNb⟩ := s.fresh
  have m0 : Mv (Up N No) s s := Mv.refl _ _
  refine E.entry (vs := [.agg #[.int .i64 p0.1.1, .int .i64 p0.1.2.1, .int .i64 p0.1.2.2.1, .slice a1 p0.1.2.2.2.1.length c1, .slice a2 p0.1.2.2.2.2.length c2, .slice a3 p0.2.1.length c3, .slice a4 p0.2.2.1.length c4, .int .i64 p0.2.2.2], .agg #[.slice a5 p1.1.length c5, .slice a6 p1.2.length c6]]) (e := [(0, .agg #[.int .i64 p0.1.1, .int .i64 p0.1.2.1, .int .i64 p0.1.2.2.1, .slice a1 p0.1.2.2.2.1.length c1, .slice a2 p0.1.2.2.2.2.length c2, .slice a3 p0.2.1.length c3, .slice a4 p0.2.2.1.length c4, .int .i64 p0.2.2.2]), (1, .agg #[.slice a5 p1.1.length c5, .slice a6 p1.2.length c6])]) Try.func31 rfl Try.ntmps31 rfl rfl ?_
  refine E.seq ?_
  refine E.reg ?_
  refine L.box (N + 0) Wt.no rfl rfl rfl ?_
  intro b7 s8 m9 bx7
  replace m0 := m0.trans m9.no
  replace h5 := h5.mono (m9.le no_No)
  replace h6 := h6.mono (m9.le no_No)
  replace h1 := h1.mono (m9.le no_No)
  replace h2 := h2.mono (m9.le no_No)
  replace h3 := h3.mono (m9.le no_No)
  replace h4 := h4.mono (m9.le no_No)
  refine L.box (N + 1) Wt.no rfl rfl rfl ?_
  intro b10 s11 m12 bx10
  replace m0 := m0.trans m12.no
  replace bx7 := bx7.mv m12 no_No
  replace h1 := h1.mono (m12.le no_No)
  replace h2 := h2.mono (m12.le no_No)
  replace h3 := h3.mono (m12.le no_No)
  replace h4 := h4.mono (m12.le no_No)
  replace h5 := h5.mono (m12.le no_No)
  replace h6 := h6.mono (m12.le no_No)
  refine L.as Wt.no rfl rfl ?_
  refine L.as Wt.no rfl rfl ?_
  refine L.nil ?_
  refine X.seqN ?_
  refine E.seq ?_
  refine E.seq ?_
  refine E.reg ?_
  refine L.lg (j := 0) (cs := [.int .i64 p0.1.1, .int .i64 p0.1.2.1, .int .i64 p0.1.2.2.1, .slice a1 p0.1.2.2.2.1.length c1, .slice a2 p0.1.2.2.2.2.length c2, .slice a3 p0.2.1.length c3, .slice a4 p0.2.2.1.length c4, .int .i64 p0.2.2.2]) bx7.mem ag34 Wt.no rfl rfl rfl rfl rfl ?_
  refine L.lg (j := 0) (cs := [.slice a5 p1.1.length c5, .slice a6 p1.2.length c6]) bx10.mem ag39 Wt.no rfl rfl rfl rfl rfl ?_
  obtain ⟨r13, er13, hm⟩ := bindS hm
  refine L.ca (vs := [.agg #[.int .i64 p0.1.1, .int .i64 p0.1.2.1, .int .i64 p0.1.2.2.1, .slice a1 p0.1.2.2.2.1.length c1, .slice a2 p0.1.2.2.2.2.length c2, .slice a3 p0.2.1.length c3, .slice a4 p0.2.2.1.length c4, .int .i64 p0.2.2.2], .agg #[.slice a5 p1.1.length c5, .slice a6 p1.2.length c6]]) cf50 rfl rfl Wt.no rfl (m_generate_fits_c (s := s11) (p0 := p0) (p1 := p1) h1 h2 h3 h4 h5 h6 er13) rfl ?_
  rintro _ s14 m15 rfl
  replace m0 := m0.trans m15.no
  replace bx7 := bx7.mv m15 no_No
  replace h1 := h1.mono (m15.le no_No)
  replace h2 := h2.mono (m15.le no_No)
  replace h3 := h3.mono (m15.le no_No)
  replace h4 := h4.mono (m15.le no_No)
  replace bx10 := bx10.mv m15 no_No
  replace h5 := h5.mono (m15.le no_No)
  replace h6 := h6.mono (m15.le no_No)
  refine L.as Wt.no rfl rfl ?_
  refine L.nil ?_
  refine X.seqN ?_
  refine E.seq ?_
  refine E.reg ?_
  refine L.mv Wt.no rfl rfl ?_
  refine L.bi Wt.no rfl rfl rfl rfl ?_
  refine L.nil ?_
  refine X.seqN ?_
  rcases ifS hm with ⟨hc, hm⟩ | ⟨hc, hm⟩
  · refine E.cT rfl hc ?_
    refine E.seq ?_
    refine E.reg ?_
    refine L.mv Wt.no rfl rfl ?_
    refine L.as Wt.no rfl rfl ?_
    refine L.as Wt.no rfl rfl ?_
    refine L.nil ?_
    refine X.seqN ?_
    refine E.ret ?_
    refine X.seqR ?_
    obtain rfl := Option.some.inj hm
    exact X.rt (.inl rfl) Try.results31 (Rs.tmp rfl (Rs.tmp rfl Rs.nil)) rfl ⟨_, (s14).ren N (fun _ => 0), rfl, rfl, m0.ren hNb, rfl⟩
  · refine E.cF rfl hc ?_
    refine E.skip ?_
    refine X.seqN ?_
    refine E.seq ?_
    refine E.reg ?_
    refine L.fa fa39_0 Wt.no rfl rfl ?_
    refine L.ld (j := 0) bx10.mem nag29 Wt.no rfl rfl rfl rfl ?_
    refine L.fa fa34_2 Wt.no rfl rfl ?_
    refine L.ld (j := 6) bx7.mem nag23 Wt.no rfl rfl rfl rfl ?_
    refine L.len sl23 Wt.no rfl rfl ?_
    obtain ⟨x16, ex16, hm⟩ := bindS hm
    refine L.ix (r := rB) sl29 h5 Wt.no rfl rfl ex16 rfl ?_
    rintro b17 o17 cc17 me17 rd17
    obtain rfl := rd17
    refine L.ld (j := 0) me17 nag4 Wt.no rfl rfl rfl rfl ?_
    refine L.as Wt.no rfl rfl ?_
    refine L.as Wt.no rfl rfl ?_
    refine L.nil ?_
    refine X.seqN ?_
    refine E.ret ?_
    obtain rfl := Option.some.inj hm
    exact X.rt (.inl rfl) Try.results31 (Rs.tmp rfl (Rs.tmp rfl Rs.nil)) rfl ⟨_, (s14).ren N (fun _ => 0), rfl, rfl, m0.ren hNb, rfl⟩

theorem cf31 : Cf Try.prog 31 := Cf.mk Try.func31 (by kernel_rfl) (by kernel_rfl)
theorem cf45 : Cf Try.prog 45 := Cf.mk Try.func45 (by kernel_rfl) (by kernel_rfl)
noncomputable def m_overseerlaw53_shows_j1 (st57 : Int × List Int) (l97 : List Int) : Option ((Int × List Int) ⊕ ((List Int) ⊕ Unit)) :=
  some (.inl (W (st57.1 + 1), l97))
noncomputable def m_overseerlaw53_shows_l2 (p0 : List Int × Int × List Int × (List (Int × Int × Int))) (p1 : List Int) (p3 : List Bool × List Bool) (p4 : Int) (p6 : Bool) (st57 : Int × List Int) : Option ((Int × List Int) ⊕ ((List Int) ⊕ Unit)) :=
  if decide (st57.1 < (p1.length : Int)) then
    (idx p1 st57.1).bind fun x101 =>
    (if p6 then
      (m_overseerlaw53_step p0 p4 x101).bind fun r116 =>
      some (decide (r116 ≥ 0))
    else
      some false).bind fun b103 =>
    (idx p3.1 st57.1).bind fun x106 =>
    if (x106 != b103) then
      some (.inr (.inr (())))
    else
      if b103 then
        (app st57.2 ([x101] : List Int)).bind fun x111 =>
        m_overseerlaw53_shows_j1 st57 x111
      else
        m_overseerlaw53_shows_j1 st57 st57.2
  else
    some (.inr (.inl st57.2))
noncomputable def m_overseerlaw53_shows_l1 (p0 : List Int × Int × List Int × (List (Int × Int × Int))) (p3 : List Bool × List Bool) (p4 : Int) (st25 : Int) : Option (Int ⊕ (Unit ⊕ Unit)) :=
  if decide (st25 < p0.2.1) then
    (idx p3.2 st25).bind fun x123 =>
    if (x123 != (st25 == p4)) then
      some (.inr (.inr (())))
    else
      some (.inl (W (st25 + 1)))
  else
    some (.inr (.inl ()))
/-- What overseerlaw53.shows computes. -/
noncomputable def m_overseerlaw53_shows (p0 : List Int × Int × List Int × (List (Int × Int × Int))) (p1 : List Int) (p2 : (Int × Int × Int × List Bool × (List (Int × Int))) × List Int × List Int × Int) (p3 : List Bool × List Bool) (p4 : Int) (p5 : Bool) (p6 : Bool) : Option Bool :=
  if (((p3.1.length : Int) != (W ((p1.length : Int) + 1))) || (decide ((p3.2.length : Int) < p0.2.1))) then
    some false
  else
    (iter (m_overseerlaw53_shows_l1 p0 p3 p4) 0).bind fun o25 =>
    match o25 with
    | .inl u27 =>
      (iter (m_overseerlaw53_shows_l2 p0 p1 p3 p4 p6) (0, ([] : List Int))).bind fun o57 =>
      match o57 with
      | .inl u61 =>
        (m_generate_State p2 p3).bind fun r63 =>
        (m_generate_Enabled p2 p3).bind fun r66 =>
        (m_generate_Alarmed p2 p3).bind fun r70 =>
        (if ((((r63.2 == 0) && (r66.2 == 0)) && (r70.2 == 0)) && (r63.1 == p4)) then
          (m_slices_Equal_int r66.1 u61).bind fun r87 =>
          some r87
        else
          some false).bind fun b76 =>
        (if (b76 && (r70.1 == p5)) then
          (idx p3.1 (p1.length : Int)).bind fun x83 =>
          some (x83 == p5)
        else
          some false).bind fun b80 =>
        some b80
      | .inr (u94) =>
        some false
    | .inr (u120) =>
      some false
set_option maxRecDepth 100000 in
set_option maxHeartbeats 8000000 in
theorem m_overseerlaw53_shows_c {s : Sig} {p0 : List Int × Int × List Int × (List (Int × Int × Int))} {p1 : List Int} {p2 : (Int × Int × Int × List Bool × (List (Int × Int))) × List Int × List Int × Int} {p3 : List Bool × List Bool} {p4 : Int} {p5 : Bool} {p6 : Bool} {a1 : Option Addr} {c1 : Nat} {a2 : Option Addr} {c2 : Nat} {a3 : Option Addr} {c3 : Nat} {a4 : Option Addr} {c4 : Nat} {a5 : Option Addr} {c5 : Nat} {a6 : Option Addr} {c6 : Nat} {a7 : Option Addr} {c7 : Nat} {a8 : Option Addr} {c8 : Nat} {a9 : Option Addr} {c9 : Nat} {a10 : Option Addr} {c10 : Nat} {r : Bool} (h1 : RdL (rK .i64) s a1 c1 p0.1) (h2 : RdL (rK .i64) s a2 c2 p0.2.2.1) (h3 : RdL (rP (rK .i64) (rP (rK .i64) (rK .i64))) s a3 c3 p0.2.2.2) (h4 : RdL (rK .i64) s a4 c4 p1) (h5 : RdL rB s a5 c5 p2.1.2.2.2.1) (h6 : RdL (rP (rK .i64) (rK .i64)) s a6 c6 p2.1.2.2.2.2) (h7 : RdL (rK .i64) s a7 c7 p2.2.1) (h8 : RdL (rK .i64) s a8 c8 p2.2.2.1) (h9 : RdL rB s a9 c9 p3.1) (h10 : RdL rB s a10 c10 p3.2) (hm : m_overseerlaw53_shows p0 p1 p2 p3 p4 p5 p6 = some r) :
    Calls Try.prog 15 #[.agg #[.slice a1 p0.1.length c1, .int .i64 p0.2.1, .slice a2 p0.2.2.1.length c2, .slice a3 p0.2.2.2.length c3], .slice a4 p1.length c4, .agg #[.int .i64 p2.1.1, .int .i64 p2.1.2.1, .int .i64 p2.1.2.2.1, .slice a5 p2.1.2.2.2.1.length c5, .slice a6 p2.1.2.2.2.2.length c6, .slice a7 p2.2.1.length c7, .slice a8 p2.2.2.1.length c8, .int .i64 p2.2.2.2], .agg #[.slice a9 p3.1.length c9, .slice a10 p3.2.length c10], .int .i64 p4, .bool p5, .bool p6] s.w (RetS No s fun v s' => v = .bool r) := by
  unfold m_overseerlaw53_shows at hm
  obtain ⟨N, hN, hNb⟩ := s.fresh
  have m0 : Mv (Up N No) s s := Mv.refl _ _
  refine E.entry (vs := [.agg #[.slice a1 p0.1.length c1, .int .i64 p0.2.1, .slice a2 p0.2.2.1.length c2, .slice a3 p0.2.2.2.length c3], .slice a4 p1.length c4, .agg #[.int .i64 p2.1.1, .int .i64 p2.1.2.1, .int .i64 p2.1.2.2.1, .slice a5 p2.1.2.2.2.1.length c5, .slice a6 p2.1.2.2.2.2.length c6, .slice a7 p2.2.1.length c7, .slice a8 p2.2.2.1.length c8, .int .i64 p2.2.2.2], .agg #[.slice a9 p3.1.length c9, .slice a10 p3.2.length c10], .int .i64 p4, .bool p5, .bool p6]) (e := [(0, .agg #[.slice a1 p0.1.length c1, .int .i64 p0.2.1, .slice a2 p0.2.2.1.length c2, .slice a3 p0.2.2.2.length c3]), (1, .slice a4 p1.length c4), (2, .agg #[.int .i64 p2.1.1, .int .i64 p2.1.2.1, .int .i64 p2.1.2.2.1, .slice a5 p2.1.2.2.2.1.length c5, .slice a6 p2.1.2.2.2.2.length c6, .slice a7 p2.2.1.length c7, .slice a8 p2.2.2.1.length c8, .int .i64 p2.2.2.2]), (3, .agg #[.slice a9 p3.1.length c9, .slice a10 p3.2.length c10]), (4, .int .i64 p4), (5, .bool p5), (6, .bool p6)]) Try.func15 rfl Try.ntmps15 rfl rfl ?_
  refine E.seq ?_
  refine E.reg ?_
  refine L.box (N + 0) Wt.no rfl rfl rfl ?_
  intro b11 s12 m13 bx11
  replace m0 := m0.trans m13.no
  replace h4 := h4.mono (m13.le no_No)
  replace h5 := h5.mono (m13.le no_No)
  replace h6 := h6.mono (m13.le no_No)
  replace h7 := h7.mono (m13.le no_No)
  replace h8 := h8.mono (m13.le no_No)
  replace h9 := h9.mono (m13.le no_No)
  replace h10 := h10.mono (m13.le no_No)
  replace h1 := h1.mono (m13.le no_No)
  replace h2 := h2.mono (m13.le no_No)
  replace h3 := h3.mono (m13.le no_No)
  refine L.box (N + 1) Wt.no rfl rfl rfl ?_
  intro b14 s15 m16 bx14
  replace m0 := m0.trans m16.no
  replace h4 := h4.mono (m16.le no_No)
  replace h9 := h9.mono (m16.le no_No)
  replace h10 := h10.mono (m16.le no_No)
  replace bx11 := bx11.mv m16 no_No
  replace h1 := h1.mono (m16.le no_No)
  replace h2 := h2.mono (m16.le no_No)
  replace h3 := h3.mono (m16.le no_No)
  replace h5 := h5.mono (m16.le no_No)
  replace h6 := h6.mono (m16.le no_No)
  replace h7 := h7.mono (m16.le no_No)
  replace h8 := h8.mono (m16.le no_No)
  refine L.box (N + 2) Wt.no rfl rfl rfl ?_
  intro b17 s18 m19 bx17
  replace m0 := m0.trans m19.no
  replace h4 := h4.mono (m19.le no_No)
  replace bx11 := bx11.mv m19 no_No
  replace h1 := h1.mono (m19.le no_No)
  replace h2 := h2.mono (m19.le no_No)
  replace h3 := h3.mono (m19.le no_No)
  replace bx14 := bx14.mv m19 no_No
  replace h5 := h5.mono (m19.le no_No)
  replace h6 := h6.mono (m19.le no_No)
  replace h7 := h7.mono (m19.le no_No)
  replace h8 := h8.mono (m19.le no_No)
  replace h9 := h9.mono (m19.le no_No)
  replace h10 := h10.mono (m19.le no_No)
  refine L.as Wt.no rfl rfl ?_
  refine L.nil ?_
  refine X.seqN ?_
  refine E.seq ?_
  refine E.seq ?_
  refine E.reg ?_
  refine L.fa fa39_0 Wt.no rfl rfl ?_
  refine L.ld (j := 0) bx17.mem nag29 Wt.no rfl rfl rfl rfl ?_
  refine L.len sl29 Wt.no rfl rfl ?_
  refine L.mv Wt.no rfl rfl ?_
  refine L.len sl23 Wt.no rfl rfl ?_
  refine L.bi Wt.no rfl rfl rfl rfl ?_
  refine L.bi Wt.no rfl rfl rfl rfl ?_
  refine L.mv Wt.no rfl rfl ?_
  refine L.cut 7 (fun e w => ∃ (v20 : Bool), (((p3.1.length : Int) != (W ((p1.length : Int) + 1))) || (decide ((p3.2.length : Int) < p0.2.1))) = v20 ∧ e = (40, .bool v20) :: [(10, .pointer (some ⟨b17, 0, none⟩)), (9, .pointer (some ⟨b14, 0, none⟩)), (7, .pointer (some ⟨b11, 0, none⟩)), (1, .slice a4 p1.length c4), (4, .int .i64 p4), (5, .bool p5), (6, .bool p6)] ∧ w = s18.w) ?_ ?_
  · rintro _ _ ⟨v20, rfl, rfl, rfl⟩
    refine L.nil ?_
    refine X.seqN ?_
    rcases ifS hm with ⟨hc, hm⟩ | ⟨hc, hm⟩
    · refine E.cT rfl hc ?_
      refine E.seq ?_
      refine E.reg ?_
      refine L.as Wt.no rfl rfl ?_
      refine L.nil ?_
      refine X.seqN ?_
      refine E.ret ?_
      refine X.seqR ?_
      obtain rfl := Option.some.inj hm
      exact X.rt (.inl rfl) Try.results15 (Rs.tmp rfl Rs.nil) rfl ⟨_, (s18).ren N (fun _ => 0), rfl, rfl, m0.ren hNb, rfl⟩
    · refine E.cF rfl hc ?_
      refine E.skip ?_
      refine X.seqN ?_
      refine E.seq ?_
      refine E.seq ?_
      refine E.reg ?_
      refine L.fa fa26_1 Wt.no rfl rfl ?_
      refine L.ld (j := 1) bx11.mem nag3 Wt.no rfl rfl rfl rfl ?_
      refine L.mv Wt.no rfl rfl ?_
      refine L.nil ?_
      refine X.seqN ?_
      refine E.block ?_
      obtain ⟨o25, eo25, hm⟩ := bindS hm
      refine E.cut (x := .exit 0) (fun e w => ∃ (s28 : Sig) (u27 : Unit), o25 = .inl u27 ∧ Mv (Up N No) s s28 ∧ RdL (rK .i64) s28 a4 c4 p1 ∧ RdL (rK .i64) s28 a1 c1 p0.1 ∧ RdL (rK .i64) s28 a2 c2 p0.2.2.1 ∧ RdL (rP (rK .i64) (rP (rK .i64) (rK .i64))) s28 a3 c3 p0.2.2.2 ∧ RdL rB s28 a5 c5 p2.1.2.2.2.1 ∧ RdL (rP (rK .i64) (rK .i64)) s28 a6 c6 p2.1.2.2.2.2 ∧ RdL (rK .i64) s28 a7 c7 p2.2.1 ∧ RdL (rK .i64) s28 a8 c8 p2.2.2.1 ∧ RdL rB s28 a9 c9 p3.1 ∧ RdL rB s28 a10 c10 p3.2 ∧ Bx s28 (N + 0) b11 #[.slice a1 p0.1.length c1, .int .i64 p0.2.1, .slice a2 p0.2.2.1.length c2, .slice a3 p0.2.2.2.length c3] 26 ∧ Bx s28 (N + 1) b14 #[.int .i64 p2.1.1, .int .i64 p2.1.2.1, .int .i64 p2.1.2.2.1, .slice a5 p2.1.2.2.2.1.length c5, .slice a6 p2.1.2.2.2.2.length c6, .slice a7 p2.2.1.length c7, .slice a8 p2.2.2.1.length c8, .int .i64 p2.2.2.2] 34 ∧ Bx s28 (N + 2) b17 #[.slice a9 p3.1.length c9, .slice a10 p3.2.length c10] 39 ∧ e = [(10, .pointer (some ⟨b17, 0, none⟩)), (9, .pointer (some ⟨b14, 0, none⟩)), (7, .pointer (some ⟨b11, 0, none⟩)), (1, .slice a4 p1.length c4), (4, .int .i64 p4), (5, .bool p5), (6, .bool p6)] ∧ w = s28.w) ?_ ?_
      · rintro _ _ ⟨s28, u27, rfl, m0, h4, h1, h2, h3, h5, h6, h7, h8, h9, h10, bx11, bx14, bx17, rfl, rfl⟩
        dsimp only at hm
        refine X.blkE ?_
        refine X.seqN ?_
        refine E.seq ?_
        refine E.reg ?_
        refine L.as Wt.no rfl rfl ?_
        refine L.nil ?_
        refine X.seqN ?_
        refine E.seq ?_
        refine E.seq ?_
        refine E.reg ?_
        refine L.mv Wt.no rfl rfl ?_
        refine L.len sl23 Wt.no rfl rfl ?_
        refine L.mv Wt.no rfl rfl ?_
        refine L.nil ?_
        refine X.seqN ?_
        refine E.block ?_
        obtain ⟨o57, eo57, hm⟩ := bindS hm
        refine E.cut (x := .exit 2) (fun e w => ∃ (s62 : Sig) (u61 : List Int) (a59 : Option Addr) (c59 : Nat), o57 = .inl u61 ∧ Mv (Up N No) s s62 ∧ RowT (rK .i64) s62 (N + 3) 3 a59 c59 u61 ∧ RdL (rK .i64) s62 a4 c4 p1 ∧ RdL rB s62 a5 c5 p2.1.2.2.2.1 ∧ RdL (rP (rK .i64) (rK .i64)) s62 a6 c6 p2.1.2.2.2.2 ∧ RdL (rK .i64) s62 a7 c7 p2.2.1 ∧ RdL (rK .i64) s62 a8 c8 p2.2.2.1 ∧ RdL rB s62 a9 c9 p3.1 ∧ RdL rB s62 a10 c10 p3.2 ∧ Bx s62 (N + 1) b14 #[.int .i64 p2.1.1, .int .i64 p2.1.2.1, .int .i64 p2.1.2.2.1, .slice a5 p2.1.2.2.2.1.length c5, .slice a6 p2.1.2.2.2.2.length c6, .slice a7 p2.2.1.length c7, .slice a8 p2.2.2.1.length c8, .int .i64 p2.2.2.2] 34 ∧ Bx s62 (N + 2) b17 #[.slice a9 p3.1.length c9, .slice a10 p3.2.length c10] 39 ∧ e = [(16, .slice a59 u61.length c59), (10, .pointer (some ⟨b17, 0, none⟩)), (9, .pointer (some ⟨b14, 0, none⟩)), (1, .slice a4 p1.length c4), (4, .int .i64 p4), (5, .bool p5)] ∧ w = s62.w) ?_ ?_
        · rintro _ _ ⟨s62, u61, a59, c59, rfl, m0, h59, h4, h5, h6, h7, h8, h9, h10, bx14, bx17, rfl, rfl⟩
          dsimp only at hm
          refine X.blkE ?_
          refine X.seqN ?_
          refine E.seq ?_
          refine E.reg ?_
          refine L.lg (j := 0) (cs := [.int .i64 p2.1.1, .int .i64 p2.1.2.1, .int .i64 p2.1.2.2.1, .slice a5 p2.1.2.2.2.1.length c5, .slice a6 p2.1.2.2.2.2.length c6, .slice a7 p2.2.1.length c7, .slice a8 p2.2.2.1.length c8, .int .i64 p2.2.2.2]) bx14.mem ag34 Wt.no rfl rfl rfl rfl rfl ?_
          refine L.lg (j := 0) (cs := [.slice a9 p3.1.length c9, .slice a10 p3.2.length c10]) bx17.mem ag39 Wt.no rfl rfl rfl rfl rfl ?_
          obtain ⟨r63, er63, hm⟩ := bindS hm
          refine L.ca (vs := [.agg #[.int .i64 p2.1.1, .int .i64 p2.1.2.1, .int .i64 p2.1.2.2.1, .slice a5 p2.1.2.2.2.1.length c5, .slice a6 p2.1.2.2.2.2.length c6, .slice a7 p2.2.1.length c7, .slice a8 p2.2.2.1.length c8, .int .i64 p2.2.2.2], .agg #[.slice a9 p3.1.length c9, .slice a10 p3.2.length c10]]) cf18 rfl rfl Wt.no rfl (m_generate_State_c (s := s62) (p0 := p2) (p1 := p3) h5 h6 h7 h8 h9 h10 er63) rfl ?_
          rintro _ s64 m65 rfl
          replace m0 := m0.trans m65.no
          replace h59 := h59.mv m65 no_No no_No
          replace h4 := h4.mono (m65.le no_No)
          replace bx14 := bx14.mv m65 no_No
          replace h5 := h5.mono (m65.le no_No)
          replace h6 := h6.mono (m65.le no_No)
          replace h7 := h7.mono (m65.le no_No)
          replace h8 := h8.mono (m65.le no_No)
          replace bx17 := bx17.mv m65 no_No
          replace h9 := h9.mono (m65.le no_No)
          replace h10 := h10.mono (m65.le no_No)
          refine L.mv Wt.no rfl rfl ?_
          refine L.ex Wt.no rfl rfl rfl ?_
          refine L.ex Wt.no rfl rfl rfl ?_
          refine L.as Wt.no rfl rfl ?_
          refine L.as Wt.no rfl rfl ?_
          refine L.nil ?_
          refine X.seqN ?_
          refine E.seq ?_
          refine E.reg ?_
          refine L.lg (j := 0) (cs := [.int .i64 p2.1.1, .int .i64 p2.1.2.1, .int .i64 p2.1.2.2.1, .slice a5 p2.1.2.2.2.1.length c5, .slice a6 p2.1.2.2.2.2.length c6, .slice a7 p2.2.1.length c7, .slice a8 p2.2.2.1.length c8, .int .i64 p2.2.2.2]) bx14.mem ag34 Wt.no rfl rfl rfl rfl rfl ?_
          refine L.lg (j := 0) (cs := [.slice a9 p3.1.length c9, .slice a10 p3.2.length c10]) bx17.mem ag39 Wt.no rfl rfl rfl rfl rfl ?_
          obtain ⟨r66, er66, hm⟩ := bindS hm
          refine L.ca (vs := [.agg #[.int .i64 p2.1.1, .int .i64 p2.1.2.1, .int .i64 p2.1.2.2.1, .slice a5 p2.1.2.2.2.1.length c5, .slice a6 p2.1.2.2.2.2.length c6, .slice a7 p2.2.1.length c7, .slice a8 p2.2.2.1.length c8, .int .i64 p2.2.2.2], .agg #[.slice a9 p3.1.length c9, .slice a10 p3.2.length c10]]) cf19 rfl rfl Wt.no rfl (m_generate_Enabled_c (s := s64) (p0 := p2) (p1 := p3) (u0 := 0) h5 h6 h7 h8 h9 h10 er66) rfl ?_
          rintro _ s67 m68 ⟨a69, c69, rfl, h69⟩
          replace h69 := h69.p
          replace m0 := m0.trans m68.no
          replace h4 := h4.mono (m68.le no_No)
          replace h59 := h59.mv m68 no_No no_No
          replace bx14 := bx14.mv m68 no_No
          replace h5 := h5.mono (m68.le no_No)
          replace h6 := h6.mono (m68.le no_No)
          replace h7 := h7.mono (m68.le no_No)
          replace h8 := h8.mono (m68.le no_No)
          replace bx17 := bx17.mv m68 no_No
          replace h9 := h9.mono (m68.le no_No)
          replace h10 := h10.mono (m68.le no_No)
          refine L.mv Wt.no rfl rfl ?_
          refine L.ex Wt.no rfl rfl rfl ?_
          refine L.ex Wt.no rfl rfl rfl ?_
          refine L.as Wt.no rfl rfl ?_
          refine L.as Wt.no rfl rfl ?_
          refine L.nil ?_
          refine X.seqN ?_
          refine E.seq ?_
          refine E.reg ?_
          refine L.lg (j := 0) (cs := [.int .i64 p2.1.1, .int .i64 p2.1.2.1, .int .i64 p2.1.2.2.1, .slice a5 p2.1.2.2.2.1.length c5, .slice a6 p2.1.2.2.2.2.length c6, .slice a7 p2.2.1.length c7, .slice a8 p2.2.2.1.length c8, .int .i64 p2.2.2.2]) bx14.mem ag34 Wt.no rfl rfl rfl rfl rfl ?_
          refine L.lg (j := 0) (cs := [.slice a9 p3.1.length c9, .slice a10 p3.2.length c10]) bx17.mem ag39 Wt.no rfl rfl rfl rfl rfl ?_
          obtain ⟨r70, er70, hm⟩ := bindS hm
          refine L.ca (vs := [.agg #[.int .i64 p2.1.1, .int .i64 p2.1.2.1, .int .i64 p2.1.2.2.1, .slice a5 p2.1.2.2.2.1.length c5, .slice a6 p2.1.2.2.2.2.length c6, .slice a7 p2.2.1.length c7, .slice a8 p2.2.2.1.length c8, .int .i64 p2.2.2.2], .agg #[.slice a9 p3.1.length c9, .slice a10 p3.2.length c10]]) cf31 rfl rfl Wt.no rfl (m_generate_Alarmed_c (s := s67) (p0 := p2) (p1 := p3) h5 h6 h7 h8 h9 h10 er70) rfl ?_
          rintro _ s71 m72 rfl
          replace m0 := m0.trans m72.no
          replace h4 := h4.mono (m72.le no_No)
          replace h59 := h59.mv m72 no_No no_No
          replace h69 := h69.mono (m72.le no_No)
          replace bx17 := bx17.mv m72 no_No
          replace h9 := h9.mono (m72.le no_No)
          replace h10 := h10.mono (m72.le no_No)
          refine L.mv Wt.no rfl rfl ?_
          refine L.ex Wt.no rfl rfl rfl ?_
          refine L.ex Wt.no rfl rfl rfl ?_
          refine L.as Wt.no rfl rfl ?_
          refine L.as Wt.no rfl rfl ?_
          refine L.nil ?_
          refine X.seqN ?_
          refine E.seq ?_
          refine E.reg ?_
          refine L.mv Wt.no rfl rfl ?_
          refine L.bi Wt.no rfl rfl rfl rfl ?_
          refine L.mv Wt.no rfl rfl ?_
          refine L.cut 3 (fun e w => ∃ (v73 : Bool), ((r63.2 == 0) && (r66.2 == 0)) = v73 ∧ e = (107, .bool v73) :: [(25, .int .i64 r70.2), (24, .bool r70.1), (22, .slice a69 r66.1.length c69), (20, .int .i64 r63.1), (16, .slice a59 u61.length c59), (10, .pointer (some ⟨b17, 0, none⟩)), (1, .slice a4 p1.length c4), (4, .int .i64 p4), (5, .bool p5)] ∧ w = s71.w) ?_ ?_
          · rintro _ _ ⟨v73, rfl, rfl, rfl⟩
            refine L.mv Wt.no rfl rfl ?_
            refine L.cut 3 (fun e w => ∃ (v74 : Bool), (((r63.2 == 0) && (r66.2 == 0)) && (r70.2 == 0)) = v74 ∧ e = (111, .bool v74) :: [(24, .bool r70.1), (22, .slice a69 r66.1.length c69), (20, .int .i64 r63.1), (16, .slice a59 u61.length c59), (10, .pointer (some ⟨b17, 0, none⟩)), (1, .slice a4 p1.length c4), (4, .int .i64 p4), (5, .bool p5)] ∧ w = s71.w) ?_ ?_
            · rintro _ _ ⟨v74, rfl, rfl, rfl⟩
              refine L.mv Wt.no rfl rfl ?_
              refine L.cut 4 (fun e w => ∃ (v75 : Bool), ((((r63.2 == 0) && (r66.2 == 0)) && (r70.2 == 0)) && (r63.1 == p4)) = v75 ∧ e = (116, .bool v75) :: [(24, .bool r70.1), (22, .slice a69 r66.1.length c69), (16, .slice a59 u61.length c59), (10, .pointer (some ⟨b17, 0, none⟩)), (1, .slice a4 p1.length c4), (5, .bool p5)] ∧ w = s71.w) ?_ ?_
              · rintro _ _ ⟨v75, rfl, rfl, rfl⟩
                refine L.mv Wt.no rfl rfl ?_
                obtain ⟨b76, eb76, hm⟩ := bindS hm
                refine L.cut 4 (fun e w => ∃ (s78 : Sig) (v77 : Bool), b76 = v77 ∧ Mv (Up N No) s s78 ∧ RdL (rK .i64) s78 a4 c4 p1 ∧ RdL rB s78 a9 c9 p3.1 ∧ RdL rB s78 a10 c10 p3.2 ∧ Bx s78 (N + 2) b17 #[.slice a9 p3.1.length c9, .slice a10 p3.2.length c10] 39 ∧ e = (121, .bool v77) :: [(24, .bool r70.1), (10, .pointer (some ⟨b17, 0, none⟩)), (1, .slice a4 p1.length c4), (5, .bool p5)] ∧ w = s78.w) ?_ ?_
                · rintro _ _ ⟨s78, v77, rfl, m0, h4, h9, h10, bx17, rfl, rfl⟩
                  refine L.mv Wt.no rfl rfl ?_
                  refine L.cut 4 (fun e w => ∃ (v79 : Bool), (b76 && (r70.1 == p5)) = v79 ∧ e = (126, .bool v79) :: [(10, .pointer (some ⟨b17, 0, none⟩)), (1, .slice a4 p1.length c4), (5, .bool p5)] ∧ w = s78.w) ?_ ?_
                  · rintro _ _ ⟨v79, rfl, rfl, rfl⟩
                    refine L.mv Wt.no rfl rfl ?_
                    obtain ⟨b80, eb80, hm⟩ := bindS hm
                    refine L.cut 9 (fun e w => ∃ (v81 : Bool), b80 = v81 ∧ e = (136, .bool v81) :: [] ∧ w = s78.w) ?_ ?_
                    · rintro _ _ ⟨v81, rfl, rfl, rfl⟩
                      refine L.as Wt.no rfl rfl ?_
                      refine L.nil ?_
                      refine X.seqN ?_
                      refine E.ret ?_
                      obtain rfl := Option.some.inj hm
                      exact X.rt (.inl rfl) Try.results15 (Rs.tmp rfl Rs.nil) rfl ⟨_, (s78).ren N (fun _ => 0), rfl, rfl, m0.ren hNb, rfl⟩
                    · intro J82
                      rcases ifS eb80 with ⟨hc, hm⟩ | ⟨hc, hm⟩
                      · refine L.know (d := 127) rfl hc ?_
                        refine L.fa fa39_0 (Wt.mk rfl rfl) rfl rfl ?_
                        refine L.ld (j := 0) bx17.mem nag29 (Wt.mk rfl rfl) rfl rfl rfl rfl ?_
                        refine L.mv (Wt.mk rfl rfl) rfl rfl ?_
                        refine L.len sl23 (Wt.mk rfl rfl) rfl rfl ?_
                        obtain ⟨x83, ex83, hm⟩ := bindS hm
                        refine L.ix (r := rB) sl29 h9 (Wt.mk rfl rfl) rfl rfl ex83 rfl ?_
                        rintro b84 o84 cc84 me84 rd84
                        obtain rfl := rd84
                        refine L.ld (j := 0) me84 nag4 (Wt.mk rfl rfl) rfl rfl rfl rfl ?_
                        refine L.mv (Wt.mk rfl rfl) rfl rfl ?_
                        refine L.beq Try.underlying4 (Wt.mk rfl rfl) rfl rfl rfl ?_
                        refine L.pkT Wt.no rfl rfl rfl rfl ?_
                        exact L.sub (Sub.cons rfl Sub.nil) (J82 _ _ ⟨(x83 == p5), (Option.some.inj hm).symm, rfl, rfl⟩)
                      · refine L.know (d := 127) rfl hc ?_
                        refine L.skip rfl rfl rfl rfl ?_
                        refine L.skip rfl rfl rfl rfl ?_
                        refine L.skip rfl rfl rfl rfl ?_
                        refine L.skip rfl rfl rfl rfl ?_
                        refine L.skip rfl rfl rfl rfl ?_
                        refine L.skip rfl rfl rfl rfl ?_
                        refine L.skip rfl rfl rfl rfl ?_
                        refine L.skip rfl rfl rfl rfl ?_
                        refine L.pkF Wt.no rfl rfl rfl rfl ?_
                        exact L.sub (Sub.cons rfl Sub.nil) (J82 _ _ ⟨false, (Option.some.inj hm).symm, rfl, rfl⟩)
                  · intro J85
                    rcases Bool.eq_false_or_eq_true b76 with hc | hc
                    · refine L.know (d := 122) rfl hc ?_
                      refine L.mv (Wt.mk rfl rfl) rfl rfl ?_
                      refine L.mv (Wt.mk rfl rfl) rfl rfl ?_
                      refine L.beq Try.underlying4 (Wt.mk rfl rfl) rfl rfl rfl ?_
                      refine L.pkT Wt.no rfl rfl rfl rfl ?_
                      exact L.sub (Sub.cons rfl (Sub.cons rfl (Sub.cons rfl (Sub.cons rfl Sub.nil)))) (J85 _ _ ⟨(r70.1 == p5), (andT hc).symm, rfl, rfl⟩)
                    · refine L.know (d := 122) rfl hc ?_
                      refine L.skip rfl rfl rfl rfl ?_
                      refine L.skip rfl rfl rfl rfl ?_
                      refine L.skip rfl rfl rfl rfl ?_
                      refine L.pkF Wt.no rfl rfl rfl rfl ?_
                      exact L.sub (Sub.cons rfl (Sub.cons rfl (Sub.cons rfl (Sub.cons rfl Sub.nil)))) (J85 _ _ ⟨false, (andF hc).symm, rfl, rfl⟩)
                · intro J86
                  rcases ifS eb76 with ⟨hc, hm⟩ | ⟨hc, hm⟩
                  · refine L.know (d := 117) rfl hc ?_
                    refine L.mv (Wt.mk rfl rfl) rfl rfl ?_
                    refine L.mv (Wt.mk rfl rfl) rfl rfl ?_
                    obtain ⟨r87, er87, hm⟩ := bindS hm
                    refine L.ca (vs := [.slice a69 r66.1.length c69, .slice a59 u61.length c59]) cf20 rfl rfl (Wt.mk rfl rfl) rfl (Calls.lendG (s0 := (Sig.drop N s71)) (s := s71) rfl (m_slices_Equal_int_c (s := (Sig.drop N s71)) (p0 := r66.1) (p1 := u61) (h69.mono (Sig.drop_le N _)) (h59.drop (Nat.le_add_right _ _)) er87) (fun v s' h => h)) rfl ?_
                    rintro _ s88 m89 rfl
                    replace m0 := m0.trans m89.no
                    replace h4 := h4.mono (m89.le no_No)
                    replace bx17 := bx17.mv m89 no_No
                    replace h9 := h9.mono (m89.le no_No)
                    replace h10 := h10.mono (m89.le no_No)
                    refine L.pkT Wt.no rfl rfl rfl rfl ?_
                    exact L.sub (Sub.cons rfl (Sub.cons rfl (Sub.cons rfl (Sub.cons rfl (Sub.cons rfl Sub.nil))))) (J86 _ _ ⟨s88, r87, (Option.some.inj hm).symm, m0, h4, h9, h10, bx17, rfl, rfl⟩)
                  · refine L.know (d := 117) rfl hc ?_
                    refine L.skip rfl rfl rfl rfl ?_
                    refine L.skip rfl rfl rfl rfl ?_
                    refine L.skip rfl rfl rfl rfl ?_
                    refine L.pkF Wt.no rfl rfl rfl rfl ?_
                    exact L.sub (Sub.cons rfl (Sub.cons rfl (Sub.cons rfl (Sub.cons rfl (Sub.cons rfl Sub.nil))))) (J86 _ _ ⟨s71, false, (Option.some.inj hm).symm, m0, h4, h9, h10, bx17, rfl, rfl⟩)
              · intro J90
                rcases Bool.eq_false_or_eq_true (((r63.2 == 0) && (r66.2 == 0)) && (r70.2 == 0)) with hc | hc
                · refine L.know (d := 112) rfl hc ?_
                  refine L.mv (Wt.mk rfl rfl) rfl rfl ?_
                  refine L.mv (Wt.mk rfl rfl) rfl rfl ?_
                  refine L.bi (Wt.mk rfl rfl) rfl rfl rfl rfl ?_
                  refine L.pkT Wt.no rfl rfl rfl rfl ?_
                  exact L.sub (Sub.cons rfl (Sub.cons rfl (Sub.cons rfl (Sub.cons rfl (Sub.cons rfl (Sub.cons rfl (Sub.cons rfl Sub.nil))))))) (J90 _ _ ⟨(r63.1 == p4), (andT hc).symm, rfl, rfl⟩)
                · refine L.know (d := 112) rfl hc ?_
                  refine L.skip rfl rfl rfl rfl ?_
                  refine L.skip rfl rfl rfl rfl ?_
                  refine L.skip rfl rfl rfl rfl ?_
                  refine L.pkF Wt.no rfl rfl rfl rfl ?_
                  exact L.sub (Sub.cons rfl (Sub.cons rfl (Sub.cons rfl (Sub.cons rfl (Sub.cons rfl (Sub.cons rfl (Sub.cons rfl Sub.nil))))))) (J90 _ _ ⟨false, (andF hc).symm, rfl, rfl⟩)
            · intro J91
              rcases Bool.eq_false_or_eq_true ((r63.2 == 0) && (r66.2 == 0)) with hc | hc
              · refine L.know (d := 108) rfl hc ?_
                refine L.mv (Wt.mk rfl rfl) rfl rfl ?_
                refine L.bi (Wt.mk rfl rfl) rfl rfl rfl rfl ?_
                refine L.pkT Wt.no rfl rfl rfl rfl ?_
                exact L.sub (Sub.cons rfl (Sub.cons rfl (Sub.cons rfl (Sub.cons rfl (Sub.cons rfl (Sub.cons rfl (Sub.cons rfl (Sub.cons rfl (Sub.cons rfl Sub.nil))))))))) (J91 _ _ ⟨(r70.2 == 0), (andT hc).symm, rfl, rfl⟩)
              · refine L.know (d := 108) rfl hc ?_
                refine L.skip rfl rfl rfl rfl ?_
                refine L.skip rfl rfl rfl rfl ?_
                refine L.pkF Wt.no rfl rfl rfl rfl ?_
                exact L.sub (Sub.cons rfl (Sub.cons rfl (Sub.cons rfl (Sub.cons rfl (Sub.cons rfl (Sub.cons rfl (Sub.cons rfl (Sub.cons rfl (Sub.cons rfl Sub.nil))))))))) (J91 _ _ ⟨false, (andF hc).symm, rfl, rfl⟩)
          · intro J92
            rcases Bool.eq_false_or_eq_true (r63.2 == 0) with hc | hc
            · refine L.know (d := 104) rfl hc ?_
              refine L.mv (Wt.mk rfl rfl) rfl rfl ?_
              refine L.bi (Wt.mk rfl rfl) rfl rfl rfl rfl ?_
              refine L.pkT Wt.no rfl rfl rfl rfl ?_
              exact L.sub (Sub.cons rfl (Sub.cons rfl (Sub.cons rfl (Sub.cons rfl (Sub.cons rfl (Sub.cons rfl (Sub.cons rfl (Sub.cons rfl (Sub.cons rfl (Sub.cons rfl Sub.nil)))))))))) (J92 _ _ ⟨(r66.2 == 0), (andT hc).symm, rfl, rfl⟩)
            · refine L.know (d := 104) rfl hc ?_
              refine L.skip rfl rfl rfl rfl ?_
              refine L.skip rfl rfl rfl rfl ?_
              refine L.pkF Wt.no rfl rfl rfl rfl ?_
              exact L.sub (Sub.cons rfl (Sub.cons rfl (Sub.cons rfl (Sub.cons rfl (Sub.cons rfl (Sub.cons rfl (Sub.cons rfl (Sub.cons rfl (Sub.cons rfl (Sub.cons rfl Sub.nil)))))))))) (J92 _ _ ⟨false, (andF hc).symm, rfl, rfl⟩)
        intro K93
        refine E.cut (x := .ret) (fun e w => ∃ (s95 : Sig) (u94 : Unit), o57 = .inr (u94) ∧ Mv (Up N No) s s95 ∧ e = [(14, .bool false)] ∧ w = s95.w) ?_ ?_
        · rintro _ _ ⟨s95, u94, rfl, m0, rfl, rfl⟩
          dsimp only at hm
          refine X.blkR ?_
          refine X.seqR ?_
          obtain rfl := Option.some.inj hm
          exact X.rt (.inl rfl) Try.results15 (Rs.tmp rfl Rs.nil) rfl ⟨_, (s95).ren N (fun _ => 0), rfl, rfl, m0.ren hNb, rfl⟩
        intro K96
        refine E.iter (fun (st57 : Int × List Int) (e : List (Nat × Value)) (w : World) => ∃ (s60 : Sig) (a31 : Option Addr) (c31 : Nat), Mv (Up N No) s s60 ∧ RdL (rK .i64) s60 a4 c4 p1 ∧ RowT (rK .i64) s60 (N + 3) 3 a31 c31 st57.2 ∧ RdL (rK .i64) s60 a1 c1 p0.1 ∧ RdL (rK .i64) s60 a2 c2 p0.2.2.1 ∧ RdL (rP (rK .i64) (rP (rK .i64) (rK .i64))) s60 a3 c3 p0.2.2.2 ∧ RdL rB s60 a5 c5 p2.1.2.2.2.1 ∧ RdL (rP (rK .i64) (rK .i64)) s60 a6 c6 p2.1.2.2.2.2 ∧ RdL (rK .i64) s60 a7 c7 p2.2.1 ∧ RdL (rK .i64) s60 a8 c8 p2.2.2.1 ∧ RdL rB s60 a9 c9 p3.1 ∧ RdL rB s60 a10 c10 p3.2 ∧ Bx s60 (N + 0) b11 #[.slice a1 p0.1.length c1, .int .i64 p0.2.1, .slice a2 p0.2.2.1.length c2, .slice a3 p0.2.2.2.length c3] 26 ∧ Bx s60 (N + 1) b14 #[.int .i64 p2.1.1, .int .i64 p2.1.2.1, .int .i64 p2.1.2.2.1, .slice a5 p2.1.2.2.2.1.length c5, .slice a6 p2.1.2.2.2.2.length c6, .slice a7 p2.2.1.length c7, .slice a8 p2.2.2.1.length c8, .int .i64 p2.2.2.2] 34 ∧ Bx s60 (N + 2) b17 #[.slice a9 p3.1.length c9, .slice a10 p3.2.length c10] 39 ∧ e = [(58, .int .i64 st57.1), (57, .int .i64 (p1.length : Int)), (56, .slice a4 p1.length c4), (16, .slice a31 st57.2.length c31), (10, .pointer (some ⟨b17, 0, none⟩)), (9, .pointer (some ⟨b14, 0, none⟩)), (7, .pointer (some ⟨b11, 0, none⟩)), (1, .slice a4 p1.length c4), (4, .int .i64 p4), (5, .bool p5), (6, .bool p6)] ∧ w = s60.w) eo57 ⟨s28, none, 0, m0, h4, RowT.nil, h1, h2, h3, h5, h6, h7, h8, h9, h10, bx11, bx14, bx17, rfl, rfl⟩ (Sub.cons rfl (Sub.cons rfl (Sub.cons rfl (Sub.cons rfl (Sub.cons rfl (Sub.cons rfl (Sub.cons rfl (Sub.cons rfl (Sub.cons rfl (Sub.cons rfl (Sub.cons rfl Sub.nil))))))))))) ?_
        rintro st57 res57 hm ih57 ho57 _ _ ⟨s60, a31, c31, m0, h4, h31, h1, h2, h3, h5, h6, h7, h8, h9, h10, bx11, bx14, bx17, rfl, rfl⟩
        unfold m_overseerlaw53_shows_l2 at hm
        refine E.seq ?_
        refine E.reg ?_
        refine L.bi Wt.no rfl rfl rfl rfl ?_
        refine L.nil ?_
        refine X.seqN ?_
        refine E.seq ?_
        rcases ifS hm with ⟨hc, hm⟩ | ⟨hc, hm⟩
        · refine E.cT rfl hc ?_
          refine E.skip ?_
          refine X.seqN ?_
          refine E.seqJ (fun e w => ∃ (s99 : Sig) (l97 : List Int) (a98 : Option Addr) (c98 : Nat), m_overseerlaw53_shows_j1 st57 l97 = some res57 ∧ Mv (Up N No) s s99 ∧ RowT (rK .i64) s99 (N + 3) 3 a98 c98 l97 ∧ RdL (rK .i64) s99 a4 c4 p1 ∧ RdL (rK .i64) s99 a1 c1 p0.1 ∧ RdL (rK .i64) s99 a2 c2 p0.2.2.1 ∧ RdL (rP (rK .i64) (rP (rK .i64) (rK .i64))) s99 a3 c3 p0.2.2.2 ∧ RdL rB s99 a5 c5 p2.1.2.2.2.1 ∧ RdL (rP (rK .i64) (rK .i64)) s99 a6 c6 p2.1.2.2.2.2 ∧ RdL (rK .i64) s99 a7 c7 p2.2.1 ∧ RdL (rK .i64) s99 a8 c8 p2.2.2.1 ∧ RdL rB s99 a9 c9 p3.1 ∧ RdL rB s99 a10 c10 p3.2 ∧ Bx s99 (N + 0) b11 #[.slice a1 p0.1.length c1, .int .i64 p0.2.1, .slice a2 p0.2.2.1.length c2, .slice a3 p0.2.2.2.length c3] 26 ∧ Bx s99 (N + 1) b14 #[.int .i64 p2.1.1, .int .i64 p2.1.2.1, .int .i64 p2.1.2.2.1, .slice a5 p2.1.2.2.2.1.length c5, .slice a6 p2.1.2.2.2.2.length c6, .slice a7 p2.2.1.length c7, .slice a8 p2.2.2.1.length c8, .int .i64 p2.2.2.2] 34 ∧ Bx s99 (N + 2) b17 #[.slice a9 p3.1.length c9, .slice a10 p3.2.length c10] 39 ∧ e = [(16, .slice a98 l97.length c98), (58, .int .i64 st57.1), (57, .int .i64 (p1.length : Int)), (56, .slice a4 p1.length c4), (10, .pointer (some ⟨b17, 0, none⟩)), (9, .pointer (some ⟨b14, 0, none⟩)), (7, .pointer (some ⟨b11, 0, none⟩)), (1, .slice a4 p1.length c4), (4, .int .i64 p4), (5, .bool p5), (6, .bool p6)] ∧ w = s99.w) ?_ ?_
          · rintro _ _ ⟨s99, l97, a98, c98, hm, m0, h98, h4, h1, h2, h3, h5, h6, h7, h8, h9, h10, bx11, bx14, bx17, rfl, rfl⟩
            unfold m_overseerlaw53_shows_j1 at hm
            refine E.reg ?_
            refine L.bi Wt.no rfl rfl rfl rfl ?_
            refine L.mv Wt.no rfl rfl ?_
            refine L.nil ?_
            exact X.sub (ih57 _ (Option.some.inj hm).symm _ _ ⟨s99, a98, c98, m0, h4, h98, h1, h2, h3, h5, h6, h7, h8, h9, h10, bx11, bx14, bx17, rfl, rfl⟩) (Sub.cons rfl (Sub.cons rfl (Sub.cons rfl (Sub.cons rfl (Sub.cons rfl (Sub.cons rfl (Sub.cons rfl (Sub.cons rfl (Sub.cons rfl (Sub.cons rfl (Sub.cons rfl Sub.nil)))))))))))
          · intro Jj100
            refine E.block ?_
            refine E.seq ?_
            refine E.reg ?_
            refine L.mv Wt.no rfl rfl ?_
            obtain ⟨x101, ex101, hm⟩ := bindS hm
            refine L.ix (r := (rK .i64)) sl23 h4 Wt.no rfl rfl ex101 rfl ?_
            rintro b102 o102 cc102 me102 rd102
            obtain rfl := rd102
            refine L.ld (j := 0) me102 nag3 Wt.no rfl rfl rfl rfl ?_
            refine L.as Wt.no rfl rfl ?_
            refine L.as Wt.no rfl rfl ?_
            refine L.nil ?_
            refine X.seqN ?_
            refine E.seq ?_
            refine E.reg ?_
            refine L.mv Wt.no rfl rfl ?_
            refine L.mv Wt.no rfl rfl ?_
            obtain ⟨b103, eb103, hm⟩ := bindS hm
            refine L.cut 6 (fun e w => ∃ (s105 : Sig) (v104 : Bool), b103 = v104 ∧ Mv (Up N No) s s105 ∧ RdL (rK .i64) s105 a4 c4 p1 ∧ RowT (rK .i64) s105 (N + 3) 3 a31 c31 st57.2 ∧ RdL (rK .i64) s105 a1 c1 p0.1 ∧ RdL (rK .i64) s105 a2 c2 p0.2.2.1 ∧ RdL (rP (rK .i64) (rP (rK .i64) (rK .i64))) s105 a3 c3 p0.2.2.2 ∧ RdL rB s105 a5 c5 p2.1.2.2.2.1 ∧ RdL (rP (rK .i64) (rK .i64)) s105 a6 c6 p2.1.2.2.2.2 ∧ RdL (rK .i64) s105 a7 c7 p2.2.1 ∧ RdL (rK .i64) s105 a8 c8 p2.2.2.1 ∧ RdL rB s105 a9 c9 p3.1 ∧ RdL rB s105 a10 c10 p3.2 ∧ Bx s105 (N + 0) b11 #[.slice a1 p0.1.length c1, .int .i64 p0.2.1, .slice a2 p0.2.2.1.length c2, .slice a3 p0.2.2.2.length c3] 26 ∧ Bx s105 (N + 1) b14 #[.int .i64 p2.1.1, .int .i64 p2.1.2.1, .int .i64 p2.1.2.2.1, .slice a5 p2.1.2.2.2.1.length c5, .slice a6 p2.1.2.2.2.2.length c6, .slice a7 p2.2.1.length c7, .slice a8 p2.2.2.1.length c8, .int .i64 p2.2.2.2] 34 ∧ Bx s105 (N + 2) b17 #[.slice a9 p3.1.length c9, .slice a10 p3.2.length c10] 39 ∧ e = (70, .bool v104) :: [(18, .int .i64 x101), (17, .int .i64 st57.1), (58, .int .i64 st57.1), (57, .int .i64 (p1.length : Int)), (56, .slice a4 p1.length c4), (16, .slice a31 st57.2.length c31), (10, .pointer (some ⟨b17, 0, none⟩)), (9, .pointer (some ⟨b14, 0, none⟩)), (7, .pointer (some ⟨b11, 0, none⟩)), (1, .slice a4 p1.length c4), (4, .int .i64 p4), (5, .bool p5), (6, .bool p6)] ∧ w = s105.w) ?_ ?_
            · rintro _ _ ⟨s105, v104, rfl, m0, h4, h31, h1, h2, h3, h5, h6, h7, h8, h9, h10, bx11, bx14, bx17, rfl, rfl⟩
              refine L.as Wt.no rfl rfl ?_
              refine L.nil ?_
              refine X.seqN ?_
              refine E.seq ?_
              refine E.seq ?_
              refine E.reg ?_
              refine L.fa fa39_0 Wt.no rfl rfl ?_
              refine L.ld (j := 0) bx17.mem nag29 Wt.no rfl rfl rfl rfl ?_
              refine L.mv Wt.no rfl rfl ?_
              obtain ⟨x106, ex106, hm⟩ := bindS hm
              refine L.ix (r := rB) sl29 h9 Wt.no rfl rfl ex106 rfl ?_
              rintro b107 o107 cc107 me107 rd107
              obtain rfl := rd107
              refine L.ld (j := 0) me107 nag4 Wt.no rfl rfl rfl rfl ?_
              refine L.mv Wt.no rfl rfl ?_
              refine L.bne Try.underlying4 Wt.no rfl rfl rfl ?_
              refine L.nil ?_
              refine X.seqN ?_
              rcases ifS hm with ⟨hc, hm⟩ | ⟨hc, hm⟩
              · refine E.cT rfl hc ?_
                refine E.seq ?_
                refine E.reg ?_
                refine L.as Wt.no rfl rfl ?_
                refine L.nil ?_
                refine X.seqN ?_
                refine E.ret ?_
                refine X.seqR ?_
                refine X.blkR ?_
                refine X.seqR ?_
                refine X.seqR ?_
                have hx := ho57 _ (Option.some.inj hm).symm
                exact X.sub (K96 _ _ ⟨s105, (), hx.symm, m0, rfl, rfl⟩) (Sub.cons rfl Sub.nil)
              · refine E.cF rfl hc ?_
                refine E.skip ?_
                refine X.seqN ?_
                refine E.seq ?_
                refine E.reg ?_
                refine L.mv Wt.no rfl rfl ?_
                refine L.nil ?_
                refine X.seqN ?_
                rcases ifS hm with ⟨hc, hm⟩ | ⟨hc, hm⟩
                · refine E.cT rfl hc ?_
                  refine E.reg ?_
                  refine L.mv Wt.no rfl rfl ?_
                  refine L.mv Wt.no rfl rfl ?_
                  refine L.bsE (k := 1) (cs := [.int .i64 x101]) 0 bs23 (Nat.le_of_ble_eq_true rfl) Wt.no rfl rfl rfl rfl ?_
                  intro b108 s109 m110 bx108
                  replace m0 := m0.trans m110.no
                  replace h4 := h4.mono (m110.le no_No)
                  replace h31 := h31.mv m110 no_No no_No
                  replace bx11 := bx11.mv m110 no_No
                  replace h1 := h1.mono (m110.le no_No)
                  replace h2 := h2.mono (m110.le no_No)
                  replace h3 := h3.mono (m110.le no_No)
                  replace bx14 := bx14.mv m110 no_No
                  replace h5 := h5.mono (m110.le no_No)
                  replace h6 := h6.mono (m110.le no_No)
                  replace h7 := h7.mono (m110.le no_No)
                  replace h8 := h8.mono (m110.le no_No)
                  replace bx17 := bx17.mv m110 no_No
                  replace h9 := h9.mono (m110.le no_No)
                  replace h10 := h10.mono (m110.le no_No)
                  have h108 := Bx.rdL (r := (rK .i64)) (xs := ([x101] : List Int)) bx108 ⟨[.int .i64 x101], _, rfl, rfl, rfl⟩ (Nat.le_of_ble_eq_true rfl)
                  obtain ⟨x111, ex111, hm⟩ := bindS hm
                  refine L.ap (r := (rK .i64)) Try.underlying23 el3 rfl (tgp hN) h31 h108.wk Wt.no rfl rfl ex111 rfl ?_
                  intro a112 c112 s113 m114 h112
                  replace m0 := m0.trans (m114.one up)
                  replace h4 := h4.mono (m114.le (tg0 hN))
                  replace bx11 := bx11.mv m114 (tgN (by decide))
                  replace h1 := h1.mono (m114.le (tg0 hN))
                  replace h2 := h2.mono (m114.le (tg0 hN))
                  replace h3 := h3.mono (m114.le (tg0 hN))
                  replace bx14 := bx14.mv m114 (tgN (by decide))
                  replace h5 := h5.mono (m114.le (tg0 hN))
                  replace h6 := h6.mono (m114.le (tg0 hN))
                  replace h7 := h7.mono (m114.le (tg0 hN))
                  replace h8 := h8.mono (m114.le (tg0 hN))
                  replace bx17 := bx17.mv m114 (tgN (by decide))
                  replace h9 := h9.mono (m114.le (tg0 hN))
                  replace h10 := h10.mono (m114.le (tg0 hN))
                  refine L.as Wt.no rfl rfl ?_
                  refine L.nil ?_
                  refine X.blkN ?_
                  exact X.sub (Jj100 _ _ ⟨s113, x111, a112, c112, hm, m0, h112, h4, h1, h2, h3, h5, h6, h7, h8, h9, h10, bx11, bx14, bx17, rfl, rfl⟩) (Sub.cons rfl (Sub.cons rfl (Sub.cons rfl (Sub.cons rfl (Sub.cons rfl (Sub.cons rfl (Sub.cons rfl (Sub.cons rfl (Sub.cons rfl (Sub.cons rfl (Sub.cons rfl Sub.nil)))))))))))
                · refine E.cF rfl hc ?_
                  refine E.skip ?_
                  refine X.blkN ?_
                  exact X.sub (Jj100 _ _ ⟨s105, st57.2, a31, c31, hm, m0, h31, h4, h1, h2, h3, h5, h6, h7, h8, h9, h10, bx11, bx14, bx17, rfl, rfl⟩) (Sub.cons rfl (Sub.cons rfl (Sub.cons rfl (Sub.cons rfl (Sub.cons rfl (Sub.cons rfl (Sub.cons rfl (Sub.cons rfl (Sub.cons rfl (Sub.cons rfl (Sub.cons rfl Sub.nil)))))))))))
            · intro J115
              rcases ifS eb103 with ⟨hc, hm⟩ | ⟨hc, hm⟩
              · refine L.know (d := 64) rfl hc ?_
                refine L.lg (j := 0) (cs := [.slice a1 p0.1.length c1, .int .i64 p0.2.1, .slice a2 p0.2.2.1.length c2, .slice a3 p0.2.2.2.length c3]) bx11.mem ag26 (Wt.mk rfl rfl) rfl rfl rfl rfl rfl ?_
                refine L.mv (Wt.mk rfl rfl) rfl rfl ?_
                refine L.mv (Wt.mk rfl rfl) rfl rfl ?_
                obtain ⟨r116, er116, hm⟩ := bindS hm
                refine L.ca (vs := [.agg #[.slice a1 p0.1.length c1, .int .i64 p0.2.1, .slice a2 p0.2.2.1.length c2, .slice a3 p0.2.2.2.length c3], .int .i64 p4, .int .i64 x101]) cf45 rfl rfl (Wt.mk rfl rfl) rfl (m_overseerlaw53_step_c (s := s60) (p0 := p0) (p1 := p4) (p2 := x101) h1 h2 h3 er116) rfl ?_
                rintro _ s117 m118 rfl
                replace m0 := m0.trans m118.no
                replace h4 := h4.mono (m118.le no_No)
                replace h31 := h31.mv m118 no_No no_No
                replace bx11 := bx11.mv m118 no_No
                replace h1 := h1.mono (m118.le no_No)
                replace h2 := h2.mono (m118.le no_No)
                replace h3 := h3.mono (m118.le no_No)
                replace bx14 := bx14.mv m118 no_No
                replace h5 := h5.mono (m118.le no_No)
                replace h6 := h6.mono (m118.le no_No)
                replace h7 := h7.mono (m118.le no_No)
                replace h8 := h8.mono (m118.le no_No)
                replace bx17 := bx17.mv m118 no_No
                replace h9 := h9.mono (m118.le no_No)
                replace h10 := h10.mono (m118.le no_No)
                refine L.bi (Wt.mk rfl rfl) rfl rfl rfl rfl ?_
                refine L.pkT Wt.no rfl rfl rfl rfl ?_
                exact L.sub (Sub.cons rfl (Sub.cons rfl (Sub.cons rfl (Sub.cons rfl (Sub.cons rfl (Sub.cons rfl (Sub.cons rfl (Sub.cons rfl (Sub.cons rfl (Sub.cons rfl (Sub.cons rfl (Sub.cons rfl (Sub.cons rfl (Sub.cons rfl Sub.nil)))))))))))))) (J115 _ _ ⟨s117, (decide (r116 ≥ 0)), (Option.some.inj hm).symm, m0, h4, h31, h1, h2, h3, h5, h6, h7, h8, h9, h10, bx11, bx14, bx17, rfl, rfl⟩)
              · refine L.know (d := 64) rfl hc ?_
                refine L.skip rfl rfl rfl rfl ?_
                refine L.skip rfl rfl rfl rfl ?_
                refine L.skip rfl rfl rfl rfl ?_
                refine L.skip rfl rfl rfl rfl ?_
                refine L.skip rfl rfl rfl rfl ?_
                refine L.pkF Wt.no rfl rfl rfl rfl ?_
                exact L.sub (Sub.cons rfl (Sub.cons rfl (Sub.cons rfl (Sub.cons rfl (Sub.cons rfl (Sub.cons rfl (Sub.cons rfl (Sub.cons rfl (Sub.cons rfl (Sub.cons rfl (Sub.cons rfl (Sub.cons rfl (Sub.cons rfl (Sub.cons rfl Sub.nil)))))))))))))) (J115 _ _ ⟨s60, false, (Option.some.inj hm).symm, m0, h4, h31, h1, h2, h3, h5, h6, h7, h8, h9, h10, bx11, bx14, bx17, rfl, rfl⟩)
        · refine E.cF rfl hc ?_
          refine E.exit ?_
          refine X.seqX ?_
          refine X.seqX ?_
          have hx := ho57 _ (Option.some.inj hm).symm
          exact X.sub (K93 _ _ ⟨s60, st57.2, a31, c31, hx.symm, m0, h31, h4, h5, h6, h7, h8, h9, h10, bx14, bx17, rfl, rfl⟩) (Sub.cons rfl (Sub.cons rfl (Sub.cons rfl (Sub.cons rfl (Sub.cons rfl (Sub.cons rfl Sub.nil))))))
      intro K119
      refine E.cut (x := .ret) (fun e w => ∃ (s121 : Sig) (u120 : Unit), o25 = .inr (u120) ∧ Mv (Up N No) s s121 ∧ e = [(14, .bool false)] ∧ w = s121.w) ?_ ?_
      · rintro _ _ ⟨s121, u120, rfl, m0, rfl, rfl⟩
        dsimp only at hm
        refine X.blkR ?_
        refine X.seqR ?_
        obtain rfl := Option.some.inj hm
        exact X.rt (.inl rfl) Try.results15 (Rs.tmp rfl Rs.nil) rfl ⟨_, (s121).ren N (fun _ => 0), rfl, rfl, m0.ren hNb, rfl⟩
      intro K122
      refine E.iter (fun (st25 : Int) (e : List (Nat × Value)) (w : World) => ∃ (s26 : Sig), Mv (Up N No) s s26 ∧ RdL (rK .i64) s26 a4 c4 p1 ∧ RdL (rK .i64) s26 a1 c1 p0.1 ∧ RdL (rK .i64) s26 a2 c2 p0.2.2.1 ∧ RdL (rP (rK .i64) (rP (rK .i64) (rK .i64))) s26 a3 c3 p0.2.2.2 ∧ RdL rB s26 a5 c5 p2.1.2.2.2.1 ∧ RdL (rP (rK .i64) (rK .i64)) s26 a6 c6 p2.1.2.2.2.2 ∧ RdL (rK .i64) s26 a7 c7 p2.2.1 ∧ RdL (rK .i64) s26 a8 c8 p2.2.2.1 ∧ RdL rB s26 a9 c9 p3.1 ∧ RdL rB s26 a10 c10 p3.2 ∧ Bx s26 (N + 0) b11 #[.slice a1 p0.1.length c1, .int .i64 p0.2.1, .slice a2 p0.2.2.1.length c2, .slice a3 p0.2.2.2.length c3] 26 ∧ Bx s26 (N + 1) b14 #[.int .i64 p2.1.1, .int .i64 p2.1.2.1, .int .i64 p2.1.2.2.1, .slice a5 p2.1.2.2.2.1.length c5, .slice a6 p2.1.2.2.2.2.length c6, .slice a7 p2.2.1.length c7, .slice a8 p2.2.2.1.length c8, .int .i64 p2.2.2.2] 34 ∧ Bx s26 (N + 2) b17 #[.slice a9 p3.1.length c9, .slice a10 p3.2.length c10] 39 ∧ e = [(43, .int .i64 st25), (42, .int .i64 p0.2.1), (10, .pointer (some ⟨b17, 0, none⟩)), (9, .pointer (some ⟨b14, 0, none⟩)), (7, .pointer (some ⟨b11, 0, none⟩)), (1, .slice a4 p1.length c4), (4, .int .i64 p4), (5, .bool p5), (6, .bool p6)] ∧ w = s26.w) eo25 ⟨s18, m0, h4, h1, h2, h3, h5, h6, h7, h8, h9, h10, bx11, bx14, bx17, rfl, rfl⟩ (Sub.cons rfl (Sub.cons rfl (Sub.cons rfl (Sub.cons rfl (Sub.cons rfl (Sub.cons rfl (Sub.cons rfl (Sub.cons rfl (Sub.cons rfl Sub.nil))))))))) ?_
      rintro st25 res25 hm ih25 ho25 _ _ ⟨s26, m0, h4, h1, h2, h3, h5, h6, h7, h8, h9, h10, bx11, bx14, bx17, rfl, rfl⟩
      unfold m_overseerlaw53_shows_l1 at hm
      refine E.seq ?_
      refine E.reg ?_
      refine L.bi Wt.no rfl rfl rfl rfl ?_
      refine L.nil ?_
      refine X.seqN ?_
      refine E.seq ?_
      rcases ifS hm with ⟨hc, hm⟩ | ⟨hc, hm⟩
      · refine E.cT rfl hc ?_
        refine E.skip ?_
        refine X.seqN ?_
        refine E.seq ?_
        refine E.block ?_
        refine E.seq ?_
        refine E.reg ?_
        refine L.mv Wt.no rfl rfl ?_
        refine L.as Wt.no rfl rfl ?_
        refine L.nil ?_
        refine X.seqN ?_
        refine E.seq ?_
        refine E.reg ?_
        refine L.fa fa39_1 Wt.no rfl rfl ?_
        refine L.ld (j := 1) bx17.mem nag29 Wt.no rfl rfl rfl rfl ?_
        refine L.mv Wt.no rfl rfl ?_
        obtain ⟨x123, ex123, hm⟩ := bindS hm
        refine L.ix (r := rB) sl29 h10 Wt.no rfl rfl ex123 rfl ?_
        rintro b124 o124 cc124 me124 rd124
        obtain rfl := rd124
        refine L.ld (j := 0) me124 nag4 Wt.no rfl rfl rfl rfl ?_
        refine L.mv Wt.no rfl rfl ?_
        refine L.mv Wt.no rfl rfl ?_
        refine L.bi Wt.no rfl rfl rfl rfl ?_
        refine L.bne Try.underlying4 Wt.no rfl rfl rfl ?_
        refine L.nil ?_
        refine X.seqN ?_
        rcases ifS hm with ⟨hc, hm⟩ | ⟨hc, hm⟩
        · refine E.cT rfl hc ?_
          refine E.seq ?_
          refine E.reg ?_
          refine L.as Wt.no rfl rfl ?_
          refine L.nil ?_
          refine X.seqN ?_
          refine E.ret ?_
          refine X.blkR ?_
          refine X.seqR ?_
          refine X.seqR ?_
          have hx := ho25 _ (Option.some.inj hm).symm
          exact X.sub (K122 _ _ ⟨s26, (), hx.symm, m0, rfl, rfl⟩) (Sub.cons rfl Sub.nil)
        · refine E.cF rfl hc ?_
          refine E.skip ?_
          refine X.blkN ?_
          refine X.seqN ?_
          refine E.reg ?_
          refine L.bi Wt.no rfl rfl rfl rfl ?_
          refine L.mv Wt.no rfl rfl ?_
          refine L.nil ?_
          exact X.sub (ih25 _ (Option.some.inj hm).symm _ _ ⟨s26, m0, h4, h1, h2, h3, h5, h6, h7, h8, h9, h10, bx11, bx14, bx17, rfl, rfl⟩) (Sub.cons rfl (Sub.cons rfl (Sub.cons rfl (Sub.cons rfl (Sub.cons rfl (Sub.cons rfl (Sub.cons rfl (Sub.cons rfl (Sub.cons rfl Sub.nil)))))))))
      · refine E.cF rfl hc ?_
        refine E.exit ?_
        refine X.seqX ?_
        refine X.seqX ?_
        have hx := ho25 _ (Option.some.inj hm).symm
        exact X.sub (K119 _ _ ⟨s26, (), hx.symm, m0, h4, h1, h2, h3, h5, h6, h7, h8, h9, h10, bx11, bx14, bx17, rfl, rfl⟩) (Sub.cons rfl (Sub.cons rfl (Sub.cons rfl (Sub.cons rfl (Sub.cons rfl (Sub.cons rfl (Sub.cons rfl Sub.nil)))))))
  · intro J125
    rcases Bool.eq_false_or_eq_true ((p3.1.length : Int) != (W ((p1.length : Int) + 1))) with hc | hc
    · refine L.know (d := 33) rfl hc ?_
      refine L.skip rfl rfl rfl rfl ?_
      refine L.skip rfl rfl rfl rfl ?_
      refine L.skip rfl rfl rfl rfl ?_
      refine L.skip rfl rfl rfl rfl ?_
      refine L.skip rfl rfl rfl rfl ?_
      refine L.skip rfl rfl rfl rfl ?_
      refine L.pkT Wt.no rfl rfl rfl rfl ?_
      exact L.sub (Sub.cons rfl (Sub.cons rfl (Sub.cons rfl (Sub.cons rfl (Sub.cons rfl (Sub.cons rfl (Sub.cons rfl (Sub.cons rfl Sub.nil)))))))) (J125 _ _ ⟨true, (orT hc).symm, rfl, rfl⟩)
    · refine L.know (d := 33) rfl hc ?_
      refine L.fa fa39_1 (Wt.mk rfl rfl) rfl rfl ?_
      refine L.ld (j := 1) bx17.mem nag29 (Wt.mk rfl rfl) rfl rfl rfl rfl ?_
      refine L.len sl29 (Wt.mk rfl rfl) rfl rfl ?_
      refine L.fa fa26_1 (Wt.mk rfl rfl) rfl rfl ?_
      refine L.ld (j := 1) bx11.mem nag3 (Wt.mk rfl rfl) rfl rfl rfl rfl ?_
      refine L.bi (Wt.mk rfl rfl) rfl rfl rfl rfl ?_
      refine L.pkF Wt.no rfl rfl rfl rfl ?_
      exact L.sub (Sub.cons rfl (Sub.cons rfl (Sub.cons rfl (Sub.cons rfl (Sub.cons rfl (Sub.cons rfl (Sub.cons rfl (Sub.cons rfl Sub.nil)))))))) (J125 _ _ ⟨(decide ((p3.2.length : Int) < p0.2.1)), (orF hc).symm, rfl, rfl⟩)

theorem cf11 : Cf Try.prog 11 := Cf.mk Try.func11 (by kernel_rfl) (by kernel_rfl)
theorem cf15 : Cf Try.prog 15 := Cf.mk Try.func15 (by kernel_rfl) (by kernel_rfl)
noncomputable def m_overseerlaw53_GenerateLimits_j1 (st187 : Int × List Bool × List Bool) (r198 : (List Bool × List Bool) × Int) (b205 : Bool) : Option ((Int × List Bool × List Bool) ⊕ (Unit ⊕ Unit)) :=
  if b205 then
    some (.inr (.inr (())))
  else
    some (.inl (W (st187.1 + 1), r198.1))
noncomputable def m_overseerlaw53_GenerateLimits_l3 (p0 : Int) (o27 : List Int) (o91 : (List (Int × Int × Int))) (r101 : ((Int × Int × Int × List Bool × (List (Int × Int))) × List Int × List Int × Int) × Int) (st187 : Int × List Bool × List Bool) : Option ((Int × List Bool × List Bool) ⊕ (Unit ⊕ Unit)) :=
  if decide (st187.1 < 3) then
    (m_generate_Scan r101.1 st187.2 ([0] : List Int)).bind fun r198 =>
    if (r198.2 != 0) then
      m_overseerlaw53_GenerateLimits_j1 st187 r198 true
    else
      (nz (W (1 + (W (p0.tmod 70))))).bind fun _ =>
      (m_overseerlaw53_shows (o27, W (1 + (W (p0.tmod 70))), ([0] : List Int), o91) ([0] : List Int) r101.1 r198.1 ((W (st187.1 + 1)).tmod (W (1 + (W (p0.tmod 70))))) false true).bind fun r237 =>
      m_overseerlaw53_GenerateLimits_j1 st187 r198 (!r237)
  else
    some (.inr (.inl ()))
noncomputable def m_overseerlaw53_GenerateLimits_l4 (p1 : Int) (st91 : Int × (List (Int × Int × Int))) (st284 : Int × (List (Int × Int × Int))) : Option ((Int × (List (Int × Int × Int))) ⊕ (List (Int × Int × Int))) :=
  if decide (st284.1 < (W (p1.tmod 7))) then
    (app st284.2 ([(st91.1, W (st284.1 + 1), st91.1)] : List (Int × Int × Int))).bind fun x293 =>
    some (.inl (W (st284.1 + 1), x293))
  else
    some (.inr st284.2)
noncomputable def m_overseerlaw53_GenerateLimits_l2 (p0 : Int) (p1 : Int) (st91 : Int × (List (Int × Int × Int))) : Option ((Int × (List (Int × Int × Int))) ⊕ (List (Int × Int × Int))) :=
  if decide (st91.1 < (W (1 + (W (p0.tmod 70))))) then
    (nz (W (1 + (W (p0.tmod 70))))).bind fun _ =>
    (app st91.2 ([(st91.1, 0, ((W (st91.1 + 1)).tmod (W (1 + (W (p0.tmod 70))))))] : List (Int × Int × Int))).bind fun x260 =>
    (iter (m_overseerlaw53_GenerateLimits_l4 p1 st91) (0, x260)).bind fun o284 =>
    some (.inl (W (st91.1 + 1), o284))
  else
    some (.inr st91.2)
noncomputable def m_overseerlaw53_GenerateLimits_l1 (p1 : Int) (st27 : Int × List Int) : Option ((Int × List Int) ⊕ (List Int)) :=
  if decide (st27.1 < (W ((W (p1.tmod 7)) + 1))) then
    (app st27.2 ([st27.1] : List Int)).bind fun x303 =>
    some (.inl (W (st27.1 + 1), x303))
  else
    some (.inr st27.2)
/-- What overseerlaw53.GenerateLimits computes. -/
noncomputable def m_overseerlaw53_GenerateLimits (p0 : Int) (p1 : Int) : Option Bool :=
  (m_overseerlaw53_known).bind fun r1 =>
  if (!r1) then
    some false
  else
    (iter (m_overseerlaw53_GenerateLimits_l1 p1) (0, ([] : List Int))).bind fun o27 =>
    (iter (m_overseerlaw53_GenerateLimits_l2 p0 p1) (0, ([] : List (Int × Int × Int)))).bind fun o91 =>
    (m_generate_Generate (o27, W (1 + (W (p0.tmod 70))), ([0] : List Int), o91) ([0] : List Int)).bind fun r101 =>
    if ((decide ((W (1 + (W (p0.tmod 70)))) > 64)) || (decide ((o91.length : Int) > 256))) then
      some (((r101.2 == 3) && (r101.1.2.2.2 == 0)) && ((r101.1.1.2.2.2.2.length : Int) == 0))
    else
      (m_instruction_Start r101.1.1).bind fun r118 =>
      if ((r101.2 != 0) || (r118.2 != 0)) then
        some false
      else
        (iter (m_overseerlaw53_GenerateLimits_l3 p0 o27 o91 r101) (0, r118.1)).bind fun o187 =>
        match o187 with
        | .inl u189 =>
          some true
        | .inr (u192) =>
          some false
set_option maxRecDepth 100000 in
set_option maxHeartbeats 8000000 in
theorem m_overseerlaw53_GenerateLimits_c {s : Sig} {p0 : Int} {p1 : Int} {r : Bool} (hm : m_overseerlaw53_GenerateLimits p0 p1 = some r) :
    Calls Try.prog 3 #[.int .u8 p0, .int .u8 p1] s.w (RetS No s fun v s' => v = .bool r) := by
  unfold m_overseerlaw53_GenerateLimits at hm
  obtain ⟨N, hN, hNb⟩ := s.fresh
  have m0 : Mv (Up N No) s s := Mv.refl _ _
  refine E.entry (vs := [.int .u8 p0, .int .u8 p1]) (e := [(0, .int .u8 p0), (1, .int .u8 p1)]) Try.func3 rfl Try.ntmps3 rfl rfl ?_
  refine E.seq ?_
  refine E.reg ?_
  refine L.as Wt.no rfl rfl ?_
  refine L.nil ?_
  refine X.seqN ?_
  refine E.seq ?_
  refine E.seq ?_
  refine E.reg ?_
  obtain ⟨r1, er1, hm⟩ := bindS hm
  refine L.ca (vs := []) cf11 rfl rfl Wt.no rfl (m_overseerlaw53_known_c (s := s) er1) rfl ?_
  rintro _ s2 m3 rfl
  replace m0 := m0.trans m3.no
  refine L.not Wt.no rfl rfl ?_
  refine L.nil ?_
  refine X.seqN ?_
  rcases ifS hm with ⟨hc, hm⟩ | ⟨hc, hm⟩
  · refine E.cT rfl hc ?_
    refine E.seq ?_
    refine E.reg ?_
    refine L.as Wt.no rfl rfl ?_
    refine L.nil ?_
    refine X.seqN ?_
    refine E.ret ?_
    refine X.seqR ?_
    obtain rfl := Option.some.inj hm
    exact X.rt (.inl rfl) Try.results3 (Rs.tmp rfl Rs.nil) rfl ⟨_, (s2).ren N (fun _ => 0), rfl, rfl, m0.ren hNb, rfl⟩
  · refine E.cF rfl hc ?_
    refine E.skip ?_
    refine X.seqN ?_
    refine E.seq ?_
    refine E.reg ?_
    refine L.mv Wt.no rfl rfl ?_
    refine L.rem Wt.no rfl rfl (by decide) rfl ?_
    refine L.cv Try.underlying5 Try.underlying3 Wt.no rfl rfl ?_
    refine L.bi Wt.no rfl rfl rfl rfl ?_
    refine L.mv Wt.no rfl rfl ?_
    refine L.rem Wt.no rfl rfl (by decide) rfl ?_
    refine L.cv Try.underlying5 Try.underlying3 Wt.no rfl rfl ?_
    refine L.as Wt.no rfl rfl ?_
    refine L.as Wt.no rfl rfl ?_
    refine L.nil ?_
    refine X.seqN ?_
    refine E.seq ?_
    refine E.reg ?_
    refine L.mv Wt.no rfl rfl ?_
    refine L.bsE (k := 1) (cs := [.int .i64 0]) 0 bs23 (Nat.le_of_ble_eq_true rfl) Wt.no rfl rfl rfl rfl ?_
    intro b4 s5 m6 bx4
    replace m0 := m0.trans m6.no
    have h4 := Bx.rdL (r := (rK .i64)) (xs := ([0] : List Int)) bx4 ⟨[.int .i64 0], _, rfl, rfl, rfl⟩ (Nat.le_of_ble_eq_true rfl)
    refine L.bu (cs := [.slice none 0 0, .int .i64 (W (1 + (W (p0.tmod 70)))), .slice (some ⟨b4, 0, none⟩) ([0] : List Int).length (([0] : List Int).length), .slice none 0 0]) pl26 Wt.no rfl rfl rfl ?_
    refine L.al (N + 0) zz26 rfl Wt.no rfl ?_
    intro b7 s8 m9 bx7
    replace m0 := m0.trans m9.no
    replace h4 := h4.mono (m9.le no_No)
    refine L.st (c := [.slice none 0 0, .int .i64 (W (1 + (W (p0.tmod 70)))), .slice (some ⟨b4, 0, none⟩) ([0] : List Int).length (([0] : List Int).length), .slice none 0 0]) (cs' := #[.slice none 0 0, .int .i64 (W (1 + (W (p0.tmod 70)))), .slice (some ⟨b4, 0, none⟩) ([0] : List Int).length (([0] : List Int).length), .slice none 0 0]) bx7 ag26.sz Wt.no rfl rfl rfl rfl rfl (Nat.le_of_ble_eq_true rfl) rfl ?_
    intro s10 m11 bx7
    replace m0 := m0.trans (m11.one up)
    replace h4 := h4.mono (m11.le (tg0 hN))
    refine L.nil ?_
    refine X.seqN ?_
    refine E.seq ?_
    refine E.seq ?_
    refine E.reg ?_
    refine L.mv Wt.no rfl rfl ?_
    refine L.bi Wt.no rfl rfl rfl rfl ?_
    refine L.mv Wt.no rfl rfl ?_
    refine L.nil ?_
    refine X.seqN ?_
    refine E.block ?_
    obtain ⟨o27, eo27, hm⟩ := bindS hm
    refine E.cut (x := .exit 0) (fun e w => ∃ (s31 : Sig) (a29 : Option Addr) (c29 : Nat), Mv (Up N No) s s31 ∧ RowT (rK .i64) s31 (N + 1) 3 a29 c29 o27 ∧ RdL (rK .i64) s31 (some ⟨b4, 0, none⟩) (([0] : List Int).length) ([0] : List Int) ∧ Bx s31 (N + 0) b7 #[.slice a29 o27.length c29, .int .i64 (W (1 + (W (p0.tmod 70)))), .slice (some ⟨b4, 0, none⟩) ([0] : List Int).length (([0] : List Int).length), .slice none 0 0] 26 ∧ e = [(7, .pointer (some ⟨b7, 0, none⟩)), (6, .int .i64 (W (p1.tmod 7))), (5, .int .i64 (W (1 + (W (p0.tmod 70)))))] ∧ w = s31.w) ?_ ?_
    · rintro _ _ ⟨s31, a29, c29, m0, h29, h4, bx7, rfl, rfl⟩
      refine X.blkE ?_
      refine X.seqN ?_
      refine E.seq ?_
      refine E.seq ?_
      refine E.reg ?_
      refine L.mv Wt.no rfl rfl ?_
      refine L.mv Wt.no rfl rfl ?_
      refine L.nil ?_
      refine X.seqN ?_
      refine E.block ?_
      obtain ⟨o91, eo91, hm⟩ := bindS hm
      refine E.cut (x := .exit 2) (fun e w => ∃ (s95 : Sig) (a93 : Option Addr) (c93 : Nat), Mv (Up N No) s s95 ∧ RowT (rK .i64) s95 (N + 1) 3 a29 c29 o27 ∧ RdL (rK .i64) s95 (some ⟨b4, 0, none⟩) (([0] : List Int).length) ([0] : List Int) ∧ RowT (rP (rK .i64) (rP (rK .i64) (rK .i64))) s95 (N + 2) 28 a93 c93 o91 ∧ Bx s95 (N + 0) b7 #[.slice a29 o27.length c29, .int .i64 (W (1 + (W (p0.tmod 70)))), .slice (some ⟨b4, 0, none⟩) ([0] : List Int).length (([0] : List Int).length), .slice a93 o91.length c93] 26 ∧ e = [(7, .pointer (some ⟨b7, 0, none⟩)), (5, .int .i64 (W (1 + (W (p0.tmod 70)))))] ∧ w = s95.w) ?_ ?_
      · rintro _ _ ⟨s95, a93, c93, m0, h29, h4, h93, bx7, rfl, rfl⟩
        refine X.blkE ?_
        refine X.seqN ?_
        refine E.seq ?_
        refine E.reg ?_
        refine L.lg (j := 0) (cs := [.slice a29 o27.length c29, .int .i64 (W (1 + (W (p0.tmod 70)))), .slice (some ⟨b4, 0, none⟩) ([0] : List Int).length (([0] : List Int).length), .slice a93 o91.length c93]) bx7.mem ag26 Wt.no rfl rfl rfl rfl rfl ?_
        refine L.bsE (k := 1) (cs := [.int .i64 0]) 0 bs23 (Nat.le_of_ble_eq_true rfl) Wt.no rfl rfl rfl rfl ?_
        intro b96 s97 m98 bx96
        replace m0 := m0.trans m98.no
        replace h29 := h29.mv m98 no_No no_No
        replace h4 := h4.mono (m98.le no_No)
        replace h93 := h93.mv m98 no_No no_No
        replace bx7 := bx7.mv m98 no_No
        have h96 := Bx.rdL (r := (rK .i64)) (xs := ([0] : List Int)) bx96 ⟨[.int .i64 0], _, rfl, rfl, rfl⟩ (Nat.le_of_ble_eq_true rfl)
        have m99 := Sig.fz_mv (N + 1) s97
        replace h29 := h29.fz (tgn hN)
        replace m0 := m0.trans (m99.one up)
        replace h4 := h4.mono (m99.le (tg0 hN))
        replace h93 := h93.mv m99 (tgN (by decide)) (tg0 hN)
        replace h96 := h96.mono (m99.le (tg0 hN))
        replace bx7 := bx7.mv m99 (tgN (by decide))
        refine L.toR (s' := (Sig.fz (N + 1) s97)) rfl ?_
        have m100 := Sig.fz_mv (N + 2) (Sig.fz (N + 1) s97)
        replace h93 := h93.fz (tgn hN)
        replace m0 := m0.trans (m100.one up)
        replace h29 := h29.mono (m100.le (tg0 hN))
        replace h4 := h4.mono (m100.le (tg0 hN))
        replace h96 := h96.mono (m100.le (tg0 hN))
        replace bx7 := bx7.mv m100 (tgN (by decide))
        refine L.toR (s' := (Sig.fz (N + 2) (Sig.fz (N + 1) s97))) rfl ?_
        obtain ⟨r101, er101, hm⟩ := bindS hm
        refine L.ca (vs := [.agg #[.slice a29 o27.length c29, .int .i64 (W (1 + (W (p0.tmod 70)))), .slice (some ⟨b4, 0, none⟩) ([0] : List Int).length (([0] : List Int).length), .slice a93 o91.length c93], .slice (some ⟨b96, 0, none⟩) ([0] : List Int).length (([0] : List Int).length)]) cf12 rfl rfl Wt.no rfl (m_generate_Generate_c (s := (Sig.fz (N + 2) (Sig.fz (N + 1) s97))) (p0 := (o27, W (1 + (W (p0.tmod 70))), ([0] : List Int), o91)) (p1 := ([0] : List Int)) (u0 := 0) (u1 := 0) (u2 := 0) (u3 := 0) h29 h4 h93 h96 er101) rfl ?_
        rintro _ s102 m103 ⟨a104, c104, a105, c105, a106, c106, a107, c107, rfl, h104, h105, h106, h107⟩
        replace h104 := h104.p
        replace h105 := h105.p
        replace h106 := h106.p
        replace h107 := h107.p
        replace m0 := m0.trans m103.no
        replace bx7 := bx7.mv m103 no_No
        replace h29 := h29.mono (m103.le no_No)
        replace h4 := h4.mono (m103.le no_No)
        replace h93 := h93.mono (m103.le no_No)
        refine L.mv Wt.no rfl rfl ?_
        refine L.ex Wt.no rfl rfl rfl ?_
        refine L.ex Wt.no rfl rfl rfl ?_
        refine L.al (N + 3) zz34 rfl Wt.no rfl ?_
        intro b108 s109 m110 bx108
        replace m0 := m0.trans m110.no
        replace h104 := h104.mono (m110.le no_No)
        replace h105 := h105.mono (m110.le no_No)
        replace h106 := h106.mono (m110.le no_No)
        replace h107 := h107.mono (m110.le no_No)
        replace bx7 := bx7.mv m110 no_No
        replace h29 := h29.mono (m110.le no_No)
        replace h4 := h4.mono (m110.le no_No)
        replace h93 := h93.mono (m110.le no_No)
        refine L.st (c := [.int .i64 r101.1.1.1, .int .i64 r101.1.1.2.1, .int .i64 r101.1.1.2.2.1, .slice a104 r101.1.1.2.2.2.1.length c104, .slice a105 r101.1.1.2.2.2.2.length c105, .slice a106 r101.1.2.1.length c106, .slice a107 r101.1.2.2.1.length c107, .int .i64 r101.1.2.2.2]) (cs' := #[.int .i64 r101.1.1.1, .int .i64 r101.1.1.2.1, .int .i64 r101.1.1.2.2.1, .slice a104 r101.1.1.2.2.2.1.length c104, .slice a105 r101.1.1.2.2.2.2.length c105, .slice a106 r101.1.2.1.length c106, .slice a107 r101.1.2.2.1.length c107, .int .i64 r101.1.2.2.2]) bx108 ag34.sz Wt.no rfl rfl rfl rfl rfl (Nat.le_of_ble_eq_true rfl) rfl ?_
        intro s111 m112 bx108
        replace m0 := m0.trans (m112.one up)
        replace h104 := h104.mono (m112.le (tg0 hN))
        replace h105 := h105.mono (m112.le (tg0 hN))
        replace h106 := h106.mono (m112.le (tg0 hN))
        replace h107 := h107.mono (m112.le (tg0 hN))
        replace bx7 := bx7.mv m112 (tgN (by decide))
        replace h29 := h29.mono (m112.le (tg0 hN))
        replace h4 := h4.mono (m112.le (tg0 hN))
        replace h93 := h93.mono (m112.le (tg0 hN))
        refine L.as Wt.no rfl rfl ?_
        refine L.nil ?_
        refine X.seqN ?_
        refine E.seq ?_
        refine E.seq ?_
        refine E.reg ?_
        refine L.mv Wt.no rfl rfl ?_
        refine L.bi Wt.no rfl rfl rfl rfl ?_
        refine L.mv Wt.no rfl rfl ?_
        refine L.cut 5 (fun e w => ∃ (v113 : Bool), ((decide ((W (1 + (W (p0.tmod 70)))) > 64)) || (decide ((o91.length : Int) > 256))) = v113 ∧ e = (84, .bool v113) :: [(12, .int .i64 r101.2), (11, .pointer (some ⟨b108, 0, none⟩)), (7, .pointer (some ⟨b7, 0, none⟩)), (5, .int .i64 (W (1 + (W (p0.tmod 70)))))] ∧ w = s111.w) ?_ ?_
        · rintro _ _ ⟨v113, rfl, rfl, rfl⟩
          refine L.nil ?_
          refine X.seqN ?_
          rcases ifS hm with ⟨hc, hm⟩ | ⟨hc, hm⟩
          · refine E.cT rfl hc ?_
            refine E.seq ?_
            refine E.reg ?_
            refine L.mv Wt.no rfl rfl ?_
            refine L.bi Wt.no rfl rfl rfl rfl ?_
            refine L.mv Wt.no rfl rfl ?_
            refine L.cut 4 (fun e w => ∃ (v114 : Bool), ((r101.2 == 3) && (r101.1.2.2.2 == 0)) = v114 ∧ e = (91, .bool v114) :: [(11, .pointer (some ⟨b108, 0, none⟩))] ∧ w = s111.w) ?_ ?_
            · rintro _ _ ⟨v114, rfl, rfl, rfl⟩
              refine L.mv Wt.no rfl rfl ?_
              refine L.cut 6 (fun e w => ∃ (v115 : Bool), (((r101.2 == 3) && (r101.1.2.2.2 == 0)) && ((r101.1.1.2.2.2.2.length : Int) == 0)) = v115 ∧ e = (98, .bool v115) :: [] ∧ w = s111.w) ?_ ?_
              · rintro _ _ ⟨v115, rfl, rfl, rfl⟩
                refine L.as Wt.no rfl rfl ?_
                refine L.nil ?_
                refine X.seqN ?_
                refine E.ret ?_
                refine X.seqR ?_
                obtain rfl := Option.some.inj hm
                exact X.rt (.inl rfl) Try.results3 (Rs.tmp rfl Rs.nil) rfl ⟨_, (s111).ren N (fun _ => 0), rfl, rfl, m0.ren hNb, rfl⟩
              · intro J116
                rcases Bool.eq_false_or_eq_true ((r101.2 == 3) && (r101.1.2.2.2 == 0)) with hc | hc
                · refine L.know (d := 92) rfl hc ?_
                  refine L.fa fa34_0 (Wt.mk rfl rfl) rfl rfl ?_
                  refine L.fa fa32_4 (Wt.mk rfl rfl) rfl rfl ?_
                  refine L.ld (j := 4) bx108.mem nag30 (Wt.mk rfl rfl) rfl rfl rfl rfl ?_
                  refine L.len sl30 (Wt.mk rfl rfl) rfl rfl ?_
                  refine L.bi (Wt.mk rfl rfl) rfl rfl rfl rfl ?_
                  refine L.pkT Wt.no rfl rfl rfl rfl ?_
                  exact L.sub (Sub.cons rfl Sub.nil) (J116 _ _ ⟨((r101.1.1.2.2.2.2.length : Int) == 0), (andT hc).symm, rfl, rfl⟩)
                · refine L.know (d := 92) rfl hc ?_
                  refine L.skip rfl rfl rfl rfl ?_
                  refine L.skip rfl rfl rfl rfl ?_
                  refine L.skip rfl rfl rfl rfl ?_
                  refine L.skip rfl rfl rfl rfl ?_
                  refine L.skip rfl rfl rfl rfl ?_
                  refine L.pkF Wt.no rfl rfl rfl rfl ?_
                  exact L.sub (Sub.cons rfl Sub.nil) (J116 _ _ ⟨false, (andF hc).symm, rfl, rfl⟩)
            · intro J117
              rcases Bool.eq_false_or_eq_true (r101.2 == 3) with hc | hc
              · refine L.know (d := 87) rfl hc ?_
                refine L.fa fa34_3 (Wt.mk rfl rfl) rfl rfl ?_
                refine L.ld (j := 7) bx108.mem nag3 (Wt.mk rfl rfl) rfl rfl rfl rfl ?_
                refine L.bi (Wt.mk rfl rfl) rfl rfl rfl rfl ?_
                refine L.pkT Wt.no rfl rfl rfl rfl ?_
                exact L.sub (Sub.cons rfl (Sub.cons rfl Sub.nil)) (J117 _ _ ⟨(r101.1.2.2.2 == 0), (andT hc).symm, rfl, rfl⟩)
              · refine L.know (d := 87) rfl hc ?_
                refine L.skip rfl rfl rfl rfl ?_
                refine L.skip rfl rfl rfl rfl ?_
                refine L.skip rfl rfl rfl rfl ?_
                refine L.pkF Wt.no rfl rfl rfl rfl ?_
                exact L.sub (Sub.cons rfl (Sub.cons rfl Sub.nil)) (J117 _ _ ⟨false, (andF hc).symm, rfl, rfl⟩)
          · refine E.cF rfl hc ?_
            refine E.skip ?_
            refine X.seqN ?_
            refine E.seq ?_
            refine E.reg ?_
            refine L.fa fa34_0 Wt.no rfl rfl ?_
            refine L.lg (j := 0) (cs := [.int .i64 r101.1.1.1, .int .i64 r101.1.1.2.1, .int .i64 r101.1.1.2.2.1, .slice a104 r101.1.1.2.2.2.1.length c104, .slice a105 r101.1.1.2.2.2.2.length c105]) bx108.mem ag32 Wt.no rfl rfl rfl rfl rfl ?_
            obtain ⟨r118, er118, hm⟩ := bindS hm
            refine L.ca (vs := [.agg #[.int .i64 r101.1.1.1, .int .i64 r101.1.1.2.1, .int .i64 r101.1.1.2.2.1, .slice a104 r101.1.1.2.2.2.1.length c104, .slice a105 r101.1.1.2.2.2.2.length c105]]) cf13 rfl rfl Wt.no rfl (m_instruction_Start_c (s := s111) (p0 := r101.1.1) (u0 := 0) (u1 := 0) h104 h105 er118) rfl ?_
            rintro _ s119 m120 ⟨a121, c121, a122, c122, rfl, h121, h122⟩
            replace h121 := h121.p
            replace h122 := h122.p
            replace m0 := m0.trans m120.no
            replace bx7 := bx7.mv m120 no_No
            replace h29 := h29.mono (m120.le no_No)
            replace h4 := h4.mono (m120.le no_No)
            replace h93 := h93.mono (m120.le no_No)
            replace bx108 := bx108.mv m120 no_No
            replace h104 := h104.mono (m120.le no_No)
            replace h105 := h105.mono (m120.le no_No)
            replace h106 := h106.mono (m120.le no_No)
            replace h107 := h107.mono (m120.le no_No)
            refine L.mv Wt.no rfl rfl ?_
            refine L.ex Wt.no rfl rfl rfl ?_
            refine L.ex Wt.no rfl rfl rfl ?_
            refine L.al (N + 4) zz39 rfl Wt.no rfl ?_
            intro b123 s124 m125 bx123
            replace m0 := m0.trans m125.no
            replace h121 := h121.mono (m125.le no_No)
            replace h122 := h122.mono (m125.le no_No)
            replace bx7 := bx7.mv m125 no_No
            replace h29 := h29.mono (m125.le no_No)
            replace h4 := h4.mono (m125.le no_No)
            replace h93 := h93.mono (m125.le no_No)
            replace bx108 := bx108.mv m125 no_No
            replace h104 := h104.mono (m125.le no_No)
            replace h105 := h105.mono (m125.le no_No)
            replace h106 := h106.mono (m125.le no_No)
            replace h107 := h107.mono (m125.le no_No)
            refine L.st (c := [.slice a121 r118.1.1.length c121, .slice a122 r118.1.2.length c122]) (cs' := #[.slice a121 r118.1.1.length c121, .slice a122 r118.1.2.length c122]) bx123 ag39.sz Wt.no rfl rfl rfl rfl rfl (Nat.le_of_ble_eq_true rfl) rfl ?_
            intro s126 m127 bx123
            replace m0 := m0.trans (m127.one up)
            replace bx7 := bx7.mv m127 (tgN (by decide))
            replace h29 := h29.mono (m127.le (tg0 hN))
            replace h4 := h4.mono (m127.le (tg0 hN))
            replace h93 := h93.mono (m127.le (tg0 hN))
            replace bx108 := bx108.mv m127 (tgN (by decide))
            replace h104 := h104.mono (m127.le (tg0 hN))
            replace h105 := h105.mono (m127.le (tg0 hN))
            replace h106 := h106.mono (m127.le (tg0 hN))
            replace h107 := h107.mono (m127.le (tg0 hN))
            replace h121 := h121.mono (m127.le (tg0 hN))
            replace h122 := h122.mono (m127.le (tg0 hN))
            refine L.as Wt.no rfl rfl ?_
            refine L.nil ?_
            refine X.seqN ?_
            refine E.seq ?_
            refine E.seq ?_
            refine E.reg ?_
            refine L.mv Wt.no rfl rfl ?_
            refine L.bi Wt.no rfl rfl rfl rfl ?_
            refine L.mv Wt.no rfl rfl ?_
            refine L.cut 3 (fun e w => ∃ (v128 : Bool), ((r101.2 != 0) || (r118.2 != 0)) = v128 ∧ e = (110, .bool v128) :: [(13, .pointer (some ⟨b123, 0, none⟩)), (11, .pointer (some ⟨b108, 0, none⟩)), (7, .pointer (some ⟨b7, 0, none⟩)), (5, .int .i64 (W (1 + (W (p0.tmod 70)))))] ∧ w = s126.w) ?_ ?_
            · rintro _ _ ⟨v128, rfl, rfl, rfl⟩
              refine L.nil ?_
              refine X.seqN ?_
              rcases ifS hm with ⟨hc, hm⟩ | ⟨hc, hm⟩
              · refine E.cT rfl hc ?_
                refine E.seq ?_
                refine E.reg ?_
                refine L.as Wt.no rfl rfl ?_
                refine L.nil ?_
                refine X.seqN ?_
                refine E.ret ?_
                refine X.seqR ?_
                obtain rfl := Option.some.inj hm
                exact X.rt (.inl rfl) Try.results3 (Rs.tmp rfl Rs.nil) rfl ⟨_, (s126).ren N (fun _ => 0), rfl, rfl, m0.ren hNb, rfl⟩
              · refine E.cF rfl hc ?_
                refine E.skip ?_
                refine X.seqN ?_
                refine E.seq ?_
                refine E.seq ?_
                refine E.reg ?_
                refine L.mv Wt.no rfl rfl ?_
                refine L.nil ?_
                refine X.seqN ?_
                refine E.block ?_
                obtain ⟨o187, eo187, hm⟩ := bindS hm
                refine E.cut (x := .exit 6) (fun e w => ∃ (s190 : Sig) (u189 : Unit), o187 = .inl u189 ∧ Mv (Up N No) s s190 ∧ e = [] ∧ w = s190.w) ?_ ?_
                · rintro _ _ ⟨s190, u189, rfl, m0, rfl, rfl⟩
                  dsimp only at hm
                  refine X.blkE ?_
                  refine X.seqN ?_
                  refine E.seq ?_
                  refine E.reg ?_
                  refine L.as Wt.no rfl rfl ?_
                  refine L.nil ?_
                  refine X.seqN ?_
                  refine E.ret ?_
                  obtain rfl := Option.some.inj hm
                  exact X.rt (.inl rfl) Try.results3 (Rs.tmp rfl Rs.nil) rfl ⟨_, (s190).ren N (fun _ => 0), rfl, rfl, m0.ren hNb, rfl⟩
                intro K191
                refine E.cut (x := .ret) (fun e w => ∃ (s193 : Sig) (u192 : Unit), o187 = .inr (u192) ∧ Mv (Up N No) s s193 ∧ e = [(4, .bool false)] ∧ w = s193.w) ?_ ?_
                · rintro _ _ ⟨s193, u192, rfl, m0, rfl, rfl⟩
                  dsimp only at hm
                  refine X.blkR ?_
                  refine X.seqR ?_
                  obtain rfl := Option.some.inj hm
                  exact X.rt (.inl rfl) Try.results3 (Rs.tmp rfl Rs.nil) rfl ⟨_, (s193).ren N (fun _ => 0), rfl, rfl, m0.ren hNb, rfl⟩
                intro K194
                refine E.iter (fun (st187 : Int × List Bool × List Bool) (e : List (Nat × Value)) (w : World) => ∃ (s188 : Sig) (a131 : Option Addr) (c131 : Nat) (a133 : Option Addr) (c133 : Nat), Mv (Up N No) s s188 ∧ RdL (rK .i64) s188 a29 c29 o27 ∧ RdL (rK .i64) s188 (some ⟨b4, 0, none⟩) (([0] : List Int).length) ([0] : List Int) ∧ RdL (rP (rK .i64) (rP (rK .i64) (rK .i64))) s188 a93 c93 o91 ∧ RdL rB s188 a104 c104 r101.1.1.2.2.2.1 ∧ RdL (rP (rK .i64) (rK .i64)) s188 a105 c105 r101.1.1.2.2.2.2 ∧ RdL (rK .i64) s188 a106 c106 r101.1.2.1 ∧ RdL (rK .i64) s188 a107 c107 r101.1.2.2.1 ∧ RdL rB s188 a131 c131 st187.2.1 ∧ RdL rB s188 a133 c133 st187.2.2 ∧ Bx s188 (N + 0) b7 #[.slice a29 o27.length c29, .int .i64 (W (1 + (W (p0.tmod 70)))), .slice (some ⟨b4, 0, none⟩) ([0] : List Int).length (([0] : List Int).length), .slice a93 o91.length c93] 26 ∧ Bx s188 (N + 3) b108 #[.int .i64 r101.1.1.1, .int .i64 r101.1.1.2.1, .int .i64 r101.1.1.2.2.1, .slice a104 r101.1.1.2.2.2.1.length c104, .slice a105 r101.1.1.2.2.2.2.length c105, .slice a106 r101.1.2.1.length c106, .slice a107 r101.1.2.2.1.length c107, .int .i64 r101.1.2.2.2] 34 ∧ Bx s188 (N + 4) b123 #[.slice a131 st187.2.1.length c131, .slice a133 st187.2.2.length c133] 39 ∧ e = [(111, .int .i64 st187.1), (13, .pointer (some ⟨b123, 0, none⟩)), (11, .pointer (some ⟨b108, 0, none⟩)), (7, .pointer (some ⟨b7, 0, none⟩)), (5, .int .i64 (W (1 + (W (p0.tmod 70)))))] ∧ w = s188.w) eo187 ⟨s126, a121, c121, a122, c122, m0, h29, h4, h93, h104, h105, h106, h107, h121, h122, bx7, bx108, bx123, rfl, rfl⟩ (Sub.cons rfl (Sub.cons rfl (Sub.cons rfl (Sub.cons rfl (Sub.cons rfl Sub.nil))))) ?_
                rintro st187 res187 hm ih187 ho187 _ _ ⟨s188, a131, c131, a133, c133, m0, h29, h4, h93, h104, h105, h106, h107, h131, h133, bx7, bx108, bx123, rfl, rfl⟩
                unfold m_overseerlaw53_GenerateLimits_l3 at hm
                refine E.seq ?_
                refine E.reg ?_
                refine L.bi Wt.no rfl rfl rfl rfl ?_
                refine L.nil ?_
                refine X.seqN ?_
                refine E.seq ?_
                rcases ifS hm with ⟨hc, hm⟩ | ⟨hc, hm⟩
                · refine E.cT rfl hc ?_
                  refine E.skip ?_
                  refine X.seqN ?_
                  refine E.seq ?_
                  refine E.block ?_
                  refine E.seq ?_
                  refine E.reg ?_
                  refine L.mv Wt.no rfl rfl ?_
                  refine L.as Wt.no rfl rfl ?_
                  refine L.nil ?_
                  refine X.seqN ?_
                  refine E.seq ?_
                  refine E.reg ?_
                  refine L.lg (j := 0) (cs := [.int .i64 r101.1.1.1, .int .i64 r101.1.1.2.1, .int .i64 r101.1.1.2.2.1, .slice a104 r101.1.1.2.2.2.1.length c104, .slice a105 r101.1.1.2.2.2.2.length c105, .slice a106 r101.1.2.1.length c106, .slice a107 r101.1.2.2.1.length c107, .int .i64 r101.1.2.2.2]) bx108.mem ag34 Wt.no rfl rfl rfl rfl rfl ?_
                  refine L.lg (j := 0) (cs := [.slice a131 st187.2.1.length c131, .slice a133 st187.2.2.length c133]) bx123.mem ag39 Wt.no rfl rfl rfl rfl rfl ?_
                  refine L.bsE (k := 1) (cs := [.int .i64 0]) 0 bs23 (Nat.le_of_ble_eq_true rfl) Wt.no rfl rfl rfl rfl ?_
                  intro b195 s196 m197 bx195
                  replace m0 := m0.trans m197.no
                  replace h104 := h104.mono (m197.le no_No)
                  replace h105 := h105.mono (m197.le no_No)
                  replace h106 := h106.mono (m197.le no_No)
                  replace h107 := h107.mono (m197.le no_No)
                  replace h131 := h131.mono (m197.le no_No)
                  replace h133 := h133.mono (m197.le no_No)
                  replace bx7 := bx7.mv m197 no_No
                  replace h29 := h29.mono (m197.le no_No)
                  replace h4 := h4.mono (m197.le no_No)
                  replace h93 := h93.mono (m197.le no_No)
                  replace bx108 := bx108.mv m197 no_No
                  replace bx123 := bx123.mv m197 no_No
                  have h195 := Bx.rdL (r := (rK .i64)) (xs := ([0] : List Int)) bx195 ⟨[.int .i64 0], _, rfl, rfl, rfl⟩ (Nat.le_of_ble_eq_true rfl)
                  obtain ⟨r198, er198, hm⟩ := bindS hm
                  refine L.ca (vs := [.agg #[.int .i64 r101.1.1.1, .int .i64 r101.1.1.2.1, .int .i64 r101.1.1.2.2.1, .slice a104 r101.1.1.2.2.2.1.length c104, .slice a105 r101.1.1.2.2.2.2.length c105, .slice a106 r101.1.2.1.length c106, .slice a107 r101.1.2.2.1.length c107, .int .i64 r101.1.2.2.2], .agg #[.slice a131 st187.2.1.length c131, .slice a133 st187.2.2.length c133], .slice (some ⟨b195, 0, none⟩) ([0] : List Int).length (([0] : List Int).length)]) cf14 rfl rfl Wt.no rfl (m_generate_Scan_c (s := s196) (p0 := r101.1) (p1 := st187.2) (p2 := ([0] : List Int)) h104 h105 h106 h107 h131 h133 h195 er198) rfl ?_
                  rintro _ s199 m200 ⟨a201, c201, a202, c202, rfl, h201, h202⟩
                  replace m0 := m0.trans m200.no
                  replace bx7 := bx7.mv m200 no_No
                  replace h29 := h29.mono (m200.le no_No)
                  replace h4 := h4.mono (m200.le no_No)
                  replace h93 := h93.mono (m200.le no_No)
                  replace bx108 := bx108.mv m200 no_No
                  replace h104 := h104.mono (m200.le no_No)
                  replace h105 := h105.mono (m200.le no_No)
                  replace h106 := h106.mono (m200.le no_No)
                  replace h107 := h107.mono (m200.le no_No)
                  replace bx123 := bx123.mv m200 no_No
                  replace h131 := h131.mono (m200.le no_No)
                  replace h133 := h133.mono (m200.le no_No)
                  refine L.mv Wt.no rfl rfl ?_
                  refine L.ex Wt.no rfl rfl rfl ?_
                  refine L.ex Wt.no rfl rfl rfl ?_
                  refine L.st (c := [.slice a201 r198.1.1.length c201, .slice a202 r198.1.2.length c202]) (cs' := #[.slice a201 r198.1.1.length c201, .slice a202 r198.1.2.length c202]) bx123 ag39.sz Wt.no rfl rfl rfl rfl rfl (Nat.le_of_ble_eq_true rfl) rfl ?_
                  intro s203 m204 bx123
                  replace m0 := m0.trans (m204.one up)
                  replace bx7 := bx7.mv m204 (tgN (by decide))
                  replace h29 := h29.mono (m204.le (tg0 hN))
                  replace h4 := h4.mono (m204.le (tg0 hN))
                  replace h93 := h93.mono (m204.le (tg0 hN))
                  replace bx108 := bx108.mv m204 (tgN (by decide))
                  replace h104 := h104.mono (m204.le (tg0 hN))
                  replace h105 := h105.mono (m204.le (tg0 hN))
                  replace h106 := h106.mono (m204.le (tg0 hN))
                  replace h107 := h107.mono (m204.le (tg0 hN))
                  replace h201 := h201.mono (m204.le (tg0 hN))
                  replace h202 := h202.mono (m204.le (tg0 hN))
                  refine L.as Wt.no rfl rfl ?_
                  refine L.nil ?_
                  refine X.seqN ?_
                  refine E.seqJ (fun e w => ∃ (s206 : Sig) (b205 : Bool), m_overseerlaw53_GenerateLimits_j1 st187 r198 b205 = some res187 ∧ Mv (Up N No) s s206 ∧ RdL (rK .i64) s206 a29 c29 o27 ∧ RdL (rK .i64) s206 (some ⟨b4, 0, none⟩) (([0] : List Int).length) ([0] : List Int) ∧ RdL (rP (rK .i64) (rP (rK .i64) (rK .i64))) s206 a93 c93 o91 ∧ RdL rB s206 a104 c104 r101.1.1.2.2.2.1 ∧ RdL (rP (rK .i64) (rK .i64)) s206 a105 c105 r101.1.1.2.2.2.2 ∧ RdL (rK .i64) s206 a106 c106 r101.1.2.1 ∧ RdL (rK .i64) s206 a107 c107 r101.1.2.2.1 ∧ RdL rB s206 a201 c201 r198.1.1 ∧ RdL rB s206 a202 c202 r198.1.2 ∧ Bx s206 (N + 0) b7 #[.slice a29 o27.length c29, .int .i64 (W (1 + (W (p0.tmod 70)))), .slice (some ⟨b4, 0, none⟩) ([0] : List Int).length (([0] : List Int).length), .slice a93 o91.length c93] 26 ∧ Bx s206 (N + 3) b108 #[.int .i64 r101.1.1.1, .int .i64 r101.1.1.2.1, .int .i64 r101.1.1.2.2.1, .slice a104 r101.1.1.2.2.2.1.length c104, .slice a105 r101.1.1.2.2.2.2.length c105, .slice a106 r101.1.2.1.length c106, .slice a107 r101.1.2.2.1.length c107, .int .i64 r101.1.2.2.2] 34 ∧ Bx s206 (N + 4) b123 #[.slice a201 r198.1.1.length c201, .slice a202 r198.1.2.length c202] 39 ∧ e = [(134, .bool b205), (111, .int .i64 st187.1), (13, .pointer (some ⟨b123, 0, none⟩)), (11, .pointer (some ⟨b108, 0, none⟩)), (7, .pointer (some ⟨b7, 0, none⟩)), (5, .int .i64 (W (1 + (W (p0.tmod 70)))))] ∧ w = s206.w) ?_ ?_
                  · rintro _ _ ⟨s206, b205, hm, m0, h29, h4, h93, h104, h105, h106, h107, h201, h202, bx7, bx108, bx123, rfl, rfl⟩
                    unfold m_overseerlaw53_GenerateLimits_j1 at hm
                    rcases ifS hm with ⟨hc, hm⟩ | ⟨hc, hm⟩
                    · refine E.cT rfl hc ?_
                      refine E.seq ?_
                      refine E.reg ?_
                      refine L.as Wt.no rfl rfl ?_
                      refine L.nil ?_
                      refine X.seqN ?_
                      refine E.ret ?_
                      refine X.blkR ?_
                      refine X.seqR ?_
                      refine X.seqR ?_
                      have hx := ho187 _ (Option.some.inj hm).symm
                      exact X.sub (K194 _ _ ⟨s206, (), hx.symm, m0, rfl, rfl⟩) (Sub.cons rfl Sub.nil)
                    · refine E.cF rfl hc ?_
                      refine E.skip ?_
                      refine X.blkN ?_
                      refine X.seqN ?_
                      refine E.reg ?_
                      refine L.bi Wt.no rfl rfl rfl rfl ?_
                      refine L.mv Wt.no rfl rfl ?_
                      refine L.nil ?_
                      exact X.sub (ih187 _ (Option.some.inj hm).symm _ _ ⟨s206, a201, c201, a202, c202, m0, h29, h4, h93, h104, h105, h106, h107, h201, h202, bx7, bx108, bx123, rfl, rfl⟩) (Sub.cons rfl (Sub.cons rfl (Sub.cons rfl (Sub.cons rfl (Sub.cons rfl Sub.nil)))))
                  · intro Jj207
                    rcases ifS hm with ⟨hc211, hm⟩ | ⟨hc211, hm⟩
                    · have _ := hN
                      refine E.draw [[], [0], [0, 1], [0, 1, 2], [0, 1, 2], [0, 1, 2], [0, 1, 2], [0, 1, 2], [0, 1, 2, 7], [0, 1, 2], [0, 1, 2, 7, 8, 9], [0, 1, 2, 3, 4, 5, 6, 7, 8, 9, 10], [0, 1, 2, 3, 4, 5, 6, 7, 8, 9, 10, 11], [0, 1, 2, 3, 4, 5, 6, 7, 8, 9, 10, 11, 12]] (fun D e sx => Mv No s203 sx ∧ Sub [(14, .int .i64 r198.2), (15, .int .i64 st187.1), (111, .int .i64 st187.1), (13, .pointer (some ⟨b123, 0, none⟩)), (11, .pointer (some ⟨b108, 0, none⟩)), (7, .pointer (some ⟨b7, 0, none⟩)), (5, .int .i64 (W (1 + (W (p0.tmod 70)))))] e ∧ (D 0 = true → (Env.get e 121 = some (.int .i64 r198.2))) ∧ (D 1 = true → (Env.get e 122 = some (.bool (r198.2 != 0)))) ∧ (D 2 = true → (Env.get e 123 = some (.bool (r198.2 != 0)))) ∧ (D 3 = true → (Env.get e 124 = some undef)) ∧ (D 4 = true → (Env.get e 125 = some undef)) ∧ (D 5 = true → (Env.get e 126 = some undef)) ∧ (D 6 = true → (Env.get e 127 = some undef)) ∧ (D 7 = true → (Env.get e 128 = some undef)) ∧ (D 8 = true → (Env.get e 129 = some undef)) ∧ (D 9 = true → (Env.get e 130 = some undef)) ∧ (D 10 = true → (Env.get e 131 = some undef)) ∧ (D 11 = true → (Env.get e 132 = some undef)) ∧ (D 12 = true → (Env.get e 133 = some undef)) ∧ (D 13 = true → (Env.get e 134 = some (.bool true)))) (by kernel_rfl) (by kernel_rfl) (by kernel_rfl) ?_ ?_ ?_
                      · intro sz mz
                        exact ⟨mz, (Sub.cons rfl (Sub.cons rfl (Sub.cons rfl (Sub.cons rfl (Sub.cons rfl (Sub.cons rfl (Sub.cons rfl Sub.nil))))))), nofun, nofun, nofun, nofun, nofun, nofun, nofun, nofun, nofun, nofun, nofun, nofun, nofun, nofun⟩
                      · refine ⟨?_, ?_, ?_, ?_, ?_, ?_, ?_, ?_, ?_, ?_, ?_, ?_, ?_, ?_, trivial⟩
                        · rintro D e s208 ⟨im, ib, i0, i1, i2, i3, i4, i5, i6, i7, i8, i9, i10, i11, i12, i13⟩ hk hf ha
                          refine L.kns [(14, .int .i64 r198.2)] ⟨(ib 14 _ rfl), trivial⟩ ?_
                          refine L.mv Wt.no rfl rfl ?_
                          refine L.nil ?_
                          refine X.dr (s := s208) (e' := (121, .int .i64 r198.2) :: e) (Sub.both (Kn.sup ⟨(ib 14 _ rfl), trivial⟩)) ⟨im, Sub.fresh ib rfl, fun _ => rfl, i1, i2, i3, i4, i5, i6, i7, i8, i9, i10, i11, i12, i13⟩
                        · rintro D e s209 ⟨im, ib, i0, i1, i2, i3, i4, i5, i6, i7, i8, i9, i10, i11, i12, i13⟩ hk hf ha
                          obtain ⟨d0, -⟩ := ha
                          have g0_ := i0 d0
                          refine L.kns [(121, .int .i64 r198.2)] ⟨g0_, trivial⟩ ?_
                          refine L.bi Wt.no rfl rfl rfl rfl ?_
                          refine L.nil ?_
                          refine X.dr (s := s209) (e' := (122, .bool (r198.2 != 0)) :: e) (Sub.both (Kn.sup ⟨g0_, trivial⟩)) ⟨im, Sub.fresh ib rfl, i0, fun _ => rfl, i2, i3, i4, i5, i6, i7, i8, i9, i10, i11, i12, i13⟩
                        · rintro D e s210 ⟨im, ib, i0, i1, i2, i3, i4, i5, i6, i7, i8, i9, i10, i11, i12, i13⟩ hk hf ha
                          obtain ⟨d0, d1, -⟩ := ha
                          have g1_ := i1 d1
                          refine L.kns [(122, .bool (r198.2 != 0))] ⟨g1_, trivial⟩ ?_
                          refine L.mv Wt.no rfl rfl ?_
                          refine L.nil ?_
                          refine X.dr (s := s210) (e' := (123, .bool (r198.2 != 0)) :: e) (Sub.both (Kn.sup ⟨g1_, trivial⟩)) ⟨im, Sub.fresh ib rfl, i0, i1, fun _ => rfl, i3, i4, i5, i6, i7, i8, i9, i10, i11, i12, i13⟩
                        · rintro D e s212 ⟨im, ib, i0, i1, i2, i3, i4, i5, i6, i7, i8, i9, i10, i11, i12, i13⟩ hk hf ha
                          obtain ⟨d0, d1, d2, -⟩ := ha
                          have g2_ := i2 d2
                          rw [hc211] at g2_
                          refine L.kns [(7, .pointer (some ⟨b7, 0, none⟩)), (123, .bool true)] ⟨(ib 7 _ rfl), g2_, trivial⟩ ?_
                          refine L.skip rfl rfl rfl rfl ?_
                          refine L.nil ?_
                          refine X.dr (s := s212) (e' := (124, undef) :: e) (Sub.both (Kn.sup ⟨(ib 7 _ rfl), g2_, trivial⟩)) ⟨im, Sub.fresh ib rfl, i0, i1, i2, fun _ => rfl, i4, i5, i6, i7, i8, i9, i10, i11, i12, i13⟩
                        · rintro D e s213 ⟨im, ib, i0, i1, i2, i3, i4, i5, i6, i7, i8, i9, i10, i11, i12, i13⟩ hk hf ha
                          obtain ⟨d0, d1, d2, -⟩ := ha
                          have g2_ := i2 d2
                          rw [hc211] at g2_
                          refine L.kns [(123, .bool true)] ⟨g2_, trivial⟩ ?_
                          refine L.skip rfl rfl rfl rfl ?_
                          refine L.nil ?_
                          refine X.dr (s := s213) (e' := (125, undef) :: e) (Sub.both (Kn.sup ⟨g2_, trivial⟩)) ⟨im, Sub.fresh ib rfl, i0, i1, i2, i3, fun _ => rfl, i5, i6, i7, i8, i9, i10, i11, i12, i13⟩
                        · rintro D e s214 ⟨im, ib, i0, i1, i2, i3, i4, i5, i6, i7, i8, i9, i10, i11, i12, i13⟩ hk hf ha
                          obtain ⟨d0, d1, d2, -⟩ := ha
                          have g2_ := i2 d2
                          rw [hc211] at g2_
                          refine L.kns [(11, .pointer (some ⟨b108, 0, none⟩)), (123, .bool true)] ⟨(ib 11 _ rfl), g2_, trivial⟩ ?_
                          refine L.skip rfl rfl rfl rfl ?_
                          refine L.nil ?_
                          refine X.dr (s := s214) (e' := (126, undef) :: e) (Sub.both (Kn.sup ⟨(ib 11 _ rfl), g2_, trivial⟩)) ⟨im, Sub.fresh ib rfl, i0, i1, i2, i3, i4, fun _ => rfl, i6, i7, i8, i9, i10, i11, i12, i13⟩
                        · rintro D e s215 ⟨im, ib, i0, i1, i2, i3, i4, i5, i6, i7, i8, i9, i10, i11, i12, i13⟩ hk hf ha
                          obtain ⟨d0, d1, d2, -⟩ := ha
                          have g2_ := i2 d2
                          rw [hc211] at g2_
                          refine L.kns [(13, .pointer (some ⟨b123, 0, none⟩)), (123, .bool true)] ⟨(ib 13 _ rfl), g2_, trivial⟩ ?_
                          refine L.skip rfl rfl rfl rfl ?_
                          refine L.nil ?_
                          refine X.dr (s := s215) (e' := (127, undef) :: e) (Sub.both (Kn.sup ⟨(ib 13 _ rfl), g2_, trivial⟩)) ⟨im, Sub.fresh ib rfl, i0, i1, i2, i3, i4, i5, fun _ => rfl, i7, i8, i9, i10, i11, i12, i13⟩
                        · rintro D e s216 ⟨im, ib, i0, i1, i2, i3, i4, i5, i6, i7, i8, i9, i10, i11, i12, i13⟩ hk hf ha
                          obtain ⟨d0, d1, d2, -⟩ := ha
                          have g2_ := i2 d2
                          rw [hc211] at g2_
                          refine L.kns [(15, .int .i64 st187.1), (123, .bool true)] ⟨(ib 15 _ rfl), g2_, trivial⟩ ?_
                          refine L.skip rfl rfl rfl rfl ?_
                          refine L.nil ?_
                          refine X.dr (s := s216) (e' := (128, undef) :: e) (Sub.both (Kn.sup ⟨(ib 15 _ rfl), g2_, trivial⟩)) ⟨im, Sub.fresh ib rfl, i0, i1, i2, i3, i4, i5, i6, fun _ => rfl, i8, i9, i10, i11, i12, i13⟩
                        · rintro D e s217 ⟨im, ib, i0, i1, i2, i3, i4, i5, i6, i7, i8, i9, i10, i11, i12, i13⟩ hk hf ha
                          obtain ⟨d0, d1, d2, d7, -⟩ := ha
                          have g2_ := i2 d2
                          have g7_ := i7 d7
                          rw [hc211] at g2_
                          refine L.kns [(128, undef), (123, .bool true)] ⟨g7_, g2_, trivial⟩ ?_
                          refine L.skip rfl rfl rfl rfl ?_
                          refine L.nil ?_
                          refine X.dr (s := s217) (e' := (129, undef) :: e) (Sub.both (Kn.sup ⟨g7_, g2_, trivial⟩)) ⟨im, Sub.fresh ib rfl, i0, i1, i2, i3, i4, i5, i6, i7, fun _ => rfl, i9, i10, i11, i12, i13⟩
                        · rintro D e s218 ⟨im, ib, i0, i1, i2, i3, i4, i5, i6, i7, i8, i9, i10, i11, i12, i13⟩ hk hf ha
                          obtain ⟨d0, d1, d2, -⟩ := ha
                          have g2_ := i2 d2
                          rw [hc211] at g2_
                          refine L.kns [(5, .int .i64 (W (1 + (W (p0.tmod 70))))), (123, .bool true)] ⟨(ib 5 _ rfl), g2_, trivial⟩ ?_
                          refine L.skip rfl rfl rfl rfl ?_
                          refine L.nil ?_
                          refine X.dr (s := s218) (e' := (130, undef) :: e) (Sub.both (Kn.sup ⟨(ib 5 _ rfl), g2_, trivial⟩)) ⟨im, Sub.fresh ib rfl, i0, i1, i2, i3, i4, i5, i6, i7, i8, fun _ => rfl, i10, i11, i12, i13⟩
                        · rintro D e s219 ⟨im, ib, i0, i1, i2, i3, i4, i5, i6, i7, i8, i9, i10, i11, i12, i13⟩ hk hf ha
                          obtain ⟨d0, d1, d2, d7, d8, d9, -⟩ := ha
                          have g2_ := i2 d2
                          have g8_ := i8 d8
                          have g9_ := i9 d9
                          rw [hc211] at g2_
                          refine L.kns [(129, undef), (130, undef), (123, .bool true)] ⟨g8_, g9_, g2_, trivial⟩ ?_
                          refine L.skip rfl rfl rfl rfl ?_
                          refine L.nil ?_
                          refine X.dr (s := s219) (e' := (131, undef) :: e) (Sub.both (Kn.sup ⟨g8_, g9_, g2_, trivial⟩)) ⟨im, Sub.fresh ib rfl, i0, i1, i2, i3, i4, i5, i6, i7, i8, i9, fun _ => rfl, i11, i12, i13⟩
                        · rintro D e s220 ⟨im, ib, i0, i1, i2, i3, i4, i5, i6, i7, i8, i9, i10, i11, i12, i13⟩ hk hf ha
                          obtain ⟨d0, d1, d2, d3, d4, d5, d6, d7, d8, d9, d10, -⟩ := ha
                          have g2_ := i2 d2
                          have g3_ := i3 d3
                          have g4_ := i4 d4
                          have g5_ := i5 d5
                          have g6_ := i6 d6
                          have g10_ := i10 d10
                          rw [hc211] at g2_
                          refine L.kns [(124, undef), (125, undef), (126, undef), (127, undef), (131, undef), (123, .bool true)] ⟨g3_, g4_, g5_, g6_, g10_, g2_, trivial⟩ ?_
                          refine L.skip rfl rfl rfl rfl ?_
                          refine L.nil ?_
                          refine X.dr (s := s220) (e' := (132, undef) :: e) (Sub.both (Kn.sup ⟨g3_, g4_, g5_, g6_, g10_, g2_, trivial⟩)) ⟨im, Sub.fresh ib rfl, i0, i1, i2, i3, i4, i5, i6, i7, i8, i9, i10, fun _ => rfl, i12, i13⟩
                        · rintro D e s221 ⟨im, ib, i0, i1, i2, i3, i4, i5, i6, i7, i8, i9, i10, i11, i12, i13⟩ hk hf ha
                          obtain ⟨d0, d1, d2, d3, d4, d5, d6, d7, d8, d9, d10, d11, -⟩ := ha
                          have g2_ := i2 d2
                          have g11_ := i11 d11
                          rw [hc211] at g2_
                          refine L.kns [(132, undef), (123, .bool true)] ⟨g11_, g2_, trivial⟩ ?_
                          refine L.skip rfl rfl rfl rfl ?_
                          refine L.nil ?_
                          refine X.dr (s := s221) (e' := (133, undef) :: e) (Sub.both (Kn.sup ⟨g11_, g2_, trivial⟩)) ⟨im, Sub.fresh ib rfl, i0, i1, i2, i3, i4, i5, i6, i7, i8, i9, i10, i11, fun _ => rfl, i13⟩
                        · rintro D e s222 ⟨im, ib, i0, i1, i2, i3, i4, i5, i6, i7, i8, i9, i10, i11, i12, i13⟩ hk hf ha
                          obtain ⟨d0, d1, d2, d3, d4, d5, d6, d7, d8, d9, d10, d11, d12, -⟩ := ha
                          have g2_ := i2 d2
                          have g12_ := i12 d12
                          rw [hc211] at g2_
                          refine L.kns [(123, .bool true), (133, undef)] ⟨g2_, g12_, trivial⟩ ?_
                          refine L.pkT Wt.no rfl rfl rfl rfl ?_
                          refine L.nil ?_
                          refine X.dr (s := s222) (e' := (134, .bool true) :: e) (Sub.both (Kn.sup ⟨g2_, g12_, trivial⟩)) ⟨im, Sub.fresh ib rfl, i0, i1, i2, i3, i4, i5, i6, i7, i8, i9, i10, i11, i12, fun _ => rfl⟩
                      · rintro D e s223 hD ⟨im, ib, i0, i1, i2, i3, i4, i5, i6, i7, i8, i9, i10, i11, i12, i13⟩
                        have g13_ := i13 (hD 13 rfl)
                        have bx123 := bx123.mv im no_No
                        have h201 := h201.mono (im.le no_No)
                        have h202 := h202.mono (im.le no_No)
                        have bx108 := bx108.mv im no_No
                        have h104 := h104.mono (im.le no_No)
                        have h105 := h105.mono (im.le no_No)
                        have h106 := h106.mono (im.le no_No)
                        have h107 := h107.mono (im.le no_No)
                        have bx7 := bx7.mv im no_No
                        have h29 := h29.mono (im.le no_No)
                        have h4 := h4.mono (im.le no_No)
                        have h93 := h93.mono (im.le no_No)
                        have m0 := m0.trans im.no
                        refine X.sub (e' := [(134, .bool true), (111, .int .i64 st187.1), (13, .pointer (some ⟨b123, 0, none⟩)), (11, .pointer (some ⟨b108, 0, none⟩)), (7, .pointer (some ⟨b7, 0, none⟩)), (5, .int .i64 (W (1 + (W (p0.tmod 70)))))]) ?_ (Sub.cons g13_ (Sub.cons (ib 111 _ rfl) (Sub.cons (ib 13 _ rfl) (Sub.cons (ib 11 _ rfl) (Sub.cons (ib 7 _ rfl) (Sub.cons (ib 5 _ rfl) Sub.nil))))))
                        exact X.sub (Jj207 _ _ ⟨s223, true, hm, m0, h29, h4, h93, h104, h105, h106, h107, h201, h202, bx7, bx108, bx123, rfl, rfl⟩) (Sub.cons rfl (Sub.cons rfl (Sub.cons rfl (Sub.cons rfl (Sub.cons rfl (Sub.cons rfl Sub.nil))))))
                    · have _ := hN
                      obtain ⟨_, z235, hm⟩ := bindS hm
                      obtain ⟨r237, er237, hm⟩ := bindS hm
                      refine E.draw [[], [0], [0, 1], [0, 1, 2], [0, 1, 2], [0, 1, 2], [0, 1, 2], [0, 1, 2], [0, 1, 2, 7], [0, 1, 2], [0, 1, 2, 7, 8, 9], [0, 1, 2, 3, 4, 5, 6, 7, 8, 9, 10], [0, 1, 2, 3, 4, 5, 6, 7, 8, 9, 10, 11], [0, 1, 2, 3, 4, 5, 6, 7, 8, 9, 10, 11, 12]] (fun D e sx => Mv No s203 sx ∧ Sub [(14, .int .i64 r198.2), (15, .int .i64 st187.1), (111, .int .i64 st187.1), (13, .pointer (some ⟨b123, 0, none⟩)), (11, .pointer (some ⟨b108, 0, none⟩)), (7, .pointer (some ⟨b7, 0, none⟩)), (5, .int .i64 (W (1 + (W (p0.tmod 70)))))] e ∧ (D 0 = true → (Env.get e 121 = some (.int .i64 r198.2))) ∧ (D 1 = true → (Env.get e 122 = some (.bool (r198.2 != 0)))) ∧ (D 2 = true → (Env.get e 123 = some (.bool (r198.2 != 0)))) ∧ (D 3 = true → (Env.get e 124 = some (.agg #[.slice a29 o27.length c29, .int .i64 (W (1 + (W (p0.tmod 70)))), .slice (some ⟨b4, 0, none⟩) ([0] : List Int).length (([0] : List Int).length), .slice a93 o91.length c93]))) ∧ (D 4 = true → (∃ (b226 : Nat), Env.get e 125 = some (.slice (some ⟨b226, 0, none⟩) ([0] : List Int).length (([0] : List Int).length)) ∧ RdL (rK .i64) sx (some ⟨b226, 0, none⟩) (([0] : List Int).length) ([0] : List Int))) ∧ (D 5 = true → (Env.get e 126 = some (.agg #[.int .i64 r101.1.1.1, .int .i64 r101.1.1.2.1, .int .i64 r101.1.1.2.2.1, .slice a104 r101.1.1.2.2.2.1.length c104, .slice a105 r101.1.1.2.2.2.2.length c105, .slice a106 r101.1.2.1.length c106, .slice a107 r101.1.2.2.1.length c107, .int .i64 r101.1.2.2.2]))) ∧ (D 6 = true → (Env.get e 127 = some (.agg #[.slice a201 r198.1.1.length c201, .slice a202 r198.1.2.length c202]))) ∧ (D 7 = true → (Env.get e 128 = some (.int .i64 st187.1))) ∧ (D 8 = true → (Env.get e 129 = some (.int .i64 (W (st187.1 + 1))))) ∧ (D 9 = true → (Env.get e 130 = some (.int .i64 (W (1 + (W (p0.tmod 70))))))) ∧ (D 10 = true → (Env.get e 131 = some (.int .i64 ((W (st187.1 + 1)).tmod (W (1 + (W (p0.tmod 70)))))))) ∧ (D 11 = true → (Env.get e 132 = some (.bool r237))) ∧ (D 12 = true → (Env.get e 133 = some (.bool (!r237)))) ∧ (D 13 = true → (Env.get e 134 = some (.bool (!r237))))) (by kernel_rfl) (by kernel_rfl) (by kernel_rfl) ?_ ?_ ?_
                      · intro sz mz
                        exact ⟨mz, (Sub.cons rfl (Sub.cons rfl (Sub.cons rfl (Sub.cons rfl (Sub.cons rfl (Sub.cons rfl (Sub.cons rfl Sub.nil))))))), nofun, nofun, nofun, nofun, nofun, nofun, nofun, nofun, nofun, nofun, nofun, nofun, nofun, nofun⟩
                      · refine ⟨?_, ?_, ?_, ?_, ?_, ?_, ?_, ?_, ?_, ?_, ?_, ?_, ?_, ?_, trivial⟩
                        · rintro D e s208 ⟨im, ib, i0, i1, i2, i3, i4, i5, i6, i7, i8, i9, i10, i11, i12, i13⟩ hk hf ha
                          refine L.kns [(14, .int .i64 r198.2)] ⟨(ib 14 _ rfl), trivial⟩ ?_
                          refine L.mv Wt.no rfl rfl ?_
                          refine L.nil ?_
                          refine X.dr (s := s208) (e' := (121, .int .i64 r198.2) :: e) (Sub.both (Kn.sup ⟨(ib 14 _ rfl), trivial⟩)) ⟨im, Sub.fresh ib rfl, fun _ => rfl, i1, i2, i3, i4, i5, i6, i7, i8, i9, i10, i11, i12, i13⟩
                        · rintro D e s209 ⟨im, ib, i0, i1, i2, i3, i4, i5, i6, i7, i8, i9, i10, i11, i12, i13⟩ hk hf ha
                          obtain ⟨d0, -⟩ := ha
                          have g0_ := i0 d0
                          refine L.kns [(121, .int .i64 r198.2)] ⟨g0_, trivial⟩ ?_
                          refine L.bi Wt.no rfl rfl rfl rfl ?_
                          refine L.nil ?_
                          refine X.dr (s := s209) (e' := (122, .bool (r198.2 != 0)) :: e) (Sub.both (Kn.sup ⟨g0_, trivial⟩)) ⟨im, Sub.fresh ib rfl, i0, fun _ => rfl, i2, i3, i4, i5, i6, i7, i8, i9, i10, i11, i12, i13⟩
                        · rintro D e s210 ⟨im, ib, i0, i1, i2, i3, i4, i5, i6, i7, i8, i9, i10, i11, i12, i13⟩ hk hf ha
                          obtain ⟨d0, d1, -⟩ := ha
                          have g1_ := i1 d1
                          refine L.kns [(122, .bool (r198.2 != 0))] ⟨g1_, trivial⟩ ?_
                          refine L.mv Wt.no rfl rfl ?_
                          refine L.nil ?_
                          refine X.dr (s := s210) (e' := (123, .bool (r198.2 != 0)) :: e) (Sub.both (Kn.sup ⟨g1_, trivial⟩)) ⟨im, Sub.fresh ib rfl, i0, i1, fun _ => rfl, i3, i4, i5, i6, i7, i8, i9, i10, i11, i12, i13⟩
                        · rintro D e s224 ⟨im, ib, i0, i1, i2, i3, i4, i5, i6, i7, i8, i9, i10, i11, i12, i13⟩ hk hf ha
                          obtain ⟨d0, d1, d2, -⟩ := ha
                          have g2_ := i2 d2
                          have bx7 := bx7.mv im no_No
                          rw [hc211] at g2_
                          refine L.kns [(7, .pointer (some ⟨b7, 0, none⟩)), (123, .bool false)] ⟨(ib 7 _ rfl), g2_, trivial⟩ ?_
                          refine L.lg (j := 0) (cs := [.slice a29 o27.length c29, .int .i64 (W (1 + (W (p0.tmod 70)))), .slice (some ⟨b4, 0, none⟩) ([0] : List Int).length (([0] : List Int).length), .slice a93 o91.length c93]) bx7.mem ag26 (Wt.mk rfl rfl) rfl rfl rfl rfl rfl ?_
                          refine L.nil ?_
                          refine X.dr (s := s224) (e' := (124, .agg #[.slice a29 o27.length c29, .int .i64 (W (1 + (W (p0.tmod 70)))), .slice (some ⟨b4, 0, none⟩) ([0] : List Int).length (([0] : List Int).length), .slice a93 o91.length c93]) :: e) (Sub.both (Kn.sup ⟨(ib 7 _ rfl), g2_, trivial⟩)) ⟨im, Sub.fresh ib rfl, i0, i1, i2, fun _ => rfl, i4, i5, i6, i7, i8, i9, i10, i11, i12, i13⟩
                        · rintro D e s225 ⟨im, ib, i0, i1, i2, i3, i4, i5, i6, i7, i8, i9, i10, i11, i12, i13⟩ hk hf ha
                          obtain ⟨d0, d1, d2, -⟩ := ha
                          have g2_ := i2 d2
                          rw [hc211] at g2_
                          refine L.kns [(123, .bool false)] ⟨g2_, trivial⟩ ?_
                          refine L.bsE (k := 1) (cs := [.int .i64 0]) 0 bs23 (Nat.le_of_ble_eq_true rfl) (Wt.mk rfl rfl) rfl rfl rfl rfl ?_
                          intro b226 s227 m228 bx226
                          have h226 := Bx.rdL (r := (rK .i64)) (xs := ([0] : List Int)) bx226 ⟨[.int .i64 0], _, rfl, rfl, rfl⟩ (Nat.le_of_ble_eq_true rfl)
                          refine L.nil ?_
                          refine X.dr (s := s227) (e' := (125, .slice (some ⟨b226, 0, none⟩) ([0] : List Int).length (([0] : List Int).length)) :: e) (Sub.both (Kn.sup ⟨g2_, trivial⟩)) ⟨im.trans m228.no, Sub.fresh ib rfl, i0, i1, i2, i3, fun _ => ⟨b226, rfl, h226⟩, i5, i6, i7, i8, i9, i10, i11, i12, i13⟩
                        · rintro D e s229 ⟨im, ib, i0, i1, i2, i3, i4, i5, i6, i7, i8, i9, i10, i11, i12, i13⟩ hk hf ha
                          obtain ⟨d0, d1, d2, -⟩ := ha
                          have g2_ := i2 d2
                          have bx108 := bx108.mv im no_No
                          rw [hc211] at g2_
                          refine L.kns [(11, .pointer (some ⟨b108, 0, none⟩)), (123, .bool false)] ⟨(ib 11 _ rfl), g2_, trivial⟩ ?_
                          refine L.lg (j := 0) (cs := [.int .i64 r101.1.1.1, .int .i64 r101.1.1.2.1, .int .i64 r101.1.1.2.2.1, .slice a104 r101.1.1.2.2.2.1.length c104, .slice a105 r101.1.1.2.2.2.2.length c105, .slice a106 r101.1.2.1.length c106, .slice a107 r101.1.2.2.1.length c107, .int .i64 r101.1.2.2.2]) bx108.mem ag34 (Wt.mk rfl rfl) rfl rfl rfl rfl rfl ?_
                          refine L.nil ?_
                          refine X.dr (s := s229) (e' := (126, .agg #[.int .i64 r101.1.1.1, .int .i64 r101.1.1.2.1, .int .i64 r101.1.1.2.2.1, .slice a104 r101.1.1.2.2.2.1.length c104, .slice a105 r101.1.1.2.2.2.2.length c105, .slice a106 r101.1.2.1.length c106, .slice a107 r101.1.2.2.1.length c107, .int .i64 r101.1.2.2.2]) :: e) (Sub.both (Kn.sup ⟨(ib 11 _ rfl), g2_, trivial⟩)) ⟨im, Sub.fresh ib rfl, i0, i1, i2, i3, i4, fun _ => rfl, i6, i7, i8, i9, i10, i11, i12, i13⟩
                        · rintro D e s230 ⟨im, ib, i0, i1, i2, i3, i4, i5, i6, i7, i8, i9, i10, i11, i12, i13⟩ hk hf ha
                          obtain ⟨d0, d1, d2, -⟩ := ha
                          have g2_ := i2 d2
                          have bx123 := bx123.mv im no_No
                          rw [hc211] at g2_
                          refine L.kns [(13, .pointer (some ⟨b123, 0, none⟩)), (123, .bool false)] ⟨(ib 13 _ rfl), g2_, trivial⟩ ?_
                          refine L.lg (j := 0) (cs := [.slice a201 r198.1.1.length c201, .slice a202 r198.1.2.length c202]) bx123.mem ag39 (Wt.mk rfl rfl) rfl rfl rfl rfl rfl ?_
                          refine L.nil ?_
                          refine X.dr (s := s230) (e' := (127, .agg #[.slice a201 r198.1.1.length c201, .slice a202 r198.1.2.length c202]) :: e) (Sub.both (Kn.sup ⟨(ib 13 _ rfl), g2_, trivial⟩)) ⟨im, Sub.fresh ib rfl, i0, i1, i2, i3, i4, i5, fun _ => rfl, i7, i8, i9, i10, i11, i12, i13⟩
                        · rintro D e s231 ⟨im, ib, i0, i1, i2, i3, i4, i5, i6, i7, i8, i9, i10, i11, i12, i13⟩ hk hf ha
                          obtain ⟨d0, d1, d2, -⟩ := ha
                          have g2_ := i2 d2
                          rw [hc211] at g2_
                          refine L.kns [(15, .int .i64 st187.1), (123, .bool false)] ⟨(ib 15 _ rfl), g2_, trivial⟩ ?_
                          refine L.mv (Wt.mk rfl rfl) rfl rfl ?_
                          refine L.nil ?_
                          refine X.dr (s := s231) (e' := (128, .int .i64 st187.1) :: e) (Sub.both (Kn.sup ⟨(ib 15 _ rfl), g2_, trivial⟩)) ⟨im, Sub.fresh ib rfl, i0, i1, i2, i3, i4, i5, i6, fun _ => rfl, i8, i9, i10, i11, i12, i13⟩
                        · rintro D e s232 ⟨im, ib, i0, i1, i2, i3, i4, i5, i6, i7, i8, i9, i10, i11, i12, i13⟩ hk hf ha
                          obtain ⟨d0, d1, d2, d7, -⟩ := ha
                          have g2_ := i2 d2
                          have g7_ := i7 d7
                          rw [hc211] at g2_
                          refine L.kns [(128, .int .i64 st187.1), (123, .bool false)] ⟨g7_, g2_, trivial⟩ ?_
                          refine L.bi (Wt.mk rfl rfl) rfl rfl rfl rfl ?_
                          refine L.nil ?_
                          refine X.dr (s := s232) (e' := (129, .int .i64 (W (st187.1 + 1))) :: e) (Sub.both (Kn.sup ⟨g7_, g2_, trivial⟩)) ⟨im, Sub.fresh ib rfl, i0, i1, i2, i3, i4, i5, i6, i7, fun _ => rfl, i9, i10, i11, i12, i13⟩
                        · rintro D e s233 ⟨im, ib, i0, i1, i2, i3, i4, i5, i6, i7, i8, i9, i10, i11, i12, i13⟩ hk hf ha
                          obtain ⟨d0, d1, d2, -⟩ := ha
                          have g2_ := i2 d2
                          rw [hc211] at g2_
                          refine L.kns [(5, .int .i64 (W (1 + (W (p0.tmod 70))))), (123, .bool false)] ⟨(ib 5 _ rfl), g2_, trivial⟩ ?_
                          refine L.mv (Wt.mk rfl rfl) rfl rfl ?_
                          refine L.nil ?_
                          refine X.dr (s := s233) (e' := (130, .int .i64 (W (1 + (W (p0.tmod 70))))) :: e) (Sub.both (Kn.sup ⟨(ib 5 _ rfl), g2_, trivial⟩)) ⟨im, Sub.fresh ib rfl, i0, i1, i2, i3, i4, i5, i6, i7, i8, fun _ => rfl, i10, i11, i12, i13⟩
                        · rintro D e s234 ⟨im, ib, i0, i1, i2, i3, i4, i5, i6, i7, i8, i9, i10, i11, i12, i13⟩ hk hf ha
                          obtain ⟨d0, d1, d2, d7, d8, d9, -⟩ := ha
                          have g2_ := i2 d2
                          have g8_ := i8 d8
                          have g9_ := i9 d9
                          rw [hc211] at g2_
                          refine L.kns [(129, .int .i64 (W (st187.1 + 1))), (130, .int .i64 (W (1 + (W (p0.tmod 70))))), (123, .bool false)] ⟨g8_, g9_, g2_, trivial⟩ ?_
                          refine L.rem (Wt.mk rfl rfl) rfl rfl (nz_some z235) rfl ?_
                          refine L.nil ?_
                          refine X.dr (s := s234) (e' := (131, .int .i64 ((W (st187.1 + 1)).tmod (W (1 + (W (p0.tmod 70)))))) :: e) (Sub.both (Kn.sup ⟨g8_, g9_, g2_, trivial⟩)) ⟨im, Sub.fresh ib rfl, i0, i1, i2, i3, i4, i5, i6, i7, i8, i9, fun _ => rfl, i11, i12, i13⟩
                        · rintro D e s236 ⟨im, ib, i0, i1, i2, i3, i4, i5, i6, i7, i8, i9, i10, i11, i12, i13⟩ hk hf ha
                          obtain ⟨d0, d1, d2, d3, d4, d5, d6, d7, d8, d9, d10, -⟩ := ha
                          have g2_ := i2 d2
                          have g3_ := i3 d3
                          obtain ⟨b226, g4_, h226⟩ := i4 d4
                          have g5_ := i5 d5
                          have g6_ := i6 d6
                          have g10_ := i10 d10
                          have h201 := h201.mono (im.le no_No)
                          have h202 := h202.mono (im.le no_No)
                          have h104 := h104.mono (im.le no_No)
                          have h105 := h105.mono (im.le no_No)
                          have h106 := h106.mono (im.le no_No)
                          have h107 := h107.mono (im.le no_No)
                          have h29 := h29.mono (im.le no_No)
                          have h4 := h4.mono (im.le no_No)
                          have h93 := h93.mono (im.le no_No)
                          rw [hc211] at g2_
                          refine L.kns [(124, .agg #[.slice a29 o27.length c29, .int .i64 (W (1 + (W (p0.tmod 70)))), .slice (some ⟨b4, 0, none⟩) ([0] : List Int).length (([0] : List Int).length), .slice a93 o91.length c93]), (125, .slice (some ⟨b226, 0, none⟩) ([0] : List Int).length (([0] : List Int).length)), (126, .agg #[.int .i64 r101.1.1.1, .int .i64 r101.1.1.2.1, .int .i64 r101.1.1.2.2.1, .slice a104 r101.1.1.2.2.2.1.length c104, .slice a105 r101.1.1.2.2.2.2.length c105, .slice a106 r101.1.2.1.length c106, .slice a107 r101.1.2.2.1.length c107, .int .i64 r101.1.2.2.2]), (127, .agg #[.slice a201 r198.1.1.length c201, .slice a202 r198.1.2.length c202]), (131, .int .i64 ((W (st187.1 + 1)).tmod (W (1 + (W (p0.tmod 70)))))), (123, .bool false)] ⟨g3_, g4_, g5_, g6_, g10_, g2_, trivial⟩ ?_
                          refine L.ca (vs := [.agg #[.slice a29 o27.length c29, .int .i64 (W (1 + (W (p0.tmod 70)))), .slice (some ⟨b4, 0, none⟩) ([0] : List Int).length (([0] : List Int).length), .slice a93 o91.length c93], .slice (some ⟨b226, 0, none⟩) ([0] : List Int).length (([0] : List Int).length), .agg #[.int .i64 r101.1.1.1, .int .i64 r101.1.1.2.1, .int .i64 r101.1.1.2.2.1, .slice a104 r101.1.1.2.2.2.1.length c104, .slice a105 r101.1.1.2.2.2.2.length c105, .slice a106 r101.1.2.1.length c106, .slice a107 r101.1.2.2.1.length c107, .int .i64 r101.1.2.2.2], .agg #[.slice a201 r198.1.1.length c201, .slice a202 r198.1.2.length c202], .int .i64 ((W (st187.1 + 1)).tmod (W (1 + (W (p0.tmod 70))))), .bool false, .bool true]) cf15 rfl rfl (Wt.mk rfl rfl) rfl (m_overseerlaw53_shows_c (s := s236) (p0 := (o27, W (1 + (W (p0.tmod 70))), ([0] : List Int), o91)) (p1 := ([0] : List Int)) (p2 := r101.1) (p3 := r198.1) (p4 := ((W (st187.1 + 1)).tmod (W (1 + (W (p0.tmod 70)))))) (p5 := false) (p6 := true) h29 h4 h93 h226 h104 h105 h106 h107 h201 h202 er237) rfl ?_
                          rintro _ s238 m239 rfl
                          refine L.nil ?_
                          refine X.dr (s := s238) (e' := (132, .bool r237) :: e) (Sub.both (Kn.sup ⟨g3_, g4_, g5_, g6_, g10_, g2_, trivial⟩)) ⟨im.trans m239.no, Sub.fresh ib rfl, i0, i1, i2, i3, fun z => let ⟨b226, q, h226⟩ := i4 z; ⟨b226, q, (h226.mono (m239.le no_No))⟩, i5, i6, i7, i8, i9, i10, fun _ => rfl, i12, i13⟩
                        · rintro D e s240 ⟨im, ib, i0, i1, i2, i3, i4, i5, i6, i7, i8, i9, i10, i11, i12, i13⟩ hk hf ha
                          obtain ⟨d0, d1, d2, d3, d4, d5, d6, d7, d8, d9, d10, d11, -⟩ := ha
                          have g2_ := i2 d2
                          have g11_ := i11 d11
                          rw [hc211] at g2_
                          refine L.kns [(132, .bool r237), (123, .bool false)] ⟨g11_, g2_, trivial⟩ ?_
                          refine L.not (Wt.mk rfl rfl) rfl rfl ?_
                          refine L.nil ?_
                          refine X.dr (s := s240) (e' := (133, .bool (!r237)) :: e) (Sub.both (Kn.sup ⟨g11_, g2_, trivial⟩)) ⟨im, Sub.fresh ib rfl, i0, i1, i2, i3, i4, i5, i6, i7, i8, i9, i10, i11, fun _ => rfl, i13⟩
                        · rintro D e s241 ⟨im, ib, i0, i1, i2, i3, i4, i5, i6, i7, i8, i9, i10, i11, i12, i13⟩ hk hf ha
                          obtain ⟨d0, d1, d2, d3, d4, d5, d6, d7, d8, d9, d10, d11, d12, -⟩ := ha
                          have g2_ := i2 d2
                          have g12_ := i12 d12
                          rw [hc211] at g2_
                          refine L.kns [(123, .bool false), (133, .bool (!r237))] ⟨g2_, g12_, trivial⟩ ?_
                          refine L.pkF Wt.no rfl rfl rfl rfl ?_
                          refine L.nil ?_
                          refine X.dr (s := s241) (e' := (134, .bool (!r237)) :: e) (Sub.both (Kn.sup ⟨g2_, g12_, trivial⟩)) ⟨im, Sub.fresh ib rfl, i0, i1, i2, i3, i4, i5, i6, i7, i8, i9, i10, i11, i12, fun _ => rfl⟩
                      · rintro D e s242 hD ⟨im, ib, i0, i1, i2, i3, i4, i5, i6, i7, i8, i9, i10, i11, i12, i13⟩
                        have g13_ := i13 (hD 13 rfl)
                        have bx123 := bx123.mv im no_No
                        have h201 := h201.mono (im.le no_No)
                        have h202 := h202.mono (im.le no_No)
                        have bx108 := bx108.mv im no_No
                        have h104 := h104.mono (im.le no_No)
                        have h105 := h105.mono (im.le no_No)
                        have h106 := h106.mono (im.le no_No)
                        have h107 := h107.mono (im.le no_No)
                        have bx7 := bx7.mv im no_No
                        have h29 := h29.mono (im.le no_No)
                        have h4 := h4.mono (im.le no_No)
                        have h93 := h93.mono (im.le no_No)
                        have m0 := m0.trans im.no
                        refine X.sub (e' := [(134, .bool (!r237)), (111, .int .i64 st187.1), (13, .pointer (some ⟨b123, 0, none⟩)), (11, .pointer (some ⟨b108, 0, none⟩)), (7, .pointer (some ⟨b7, 0, none⟩)), (5, .int .i64 (W (1 + (W (p0.tmod 70)))))]) ?_ (Sub.cons g13_ (Sub.cons (ib 111 _ rfl) (Sub.cons (ib 13 _ rfl) (Sub.cons (ib 11 _ rfl) (Sub.cons (ib 7 _ rfl) (Sub.cons (ib 5 _ rfl) Sub.nil))))))
                        exact X.sub (Jj207 _ _ ⟨s242, (!r237), hm, m0, h29, h4, h93, h104, h105, h106, h107, h201, h202, bx7, bx108, bx123, rfl, rfl⟩) (Sub.cons rfl (Sub.cons rfl (Sub.cons rfl (Sub.cons rfl (Sub.cons rfl (Sub.cons rfl Sub.nil))))))
                · refine E.cF rfl hc ?_
                  refine E.exit ?_
                  refine X.seqX ?_
                  refine X.seqX ?_
                  have hx := ho187 _ (Option.some.inj hm).symm
                  exact X.sub (K191 _ _ ⟨s188, (), hx.symm, m0, rfl, rfl⟩) Sub.nil
            · intro J243
              rcases Bool.eq_false_or_eq_true (r101.2 != 0) with hc | hc
              · refine L.know (d := 107) rfl hc ?_
                refine L.skip rfl rfl rfl rfl ?_
                refine L.skip rfl rfl rfl rfl ?_
                refine L.pkT Wt.no rfl rfl rfl rfl ?_
                exact L.sub (Sub.cons rfl (Sub.cons rfl (Sub.cons rfl (Sub.cons rfl (Sub.cons rfl Sub.nil))))) (J243 _ _ ⟨true, (orT hc).symm, rfl, rfl⟩)
              · refine L.know (d := 107) rfl hc ?_
                refine L.mv (Wt.mk rfl rfl) rfl rfl ?_
                refine L.bi (Wt.mk rfl rfl) rfl rfl rfl rfl ?_
                refine L.pkF Wt.no rfl rfl rfl rfl ?_
                exact L.sub (Sub.cons rfl (Sub.cons rfl (Sub.cons rfl (Sub.cons rfl (Sub.cons rfl Sub.nil))))) (J243 _ _ ⟨(r118.2 != 0), (orF hc).symm, rfl, rfl⟩)
        · intro J244
          rcases Bool.eq_false_or_eq_true (decide ((W (1 + (W (p0.tmod 70)))) > 64)) with hc | hc
          · refine L.know (d := 79) rfl hc ?_
            refine L.skip rfl rfl rfl rfl ?_
            refine L.skip rfl rfl rfl rfl ?_
            refine L.skip rfl rfl rfl rfl ?_
            refine L.skip rfl rfl rfl rfl ?_
            refine L.pkT Wt.no rfl rfl rfl rfl ?_
            exact L.sub (Sub.cons rfl (Sub.cons rfl (Sub.cons rfl (Sub.cons rfl (Sub.cons rfl Sub.nil))))) (J244 _ _ ⟨true, (orT hc).symm, rfl, rfl⟩)
          · refine L.know (d := 79) rfl hc ?_
            refine L.fa fa26_3 (Wt.mk rfl rfl) rfl rfl ?_
            refine L.ld (j := 3) bx7.mem nag24 (Wt.mk rfl rfl) rfl rfl rfl rfl ?_
            refine L.len sl24 (Wt.mk rfl rfl) rfl rfl ?_
            refine L.bi (Wt.mk rfl rfl) rfl rfl rfl rfl ?_
            refine L.pkF Wt.no rfl rfl rfl rfl ?_
            exact L.sub (Sub.cons rfl (Sub.cons rfl (Sub.cons rfl (Sub.cons rfl (Sub.cons rfl Sub.nil))))) (J244 _ _ ⟨(decide ((o91.length : Int) > 256)), (orF hc).symm, rfl, rfl⟩)
      intro K245
      refine E.iter (fun (st91 : Int × (List (Int × Int × Int))) (e : List (Nat × Value)) (w : World) => ∃ (s94 : Sig) (a34 : Option Addr) (c34 : Nat), Mv (Up N No) s s94 ∧ RowT (rK .i64) s94 (N + 1) 3 a29 c29 o27 ∧ RdL (rK .i64) s94 (some ⟨b4, 0, none⟩) (([0] : List Int).length) ([0] : List Int) ∧ RowT (rP (rK .i64) (rP (rK .i64) (rK .i64))) s94 (N + 2) 28 a34 c34 st91.2 ∧ Bx s94 (N + 0) b7 #[.slice a29 o27.length c29, .int .i64 (W (1 + (W (p0.tmod 70)))), .slice (some ⟨b4, 0, none⟩) ([0] : List Int).length (([0] : List Int).length), .slice a34 st91.2.length c34] 26 ∧ e = [(41, .int .i64 st91.1), (40, .int .i64 (W (1 + (W (p0.tmod 70))))), (7, .pointer (some ⟨b7, 0, none⟩)), (6, .int .i64 (W (p1.tmod 7))), (5, .int .i64 (W (1 + (W (p0.tmod 70)))))] ∧ w = s94.w) eo91 ⟨s31, none, 0, m0, h29, h4, RowT.nil, bx7, rfl, rfl⟩ (Sub.cons rfl (Sub.cons rfl (Sub.cons rfl (Sub.cons rfl (Sub.cons rfl Sub.nil))))) ?_
      rintro st91 res91 hm ih91 ho91 _ _ ⟨s94, a34, c34, m0, h29, h4, h34, bx7, rfl, rfl⟩
      unfold m_overseerlaw53_GenerateLimits_l2 at hm
      refine E.seq ?_
      refine E.reg ?_
      refine L.bi Wt.no rfl rfl rfl rfl ?_
      refine L.nil ?_
      refine X.seqN ?_
      refine E.seq ?_
      rcases ifS hm with ⟨hc, hm⟩ | ⟨hc, hm⟩
      · refine E.cT rfl hc ?_
        refine E.skip ?_
        refine X.seqN ?_
        refine E.seq ?_
        refine E.block ?_
        refine E.seq ?_
        refine E.reg ?_
        refine L.mv Wt.no rfl rfl ?_
        refine L.as Wt.no rfl rfl ?_
        refine L.nil ?_
        refine X.seqN ?_
        refine E.seq ?_
        obtain ⟨_, z253, hm⟩ := bindS hm
        obtain ⟨x260, ex260, hm⟩ := bindS hm
        refine E.draw [[], [0], [], [], [3], [], [3, 4, 5], [2, 3, 4, 5, 6], [2, 3, 4, 5, 6, 7], [0, 1, 2, 3, 4, 5, 6, 7, 8], [0, 1, 2, 3, 4, 5, 6, 7, 8, 9], [0, 1, 2, 3, 4, 5, 6, 7, 8, 9, 10]] (fun D e sx => Mv (fun t => t = (N + 0) ∨ t = (N + 2)) s94 sx ∧ Sub [(9, .int .i64 st91.1), (41, .int .i64 st91.1), (40, .int .i64 (W (1 + (W (p0.tmod 70))))), (7, .pointer (some ⟨b7, 0, none⟩)), (6, .int .i64 (W (p1.tmod 7))), (5, .int .i64 (W (1 + (W (p0.tmod 70)))))] e ∧ (D 0 = true → (Env.get e 44 = some (.pointer (some ⟨b7, 3, none⟩)))) ∧ (D 1 = true → (Env.get e 45 = some (.slice a34 st91.2.length c34))) ∧ (D 2 = true → (Env.get e 46 = some (.int .i64 st91.1))) ∧ (D 3 = true → (Env.get e 47 = some (.int .i64 st91.1))) ∧ (D 4 = true → (Env.get e 48 = some (.int .i64 (W (st91.1 + 1))))) ∧ (D 5 = true → (Env.get e 49 = some (.int .i64 (W (1 + (W (p0.tmod 70))))))) ∧ (D 6 = true → (Env.get e 50 = some (.int .i64 ((W (st91.1 + 1)).tmod (W (1 + (W (p0.tmod 70)))))))) ∧ (D 7 = true → (Env.get e 51 = some (.agg #[.int .i64 st91.1, .int .i64 0, .int .i64 ((W (st91.1 + 1)).tmod (W (1 + (W (p0.tmod 70)))))]))) ∧ (D 8 = true → (∃ (b256 : Nat), Env.get e 52 = some (.slice (some ⟨b256, 0, none⟩) ([(st91.1, 0, ((W (st91.1 + 1)).tmod (W (1 + (W (p0.tmod 70))))))] : List (Int × Int × Int)).length (([(st91.1, 0, ((W (st91.1 + 1)).tmod (W (1 + (W (p0.tmod 70))))))] : List (Int × Int × Int)).length)) ∧ RdL (rP (rK .i64) (rP (rK .i64) (rK .i64))) sx (some ⟨b256, 0, none⟩) (([(st91.1, 0, ((W (st91.1 + 1)).tmod (W (1 + (W (p0.tmod 70))))))] : List (Int × Int × Int)).length) ([(st91.1, 0, ((W (st91.1 + 1)).tmod (W (1 + (W (p0.tmod 70))))))] : List (Int × Int × Int)))) ∧ (D 9 = true → (∃ (a261 : Option Addr) (c261 : Nat), Env.get e 53 = some (.slice a261 x260.length c261))) ∧ (D 10 = true → (Env.get e 54 = some (.pointer (some ⟨b7, 3, none⟩)))) ∧ (D 11 = false → Bx sx (N + 0) b7 #[.slice a29 o27.length c29, .int .i64 (W (1 + (W (p0.tmod 70)))), .slice (some ⟨b4, 0, none⟩) ([0] : List Int).length (([0] : List Int).length), .slice a34 st91.2.length c34] 26) ∧ (D 11 = true → ∀ (a261 : Option Addr) (c261 : Nat), Env.get e 53 = some (.slice a261 x260.length c261) → Bx sx (N + 0) b7 #[.slice a29 o27.length c29, .int .i64 (W (1 + (W (p0.tmod 70)))), .slice (some ⟨b4, 0, none⟩) ([0] : List Int).length (([0] : List Int).length), .slice a261 x260.length c261] 26) ∧ (D 9 = false → RowT (rP (rK .i64) (rP (rK .i64) (rK .i64))) sx (N + 2) 28 a34 c34 st91.2) ∧ (D 9 = true → ∀ (a261 : Option Addr) (c261 : Nat), Env.get e 53 = some (.slice a261 x260.length c261) → RowT (rP (rK .i64) (rP (rK .i64) (rK .i64))) sx (N + 2) 28 a261 c261 x260)) (by kernel_rfl) (by kernel_rfl) (by kernel_rfl) ?_ ?_ ?_
        · intro sz mz
          exact ⟨mz.no, (Sub.cons rfl (Sub.cons rfl (Sub.cons rfl (Sub.cons rfl (Sub.cons rfl (Sub.cons rfl Sub.nil)))))), nofun, nofun, nofun, nofun, nofun, nofun, nofun, nofun, nofun, nofun, nofun, fun _ => bx7.mv mz no_No, nofun, fun _ => h34.mv mz no_No no_No, nofun⟩
        · refine ⟨?_, ?_, ?_, ?_, ?_, ?_, ?_, ?_, ?_, ?_, ?_, ?_, trivial⟩
          · rintro D e s246 ⟨im, ib, i0, i1, i2, i3, i4, i5, i6, i7, i8, i9, i10, i11, i12, i13, i14⟩ hk hf ha
            refine L.kns [(7, .pointer (some ⟨b7, 0, none⟩))] ⟨(ib 7 _ rfl), trivial⟩ ?_
            refine L.fa fa26_3 Wt.no rfl rfl ?_
            refine L.nil ?_
            refine X.dr (s := s246) (e' := (44, .pointer (some ⟨b7, 3, none⟩)) :: e) (Sub.both (Kn.sup ⟨(ib 7 _ rfl), trivial⟩)) ⟨im, Sub.fresh ib rfl, fun _ => rfl, i1, i2, i3, i4, i5, i6, i7, i8, i9, i10, i11, i12, i13, i14⟩
          · rintro D e s247 ⟨im, ib, i0, i1, i2, i3, i4, i5, i6, i7, i8, i9, i10, i11, i12, i13, i14⟩ hk hf ha
            obtain ⟨d0, -⟩ := ha
            have g0_ := i0 d0
            obtain bx7 := i11 (hf 11 (Nat.le_of_ble_eq_true rfl) rfl)
            refine L.kns [(44, .pointer (some ⟨b7, 3, none⟩))] ⟨g0_, trivial⟩ ?_
            refine L.ld (j := 3) bx7.mem nag24 Wt.no rfl rfl rfl rfl ?_
            refine L.nil ?_
            refine X.dr (s := s247) (e' := (45, .slice a34 st91.2.length c34) :: e) (Sub.both (Kn.sup ⟨g0_, trivial⟩)) ⟨im, Sub.fresh ib rfl, i0, fun _ => rfl, i2, i3, i4, i5, i6, i7, i8, i9, i10, i11, i12, i13, i14⟩
          · rintro D e s248 ⟨im, ib, i0, i1, i2, i3, i4, i5, i6, i7, i8, i9, i10, i11, i12, i13, i14⟩ hk hf ha
            refine L.kns [(9, .int .i64 st91.1)] ⟨(ib 9 _ rfl), trivial⟩ ?_
            refine L.mv Wt.no rfl rfl ?_
            refine L.nil ?_
            refine X.dr (s := s248) (e' := (46, .int .i64 st91.1) :: e) (Sub.both (Kn.sup ⟨(ib 9 _ rfl), trivial⟩)) ⟨im, Sub.fresh ib rfl, i0, i1, fun _ => rfl, i3, i4, i5, i6, i7, i8, i9, i10, i11, i12, i13, i14⟩
          · rintro D e s249 ⟨im, ib, i0, i1, i2, i3, i4, i5, i6, i7, i8, i9, i10, i11, i12, i13, i14⟩ hk hf ha
            refine L.kns [(9, .int .i64 st91.1)] ⟨(ib 9 _ rfl), trivial⟩ ?_
            refine L.mv Wt.no rfl rfl ?_
            refine L.nil ?_
            refine X.dr (s := s249) (e' := (47, .int .i64 st91.1) :: e) (Sub.both (Kn.sup ⟨(ib 9 _ rfl), trivial⟩)) ⟨im, Sub.fresh ib rfl, i0, i1, i2, fun _ => rfl, i4, i5, i6, i7, i8, i9, i10, i11, i12, i13, i14⟩
          · rintro D e s250 ⟨im, ib, i0, i1, i2, i3, i4, i5, i6, i7, i8, i9, i10, i11, i12, i13, i14⟩ hk hf ha
            obtain ⟨d3, -⟩ := ha
            have g3_ := i3 d3
            refine L.kns [(47, .int .i64 st91.1)] ⟨g3_, trivial⟩ ?_
            refine L.bi Wt.no rfl rfl rfl rfl ?_
            refine L.nil ?_
            refine X.dr (s := s250) (e' := (48, .int .i64 (W (st91.1 + 1))) :: e) (Sub.both (Kn.sup ⟨g3_, trivial⟩)) ⟨im, Sub.fresh ib rfl, i0, i1, i2, i3, fun _ => rfl, i5, i6, i7, i8, i9, i10, i11, i12, i13, i14⟩
          · rintro D e s251 ⟨im, ib, i0, i1, i2, i3, i4, i5, i6, i7, i8, i9, i10, i11, i12, i13, i14⟩ hk hf ha
            refine L.kns [(5, .int .i64 (W (1 + (W (p0.tmod 70)))))] ⟨(ib 5 _ rfl), trivial⟩ ?_
            refine L.mv Wt.no rfl rfl ?_
            refine L.nil ?_
            refine X.dr (s := s251) (e' := (49, .int .i64 (W (1 + (W (p0.tmod 70))))) :: e) (Sub.both (Kn.sup ⟨(ib 5 _ rfl), trivial⟩)) ⟨im, Sub.fresh ib rfl, i0, i1, i2, i3, i4, fun _ => rfl, i6, i7, i8, i9, i10, i11, i12, i13, i14⟩
          · rintro D e s252 ⟨im, ib, i0, i1, i2, i3, i4, i5, i6, i7, i8, i9, i10, i11, i12, i13, i14⟩ hk hf ha
            obtain ⟨d3, d4, d5, -⟩ := ha
            have g4_ := i4 d4
            have g5_ := i5 d5
            refine L.kns [(48, .int .i64 (W (st91.1 + 1))), (49, .int .i64 (W (1 + (W (p0.tmod 70)))))] ⟨g4_, g5_, trivial⟩ ?_
            refine L.rem Wt.no rfl rfl (nz_some z253) rfl ?_
            refine L.nil ?_
            refine X.dr (s := s252) (e' := (50, .int .i64 ((W (st91.1 + 1)).tmod (W (1 + (W (p0.tmod 70)))))) :: e) (Sub.both (Kn.sup ⟨g4_, g5_, trivial⟩)) ⟨im, Sub.fresh ib rfl, i0, i1, i2, i3, i4, i5, fun _ => rfl, i7, i8, i9, i10, i11, i12, i13, i14⟩
          · rintro D e s254 ⟨im, ib, i0, i1, i2, i3, i4, i5, i6, i7, i8, i9, i10, i11, i12, i13, i14⟩ hk hf ha
            obtain ⟨d2, d3, d4, d5, d6, -⟩ := ha
            have g2_ := i2 d2
            have g6_ := i6 d6
            refine L.kns [(46, .int .i64 st91.1), (50, .int .i64 ((W (st91.1 + 1)).tmod (W (1 + (W (p0.tmod 70))))))] ⟨g2_, g6_, trivial⟩ ?_
            refine L.bu (cs := [.int .i64 st91.1, .int .i64 0, .int .i64 ((W (st91.1 + 1)).tmod (W (1 + (W (p0.tmod 70)))))]) pl28 Wt.no rfl rfl rfl ?_
            refine L.nil ?_
            refine X.dr (s := s254) (e' := (51, .agg #[.int .i64 st91.1, .int .i64 0, .int .i64 ((W (st91.1 + 1)).tmod (W (1 + (W (p0.tmod 70)))))]) :: e) (Sub.both (Kn.sup ⟨g2_, g6_, trivial⟩)) ⟨im, Sub.fresh ib rfl, i0, i1, i2, i3, i4, i5, i6, fun _ => rfl, i8, i9, i10, i11, i12, i13, i14⟩
          · rintro D e s255 ⟨im, ib, i0, i1, i2, i3, i4, i5, i6, i7, i8, i9, i10, i11, i12, i13, i14⟩ hk hf ha
            obtain ⟨d2, d3, d4, d5, d6, d7, -⟩ := ha
            have g7_ := i7 d7
            refine L.kns [(51, .agg #[.int .i64 st91.1, .int .i64 0, .int .i64 ((W (st91.1 + 1)).tmod (W (1 + (W (p0.tmod 70)))))])] ⟨g7_, trivial⟩ ?_
            refine L.bsE (k := 1) (cs := [.int .i64 st91.1, .int .i64 0, .int .i64 ((W (st91.1 + 1)).tmod (W (1 + (W (p0.tmod 70)))))]) 0 bs24 (Nat.le_of_ble_eq_true rfl) Wt.no rfl rfl rfl rfl ?_
            intro b256 s257 m258 bx256
            have h256 := Bx.rdL (r := (rP (rK .i64) (rP (rK .i64) (rK .i64)))) (xs := ([(st91.1, 0, ((W (st91.1 + 1)).tmod (W (1 + (W (p0.tmod 70))))))] : List (Int × Int × Int))) bx256 ⟨[.int .i64 st91.1, .int .i64 0, .int .i64 ((W (st91.1 + 1)).tmod (W (1 + (W (p0.tmod 70)))))], _, rfl, ⟨[.int .i64 st91.1], [.int .i64 0, .int .i64 ((W (st91.1 + 1)).tmod (W (1 + (W (p0.tmod 70)))))], rfl, rfl, ⟨[.int .i64 0], [.int .i64 ((W (st91.1 + 1)).tmod (W (1 + (W (p0.tmod 70)))))], rfl, rfl, rfl⟩⟩, rfl⟩ (Nat.le_of_ble_eq_true rfl)
            refine L.nil ?_
            refine X.dr (s := s257) (e' := (52, .slice (some ⟨b256, 0, none⟩) ([(st91.1, 0, ((W (st91.1 + 1)).tmod (W (1 + (W (p0.tmod 70))))))] : List (Int × Int × Int)).length (([(st91.1, 0, ((W (st91.1 + 1)).tmod (W (1 + (W (p0.tmod 70))))))] : List (Int × Int × Int)).length)) :: e) (Sub.both (Kn.sup ⟨g7_, trivial⟩)) ⟨im.trans m258.no, Sub.fresh ib rfl, i0, i1, i2, i3, i4, i5, i6, i7, fun _ => ⟨b256, rfl, h256⟩, i9, i10, fun z2 => ((i11 z2).mv m258 no_No), fun z a261 c261 q9 => ((i12 z a261 c261 q9).mv m258 no_No), fun z2 => ((i13 z2).mv m258 no_No no_No), fun z a261 c261 q9 => ((i14 z a261 c261 q9).mv m258 no_No no_No)⟩
          · rintro D e s259 ⟨im, ib, i0, i1, i2, i3, i4, i5, i6, i7, i8, i9, i10, i11, i12, i13, i14⟩ hk hf ha
            obtain ⟨d0, d1, d2, d3, d4, d5, d6, d7, d8, -⟩ := ha
            have g1_ := i1 d1
            obtain ⟨b256, g8_, h256⟩ := i8 d8
            obtain h34 := i13 hk
            refine L.kns [(45, .slice a34 st91.2.length c34), (52, .slice (some ⟨b256, 0, none⟩) ([(st91.1, 0, ((W (st91.1 + 1)).tmod (W (1 + (W (p0.tmod 70))))))] : List (Int × Int × Int)).length (([(st91.1, 0, ((W (st91.1 + 1)).tmod (W (1 + (W (p0.tmod 70))))))] : List (Int × Int × Int)).length))] ⟨g1_, g8_, trivial⟩ ?_
            refine L.ap (r := (rP (rK .i64) (rP (rK .i64) (rK .i64)))) Try.underlying24 el28 rfl (tgp hN) h34 h256.wk Wt.no rfl rfl ex260 rfl ?_
            intro a261 c261 s262 m263 h261
            refine L.nil ?_
            refine X.dr (s := s262) (e' := (53, .slice a261 x260.length c261) :: e) (Sub.both (Kn.sup ⟨g1_, g8_, trivial⟩)) ⟨im.trans (m263.one (.inr rfl)), Sub.fresh ib rfl, i0, i1, i2, i3, i4, i5, i6, i7, fun z => let ⟨b256, q, h256⟩ := i8 z; ⟨b256, q, (h256.mono (m263.le (tg0 hN)))⟩, fun _ => ⟨a261, c261, rfl⟩, i10, fun z2 => ((i11 z2).mv m263 (tgN (by decide))), fun z => Bool.noConfusion ((hf 11 (Nat.le_of_ble_eq_true rfl) rfl).symm.trans z), fun z => Bool.noConfusion (show true = false from z), fun _ _ _ q9 => by cases (show some (.slice a261 x260.length c261 : Value) = some _ from q9); exact h261⟩
          · rintro D e s264 ⟨im, ib, i0, i1, i2, i3, i4, i5, i6, i7, i8, i9, i10, i11, i12, i13, i14⟩ hk hf ha
            obtain ⟨d0, d1, d2, d3, d4, d5, d6, d7, d8, d9, -⟩ := ha
            refine L.kns [(7, .pointer (some ⟨b7, 0, none⟩))] ⟨(ib 7 _ rfl), trivial⟩ ?_
            refine L.fa fa26_3 Wt.no rfl rfl ?_
            refine L.nil ?_
            refine X.dr (s := s264) (e' := (54, .pointer (some ⟨b7, 3, none⟩)) :: e) (Sub.both (Kn.sup ⟨(ib 7 _ rfl), trivial⟩)) ⟨im, Sub.fresh ib rfl, i0, i1, i2, i3, i4, i5, i6, i7, i8, i9, fun _ => rfl, i11, i12, i13, i14⟩
          · rintro D e s265 ⟨im, ib, i0, i1, i2, i3, i4, i5, i6, i7, i8, i9, i10, i11, i12, i13, i14⟩ hk hf ha
            obtain ⟨d0, d1, d2, d3, d4, d5, d6, d7, d8, d9, d10, -⟩ := ha
            obtain ⟨a261, c261, g9_⟩ := i9 d9
            have g10_ := i10 d10
            obtain bx7 := i11 hk
            refine L.kns [(54, .pointer (some ⟨b7, 3, none⟩)), (53, .slice a261 x260.length c261)] ⟨g10_, g9_, trivial⟩ ?_
            refine L.st (c := [.slice a261 x260.length c261]) (cs' := #[.slice a29 o27.length c29, .int .i64 (W (1 + (W (p0.tmod 70)))), .slice (some ⟨b4, 0, none⟩) ([0] : List Int).length (([0] : List Int).length), .slice a261 x260.length c261]) bx7 nag24.sz Wt.no rfl rfl rfl rfl rfl (Nat.le_of_ble_eq_true rfl) rfl ?_
            intro s266 m267 bx7
            refine L.nil ?_
            refine X.dr (s := s266) (e' := e) (Kn.sup ⟨g10_, g9_, trivial⟩) ⟨im.trans (m267.one (.inl rfl)), ib, i0, i1, i2, i3, i4, i5, i6, i7, fun z => let ⟨b256, q, h256⟩ := i8 z; ⟨b256, q, (h256.mono (m267.le (tg0 hN)))⟩, i9, i10, fun z => Bool.noConfusion (show true = false from z), fun _ _ _ q9 => by cases g9_.symm.trans q9; exact bx7, fun z2 => ((i13 z2).mv m267 (tgN (by decide)) (tg0 hN)), fun z a261 c261 q9 => ((i14 z a261 c261 q9).mv m267 (tgN (by decide)) (tg0 hN))⟩
        · rintro D e s268 hD ⟨im, ib, i0, i1, i2, i3, i4, i5, i6, i7, i8, i9, i10, i11, i12, i13, i14⟩
          obtain ⟨a261, c261, g9_⟩ := i9 (hD 9 rfl)
          obtain bx7 := i12 (hD 11 rfl) a261 c261 g9_
          obtain h261 := i14 (hD 9 rfl) a261 c261 g9_
          have h29 := h29.mv im (nor (tgN (by decide)) (tgN (by decide))) (nor (tg0 hN) (tg0 hN))
          have h4 := h4.mono (im.le (nor (tg0 hN) (tg0 hN)))
          have m0 := m0.trans (im.weak fun _ e => by rcases e with e | e; (rw [e]; exact up); (rw [e]; exact up))
          refine X.sub (e' := [(9, .int .i64 st91.1), (41, .int .i64 st91.1), (40, .int .i64 (W (1 + (W (p0.tmod 70))))), (7, .pointer (some ⟨b7, 0, none⟩)), (6, .int .i64 (W (p1.tmod 7))), (5, .int .i64 (W (1 + (W (p0.tmod 70)))))]) ?_ (Sub.cons (ib 9 _ rfl) (Sub.cons (ib 41 _ rfl) (Sub.cons (ib 40 _ rfl) (Sub.cons (ib 7 _ rfl) (Sub.cons (ib 6 _ rfl) (Sub.cons (ib 5 _ rfl) Sub.nil))))))
          refine X.seqN ?_
          refine E.seq ?_
          refine E.reg ?_
          refine L.mv Wt.no rfl rfl ?_
          refine L.mv Wt.no rfl rfl ?_
          refine L.nil ?_
          refine X.seqN ?_
          refine E.block ?_
          obtain ⟨o284, eo284, hm⟩ := bindS hm
          refine E.cut (x := .exit 4) (fun e w => ∃ (s288 : Sig) (a286 : Option Addr) (c286 : Nat), Mv (Up N No) s s288 ∧ RowT (rK .i64) s288 (N + 1) 3 a29 c29 o27 ∧ RdL (rK .i64) s288 (some ⟨b4, 0, none⟩) (([0] : List Int).length) ([0] : List Int) ∧ RowT (rP (rK .i64) (rP (rK .i64) (rK .i64))) s288 (N + 2) 28 a286 c286 o284 ∧ Bx s288 (N + 0) b7 #[.slice a29 o27.length c29, .int .i64 (W (1 + (W (p0.tmod 70)))), .slice (some ⟨b4, 0, none⟩) ([0] : List Int).length (([0] : List Int).length), .slice a286 o284.length c286] 26 ∧ e = [(41, .int .i64 st91.1), (40, .int .i64 (W (1 + (W (p0.tmod 70))))), (7, .pointer (some ⟨b7, 0, none⟩)), (6, .int .i64 (W (p1.tmod 7))), (5, .int .i64 (W (1 + (W (p0.tmod 70)))))] ∧ w = s288.w) ?_ ?_
          · rintro _ _ ⟨s288, a286, c286, m0, h29, h4, h286, bx7, rfl, rfl⟩
            refine X.blkE ?_
            refine X.blkN ?_
            refine X.seqN ?_
            refine E.reg ?_
            refine L.bi Wt.no rfl rfl rfl rfl ?_
            refine L.mv Wt.no rfl rfl ?_
            refine L.nil ?_
            exact X.sub (ih91 _ (Option.some.inj hm).symm _ _ ⟨s288, a286, c286, m0, h29, h4, h286, bx7, rfl, rfl⟩) (Sub.cons rfl (Sub.cons rfl (Sub.cons rfl (Sub.cons rfl (Sub.cons rfl Sub.nil)))))
          intro K289
          refine E.iter (fun (st284 : Int × (List (Int × Int × Int))) (e : List (Nat × Value)) (w : World) => ∃ (s287 : Sig) (a271 : Option Addr) (c271 : Nat), Mv (Up N No) s s287 ∧ RowT (rK .i64) s287 (N + 1) 3 a29 c29 o27 ∧ RdL (rK .i64) s287 (some ⟨b4, 0, none⟩) (([0] : List Int).length) ([0] : List Int) ∧ RowT (rP (rK .i64) (rP (rK .i64) (rK .i64))) s287 (N + 2) 28 a271 c271 st284.2 ∧ Bx s287 (N + 0) b7 #[.slice a29 o27.length c29, .int .i64 (W (1 + (W (p0.tmod 70)))), .slice (some ⟨b4, 0, none⟩) ([0] : List Int).length (([0] : List Int).length), .slice a271 st284.2.length c271] 26 ∧ e = [(56, .int .i64 st284.1), (55, .int .i64 (W (p1.tmod 7))), (9, .int .i64 st91.1), (41, .int .i64 st91.1), (40, .int .i64 (W (1 + (W (p0.tmod 70))))), (7, .pointer (some ⟨b7, 0, none⟩)), (6, .int .i64 (W (p1.tmod 7))), (5, .int .i64 (W (1 + (W (p0.tmod 70)))))] ∧ w = s287.w) eo284 ⟨s268, a261, c261, m0, h29, h4, h261, bx7, rfl, rfl⟩ (Sub.cons rfl (Sub.cons rfl (Sub.cons rfl (Sub.cons rfl (Sub.cons rfl (Sub.cons rfl (Sub.cons rfl (Sub.cons rfl Sub.nil)))))))) ?_
          rintro st284 res284 hm ih284 ho284 _ _ ⟨s287, a271, c271, m0, h29, h4, h271, bx7, rfl, rfl⟩
          unfold m_overseerlaw53_GenerateLimits_l4 at hm
          refine E.seq ?_
          refine E.reg ?_
          refine L.bi Wt.no rfl rfl rfl rfl ?_
          refine L.nil ?_
          refine X.seqN ?_
          refine E.seq ?_
          rcases ifS hm with ⟨hc, hm⟩ | ⟨hc, hm⟩
          · refine E.cT rfl hc ?_
            refine E.skip ?_
            refine X.seqN ?_
            refine E.seq ?_
            refine E.block ?_
            refine E.seq ?_
            refine E.reg ?_
            refine L.mv Wt.no rfl rfl ?_
            refine L.as Wt.no rfl rfl ?_
            refine L.nil ?_
            refine X.seqN ?_
            refine E.reg ?_
            refine L.fa fa26_3 Wt.no rfl rfl ?_
            refine L.ld (j := 3) bx7.mem nag24 Wt.no rfl rfl rfl rfl ?_
            refine L.mv Wt.no rfl rfl ?_
            refine L.mv Wt.no rfl rfl ?_
            refine L.bi Wt.no rfl rfl rfl rfl ?_
            refine L.mv Wt.no rfl rfl ?_
            refine L.bu (cs := [.int .i64 st91.1, .int .i64 (W (st284.1 + 1)), .int .i64 st91.1]) pl28 Wt.no rfl rfl rfl ?_
            refine L.bsE (k := 1) (cs := [.int .i64 st91.1, .int .i64 (W (st284.1 + 1)), .int .i64 st91.1]) 0 bs24 (Nat.le_of_ble_eq_true rfl) Wt.no rfl rfl rfl rfl ?_
            intro b290 s291 m292 bx290
            replace m0 := m0.trans m292.no
            replace h271 := h271.mv m292 no_No no_No
            replace bx7 := bx7.mv m292 no_No
            replace h29 := h29.mv m292 no_No no_No
            replace h4 := h4.mono (m292.le no_No)
            have h290 := Bx.rdL (r := (rP (rK .i64) (rP (rK .i64) (rK .i64)))) (xs := ([(st91.1, W (st284.1 + 1), st91.1)] : List (Int × Int × Int))) bx290 ⟨[.int .i64 st91.1, .int .i64 (W (st284.1 + 1)), .int .i64 st91.1], _, rfl, ⟨[.int .i64 st91.1], [.int .i64 (W (st284.1 + 1)), .int .i64 st91.1], rfl, rfl, ⟨[.int .i64 (W (st284.1 + 1))], [.int .i64 st91.1], rfl, rfl, rfl⟩⟩, rfl⟩ (Nat.le_of_ble_eq_true rfl)
            obtain ⟨x293, ex293, hm⟩ := bindS hm
            refine L.ap (r := (rP (rK .i64) (rP (rK .i64) (rK .i64)))) Try.underlying24 el28 rfl (tgp hN) h271 h290.wk Wt.no rfl rfl ex293 rfl ?_
            intro a294 c294 s295 m296 h294
            replace m0 := m0.trans (m296.one up)
            replace bx7 := bx7.mv m296 (tgN (by decide))
            replace h29 := h29.mv m296 (tgN (by decide)) (tg0 hN)
            replace h4 := h4.mono (m296.le (tg0 hN))
            refine L.fa fa26_3 Wt.no rfl rfl ?_
            refine L.st (c := [.slice a294 x293.length c294]) (cs' := #[.slice a29 o27.length c29, .int .i64 (W (1 + (W (p0.tmod 70)))), .slice (some ⟨b4, 0, none⟩) ([0] : List Int).length (([0] : List Int).length), .slice a294 x293.length c294]) bx7 nag24.sz Wt.no rfl rfl rfl rfl rfl (Nat.le_of_ble_eq_true rfl) rfl ?_
            intro s297 m298 bx7
            replace m0 := m0.trans (m298.one up)
            replace h29 := h29.mv m298 (tgN (by decide)) (tg0 hN)
            replace h4 := h4.mono (m298.le (tg0 hN))
            replace h294 := h294.mv m298 (tgN (by decide)) (tg0 hN)
            refine L.nil ?_
            refine X.blkN ?_
            refine X.seqN ?_
            refine E.reg ?_
            refine L.bi Wt.no rfl rfl rfl rfl ?_
            refine L.mv Wt.no rfl rfl ?_
            refine L.nil ?_
            exact X.sub (ih284 _ (Option.some.inj hm).symm _ _ ⟨s297, a294, c294, m0, h29, h4, h294, bx7, rfl, rfl⟩) (Sub.cons rfl (Sub.cons rfl (Sub.cons rfl (Sub.cons rfl (Sub.cons rfl (Sub.cons rfl (Sub.cons rfl (Sub.cons rfl Sub.nil))))))))
          · refine E.cF rfl hc ?_
            refine E.exit ?_
            refine X.seqX ?_
            refine X.seqX ?_
            have hx := ho284 _ (Option.some.inj hm).symm
            subst hx
            exact X.sub (K289 _ _ ⟨s287, a271, c271, m0, h29, h4, h271, bx7, rfl, rfl⟩) (Sub.cons rfl (Sub.cons rfl (Sub.cons rfl (Sub.cons rfl (Sub.cons rfl Sub.nil)))))
      · refine E.cF rfl hc ?_
        refine E.exit ?_
        refine X.seqX ?_
        refine X.seqX ?_
        have hx := ho91 _ (Option.some.inj hm).symm
        subst hx
        exact X.sub (K245 _ _ ⟨s94, a34, c34, m0, h29, h4, h34, bx7, rfl, rfl⟩) (Sub.cons rfl (Sub.cons rfl Sub.nil))
    intro K299
    refine E.iter (fun (st27 : Int × List Int) (e : List (Nat × Value)) (w : World) => ∃ (s30 : Sig) (a14 : Option Addr) (c14 : Nat), Mv (Up N No) s s30 ∧ RowT (rK .i64) s30 (N + 1) 3 a14 c14 st27.2 ∧ RdL (rK .i64) s30 (some ⟨b4, 0, none⟩) (([0] : List Int).length) ([0] : List Int) ∧ Bx s30 (N + 0) b7 #[.slice a14 st27.2.length c14, .int .i64 (W (1 + (W (p0.tmod 70)))), .slice (some ⟨b4, 0, none⟩) ([0] : List Int).length (([0] : List Int).length), .slice none 0 0] 26 ∧ e = [(30, .int .i64 st27.1), (29, .int .i64 (W ((W (p1.tmod 7)) + 1))), (7, .pointer (some ⟨b7, 0, none⟩)), (6, .int .i64 (W (p1.tmod 7))), (5, .int .i64 (W (1 + (W (p0.tmod 70)))))] ∧ w = s30.w) eo27 ⟨s10, none, 0, m0, RowT.nil, h4, bx7, rfl, rfl⟩ (Sub.cons rfl (Sub.cons rfl (Sub.cons rfl (Sub.cons rfl (Sub.cons rfl Sub.nil))))) ?_
    rintro st27 res27 hm ih27 ho27 _ _ ⟨s30, a14, c14, m0, h14, h4, bx7, rfl, rfl⟩
    unfold m_overseerlaw53_GenerateLimits_l1 at hm
    refine E.seq ?_
    refine E.reg ?_
    refine L.bi Wt.no rfl rfl rfl rfl ?_
    refine L.nil ?_
    refine X.seqN ?_
    refine E.seq ?_
    rcases ifS hm with ⟨hc, hm⟩ | ⟨hc, hm⟩
    · refine E.cT rfl hc ?_
      refine E.skip ?_
      refine X.seqN ?_
      refine E.seq ?_
      refine E.block ?_
      refine E.seq ?_
      refine E.reg ?_
      refine L.mv Wt.no rfl rfl ?_
      refine L.as Wt.no rfl rfl ?_
      refine L.nil ?_
      refine X.seqN ?_
      refine E.reg ?_
      refine L.fa fa26_0 Wt.no rfl rfl ?_
      refine L.ld (j := 0) bx7.mem nag23 Wt.no rfl rfl rfl rfl ?_
      refine L.mv Wt.no rfl rfl ?_
      refine L.bsE (k := 1) (cs := [.int .i64 st27.1]) 0 bs23 (Nat.le_of_ble_eq_true rfl) Wt.no rfl rfl rfl rfl ?_
      intro b300 s301 m302 bx300
      replace m0 := m0.trans m302.no
      replace h14 := h14.mv m302 no_No no_No
      replace bx7 := bx7.mv m302 no_No
      replace h4 := h4.mono (m302.le no_No)
      have h300 := Bx.rdL (r := (rK .i64)) (xs := ([st27.1] : List Int)) bx300 ⟨[.int .i64 st27.1], _, rfl, rfl, rfl⟩ (Nat.le_of_ble_eq_true rfl)
      obtain ⟨x303, ex303, hm⟩ := bindS hm
      refine L.ap (r := (rK .i64)) Try.underlying23 el3 rfl (tgp hN) h14 h300.wk Wt.no rfl rfl ex303 rfl ?_
      intro a304 c304 s305 m306 h304
      replace m0 := m0.trans (m306.one up)
      replace bx7 := bx7.mv m306 (tgN (by decide))
      replace h4 := h4.mono (m306.le (tg0 hN))
      refine L.fa fa26_0 Wt.no rfl rfl ?_
      refine L.st (c := [.slice a304 x303.length c304]) (cs' := #[.slice a304 x303.length c304, .int .i64 (W (1 + (W (p0.tmod 70)))), .slice (some ⟨b4, 0, none⟩) ([0] : List Int).length (([0] : List Int).length), .slice none 0 0]) bx7 nag23.sz Wt.no rfl rfl rfl rfl rfl (Nat.le_of_ble_eq_true rfl) rfl ?_
      intro s307 m308 bx7
      replace m0 := m0.trans (m308.one up)
      replace h304 := h304.mv m308 (tgN (by decide)) (tg0 hN)
      replace h4 := h4.mono (m308.le (tg0 hN))
      refine L.nil ?_
      refine X.blkN ?_
      refine X.seqN ?_
      refine E.reg ?_
      refine L.bi Wt.no rfl rfl rfl rfl ?_
      refine L.mv Wt.no rfl rfl ?_
      refine L.nil ?_
      exact X.sub (ih27 _ (Option.some.inj hm).symm _ _ ⟨s307, a304, c304, m0, h304, h4, bx7, rfl, rfl⟩) (Sub.cons rfl (Sub.cons rfl (Sub.cons rfl (Sub.cons rfl (Sub.cons rfl Sub.nil)))))
    · refine E.cF rfl hc ?_
      refine E.exit ?_
      refine X.seqX ?_
      refine X.seqX ?_
      have hx := ho27 _ (Option.some.inj hm).symm
      subst hx
      exact X.sub (K299 _ _ ⟨s30, a14, c14, m0, h14, h4, bx7, rfl, rfl⟩) (Sub.cons rfl (Sub.cons rfl (Sub.cons rfl Sub.nil)))

noncomputable def m_overseerlaw03_Set_Events_j1 (st20 : Int × List Int) (l26 : List Int) : Option ((Int × List Int) ⊕ (List Int)) :=
  some (.inl (W (st20.1 + 1), l26))
noncomputable def m_overseerlaw03_Set_Events_l1 (p0 : Int) (st20 : Int × List Int) : Option ((Int × List Int) ⊕ (List Int)) :=
  if decide (st20.1 < 5) then
    (ng st20.1).bind fun _ =>
    if ((IntKind.u8.wrap (((BitVec.ofInt 8 (p0.fdiv (2 ^ (min st20.1.toNat 8))) &&& BitVec.ofInt 8 1).toNat : Int))) == 1) then
      (app st20.2 ([st20.1] : List Int)).bind fun x34 =>
      m_overseerlaw03_Set_Events_j1 st20 x34
    else
      m_overseerlaw03_Set_Events_j1 st20 st20.2
  else
    some (.inr st20.2)
/-- What overseerlaw03.Set).Events computes. -/
noncomputable def m_overseerlaw03_Set_Events (p0 : Int) : Option (List Int) :=
  (iter (m_overseerlaw03_Set_Events_l1 p0) (0, ([] : List Int))).bind fun o20 =>
  some o20
set_option maxRecDepth 100000 in
set_option maxHeartbeats 8000000 in
theorem m_overseerlaw03_Set_Events_c {s : Sig} {p0 : Int} {u0 : Nat} {r : List Int} (hm : m_overseerlaw03_Set_Events p0 = some r) :
    Calls Try.prog 47 #[.int .u8 p0] s.w (RetS No s fun v s' => ∃ (a1 : Option Addr) (c1 : Nat), v = .slice a1 r.length c1 ∧ RowT (rK .i64) s' u0 3 a1 c1 r) := by
  unfold m_overseerlaw03_Set_Events at hm
  obtain ⟨N, hN, hNb⟩ := s.fresh
  have m0 : Mv (Up N No) s s := Mv.refl _ _
  refine E.entry (vs := [.int .u8 p0]) (e := [(0, .int .u8 p0)]) Try.func47 rfl Try.ntmps47 rfl rfl ?_
  refine E.seq ?_
  refine E.reg ?_
  refine L.as Wt.no rfl rfl ?_
  refine L.nil ?_
  refine X.seqN ?_
  refine E.seq ?_
  refine E.reg ?_
  refine L.as Wt.no rfl rfl ?_
  refine L.nil ?_
  refine X.seqN ?_
  refine E.seq ?_
  refine E.seq ?_
  refine E.reg ?_
  refine L.as Wt.no rfl rfl ?_
  refine L.nil ?_
  refine X.seqN ?_
  refine E.block ?_
  obtain ⟨o20, eo20, hm⟩ := bindS hm
  refine E.cut (x := .exit 0) (fun e w => ∃ (s24 : Sig) (a22 : Option Addr) (c22 : Nat), Mv (Up N No) s s24 ∧ RowT (rK .i64) s24 (N + 0) 3 a22 c22 o20 ∧ e = [(3, .slice a22 o20.length c22)] ∧ w = s24.w) ?_ ?_
  · rintro _ _ ⟨s24, a22, c22, m0, h22, rfl, rfl⟩
    refine X.blkE ?_
    refine X.seqN ?_
    refine E.seq ?_
    refine E.reg ?_
    refine L.mv Wt.no rfl rfl ?_
    refine L.as Wt.no rfl rfl ?_
    refine L.nil ?_
    refine X.seqN ?_
    refine E.ret ?_
    obtain rfl := Option.some.inj hm
    exact X.rt (.inl rfl) Try.results47 (Rs.tmp rfl Rs.nil) rfl ⟨_, (s24).ren N (fun k => cond (Nat.beq k 0) u0 (0)), rfl, rfl, m0.ren hNb, ⟨a22, c22, rfl, (h22.ren hN)⟩⟩
  intro K25
  refine E.iter (fun (st20 : Int × List Int) (e : List (Nat × Value)) (w : World) => ∃ (s23 : Sig) (a4 : Option Addr) (c4 : Nat), Mv (Up N No) s s23 ∧ RowT (rK .i64) s23 (N + 0) 3 a4 c4 st20.2 ∧ e = [(4, .int .i64 st20.1), (3, .slice a4 st20.2.length c4), (0, .int .u8 p0)] ∧ w = s23.w) eo20 ⟨s, none, 0, m0, RowT.nil, rfl, rfl⟩ (Sub.cons rfl (Sub.cons rfl (Sub.cons rfl Sub.nil))) ?_
  rintro st20 res20 hm ih20 ho20 _ _ ⟨s23, a4, c4, m0, h4, rfl, rfl⟩
  unfold m_overseerlaw03_Set_Events_l1 at hm
  refine E.seq ?_
  refine E.seq ?_
  refine E.reg ?_
  refine L.mv Wt.no rfl rfl ?_
  refine L.bi Wt.no rfl rfl rfl rfl ?_
  refine L.nil ?_
  refine X.seqN ?_
  rcases ifS hm with ⟨hc, hm⟩ | ⟨hc, hm⟩
  · refine E.cT rfl hc ?_
    refine E.skip ?_
    refine X.seqN ?_
    refine E.seqJ (fun e w => ∃ (s28 : Sig) (l26 : List Int) (a27 : Option Addr) (c27 : Nat), m_overseerlaw03_Set_Events_j1 st20 l26 = some res20 ∧ Mv (Up N No) s s28 ∧ RowT (rK .i64) s28 (N + 0) 3 a27 c27 l26 ∧ e = [(3, .slice a27 l26.length c27), (4, .int .i64 st20.1), (0, .int .u8 p0)] ∧ w = s28.w) ?_ ?_
    · rintro _ _ ⟨s28, l26, a27, c27, hm, m0, h27, rfl, rfl⟩
      unfold m_overseerlaw03_Set_Events_j1 at hm
      refine E.reg ?_
      refine L.mv Wt.no rfl rfl ?_
      refine L.bi Wt.no rfl rfl rfl rfl ?_
      refine L.as Wt.no rfl rfl ?_
      refine L.nil ?_
      exact X.sub (ih20 _ (Option.some.inj hm).symm _ _ ⟨s28, a27, c27, m0, h27, rfl, rfl⟩) (Sub.cons rfl (Sub.cons rfl (Sub.cons rfl Sub.nil)))
    · intro Jj29
      refine E.block ?_
      refine E.seq ?_
      refine E.reg ?_
      refine L.mv Wt.no rfl rfl ?_
      refine L.mv Wt.no rfl rfl ?_
      obtain ⟨_, z30, hm⟩ := bindS hm
      refine L.shr Wt.no rfl rfl (ng_some z30) rfl ?_
      refine L.bi Wt.no rfl rfl rfl rfl ?_
      refine L.bi Wt.no rfl rfl rfl rfl ?_
      refine L.nil ?_
      refine X.seqN ?_
      rcases ifS hm with ⟨hc, hm⟩ | ⟨hc, hm⟩
      · refine E.cT rfl hc ?_
        refine E.reg ?_
        refine L.mv Wt.no rfl rfl ?_
        refine L.mv Wt.no rfl rfl ?_
        refine L.bsE (k := 1) (cs := [.int .i64 st20.1]) 0 bs23 (Nat.le_of_ble_eq_true rfl) Wt.no rfl rfl rfl rfl ?_
        intro b31 s32 m33 bx31
        replace m0 := m0.trans m33.no
        replace h4 := h4.mv m33 no_No no_No
        have h31 := Bx.rdL (r := (rK .i64)) (xs := ([st20.1] : List Int)) bx31 ⟨[.int .i64 st20.1], _, rfl, rfl, rfl⟩ (Nat.le_of_ble_eq_true rfl)
        obtain ⟨x34, ex34, hm⟩ := bindS hm
        refine L.ap (r := (rK .i64)) Try.underlying23 el3 rfl (tgp hN) h4 h31.wk Wt.no rfl rfl ex34 rfl ?_
        intro a35 c35 s36 m37 h35
        replace m0 := m0.trans (m37.one up)
        refine L.as Wt.no rfl rfl ?_
        refine L.nil ?_
        refine X.blkN ?_
        exact X.sub (Jj29 _ _ ⟨s36, x34, a35, c35, hm, m0, h35, rfl, rfl⟩) (Sub.cons rfl (Sub.cons rfl (Sub.cons rfl Sub.nil)))
      · refine E.cF rfl hc ?_
        refine E.skip ?_
        refine X.blkN ?_
        exact X.sub (Jj29 _ _ ⟨s23, st20.2, a4, c4, hm, m0, h4, rfl, rfl⟩) (Sub.cons rfl (Sub.cons rfl (Sub.cons rfl Sub.nil)))
  · refine E.cF rfl hc ?_
    refine E.exit ?_
    refine X.seqX ?_
    refine X.seqX ?_
    have hx := ho20 _ (Option.some.inj hm).symm
    subst hx
    exact X.sub (K25 _ _ ⟨s23, a4, c4, m0, h4, rfl, rfl⟩) (Sub.cons rfl Sub.nil)

/-- What overseerref03.Empty computes. -/
noncomputable def m_overseerref03_Empty (p0 : List Int) : Option (List Int × Int × List Int × (List (Int × Int × Int))) :=
  (app ([] : List Int) p0).bind fun x11 =>
  some (x11, 0, ([] : List Int), ([] : List (Int × Int × Int)))
set_option maxRecDepth 100000 in
set_option maxHeartbeats 8000000 in
theorem m_overseerref03_Empty_c {s : Sig} {p0 : List Int} {a1 : Option Addr} {c1 : Nat} {u0 : Nat} {u1 : Nat} {u2 : Nat} {r : (List Int × Int × List Int × (List (Int × Int × Int)))} (h1 : RdL (rK .i64) s a1 c1 p0) (hm : m_overseerref03_Empty p0 = some r) :
    Calls Try.prog 70 #[.slice a1 p0.length c1] s.w (RetS No s fun v s' => ∃ (a2 : Option Addr) (c2 : Nat) (a3 : Option Addr) (c3 : Nat) (a4 : Option Addr) (c4 : Nat), v = .agg #[.slice a2 r.1.length c2, .int .i64 r.2.1, .slice a3 r.2.2.1.length c3, .slice a4 r.2.2.2.length c4] ∧ RowT (rK .i64) s' u0 3 a2 c2 r.1 ∧ RowT (rK .i64) s' u1 3 a3 c3 r.2.2.1 ∧ RowT (rP (rK .i64) (rP (rK .i64) (rK .i64))) s' u2 28 a4 c4 r.2.2.2) := by
  unfold m_overseerref03_Empty at hm
  obtain ⟨N, hN, hNb⟩ := s.fresh
  have m0 : Mv (Up N No) s s := Mv.refl _ _
  refine E.entry (vs := [.slice a1 p0.length c1]) (e := [(0, .slice a1 p0.length c1)]) Try.func70 rfl Try.ntmps70 rfl rfl ?_
  refine E.seq ?_
  refine E.reg ?_
  refine L.al (N + 0) zz26 rfl Wt.no rfl ?_
  intro b5 s6 m7 bx5
  replace m0 := m0.trans m7.no
  replace h1 := h1.mono (m7.le no_No)
  refine L.nil ?_
  refine X.seqN ?_
  refine E.seq ?_
  refine E.reg ?_
  refine L.bs0 (N + 1) bs23 (Nat.le_of_ble_eq_true rfl) Wt.no rfl ?_
  intro b8 s9 m10 bx8
  replace m0 := m0.trans m10.no
  replace h1 := h1.mono (m10.le no_No)
  replace bx5 := bx5.mv m10 no_No
  have h8 := Bx.row (r := (rK .i64)) (xs := ([] : List Int)) bx8 rfl (Nat.le_of_ble_eq_true rfl)
  refine L.mv Wt.no rfl rfl ?_
  obtain ⟨x11, ex11, hm⟩ := bindS hm
  refine L.ap (r := (rK .i64)) Try.underlying23 el3 rfl (tgp hN) h8 h1.wk Wt.no rfl rfl ex11 rfl ?_
  intro a12 c12 s13 m14 h12
  replace m0 := m0.trans (m14.one up)
  replace bx5 := bx5.mv m14 (tgN (by decide))
  refine L.bu (cs := [.slice a12 x11.length c12, .int .i64 0, .slice none 0 0, .slice none 0 0]) pl26 Wt.no rfl rfl rfl ?_
  refine L.st (c := [.slice a12 x11.length c12, .int .i64 0, .slice none 0 0, .slice none 0 0]) (cs' := #[.slice a12 x11.length c12, .int .i64 0, .slice none 0 0, .slice none 0 0]) bx5 ag26.sz Wt.no rfl rfl rfl rfl rfl (Nat.le_of_ble_eq_true rfl) rfl ?_
  intro s15 m16 bx5
  replace m0 := m0.trans (m16.one up)
  replace h12 := h12.mv m16 (tgN (by decide)) (tg0 hN)
  refine L.nil ?_
  refine X.seqN ?_
  refine E.ret ?_
  obtain rfl := Option.some.inj hm
  exact X.rt (.inl rfl) Try.results70 (Rs.cell rfl bx5 ag26 rfl Rs.nil) rfl ⟨_, (s15).ren N (fun k => cond (Nat.beq k 1) u0 (0)), rfl, rfl, m0.ren hNb, ⟨a12, c12, none, 0, none, 0, rfl, (h12.ren hN), RowT.nil, RowT.nil⟩⟩

noncomputable def m_overseerref03_Step_l1 (p0 : List Int × Int × List Int × (List (Int × Int × Int))) (p1 : Int) (p2 : Int) (st18 : Int) : Option (Int ⊕ (Unit ⊕ Int)) :=
  if decide (st18 < (p0.2.2.2.length : Int)) then
    (idx p0.2.2.2 st18).bind fun x27 =>
    (if (x27.1 == p1) then
      (idx p0.2.2.2 st18).bind fun x34 =>
      some (x34.2.1 == p2)
    else
      some false).bind fun b29 =>
    if b29 then
      (idx p0.2.2.2 st18).bind fun x31 =>
      some (.inr (.inr (x31.2.2)))
    else
      some (.inl (W (st18 + 1)))
  else
    some (.inr (.inl ()))
/-- What overseerref03.Step computes. -/
noncomputable def m_overseerref03_Step (p0 : List Int × Int × List Int × (List (Int × Int × Int))) (p1 : Int) (p2 : Int) : Option Int :=
  (iter (m_overseerref03_Step_l1 p0 p1 p2) 0).bind fun o18 =>
  match o18 with
  | .inl u21 =>
    some (-1)
  | .inr (u24) =>
    some u24
set_option maxRecDepth 100000 in
set_option maxHeartbeats 8000000 in
theorem m_overseerref03_Step_c {s : Sig} {p0 : List Int × Int × List Int × (List (Int × Int × Int))} {p1 : Int} {p2 : Int} {a1 : Option Addr} {c1 : Nat} {a2 : Option Addr} {c2 : Nat} {a3 : Option Addr} {c3 : Nat} {r : Int} (h1 : RdL (rK .i64) s a1 c1 p0.1) (h2 : RdL (rK .i64) s a2 c2 p0.2.2.1) (h3 : RdL (rP (rK .i64) (rP (rK .i64) (rK .i64))) s a3 c3 p0.2.2.2) (hm : m_overseerref03_Step p0 p1 p2 = some r) :
    Calls Try.prog 82 #[.agg #[.slice a1 p0.1.length c1, .int .i64 p0.2.1, .slice a2 p0.2.2.1.length c2, .slice a3 p0.2.2.2.length c3], .int .i64 p1, .int .i64 p2] s.w (RetS No s fun v s' => v = .int .i64 r) := by
  unfold m_overseerref03_Step at hm
  obtain ⟨N, hN, hNb⟩ := s.fresh
  have m0 : Mv (Up N No) s s := Mv.refl _ _
  refine E.entry (vs := [.agg #[.slice a1 p0.1.length c1, .int .i64 p0.2.1, .slice a2 p0.2.2.1.length c2, .slice a3 p0.2.2.2.length c3], .int .i64 p1, .int .i64 p2]) (e := [(0, .agg #[.slice a1 p0.1.length c1, .int .i64 p0.2.1, .slice a2 p0.2.2.1.length c2, .slice a3 p0.2.2.2.length c3]), (1, .int .i64 p1), (2, .int .i64 p2)]) Try.func82 rfl Try.ntmps82 rfl rfl ?_
  refine E.seq ?_
  refine E.reg ?_
  refine L.box (N + 0) Wt.no rfl rfl rfl ?_
  intro b4 s5 m6 bx4
  replace m0 := m0.trans m6.no
  replace h1 := h1.mono (m6.le no_No)
  replace h2 := h2.mono (m6.le no_No)
  replace h3 := h3.mono (m6.le no_No)
  refine L.as Wt.no rfl rfl ?_
  refine L.nil ?_
  refine X.seqN ?_
  refine E.seq ?_
  refine E.seq ?_
  refine E.reg ?_
  refine L.as Wt.no rfl rfl ?_
  refine L.nil ?_
  refine X.seqN ?_
  refine E.block ?_
  obtain ⟨o18, eo18, hm⟩ := bindS hm
  refine E.cut (x := .exit 0) (fun e w => ∃ (s22 : Sig) (u21 : Unit), o18 = .inl u21 ∧ Mv (Up N No) s s22 ∧ e = [] ∧ w = s22.w) ?_ ?_
  · rintro _ _ ⟨s22, u21, rfl, m0, rfl, rfl⟩
    dsimp only at hm
    refine X.blkE ?_
    refine X.seqN ?_
    refine E.seq ?_
    refine E.reg ?_
    refine L.as Wt.no rfl rfl ?_
    refine L.nil ?_
    refine X.seqN ?_
    refine E.ret ?_
    obtain rfl := Option.some.inj hm
    exact X.rt (.inl rfl) Try.results82 (Rs.tmp rfl Rs.nil) rfl ⟨_, (s22).ren N (fun _ => 0), rfl, rfl, m0.ren hNb, rfl⟩
  intro K23
  refine E.cut (x := .ret) (fun e w => ∃ (s25 : Sig) (u24 : Int), o18 = .inr (u24) ∧ Mv (Up N No) s s25 ∧ e = [(6, .int .i64 u24)] ∧ w = s25.w) ?_ ?_
  · rintro _ _ ⟨s25, u24, rfl, m0, rfl, rfl⟩
    dsimp only at hm
    refine X.blkR ?_
    refine X.seqR ?_
    obtain rfl := Option.some.inj hm
    exact X.rt (.inl rfl) Try.results82 (Rs.tmp rfl Rs.nil) rfl ⟨_, (s25).ren N (fun _ => 0), rfl, rfl, m0.ren hNb, rfl⟩
  intro K26
  refine E.iter (fun (st18 : Int) (e : List (Nat × Value)) (w : World) => ∃ (s20 : Sig), Mv (Up N No) s s20 ∧ RdL (rK .i64) s20 a1 c1 p0.1 ∧ RdL (rK .i64) s20 a2 c2 p0.2.2.1 ∧ RdL (rP (rK .i64) (rP (rK .i64) (rK .i64))) s20 a3 c3 p0.2.2.2 ∧ Bx s20 (N + 0) b4 #[.slice a1 p0.1.length c1, .int .i64 p0.2.1, .slice a2 p0.2.2.1.length c2, .slice a3 p0.2.2.2.length c3] 26 ∧ e = [(7, .int .i64 st18), (3, .pointer (some ⟨b4, 0, none⟩)), (1, .int .i64 p1), (2, .int .i64 p2)] ∧ w = s20.w) eo18 ⟨s5, m0, h1, h2, h3, bx4, rfl, rfl⟩ (Sub.cons rfl (Sub.cons rfl (Sub.cons rfl (Sub.cons rfl Sub.nil)))) ?_
  rintro st18 res18 hm ih18 ho18 _ _ ⟨s20, m0, h1, h2, h3, bx4, rfl, rfl⟩
  unfold m_overseerref03_Step_l1 at hm
  refine E.seq ?_
  refine E.seq ?_
  refine E.reg ?_
  refine L.mv Wt.no rfl rfl ?_
  refine L.fa fa26_3 Wt.no rfl rfl ?_
  refine L.ld (j := 3) bx4.mem nag24 Wt.no rfl rfl rfl rfl ?_
  refine L.len sl24 Wt.no rfl rfl ?_
  refine L.bi Wt.no rfl rfl rfl rfl ?_
  refine L.nil ?_
  refine X.seqN ?_
  rcases ifS hm with ⟨hc, hm⟩ | ⟨hc, hm⟩
  · refine E.cT rfl hc ?_
    refine E.skip ?_
    refine X.seqN ?_
    refine E.seq ?_
    refine E.block ?_
    refine E.seq ?_
    refine E.reg ?_
    refine L.fa fa26_3 Wt.no rfl rfl ?_
    refine L.ld (j := 3) bx4.mem nag24 Wt.no rfl rfl rfl rfl ?_
    refine L.mv Wt.no rfl rfl ?_
    obtain ⟨x27, ex27, hm⟩ := bindS hm
    refine L.ix (r := (rP (rK .i64) (rP (rK .i64) (rK .i64)))) sl24 h3 Wt.no rfl rfl ex27 rfl ?_
    rintro b28 o28 cc28 me28 rd28
    obtain ⟨_, _, rfl, rfl, ⟨_, _, rfl, rfl, rfl⟩⟩ := rd28
    refine L.fa fa28_0 Wt.no rfl rfl ?_
    refine L.ld (j := 0) me28 nag3 Wt.no rfl rfl rfl rfl ?_
    refine L.mv Wt.no rfl rfl ?_
    refine L.bi Wt.no rfl rfl rfl rfl ?_
    refine L.mv Wt.no rfl rfl ?_
    obtain ⟨b29, eb29, hm⟩ := bindS hm
    refine L.cut 9 (fun e w => ∃ (v30 : Bool), b29 = v30 ∧ e = (32, .bool v30) :: [(7, .int .i64 st18), (3, .pointer (some ⟨b4, 0, none⟩)), (1, .int .i64 p1), (2, .int .i64 p2)] ∧ w = s20.w) ?_ ?_
    · rintro _ _ ⟨v30, rfl, rfl, rfl⟩
      refine L.nil ?_
      refine X.seqN ?_
      rcases ifS hm with ⟨hc, hm⟩ | ⟨hc, hm⟩
      · refine E.cT rfl hc ?_
        refine E.seq ?_
        refine E.reg ?_
        refine L.fa fa26_3 Wt.no rfl rfl ?_
        refine L.ld (j := 3) bx4.mem nag24 Wt.no rfl rfl rfl rfl ?_
        refine L.mv Wt.no rfl rfl ?_
        obtain ⟨x31, ex31, hm⟩ := bindS hm
        refine L.ix (r := (rP (rK .i64) (rP (rK .i64) (rK .i64)))) sl24 h3 Wt.no rfl rfl ex31 rfl ?_
        rintro b32 o32 cc32 me32 rd32
        obtain ⟨_, _, rfl, rfl, ⟨_, _, rfl, rfl, rfl⟩⟩ := rd32
        refine L.fa fa28_2 Wt.no rfl rfl ?_
        refine L.ld (j := 2) me32 nag3 Wt.no rfl rfl rfl rfl ?_
        refine L.as Wt.no rfl rfl ?_
        refine L.nil ?_
        refine X.seqN ?_
        refine E.ret ?_
        refine X.blkR ?_
        refine X.seqR ?_
        refine X.seqR ?_
        have hx := ho18 _ (Option.some.inj hm).symm
        exact X.sub (K26 _ _ ⟨s20, x31.2.2, hx.symm, m0, rfl, rfl⟩) (Sub.cons rfl Sub.nil)
      · refine E.cF rfl hc ?_
        refine E.skip ?_
        refine X.blkN ?_
        refine X.seqN ?_
        refine E.reg ?_
        refine L.mv Wt.no rfl rfl ?_
        refine L.bi Wt.no rfl rfl rfl rfl ?_
        refine L.as Wt.no rfl rfl ?_
        refine L.nil ?_
        exact X.sub (ih18 _ (Option.some.inj hm).symm _ _ ⟨s20, m0, h1, h2, h3, bx4, rfl, rfl⟩) (Sub.cons rfl (Sub.cons rfl (Sub.cons rfl (Sub.cons rfl Sub.nil))))
    · intro J33
      rcases ifS eb29 with ⟨hc, hm⟩ | ⟨hc, hm⟩
      · refine L.know (d := 23) rfl hc ?_
        refine L.fa fa26_3 (Wt.mk rfl rfl) rfl rfl ?_
        refine L.ld (j := 3) bx4.mem nag24 (Wt.mk rfl rfl) rfl rfl rfl rfl ?_
        refine L.mv (Wt.mk rfl rfl) rfl rfl ?_
        obtain ⟨x34, ex34, hm⟩ := bindS hm
        refine L.ix (r := (rP (rK .i64) (rP (rK .i64) (rK .i64)))) sl24 h3 (Wt.mk rfl rfl) rfl rfl ex34 rfl ?_
        rintro b35 o35 cc35 me35 rd35
        obtain ⟨_, _, rfl, rfl, ⟨_, _, rfl, rfl, rfl⟩⟩ := rd35
        refine L.fa fa28_1 (Wt.mk rfl rfl) rfl rfl ?_
        refine L.ld (j := 1) me35 nag3 (Wt.mk rfl rfl) rfl rfl rfl rfl ?_
        refine L.mv (Wt.mk rfl rfl) rfl rfl ?_
        refine L.bi (Wt.mk rfl rfl) rfl rfl rfl rfl ?_
        refine L.pkT Wt.no rfl rfl rfl rfl ?_
        exact L.sub (Sub.cons rfl (Sub.cons rfl (Sub.cons rfl (Sub.cons rfl (Sub.cons rfl Sub.nil))))) (J33 _ _ ⟨(x34.2.1 == p2), (Option.some.inj hm).symm, rfl, rfl⟩)
      · refine L.know (d := 23) rfl hc ?_
        refine L.skip rfl rfl rfl rfl ?_
        refine L.skip rfl rfl rfl rfl ?_
        refine L.skip rfl rfl rfl rfl ?_
        refine L.skip rfl rfl rfl rfl ?_
        refine L.skip rfl rfl rfl rfl ?_
        refine L.skip rfl rfl rfl rfl ?_
        refine L.skip rfl rfl rfl rfl ?_
        refine L.skip rfl rfl rfl rfl ?_
        refine L.pkF Wt.no rfl rfl rfl rfl ?_
        exact L.sub (Sub.cons rfl (Sub.cons rfl (Sub.cons rfl (Sub.cons rfl (Sub.cons rfl Sub.nil))))) (J33 _ _ ⟨false, (Option.some.inj hm).symm, rfl, rfl⟩)
  · refine E.cF rfl hc ?_
    refine E.exit ?_
    refine X.seqX ?_
    refine X.seqX ?_
    have hx := ho18 _ (Option.some.inj hm).symm
    exact X.sub (K23 _ _ ⟨s20, (), hx.symm, m0, rfl, rfl⟩) Sub.nil

end Go.Proofs.Ytkkemchihllklaa
