/- What some functions compute, as plain functions (m_..), and that the code computes it. Written by gen.py. -/
import Derived.Test.YtkkemchihllklaaG7
import Derived.Test.YtkkemchihllklaaProg
namespace Go.Proofs.Ytkkemchihllklaa
open Go Go.RowKit
theorem cf54 : Cf Try.prog 54 := Cf.mk Try.func54 (by kernel_rfl) (by kernel_rfl)
theorem cf55 : Cf Try.prog 55 := Cf.mk Try.func55 (by kernel_rfl) (by kernel_rfl)
theorem cf56 : Cf Try.prog 56 := Cf.mk Try.func56 (by kernel_rfl) (by kernel_rfl)
/-- What instruction.Scan computes. -/
noncomputable def m_instruction_Scan (p0 : Int × Int × Int × List Bool × (List (Int × Int))) (p1 : List Bool × List Bool) (p2 : List Bool) : Option ((List Bool × List Bool) × Int) :=
  (m_instruction_begin p0 p1 p2).bind fun r17 =>
  if (r17.2 != 0) then
    some ((([] : List Bool), ([] : List Bool)), r17.2)
  else
    (m_instruction_scan p0 r17.1).bind fun r23 =>
    (lenEq r23.2 r17.1).bind fun _ =>
    (m_instruction_state p0 r23.2).bind fun r29 =>
    some (r29, 0)
set_option maxRecDepth 100000 in
set_option maxHeartbeats 8000000 in
theorem m_instruction_Scan_c {s : Sig} {p0 : Int × Int × Int × List Bool × (List (Int × Int))} {p1 : List Bool × List Bool} {p2 : List Bool} {a1 : Option Addr} {c1 : Nat} {a2 : Option Addr} {c2 : Nat} {a3 : Option Addr} {c3 : Nat} {a4 : Option Addr} {c4 : Nat} {a5 : Option Addr} {c5 : Nat} {r : (List Bool × List Bool) × Int} (h1 : RdL rB s a1 c1 p0.2.2.2.1) (h2 : RdL (rP (rK .i64) (rK .i64)) s a2 c2 p0.2.2.2.2) (h3 : RdL rB s a3 c3 p1.1) (h4 : RdL rB s a4 c4 p1.2) (h5 : RdL rB s a5 c5 p2) (hm : m_instruction_Scan p0 p1 p2 = some r) :
    Calls Try.prog 24 #[.agg #[.int .i64 p0.1, .int .i64 p0.2.1, .int .i64 p0.2.2.1, .slice a1 p0.2.2.2.1.length c1, .slice a2 p0.2.2.2.2.length c2], .agg #[.slice a3 p1.1.length c3, .slice a4 p1.2.length c4], .slice a5 p2.length c5] s.w (RetS No s fun v s' => ∃ (a6 : Option Addr) (c6 : Nat) (a7 : Option Addr) (c7 : Nat), v = .tuple #[.agg #[.slice a6 r.1.1.length c6, .slice a7 r.1.2.length c7], .int .i64 r.2] ∧ RdL rB s' a6 c6 r.1.1 ∧ RdL rB s' a7 c7 r.1.2) := by
  unfold m_instruction_Scan at hm
  obtain ⟨N, hN, hNb⟩ := s.fresh
  have m0 : Mv (Up N No) s s := Mv.refl _ _
  refine E.entry (vs := [.agg #[.int .i64 p0.1, .int .i64 p0.2.1, .int .i64 p0.2.2.1, .slice a1 p0.2.2.2.1.length c1, .slice a2 p0.2.2.2.2.length c2], .agg #[.slice a3 p1.1.length c3, .slice a4 p1.2.length c4], .slice a5 p2.length c5]) (e := [(0, .agg #[.int .i64 p0.1, .int .i64 p0.2.1, .int .i64 p0.2.2.1, .slice a1 p0.2.2.2.1.length c1, .slice a2 p0.2.2.2.2.length c2]), (1, .agg #[.slice a3 p1.1.length c3, .slice a4 p1.2.length c4]), (2, .slice a5 p2.length c5)]) Try.func24 rfl Try.ntmps24 rfl rfl ?_
  refine E.seq ?_
  refine E.reg ?_
  refine L.box (N + 0) Wt.no rfl rfl rfl ?_
  intro b8 s9 m10 bx8
  replace m0 := m0.trans m10.no
  replace h3 := h3.mono (m10.le no_No)
  replace h4 := h4.mono (m10.le no_No)
  replace h5 := h5.mono (m10.le no_No)
  replace h1 := h1.mono (m10.le no_No)
  replace h2 := h2.mono (m10.le no_No)
  refine L.box (N + 1) Wt.no rfl rfl rfl ?_
  intro b11 s12 m13 bx11
  replace m0 := m0.trans m13.no
  replace h5 := h5.mono (m13.le no_No)
  replace bx8 := bx8.mv m13 no_No
  replace h1 := h1.mono (m13.le no_No)
  replace h2 := h2.mono (m13.le no_No)
  replace h3 := h3.mono (m13.le no_No)
  replace h4 := h4.mono (m13.le no_No)
  refine L.al (N + 2) zz39 rfl Wt.no rfl ?_
  intro b14 s15 m16 bx14
  replace m0 := m0.trans m16.no
  replace h5 := h5.mono (m16.le no_No)
  replace bx8 := bx8.mv m16 no_No
  replace h1 := h1.mono (m16.le no_No)
  replace h2 := h2.mono (m16.le no_No)
  replace bx11 := bx11.mv m16 no_No
  replace h3 := h3.mono (m16.le no_No)
  replace h4 := h4.mono (m16.le no_No)
  refine L.as Wt.no rfl rfl ?_
  refine L.nil ?_
  refine X.seqN ?_
  refine E.seq ?_
  refine E.reg ?_
  refine L.lg (j := 0) (cs := [.int .i64 p0.1, .int .i64 p0.2.1, .int .i64 p0.2.2.1, .slice a1 p0.2.2.2.1.length c1, .slice a2 p0.2.2.2.2.length c2]) bx8.mem ag32 Wt.no rfl rfl rfl rfl rfl ?_
  refine L.lg (j := 0) (cs := [.slice a3 p1.1.length c3, .slice a4 p1.2.length c4]) bx11.mem ag39 Wt.no rfl rfl rfl rfl rfl ?_
  refine L.mv Wt.no rfl rfl ?_
  obtain ⟨r17, er17, hm⟩ := bindS hm
  refine L.ca (vs := [.agg #[.int .i64 p0.1, .int .i64 p0.2.1, .int .i64 p0.2.2.1, .slice a1 p0.2.2.2.1.length c1, .slice a2 p0.2.2.2.2.length c2], .agg #[.slice a3 p1.1.length c3, .slice a4 p1.2.length c4], .slice a5 p2.length c5]) cf54 rfl rfl Wt.no rfl (m_instruction_begin_c (s := s15) (p0 := p0) (p1 := p1) (p2 := p2) (u0 := (N + 3)) h1 h2 h3 h4 h5 er17) rfl ?_
  rintro _ s18 m19 ⟨a20, c20, rfl, h20⟩
  replace m0 := m0.trans m19.no
  replace bx8 := bx8.mv m19 no_No
  replace h1 := h1.mono (m19.le no_No)
  replace h2 := h2.mono (m19.le no_No)
  replace bx14 := bx14.mv m19 no_No
  refine L.mv Wt.no rfl rfl ?_
  refine L.ex Wt.no rfl rfl rfl ?_
  refine L.ex Wt.no rfl rfl rfl ?_
  refine L.as Wt.no rfl rfl ?_
  refine L.as Wt.no rfl rfl ?_
  refine L.nil ?_
  refine X.seqN ?_
  refine E.seq ?_
  refine E.seq ?_
  refine E.reg ?_
  refine L.mv Wt.no rfl rfl ?_
  refine L.bi Wt.no rfl rfl rfl rfl ?_
  refine L.nil ?_
  refine X.seqN ?_
  rcases ifS hm with ⟨hc, hm⟩ | ⟨hc, hm⟩
  · refine E.cT rfl hc ?_
    refine E.seq ?_
    refine E.reg ?_
    refine L.bu (cs := [.slice none 0 0, .slice none 0 0]) pl39 Wt.no rfl rfl rfl ?_
    refine L.mv Wt.no rfl rfl ?_
    refine L.st (c := [.slice none 0 0, .slice none 0 0]) (cs' := #[.slice none 0 0, .slice none 0 0]) bx14 ag39.sz Wt.no rfl rfl rfl rfl rfl (Nat.le_of_ble_eq_true rfl) rfl ?_
    intro s21 m22 bx14
    replace m0 := m0.trans (m22.one up)
    refine L.as Wt.no rfl rfl ?_
    refine L.nil ?_
    refine X.seqN ?_
    refine E.ret ?_
    refine X.seqR ?_
    obtain rfl := Option.some.inj hm
    exact X.rt (.inl rfl) Try.results24 (Rs.cell rfl bx14 ag39 rfl (Rs.tmp rfl Rs.nil)) rfl ⟨_, (s21).ren N (fun _ => 0), rfl, rfl, m0.ren hNb, ⟨none, 0, none, 0, rfl, RdL.nil, RdL.nil⟩⟩
  · refine E.cF rfl hc ?_
    refine E.skip ?_
    refine X.seqN ?_
    refine E.seq ?_
    refine E.reg ?_
    refine L.lg (j := 0) (cs := [.int .i64 p0.1, .int .i64 p0.2.1, .int .i64 p0.2.2.1, .slice a1 p0.2.2.2.1.length c1, .slice a2 p0.2.2.2.2.length c2]) bx8.mem ag32 Wt.no rfl rfl rfl rfl rfl ?_
    refine L.mv Wt.no rfl rfl ?_
    obtain ⟨r23, er23, hm⟩ := bindS hm
    refine L.ca (vs := [.agg #[.int .i64 p0.1, .int .i64 p0.2.1, .int .i64 p0.2.2.1, .slice a1 p0.2.2.2.1.length c1, .slice a2 p0.2.2.2.2.length c2], .slice a20 r17.1.length c20]) cf55 rfl rfl Wt.no rfl (m_instruction_scan_c (s := s18) (p0 := p0) (p1 := r17.1) (t1 := (N + 3)) (u0 := 0) (tpos hN) h1 h2 h20 er23) rfl ?_
    rintro _ s24 m25 ⟨a26, c26, rfl, h26, h20⟩
    replace h26 := h26.p
    obtain ⟨_, qz27, hm⟩ := bindS hm
    have elz27 := len_some qz27
    replace m0 := m0.trans (m25.one up)
    replace bx8 := bx8.mv m25 (tgN (by decide))
    replace h1 := h1.mono (m25.le (tg0 hN))
    replace h2 := h2.mono (m25.le (tg0 hN))
    replace bx14 := bx14.mv m25 (tgN (by decide))
    refine L.reval (d := 8) rfl elz27 ?_
    refine L.nil ?_
    refine X.seqN ?_
    refine E.seq ?_
    refine E.reg ?_
    refine L.lg (j := 0) (cs := [.int .i64 p0.1, .int .i64 p0.2.1, .int .i64 p0.2.2.1, .slice a1 p0.2.2.2.1.length c1, .slice a2 p0.2.2.2.2.length c2]) bx8.mem ag32 Wt.no rfl rfl rfl rfl rfl ?_
    refine L.mv Wt.no rfl rfl ?_
    have m28 := Sig.fz_mv (N + 3) s24
    replace h20 := h20.fz (tgn hN)
    replace m0 := m0.trans (m28.one up)
    replace h1 := h1.mono (m28.le (tg0 hN))
    replace h2 := h2.mono (m28.le (tg0 hN))
    replace bx14 := bx14.mv m28 (tgN (by decide))
    refine L.toR (s' := (Sig.fz (N + 3) s24)) rfl ?_
    obtain ⟨r29, er29, hm⟩ := bindS hm
    refine L.ca (vs := [.agg #[.int .i64 p0.1, .int .i64 p0.2.1, .int .i64 p0.2.2.1, .slice a1 p0.2.2.2.1.length c1, .slice a2 p0.2.2.2.2.length c2], .slice a20 r23.2.length c20]) cf56 rfl rfl Wt.no rfl (m_instruction_state_c (s := (Sig.fz (N + 3) s24)) (p0 := p0) (p1 := r23.2) h1 h2 h20 er29) rfl ?_
    rintro _ s30 m31 ⟨a32, c32, a33, c33, rfl, h32, h33⟩
    replace m0 := m0.trans m31.no
    replace bx14 := bx14.mv m31 no_No
    refine L.st (c := [.slice a32 r29.1.length c32, .slice a33 r29.2.length c33]) (cs' := #[.slice a32 r29.1.length c32, .slice a33 r29.2.length c33]) bx14 ag39.sz Wt.no rfl rfl rfl rfl rfl (Nat.le_of_ble_eq_true rfl) rfl ?_
    intro s34 m35 bx14
    replace m0 := m0.trans (m35.one up)
    replace h32 := h32.mono (m35.le (tg0 hN))
    replace h33 := h33.mono (m35.le (tg0 hN))
    refine L.as Wt.no rfl rfl ?_
    refine L.nil ?_
    refine X.seqN ?_
    refine E.ret ?_
    obtain rfl := Option.some.inj hm
    exact X.rt (.inl rfl) Try.results24 (Rs.cell rfl bx14 ag39 rfl (Rs.tmp rfl Rs.nil)) rfl ⟨_, (s34).ren N (fun _ => 0), rfl, rfl, m0.ren hNb, ⟨a32, c32, a33, c33, rfl, (h32.ren hN), (h33.ren hN)⟩⟩

theorem cf22 : Cf Try.prog 22 := Cf.mk Try.func22 (by kernel_rfl) (by kernel_rfl)
theorem cf24 : Cf Try.prog 24 := Cf.mk Try.func24 (by kernel_rfl) (by kernel_rfl)
theorem fa34_0 : FA Try.prog 34 0 0 := FA.mk Try.underlying34 rfl rfl ⟨5, by decide, by kernel_rfl⟩
/-- What generate.Scan computes. -/
noncomputable def m_generate_Scan (p0 : (Int × Int × Int × List Bool × (List (Int × Int))) × List Int × List Int × Int) (p1 : List Bool × List Bool) (p2 : List Int) : Option ((List Bool × List Bool) × Int) :=
  (m_generate_Inputs p0 p2).bind fun r19 =>
  if (r19.2 != 0) then
    some ((([] : List Bool), ([] : List Bool)), r19.2)
  else
    (m_instruction_Scan p0.1 p1 r19.1).bind fun r25 =>
    some r25
set_option maxRecDepth 100000 in
set_option maxHeartbeats 8000000 in
theorem m_generate_Scan_c {s : Sig} {p0 : (Int × Int × Int × List Bool × (List (Int × Int))) × List Int × List Int × Int} {p1 : List Bool × List Bool} {p2 : List Int} {a1 : Option Addr} {c1 : Nat} {a2 : Option Addr} {c2 : Nat} {a3 : Option Addr} {c3 : Nat} {a4 : Option Addr} {c4 : Nat} {a5 : Option Addr} {c5 : Nat} {a6 : Option Addr} {c6 : Nat} {a7 : Option Addr} {c7 : Nat} {r : (List Bool × List Bool) × Int} (h1 : RdL rB s a1 c1 p0.1.2.2.2.1) (h2 : RdL (rP (rK .i64) (rK .i64)) s a2 c2 p0.1.2.2.2.2) (h3 : RdL (rK .i64) s a3 c3 p0.2.1) (h4 : RdL (rK .i64) s a4 c4 p0.2.2.1) (h5 : RdL rB s a5 c5 p1.1) (h6 : RdL rB s a6 c6 p1.2) (h7 : RdL (rK .i64) s a7 c7 p2) (hm : m_generate_Scan p0 p1 p2 = some r) :
    Calls Try.prog 14 #[.agg #[.int .i64 p0.1.1, .int .i64 p0.1.2.1, .int .i64 p0.1.2.2.1, .slice a1 p0.1.2.2.2.1.length c1, .slice a2 p0.1.2.2.2.2.length c2, .slice a3 p0.2.1.length c3, .slice a4 p0.2.2.1.length c4, .int .i64 p0.2.2.2], .agg #[.slice a5 p1.1.length c5, .slice a6 p1.2.length c6], .slice a7 p2.length c7] s.w (RetS No s fun v s' => ∃ (a8 : Option Addr) (c8 : Nat) (a9 : Option Addr) (c9 : Nat), v = .tuple #[.agg #[.slice a8 r.1.1.length c8, .slice a9 r.1.2.length c9], .int .i64 r.2] ∧ RdL rB s' a8 c8 r.1.1 ∧ RdL rB s' a9 c9 r.1.2) := by
  unfold m_generate_Scan at hm
  obtain ⟨N, hN, hNb⟩ := s.fresh
  have m0 : Mv (Up N No) s s := Mv.refl _ _
  refine E.entry (vs := [.agg #[.int .i64 p0.1.1, .int .i64 p0.1.2.1, .int .i64 p0.1.2.2.1, .slice a1 p0.1.2.2.2.1.length c1, .slice a2 p0.1.2.2.2.2.length c2, .slice a3 p0.2.1.length c3, .slice a4 p0.2.2.1.length c4, .int .i64 p0.2.2.2], .agg #[.slice a5 p1.1.length c5, .slice a6 p1.2.length c6], .slice a7 p2.length c7]) (e := [(0, .agg #[.int .i64 p0.1.1, .int .i64 p0.1.2.1, .int .i64 p0.1.2.2.1, .slice a1 p0.1.2.2.2.1.length c1, .slice a2 p0.1.2.2.2.2.length c2, .slice a3 p0.2.1.length c3, .slice a4 p0.2.2.1.length c4, .int .i64 p0.2.2.2]), (1, .agg #[.slice a5 p1.1.length c5, .slice a6 p1.2.length c6]), (2, .slice a7 p2.length c7)]) Try.func14 rfl Try.ntmps14 rfl rfl ?_
  refine E.seq ?_
  refine E.reg ?_
  refine L.box (N + 0) Wt.no rfl rfl rfl ?_
  intro b10 s11 m12 bx10
  replace m0 := m0.trans m12.no
  replace h5 := h5.mono (m12.le no_No)
  replace h6 := h6.mono (m12.le no_No)
  replace h7 := h7.mono (m12.le no_No)
  replace h1 := h1.mono (m12.le no_No)
  replace h2 := h2.mono (m12.le no_No)
  replace h3 := h3.mono (m12.le no_No)
  replace h4 := h4.mono (m12.le no_No)
  refine L.box (N + 1) Wt.no rfl rfl rfl ?_
  intro b13 s14 m15 bx13
  replace m0 := m0.trans m15.no
  replace h7 := h7.mono (m15.le no_No)
  replace bx10 := bx10.mv m15 no_No
  replace h1 := h1.mono (m15.le no_No)
  replace h2 := h2.mono (m15.le no_No)
  replace h3 := h3.mono (m15.le no_No)
  replace h4 := h4.mono (m15.le no_No)
  replace h5 := h5.mono (m15.le no_No)
  replace h6 := h6.mono (m15.le no_No)
  refine L.al (N + 2) zz39 rfl Wt.no rfl ?_
  intro b16 s17 m18 bx16
  replace m0 := m0.trans m18.no
  replace h7 := h7.mono (m18.le no_No)
  replace bx10 := bx10.mv m18 no_No
  replace h1 := h1.mono (m18.le no_No)
  replace h2 := h2.mono (m18.le no_No)
  replace h3 := h3.mono (m18.le no_No)
  replace h4 := h4.mono (m18.le no_No)
  replace bx13 := bx13.mv m18 no_No
  replace h5 := h5.mono (m18.le no_No)
  replace h6 := h6.mono (m18.le no_No)
  refine L.as Wt.no rfl rfl ?_
  refine L.nil ?_
  refine X.seqN ?_
  refine E.seq ?_
  refine E.reg ?_
  refine L.lg (j := 0) (cs := [.int .i64 p0.1.1, .int .i64 p0.1.2.1, .int .i64 p0.1.2.2.1, .slice a1 p0.1.2.2.2.1.length c1, .slice a2 p0.1.2.2.2.2.length c2, .slice a3 p0.2.1.length c3, .slice a4 p0.2.2.1.length c4, .int .i64 p0.2.2.2]) bx10.mem ag34 Wt.no rfl rfl rfl rfl rfl ?_
  refine L.mv Wt.no rfl rfl ?_
  obtain ⟨r19, er19, hm⟩ := bindS hm
  refine L.ca (vs := [.agg #[.int .i64 p0.1.1, .int .i64 p0.1.2.1, .int .i64 p0.1.2.2.1, .slice a1 p0.1.2.2.2.1.length c1, .slice a2 p0.1.2.2.2.2.length c2, .slice a3 p0.2.1.length c3, .slice a4 p0.2.2.1.length c4, .int .i64 p0.2.2.2], .slice a7 p2.length c7]) cf22 rfl rfl Wt.no rfl (m_generate_Inputs_c (s := s17) (p0 := p0) (p1 := p2) (u0 := 0) h1 h2 h3 h4 h7 er19) rfl ?_
  rintro _ s20 m21 ⟨a22, c22, rfl, h22⟩
  replace h22 := h22.p
  replace m0 := m0.trans m21.no
  replace bx10 := bx10.mv m21 no_No
  replace h1 := h1.mono (m21.le no_No)
  replace h2 := h2.mono (m21.le no_No)
  replace h3 := h3.mono (m21.le no_No)
  replace h4 := h4.mono (m21.le no_No)
  replace bx13 := bx13.mv m21 no_No
  replace h5 := h5.mono (m21.le no_No)
  replace h6 := h6.mono (m21.le no_No)
  replace bx16 := bx16.mv m21 no_No
  refine L.mv Wt.no rfl rfl ?_
  refine L.ex Wt.no rfl rfl rfl ?_
  refine L.ex Wt.no rfl rfl rfl ?_
  refine L.as Wt.no rfl rfl ?_
  refine L.as Wt.no rfl rfl ?_
  refine L.nil ?_
  refine X.seqN ?_
  refine E.seq ?_
  refine E.seq ?_
  refine E.reg ?_
  refine L.mv Wt.no rfl rfl ?_
  refine L.bi Wt.no rfl rfl rfl rfl ?_
  refine L.nil ?_
  refine X.seqN ?_
  rcases ifS hm with ⟨hc, hm⟩ | ⟨hc, hm⟩
  · refine E.cT rfl hc ?_
    refine E.seq ?_
    refine E.reg ?_
    refine L.bu (cs := [.slice none 0 0, .slice none 0 0]) pl39 Wt.no rfl rfl rfl ?_
    refine L.mv Wt.no rfl rfl ?_
    refine L.st (c := [.slice none 0 0, .slice none 0 0]) (cs' := #[.slice none 0 0, .slice none 0 0]) bx16 ag39.sz Wt.no rfl rfl rfl rfl rfl (Nat.le_of_ble_eq_true rfl) rfl ?_
    intro s23 m24 bx16
    replace m0 := m0.trans (m24.one up)
    refine L.as Wt.no rfl rfl ?_
    refine L.nil ?_
    refine X.seqN ?_
    refine E.ret ?_
    refine X.seqR ?_
    obtain rfl := Option.some.inj hm
    exact X.rt (.inl rfl) Try.results14 (Rs.cell rfl bx16 ag39 rfl (Rs.tmp rfl Rs.nil)) rfl ⟨_, (s23).ren N (fun _ => 0), rfl, rfl, m0.ren hNb, ⟨none, 0, none, 0, rfl, RdL.nil, RdL.nil⟩⟩
  · refine E.cF rfl hc ?_
    refine E.skip ?_
    refine X.seqN ?_
    refine E.seq ?_
    refine E.reg ?_
    refine L.fa fa34_0 Wt.no rfl rfl ?_
    refine L.lg (j := 0) (cs := [.int .i64 p0.1.1, .int .i64 p0.1.2.1, .int .i64 p0.1.2.2.1, .slice a1 p0.1.2.2.2.1.length c1, .slice a2 p0.1.2.2.2.2.length c2]) bx10.mem ag32 Wt.no rfl rfl rfl rfl rfl ?_
    refine L.lg (j := 0) (cs := [.slice a5 p1.1.length c5, .slice a6 p1.2.length c6]) bx13.mem ag39 Wt.no rfl rfl rfl rfl rfl ?_
    refine L.mv Wt.no rfl rfl ?_
    obtain ⟨r25, er25, hm⟩ := bindS hm
    refine L.ca (vs := [.agg #[.int .i64 p0.1.1, .int .i64 p0.1.2.1, .int .i64 p0.1.2.2.1, .slice a1 p0.1.2.2.2.1.length c1, .slice a2 p0.1.2.2.2.2.length c2], .agg #[.slice a5 p1.1.length c5, .slice a6 p1.2.length c6], .slice a22 r19.1.length c22]) cf24 rfl rfl Wt.no rfl (m_instruction_Scan_c (s := s20) (p0 := p0.1) (p1 := p1) (p2 := r19.1) h1 h2 h5 h6 h22 er25) rfl ?_
    rintro _ s26 m27 ⟨a28, c28, a29, c29, rfl, h28, h29⟩
    replace m0 := m0.trans m27.no
    replace bx16 := bx16.mv m27 no_No
    refine L.ex Wt.no rfl rfl rfl ?_
    refine L.ex Wt.no rfl rfl rfl ?_
    refine L.st (c := [.slice a28 r25.1.1.length c28, .slice a29 r25.1.2.length c29]) (cs' := #[.slice a28 r25.1.1.length c28, .slice a29 r25.1.2.length c29]) bx16 ag39.sz Wt.no rfl rfl rfl rfl rfl (Nat.le_of_ble_eq_true rfl) rfl ?_
    intro s30 m31 bx16
    replace m0 := m0.trans (m31.one up)
    replace h28 := h28.mono (m31.le (tg0 hN))
    replace h29 := h29.mono (m31.le (tg0 hN))
    refine L.as Wt.no rfl rfl ?_
    refine L.nil ?_
    refine X.seqN ?_
    refine E.ret ?_
    obtain rfl := Option.some.inj hm
    exact X.rt (.inl rfl) Try.results14 (Rs.cell rfl bx16 ag39 rfl (Rs.tmp rfl Rs.nil)) rfl ⟨_, (s30).ren N (fun _ => 0), rfl, rfl, m0.ren hNb, ⟨a28, c28, a29, c29, rfl, (h28.ren hN), (h29.ren hN)⟩⟩

/-- What generate.fits computes. -/
noncomputable def m_generate_fits (p0 : (Int × Int × Int × List Bool × (List (Int × Int))) × List Int × List Int × Int) (p1 : List Bool × List Bool) : Option Int :=
  if (((p1.1.length : Int) != p0.1.2.1) || ((p1.2.length : Int) != p0.1.2.2.1)) then
    some 4
  else
    some 0
set_option maxRecDepth 100000 in
set_option maxHeartbeats 8000000 in
theorem m_generate_fits_c {s : Sig} {p0 : (Int × Int × Int × List Bool × (List (Int × Int))) × List Int × List Int × Int} {p1 : List Bool × List Bool} {a1 : Option Addr} {c1 : Nat} {a2 : Option Addr} {c2 : Nat} {a3 : Option Addr} {c3 : Nat} {a4 : Option Addr} {c4 : Nat} {a5 : Option Addr} {c5 : Nat} {a6 : Option Addr} {c6 : Nat} {r : Int} (h1 : RdL rB s a1 c1 p0.1.2.2.2.1) (h2 : RdL (rP (rK .i64) (rK .i64)) s a2 c2 p0.1.2.2.2.2) (h3 : RdL (rK .i64) s a3 c3 p0.2.1) (h4 : RdL (rK .i64) s a4 c4 p0.2.2.1) (h5 : RdL rB s a5 c5 p1.1) (h6 : RdL rB s a6 c6 p1.2) (hm : m_generate_fits p0 p1 = some r) :
    Calls Try.prog 50 #[.agg #[.int .i64 p0.1.1, .int .i64 p0.1.2.1, .int .i64 p0.1.2.2.1, .slice a1 p0.1.2.2.2.1.length c1, .slice a2 p0.1.2.2.2.2.length c2, .slice a3 p0.2.1.length c3, .slice a4 p0.2.2.1.length c4, .int .i64 p0.2.2.2], .agg #[.slice a5 p1.1.length c5, .slice a6 p1.2.length c6]] s.w (RetS No s fun v s' => v = .int .i64 r) := by
  unfold m_generate_fits at hm
  obtain ⟨N, hN, hNb⟩ := s.fresh
  have m0 : Mv (Up N No) s s := Mv.refl _ _
  refine E.entry (vs := [.agg #[.int .i64 p0.1.1, .int .i64 p0.1.2.1, .int .i64 p0.1.2.2.1, .slice a1 p0.1.2.2.2.1.length c1, .slice a2 p0.1.2.2.2.2.length c2, .slice a3 p0.2.1.length c3, .slice a4 p0.2.2.1.length c4, .int .i64 p0.2.2.2], .agg #[.slice a5 p1.1.length c5, .slice a6 p1.2.length c6]]) (e := [(0, .agg #[.int .i64 p0.1.1, .int .i64 p0.1.2.1, .int .i64 p0.1.2.2.1, .slice a1 p0.1.2.2.2.1.length c1, .slice a2 p0.1.2.2.2.2.length c2, .slice a3 p0.2.1.length c3, .slice a4 p0.2.2.1.length c4, .int .i64 p0.2.2.2]), (1, .agg #[.slice a5 p1.1.length c5, .slice a6 p1.2.length c6])]) Try.func50 rfl Try.ntmps50 rfl rfl ?_
  refine E.seq ?_
  refine E.reg ?_
  refine L.box (N + 0) Wt.no rfl rfl rfl ?_
  intro b7 s8 m9 bx7
  replace m0 := m0.trans m9.no
  replace h5 := h5.mono (m9.le no_No)
  replace h6 := h6.mono (m9.le no_No)
  replace h1 := h1.mono (m9.le no_No)
  replace h2 := h2.mono (m9.le no_No)
  replace h3 := h3.mono (m9.le no_No)
  replace h4 := h4.mono (m9.le no_No)
  refine L.box (N + 1) Wt.no rfl rfl rfl ?_
  intro b10 s11 m12 bx10
  replace m0 := m0.trans m12.no
  replace bx7 := bx7.mv m12 no_No
  replace h1 := h1.mono (m12.le no_No)
  replace h2 := h2.mono (m12.le no_No)
  replace h3 := h3.mono (m12.le no_No)
  replace h4 := h4.mono (m12.le no_No)
  replace h5 := h5.mono (m12.le no_No)
  replace h6 := h6.mono (m12.le no_No)
  refine L.as Wt.no rfl rfl ?_
  refine L.nil ?_
  refine X.seqN ?_
  refine E.seq ?_
  refine E.seq ?_
  refine E.reg ?_
  refine L.fa fa39_0 Wt.no rfl rfl ?_
  refine L.ld (j := 0) bx10.mem nag29 Wt.no rfl rfl rfl rfl ?_
  refine L.len sl29 Wt.no rfl rfl ?_
  refine L.fa fa34_0 Wt.no rfl rfl ?_
  refine L.fa fa32_1 Wt.no rfl rfl ?_
  refine L.ld (j := 1) bx7.mem nag3 Wt.no rfl rfl rfl rfl ?_
  refine L.bi Wt.no rfl rfl rfl rfl ?_
  refine L.mv Wt.no rfl rfl ?_
  refine L.cut 8 (fun e w => ∃ (v13 : Bool), (((p1.1.length : Int) != p0.1.2.1) || ((p1.2.length : Int) != p0.1.2.2.1)) = v13 ∧ e = (20, .bool v13) :: [] ∧ w = s11.w) ?_ ?_
  · rintro _ _ ⟨v13, rfl, rfl, rfl⟩
    refine L.nil ?_
    refine X.seqN ?_
    rcases ifS hm with ⟨hc, hm⟩ | ⟨hc, hm⟩
    · refine E.cT rfl hc ?_
      refine E.seq ?_
      refine E.reg ?_
      refine L.as Wt.no rfl rfl ?_
      refine L.nil ?_
      refine X.seqN ?_
      refine E.ret ?_
      refine X.seqR ?_
      obtain rfl := Option.some.inj hm
      exact X.rt (.inl rfl) Try.results50 (Rs.tmp rfl Rs.nil) rfl ⟨_, (s11).ren N (fun _ => 0), rfl, rfl, m0.ren hNb, rfl⟩
    · refine E.cF rfl hc ?_
      refine E.skip ?_
      refine X.seqN ?_
      refine E.seq ?_
      refine E.reg ?_
      refine L.as Wt.no rfl rfl ?_
      refine L.nil ?_
      refine X.seqN ?_
      refine E.ret ?_
      obtain rfl := Option.some.inj hm
      exact X.rt (.inl rfl) Try.results50 (Rs.tmp rfl Rs.nil) rfl ⟨_, (s11).ren N (fun _ => 0), rfl, rfl, m0.ren hNb, rfl⟩
  · intro J14
    rcases Bool.eq_false_or_eq_true ((p1.1.length : Int) != p0.1.2.1) with hc | hc
    · refine L.know (d := 12) rfl hc ?_
      refine L.skip rfl rfl rfl rfl ?_
      refine L.skip rfl rfl rfl rfl ?_
      refine L.skip rfl rfl rfl rfl ?_
      refine L.skip rfl rfl rfl rfl ?_
      refine L.skip rfl rfl rfl rfl ?_
      refine L.skip rfl rfl rfl rfl ?_
      refine L.skip rfl rfl rfl rfl ?_
      refine L.pkT Wt.no rfl rfl rfl rfl ?_
      exact L.sub (Sub.cons rfl Sub.nil) (J14 _ _ ⟨true, (orT hc).symm, rfl, rfl⟩)
    · refine L.know (d := 12) rfl hc ?_
      refine L.fa fa39_1 (Wt.mk rfl rfl) rfl rfl ?_
      refine L.ld (j := 1) bx10.mem nag29 (Wt.mk rfl rfl) rfl rfl rfl rfl ?_
      refine L.len sl29 (Wt.mk rfl rfl) rfl rfl ?_
      refine L.fa fa34_0 (Wt.mk rfl rfl) rfl rfl ?_
      refine L.fa fa32_2 (Wt.mk rfl rfl) rfl rfl ?_
      refine L.ld (j := 2) bx7.mem nag3 (Wt.mk rfl rfl) rfl rfl rfl rfl ?_
      refine L.bi (Wt.mk rfl rfl) rfl rfl rfl rfl ?_
      refine L.pkF Wt.no rfl rfl rfl rfl ?_
      exact L.sub (Sub.cons rfl Sub.nil) (J14 _ _ ⟨((p1.2.length : Int) != p0.1.2.2.1), (orF hc).symm, rfl, rfl⟩)

theorem cf50 : Cf Try.prog 50 := Cf.mk Try.func50 (by kernel_rfl) (by kernel_rfl)
theorem fa34_2 : FA Try.prog 34 2 6 := FA.mk Try.underlying34 rfl rfl ⟨1, by decide, by kernel_rfl⟩
noncomputable def m_generate_Enabled_j1 (st38 : Int × List Int) (l44 : List Int) : Option ((Int × List Int) ⊕ (List Int)) :=
  some (.inl (W (st38.1 + 1), l44))
noncomputable def m_generate_Enabled_l1 (p0 : (Int × Int × Int × List Bool × (List (Int × Int))) × List Int × List Int × Int) (p1 : List Bool × List Bool) (st38 : Int × List Int) : Option ((Int × List Int) ⊕ (List Int)) :=
  if decide (st38.1 < (p0.2.2.1.length : Int)) then
    (idx p0.2.2.1 st38.1).bind fun x48 =>
    (idx p1.1 st38.1).bind fun x50 =>
    if x50 then
      (app st38.2 ([x48] : List Int)).bind fun x55 =>
      m_generate_Enabled_j1 st38 x55
    else
      m_generate_Enabled_j1 st38 st38.2
  else
    some (.inr st38.2)
/-- What generate.Enabled computes. -/
noncomputable def m_generate_Enabled (p0 : (Int × Int × Int × List Bool × (List (Int × Int))) × List Int × List Int × Int) (p1 : List Bool × List Bool) : Option (List Int × Int) :=
  (m_generate_fits p0 p1).bind fun r14 =>
  if (r14 != 0) then
    some (([] : List Int), r14)
  else
    (iter (m_generate_Enabled_l1 p0 p1) (0, ([] : List Int))).bind fun o38 =>
    some (o38, 0)
set_option maxRecDepth 100000 in
set_option maxHeartbeats 8000000 in
theorem m_generate_Enabled_c {s : Sig} {p0 : (Int × Int × Int × List Bool × (List (Int × Int))) × List Int × List Int × Int} {p1 : List Bool × List Bool} {a1 : Option Addr} {c1 : Nat} {a2 : Option Addr} {c2 : Nat} {a3 : Option Addr} {c3 : Nat} {a4 : Option Addr} {c4 : Nat} {a5 : Option Addr} {c5 : Nat} {a6 : Option Addr} {c6 : Nat} {u0 : Nat} {r : List Int × Int} (h1 : RdL rB s a1 c1 p0.1.2.2.2.1) (h2 : RdL (rP (rK .i64) (rK .i64)) s a2 c2 p0.1.2.2.2.2) (h3 : RdL (rK .i64) s a3 c3 p0.2.1) (h4 : RdL (rK .i64) s a4 c4 p0.2.2.1) (h5 : RdL rB s a5 c5 p1.1) (h6 : RdL rB s a6 c6 p1.2) (hm : m_generate_Enabled p0 p1 = some r) :
    Calls Try.prog 19 #[.agg #[.int .i64 p0.1.1, .int .i64 p0.1.2.1, .int .i64 p0.1.2.2.1, .slice a1 p0.1.2.2.2.1.length c1, .slice a2 p0.1.2.2.2.2.length c2, .slice a3 p0.2.1.length c3, .slice a4 p0.2.2.1.length c4, .int .i64 p0.2.2.2], .agg #[.slice a5 p1.1.length c5, .slice a6 p1.2.length c6]] s.w (RetS No s fun v s' => ∃ (a7 : Option Addr) (c7 : Nat), v = .tuple #[.slice a7 r.1.length c7, .int .i64 r.2] ∧ RowT (rK .i64) s' u0 3 a7 c7 r.1) := by
  unfold m_generate_Enabled at hm
  obtain ⟨N, hN, hNb⟩ := s.fresh
  have m0 : Mv (Up N No) s s := Mv.refl _ _
  refine E.entry (vs := [.agg #[.int .i64 p0.1.1, .int .i64 p0.1.2.1, .int .i64 p0.1.2.2.1, .slice a1 p0.1.2.2.2.1.length c1, .slice a2 p0.1.2.2.2.2.length c2, .slice a3 p0.2.1.length c3, .slice a4 p0.2.2.1.length c4, .int .i64 p0.2.2.2], .agg #[.slice a5 p1.1.length c5, .slice a6 p1.2.length c6]]) (e := [(0, .agg #[.int .i64 p0.1.1, .int .i64 p0.1.2.1, .int .i64 p0.1.2.2.1, .slice a1 p0.1.2.2.2.1.length c1, .slice a2 p0.1.2.2.2.2.length c2, .slice a3 p0.2.1.length c3, .slice a4 p0.2.2.1.length c4, .int .i64 p0.2.2.2]), (1, .agg #[.slice a5 p1.1.length c5, .slice a6 p1.2.length c6])]) Try.func19 rfl Try.ntmps19 rfl rfl ?_
  refine E.seq ?_
  refine E.reg ?_
  refine L.box (N + 0) Wt.no rfl rfl rfl ?_
  intro b8 s9 m10 bx8
  replace m0 := m0.trans m10.no
  replace h5 := h5.mono (m10.le no_No)
  replace h6 := h6.mono (m10.le no_No)
  replace h1 := h1.mono (m10.le no_No)
  replace h2 := h2.mono (m10.le no_No)
  replace h3 := h3.mono (m10.le no_No)
  replace h4 := h4.mono (m10.le no_No)
  refine L.box (N + 1) Wt.no rfl rfl rfl ?_
  intro b11 s12 m13 bx11
  replace m0 := m0.trans m13.no
  replace bx8 := bx8.mv m13 no_No
  replace h1 := h1.mono (m13.le no_No)
  replace h2 := h2.mono (m13.le no_No)
  replace h3 := h3.mono (m13.le no_No)
  replace h4 := h4.mono (m13.le no_No)
  replace h5 := h5.mono (m13.le no_No)
  replace h6 := h6.mono (m13.le no_No)
  refine L.as Wt.no rfl rfl ?_
  refine L.as Wt.no rfl rfl ?_
  refine L.nil ?_
  refine X.seqN ?_
  refine E.seq ?_
  refine E.seq ?_
  refine E.reg ?_
  refine L.lg (j := 0) (cs := [.int .i64 p0.1.1, .int .i64 p0.1.2.1, .int .i64 p0.1.2.2.1, .slice a1 p0.1.2.2.2.1.length c1, .slice a2 p0.1.2.2.2.2.length c2, .slice a3 p0.2.1.length c3, .slice a4 p0.2.2.1.length c4, .int .i64 p0.2.2.2]) bx8.mem ag34 Wt.no rfl rfl rfl rfl rfl ?_
  refine L.lg (j := 0) (cs := [.slice a5 p1.1.length c5, .slice a6 p1.2.length c6]) bx11.mem ag39 Wt.no rfl rfl rfl rfl rfl ?_
  obtain ⟨r14, er14, hm⟩ := bindS hm
  refine L.ca (vs := [.agg #[.int .i64 p0.1.1, .int .i64 p0.1.2.1, .int .i64 p0.1.2.2.1, .slice a1 p0.1.2.2.2.1.length c1, .slice a2 p0.1.2.2.2.2.length c2, .slice a3 p0.2.1.length c3, .slice a4 p0.2.2.1.length c4, .int .i64 p0.2.2.2], .agg #[.slice a5 p1.1.length c5, .slice a6 p1.2.length c6]]) cf50 rfl rfl Wt.no rfl (m_generate_fits_c (s := s12) (p0 := p0) (p1 := p1) h1 h2 h3 h4 h5 h6 er14) rfl ?_
  rintro _ s15 m16 rfl
  replace m0 := m0.trans m16.no
  replace bx8 := bx8.mv m16 no_No
  replace h1 := h1.mono (m16.le no_No)
  replace h2 := h2.mono (m16.le no_No)
  replace h3 := h3.mono (m16.le no_No)
  replace h4 := h4.mono (m16.le no_No)
  replace bx11 := bx11.mv m16 no_No
  replace h5 := h5.mono (m16.le no_No)
  replace h6 := h6.mono (m16.le no_No)
  refine L.as Wt.no rfl rfl ?_
  refine L.nil ?_
  refine X.seqN ?_
  refine E.seq ?_
  refine E.reg ?_
  refine L.mv Wt.no rfl rfl ?_
  refine L.bi Wt.no rfl rfl rfl rfl ?_
  refine L.nil ?_
  refine X.seqN ?_
  rcases ifS hm with ⟨hc, hm⟩ | ⟨hc, hm⟩
  · refine E.cT rfl hc ?_
    refine E.seq ?_
    refine E.reg ?_
    refine L.mv Wt.no rfl rfl ?_
    refine L.as Wt.no rfl rfl ?_
    refine L.as Wt.no rfl rfl ?_
    refine L.nil ?_
    refine X.seqN ?_
    refine E.ret ?_
    refine X.seqR ?_
    obtain rfl := Option.some.inj hm
    exact X.rt (.inl rfl) Try.results19 (Rs.tmp rfl (Rs.tmp rfl Rs.nil)) rfl ⟨_, (s15).ren N (fun _ => 0), rfl, rfl, m0.ren hNb, ⟨none, 0, rfl, RowT.nil⟩⟩
  · refine E.cF rfl hc ?_
    refine E.skip ?_
    refine X.seqN ?_
    refine E.seq ?_
    refine E.reg ?_
    refine L.as Wt.no rfl rfl ?_
    refine L.nil ?_
    refine X.seqN ?_
    refine E.seq ?_
    refine E.seq ?_
    refine E.reg ?_
    refine L.fa fa34_2 Wt.no rfl rfl ?_
    refine L.ld (j := 6) bx8.mem nag23 Wt.no rfl rfl rfl rfl ?_
    refine L.len sl23 Wt.no rfl rfl ?_
    refine L.mv Wt.no rfl rfl ?_
    refine L.nil ?_
    refine X.seqN ?_
    refine E.block ?_
    obtain ⟨o38, eo38, hm⟩ := bindS hm
    refine E.cut (x := .exit 0) (fun e w => ∃ (s42 : Sig) (a40 : Option Addr) (c40 : Nat), Mv (Up N No) s s42 ∧ RowT (rK .i64) s42 (N + 2) 3 a40 c40 o38 ∧ e = [(7, .slice a40 o38.length c40)] ∧ w = s42.w) ?_ ?_
    · rintro _ _ ⟨s42, a40, c40, m0, h40, rfl, rfl⟩
      refine X.blkE ?_
      refine X.seqN ?_
      refine E.seq ?_
      refine E.reg ?_
      refine L.mv Wt.no rfl rfl ?_
      refine L.as Wt.no rfl rfl ?_
      refine L.as Wt.no rfl rfl ?_
      refine L.nil ?_
      refine X.seqN ?_
      refine E.ret ?_
      obtain rfl := Option.some.inj hm
      exact X.rt (.inl rfl) Try.results19 (Rs.tmp rfl (Rs.tmp rfl Rs.nil)) rfl ⟨_, (s42).ren N (fun k => cond (Nat.beq k 2) u0 (0)), rfl, rfl, m0.ren hNb, ⟨a40, c40, rfl, (h40.ren hN)⟩⟩
    intro K43
    refine E.iter (fun (st38 : Int × List Int) (e : List (Nat × Value)) (w : World) => ∃ (s41 : Sig) (a19 : Option Addr) (c19 : Nat), Mv (Up N No) s s41 ∧ RdL (rK .i64) s41 a4 c4 p0.2.2.1 ∧ RowT (rK .i64) s41 (N + 2) 3 a19 c19 st38.2 ∧ RdL rB s41 a5 c5 p1.1 ∧ RdL rB s41 a6 c6 p1.2 ∧ Bx s41 (N + 1) b11 #[.slice a5 p1.1.length c5, .slice a6 p1.2.length c6] 39 ∧ e = [(19, .int .i64 st38.1), (18, .int .i64 (p0.2.2.1.length : Int)), (17, .slice a4 p0.2.2.1.length c4), (7, .slice a19 st38.2.length c19), (3, .pointer (some ⟨b11, 0, none⟩))] ∧ w = s41.w) eo38 ⟨s15, none, 0, m0, h4, RowT.nil, h5, h6, bx11, rfl, rfl⟩ (Sub.cons rfl (Sub.cons rfl (Sub.cons rfl (Sub.cons rfl (Sub.cons rfl Sub.nil))))) ?_
    rintro st38 res38 hm ih38 ho38 _ _ ⟨s41, a19, c19, m0, h4, h19, h5, h6, bx11, rfl, rfl⟩
    unfold m_generate_Enabled_l1 at hm
    refine E.seq ?_
    refine E.reg ?_
    refine L.bi Wt.no rfl rfl rfl rfl ?_
    refine L.nil ?_
    refine X.seqN ?_
    refine E.seq ?_
    rcases ifS hm with ⟨hc, hm⟩ | ⟨hc, hm⟩
    · refine E.cT rfl hc ?_
      refine E.skip ?_
      refine X.seqN ?_
      refine E.seqJ (fun e w => ∃ (s46 : Sig) (l44 : List Int) (a45 : Option Addr) (c45 : Nat), m_generate_Enabled_j1 st38 l44 = some res38 ∧ Mv (Up N No) s s46 ∧ RowT (rK .i64) s46 (N + 2) 3 a45 c45 l44 ∧ RdL (rK .i64) s46 a4 c4 p0.2.2.1 ∧ RdL rB s46 a5 c5 p1.1 ∧ RdL rB s46 a6 c6 p1.2 ∧ Bx s46 (N + 1) b11 #[.slice a5 p1.1.length c5, .slice a6 p1.2.length c6] 39 ∧ e = [(7, .slice a45 l44.length c45), (19, .int .i64 st38.1), (18, .int .i64 (p0.2.2.1.length : Int)), (17, .slice a4 p0.2.2.1.length c4), (3, .pointer (some ⟨b11, 0, none⟩))] ∧ w = s46.w) ?_ ?_
      · rintro _ _ ⟨s46, l44, a45, c45, hm, m0, h45, h4, h5, h6, bx11, rfl, rfl⟩
        unfold m_generate_Enabled_j1 at hm
        refine E.reg ?_
        refine L.bi Wt.no rfl rfl rfl rfl ?_
        refine L.mv Wt.no rfl rfl ?_
        refine L.nil ?_
        exact X.sub (ih38 _ (Option.some.inj hm).symm _ _ ⟨s46, a45, c45, m0, h4, h45, h5, h6, bx11, rfl, rfl⟩) (Sub.cons rfl (Sub.cons rfl (Sub.cons rfl (Sub.cons rfl (Sub.cons rfl Sub.nil)))))
      · intro Jj47
        refine E.block ?_
        refine E.seq ?_
        refine E.reg ?_
        refine L.mv Wt.no rfl rfl ?_
        obtain ⟨x48, ex48, hm⟩ := bindS hm
        refine L.ix (r := (rK .i64)) sl23 h4 Wt.no rfl rfl ex48 rfl ?_
        rintro b49 o49 cc49 me49 rd49
        obtain rfl := rd49
        refine L.ld (j := 0) me49 nag3 Wt.no rfl rfl rfl rfl ?_
        refine L.as Wt.no rfl rfl ?_
        refine L.as Wt.no rfl rfl ?_
        refine L.nil ?_
        refine X.seqN ?_
        refine E.seq ?_
        refine E.reg ?_
        refine L.fa fa39_0 Wt.no rfl rfl ?_
        refine L.ld (j := 0) bx11.mem nag29 Wt.no rfl rfl rfl rfl ?_
        refine L.mv Wt.no rfl rfl ?_
        obtain ⟨x50, ex50, hm⟩ := bindS hm
        refine L.ix (r := rB) sl29 h5 Wt.no rfl rfl ex50 rfl ?_
        rintro b51 o51 cc51 me51 rd51
        obtain rfl := rd51
        refine L.ld (j := 0) me51 nag4 Wt.no rfl rfl rfl rfl ?_
        refine L.nil ?_
        refine X.seqN ?_
        rcases ifS hm with ⟨hc, hm⟩ | ⟨hc, hm⟩
        · refine E.cT rfl hc ?_
          refine E.reg ?_
          refine L.mv Wt.no rfl rfl ?_
          refine L.mv Wt.no rfl rfl ?_
          refine L.bsE (k := 1) (cs := [.int .i64 x48]) 0 bs23 (Nat.le_of_ble_eq_true rfl) Wt.no rfl rfl rfl rfl ?_
          intro b52 s53 m54 bx52
          replace m0 := m0.trans m54.no
          replace h4 := h4.mono (m54.le no_No)
          replace h19 := h19.mv m54 no_No no_No
          replace bx11 := bx11.mv m54 no_No
          replace h5 := h5.mono (m54.le no_No)
          replace h6 := h6.mono (m54.le no_No)
          have h52 := Bx.rdL (r := (rK .i64)) (xs := ([x48] : List Int)) bx52 ⟨[.int .i64 x48], _, rfl, rfl, rfl⟩ (Nat.le_of_ble_eq_true rfl)
          obtain ⟨x55, ex55, hm⟩ := bindS hm
          refine L.ap (r := (rK .i64)) Try.underlying23 el3 rfl (tgp hN) h19 h52.wk Wt.no rfl rfl ex55 rfl ?_
          intro a56 c56 s57 m58 h56
          replace m0 := m0.trans (m58.one up)
          replace h4 := h4.mono (m58.le (tg0 hN))
          replace bx11 := bx11.mv m58 (tgN (by decide))
          replace h5 := h5.mono (m58.le (tg0 hN))
          replace h6 := h6.mono (m58.le (tg0 hN))
          refine L.as Wt.no rfl rfl ?_
          refine L.nil ?_
          refine X.blkN ?_
          exact X.sub (Jj47 _ _ ⟨s57, x55, a56, c56, hm, m0, h56, h4, h5, h6, bx11, rfl, rfl⟩) (Sub.cons rfl (Sub.cons rfl (Sub.cons rfl (Sub.cons rfl (Sub.cons rfl Sub.nil)))))
        · refine E.cF rfl hc ?_
          refine E.skip ?_
          refine X.blkN ?_
          exact X.sub (Jj47 _ _ ⟨s41, st38.2, a19, c19, hm, m0, h19, h4, h5, h6, bx11, rfl, rfl⟩) (Sub.cons rfl (Sub.cons rfl (Sub.cons rfl (Sub.cons rfl (Sub.cons rfl Sub.nil)))))
    · refine E.cF rfl hc ?_
      refine E.exit ?_
      refine X.seqX ?_
      refine X.seqX ?_
      have hx := ho38 _ (Option.some.inj hm).symm
      subst hx
      exact X.sub (K43 _ _ ⟨s41, a19, c19, m0, h19, rfl, rfl⟩) (Sub.cons rfl Sub.nil)

theorem fa34_3 : FA Try.prog 34 3 7 := FA.mk Try.underlying34 rfl rfl ⟨1, by decide, by kernel_rfl⟩
noncomputable def m_generate_State_j1 (st30 : Int × Int × Int) (n36 : Int) (n37 : Int) : Option ((Int × Int × Int) ⊕ (Int × Int)) :=
  some (.inl (W (st30.1 + 1), n36, n37))
noncomputable def m_generate_State_l1 (x16 : List Bool) (st30 : Int × Int × Int) : Option ((Int × Int × Int) ⊕ (Int × Int)) :=
  if decide (st30.1 < (x16.length : Int)) then
    (idx x16 st30.1).bind fun x40 =>
    if x40 then
      m_generate_State_j1 st30 (W (st30.2.1 + 1)) st30.1
    else
      m_generate_State_j1 st30 st30.2.1 st30.2.2
  else
    some (.inr st30.2)
/-- What generate.State computes. -/
noncomputable def m_generate_State (p0 : (Int × Int × Int × List Bool × (List (Int × Int))) × List Int × List Int × Int) (p1 : List Bool × List Bool) : Option (Int × Int) :=
  (m_generate_fits p0 p1).bind fun r13 =>
  if (r13 != 0) then
    some (0, r13)
  else
    (slc p1.2 0 p0.2.2.2).bind fun x16 =>
    (iter (m_generate_State_l1 x16) (0, 0, 0)).bind fun o30 =>
    if (o30.1 != 1) then
      some (0, 22)
    else
      some (o30.2, 0)
set_option maxRecDepth 100000 in
set_option maxHeartbeats 8000000 in
theorem m_generate_State_c {s : Sig} {p0 : (Int × Int × Int × List Bool × (List (Int × Int))) × List Int × List Int × Int} {p1 : List Bool × List Bool} {a1 : Option Addr} {c1 : Nat} {a2 : Option Addr} {c2 : Nat} {a3 : Option Addr} {c3 : Nat} {a4 : Option Addr} {c4 : Nat} {a5 : Option Addr} {c5 : Nat} {a6 : Option Addr} {c6 : Nat} {r : Int × Int} (h1 : RdL rB s a1 c1 p0.1.2.2.2.1) (h2 : RdL (rP (rK .i64) (rK .i64)) s a2 c2 p0.1.2.2.2.2) (h3 : RdL (rK .i64) s a3 c3 p0.2.1) (h4 : RdL (rK .i64) s a4 c4 p0.2.2.1) (h5 : RdL rB s a5 c5 p1.1) (h6 : RdL rB s a6 c6 p1.2) (hm : m_generate_State p0 p1 = some r) :
    Calls Try.prog 18 #[.agg #[.int .i64 p0.1.1, .int .i64 p0.1.2.1, .int .i64 p0.1.2.2.1, .slice a1 p0.1.2.2.2.1.length c1, .slice a2 p0.1.2.2.2.2.length c2, .slice a3 p0.2.1.length c3, .slice a4 p0.2.2.1.length c4, .int .i64 p0.2.2.2], .agg #[.slice a5 p1.1.length c5, .slice a6 p1.2.length c6]] s.w (RetS No s fun v s' => v = .tuple #[.int .i64 r.1, .int .i64 r.2]) := by
  unfold m_generate_State at hm
  obtain ⟨N, hN, hNb⟩ := s.fresh
  have m0 : Mv (Up N No) s s := Mv.refl _ _
  refine E.entry (vs := [.agg #[.int .i64 p0.1.1, .int .i64 p0.1.2.1, .int .i64 p0.1.2.2.1, .slice a1 p0.1.2.2.2.1.length c1, .slice a2 p0.1.2.2.2.2.length c2, .slice a3 p0.2.1.length c3, .slice a4 p0.2.2.1.length c4, .int .i64 p0.2.2.2], .agg #[.slice a5 p1.1.length c5, .slice a6 p1.2.length c6]]) (e := [(0, .agg #[.int .i64 p0.1.1, .int .i64 p0.1.2.1, .int .i64 p0.1.2.2.1, .slice a1 p0.1.2.2.2.1.length c1, .slice a2 p0.1.2.2.2.2.length c2, .slice a3 p0.2.1.length c3, .slice a4 p0.2.2.1.length c4, .int .i64 p0.2.2.2]), (1, .agg #[.slice a5 p1.1.length c5, .slice a6 p1.2.length c6])]) Try.func18 rfl Try.ntmps18 rfl rfl ?_
  refine E.seq ?_
  refine E.reg ?_
  refine L.box (N + 0) Wt.no rfl rfl rfl ?_
  intro b7 s8 m9 bx7
  replace m0 := m0.trans m9.no
  replace h5 := h5.mono (m9.le no_No)
  replace h6 := h6.mono (m9.le no_No)
  replace h1 := h1.mono (m9.le no_No)
  replace h2 := h2.mono (m9.le no_No)
  replace h3 := h3.mono (m9.le no_No)
  replace h4 := h4.mono (m9.le no_No)
  refine L.box (N + 1) Wt.no rfl rfl rfl ?_
  intro b10 s11 m12 bx10
  replace m0 := m0.trans m12.no
  replace bx7 := bx7.mv m12 no_No
  replace h1 := h1.mono (m12.le no_No)
  replace h2 := h2.mono (m12.le no_No)
  replace h3 := h3.mono (m12.le no_No)
  replace h4 := h4.mono (m12.le no_No)
  replace h5 := h5.mono (m12.le no_No)
  replace h6 := h6.mono (m12.le no_No)
  refine L.as Wt.no rfl rfl ?_
  refine L.as Wt.no rfl rfl ?_
  refine L.nil ?_
  refine X.seqN ?_
  refine E.seq ?_
  refine E.seq ?_
  refine E.reg ?_
  refine L.lg (j := 0) (cs := [.int .i64 p0.1.1, .int .i64 p0.1.2.1, .int .i64 p0.1.2.2.1, .slice a1 p0.1.2.2.2.1.length c1, .slice a2 p0.1.2.2.2.2.length c2, .slice a3 p0.2.1.length c3, .slice a4 p0.2.2.1.length c4, .int .i64 p0.2.2.2]) bx7.mem ag34 Wt.no rfl rfl rfl rfl rfl ?_
  refine L.lg (j := 0) (cs := [.slice a5 p1.1.length c5, .slice a6 p1.2.length c6]) bx10.mem ag39 Wt.no rfl rfl rfl rfl rfl ?_
  obtain ⟨r13, er13, hm⟩ := bindS hm
  refine L.ca (vs := [.agg #[.int .i64 p0.1.1, .int .i64 p0.1.2.1, .int .i64 p0.1.2.2.1, .slice a1 p0.1.2.2.2.1.length c1, .slice a2 p0.1.2.2.2.2.length c2, .slice a3 p0.2.1.length c3, .slice a4 p0.2.2.1.length c4, .int .i64 p0.2.2.2], .agg #[.slice a5 p1.1.length c5, .slice a6 p1.2.length c6]]) cf50 rfl rfl Wt.no rfl (m_generate_fits_c (s := s11) (p0 := p0) (p1 := p1) h1 h2 h3 h4 h5 h6 er13) rfl ?_
  rintro _ s14 m15 rfl
  replace m0 := m0.trans m15.no
  replace bx7 := bx7.mv m15 no_No
  replace h1 := h1.mono (m15.le no_No)
  replace h2 := h2.mono (m15.le no_No)
  replace h3 := h3.mono (m15.le no_No)
  replace h4 := h4.mono (m15.le no_No)
  replace bx10 := bx10.mv m15 no_No
  replace h5 := h5.mono (m15.le no_No)
  replace h6 := h6.mono (m15.le no_No)
  refine L.as Wt.no rfl rfl ?_
  refine L.nil ?_
  refine X.seqN ?_
  refine E.seq ?_
  refine E.reg ?_
  refine L.mv Wt.no rfl rfl ?_
  refine L.bi Wt.no rfl rfl rfl rfl ?_
  refine L.nil ?_
  refine X.seqN ?_
  rcases ifS hm with ⟨hc, hm⟩ | ⟨hc, hm⟩
  · refine E.cT rfl hc ?_
    refine E.seq ?_
    refine E.reg ?_
    refine L.mv Wt.no rfl rfl ?_
    refine L.as Wt.no rfl rfl ?_
    refine L.as Wt.no rfl rfl ?_
    refine L.nil ?_
    refine X.seqN ?_
    refine E.ret ?_
    refine X.seqR ?_
    obtain rfl := Option.some.inj hm
    exact X.rt (.inl rfl) Try.results18 (Rs.tmp rfl (Rs.tmp rfl Rs.nil)) rfl ⟨_, (s14).ren N (fun _ => 0), rfl, rfl, m0.ren hNb, rfl⟩
  · refine E.cF rfl hc ?_
    refine E.skip ?_
    refine X.seqN ?_
    refine E.seq ?_
    refine E.reg ?_
    refine L.as Wt.no rfl rfl ?_
    refine L.nil ?_
    refine X.seqN ?_
    refine E.seq ?_
    refine E.seq ?_
    refine E.reg ?_
    refine L.fa fa39_1 Wt.no rfl rfl ?_
    refine L.ld (j := 1) bx10.mem nag29 Wt.no rfl rfl rfl rfl ?_
    refine L.fa fa34_3 Wt.no rfl rfl ?_
    refine L.ld (j := 7) bx7.mem nag3 Wt.no rfl rfl rfl rfl ?_
    obtain ⟨x16, ex16, hm⟩ := bindS hm
    refine L.sh (r := rB) sl29 h6 Wt.no rfl rfl ex16 rfl ?_
    intro a17 c17 h17
    refine L.len sl29 Wt.no rfl rfl ?_
    refine L.mv Wt.no rfl rfl ?_
    refine L.nil ?_
    refine X.seqN ?_
    refine E.block ?_
    obtain ⟨o30, eo30, hm⟩ := bindS hm
    refine E.cut (x := .exit 0) (fun e w => ∃ (s34 : Sig), Mv (Up N No) s s34 ∧ e = [(7, .int .i64 o30.1), (4, .int .i64 o30.2)] ∧ w = s34.w) ?_ ?_
    · rintro _ _ ⟨s34, m0, rfl, rfl⟩
      refine X.blkE ?_
      refine X.seqN ?_
      refine E.seq ?_
      refine E.seq ?_
      refine E.reg ?_
      refine L.mv Wt.no rfl rfl ?_
      refine L.bi Wt.no rfl rfl rfl rfl ?_
      refine L.nil ?_
      refine X.seqN ?_
      rcases ifS hm with ⟨hc, hm⟩ | ⟨hc, hm⟩
      · refine E.cT rfl hc ?_
        refine E.seq ?_
        refine E.reg ?_
        refine L.as Wt.no rfl rfl ?_
        refine L.as Wt.no rfl rfl ?_
        refine L.nil ?_
        refine X.seqN ?_
        refine E.ret ?_
        refine X.seqR ?_
        obtain rfl := Option.some.inj hm
        exact X.rt (.inl rfl) Try.results18 (Rs.tmp rfl (Rs.tmp rfl Rs.nil)) rfl ⟨_, (s34).ren N (fun _ => 0), rfl, rfl, m0.ren hNb, rfl⟩
      · refine E.cF rfl hc ?_
        refine E.skip ?_
        refine X.seqN ?_
        refine E.seq ?_
        refine E.reg ?_
        refine L.mv Wt.no rfl rfl ?_
        refine L.as Wt.no rfl rfl ?_
        refine L.as Wt.no rfl rfl ?_
        refine L.nil ?_
        refine X.seqN ?_
        refine E.ret ?_
        obtain rfl := Option.some.inj hm
        exact X.rt (.inl rfl) Try.results18 (Rs.tmp rfl (Rs.tmp rfl Rs.nil)) rfl ⟨_, (s34).ren N (fun _ => 0), rfl, rfl, m0.ren hNb, rfl⟩
    intro K35
    refine E.iter (fun (st30 : Int × Int × Int) (e : List (Nat × Value)) (w : World) => ∃ (s33 : Sig), Mv (Up N No) s s33 ∧ RdL rB s33 a17 c17 x16 ∧ e = [(22, .int .i64 st30.1), (21, .int .i64 (x16.length : Int)), (20, .slice a17 x16.length c17), (7, .int .i64 st30.2.1), (4, .int .i64 st30.2.2)] ∧ w = s33.w) eo30 ⟨s14, m0, h17, rfl, rfl⟩ (Sub.cons rfl (Sub.cons rfl (Sub.cons rfl (Sub.cons rfl (Sub.cons rfl Sub.nil))))) ?_
    rintro st30 res30 hm ih30 ho30 _ _ ⟨s33, m0, h17, rfl, rfl⟩
    unfold m_generate_State_l1 at hm
    refine E.seq ?_
    refine E.reg ?_
    refine L.bi Wt.no rfl rfl rfl rfl ?_
    refine L.nil ?_
    refine X.seqN ?_
    refine E.seq ?_
    rcases ifS hm with ⟨hc, hm⟩ | ⟨hc, hm⟩
    · refine E.cT rfl hc ?_
      refine E.skip ?_
      refine X.seqN ?_
      refine E.seqJ (fun e w => ∃ (s38 : Sig) (n36 : Int) (n37 : Int), m_generate_State_j1 st30 n36 n37 = some res30 ∧ Mv (Up N No) s s38 ∧ RdL rB s38 a17 c17 x16 ∧ e = [(7, .int .i64 n36), (4, .int .i64 n37), (22, .int .i64 st30.1), (21, .int .i64 (x16.length : Int)), (20, .slice a17 x16.length c17)] ∧ w = s38.w) ?_ ?_
      · rintro _ _ ⟨s38, n36, n37, hm, m0, h17, rfl, rfl⟩
        unfold m_generate_State_j1 at hm
        refine E.reg ?_
        refine L.bi Wt.no rfl rfl rfl rfl ?_
        refine L.mv Wt.no rfl rfl ?_
        refine L.nil ?_
        exact X.sub (ih30 _ (Option.some.inj hm).symm _ _ ⟨s38, m0, h17, rfl, rfl⟩) (Sub.cons rfl (Sub.cons rfl (Sub.cons rfl (Sub.cons rfl (Sub.cons rfl Sub.nil)))))
      · intro Jj39
        refine E.block ?_
        refine E.seq ?_
        refine E.reg ?_
        refine L.mv Wt.no rfl rfl ?_
        obtain ⟨x40, ex40, hm⟩ := bindS hm
        refine L.ix (r := rB) sl29 h17 Wt.no rfl rfl ex40 rfl ?_
        rintro b41 o41 cc41 me41 rd41
        obtain rfl := rd41
        refine L.ld (j := 0) me41 nag4 Wt.no rfl rfl rfl rfl ?_
        refine L.as Wt.no rfl rfl ?_
        refine L.as Wt.no rfl rfl ?_
        refine L.nil ?_
        refine X.seqN ?_
        refine E.seq ?_
        refine E.reg ?_
        refine L.mv Wt.no rfl rfl ?_
        refine L.nil ?_
        refine X.seqN ?_
        rcases ifS hm with ⟨hc, hm⟩ | ⟨hc, hm⟩
        · refine E.cT rfl hc ?_
          refine E.reg ?_
          refine L.mv Wt.no rfl rfl ?_
          refine L.mv Wt.no rfl rfl ?_
          refine L.bi Wt.no rfl rfl rfl rfl ?_
          refine L.as Wt.no rfl rfl ?_
          refine L.as Wt.no rfl rfl ?_
          refine L.nil ?_
          refine X.blkN ?_
          exact X.sub (Jj39 _ _ ⟨s33, (W (st30.2.1 + 1)), st30.1, hm, m0, h17, rfl, rfl⟩) (Sub.cons rfl (Sub.cons rfl (Sub.cons rfl (Sub.cons rfl (Sub.cons rfl Sub.nil)))))
        · refine E.cF rfl hc ?_
          refine E.skip ?_
          refine X.blkN ?_
          exact X.sub (Jj39 _ _ ⟨s33, st30.2.1, st30.2.2, hm, m0, h17, rfl, rfl⟩) (Sub.cons rfl (Sub.cons rfl (Sub.cons rfl (Sub.cons rfl (Sub.cons rfl Sub.nil)))))
    · refine E.cF rfl hc ?_
      refine E.exit ?_
      refine X.seqX ?_
      refine X.seqX ?_
      have hx := ho30 _ (Option.some.inj hm).symm
      subst hx
      exact X.sub (K35 _ _ ⟨s33, m0, rfl, rfl⟩) (Sub.cons rfl (Sub.cons rfl Sub.nil))

noncomputable def m_slices_Equal_int_l1 (p0 : List Int) (p1 : List Int) (st19 : Int) : Option (Int ⊕ (Unit ⊕ Unit)) :=
  if decide (st19 < (p0.length : Int)) then
    (idx p0 st19).bind fun x30 =>
    (idx p1 st19).bind fun x36 =>
    if (x30 != x36) then
      some (.inr (.inr (())))
    else
      some (.inl (W (st19 + 1)))
  else
    some (.inr (.inl ()))
/-- What slices.Equal<<>int,int> computes. -/
noncomputable def m_slices_Equal_int (p0 : List Int) (p1 : List Int) : Option Bool :=
  if ((p0.length : Int) != (p1.length : Int)) then
    some false
  else
    (iter (m_slices_Equal_int_l1 p0 p1) 0).bind fun o19 =>
    match o19 with
    | .inl u21 =>
      some true
    | .inr (u24) =>
      some false
set_option maxRecDepth 100000 in
set_option maxHeartbeats 8000000 in
theorem m_slices_Equal_int_c {s : Sig} {p0 : List Int} {p1 : List Int} {a1 : Option Addr} {c1 : Nat} {a2 : Option Addr} {c2 : Nat} {r : Bool} (h1 : RdL (rK .i64) s a1 c1 p0) (h2 : RdL (rK .i64) s a2 c2 p1) (hm : m_slices_Equal_int p0 p1 = some r) :
    Calls Try.prog 20 #[.slice a1 p0.length c1, .slice a2 p1.length c2] s.w (RetS No s fun v s' => v = .bool r) := by
  unfold m_slices_Equal_int at hm
  obtain ⟨N, hN, hNb⟩ := s.fresh
  have m0 : Mv (Up N No) s s := Mv.refl _ _
  refine E.entry (vs := [.slice a1 p0.length c1, .slice a2 p1.length c2]) (e := [(0, .slice a1 p0.length c1), (1, .slice a2 p1.length c2)]) Try.func20 rfl Try.ntmps20 rfl rfl ?_
  refine E.seq ?_
  refine E.reg ?_
  refine L.as Wt.no rfl rfl ?_
  refine L.nil ?_
  refine X.seqN ?_
  refine E.seq ?_
  refine E.seq ?_
  refine E.reg ?_
  refine L.mv Wt.no rfl rfl ?_
  refine L.len sl23 Wt.no rfl rfl ?_
  refine L.mv Wt.no rfl rfl ?_
  refine L.len sl23 Wt.no rfl rfl ?_
  refine L.bi Wt.no rfl rfl rfl rfl ?_
  refine L.nil ?_
  refine X.seqN ?_
  rcases ifS hm with ⟨hc, hm⟩ | ⟨hc, hm⟩
  · refine E.cT rfl hc ?_
    refine E.seq ?_
    refine E.reg ?_
    refine L.as Wt.no rfl rfl ?_
    refine L.nil ?_
    refine X.seqN ?_
    refine E.ret ?_
    refine X.seqR ?_
    obtain rfl := Option.some.inj hm
    exact X.rt (.inl rfl) Try.results20 (Rs.tmp rfl Rs.nil) rfl ⟨_, (s).ren N (fun _ => 0), rfl, rfl, m0.ren hNb, rfl⟩
  · refine E.cF rfl hc ?_
    refine E.skip ?_
    refine X.seqN ?_
    refine E.seq ?_
    refine E.seq ?_
    refine E.reg ?_
    refine L.mv Wt.no rfl rfl ?_
    refine L.len sl23 Wt.no rfl rfl ?_
    refine L.mv Wt.no rfl rfl ?_
    refine L.nil ?_
    refine X.seqN ?_
    refine E.block ?_
    obtain ⟨o19, eo19, hm⟩ := bindS hm
    refine E.cut (x := .exit 0) (fun e w => ∃ (s22 : Sig) (u21 : Unit), o19 = .inl u21 ∧ Mv (Up N No) s s22 ∧ e = [] ∧ w = s22.w) ?_ ?_
    · rintro _ _ ⟨s22, u21, rfl, m0, rfl, rfl⟩
      dsimp only at hm
      refine X.blkE ?_
      refine X.seqN ?_
      refine E.seq ?_
      refine E.reg ?_
      refine L.as Wt.no rfl rfl ?_
      refine L.nil ?_
      refine X.seqN ?_
      refine E.ret ?_
      obtain rfl := Option.some.inj hm
      exact X.rt (.inl rfl) Try.results20 (Rs.tmp rfl Rs.nil) rfl ⟨_, (s22).ren N (fun _ => 0), rfl, rfl, m0.ren hNb, rfl⟩
    intro K23
    refine E.cut (x := .ret) (fun e w => ∃ (s25 : Sig) (u24 : Unit), o19 = .inr (u24) ∧ Mv (Up N No) s s25 ∧ e = [(4, .bool false)] ∧ w = s25.w) ?_ ?_
    · rintro _ _ ⟨s25, u24, rfl, m0, rfl, rfl⟩
      dsimp only at hm
      refine X.blkR ?_
      refine X.seqR ?_
      obtain rfl := Option.some.inj hm
      exact X.rt (.inl rfl) Try.results20 (Rs.tmp rfl Rs.nil) rfl ⟨_, (s25).ren N (fun _ => 0), rfl, rfl, m0.ren hNb, rfl⟩
    intro K26
    refine E.iter (fun (st19 : Int) (e : List (Nat × Value)) (w : World) => ∃ (s20 : Sig), Mv (Up N No) s s20 ∧ RdL (rK .i64) s20 a1 c1 p0 ∧ RdL (rK .i64) s20 a2 c2 p1 ∧ e = [(13, .int .i64 st19), (12, .int .i64 (p0.length : Int)), (0, .slice a1 p0.length c1), (1, .slice a2 p1.length c2)] ∧ w = s20.w) eo19 ⟨s, m0, h1, h2, rfl, rfl⟩ (Sub.cons rfl (Sub.cons rfl (Sub.cons rfl (Sub.cons rfl Sub.nil)))) ?_
    rintro st19 res19 hm ih19 ho19 _ _ ⟨s20, m0, h1, h2, rfl, rfl⟩
    unfold m_slices_Equal_int_l1 at hm
    refine E.seq ?_
    refine E.reg ?_
    refine L.bi Wt.no rfl rfl rfl rfl ?_
    refine L.nil ?_
    refine X.seqN ?_
    refine E.seq ?_
    rcases ifS hm with ⟨hc, hm⟩ | ⟨hc, hm⟩
    · refine E.cT rfl hc ?_
      refine E.skip ?_
      refine X.seqN ?_
      refine E.seq ?_
      refine E.block ?_
      refine E.seq ?_
      refine E.reg ?_
      refine L.mv Wt.no rfl rfl ?_
      refine L.as Wt.no rfl rfl ?_
      refine L.nil ?_
      refine X.seqN ?_
      refine E.seq ?_
      obtain ⟨x30, ex30, hm⟩ := bindS hm
      obtain ⟨x36, ex36, hm⟩ := bindS hm
      refine E.draw [[], [], [0, 1], [0, 1, 2], [], [], [4, 5], [4, 5, 6], [0, 1, 2, 3, 4, 5, 6, 7]] (fun D e sx => Mv No s20 sx ∧ Sub [(5, .int .i64 st19), (13, .int .i64 st19), (12, .int .i64 (p0.length : Int)), (0, .slice a1 p0.length c1), (1, .slice a2 p1.length c2)] e ∧ (D 0 = true → (Env.get e 16 = some (.slice a1 p0.length c1))) ∧ (D 1 = true → (Env.get e 17 = some (.int .i64 st19))) ∧ (D 2 = true → (∃ (b31 : Nat) (o31 : Nat), Env.get e 18 = some (.pointer (some ⟨b31, o31, none⟩)) ∧ Mem sx 0 b31 o31 [.int .i64 x30])) ∧ (D 3 = true → (Env.get e 19 = some (.int .i64 x30))) ∧ (D 4 = true → (Env.get e 20 = some (.slice a2 p1.length c2))) ∧ (D 5 = true → (Env.get e 21 = some (.int .i64 st19))) ∧ (D 6 = true → (∃ (b37 : Nat) (o37 : Nat), Env.get e 22 = some (.pointer (some ⟨b37, o37, none⟩)) ∧ Mem sx 0 b37 o37 [.int .i64 x36])) ∧ (D 7 = true → (Env.get e 23 = some (.int .i64 x36))) ∧ (D 8 = true → (Env.get e 24 = some (.bool (x30 != x36))))) (by kernel_rfl) (by kernel_rfl) (by kernel_rfl) ?_ ?_ ?_
      · intro sz mz
        exact ⟨mz, (Sub.cons rfl (Sub.cons rfl (Sub.cons rfl (Sub.cons rfl (Sub.cons rfl Sub.nil))))), nofun, nofun, nofun, nofun, nofun, nofun, nofun, nofun, nofun⟩
      · refine ⟨?_, ?_, ?_, ?_, ?_, ?_, ?_, ?_, ?_, trivial⟩
        · rintro D e s27 ⟨im, ib, i0, i1, i2, i3, i4, i5, i6, i7, i8⟩ hk hf ha
          refine L.kns [(0, .slice a1 p0.length c1)] ⟨(ib 0 _ rfl), trivial⟩ ?_
          refine L.mv Wt.no rfl rfl ?_
          refine L.nil ?_
          refine X.dr (s := s27) (e' := (16, .slice a1 p0.length c1) :: e) (Sub.both (Kn.sup ⟨(ib 0 _ rfl), trivial⟩)) ⟨im, Sub.fresh ib rfl, fun _ => rfl, i1, i2, i3, i4, i5, i6, i7, i8⟩
        · rintro D e s28 ⟨im, ib, i0, i1, i2, i3, i4, i5, i6, i7, i8⟩ hk hf ha
          refine L.kns [(5, .int .i64 st19)] ⟨(ib 5 _ rfl), trivial⟩ ?_
          refine L.mv Wt.no rfl rfl ?_
          refine L.nil ?_
          refine X.dr (s := s28) (e' := (17, .int .i64 st19) :: e) (Sub.both (Kn.sup ⟨(ib 5 _ rfl), trivial⟩)) ⟨im, Sub.fresh ib rfl, i0, fun _ => rfl, i2, i3, i4, i5, i6, i7, i8⟩
        · rintro D e s29 ⟨im, ib, i0, i1, i2, i3, i4, i5, i6, i7, i8⟩ hk hf ha
          obtain ⟨d0, d1, -⟩ := ha
          have g0_ := i0 d0
          have g1_ := i1 d1
          have h1 := h1.mono (im.le no_No)
          refine L.kns [(16, .slice a1 p0.length c1), (17, .int .i64 st19)] ⟨g0_, g1_, trivial⟩ ?_
          refine L.ix (r := (rK .i64)) sl23 h1 Wt.no rfl rfl ex30 rfl ?_
          rintro b31 o31 cc31 me31 rd31
          obtain rfl := rd31
          refine L.nil ?_
          refine X.dr (s := s29) (e' := (18, .pointer (some ⟨b31, o31, none⟩)) :: e) (Sub.both (Kn.sup ⟨g0_, g1_, trivial⟩)) ⟨im, Sub.fresh ib rfl, i0, i1, fun _ => ⟨b31, o31, rfl, me31⟩, i3, i4, i5, i6, i7, i8⟩
        · rintro D e s32 ⟨im, ib, i0, i1, i2, i3, i4, i5, i6, i7, i8⟩ hk hf ha
          obtain ⟨d0, d1, d2, -⟩ := ha
          obtain ⟨b31, o31, g2_, me31⟩ := i2 d2
          refine L.kns [(18, .pointer (some ⟨b31, o31, none⟩))] ⟨g2_, trivial⟩ ?_
          refine L.ld (j := 0) me31 nag3 Wt.no rfl rfl rfl rfl ?_
          refine L.nil ?_
          refine X.dr (s := s32) (e' := (19, .int .i64 x30) :: e) (Sub.both (Kn.sup ⟨g2_, trivial⟩)) ⟨im, Sub.fresh ib rfl, i0, i1, i2, fun _ => rfl, i4, i5, i6, i7, i8⟩
        · rintro D e s33 ⟨im, ib, i0, i1, i2, i3, i4, i5, i6, i7, i8⟩ hk hf ha
          refine L.kns [(1, .slice a2 p1.length c2)] ⟨(ib 1 _ rfl), trivial⟩ ?_
          refine L.mv Wt.no rfl rfl ?_
          refine L.nil ?_
          refine X.dr (s := s33) (e' := (20, .slice a2 p1.length c2) :: e) (Sub.both (Kn.sup ⟨(ib 1 _ rfl), trivial⟩)) ⟨im, Sub.fresh ib rfl, i0, i1, i2, i3, fun _ => rfl, i5, i6, i7, i8⟩
        · rintro D e s34 ⟨im, ib, i0, i1, i2, i3, i4, i5, i6, i7, i8⟩ hk hf ha
          refine L.kns [(5, .int .i64 st19)] ⟨(ib 5 _ rfl), trivial⟩ ?_
          refine L.mv Wt.no rfl rfl ?_
          refine L.nil ?_
          refine X.dr (s := s34) (e' := (21, .int .i64 st19) :: e) (Sub.both (Kn.sup ⟨(ib 5 _ rfl), trivial⟩)) ⟨im, Sub.fresh ib rfl, i0, i1, i2, i3, i4, fun _ => rfl, i6, i7, i8⟩
        · rintro D e s35 ⟨im, ib, i0, i1, i2, i3, i4, i5, i6, i7, i8⟩ hk hf ha
          obtain ⟨d4, d5, -⟩ := ha
          have g4_ := i4 d4
          have g5_ := i5 d5
          have h2 := h2.mono (im.le no_No)
          refine L.kns [(20, .slice a2 p1.length c2), (21, .int .i64 st19)] ⟨g4_, g5_, trivial⟩ ?_
          refine L.ix (r := (rK .i64)) sl23 h2 Wt.no rfl rfl ex36 rfl ?_
          rintro b37 o37 cc37 me37 rd37
          obtain rfl := rd37
          refine L.nil ?_
          refine X.dr (s := s35) (e' := (22, .pointer (some ⟨b37, o37, none⟩)) :: e) (Sub.both (Kn.sup ⟨g4_, g5_, trivial⟩)) ⟨im, Sub.fresh ib rfl, i0, i1, i2, i3, i4, i5, fun _ => ⟨b37, o37, rfl, me37⟩, i7, i8⟩
        · rintro D e s38 ⟨im, ib, i0, i1, i2, i3, i4, i5, i6, i7, i8⟩ hk hf ha
          obtain ⟨d4, d5, d6, -⟩ := ha
          obtain ⟨b37, o37, g6_, me37⟩ := i6 d6
          refine L.kns [(22, .pointer (some ⟨b37, o37, none⟩))] ⟨g6_, trivial⟩ ?_
          refine L.ld (j := 0) me37 nag3 Wt.no rfl rfl rfl rfl ?_
          refine L.nil ?_
          refine X.dr (s := s38) (e' := (23, .int .i64 x36) :: e) (Sub.both (Kn.sup ⟨g6_, trivial⟩)) ⟨im, Sub.fresh ib rfl, i0, i1, i2, i3, i4, i5, i6, fun _ => rfl, i8⟩
        · rintro D e s39 ⟨im, ib, i0, i1, i2, i3, i4, i5, i6, i7, i8⟩ hk hf ha
          obtain ⟨d0, d1, d2, d3, d4, d5, d6, d7, -⟩ := ha
          have g3_ := i3 d3
          have g7_ := i7 d7
          refine L.kns [(19, .int .i64 x30), (23, .int .i64 x36)] ⟨g3_, g7_, trivial⟩ ?_
          refine L.bi Wt.no rfl rfl rfl rfl ?_
          refine L.nil ?_
          refine X.dr (s := s39) (e' := (24, .bool (x30 != x36)) :: e) (Sub.both (Kn.sup ⟨g3_, g7_, trivial⟩)) ⟨im, Sub.fresh ib rfl, i0, i1, i2, i3, i4, i5, i6, i7, fun _ => rfl⟩
      · rintro D e s40 hD ⟨im, ib, i0, i1, i2, i3, i4, i5, i6, i7, i8⟩
        have g8_ := i8 (hD 8 rfl)
        have h1 := h1.mono (im.le no_No)
        have h2 := h2.mono (im.le no_No)
        have m0 := m0.trans im.no
        refine X.sub (e' := [(24, .bool (x30 != x36)), (13, .int .i64 st19), (12, .int .i64 (p0.length : Int)), (0, .slice a1 p0.length c1), (1, .slice a2 p1.length c2)]) ?_ (Sub.cons g8_ (Sub.cons (ib 13 _ rfl) (Sub.cons (ib 12 _ rfl) (Sub.cons (ib 0 _ rfl) (Sub.cons (ib 1 _ rfl) Sub.nil)))))
        refine X.seqN ?_
        rcases ifS hm with ⟨hc, hm⟩ | ⟨hc, hm⟩
        · refine E.cT rfl hc ?_
          refine E.seq ?_
          refine E.reg ?_
          refine L.as Wt.no rfl rfl ?_
          refine L.nil ?_
          refine X.seqN ?_
          refine E.ret ?_
          refine X.blkR ?_
          refine X.seqR ?_
          refine X.seqR ?_
          have hx := ho19 _ (Option.some.inj hm).symm
          exact X.sub (K26 _ _ ⟨s40, (), hx.symm, m0, rfl, rfl⟩) (Sub.cons rfl Sub.nil)
        · refine E.cF rfl hc ?_
          refine E.skip ?_
          refine X.blkN ?_
          refine X.seqN ?_
          refine E.reg ?_
          refine L.bi Wt.no rfl rfl rfl rfl ?_
          refine L.mv Wt.no rfl rfl ?_
          refine L.nil ?_
          exact X.sub (ih19 _ (Option.some.inj hm).symm _ _ ⟨s40, m0, h1, h2, rfl, rfl⟩) (Sub.cons rfl (Sub.cons rfl (Sub.cons rfl (Sub.cons rfl Sub.nil))))
    · refine E.cF rfl hc ?_
      refine E.exit ?_
      refine X.seqX ?_
      refine X.seqX ?_
      have hx := ho19 _ (Option.some.inj hm).symm
      exact X.sub (K23 _ _ ⟨s20, (), hx.symm, m0, rfl, rfl⟩) Sub.nil

theorem cf12 : Cf Try.prog 12 := Cf.mk Try.func12 (by kernel_rfl) (by kernel_rfl)
theorem cf13 : Cf Try.prog 13 := Cf.mk Try.func13 (by kernel_rfl) (by kernel_rfl)
theorem cf14 : Cf Try.prog 14 := Cf.mk Try.func14 (by kernel_rfl) (by kernel_rfl)
theorem cf18 : Cf Try.prog 18 := Cf.mk Try.func18 (by kernel_rfl) (by kernel_rfl)
theorem cf19 : Cf Try.prog 19 := Cf.mk Try.func19 (by kernel_rfl) (by kernel_rfl)
theorem cf20 : Cf Try.prog 20 := Cf.mk Try.func20 (by kernel_rfl) (by kernel_rfl)
theorem cf38 : Cf Try.prog 38 := Cf.mk Try.func38 (by kernel_rfl) (by kernel_rfl)
/-- What overseerlaw53.known computes. -/
noncomputable def m_overseerlaw53_known : Option Bool :=
  (m_overseerlaw53_example).bind fun r1 =>
  (m_generate_Generate r1 ([3] : List Int)).bind fun r10 =>
  (if ((((r10.2 != 0) || (r10.1.1.1 != 2)) || (r10.1.1.2.1 != 2)) || (r10.1.2.2.2 != 2)) then
    some true
  else
    (m_instruction_Check r10.1.1).bind fun r97 =>
    some (r97 != 0)).bind fun b25 =>
  if b25 then
    some false
  else
    (m_instruction_Start r10.1.1).bind fun r28 =>
    (m_generate_Scan r10.1 r28.1 ([] : List Int)).bind fun r38 =>
    (m_generate_Enabled r10.1 r38.1).bind fun r48 =>
    (m_generate_Scan r10.1 r38.1 ([3] : List Int)).bind fun r55 =>
    (m_generate_State r10.1 r55.1).bind fun r65 =>
    (m_generate_Enabled r10.1 r55.1).bind fun r68 =>
    (if ((((((r28.2 == 0) && (r38.2 == 0)) && (r48.2 == 0)) && (r55.2 == 0)) && (r65.2 == 0)) && (r68.2 == 0)) then
      (m_slices_Equal_int r48.1 ([3] : List Int)).bind fun r88 =>
      some r88
    else
      some false).bind fun b77 =>
    some ((b77 && (r65.1 == 1)) && ((r68.1.length : Int) == 0))
set_option maxRecDepth 100000 in
set_option maxHeartbeats 8000000 in
theorem m_overseerlaw53_known_c {s : Sig} {r : Bool} (hm : m_overseerlaw53_known = some r) :
    Calls Try.prog 11 #[] s.w (RetS No s fun v s' => v = .bool r) := by
  unfold m_overseerlaw53_known at hm
  obtain ⟨N, hN, hNb⟩ := s.fresh
  have m0 : Mv (Up N No) s s := Mv.refl _ _
  refine E.entry (vs := []) (e := []) Try.func11 rfl Try.ntmps11 rfl rfl ?_
  refine E.seq ?_
  refine E.reg ?_
  refine L.as Wt.no rfl rfl ?_
  refine L.nil ?_
  refine X.seqN ?_
  refine E.seq ?_
  refine E.reg ?_
  obtain ⟨r1, er1, hm⟩ := bindS hm
  refine L.ca (vs := []) cf38 rfl rfl Wt.no rfl (m_overseerlaw53_example_c (s := s) er1) rfl ?_
  rintro _ s2 m3 ⟨a4, c4, a5, c5, a6, c6, rfl, h4, h5, h6⟩
  replace m0 := m0.trans m3.no
  refine L.bsE (k := 1) (cs := [.int .i64 3]) 0 bs23 (Nat.le_of_ble_eq_true rfl) Wt.no rfl rfl rfl rfl ?_
  intro b7 s8 m9 bx7
  replace m0 := m0.trans m9.no
  replace h4 := h4.mono (m9.le no_No)
  replace h5 := h5.mono (m9.le no_No)
  replace h6 := h6.mono (m9.le no_No)
  have h7 := Bx.rdL (r := (rK .i64)) (xs := ([3] : List Int)) bx7 ⟨[.int .i64 3], _, rfl, rfl, rfl⟩ (Nat.le_of_ble_eq_true rfl)
  obtain ⟨r10, er10, hm⟩ := bindS hm
  refine L.ca (vs := [.agg #[.slice a4 r1.1.length c4, .int .i64 r1.2.1, .slice a5 r1.2.2.1.length c5, .slice a6 r1.2.2.2.length c6], .slice (some ⟨b7, 0, none⟩) ([3] : List Int).length (([3] : List Int).length)]) cf12 rfl rfl Wt.no rfl (m_generate_Generate_c (s := s8) (p0 := r1) (p1 := ([3] : List Int)) (u0 := 0) (u1 := 0) (u2 := 0) (u3 := 0) h4 h5 h6 h7 er10) rfl ?_
  rintro _ s11 m12 ⟨a13, c13, a14, c14, a15, c15, a16, c16, rfl, h13, h14, h15, h16⟩
  replace h13 := h13.p
  replace h14 := h14.p
  replace h15 := h15.p
  replace h16 := h16.p
  replace m0 := m0.trans m12.no
  refine L.mv Wt.no rfl rfl ?_
  refine L.ex Wt.no rfl rfl rfl ?_
  refine L.ex Wt.no rfl rfl rfl ?_
  refine L.al (N + 0) zz34 rfl Wt.no rfl ?_
  intro b17 s18 m19 bx17
  replace m0 := m0.trans m19.no
  replace h13 := h13.mono (m19.le no_No)
  replace h14 := h14.mono (m19.le no_No)
  replace h15 := h15.mono (m19.le no_No)
  replace h16 := h16.mono (m19.le no_No)
  refine L.st (c := [.int .i64 r10.1.1.1, .int .i64 r10.1.1.2.1, .int .i64 r10.1.1.2.2.1, .slice a13 r10.1.1.2.2.2.1.length c13, .slice a14 r10.1.1.2.2.2.2.length c14, .slice a15 r10.1.2.1.length c15, .slice a16 r10.1.2.2.1.length c16, .int .i64 r10.1.2.2.2]) (cs' := #[.int .i64 r10.1.1.1, .int .i64 r10.1.1.2.1, .int .i64 r10.1.1.2.2.1, .slice a13 r10.1.1.2.2.2.1.length c13, .slice a14 r10.1.1.2.2.2.2.length c14, .slice a15 r10.1.2.1.length c15, .slice a16 r10.1.2.2.1.length c16, .int .i64 r10.1.2.2.2]) bx17 ag34.sz Wt.no rfl rfl rfl rfl rfl (Nat.le_of_ble_eq_true rfl) rfl ?_
  intro s20 m21 bx17
  replace m0 := m0.trans (m21.one up)
  replace h13 := h13.mono (m21.le (tg0 hN))
  replace h14 := h14.mono (m21.le (tg0 hN))
  replace h15 := h15.mono (m21.le (tg0 hN))
  replace h16 := h16.mono (m21.le (tg0 hN))
  refine L.as Wt.no rfl rfl ?_
  refine L.nil ?_
  refine X.seqN ?_
  refine E.seq ?_
  refine E.seq ?_
  refine E.reg ?_
  refine L.mv Wt.no rfl rfl ?_
  refine L.bi Wt.no rfl rfl rfl rfl ?_
  refine L.mv Wt.no rfl rfl ?_
  refine L.cut 5 (fun e w => ∃ (v22 : Bool), ((r10.2 != 0) || (r10.1.1.1 != 2)) = v22 ∧ e = (28, .bool v22) :: [(1, .pointer (some ⟨b17, 0, none⟩))] ∧ w = s20.w) ?_ ?_
  · rintro _ _ ⟨v22, rfl, rfl, rfl⟩
    refine L.mv Wt.no rfl rfl ?_
    refine L.cut 5 (fun e w => ∃ (v23 : Bool), (((r10.2 != 0) || (r10.1.1.1 != 2)) || (r10.1.1.2.1 != 2)) = v23 ∧ e = (34, .bool v23) :: [(1, .pointer (some ⟨b17, 0, none⟩))] ∧ w = s20.w) ?_ ?_
    · rintro _ _ ⟨v23, rfl, rfl, rfl⟩
      refine L.mv Wt.no rfl rfl ?_
      refine L.cut 4 (fun e w => ∃ (v24 : Bool), ((((r10.2 != 0) || (r10.1.1.1 != 2)) || (r10.1.1.2.1 != 2)) || (r10.1.2.2.2 != 2)) = v24 ∧ e = (39, .bool v24) :: [(1, .pointer (some ⟨b17, 0, none⟩))] ∧ w = s20.w) ?_ ?_
      · rintro _ _ ⟨v24, rfl, rfl, rfl⟩
        refine L.mv Wt.no rfl rfl ?_
        obtain ⟨b25, eb25, hm⟩ := bindS hm
        refine L.cut 5 (fun e w => ∃ (s27 : Sig) (v26 : Bool), b25 = v26 ∧ Mv (Up N No) s s27 ∧ RdL rB s27 a13 c13 r10.1.1.2.2.2.1 ∧ RdL (rP (rK .i64) (rK .i64)) s27 a14 c14 r10.1.1.2.2.2.2 ∧ RdL (rK .i64) s27 a15 c15 r10.1.2.1 ∧ RdL (rK .i64) s27 a16 c16 r10.1.2.2.1 ∧ Bx s27 (N + 0) b17 #[.int .i64 r10.1.1.1, .int .i64 r10.1.1.2.1, .int .i64 r10.1.1.2.2.1, .slice a13 r10.1.1.2.2.2.1.length c13, .slice a14 r10.1.1.2.2.2.2.length c14, .slice a15 r10.1.2.1.length c15, .slice a16 r10.1.2.2.1.length c16, .int .i64 r10.1.2.2.2] 34 ∧ e = (45, .bool v26) :: [(1, .pointer (some ⟨b17, 0, none⟩))] ∧ w = s27.w) ?_ ?_
        · rintro _ _ ⟨s27, v26, rfl, m0, h13, h14, h15, h16, bx17, rfl, rfl⟩
          refine L.nil ?_
          refine X.seqN ?_
          rcases ifS hm with ⟨hc, hm⟩ | ⟨hc, hm⟩
          · refine E.cT rfl hc ?_
            refine E.seq ?_
            refine E.reg ?_
            refine L.as Wt.no rfl rfl ?_
            refine L.nil ?_
            refine X.seqN ?_
            refine E.ret ?_
            refine X.seqR ?_
            obtain rfl := Option.some.inj hm
            exact X.rt (.inl rfl) Try.results11 (Rs.tmp rfl Rs.nil) rfl ⟨_, (s27).ren N (fun _ => 0), rfl, rfl, m0.ren hNb, rfl⟩
          · refine E.cF rfl hc ?_
            refine E.skip ?_
            refine X.seqN ?_
            refine E.seq ?_
            refine E.reg ?_
            refine L.fa fa34_0 Wt.no rfl rfl ?_
            refine L.lg (j := 0) (cs := [.int .i64 r10.1.1.1, .int .i64 r10.1.1.2.1, .int .i64 r10.1.1.2.2.1, .slice a13 r10.1.1.2.2.2.1.length c13, .slice a14 r10.1.1.2.2.2.2.length c14]) bx17.mem ag32 Wt.no rfl rfl rfl rfl rfl ?_
            obtain ⟨r28, er28, hm⟩ := bindS hm
            refine L.ca (vs := [.agg #[.int .i64 r10.1.1.1, .int .i64 r10.1.1.2.1, .int .i64 r10.1.1.2.2.1, .slice a13 r10.1.1.2.2.2.1.length c13, .slice a14 r10.1.1.2.2.2.2.length c14]]) cf13 rfl rfl Wt.no rfl (m_instruction_Start_c (s := s27) (p0 := r10.1.1) (u0 := 0) (u1 := 0) h13 h14 er28) rfl ?_
            rintro _ s29 m30 ⟨a31, c31, a32, c32, rfl, h31, h32⟩
            replace h31 := h31.p
            replace h32 := h32.p
            replace m0 := m0.trans m30.no
            replace bx17 := bx17.mv m30 no_No
            replace h13 := h13.mono (m30.le no_No)
            replace h14 := h14.mono (m30.le no_No)
            replace h15 := h15.mono (m30.le no_No)
            replace h16 := h16.mono (m30.le no_No)
            refine L.mv Wt.no rfl rfl ?_
            refine L.ex Wt.no rfl rfl rfl ?_
            refine L.ex Wt.no rfl rfl rfl ?_
            refine L.al (N + 1) zz39 rfl Wt.no rfl ?_
            intro b33 s34 m35 bx33
            replace m0 := m0.trans m35.no
            replace h31 := h31.mono (m35.le no_No)
            replace h32 := h32.mono (m35.le no_No)
            replace bx17 := bx17.mv m35 no_No
            replace h13 := h13.mono (m35.le no_No)
            replace h14 := h14.mono (m35.le no_No)
            replace h15 := h15.mono (m35.le no_No)
            replace h16 := h16.mono (m35.le no_No)
            refine L.st (c := [.slice a31 r28.1.1.length c31, .slice a32 r28.1.2.length c32]) (cs' := #[.slice a31 r28.1.1.length c31, .slice a32 r28.1.2.length c32]) bx33 ag39.sz Wt.no rfl rfl rfl rfl rfl (Nat.le_of_ble_eq_true rfl) rfl ?_
            intro s36 m37 bx33
            replace m0 := m0.trans (m37.one up)
            replace bx17 := bx17.mv m37 (tgN (by decide))
            replace h13 := h13.mono (m37.le (tg0 hN))
            replace h14 := h14.mono (m37.le (tg0 hN))
            replace h15 := h15.mono (m37.le (tg0 hN))
            replace h16 := h16.mono (m37.le (tg0 hN))
            replace h31 := h31.mono (m37.le (tg0 hN))
            replace h32 := h32.mono (m37.le (tg0 hN))
            refine L.as Wt.no rfl rfl ?_
            refine L.nil ?_
            refine X.seqN ?_
            refine E.seq ?_
            refine E.reg ?_
            refine L.lg (j := 0) (cs := [.int .i64 r10.1.1.1, .int .i64 r10.1.1.2.1, .int .i64 r10.1.1.2.2.1, .slice a13 r10.1.1.2.2.2.1.length c13, .slice a14 r10.1.1.2.2.2.2.length c14, .slice a15 r10.1.2.1.length c15, .slice a16 r10.1.2.2.1.length c16, .int .i64 r10.1.2.2.2]) bx17.mem ag34 Wt.no rfl rfl rfl rfl rfl ?_
            refine L.lg (j := 0) (cs := [.slice a31 r28.1.1.length c31, .slice a32 r28.1.2.length c32]) bx33.mem ag39 Wt.no rfl rfl rfl rfl rfl ?_
            obtain ⟨r38, er38, hm⟩ := bindS hm
            refine L.ca (vs := [.agg #[.int .i64 r10.1.1.1, .int .i64 r10.1.1.2.1, .int .i64 r10.1.1.2.2.1, .slice a13 r10.1.1.2.2.2.1.length c13, .slice a14 r10.1.1.2.2.2.2.length c14, .slice a15 r10.1.2.1.length c15, .slice a16 r10.1.2.2.1.length c16, .int .i64 r10.1.2.2.2], .agg #[.slice a31 r28.1.1.length c31, .slice a32 r28.1.2.length c32], .slice none 0 0]) cf14 rfl rfl Wt.no rfl (m_generate_Scan_c (s := s36) (p0 := r10.1) (p1 := r28.1) (p2 := ([] : List Int)) h13 h14 h15 h16 h31 h32 RdL.nil er38) rfl ?_
            rintro _ s39 m40 ⟨a41, c41, a42, c42, rfl, h41, h42⟩
            replace m0 := m0.trans m40.no
            replace bx17 := bx17.mv m40 no_No
            replace h13 := h13.mono (m40.le no_No)
            replace h14 := h14.mono (m40.le no_No)
            replace h15 := h15.mono (m40.le no_No)
            replace h16 := h16.mono (m40.le no_No)
            refine L.mv Wt.no rfl rfl ?_
            refine L.ex Wt.no rfl rfl rfl ?_
            refine L.ex Wt.no rfl rfl rfl ?_
            refine L.al (N + 2) zz39 rfl Wt.no rfl ?_
            intro b43 s44 m45 bx43
            replace m0 := m0.trans m45.no
            replace h41 := h41.mono (m45.le no_No)
            replace h42 := h42.mono (m45.le no_No)
            replace bx17 := bx17.mv m45 no_No
            replace h13 := h13.mono (m45.le no_No)
            replace h14 := h14.mono (m45.le no_No)
            replace h15 := h15.mono (m45.le no_No)
            replace h16 := h16.mono (m45.le no_No)
            refine L.st (c := [.slice a41 r38.1.1.length c41, .slice a42 r38.1.2.length c42]) (cs' := #[.slice a41 r38.1.1.length c41, .slice a42 r38.1.2.length c42]) bx43 ag39.sz Wt.no rfl rfl rfl rfl rfl (Nat.le_of_ble_eq_true rfl) rfl ?_
            intro s46 m47 bx43
            replace m0 := m0.trans (m47.one up)
            replace bx17 := bx17.mv m47 (tgN (by decide))
            replace h13 := h13.mono (m47.le (tg0 hN))
            replace h14 := h14.mono (m47.le (tg0 hN))
            replace h15 := h15.mono (m47.le (tg0 hN))
            replace h16 := h16.mono (m47.le (tg0 hN))
            replace h41 := h41.mono (m47.le (tg0 hN))
            replace h42 := h42.mono (m47.le (tg0 hN))
            refine L.as Wt.no rfl rfl ?_
            refine L.nil ?_
            refine X.seqN ?_
            refine E.seq ?_
            refine E.reg ?_
            refine L.lg (j := 0) (cs := [.int .i64 r10.1.1.1, .int .i64 r10.1.1.2.1, .int .i64 r10.1.1.2.2.1, .slice a13 r10.1.1.2.2.2.1.length c13, .slice a14 r10.1.1.2.2.2.2.length c14, .slice a15 r10.1.2.1.length c15, .slice a16 r10.1.2.2.1.length c16, .int .i64 r10.1.2.2.2]) bx17.mem ag34 Wt.no rfl rfl rfl rfl rfl ?_
            refine L.lg (j := 0) (cs := [.slice a41 r38.1.1.length c41, .slice a42 r38.1.2.length c42]) bx43.mem ag39 Wt.no rfl rfl rfl rfl rfl ?_
            obtain ⟨r48, er48, hm⟩ := bindS hm
            refine L.ca (vs := [.agg #[.int .i64 r10.1.1.1, .int .i64 r10.1.1.2.1, .int .i64 r10.1.1.2.2.1, .slice a13 r10.1.1.2.2.2.1.length c13, .slice a14 r10.1.1.2.2.2.2.length c14, .slice a15 r10.1.2.1.length c15, .slice a16 r10.1.2.2.1.length c16, .int .i64 r10.1.2.2.2], .agg #[.slice a41 r38.1.1.length c41, .slice a42 r38.1.2.length c42]]) cf19 rfl rfl Wt.no rfl (m_generate_Enabled_c (s := s46) (p0 := r10.1) (p1 := r38.1) (u0 := 0) h13 h14 h15 h16 h41 h42 er48) rfl ?_
            rintro _ s49 m50 ⟨a51, c51, rfl, h51⟩
            replace h51 := h51.p
            replace m0 := m0.trans m50.no
            replace bx17 := bx17.mv m50 no_No
            replace h13 := h13.mono (m50.le no_No)
            replace h14 := h14.mono (m50.le no_No)
            replace h15 := h15.mono (m50.le no_No)
            replace h16 := h16.mono (m50.le no_No)
            replace bx43 := bx43.mv m50 no_No
            replace h41 := h41.mono (m50.le no_No)
            replace h42 := h42.mono (m50.le no_No)
            refine L.mv Wt.no rfl rfl ?_
            refine L.ex Wt.no rfl rfl rfl ?_
            refine L.ex Wt.no rfl rfl rfl ?_
            refine L.as Wt.no rfl rfl ?_
            refine L.as Wt.no rfl rfl ?_
            refine L.nil ?_
            refine X.seqN ?_
            refine E.seq ?_
            refine E.reg ?_
            refine L.lg (j := 0) (cs := [.int .i64 r10.1.1.1, .int .i64 r10.1.1.2.1, .int .i64 r10.1.1.2.2.1, .slice a13 r10.1.1.2.2.2.1.length c13, .slice a14 r10.1.1.2.2.2.2.length c14, .slice a15 r10.1.2.1.length c15, .slice a16 r10.1.2.2.1.length c16, .int .i64 r10.1.2.2.2]) bx17.mem ag34 Wt.no rfl rfl rfl rfl rfl ?_
            refine L.lg (j := 0) (cs := [.slice a41 r38.1.1.length c41, .slice a42 r38.1.2.length c42]) bx43.mem ag39 Wt.no rfl rfl rfl rfl rfl ?_
            refine L.bsE (k := 1) (cs := [.int .i64 3]) 0 bs23 (Nat.le_of_ble_eq_true rfl) Wt.no rfl rfl rfl rfl ?_
            intro b52 s53 m54 bx52
            replace m0 := m0.trans m54.no
            replace h13 := h13.mono (m54.le no_No)
            replace h14 := h14.mono (m54.le no_No)
            replace h15 := h15.mono (m54.le no_No)
            replace h16 := h16.mono (m54.le no_No)
            replace h41 := h41.mono (m54.le no_No)
            replace h42 := h42.mono (m54.le no_No)
            replace h51 := h51.mono (m54.le no_No)
            replace bx17 := bx17.mv m54 no_No
            have h52 := Bx.rdL (r := (rK .i64)) (xs := ([3] : List Int)) bx52 ⟨[.int .i64 3], _, rfl, rfl, rfl⟩ (Nat.le_of_ble_eq_true rfl)
            obtain ⟨r55, er55, hm⟩ := bindS hm
            refine L.ca (vs := [.agg #[.int .i64 r10.1.1.1, .int .i64 r10.1.1.2.1, .int .i64 r10.1.1.2.2.1, .slice a13 r10.1.1.2.2.2.1.length c13, .slice a14 r10.1.1.2.2.2.2.length c14, .slice a15 r10.1.2.1.length c15, .slice a16 r10.1.2.2.1.length c16, .int .i64 r10.1.2.2.2], .agg #[.slice a41 r38.1.1.length c41, .slice a42 r38.1.2.length c42], .slice (some ⟨b52, 0, none⟩) ([3] : List Int).length (([3] : List Int).length)]) cf14 rfl rfl Wt.no rfl (m_generate_Scan_c (s := s53) (p0 := r10.1) (p1 := r38.1) (p2 := ([3] : List Int)) h13 h14 h15 h16 h41 h42 h52 er55) rfl ?_
            rintro _ s56 m57 ⟨a58, c58, a59, c59, rfl, h58, h59⟩
            replace m0 := m0.trans m57.no
            replace h51 := h51.mono (m57.le no_No)
            replace bx17 := bx17.mv m57 no_No
            replace h13 := h13.mono (m57.le no_No)
            replace h14 := h14.mono (m57.le no_No)
            replace h15 := h15.mono (m57.le no_No)
            replace h16 := h16.mono (m57.le no_No)
            refine L.mv Wt.no rfl rfl ?_
            refine L.ex Wt.no rfl rfl rfl ?_
            refine L.ex Wt.no rfl rfl rfl ?_
            refine L.al (N + 3) zz39 rfl Wt.no rfl ?_
            intro b60 s61 m62 bx60
            replace m0 := m0.trans m62.no
            replace h58 := h58.mono (m62.le no_No)
            replace h59 := h59.mono (m62.le no_No)
            replace h51 := h51.mono (m62.le no_No)
            replace bx17 := bx17.mv m62 no_No
            replace h13 := h13.mono (m62.le no_No)
            replace h14 := h14.mono (m62.le no_No)
            replace h15 := h15.mono (m62.le no_No)
            replace h16 := h16.mono (m62.le no_No)
            refine L.st (c := [.slice a58 r55.1.1.length c58, .slice a59 r55.1.2.length c59]) (cs' := #[.slice a58 r55.1.1.length c58, .slice a59 r55.1.2.length c59]) bx60 ag39.sz Wt.no rfl rfl rfl rfl rfl (Nat.le_of_ble_eq_true rfl) rfl ?_
            intro s63 m64 bx60
            replace m0 := m0.trans (m64.one up)
            replace h51 := h51.mono (m64.le (tg0 hN))
            replace bx17 := bx17.mv m64 (tgN (by decide))
            replace h13 := h13.mono (m64.le (tg0 hN))
            replace h14 := h14.mono (m64.le (tg0 hN))
            replace h15 := h15.mono (m64.le (tg0 hN))
            replace h16 := h16.mono (m64.le (tg0 hN))
            replace h58 := h58.mono (m64.le (tg0 hN))
            replace h59 := h59.mono (m64.le (tg0 hN))
            refine L.as Wt.no rfl rfl ?_
            refine L.nil ?_
            refine X.seqN ?_
            refine E.seq ?_
            refine E.reg ?_
            refine L.lg (j := 0) (cs := [.int .i64 r10.1.1.1, .int .i64 r10.1.1.2.1, .int .i64 r10.1.1.2.2.1, .slice a13 r10.1.1.2.2.2.1.length c13, .slice a14 r10.1.1.2.2.2.2.length c14, .slice a15 r10.1.2.1.length c15, .slice a16 r10.1.2.2.1.length c16, .int .i64 r10.1.2.2.2]) bx17.mem ag34 Wt.no rfl rfl rfl rfl rfl ?_
            refine L.lg (j := 0) (cs := [.slice a58 r55.1.1.length c58, .slice a59 r55.1.2.length c59]) bx60.mem ag39 Wt.no rfl rfl rfl rfl rfl ?_
            obtain ⟨r65, er65, hm⟩ := bindS hm
            refine L.ca (vs := [.agg #[.int .i64 r10.1.1.1, .int .i64 r10.1.1.2.1, .int .i64 r10.1.1.2.2.1, .slice a13 r10.1.1.2.2.2.1.length c13, .slice a14 r10.1.1.2.2.2.2.length c14, .slice a15 r10.1.2.1.length c15, .slice a16 r10.1.2.2.1.length c16, .int .i64 r10.1.2.2.2], .agg #[.slice a58 r55.1.1.length c58, .slice a59 r55.1.2.length c59]]) cf18 rfl rfl Wt.no rfl (m_generate_State_c (s := s63) (p0 := r10.1) (p1 := r55.1) h13 h14 h15 h16 h58 h59 er65) rfl ?_
            rintro _ s66 m67 rfl
            replace m0 := m0.trans m67.no
            replace h51 := h51.mono (m67.le no_No)
            replace bx17 := bx17.mv m67 no_No
            replace h13 := h13.mono (m67.le no_No)
            replace h14 := h14.mono (m67.le no_No)
            replace h15 := h15.mono (m67.le no_No)
            replace h16 := h16.mono (m67.le no_No)
            replace bx60 := bx60.mv m67 no_No
            replace h58 := h58.mono (m67.le no_No)
            replace h59 := h59.mono (m67.le no_No)
            refine L.mv Wt.no rfl rfl ?_
            refine L.ex Wt.no rfl rfl rfl ?_
            refine L.ex Wt.no rfl rfl rfl ?_
            refine L.as Wt.no rfl rfl ?_
            refine L.as Wt.no rfl rfl ?_
            refine L.nil ?_
            refine X.seqN ?_
            refine E.seq ?_
            refine E.reg ?_
            refine L.lg (j := 0) (cs := [.int .i64 r10.1.1.1, .int .i64 r10.1.1.2.1, .int .i64 r10.1.1.2.2.1, .slice a13 r10.1.1.2.2.2.1.length c13, .slice a14 r10.1.1.2.2.2.2.length c14, .slice a15 r10.1.2.1.length c15, .slice a16 r10.1.2.2.1.length c16, .int .i64 r10.1.2.2.2]) bx17.mem ag34 Wt.no rfl rfl rfl rfl rfl ?_
            refine L.lg (j := 0) (cs := [.slice a58 r55.1.1.length c58, .slice a59 r55.1.2.length c59]) bx60.mem ag39 Wt.no rfl rfl rfl rfl rfl ?_
            obtain ⟨r68, er68, hm⟩ := bindS hm
            refine L.ca (vs := [.agg #[.int .i64 r10.1.1.1, .int .i64 r10.1.1.2.1, .int .i64 r10.1.1.2.2.1, .slice a13 r10.1.1.2.2.2.1.length c13, .slice a14 r10.1.1.2.2.2.2.length c14, .slice a15 r10.1.2.1.length c15, .slice a16 r10.1.2.2.1.length c16, .int .i64 r10.1.2.2.2], .agg #[.slice a58 r55.1.1.length c58, .slice a59 r55.1.2.length c59]]) cf19 rfl rfl Wt.no rfl (m_generate_Enabled_c (s := s66) (p0 := r10.1) (p1 := r55.1) (u0 := 0) h13 h14 h15 h16 h58 h59 er68) rfl ?_
            rintro _ s69 m70 ⟨a71, c71, rfl, h71⟩
            replace h71 := h71.p
            replace m0 := m0.trans m70.no
            replace h51 := h51.mono (m70.le no_No)
            refine L.mv Wt.no rfl rfl ?_
            refine L.ex Wt.no rfl rfl rfl ?_
            refine L.ex Wt.no rfl rfl rfl ?_
            refine L.as Wt.no rfl rfl ?_
            refine L.as Wt.no rfl rfl ?_
            refine L.nil ?_
            refine X.seqN ?_
            refine E.seq ?_
            refine E.reg ?_
            refine L.mv Wt.no rfl rfl ?_
            refine L.bi Wt.no rfl rfl rfl rfl ?_
            refine L.mv Wt.no rfl rfl ?_
            refine L.cut 3 (fun e w => ∃ (v72 : Bool), ((r28.2 == 0) && (r38.2 == 0)) = v72 ∧ e = (88, .bool v72) :: [(14, .int .i64 r68.2), (13, .slice a71 r68.1.length c71), (12, .int .i64 r65.2), (11, .int .i64 r65.1), (10, .int .i64 r55.2), (8, .int .i64 r48.2), (7, .slice a51 r48.1.length c51)] ∧ w = s69.w) ?_ ?_
            · rintro _ _ ⟨v72, rfl, rfl, rfl⟩
              refine L.mv Wt.no rfl rfl ?_
              refine L.cut 3 (fun e w => ∃ (v73 : Bool), (((r28.2 == 0) && (r38.2 == 0)) && (r48.2 == 0)) = v73 ∧ e = (92, .bool v73) :: [(14, .int .i64 r68.2), (13, .slice a71 r68.1.length c71), (12, .int .i64 r65.2), (11, .int .i64 r65.1), (10, .int .i64 r55.2), (7, .slice a51 r48.1.length c51)] ∧ w = s69.w) ?_ ?_
              · rintro _ _ ⟨v73, rfl, rfl, rfl⟩
                refine L.mv Wt.no rfl rfl ?_
                refine L.cut 3 (fun e w => ∃ (v74 : Bool), ((((r28.2 == 0) && (r38.2 == 0)) && (r48.2 == 0)) && (r55.2 == 0)) = v74 ∧ e = (96, .bool v74) :: [(14, .int .i64 r68.2), (13, .slice a71 r68.1.length c71), (12, .int .i64 r65.2), (11, .int .i64 r65.1), (7, .slice a51 r48.1.length c51)] ∧ w = s69.w) ?_ ?_
                · rintro _ _ ⟨v74, rfl, rfl, rfl⟩
                  refine L.mv Wt.no rfl rfl ?_
                  refine L.cut 3 (fun e w => ∃ (v75 : Bool), (((((r28.2 == 0) && (r38.2 == 0)) && (r48.2 == 0)) && (r55.2 == 0)) && (r65.2 == 0)) = v75 ∧ e = (100, .bool v75) :: [(14, .int .i64 r68.2), (13, .slice a71 r68.1.length c71), (11, .int .i64 r65.1), (7, .slice a51 r48.1.length c51)] ∧ w = s69.w) ?_ ?_
                  · rintro _ _ ⟨v75, rfl, rfl, rfl⟩
                    refine L.mv Wt.no rfl rfl ?_
                    refine L.cut 3 (fun e w => ∃ (v76 : Bool), ((((((r28.2 == 0) && (r38.2 == 0)) && (r48.2 == 0)) && (r55.2 == 0)) && (r65.2 == 0)) && (r68.2 == 0)) = v76 ∧ e = (104, .bool v76) :: [(13, .slice a71 r68.1.length c71), (11, .int .i64 r65.1), (7, .slice a51 r48.1.length c51)] ∧ w = s69.w) ?_ ?_
                    · rintro _ _ ⟨v76, rfl, rfl, rfl⟩
                      refine L.mv Wt.no rfl rfl ?_
                      obtain ⟨b77, eb77, hm⟩ := bindS hm
                      refine L.cut 4 (fun e w => ∃ (s79 : Sig) (v78 : Bool), b77 = v78 ∧ Mv (Up N No) s s79 ∧ RdL (rK .i64) s79 a71 c71 r68.1 ∧ e = (109, .bool v78) :: [(13, .slice a71 r68.1.length c71), (11, .int .i64 r65.1)] ∧ w = s79.w) ?_ ?_
                      · rintro _ _ ⟨s79, v78, rfl, m0, h71, rfl, rfl⟩
                        refine L.mv Wt.no rfl rfl ?_
                        refine L.cut 3 (fun e w => ∃ (v80 : Bool), (b77 && (r65.1 == 1)) = v80 ∧ e = (113, .bool v80) :: [(13, .slice a71 r68.1.length c71)] ∧ w = s79.w) ?_ ?_
                        · rintro _ _ ⟨v80, rfl, rfl, rfl⟩
                          refine L.mv Wt.no rfl rfl ?_
                          refine L.cut 4 (fun e w => ∃ (v81 : Bool), ((b77 && (r65.1 == 1)) && ((r68.1.length : Int) == 0)) = v81 ∧ e = (118, .bool v81) :: [] ∧ w = s79.w) ?_ ?_
                          · rintro _ _ ⟨v81, rfl, rfl, rfl⟩
                            refine L.as Wt.no rfl rfl ?_
                            refine L.nil ?_
                            refine X.seqN ?_
                            refine E.ret ?_
                            obtain rfl := Option.some.inj hm
                            exact X.rt (.inl rfl) Try.results11 (Rs.tmp rfl Rs.nil) rfl ⟨_, (s79).ren N (fun _ => 0), rfl, rfl, m0.ren hNb, rfl⟩
                          · intro J82
                            rcases Bool.eq_false_or_eq_true (b77 && (r65.1 == 1)) with hc | hc
                            · refine L.know (d := 114) rfl hc ?_
                              refine L.mv (Wt.mk rfl rfl) rfl rfl ?_
                              refine L.len sl23 (Wt.mk rfl rfl) rfl rfl ?_
                              refine L.bi (Wt.mk rfl rfl) rfl rfl rfl rfl ?_
                              refine L.pkT Wt.no rfl rfl rfl rfl ?_
                              exact L.sub (Sub.cons rfl Sub.nil) (J82 _ _ ⟨((r68.1.length : Int) == 0), (andT hc).symm, rfl, rfl⟩)
                            · refine L.know (d := 114) rfl hc ?_
                              refine L.skip rfl rfl rfl rfl ?_
                              refine L.skip rfl rfl rfl rfl ?_
                              refine L.skip rfl rfl rfl rfl ?_
                              refine L.pkF Wt.no rfl rfl rfl rfl ?_
                              exact L.sub (Sub.cons rfl Sub.nil) (J82 _ _ ⟨false, (andF hc).symm, rfl, rfl⟩)
                        · intro J83
                          rcases Bool.eq_false_or_eq_true b77 with hc | hc
                          · refine L.know (d := 110) rfl hc ?_
                            refine L.mv (Wt.mk rfl rfl) rfl rfl ?_
                            refine L.bi (Wt.mk rfl rfl) rfl rfl rfl rfl ?_
                            refine L.pkT Wt.no rfl rfl rfl rfl ?_
                            exact L.sub (Sub.cons rfl (Sub.cons rfl Sub.nil)) (J83 _ _ ⟨(r65.1 == 1), (andT hc).symm, rfl, rfl⟩)
                          · refine L.know (d := 110) rfl hc ?_
                            refine L.skip rfl rfl rfl rfl ?_
                            refine L.skip rfl rfl rfl rfl ?_
                            refine L.pkF Wt.no rfl rfl rfl rfl ?_
                            exact L.sub (Sub.cons rfl (Sub.cons rfl Sub.nil)) (J83 _ _ ⟨false, (andF hc).symm, rfl, rfl⟩)
                      · intro J84
                        rcases ifS eb77 with ⟨hc, hm⟩ | ⟨hc, hm⟩
                        · refine L.know (d := 105) rfl hc ?_
                          refine L.mv (Wt.mk rfl rfl) rfl rfl ?_
                          refine L.bsE (k := 1) (cs := [.int .i64 3]) 0 bs23 (Nat.le_of_ble_eq_true rfl) (Wt.mk rfl rfl) rfl rfl rfl rfl ?_
                          intro b85 s86 m87 bx85
                          replace m0 := m0.trans m87.no
                          replace h51 := h51.mono (m87.le no_No)
                          replace h71 := h71.mono (m87.le no_No)
                          have h85 := Bx.rdL (r := (rK .i64)) (xs := ([3] : List Int)) bx85 ⟨[.int .i64 3], _, rfl, rfl, rfl⟩ (Nat.le_of_ble_eq_true rfl)
                          obtain ⟨r88, er88, hm⟩ := bindS hm
                          refine L.ca (vs := [.slice a51 r48.1.length c51, .slice (some ⟨b85, 0, none⟩) ([3] : List Int).length (([3] : List Int).length)]) cf20 rfl rfl (Wt.mk rfl rfl) rfl (m_slices_Equal_int_c (s := s86) (p0 := r48.1) (p1 := ([3] : List Int)) h51 h85 er88) rfl ?_
                          rintro _ s89 m90 rfl
                          replace m0 := m0.trans m90.no
                          replace h71 := h71.mono (m90.le no_No)
                          refine L.pkT Wt.no rfl rfl rfl rfl ?_
                          exact L.sub (Sub.cons rfl (Sub.cons rfl (Sub.cons rfl Sub.nil))) (J84 _ _ ⟨s89, r88, (Option.some.inj hm).symm, m0, h71, rfl, rfl⟩)
                        · refine L.know (d := 105) rfl hc ?_
                          refine L.skip rfl rfl rfl rfl ?_
                          refine L.skip rfl rfl rfl rfl ?_
                          refine L.skip rfl rfl rfl rfl ?_
                          refine L.pkF Wt.no rfl rfl rfl rfl ?_
                          exact L.sub (Sub.cons rfl (Sub.cons rfl (Sub.cons rfl Sub.nil))) (J84 _ _ ⟨s69, false, (Option.some.inj hm).symm, m0, h71, rfl, rfl⟩)
                    · intro J91
                      rcases Bool.eq_false_or_eq_true (((((r28.2 == 0) && (r38.2 == 0)) && (r48.2 == 0)) && (r55.2 == 0)) && (r65.2 == 0)) with hc | hc
                      · refine L.know (d := 101) rfl hc ?_
                        refine L.mv (Wt.mk rfl rfl) rfl rfl ?_
                        refine L.bi (Wt.mk rfl rfl) rfl rfl rfl rfl ?_
                        refine L.pkT Wt.no rfl rfl rfl rfl ?_
                        exact L.sub (Sub.cons rfl (Sub.cons rfl (Sub.cons rfl (Sub.cons rfl Sub.nil)))) (J91 _ _ ⟨(r68.2 == 0), (andT hc).symm, rfl, rfl⟩)
                      · refine L.know (d := 101) rfl hc ?_
                        refine L.skip rfl rfl rfl rfl ?_
                        refine L.skip rfl rfl rfl rfl ?_
                        refine L.pkF Wt.no rfl rfl rfl rfl ?_
                        exact L.sub (Sub.cons rfl (Sub.cons rfl (Sub.cons rfl (Sub.cons rfl Sub.nil)))) (J91 _ _ ⟨false, (andF hc).symm, rfl, rfl⟩)
                  · intro J92
                    rcases Bool.eq_false_or_eq_true ((((r28.2 == 0) && (r38.2 == 0)) && (r48.2 == 0)) && (r55.2 == 0)) with hc | hc
                    · refine L.know (d := 97) rfl hc ?_
                      refine L.mv (Wt.mk rfl rfl) rfl rfl ?_
                      refine L.bi (Wt.mk rfl rfl) rfl rfl rfl rfl ?_
                      refine L.pkT Wt.no rfl rfl rfl rfl ?_
                      exact L.sub (Sub.cons rfl (Sub.cons rfl (Sub.cons rfl (Sub.cons rfl (Sub.cons rfl Sub.nil))))) (J92 _ _ ⟨(r65.2 == 0), (andT hc).symm, rfl, rfl⟩)
                    · refine L.know (d := 97) rfl hc ?_
                      refine L.skip rfl rfl rfl rfl ?_
                      refine L.skip rfl rfl rfl rfl ?_
                      refine L.pkF Wt.no rfl rfl rfl rfl ?_
                      exact L.sub (Sub.cons rfl (Sub.cons rfl (Sub.cons rfl (Sub.cons rfl (Sub.cons rfl Sub.nil))))) (J92 _ _ ⟨false, (andF hc).symm, rfl, rfl⟩)
                · intro J93
                  rcases Bool.eq_false_or_eq_true (((r28.2 == 0) && (r38.2 == 0)) && (r48.2 == 0)) with hc | hc
                  · refine L.know (d := 93) rfl hc ?_
                    refine L.mv (Wt.mk rfl rfl) rfl rfl ?_
                    refine L.bi (Wt.mk rfl rfl) rfl rfl rfl rfl ?_
                    refine L.pkT Wt.no rfl rfl rfl rfl ?_
                    exact L.sub (Sub.cons rfl (Sub.cons rfl (Sub.cons rfl (Sub.cons rfl (Sub.cons rfl (Sub.cons rfl Sub.nil)))))) (J93 _ _ ⟨(r55.2 == 0), (andT hc).symm, rfl, rfl⟩)
                  · refine L.know (d := 93) rfl hc ?_
                    refine L.skip rfl rfl rfl rfl ?_
                    refine L.skip rfl rfl rfl rfl ?_
                    refine L.pkF Wt.no rfl rfl rfl rfl ?_
                    exact L.sub (Sub.cons rfl (Sub.cons rfl (Sub.cons rfl (Sub.cons rfl (Sub.cons rfl (Sub.cons rfl Sub.nil)))))) (J93 _ _ ⟨false, (andF hc).symm, rfl, rfl⟩)
              · intro J94
                rcases Bool.eq_false_or_eq_true ((r28.2 == 0) && (r38.2 == 0)) with hc | hc
                · refine L.know (d := 89) rfl hc ?_
                  refine L.mv (Wt.mk rfl rfl) rfl rfl ?_
                  refine L.bi (Wt.mk rfl rfl) rfl rfl rfl rfl ?_
                  refine L.pkT Wt.no rfl rfl rfl rfl ?_
                  exact L.sub (Sub.cons rfl (Sub.cons rfl (Sub.cons rfl (Sub.cons rfl (Sub.cons rfl (Sub.cons rfl (Sub.cons rfl Sub.nil))))))) (J94 _ _ ⟨(r48.2 == 0), (andT hc).symm, rfl, rfl⟩)
                · refine L.know (d := 89) rfl hc ?_
                  refine L.skip rfl rfl rfl rfl ?_
                  refine L.skip rfl rfl rfl rfl ?_
                  refine L.pkF Wt.no rfl rfl rfl rfl ?_
                  exact L.sub (Sub.cons rfl (Sub.cons rfl (Sub.cons rfl (Sub.cons rfl (Sub.cons rfl (Sub.cons rfl (Sub.cons rfl Sub.nil))))))) (J94 _ _ ⟨false, (andF hc).symm, rfl, rfl⟩)
            · intro J95
              rcases Bool.eq_false_or_eq_true (r28.2 == 0) with hc | hc
              · refine L.know (d := 85) rfl hc ?_
                refine L.mv (Wt.mk rfl rfl) rfl rfl ?_
                refine L.bi (Wt.mk rfl rfl) rfl rfl rfl rfl ?_
                refine L.pkT Wt.no rfl rfl rfl rfl ?_
                exact L.sub (Sub.cons rfl (Sub.cons rfl (Sub.cons rfl (Sub.cons rfl (Sub.cons rfl (Sub.cons rfl (Sub.cons rfl (Sub.cons rfl Sub.nil)))))))) (J95 _ _ ⟨(r38.2 == 0), (andT hc).symm, rfl, rfl⟩)
              · refine L.know (d := 85) rfl hc ?_
                refine L.skip rfl rfl rfl rfl ?_
                refine L.skip rfl rfl rfl rfl ?_
                refine L.pkF Wt.no rfl rfl rfl rfl ?_
                exact L.sub (Sub.cons rfl (Sub.cons rfl (Sub.cons rfl (Sub.cons rfl (Sub.cons rfl (Sub.cons rfl (Sub.cons rfl (Sub.cons rfl Sub.nil)))))))) (J95 _ _ ⟨false, (andF hc).symm, rfl, rfl⟩)
        · intro J96
          rcases ifS eb25 with ⟨hc, hm⟩ | ⟨hc, hm⟩
          · refine L.know (d := 40) rfl hc ?_
            refine L.skip rfl rfl rfl rfl ?_
            refine L.skip rfl rfl rfl rfl ?_
            refine L.skip rfl rfl rfl rfl ?_
            refine L.skip rfl rfl rfl rfl ?_
            refine L.pkT Wt.no rfl rfl rfl rfl ?_
            exact L.sub (Sub.cons rfl (Sub.cons rfl Sub.nil)) (J96 _ _ ⟨s20, true, (Option.some.inj hm).symm, m0, h13, h14, h15, h16, bx17, rfl, rfl⟩)
          · refine L.know (d := 40) rfl hc ?_
            refine L.fa fa34_0 (Wt.mk rfl rfl) rfl rfl ?_
            refine L.lg (j := 0) (cs := [.int .i64 r10.1.1.1, .int .i64 r10.1.1.2.1, .int .i64 r10.1.1.2.2.1, .slice a13 r10.1.1.2.2.2.1.length c13, .slice a14 r10.1.1.2.2.2.2.length c14]) bx17.mem ag32 (Wt.mk rfl rfl) rfl rfl rfl rfl rfl ?_
            obtain ⟨r97, er97, hm⟩ := bindS hm
            refine L.ca (vs := [.agg #[.int .i64 r10.1.1.1, .int .i64 r10.1.1.2.1, .int .i64 r10.1.1.2.2.1, .slice a13 r10.1.1.2.2.2.1.length c13, .slice a14 r10.1.1.2.2.2.2.length c14]]) cf26 rfl rfl (Wt.mk rfl rfl) rfl (m_instruction_Check_c (s := s20) (p0 := r10.1.1) h13 h14 er97) rfl ?_
            rintro _ s98 m99 rfl
            replace m0 := m0.trans m99.no
            replace bx17 := bx17.mv m99 no_No
            replace h13 := h13.mono (m99.le no_No)
            replace h14 := h14.mono (m99.le no_No)
            replace h15 := h15.mono (m99.le no_No)
            replace h16 := h16.mono (m99.le no_No)
            refine L.bi (Wt.mk rfl rfl) rfl rfl rfl rfl ?_
            refine L.pkF Wt.no rfl rfl rfl rfl ?_
            exact L.sub (Sub.cons rfl (Sub.cons rfl Sub.nil)) (J96 _ _ ⟨s98, (r97 != 0), (Option.some.inj hm).symm, m0, h13, h14, h15, h16, bx17, rfl, rfl⟩)
      · intro J100
        rcases Bool.eq_false_or_eq_true (((r10.2 != 0) || (r10.1.1.1 != 2)) || (r10.1.1.2.1 != 2)) with hc | hc
        · refine L.know (d := 35) rfl hc ?_
          refine L.skip rfl rfl rfl rfl ?_
          refine L.skip rfl rfl rfl rfl ?_
          refine L.skip rfl rfl rfl rfl ?_
          refine L.pkT Wt.no rfl rfl rfl rfl ?_
          exact L.sub (Sub.cons rfl (Sub.cons rfl Sub.nil)) (J100 _ _ ⟨true, (orT hc).symm, rfl, rfl⟩)
        · refine L.know (d := 35) rfl hc ?_
          refine L.fa fa34_3 (Wt.mk rfl rfl) rfl rfl ?_
          refine L.ld (j := 7) bx17.mem nag3 (Wt.mk rfl rfl) rfl rfl rfl rfl ?_
          refine L.bi (Wt.mk rfl rfl) rfl rfl rfl rfl ?_
          refine L.pkF Wt.no rfl rfl rfl rfl ?_
          exact L.sub (Sub.cons rfl (Sub.cons rfl Sub.nil)) (J100 _ _ ⟨(r10.1.2.2.2 != 2), (orF hc).symm, rfl, rfl⟩)
    · intro J101
      rcases Bool.eq_false_or_eq_true ((r10.2 != 0) || (r10.1.1.1 != 2)) with hc | hc
      · refine L.know (d := 29) rfl hc ?_
        refine L.skip rfl rfl rfl rfl ?_
        refine L.skip rfl rfl rfl rfl ?_
        refine L.skip rfl rfl rfl rfl ?_
        refine L.skip rfl rfl rfl rfl ?_
        refine L.pkT Wt.no rfl rfl rfl rfl ?_
        exact L.sub (Sub.cons rfl (Sub.cons rfl Sub.nil)) (J101 _ _ ⟨true, (orT hc).symm, rfl, rfl⟩)
      · refine L.know (d := 29) rfl hc ?_
        refine L.fa fa34_0 (Wt.mk rfl rfl) rfl rfl ?_
        refine L.fa fa32_1 (Wt.mk rfl rfl) rfl rfl ?_
        refine L.ld (j := 1) bx17.mem nag3 (Wt.mk rfl rfl) rfl rfl rfl rfl ?_
        refine L.bi (Wt.mk rfl rfl) rfl rfl rfl rfl ?_
        refine L.pkF Wt.no rfl rfl rfl rfl ?_
        exact L.sub (Sub.cons rfl (Sub.cons rfl Sub.nil)) (J101 _ _ ⟨(r10.1.1.2.1 != 2), (orF hc).symm, rfl, rfl⟩)
  · intro J102
    rcases Bool.eq_false_or_eq_true (r10.2 != 0) with hc | hc
    · refine L.know (d := 23) rfl hc ?_
      refine L.skip rfl rfl rfl rfl ?_
      refine L.skip rfl rfl rfl rfl ?_
      refine L.skip rfl rfl rfl rfl ?_
      refine L.skip rfl rfl rfl rfl ?_
      refine L.pkT Wt.no rfl rfl rfl rfl ?_
      exact L.sub (Sub.cons rfl (Sub.cons rfl Sub.nil)) (J102 _ _ ⟨true, (orT hc).symm, rfl, rfl⟩)
    · refine L.know (d := 23) rfl hc ?_
      refine L.fa fa34_0 (Wt.mk rfl rfl) rfl rfl ?_
      refine L.fa fa32_0 (Wt.mk rfl rfl) rfl rfl ?_
      refine L.ld (j := 0) bx17.mem nag3 (Wt.mk rfl rfl) rfl rfl rfl rfl ?_
      refine L.bi (Wt.mk rfl rfl) rfl rfl rfl rfl ?_
      refine L.pkF Wt.no rfl rfl rfl rfl ?_
      exact L.sub (Sub.cons rfl (Sub.cons rfl Sub.nil)) (J102 _ _ ⟨(r10.1.1.1 != 2), (orF hc).symm, rfl, rfl⟩)

end Go.Proofs.Ytkkemchihllklaa
