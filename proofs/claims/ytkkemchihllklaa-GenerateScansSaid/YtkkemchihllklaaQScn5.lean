/- Parts of the proof, without what nothing here names. -/
import Derived.Test.YtkkemchihllklaaProg
import Derived.Test.YtkkemchihllklaaRows
import Derived.ProofKit
import Derived.Deep.Slices
import Derived.ChangeSame
import Derived.Test.YtkkemchihllklaaQScn4
namespace Go.Proofs.Ytkkemchihllklaa
open Go Go.RowKit
theorem cf54 : Cf Try.prog 54 := Cf.mk Try.func54 (by kernel_rfl) (by kernel_rfl)
theorem cf55 : Cf Try.prog 55 := Cf.mk Try.func55 (by kernel_rfl) (by kernel_rfl)
theorem cf56 : Cf Try.prog 56 := Cf.mk Try.func56 (by kernel_rfl) (by kernel_rfl)
/-- What instruction.Scan computes. -/
noncomputable def m_instruction_Scan (p0 : Int × Int × Int × List Bool × (List (Int × Int))) (p1 : List Bool × List Bool) (p2 : List Bool) : Option ((List Bool × List Bool) × Int) :=
  (m_instruction_begin p0 p1 p2).bind fun r17 =>
  if (r17.2 != 0) then
    some ((([] : List Bool), ([] : List Bool)), r17.2)
  else
    (m_instruction_scan p0 r17.1).bind fun r23 =>
    (lenEq r23.2 r17.1).bind fun _ =>
    (m_instruction_state p0 r23.2).bind fun r29 =>
    some (r29, 0)
set_option maxRecDepth 100000 in
set_option maxHeartbeats 8000000 in
theorem m_instruction_Scan_c {s : Sig} {p0 : Int × Int × Int × List Bool × (List (Int × Int))} {p1 : List Bool × List Bool} {p2 : List Bool} {a1 : Option Addr} {c1 : Nat} {a2 : Option Addr} {c2 : Nat} {a3 : Option Addr} {c3 : Nat} {a4 : Option Addr} {c4 : Nat} {a5 : Option Addr} {c5 : Nat} {r : (List Bool × List Bool) × Int} (h1 : RdL rB s a1 c1 p0.2.2.2.1) (h2 : RdL (rP (rK .i64) (rK .i64)) s a2 c2 p0.2.2.2.2) (h3 : RdL rB s a3 c3 p1.1) (h4 : RdL rB s a4 c4 p1.2) (h5 : RdL rB s a5 c5 p2) (hm : m_instruction_Scan p0 p1 p2 = some r) :
    Calls Try.prog 24 #[.agg #[.int .i64 p0.1, .int .i64 p0.2.1, .int .i64 p0.2.2.1, .slice a1 p0.2.2.2.1.length c1, .slice a2 p0.2.2.2.2.length c2], .agg #[.slice a3 p1.1.length c3, .slice a4 p1.2.length c4], .slice a5 p2.length c5] s.w (RetS No s fun v s' => ∃ (a6 : Option Addr) (c6 : Nat) (a7 : Option Addr) (c7 : Nat), v = .tuple #[.agg #[.slice a6 r.1.1.length c6, .slice a7 r.1.2.length c7], .int .i64 r.2] ∧ RdL rB s' a6 c6 r.1.1 ∧ RdL rB s' a7 c7 r.1.2) := by
 unfold m_instruction_Scan at hm
 obtain ⟨N, hN, hNb⟩ := s.fresh
 have m0 : Mv (Up N No) s s := Mv.refl _ _
 refine E.entry Try.func24 rfl Try.ntmps24 rfl rfl (E.seq (E.reg (L.box (N + 0) Wt.no rfl rfl rfl fun b8 s9 m10 bx8 => ?_)))
 replace m0 := m0.trans m10.no
 replace h3 := h3.mono (m10.le no_No)
 replace h4 := h4.mono (m10.le no_No)
 replace h5 := h5.mono (m10.le no_No)
 replace h1 := h1.mono (m10.le no_No)
 replace h2 := h2.mono (m10.le no_No)
 refine L.box (N + 1) Wt.no rfl rfl rfl fun b11 s12 m13 bx11 => ?_
 replace m0 := m0.trans m13.no
 replace h5 := h5.mono (m13.le no_No)
 replace bx8 := bx8.mv m13 no_No
 replace h1 := h1.mono (m13.le no_No)
 replace h2 := h2.mono (m13.le no_No)
 replace h3 := h3.mono (m13.le no_No)
 replace h4 := h4.mono (m13.le no_No)
 refine L.al (N + 2) zz39 rfl Wt.no rfl fun b14 s15 m16 bx14 => ?_
 replace m0 := m0.trans m16.no
 replace h5 := h5.mono (m16.le no_No)
 replace bx8 := bx8.mv m16 no_No
 replace h1 := h1.mono (m16.le no_No)
 replace h2 := h2.mono (m16.le no_No)
 replace bx11 := bx11.mv m16 no_No
 replace h3 := h3.mono (m16.le no_No)
 replace h4 := h4.mono (m16.le no_No)
 refine L.as Wt.no rfl rfl (L.nil (X.seqN (E.seq (E.reg (L.lg (j := 0) (cs := [.int .i64 p0.1, .int .i64 p0.2.1, .int .i64 p0.2.2.1, .slice a1 p0.2.2.2.1.length c1, .slice a2 p0.2.2.2.2.length c2]) bx8.mem ag32 Wt.no rfl rfl rfl rfl rfl (L.lg (j := 0) (cs := [.slice a3 p1.1.length c3, .slice a4 p1.2.length c4]) bx11.mem ag39 Wt.no rfl rfl rfl rfl rfl (L.mv Wt.no rfl rfl ?_)))))))
 obtain ⟨r17, er17, hm⟩ := bindS hm
 refine L.ca cf54 rfl rfl Wt.no rfl (m_instruction_begin_c (s := s15) (p0 := p0) (p1 := p1) (p2 := p2) (u0 := (N + 3)) h1 h2 h3 h4 h5 er17) rfl ?_
 rintro _ s18 m19 ⟨a20, c20, rfl, h20⟩
 replace m0 := m0.trans m19.no
 replace bx8 := bx8.mv m19 no_No
 replace h1 := h1.mono (m19.le no_No)
 replace h2 := h2.mono (m19.le no_No)
 replace bx14 := bx14.mv m19 no_No
 refine L.mv Wt.no rfl rfl (L.ex Wt.no rfl rfl rfl (L.ex Wt.no rfl rfl rfl (L.as Wt.no rfl rfl (L.as Wt.no rfl rfl (L.nil (X.seqN (E.seq (E.seq (E.reg (L.mv Wt.no rfl rfl (L.bi Wt.no rfl rfl rfl rfl (L.nil (X.seqN ?_)))))))))))))
 rcases ifS hm with ⟨hc, hm⟩ | ⟨hc, hm⟩
 ·refine E.cT rfl hc (E.seq (E.reg (L.bu (cs := [.slice none 0 0, .slice none 0 0]) pl39 Wt.no rfl rfl rfl (L.mv Wt.no rfl rfl (L.st (c := [.slice none 0 0, .slice none 0 0]) (cs' := #[.slice none 0 0, .slice none 0 0]) bx14 ag39.sz Wt.no rfl rfl rfl rfl rfl (Nat.le_of_ble_eq_true rfl) rfl fun s21 m22 bx14 => ?_)))))
  replace m0 := m0.trans (m22.one up)
  refine L.as Wt.no rfl rfl (L.nil (X.seqN (E.ret (X.seqR ?_))))
  obtain rfl := Option.some.inj hm
  exact X.rt (.inl rfl) Try.results24 (Rs.cell rfl bx14 ag39 rfl (Rs.tmp rfl Rs.nil)) rfl ⟨_, (s21).ren N (fun _ => 0), rfl, rfl, m0.ren hNb, ⟨none, 0, none, 0, rfl, RdL.nil, RdL.nil⟩⟩
 ·refine E.cF rfl hc (E.skip (X.seqN (E.seq (E.reg (L.lg (j := 0) (cs := [.int .i64 p0.1, .int .i64 p0.2.1, .int .i64 p0.2.2.1, .slice a1 p0.2.2.2.1.length c1, .slice a2 p0.2.2.2.2.length c2]) bx8.mem ag32 Wt.no rfl rfl rfl rfl rfl (L.mv Wt.no rfl rfl ?_))))))
  obtain ⟨r23, er23, hm⟩ := bindS hm
  refine L.ca cf55 rfl rfl Wt.no rfl (m_instruction_scan_c (s := s18) (p0 := p0) (p1 := r17.1) (t1 := (N + 3)) (u0 := 0) (tpos hN) h1 h2 h20 er23) rfl ?_
  rintro _ s24 m25 ⟨a26, c26, rfl, h26, h20⟩
  replace h26 := h26.p
  obtain ⟨_, qz27, hm⟩ := bindS hm
  have elz27 := len_some qz27
  replace m0 := m0.trans (m25.one up)
  replace bx8 := bx8.mv m25 (tgN (by decide))
  replace h1 := h1.mono (m25.le (tg0 hN))
  replace h2 := h2.mono (m25.le (tg0 hN))
  replace bx14 := bx14.mv m25 (tgN (by decide))
  refine L.reval (d := 8) rfl elz27 (L.nil (X.seqN (E.seq (E.reg (L.lg (j := 0) (cs := [.int .i64 p0.1, .int .i64 p0.2.1, .int .i64 p0.2.2.1, .slice a1 p0.2.2.2.1.length c1, .slice a2 p0.2.2.2.2.length c2]) bx8.mem ag32 Wt.no rfl rfl rfl rfl rfl (L.mv Wt.no rfl rfl ?_))))))
  have m28 := Sig.fz_mv (N + 3) s24
  replace h20 := h20.fz (tgn hN)
  replace m0 := m0.trans (m28.one up)
  replace h1 := h1.mono (m28.le (tg0 hN))
  replace h2 := h2.mono (m28.le (tg0 hN))
  replace bx14 := bx14.mv m28 (tgN (by decide))
  refine L.toR (s' := (Sig.fz (N + 3) s24)) rfl ?_
  obtain ⟨r29, er29, hm⟩ := bindS hm
  refine L.ca cf56 rfl rfl Wt.no rfl (m_instruction_state_c (s := (Sig.fz (N + 3) s24)) (p0 := p0) (p1 := r23.2) h1 h2 h20 er29) rfl ?_
  rintro _ s30 m31 ⟨a32, c32, a33, c33, rfl, h32, h33⟩
  replace m0 := m0.trans m31.no
  replace bx14 := bx14.mv m31 no_No
  refine L.st (c := [.slice a32 r29.1.length c32, .slice a33 r29.2.length c33]) (cs' := #[.slice a32 r29.1.length c32, .slice a33 r29.2.length c33]) bx14 ag39.sz Wt.no rfl rfl rfl rfl rfl (Nat.le_of_ble_eq_true rfl) rfl fun s34 m35 bx14 => ?_
  replace m0 := m0.trans (m35.one up)
  replace h32 := h32.mono (m35.le (tg0 hN))
  replace h33 := h33.mono (m35.le (tg0 hN))
  refine L.as Wt.no rfl rfl (L.nil (X.seqN (E.ret ?_)))
  obtain rfl := Option.some.inj hm
  exact X.rt (.inl rfl) Try.results24 (Rs.cell rfl bx14 ag39 rfl (Rs.tmp rfl Rs.nil)) rfl ⟨_, (s34).ren N (fun _ => 0), rfl, rfl, m0.ren hNb, ⟨a32, c32, a33, c33, rfl, (h32.ren hN), (h33.ren hN)⟩⟩

theorem cf22 : Cf Try.prog 22 := Cf.mk Try.func22 (by kernel_rfl) (by kernel_rfl)
theorem cf24 : Cf Try.prog 24 := Cf.mk Try.func24 (by kernel_rfl) (by kernel_rfl)
theorem fa34_0 : FA Try.prog 34 0 0 := FA.mk Try.underlying34 rfl rfl ⟨5, by decide, by kernel_rfl⟩
/-- What generate.Scan computes. -/
noncomputable def m_generate_Scan (p0 : (Int × Int × Int × List Bool × (List (Int × Int))) × List Int × List Int × Int) (p1 : List Bool × List Bool) (p2 : List Int) : Option ((List Bool × List Bool) × Int) :=
  (m_generate_Inputs p0 p2).bind fun r19 =>
  if (r19.2 != 0) then
    some ((([] : List Bool), ([] : List Bool)), r19.2)
  else
    (m_instruction_Scan p0.1 p1 r19.1).bind fun r25 =>
    some r25
set_option maxRecDepth 100000 in
set_option maxHeartbeats 8000000 in
theorem m_generate_Scan_c {s : Sig} {p0 : (Int × Int × Int × List Bool × (List (Int × Int))) × List Int × List Int × Int} {p1 : List Bool × List Bool} {p2 : List Int} {a1 : Option Addr} {c1 : Nat} {a2 : Option Addr} {c2 : Nat} {a3 : Option Addr} {c3 : Nat} {a4 : Option Addr} {c4 : Nat} {a5 : Option Addr} {c5 : Nat} {a6 : Option Addr} {c6 : Nat} {a7 : Option Addr} {c7 : Nat} {r : (List Bool × List Bool) × Int} (h1 : RdL rB s a1 c1 p0.1.2.2.2.1) (h2 : RdL (rP (rK .i64) (rK .i64)) s a2 c2 p0.1.2.2.2.2) (h3 : RdL (rK .i64) s a3 c3 p0.2.1) (h4 : RdL (rK .i64) s a4 c4 p0.2.2.1) (h5 : RdL rB s a5 c5 p1.1) (h6 : RdL rB s a6 c6 p1.2) (h7 : RdL (rK .i64) s a7 c7 p2) (hm : m_generate_Scan p0 p1 p2 = some r) :
    Calls Try.prog 14 #[.agg #[.int .i64 p0.1.1, .int .i64 p0.1.2.1, .int .i64 p0.1.2.2.1, .slice a1 p0.1.2.2.2.1.length c1, .slice a2 p0.1.2.2.2.2.length c2, .slice a3 p0.2.1.length c3, .slice a4 p0.2.2.1.length c4, .int .i64 p0.2.2.2], .agg #[.slice a5 p1.1.length c5, .slice a6 p1.2.length c6], .slice a7 p2.length c7] s.w (RetS No s fun v s' => ∃ (a8 : Option Addr) (c8 : Nat) (a9 : Option Addr) (c9 : Nat), v = .tuple #[.agg #[.slice a8 r.1.1.length c8, .slice a9 r.1.2.length c9], .int .i64 r.2] ∧ RdL rB s' a8 c8 r.1.1 ∧ RdL rB s' a9 c9 r.1.2) := by
 unfold m_generate_Scan at hm
 obtain ⟨N, hN, hNb⟩ := s.fresh
 have m0 : Mv (Up N No) s s := Mv.refl _ _
 refine E.entry Try.func14 rfl Try.ntmps14 rfl rfl (E.seq (E.reg (L.box (N + 0) Wt.no rfl rfl rfl fun b10 s11 m12 bx10 => ?_)))
 replace m0 := m0.trans m12.no
 replace h5 := h5.mono (m12.le no_No)
 replace h6 := h6.mono (m12.le no_No)
 replace h7 := h7.mono (m12.le no_No)
 replace h1 := h1.mono (m12.le no_No)
 replace h2 := h2.mono (m12.le no_No)
 replace h3 := h3.mono (m12.le no_No)
 replace h4 := h4.mono (m12.le no_No)
 refine L.box (N + 1) Wt.no rfl rfl rfl fun b13 s14 m15 bx13 => ?_
 replace m0 := m0.trans m15.no
 replace h7 := h7.mono (m15.le no_No)
 replace bx10 := bx10.mv m15 no_No
 replace h1 := h1.mono (m15.le no_No)
 replace h2 := h2.mono (m15.le no_No)
 replace h3 := h3.mono (m15.le no_No)
 replace h4 := h4.mono (m15.le no_No)
 replace h5 := h5.mono (m15.le no_No)
 replace h6 := h6.mono (m15.le no_No)
 refine L.al (N + 2) zz39 rfl Wt.no rfl fun b16 s17 m18 bx16 => ?_
 replace m0 := m0.trans m18.no
 replace h7 := h7.mono (m18.le no_No)
 replace bx10 := bx10.mv m18 no_No
 replace h1 := h1.mono (m18.le no_No)
 replace h2 := h2.mono (m18.le no_No)
 replace h3 := h3.mono (m18.le no_No)
 replace h4 := h4.mono (m18.le no_No)
 replace bx13 := bx13.mv m18 no_No
 replace h5 := h5.mono (m18.le no_No)
 replace h6 := h6.mono (m18.le no_No)
 refine L.as Wt.no rfl rfl (L.nil (X.seqN (E.seq (E.reg (L.lg (j := 0) (cs := [.int .i64 p0.1.1, .int .i64 p0.1.2.1, .int .i64 p0.1.2.2.1, .slice a1 p0.1.2.2.2.1.length c1, .slice a2 p0.1.2.2.2.2.length c2, .slice a3 p0.2.1.length c3, .slice a4 p0.2.2.1.length c4, .int .i64 p0.2.2.2]) bx10.mem ag34 Wt.no rfl rfl rfl rfl rfl (L.mv Wt.no rfl rfl ?_))))))
 obtain ⟨r19, er19, hm⟩ := bindS hm
 refine L.ca cf22 rfl rfl Wt.no rfl (m_generate_Inputs_c (s := s17) (p0 := p0) (p1 := p2) (u0 := 0) h1 h2 h3 h4 h7 er19) rfl ?_
 rintro _ s20 m21 ⟨a22, c22, rfl, h22⟩
 replace h22 := h22.p
 replace m0 := m0.trans m21.no
 replace bx10 := bx10.mv m21 no_No
 replace h1 := h1.mono (m21.le no_No)
 replace h2 := h2.mono (m21.le no_No)
 replace bx13 := bx13.mv m21 no_No
 replace h5 := h5.mono (m21.le no_No)
 replace h6 := h6.mono (m21.le no_No)
 replace bx16 := bx16.mv m21 no_No
 refine L.mv Wt.no rfl rfl (L.ex Wt.no rfl rfl rfl (L.ex Wt.no rfl rfl rfl (L.as Wt.no rfl rfl (L.as Wt.no rfl rfl (L.nil (X.seqN (E.seq (E.seq (E.reg (L.mv Wt.no rfl rfl (L.bi Wt.no rfl rfl rfl rfl (L.nil (X.seqN ?_)))))))))))))
 rcases ifS hm with ⟨hc, hm⟩ | ⟨hc, hm⟩
 ·refine E.cT rfl hc (E.seq (E.reg (L.bu (cs := [.slice none 0 0, .slice none 0 0]) pl39 Wt.no rfl rfl rfl (L.mv Wt.no rfl rfl (L.st (c := [.slice none 0 0, .slice none 0 0]) (cs' := #[.slice none 0 0, .slice none 0 0]) bx16 ag39.sz Wt.no rfl rfl rfl rfl rfl (Nat.le_of_ble_eq_true rfl) rfl fun s23 m24 bx16 => ?_)))))
  replace m0 := m0.trans (m24.one up)
  refine L.as Wt.no rfl rfl (L.nil (X.seqN (E.ret (X.seqR ?_))))
  obtain rfl := Option.some.inj hm
  exact X.rt (.inl rfl) Try.results14 (Rs.cell rfl bx16 ag39 rfl (Rs.tmp rfl Rs.nil)) rfl ⟨_, (s23).ren N (fun _ => 0), rfl, rfl, m0.ren hNb, ⟨none, 0, none, 0, rfl, RdL.nil, RdL.nil⟩⟩
 ·refine E.cF rfl hc (E.skip (X.seqN (E.seq (E.reg (L.fa fa34_0 Wt.no rfl rfl (L.lg (j := 0) (cs := [.int .i64 p0.1.1, .int .i64 p0.1.2.1, .int .i64 p0.1.2.2.1, .slice a1 p0.1.2.2.2.1.length c1, .slice a2 p0.1.2.2.2.2.length c2]) bx10.mem ag32 Wt.no rfl rfl rfl rfl rfl (L.lg (j := 0) (cs := [.slice a5 p1.1.length c5, .slice a6 p1.2.length c6]) bx13.mem ag39 Wt.no rfl rfl rfl rfl rfl (L.mv Wt.no rfl rfl ?_))))))))
  obtain ⟨r25, er25, hm⟩ := bindS hm
  refine L.ca cf24 rfl rfl Wt.no rfl (m_instruction_Scan_c (s := s20) (p0 := p0.1) (p1 := p1) (p2 := r19.1) h1 h2 h5 h6 h22 er25) rfl ?_
  rintro _ s26 m27 ⟨a28, c28, a29, c29, rfl, h28, h29⟩
  replace m0 := m0.trans m27.no
  replace bx16 := bx16.mv m27 no_No
  refine L.ex Wt.no rfl rfl rfl (L.ex Wt.no rfl rfl rfl (L.st (c := [.slice a28 r25.1.1.length c28, .slice a29 r25.1.2.length c29]) (cs' := #[.slice a28 r25.1.1.length c28, .slice a29 r25.1.2.length c29]) bx16 ag39.sz Wt.no rfl rfl rfl rfl rfl (Nat.le_of_ble_eq_true rfl) rfl fun s30 m31 bx16 => ?_))
  replace m0 := m0.trans (m31.one up)
  replace h28 := h28.mono (m31.le (tg0 hN))
  replace h29 := h29.mono (m31.le (tg0 hN))
  refine L.as Wt.no rfl rfl (L.nil (X.seqN (E.ret ?_)))
  obtain rfl := Option.some.inj hm
  exact X.rt (.inl rfl) Try.results14 (Rs.cell rfl bx16 ag39 rfl (Rs.tmp rfl Rs.nil)) rfl ⟨_, (s30).ren N (fun _ => 0), rfl, rfl, m0.ren hNb, ⟨a28, c28, a29, c29, rfl, (h28.ren hN), (h29.ren hN)⟩⟩

/-- What generate.fits computes. -/
noncomputable def m_generate_fits (p0 : (Int × Int × Int × List Bool × (List (Int × Int))) × List Int × List Int × Int) (p1 : List Bool × List Bool) : Option Int :=
  if (((p1.1.length : Int) != p0.1.2.1) || ((p1.2.length : Int) != p0.1.2.2.1)) then
    some 4
  else
    some 0
set_option maxRecDepth 100000 in
set_option maxHeartbeats 8000000 in
theorem m_generate_fits_c {s : Sig} {p0 : (Int × Int × Int × List Bool × (List (Int × Int))) × List Int × List Int × Int} {p1 : List Bool × List Bool} {a1 : Option Addr} {c1 : Nat} {a2 : Option Addr} {c2 : Nat} {a3 : Option Addr} {c3 : Nat} {a4 : Option Addr} {c4 : Nat} {a5 : Option Addr} {c5 : Nat} {a6 : Option Addr} {c6 : Nat} {r : Int} (h1 : RdL rB s a1 c1 p0.1.2.2.2.1) (h2 : RdL (rP (rK .i64) (rK .i64)) s a2 c2 p0.1.2.2.2.2) (h3 : RdL (rK .i64) s a3 c3 p0.2.1) (h4 : RdL (rK .i64) s a4 c4 p0.2.2.1) (h5 : RdL rB s a5 c5 p1.1) (h6 : RdL rB s a6 c6 p1.2) (hm : m_generate_fits p0 p1 = some r) :
    Calls Try.prog 50 #[.agg #[.int .i64 p0.1.1, .int .i64 p0.1.2.1, .int .i64 p0.1.2.2.1, .slice a1 p0.1.2.2.2.1.length c1, .slice a2 p0.1.2.2.2.2.length c2, .slice a3 p0.2.1.length c3, .slice a4 p0.2.2.1.length c4, .int .i64 p0.2.2.2], .agg #[.slice a5 p1.1.length c5, .slice a6 p1.2.length c6]] s.w (RetS No s fun v s' => v = .int .i64 r) := by
 unfold m_generate_fits at hm
 obtain ⟨N, hN, hNb⟩ := s.fresh
 have m0 : Mv (Up N No) s s := Mv.refl _ _
 refine E.entry Try.func50 rfl Try.ntmps50 rfl rfl (E.seq (E.reg (L.box (N + 0) Wt.no rfl rfl rfl fun b7 s8 m9 bx7 => ?_)))
 replace m0 := m0.trans m9.no
 refine L.box (N + 1) Wt.no rfl rfl rfl fun b10 s11 m12 bx10 => ?_
 replace m0 := m0.trans m12.no
 replace bx7 := bx7.mv m12 no_No
 refine L.as Wt.no rfl rfl (L.nil (X.seqN (E.seq (E.seq (E.reg (L.fa fa39_0 Wt.no rfl rfl (L.ld (j := 0) bx10.mem nag29 Wt.no rfl rfl rfl rfl (L.len sl29 Wt.no rfl rfl (L.fa fa34_0 Wt.no rfl rfl (L.fa fa32_1 Wt.no rfl rfl (L.ld (j := 1) bx7.mem nag3 Wt.no rfl rfl rfl rfl (L.bi Wt.no rfl rfl rfl rfl (L.mv Wt.no rfl rfl (L.cut 8 (fun e w => ∃ (v13 : Bool), (((p1.1.length : Int) != p0.1.2.1) || ((p1.2.length : Int) != p0.1.2.2.1)) = v13 ∧ e = (20, .bool v13) :: [] ∧ w = s11.w) ?_ ?_))))))))))))))
 ·rintro _ _ ⟨v13, rfl, rfl, rfl⟩
  refine L.nil (X.seqN ?_)
  rcases ifS hm with ⟨hc, hm⟩ | ⟨hc, hm⟩
  ·refine E.cT rfl hc (E.seq (E.reg (L.as Wt.no rfl rfl (L.nil (X.seqN (E.ret (X.seqR ?_)))))))
   obtain rfl := Option.some.inj hm
   exact X.rt (.inl rfl) Try.results50 (Rs.tmp rfl Rs.nil) rfl ⟨_, (s11).ren N (fun _ => 0), rfl, rfl, m0.ren hNb, rfl⟩
  ·refine E.cF rfl hc (E.skip (X.seqN (E.seq (E.reg (L.as Wt.no rfl rfl (L.nil (X.seqN (E.ret ?_))))))))
   obtain rfl := Option.some.inj hm
   exact X.rt (.inl rfl) Try.results50 (Rs.tmp rfl Rs.nil) rfl ⟨_, (s11).ren N (fun _ => 0), rfl, rfl, m0.ren hNb, rfl⟩
 ·intro J14
  rcases Bool.eq_false_or_eq_true ((p1.1.length : Int) != p0.1.2.1) with hc | hc
  ·exact L.know (d := 12) rfl hc (L.skip rfl rfl rfl rfl (L.skip rfl rfl rfl rfl (L.skip rfl rfl rfl rfl (L.skip rfl rfl rfl rfl (L.skip rfl rfl rfl rfl (L.skip rfl rfl rfl rfl (L.skip rfl rfl rfl rfl (L.pkT Wt.no rfl rfl rfl rfl (L.sb (J14 _ _ ⟨true, (orT hc).symm, rfl, rfl⟩) rfl)))))))))
  ·exact L.know (d := 12) rfl hc (L.fa fa39_1 (Wt.mk rfl rfl) rfl rfl (L.ld (j := 1) bx10.mem nag29 (Wt.mk rfl rfl) rfl rfl rfl rfl (L.len sl29 (Wt.mk rfl rfl) rfl rfl (L.fa fa34_0 (Wt.mk rfl rfl) rfl rfl (L.fa fa32_2 (Wt.mk rfl rfl) rfl rfl (L.ld (j := 2) bx7.mem nag3 (Wt.mk rfl rfl) rfl rfl rfl rfl (L.bi (Wt.mk rfl rfl) rfl rfl rfl rfl (L.pkF Wt.no rfl rfl rfl rfl (L.sb (J14 _ _ ⟨((p1.2.length : Int) != p0.1.2.2.1), (orF hc).symm, rfl, rfl⟩) rfl)))))))))

theorem cf50 : Cf Try.prog 50 := Cf.mk Try.func50 (by kernel_rfl) (by kernel_rfl)
theorem fa34_2 : FA Try.prog 34 2 6 := FA.mk Try.underlying34 rfl rfl ⟨1, by decide, by kernel_rfl⟩
noncomputable def m_generate_Enabled_j1 (st38 : Int × List Int) (l44 : List Int) : Option ((Int × List Int) ⊕ (List Int)) :=
  some (.inl (W (st38.1 + 1), l44))
noncomputable def m_generate_Enabled_l1 (p0 : (Int × Int × Int × List Bool × (List (Int × Int))) × List Int × List Int × Int) (p1 : List Bool × List Bool) (st38 : Int × List Int) : Option ((Int × List Int) ⊕ (List Int)) :=
  if decide (st38.1 < (p0.2.2.1.length : Int)) then
    (idx p0.2.2.1 st38.1).bind fun x48 =>
    (idx p1.1 st38.1).bind fun x50 =>
    if x50 then
      (app st38.2 ([x48] : List Int)).bind fun x55 =>
      m_generate_Enabled_j1 st38 x55
    else
      m_generate_Enabled_j1 st38 st38.2
  else
    some (.inr st38.2)
/-- What generate.Enabled computes. -/
noncomputable def m_generate_Enabled (p0 : (Int × Int × Int × List Bool × (List (Int × Int))) × List Int × List Int × Int) (p1 : List Bool × List Bool) : Option (List Int × Int) :=
  (m_generate_fits p0 p1).bind fun r14 =>
  if (r14 != 0) then
    some (([] : List Int), r14)
  else
    (iter (m_generate_Enabled_l1 p0 p1) (0, ([] : List Int))).bind fun o38 =>
    some (o38, 0)
set_option maxRecDepth 100000 in
set_option maxHeartbeats 8000000 in
theorem m_generate_Enabled_c {s : Sig} {p0 : (Int × Int × Int × List Bool × (List (Int × Int))) × List Int × List Int × Int} {p1 : List Bool × List Bool} {a1 : Option Addr} {c1 : Nat} {a2 : Option Addr} {c2 : Nat} {a3 : Option Addr} {c3 : Nat} {a4 : Option Addr} {c4 : Nat} {a5 : Option Addr} {c5 : Nat} {a6 : Option Addr} {c6 : Nat} {u0 : Nat} {r : List Int × Int} (h1 : RdL rB s a1 c1 p0.1.2.2.2.1) (h2 : RdL (rP (rK .i64) (rK .i64)) s a2 c2 p0.1.2.2.2.2) (h3 : RdL (rK .i64) s a3 c3 p0.2.1) (h4 : RdL (rK .i64) s a4 c4 p0.2.2.1) (h5 : RdL rB s a5 c5 p1.1) (h6 : RdL rB s a6 c6 p1.2) (hm : m_generate_Enabled p0 p1 = some r) :
    Calls Try.prog 19 #[.agg #[.int .i64 p0.1.1, .int .i64 p0.1.2.1, .int .i64 p0.1.2.2.1, .slice a1 p0.1.2.2.2.1.length c1, .slice a2 p0.1.2.2.2.2.length c2, .slice a3 p0.2.1.length c3, .slice a4 p0.2.2.1.length c4, .int .i64 p0.2.2.2], .agg #[.slice a5 p1.1.length c5, .slice a6 p1.2.length c6]] s.w (RetS No s fun v s' => ∃ (a7 : Option Addr) (c7 : Nat), v = .tuple #[.slice a7 r.1.length c7, .int .i64 r.2] ∧ RowT (rK .i64) s' u0 3 a7 c7 r.1) := by
 unfold m_generate_Enabled at hm
 obtain ⟨N, hN, hNb⟩ := s.fresh
 have m0 : Mv (Up N No) s s := Mv.refl _ _
 refine E.entry Try.func19 rfl Try.ntmps19 rfl rfl (E.seq (E.reg (L.box (N + 0) Wt.no rfl rfl rfl fun b8 s9 m10 bx8 => ?_)))
 replace m0 := m0.trans m10.no
 replace h5 := h5.mono (m10.le no_No)
 replace h6 := h6.mono (m10.le no_No)
 replace h1 := h1.mono (m10.le no_No)
 replace h2 := h2.mono (m10.le no_No)
 replace h3 := h3.mono (m10.le no_No)
 replace h4 := h4.mono (m10.le no_No)
 refine L.box (N + 1) Wt.no rfl rfl rfl fun b11 s12 m13 bx11 => ?_
 replace m0 := m0.trans m13.no
 replace bx8 := bx8.mv m13 no_No
 replace h1 := h1.mono (m13.le no_No)
 replace h2 := h2.mono (m13.le no_No)
 replace h3 := h3.mono (m13.le no_No)
 replace h4 := h4.mono (m13.le no_No)
 replace h5 := h5.mono (m13.le no_No)
 replace h6 := h6.mono (m13.le no_No)
 refine L.as Wt.no rfl rfl (L.as Wt.no rfl rfl (L.nil (X.seqN (E.seq (E.seq (E.reg (L.lg (j := 0) (cs := [.int .i64 p0.1.1, .int .i64 p0.1.2.1, .int .i64 p0.1.2.2.1, .slice a1 p0.1.2.2.2.1.length c1, .slice a2 p0.1.2.2.2.2.length c2, .slice a3 p0.2.1.length c3, .slice a4 p0.2.2.1.length c4, .int .i64 p0.2.2.2]) bx8.mem ag34 Wt.no rfl rfl rfl rfl rfl (L.lg (j := 0) (cs := [.slice a5 p1.1.length c5, .slice a6 p1.2.length c6]) bx11.mem ag39 Wt.no rfl rfl rfl rfl rfl ?_))))))))
 obtain ⟨r14, er14, hm⟩ := bindS hm
 refine L.ca cf50 rfl rfl Wt.no rfl (m_generate_fits_c (s := s12) (p0 := p0) (p1 := p1) h1 h2 h3 h4 h5 h6 er14) rfl ?_
 rintro _ s15 m16 rfl
 replace m0 := m0.trans m16.no
 replace bx8 := bx8.mv m16 no_No
 replace h4 := h4.mono (m16.le no_No)
 replace bx11 := bx11.mv m16 no_No
 replace h5 := h5.mono (m16.le no_No)
 replace h6 := h6.mono (m16.le no_No)
 refine L.as Wt.no rfl rfl (L.nil (X.seqN (E.seq (E.reg (L.mv Wt.no rfl rfl (L.bi Wt.no rfl rfl rfl rfl (L.nil (X.seqN ?_))))))))
 rcases ifS hm with ⟨hc, hm⟩ | ⟨hc, hm⟩
 ·refine E.cT rfl hc (E.seq (E.reg (L.mv Wt.no rfl rfl (L.as Wt.no rfl rfl (L.as Wt.no rfl rfl (L.nil (X.seqN (E.ret (X.seqR ?_)))))))))
  obtain rfl := Option.some.inj hm
  exact X.rt (.inl rfl) Try.results19 (Rs.tmp rfl (Rs.tmp rfl Rs.nil)) rfl ⟨_, (s15).ren N (fun _ => 0), rfl, rfl, m0.ren hNb, ⟨none, 0, rfl, RowT.nil⟩⟩
 ·refine E.cF rfl hc (E.skip (X.seqN (E.seq (E.reg (L.as Wt.no rfl rfl (L.nil (X.seqN (E.seq (E.seq (E.reg (L.fa fa34_2 Wt.no rfl rfl (L.ld (j := 6) bx8.mem nag23 Wt.no rfl rfl rfl rfl (L.len sl23 Wt.no rfl rfl (L.mv Wt.no rfl rfl (L.nil (X.seqN (E.block ?_)))))))))))))))))
  obtain ⟨o38, eo38, hm⟩ := bindS hm
  refine E.cut (x := .exit 0) (fun e w => ∃ (s42 : Sig) (a40 : Option Addr) (c40 : Nat), Mv (Up N No) s s42 ∧ RowT (rK .i64) s42 (N + 2) 3 a40 c40 o38 ∧ e = [(7, .slice a40 o38.length c40)] ∧ w = s42.w) ?_ ?_
  ·rintro _ _ ⟨s42, a40, c40, m0, h40, rfl, rfl⟩
   refine X.blkE (X.seqN (E.seq (E.reg (L.mv Wt.no rfl rfl (L.as Wt.no rfl rfl (L.as Wt.no rfl rfl (L.nil (X.seqN (E.ret ?_)))))))))
   obtain rfl := Option.some.inj hm
   exact X.rt (.inl rfl) Try.results19 (Rs.tmp rfl (Rs.tmp rfl Rs.nil)) rfl ⟨_, (s42).ren N (fun k => cond (Nat.beq k 2) u0 (0)), rfl, rfl, m0.ren hNb, ⟨a40, c40, rfl, (h40.ren hN)⟩⟩
  intro K43
  refine E.iter (fun (st38 : Int × List Int) (e : List (Nat × Value)) (w : World) => ∃ (s41 : Sig) (a19 : Option Addr) (c19 : Nat), Mv (Up N No) s s41 ∧ RdL (rK .i64) s41 a4 c4 p0.2.2.1 ∧ RowT (rK .i64) s41 (N + 2) 3 a19 c19 st38.2 ∧ RdL rB s41 a5 c5 p1.1 ∧ RdL rB s41 a6 c6 p1.2 ∧ Bx s41 (N + 1) b11 #[.slice a5 p1.1.length c5, .slice a6 p1.2.length c6] 39 ∧ e = [(19, .int .i64 st38.1), (18, .int .i64 (p0.2.2.1.length : Int)), (17, .slice a4 p0.2.2.1.length c4), (7, .slice a19 st38.2.length c19), (3, .pointer (some ⟨b11, 0, none⟩))] ∧ w = s41.w) eo38 ⟨s15, none, 0, m0, h4, RowT.nil, h5, h6, bx11, rfl, rfl⟩ (Sub.rf rfl) ?_
  rintro st38 res38 hm ih38 ho38 _ _ ⟨s41, a19, c19, m0, h4, h19, h5, h6, bx11, rfl, rfl⟩
  unfold m_generate_Enabled_l1 at hm
  refine E.seq (E.reg (L.bi Wt.no rfl rfl rfl rfl (L.nil (X.seqN (E.seq ?_)))))
  rcases ifS hm with ⟨hc, hm⟩ | ⟨hc, hm⟩
  ·refine E.cT rfl hc (E.skip (X.seqN (E.seqJ (fun e w => ∃ (s46 : Sig) (l44 : List Int) (a45 : Option Addr) (c45 : Nat), m_generate_Enabled_j1 st38 l44 = some res38 ∧ Mv (Up N No) s s46 ∧ RowT (rK .i64) s46 (N + 2) 3 a45 c45 l44 ∧ RdL (rK .i64) s46 a4 c4 p0.2.2.1 ∧ RdL rB s46 a5 c5 p1.1 ∧ RdL rB s46 a6 c6 p1.2 ∧ Bx s46 (N + 1) b11 #[.slice a5 p1.1.length c5, .slice a6 p1.2.length c6] 39 ∧ e = [(7, .slice a45 l44.length c45), (19, .int .i64 st38.1), (18, .int .i64 (p0.2.2.1.length : Int)), (17, .slice a4 p0.2.2.1.length c4), (3, .pointer (some ⟨b11, 0, none⟩))] ∧ w = s46.w) ?_ ?_)))
   ·rintro _ _ ⟨s46, l44, a45, c45, hm, m0, h45, h4, h5, h6, bx11, rfl, rfl⟩
    unfold m_generate_Enabled_j1 at hm
    exact E.reg (L.bi Wt.no rfl rfl rfl rfl (L.mv Wt.no rfl rfl (L.nil (X.sub (ih38 _ (Option.some.inj hm).symm _ _ ⟨s46, a45, c45, m0, h4, h45, h5, h6, bx11, rfl, rfl⟩) (Sub.rf rfl)))))
   ·intro Jj47
    refine E.block (E.seq (E.reg (L.mv Wt.no rfl rfl ?_)))
    obtain ⟨x48, ex48, hm⟩ := bindS hm
    refine L.ix (r := (rK .i64)) sl23 h4 Wt.no rfl rfl ex48 rfl fun b49 o49 cc49 me49 rd49 => ?_
    obtain rfl := rd49
    refine L.ld (j := 0) me49 nag3 Wt.no rfl rfl rfl rfl (L.as Wt.no rfl rfl (L.as Wt.no rfl rfl (L.nil (X.seqN (E.seq (E.reg (L.fa fa39_0 Wt.no rfl rfl (L.ld (j := 0) bx11.mem nag29 Wt.no rfl rfl rfl rfl (L.mv Wt.no rfl rfl ?_)))))))))
    obtain ⟨x50, ex50, hm⟩ := bindS hm
    refine L.ix (r := rB) sl29 h5 Wt.no rfl rfl ex50 rfl fun b51 o51 cc51 me51 rd51 => ?_
    obtain rfl := rd51
    refine L.ld (j := 0) me51 nag4 Wt.no rfl rfl rfl rfl (L.nil (X.seqN ?_))
    rcases ifS hm with ⟨hc, hm⟩ | ⟨hc, hm⟩
    ·refine E.cT rfl hc (E.reg (L.mv Wt.no rfl rfl (L.mv Wt.no rfl rfl (L.bsE (k := 1) (cs := [.int .i64 x48]) 0 bs23 (Nat.le_of_ble_eq_true rfl) Wt.no rfl rfl rfl rfl fun b52 s53 m54 bx52 => ?_))))
     replace m0 := m0.trans m54.no
     replace h4 := h4.mono (m54.le no_No)
     replace h19 := h19.mv m54 no_No no_No
     replace bx11 := bx11.mv m54 no_No
     replace h5 := h5.mono (m54.le no_No)
     replace h6 := h6.mono (m54.le no_No)
     have h52 := Bx.rdL (r := (rK .i64)) (xs := ([x48] : List Int)) bx52 ⟨[.int .i64 x48], _, rfl, rfl, rfl⟩ (Nat.le_of_ble_eq_true rfl)
     obtain ⟨x55, ex55, hm⟩ := bindS hm
     refine L.ap (r := (rK .i64)) Try.underlying23 el3 rfl (tgp hN) h19 h52.wk Wt.no rfl rfl ex55 rfl fun a56 c56 s57 m58 h56 => ?_
     replace m0 := m0.trans (m58.one up)
     replace h4 := h4.mono (m58.le (tg0 hN))
     replace bx11 := bx11.mv m58 (tgN (by decide))
     replace h5 := h5.mono (m58.le (tg0 hN))
     replace h6 := h6.mono (m58.le (tg0 hN))
     exact L.as Wt.no rfl rfl (L.nil (X.blkN (X.sub (Jj47 _ _ ⟨s57, x55, a56, c56, hm, m0, h56, h4, h5, h6, bx11, rfl, rfl⟩) (Sub.rf rfl))))
    ·exact E.cF rfl hc (E.skip (X.blkN (X.sub (Jj47 _ _ ⟨s41, st38.2, a19, c19, hm, m0, h19, h4, h5, h6, bx11, rfl, rfl⟩) (Sub.rf rfl))))
  ·refine E.cF rfl hc (E.exit (X.seqX (X.seqX ?_)))
   have hx := ho38 _ (Option.some.inj hm).symm
   subst hx
   exact X.sub (K43 _ _ ⟨s41, a19, c19, m0, h19, rfl, rfl⟩) (Sub.rf rfl)

theorem fa34_3 : FA Try.prog 34 3 7 := FA.mk Try.underlying34 rfl rfl ⟨1, by decide, by kernel_rfl⟩
noncomputable def m_generate_State_j1 (st30 : Int × Int × Int) (n36 : Int) (n37 : Int) : Option ((Int × Int × Int) ⊕ (Int × Int)) :=
  some (.inl (W (st30.1 + 1), n36, n37))
noncomputable def m_generate_State_l1 (x16 : List Bool) (st30 : Int × Int × Int) : Option ((Int × Int × Int) ⊕ (Int × Int)) :=
  if decide (st30.1 < (x16.length : Int)) then
    (idx x16 st30.1).bind fun x40 =>
    if x40 then
      m_generate_State_j1 st30 (W (st30.2.1 + 1)) st30.1
    else
      m_generate_State_j1 st30 st30.2.1 st30.2.2
  else
    some (.inr st30.2)
/-- What generate.State computes. -/
noncomputable def m_generate_State (p0 : (Int × Int × Int × List Bool × (List (Int × Int))) × List Int × List Int × Int) (p1 : List Bool × List Bool) : Option (Int × Int) :=
  (m_generate_fits p0 p1).bind fun r13 =>
  if (r13 != 0) then
    some (0, r13)
  else
    (slc p1.2 0 p0.2.2.2).bind fun x16 =>
    (iter (m_generate_State_l1 x16) (0, 0, 0)).bind fun o30 =>
    if (o30.1 != 1) then
      some (0, 22)
    else
      some (o30.2, 0)
set_option maxRecDepth 100000 in
set_option maxHeartbeats 8000000 in
theorem m_generate_State_c {s : Sig} {p0 : (Int × Int × Int × List Bool × (List (Int × Int))) × List Int × List Int × Int} {p1 : List Bool × List Bool} {a1 : Option Addr} {c1 : Nat} {a2 : Option Addr} {c2 : Nat} {a3 : Option Addr} {c3 : Nat} {a4 : Option Addr} {c4 : Nat} {a5 : Option Addr} {c5 : Nat} {a6 : Option Addr} {c6 : Nat} {r : Int × Int} (h1 : RdL rB s a1 c1 p0.1.2.2.2.1) (h2 : RdL (rP (rK .i64) (rK .i64)) s a2 c2 p0.1.2.2.2.2) (h3 : RdL (rK .i64) s a3 c3 p0.2.1) (h4 : RdL (rK .i64) s a4 c4 p0.2.2.1) (h5 : RdL rB s a5 c5 p1.1) (h6 : RdL rB s a6 c6 p1.2) (hm : m_generate_State p0 p1 = some r) :
    Calls Try.prog 18 #[.agg #[.int .i64 p0.1.1, .int .i64 p0.1.2.1, .int .i64 p0.1.2.2.1, .slice a1 p0.1.2.2.2.1.length c1, .slice a2 p0.1.2.2.2.2.length c2, .slice a3 p0.2.1.length c3, .slice a4 p0.2.2.1.length c4, .int .i64 p0.2.2.2], .agg #[.slice a5 p1.1.length c5, .slice a6 p1.2.length c6]] s.w (RetS No s fun v s' => v = .tuple #[.int .i64 r.1, .int .i64 r.2]) := by
 unfold m_generate_State at hm
 obtain ⟨N, hN, hNb⟩ := s.fresh
 have m0 : Mv (Up N No) s s := Mv.refl _ _
 refine E.entry Try.func18 rfl Try.ntmps18 rfl rfl (E.seq (E.reg (L.box (N + 0) Wt.no rfl rfl rfl fun b7 s8 m9 bx7 => ?_)))
 replace m0 := m0.trans m9.no
 replace h5 := h5.mono (m9.le no_No)
 replace h6 := h6.mono (m9.le no_No)
 replace h1 := h1.mono (m9.le no_No)
 replace h2 := h2.mono (m9.le no_No)
 replace h3 := h3.mono (m9.le no_No)
 replace h4 := h4.mono (m9.le no_No)
 refine L.box (N + 1) Wt.no rfl rfl rfl fun b10 s11 m12 bx10 => ?_
 replace m0 := m0.trans m12.no
 replace bx7 := bx7.mv m12 no_No
 replace h1 := h1.mono (m12.le no_No)
 replace h2 := h2.mono (m12.le no_No)
 replace h3 := h3.mono (m12.le no_No)
 replace h4 := h4.mono (m12.le no_No)
 replace h5 := h5.mono (m12.le no_No)
 replace h6 := h6.mono (m12.le no_No)
 refine L.as Wt.no rfl rfl (L.as Wt.no rfl rfl (L.nil (X.seqN (E.seq (E.seq (E.reg (L.lg (j := 0) (cs := [.int .i64 p0.1.1, .int .i64 p0.1.2.1, .int .i64 p0.1.2.2.1, .slice a1 p0.1.2.2.2.1.length c1, .slice a2 p0.1.2.2.2.2.length c2, .slice a3 p0.2.1.length c3, .slice a4 p0.2.2.1.length c4, .int .i64 p0.2.2.2]) bx7.mem ag34 Wt.no rfl rfl rfl rfl rfl (L.lg (j := 0) (cs := [.slice a5 p1.1.length c5, .slice a6 p1.2.length c6]) bx10.mem ag39 Wt.no rfl rfl rfl rfl rfl ?_))))))))
 obtain ⟨r13, er13, hm⟩ := bindS hm
 refine L.ca cf50 rfl rfl Wt.no rfl (m_generate_fits_c (s := s11) (p0 := p0) (p1 := p1) h1 h2 h3 h4 h5 h6 er13) rfl ?_
 rintro _ s14 m15 rfl
 replace m0 := m0.trans m15.no
 replace bx7 := bx7.mv m15 no_No
 replace bx10 := bx10.mv m15 no_No
 replace h6 := h6.mono (m15.le no_No)
 refine L.as Wt.no rfl rfl (L.nil (X.seqN (E.seq (E.reg (L.mv Wt.no rfl rfl (L.bi Wt.no rfl rfl rfl rfl (L.nil (X.seqN ?_))))))))
 rcases ifS hm with ⟨hc, hm⟩ | ⟨hc, hm⟩
 ·refine E.cT rfl hc (E.seq (E.reg (L.mv Wt.no rfl rfl (L.as Wt.no rfl rfl (L.as Wt.no rfl rfl (L.nil (X.seqN (E.ret (X.seqR ?_)))))))))
  obtain rfl := Option.some.inj hm
  exact X.rt (.inl rfl) Try.results18 (Rs.tmp rfl (Rs.tmp rfl Rs.nil)) rfl ⟨_, (s14).ren N (fun _ => 0), rfl, rfl, m0.ren hNb, rfl⟩
 ·refine E.cF rfl hc (E.skip (X.seqN (E.seq (E.reg (L.as Wt.no rfl rfl (L.nil (X.seqN (E.seq (E.seq (E.reg (L.fa fa39_1 Wt.no rfl rfl (L.ld (j := 1) bx10.mem nag29 Wt.no rfl rfl rfl rfl (L.fa fa34_3 Wt.no rfl rfl (L.ld (j := 7) bx7.mem nag3 Wt.no rfl rfl rfl rfl ?_))))))))))))))
  obtain ⟨x16, ex16, hm⟩ := bindS hm
  refine L.sh (r := rB) sl29 h6 Wt.no rfl rfl ex16 rfl fun a17 c17 h17 => L.len sl29 Wt.no rfl rfl (L.mv Wt.no rfl rfl (L.nil (X.seqN (E.block ?_))))
  obtain ⟨o30, eo30, hm⟩ := bindS hm
  refine E.cut (x := .exit 0) (fun e w => ∃ (s34 : Sig), Mv (Up N No) s s34 ∧ e = [(7, .int .i64 o30.1), (4, .int .i64 o30.2)] ∧ w = s34.w) ?_ ?_
  ·rintro _ _ ⟨s34, m0, rfl, rfl⟩
   refine X.blkE (X.seqN (E.seq (E.seq (E.reg (L.mv Wt.no rfl rfl (L.bi Wt.no rfl rfl rfl rfl (L.nil (X.seqN ?_))))))))
   rcases ifS hm with ⟨hc, hm⟩ | ⟨hc, hm⟩
   ·refine E.cT rfl hc (E.seq (E.reg (L.as Wt.no rfl rfl (L.as Wt.no rfl rfl (L.nil (X.seqN (E.ret (X.seqR ?_))))))))
    obtain rfl := Option.some.inj hm
    exact X.rt (.inl rfl) Try.results18 (Rs.tmp rfl (Rs.tmp rfl Rs.nil)) rfl ⟨_, (s34).ren N (fun _ => 0), rfl, rfl, m0.ren hNb, rfl⟩
   ·refine E.cF rfl hc (E.skip (X.seqN (E.seq (E.reg (L.mv Wt.no rfl rfl (L.as Wt.no rfl rfl (L.as Wt.no rfl rfl (L.nil (X.seqN (E.ret ?_))))))))))
    obtain rfl := Option.some.inj hm
    exact X.rt (.inl rfl) Try.results18 (Rs.tmp rfl (Rs.tmp rfl Rs.nil)) rfl ⟨_, (s34).ren N (fun _ => 0), rfl, rfl, m0.ren hNb, rfl⟩
  intro K35
  refine E.iter (fun (st30 : Int × Int × Int) (e : List (Nat × Value)) (w : World) => ∃ (s33 : Sig), Mv (Up N No) s s33 ∧ RdL rB s33 a17 c17 x16 ∧ e = [(22, .int .i64 st30.1), (21, .int .i64 (x16.length : Int)), (20, .slice a17 x16.length c17), (7, .int .i64 st30.2.1), (4, .int .i64 st30.2.2)] ∧ w = s33.w) eo30 ⟨s14, m0, h17, rfl, rfl⟩ (Sub.rf rfl) ?_
  rintro st30 res30 hm ih30 ho30 _ _ ⟨s33, m0, h17, rfl, rfl⟩
  unfold m_generate_State_l1 at hm
  refine E.seq (E.reg (L.bi Wt.no rfl rfl rfl rfl (L.nil (X.seqN (E.seq ?_)))))
  rcases ifS hm with ⟨hc, hm⟩ | ⟨hc, hm⟩
  ·refine E.cT rfl hc (E.skip (X.seqN (E.seqJ (fun e w => ∃ (s38 : Sig) (n36 : Int) (n37 : Int), m_generate_State_j1 st30 n36 n37 = some res30 ∧ Mv (Up N No) s s38 ∧ RdL rB s38 a17 c17 x16 ∧ e = [(7, .int .i64 n36), (4, .int .i64 n37), (22, .int .i64 st30.1), (21, .int .i64 (x16.length : Int)), (20, .slice a17 x16.length c17)] ∧ w = s38.w) ?_ ?_)))
   ·rintro _ _ ⟨s38, n36, n37, hm, m0, h17, rfl, rfl⟩
    unfold m_generate_State_j1 at hm
    exact E.reg (L.bi Wt.no rfl rfl rfl rfl (L.mv Wt.no rfl rfl (L.nil (X.sub (ih30 _ (Option.some.inj hm).symm _ _ ⟨s38, m0, h17, rfl, rfl⟩) (Sub.rf rfl)))))
   ·intro Jj39
    refine E.block (E.seq (E.reg (L.mv Wt.no rfl rfl ?_)))
    obtain ⟨x40, ex40, hm⟩ := bindS hm
    refine L.ix (r := rB) sl29 h17 Wt.no rfl rfl ex40 rfl fun b41 o41 cc41 me41 rd41 => ?_
    obtain rfl := rd41
    refine L.ld (j := 0) me41 nag4 Wt.no rfl rfl rfl rfl (L.as Wt.no rfl rfl (L.as Wt.no rfl rfl (L.nil (X.seqN (E.seq (E.reg (L.mv Wt.no rfl rfl (L.nil (X.seqN ?_)))))))))
    rcases ifS hm with ⟨hc, hm⟩ | ⟨hc, hm⟩
    ·exact E.cT rfl hc (E.reg (L.mv Wt.no rfl rfl (L.mv Wt.no rfl rfl (L.bi Wt.no rfl rfl rfl rfl (L.as Wt.no rfl rfl (L.as Wt.no rfl rfl (L.nil (X.blkN (X.sub (Jj39 _ _ ⟨s33, (W (st30.2.1 + 1)), st30.1, hm, m0, h17, rfl, rfl⟩) (Sub.rf rfl))))))))))
    ·exact E.cF rfl hc (E.skip (X.blkN (X.sub (Jj39 _ _ ⟨s33, st30.2.1, st30.2.2, hm, m0, h17, rfl, rfl⟩) (Sub.rf rfl))))
  ·refine E.cF rfl hc (E.exit (X.seqX (X.seqX ?_)))
   have hx := ho30 _ (Option.some.inj hm).symm
   subst hx
   exact X.sub (K35 _ _ ⟨s33, m0, rfl, rfl⟩) (Sub.rf rfl)

noncomputable def m_slices_Equal_int_l1 (p0 : List Int) (p1 : List Int) (st19 : Int) : Option (Int ⊕ (Unit ⊕ Unit)) :=
  if decide (st19 < (p0.length : Int)) then
    (idx p0 st19).bind fun x30 =>
    (idx p1 st19).bind fun x36 =>
    if (x30 != x36) then
      some (.inr (.inr (())))
    else
      some (.inl (W (st19 + 1)))
  else
    some (.inr (.inl ()))
/-- What slices.Equal<<>int,int> computes. -/
noncomputable def m_slices_Equal_int (p0 : List Int) (p1 : List Int) : Option Bool :=
  if ((p0.length : Int) != (p1.length : Int)) then
    some false
  else
    (iter (m_slices_Equal_int_l1 p0 p1) 0).bind fun o19 =>
    match o19 with
    | .inl u21 =>
      some true
    | .inr (u24) =>
      some false
set_option maxRecDepth 100000 in
set_option maxHeartbeats 8000000 in
theorem m_slices_Equal_int_c {s : Sig} {p0 : List Int} {p1 : List Int} {a1 : Option Addr} {c1 : Nat} {a2 : Option Addr} {c2 : Nat} {r : Bool} (h1 : RdL (rK .i64) s a1 c1 p0) (h2 : RdL (rK .i64) s a2 c2 p1) (hm : m_slices_Equal_int p0 p1 = some r) :
    Calls Try.prog 20 #[.slice a1 p0.length c1, .slice a2 p1.length c2] s.w (RetS No s fun v s' => v = .bool r) := by
 unfold m_slices_Equal_int at hm
 obtain ⟨N, hN, hNb⟩ := s.fresh
 have m0 : Mv (Up N No) s s := Mv.refl _ _
 refine E.entry Try.func20 rfl Try.ntmps20 rfl rfl (E.seq (E.reg (L.as Wt.no rfl rfl (L.nil (X.seqN (E.seq (E.seq (E.reg (L.mv Wt.no rfl rfl (L.len sl23 Wt.no rfl rfl (L.mv Wt.no rfl rfl (L.len sl23 Wt.no rfl rfl (L.bi Wt.no rfl rfl rfl rfl (L.nil (X.seqN ?_)))))))))))))))
 rcases ifS hm with ⟨hc, hm⟩ | ⟨hc, hm⟩
 ·refine E.cT rfl hc (E.seq (E.reg (L.as Wt.no rfl rfl (L.nil (X.seqN (E.ret (X.seqR ?_)))))))
  obtain rfl := Option.some.inj hm
  exact X.rt (.inl rfl) Try.results20 (Rs.tmp rfl Rs.nil) rfl ⟨_, (s).ren N (fun _ => 0), rfl, rfl, m0.ren hNb, rfl⟩
 ·refine E.cF rfl hc (E.skip (X.seqN (E.seq (E.seq (E.reg (L.mv Wt.no rfl rfl (L.len sl23 Wt.no rfl rfl (L.mv Wt.no rfl rfl (L.nil (X.seqN (E.block ?_)))))))))))
  obtain ⟨o19, eo19, hm⟩ := bindS hm
  refine E.cut (x := .exit 0) (fun e w => ∃ (s22 : Sig) (u21 : Unit), o19 = .inl u21 ∧ Mv (Up N No) s s22 ∧ e = [] ∧ w = s22.w) ?_ ?_
  ·rintro _ _ ⟨s22, u21, rfl, m0, rfl, rfl⟩
   dsimp only at hm
   refine X.blkE (X.seqN (E.seq (E.reg (L.as Wt.no rfl rfl (L.nil (X.seqN (E.ret ?_)))))))
   obtain rfl := Option.some.inj hm
   exact X.rt (.inl rfl) Try.results20 (Rs.tmp rfl Rs.nil) rfl ⟨_, (s22).ren N (fun _ => 0), rfl, rfl, m0.ren hNb, rfl⟩
  intro K23
  refine E.cut (x := .ret) (fun e w => ∃ (s25 : Sig) (u24 : Unit), o19 = .inr (u24) ∧ Mv (Up N No) s s25 ∧ e = [(4, .bool false)] ∧ w = s25.w) ?_ ?_
  ·rintro _ _ ⟨s25, u24, rfl, m0, rfl, rfl⟩
   dsimp only at hm
   refine X.blkR (X.seqR ?_)
   obtain rfl := Option.some.inj hm
   exact X.rt (.inl rfl) Try.results20 (Rs.tmp rfl Rs.nil) rfl ⟨_, (s25).ren N (fun _ => 0), rfl, rfl, m0.ren hNb, rfl⟩
  intro K26
  refine E.iter (fun (st19 : Int) (e : List (Nat × Value)) (w : World) => ∃ (s20 : Sig), Mv (Up N No) s s20 ∧ RdL (rK .i64) s20 a1 c1 p0 ∧ RdL (rK .i64) s20 a2 c2 p1 ∧ e = [(13, .int .i64 st19), (12, .int .i64 (p0.length : Int)), (0, .slice a1 p0.length c1), (1, .slice a2 p1.length c2)] ∧ w = s20.w) eo19 ⟨s, m0, h1, h2, rfl, rfl⟩ (Sub.rf rfl) ?_
  rintro st19 res19 hm ih19 ho19 _ _ ⟨s20, m0, h1, h2, rfl, rfl⟩
  unfold m_slices_Equal_int_l1 at hm
  refine E.seq (E.reg (L.bi Wt.no rfl rfl rfl rfl (L.nil (X.seqN (E.seq ?_)))))
  rcases ifS hm with ⟨hc, hm⟩ | ⟨hc, hm⟩
  ·refine E.cT rfl hc (E.skip (X.seqN (E.seq (E.block (E.seq (E.reg (L.mv Wt.no rfl rfl (L.as Wt.no rfl rfl (L.nil (X.seqN (E.seq ?_)))))))))))
   obtain ⟨x30, ex30, hm⟩ := bindS hm
   obtain ⟨x36, ex36, hm⟩ := bindS hm
   refine E.draw [[], [], [0, 1], [0, 1, 2], [], [], [4, 5], [4, 5, 6], [0, 1, 2, 3, 4, 5, 6, 7]] (fun D e sx => Mv No s20 sx ∧ Sub [(5, .int .i64 st19), (13, .int .i64 st19), (12, .int .i64 (p0.length : Int)), (0, .slice a1 p0.length c1), (1, .slice a2 p1.length c2)] e ∧ (D 0 = true → (Env.get e 16 = some (.slice a1 p0.length c1))) ∧ (D 1 = true → (Env.get e 17 = some (.int .i64 st19))) ∧ (D 2 = true → (∃ (b31 : Nat) (o31 : Nat), Env.get e 18 = some (.pointer (some ⟨b31, o31, none⟩)) ∧ Mem sx 0 b31 o31 [.int .i64 x30])) ∧ (D 3 = true → (Env.get e 19 = some (.int .i64 x30))) ∧ (D 4 = true → (Env.get e 20 = some (.slice a2 p1.length c2))) ∧ (D 5 = true → (Env.get e 21 = some (.int .i64 st19))) ∧ (D 6 = true → (∃ (b37 : Nat) (o37 : Nat), Env.get e 22 = some (.pointer (some ⟨b37, o37, none⟩)) ∧ Mem sx 0 b37 o37 [.int .i64 x36])) ∧ (D 7 = true → (Env.get e 23 = some (.int .i64 x36))) ∧ (D 8 = true → (Env.get e 24 = some (.bool (x30 != x36))))) (by kernel_rfl) (by kernel_rfl) (by kernel_rfl) ?_ ?_ ?_
   ·intro sz mz
    exact ⟨mz, (Sub.rf rfl), nofun, nofun, nofun, nofun, nofun, nofun, nofun, nofun, nofun⟩
   ·refine ⟨?_, ?_, ?_, ?_, ?_, ?_, ?_, ?_, ?_, trivial⟩
    ·rintro D e s27 ⟨im, ib, i0, t_⟩ hk hf ha
     have kn : Kn e [(0, .slice a1 p0.length c1)] := ⟨(ib 0 _ rfl), trivial⟩
     exact L.kns _ kn (L.mv Wt.no rfl rfl (L.nil (X.dk kn ⟨im, Sub.fresh ib rfl, fun _ => rfl, t_⟩)))
    ·rintro D e s28 ⟨im, ib, i0, i1, t_⟩ hk hf ha
     have kn : Kn e [(5, .int .i64 st19)] := ⟨(ib 5 _ rfl), trivial⟩
     exact L.kns _ kn (L.mv Wt.no rfl rfl (L.nil (X.dk kn ⟨im, Sub.fresh ib rfl, i0, fun _ => rfl, t_⟩)))
    ·rintro D e s29 ⟨im, ib, i0, i1, i2, t_⟩ hk hf ha
     obtain ⟨d0, d1, -⟩ := ha
     have g0_ := i0 d0
     have g1_ := i1 d1
     have h1 := h1.mono (im.le no_No)
     have kn : Kn e [(16, .slice a1 p0.length c1), (17, .int .i64 st19)] := ⟨g0_, g1_, trivial⟩
     refine L.kns _ kn (L.ix (r := (rK .i64)) sl23 h1 Wt.no rfl rfl ex30 rfl fun b31 o31 cc31 me31 rd31 => ?_)
     obtain rfl := rd31
     exact L.nil (X.dk kn ⟨im, Sub.fresh ib rfl, i0, i1, fun _ => ⟨b31, o31, rfl, me31⟩, t_⟩)
    ·rintro D e s32 ⟨im, ib, i0, i1, i2, i3, t_⟩ hk hf ha
     obtain ⟨d0, d1, d2, -⟩ := ha
     obtain ⟨b31, o31, g2_, me31⟩ := i2 d2
     have kn : Kn e [(18, .pointer (some ⟨b31, o31, none⟩))] := ⟨g2_, trivial⟩
     exact L.kns _ kn (L.ld (j := 0) me31 nag3 Wt.no rfl rfl rfl rfl (L.nil (X.dk kn ⟨im, Sub.fresh ib rfl, i0, i1, i2, fun _ => rfl, t_⟩)))
    ·rintro D e s33 ⟨im, ib, i0, i1, i2, i3, i4, t_⟩ hk hf ha
     have kn : Kn e [(1, .slice a2 p1.length c2)] := ⟨(ib 1 _ rfl), trivial⟩
     exact L.kns _ kn (L.mv Wt.no rfl rfl (L.nil (X.dk kn ⟨im, Sub.fresh ib rfl, i0, i1, i2, i3, fun _ => rfl, t_⟩)))
    ·rintro D e s34 ⟨im, ib, i0, i1, i2, i3, i4, i5, t_⟩ hk hf ha
     have kn : Kn e [(5, .int .i64 st19)] := ⟨(ib 5 _ rfl), trivial⟩
     exact L.kns _ kn (L.mv Wt.no rfl rfl (L.nil (X.dk kn ⟨im, Sub.fresh ib rfl, i0, i1, i2, i3, i4, fun _ => rfl, t_⟩)))
    ·rintro D e s35 ⟨im, ib, i0, i1, i2, i3, i4, i5, i6, t_⟩ hk hf ha
     obtain ⟨d4, d5, -⟩ := ha
     have g4_ := i4 d4
     have g5_ := i5 d5
     have h2 := h2.mono (im.le no_No)
     have kn : Kn e [(20, .slice a2 p1.length c2), (21, .int .i64 st19)] := ⟨g4_, g5_, trivial⟩
     refine L.kns _ kn (L.ix (r := (rK .i64)) sl23 h2 Wt.no rfl rfl ex36 rfl fun b37 o37 cc37 me37 rd37 => ?_)
     obtain rfl := rd37
     exact L.nil (X.dk kn ⟨im, Sub.fresh ib rfl, i0, i1, i2, i3, i4, i5, fun _ => ⟨b37, o37, rfl, me37⟩, t_⟩)
    ·rintro D e s38 ⟨im, ib, i0, i1, i2, i3, i4, i5, i6, i7, i8⟩ hk hf ha
     obtain ⟨d4, d5, d6, -⟩ := ha
     obtain ⟨b37, o37, g6_, me37⟩ := i6 d6
     have kn : Kn e [(22, .pointer (some ⟨b37, o37, none⟩))] := ⟨g6_, trivial⟩
     exact L.kns _ kn (L.ld (j := 0) me37 nag3 Wt.no rfl rfl rfl rfl (L.nil (X.dk kn ⟨im, Sub.fresh ib rfl, i0, i1, i2, i3, i4, i5, i6, fun _ => rfl, i8⟩)))
    ·rintro D e s39 ⟨im, ib, i0, i1, i2, i3, i4, i5, i6, i7, i8⟩ hk hf ha
     obtain ⟨d0, d1, d2, d3, d4, d5, d6, d7, -⟩ := ha
     have g3_ := i3 d3
     have g7_ := i7 d7
     have kn : Kn e [(19, .int .i64 x30), (23, .int .i64 x36)] := ⟨g3_, g7_, trivial⟩
     exact L.kns _ kn (L.bi Wt.no rfl rfl rfl rfl (L.nil (X.dk kn ⟨im, Sub.fresh ib rfl, i0, i1, i2, i3, i4, i5, i6, i7, fun _ => rfl⟩)))
   ·rintro D e s40 hD ⟨im, ib, i0, i1, i2, i3, i4, i5, i6, i7, i8⟩
    have g8_ := i8 (hD 8 rfl)
    have h1 := h1.mono (im.le no_No)
    have h2 := h2.mono (im.le no_No)
    have m0 := m0.trans im.no
    refine X.sub (e' := [(24, .bool (x30 != x36)), (13, .int .i64 st19), (12, .int .i64 (p0.length : Int)), (0, .slice a1 p0.length c1), (1, .slice a2 p1.length c2)]) ?_ (Sub.cons g8_ (Sub.cons (ib 13 _ rfl) (Sub.cons (ib 12 _ rfl) (Sub.cons (ib 0 _ rfl) (Sub.cons (ib 1 _ rfl) Sub.nil)))))
    refine X.seqN ?_
    rcases ifS hm with ⟨hc, hm⟩ | ⟨hc, hm⟩
    ·refine E.cT rfl hc (E.seq (E.reg (L.as Wt.no rfl rfl (L.nil (X.seqN (E.ret (X.blkR (X.seqR (X.seqR ?_)))))))))
     have hx := ho19 _ (Option.some.inj hm).symm
     exact X.sub (K26 _ _ ⟨s40, (), hx.symm, m0, rfl, rfl⟩) (Sub.rf rfl)
    ·exact E.cF rfl hc (E.skip (X.blkN (X.seqN (E.reg (L.bi Wt.no rfl rfl rfl rfl (L.mv Wt.no rfl rfl (L.nil (X.sub (ih19 _ (Option.some.inj hm).symm _ _ ⟨s40, m0, h1, h2, rfl, rfl⟩) (Sub.rf rfl)))))))))
  ·refine E.cF rfl hc (E.exit (X.seqX (X.seqX ?_)))
   have hx := ho19 _ (Option.some.inj hm).symm
   exact X.sub (K23 _ _ ⟨s20, (), hx.symm, m0, rfl, rfl⟩) Sub.nil

theorem cf12 : Cf Try.prog 12 := Cf.mk Try.func12 (by kernel_rfl) (by kernel_rfl)
theorem cf13 : Cf Try.prog 13 := Cf.mk Try.func13 (by kernel_rfl) (by kernel_rfl)
theorem cf14 : Cf Try.prog 14 := Cf.mk Try.func14 (by kernel_rfl) (by kernel_rfl)
theorem cf18 : Cf Try.prog 18 := Cf.mk Try.func18 (by kernel_rfl) (by kernel_rfl)
theorem cf19 : Cf Try.prog 19 := Cf.mk Try.func19 (by kernel_rfl) (by kernel_rfl)
theorem cf20 : Cf Try.prog 20 := Cf.mk Try.func20 (by kernel_rfl) (by kernel_rfl)
theorem cf38 : Cf Try.prog 38 := Cf.mk Try.func38 (by kernel_rfl) (by kernel_rfl)
/-- What overseerlaw53.known computes. -/
noncomputable def m_overseerlaw53_known : Option Bool :=
  (m_overseerlaw53_example).bind fun r1 =>
  (m_generate_Generate r1 ([3] : List Int)).bind fun r10 =>
  (if ((((r10.2 != 0) || (r10.1.1.1 != 2)) || (r10.1.1.2.1 != 2)) || (r10.1.2.2.2 != 2)) then
    some true
  else
    (m_instruction_Check r10.1.1).bind fun r97 =>
    some (r97 != 0)).bind fun b25 =>
  if b25 then
    some false
  else
    (m_instruction_Start r10.1.1).bind fun r28 =>
    (m_generate_Scan r10.1 r28.1 ([] : List Int)).bind fun r38 =>
    (m_generate_Enabled r10.1 r38.1).bind fun r48 =>
    (m_generate_Scan r10.1 r38.1 ([3] : List Int)).bind fun r55 =>
    (m_generate_State r10.1 r55.1).bind fun r65 =>
    (m_generate_Enabled r10.1 r55.1).bind fun r68 =>
    (if ((((((r28.2 == 0) && (r38.2 == 0)) && (r48.2 == 0)) && (r55.2 == 0)) && (r65.2 == 0)) && (r68.2 == 0)) then
      (m_slices_Equal_int r48.1 ([3] : List Int)).bind fun r88 =>
      some r88
    else
      some false).bind fun b77 =>
    some ((b77 && (r65.1 == 1)) && ((r68.1.length : Int) == 0))
set_option maxRecDepth 100000 in
set_option maxHeartbeats 8000000 in
theorem m_overseerlaw53_known_c {s : Sig} {r : Bool} (hm : m_overseerlaw53_known = some r) :
    Calls Try.prog 11 #[] s.w (RetS No s fun v s' => v = .bool r) := by
 unfold m_overseerlaw53_known at hm
 obtain ⟨N, hN, hNb⟩ := s.fresh
 have m0 : Mv (Up N No) s s := Mv.refl _ _
 refine E.entry Try.func11 rfl Try.ntmps11 rfl rfl (E.seq (E.reg (L.as Wt.no rfl rfl (L.nil (X.seqN (E.seq (E.reg ?_)))))))
 obtain ⟨r1, er1, hm⟩ := bindS hm
 refine L.ca cf38 rfl rfl Wt.no rfl (m_overseerlaw53_example_c (s := s) er1) rfl ?_
 rintro _ s2 m3 ⟨a4, c4, a5, c5, a6, c6, rfl, h4, h5, h6⟩
 replace m0 := m0.trans m3.no
 refine L.bsE (k := 1) (cs := [.int .i64 3]) 0 bs23 (Nat.le_of_ble_eq_true rfl) Wt.no rfl rfl rfl rfl fun b7 s8 m9 bx7 => ?_
 replace m0 := m0.trans m9.no
 replace h4 := h4.mono (m9.le no_No)
 replace h5 := h5.mono (m9.le no_No)
 replace h6 := h6.mono (m9.le no_No)
 have h7 := Bx.rdL (r := (rK .i64)) (xs := ([3] : List Int)) bx7 ⟨[.int .i64 3], _, rfl, rfl, rfl⟩ (Nat.le_of_ble_eq_true rfl)
 obtain ⟨r10, er10, hm⟩ := bindS hm
 refine L.ca cf12 rfl rfl Wt.no rfl (m_generate_Generate_c (s := s8) (p0 := r1) (p1 := ([3] : List Int)) (u0 := 0) (u1 := 0) (u2 := 0) (u3 := 0) h4 h5 h6 h7 er10) rfl ?_
 rintro _ s11 m12 ⟨a13, c13, a14, c14, a15, c15, a16, c16, rfl, h13, h14, h15, h16⟩
 replace h13 := h13.p
 replace h14 := h14.p
 replace h15 := h15.p
 replace h16 := h16.p
 replace m0 := m0.trans m12.no
 refine L.mv Wt.no rfl rfl (L.ex Wt.no rfl rfl rfl (L.ex Wt.no rfl rfl rfl (L.al (N + 0) zz34 rfl Wt.no rfl fun b17 s18 m19 bx17 => ?_)))
 replace m0 := m0.trans m19.no
 replace h13 := h13.mono (m19.le no_No)
 replace h14 := h14.mono (m19.le no_No)
 replace h15 := h15.mono (m19.le no_No)
 replace h16 := h16.mono (m19.le no_No)
 refine L.st (c := [.int .i64 r10.1.1.1, .int .i64 r10.1.1.2.1, .int .i64 r10.1.1.2.2.1, .slice a13 r10.1.1.2.2.2.1.length c13, .slice a14 r10.1.1.2.2.2.2.length c14, .slice a15 r10.1.2.1.length c15, .slice a16 r10.1.2.2.1.length c16, .int .i64 r10.1.2.2.2]) (cs' := #[.int .i64 r10.1.1.1, .int .i64 r10.1.1.2.1, .int .i64 r10.1.1.2.2.1, .slice a13 r10.1.1.2.2.2.1.length c13, .slice a14 r10.1.1.2.2.2.2.length c14, .slice a15 r10.1.2.1.length c15, .slice a16 r10.1.2.2.1.length c16, .int .i64 r10.1.2.2.2]) bx17 ag34.sz Wt.no rfl rfl rfl rfl rfl (Nat.le_of_ble_eq_true rfl) rfl fun s20 m21 bx17 => ?_
 replace m0 := m0.trans (m21.one up)
 replace h13 := h13.mono (m21.le (tg0 hN))
 replace h14 := h14.mono (m21.le (tg0 hN))
 replace h15 := h15.mono (m21.le (tg0 hN))
 replace h16 := h16.mono (m21.le (tg0 hN))
 refine L.as Wt.no rfl rfl (L.nil (X.seqN (E.seq (E.seq (E.reg (L.mv Wt.no rfl rfl (L.bi Wt.no rfl rfl rfl rfl (L.mv Wt.no rfl rfl (L.cut 5 (fun e w => ∃ (v22 : Bool), ((r10.2 != 0) || (r10.1.1.1 != 2)) = v22 ∧ e = (28, .bool v22) :: [(1, .pointer (some ⟨b17, 0, none⟩))] ∧ w = s20.w) ?_ ?_)))))))))
 ·rintro _ _ ⟨v22, rfl, rfl, rfl⟩
  refine L.mv Wt.no rfl rfl (L.cut 5 (fun e w => ∃ (v23 : Bool), (((r10.2 != 0) || (r10.1.1.1 != 2)) || (r10.1.1.2.1 != 2)) = v23 ∧ e = (34, .bool v23) :: [(1, .pointer (some ⟨b17, 0, none⟩))] ∧ w = s20.w) ?_ ?_)
  ·rintro _ _ ⟨v23, rfl, rfl, rfl⟩
   refine L.mv Wt.no rfl rfl (L.cut 4 (fun e w => ∃ (v24 : Bool), ((((r10.2 != 0) || (r10.1.1.1 != 2)) || (r10.1.1.2.1 != 2)) || (r10.1.2.2.2 != 2)) = v24 ∧ e = (39, .bool v24) :: [(1, .pointer (some ⟨b17, 0, none⟩))] ∧ w = s20.w) ?_ ?_)
   ·rintro _ _ ⟨v24, rfl, rfl, rfl⟩
    refine L.mv Wt.no rfl rfl ?_
    obtain ⟨b25, eb25, hm⟩ := bindS hm
    refine L.cut 5 (fun e w => ∃ (s27 : Sig) (v26 : Bool), b25 = v26 ∧ Mv (Up N No) s s27 ∧ RdL rB s27 a13 c13 r10.1.1.2.2.2.1 ∧ RdL (rP (rK .i64) (rK .i64)) s27 a14 c14 r10.1.1.2.2.2.2 ∧ RdL (rK .i64) s27 a15 c15 r10.1.2.1 ∧ RdL (rK .i64) s27 a16 c16 r10.1.2.2.1 ∧ Bx s27 (N + 0) b17 #[.int .i64 r10.1.1.1, .int .i64 r10.1.1.2.1, .int .i64 r10.1.1.2.2.1, .slice a13 r10.1.1.2.2.2.1.length c13, .slice a14 r10.1.1.2.2.2.2.length c14, .slice a15 r10.1.2.1.length c15, .slice a16 r10.1.2.2.1.length c16, .int .i64 r10.1.2.2.2] 34 ∧ e = (45, .bool v26) :: [(1, .pointer (some ⟨b17, 0, none⟩))] ∧ w = s27.w) ?_ ?_
    ·rintro _ _ ⟨s27, v26, rfl, m0, h13, h14, h15, h16, bx17, rfl, rfl⟩
     refine L.nil (X.seqN ?_)
     rcases ifS hm with ⟨hc, hm⟩ | ⟨hc, hm⟩
     ·refine E.cT rfl hc (E.seq (E.reg (L.as Wt.no rfl rfl (L.nil (X.seqN (E.ret (X.seqR ?_)))))))
      obtain rfl := Option.some.inj hm
      exact X.rt (.inl rfl) Try.results11 (Rs.tmp rfl Rs.nil) rfl ⟨_, (s27).ren N (fun _ => 0), rfl, rfl, m0.ren hNb, rfl⟩
     ·refine E.cF rfl hc (E.skip (X.seqN (E.seq (E.reg (L.fa fa34_0 Wt.no rfl rfl (L.lg (j := 0) (cs := [.int .i64 r10.1.1.1, .int .i64 r10.1.1.2.1, .int .i64 r10.1.1.2.2.1, .slice a13 r10.1.1.2.2.2.1.length c13, .slice a14 r10.1.1.2.2.2.2.length c14]) bx17.mem ag32 Wt.no rfl rfl rfl rfl rfl ?_))))))
      obtain ⟨r28, er28, hm⟩ := bindS hm
      refine L.ca cf13 rfl rfl Wt.no rfl (m_instruction_Start_c (s := s27) (p0 := r10.1.1) (u0 := 0) (u1 := 0) h13 h14 er28) rfl ?_
      rintro _ s29 m30 ⟨a31, c31, a32, c32, rfl, h31, h32⟩
      replace h31 := h31.p
      replace h32 := h32.p
      replace m0 := m0.trans m30.no
      replace bx17 := bx17.mv m30 no_No
      replace h13 := h13.mono (m30.le no_No)
      replace h14 := h14.mono (m30.le no_No)
      replace h15 := h15.mono (m30.le no_No)
      replace h16 := h16.mono (m30.le no_No)
      refine L.mv Wt.no rfl rfl (L.ex Wt.no rfl rfl rfl (L.ex Wt.no rfl rfl rfl (L.al (N + 1) zz39 rfl Wt.no rfl fun b33 s34 m35 bx33 => ?_)))
      replace m0 := m0.trans m35.no
      replace h31 := h31.mono (m35.le no_No)
      replace h32 := h32.mono (m35.le no_No)
      replace bx17 := bx17.mv m35 no_No
      replace h13 := h13.mono (m35.le no_No)
      replace h14 := h14.mono (m35.le no_No)
      replace h15 := h15.mono (m35.le no_No)
      replace h16 := h16.mono (m35.le no_No)
      refine L.st (c := [.slice a31 r28.1.1.length c31, .slice a32 r28.1.2.length c32]) (cs' := #[.slice a31 r28.1.1.length c31, .slice a32 r28.1.2.length c32]) bx33 ag39.sz Wt.no rfl rfl rfl rfl rfl (Nat.le_of_ble_eq_true rfl) rfl fun s36 m37 bx33 => ?_
      replace m0 := m0.trans (m37.one up)
      replace bx17 := bx17.mv m37 (tgN (by decide))
      replace h13 := h13.mono (m37.le (tg0 hN))
      replace h14 := h14.mono (m37.le (tg0 hN))
      replace h15 := h15.mono (m37.le (tg0 hN))
      replace h16 := h16.mono (m37.le (tg0 hN))
      replace h31 := h31.mono (m37.le (tg0 hN))
      replace h32 := h32.mono (m37.le (tg0 hN))
      refine L.as Wt.no rfl rfl (L.nil (X.seqN (E.seq (E.reg (L.lg (j := 0) (cs := [.int .i64 r10.1.1.1, .int .i64 r10.1.1.2.1, .int .i64 r10.1.1.2.2.1, .slice a13 r10.1.1.2.2.2.1.length c13, .slice a14 r10.1.1.2.2.2.2.length c14, .slice a15 r10.1.2.1.length c15, .slice a16 r10.1.2.2.1.length c16, .int .i64 r10.1.2.2.2]) bx17.mem ag34 Wt.no rfl rfl rfl rfl rfl (L.lg (j := 0) (cs := [.slice a31 r28.1.1.length c31, .slice a32 r28.1.2.length c32]) bx33.mem ag39 Wt.no rfl rfl rfl rfl rfl ?_))))))
      obtain ⟨r38, er38, hm⟩ := bindS hm
      refine L.ca cf14 rfl rfl Wt.no rfl (m_generate_Scan_c (s := s36) (p0 := r10.1) (p1 := r28.1) (p2 := ([] : List Int)) h13 h14 h15 h16 h31 h32 RdL.nil er38) rfl ?_
      rintro _ s39 m40 ⟨a41, c41, a42, c42, rfl, h41, h42⟩
      replace m0 := m0.trans m40.no
      replace bx17 := bx17.mv m40 no_No
      replace h13 := h13.mono (m40.le no_No)
      replace h14 := h14.mono (m40.le no_No)
      replace h15 := h15.mono (m40.le no_No)
      replace h16 := h16.mono (m40.le no_No)
      refine L.mv Wt.no rfl rfl (L.ex Wt.no rfl rfl rfl (L.ex Wt.no rfl rfl rfl (L.al (N + 2) zz39 rfl Wt.no rfl fun b43 s44 m45 bx43 => ?_)))
      replace m0 := m0.trans m45.no
      replace h41 := h41.mono (m45.le no_No)
      replace h42 := h42.mono (m45.le no_No)
      replace bx17 := bx17.mv m45 no_No
      replace h13 := h13.mono (m45.le no_No)
      replace h14 := h14.mono (m45.le no_No)
      replace h15 := h15.mono (m45.le no_No)
      replace h16 := h16.mono (m45.le no_No)
      refine L.st (c := [.slice a41 r38.1.1.length c41, .slice a42 r38.1.2.length c42]) (cs' := #[.slice a41 r38.1.1.length c41, .slice a42 r38.1.2.length c42]) bx43 ag39.sz Wt.no rfl rfl rfl rfl rfl (Nat.le_of_ble_eq_true rfl) rfl fun s46 m47 bx43 => ?_
      replace m0 := m0.trans (m47.one up)
      replace bx17 := bx17.mv m47 (tgN (by decide))
      replace h13 := h13.mono (m47.le (tg0 hN))
      replace h14 := h14.mono (m47.le (tg0 hN))
      replace h15 := h15.mono (m47.le (tg0 hN))
      replace h16 := h16.mono (m47.le (tg0 hN))
      replace h41 := h41.mono (m47.le (tg0 hN))
      replace h42 := h42.mono (m47.le (tg0 hN))
      refine L.as Wt.no rfl rfl (L.nil (X.seqN (E.seq (E.reg (L.lg (j := 0) (cs := [.int .i64 r10.1.1.1, .int .i64 r10.1.1.2.1, .int .i64 r10.1.1.2.2.1, .slice a13 r10.1.1.2.2.2.1.length c13, .slice a14 r10.1.1.2.2.2.2.length c14, .slice a15 r10.1.2.1.length c15, .slice a16 r10.1.2.2.1.length c16, .int .i64 r10.1.2.2.2]) bx17.mem ag34 Wt.no rfl rfl rfl rfl rfl (L.lg (j := 0) (cs := [.slice a41 r38.1.1.length c41, .slice a42 r38.1.2.length c42]) bx43.mem ag39 Wt.no rfl rfl rfl rfl rfl ?_))))))
      obtain ⟨r48, er48, hm⟩ := bindS hm
      refine L.ca cf19 rfl rfl Wt.no rfl (m_generate_Enabled_c (s := s46) (p0 := r10.1) (p1 := r38.1) (u0 := 0) h13 h14 h15 h16 h41 h42 er48) rfl ?_
      rintro _ s49 m50 ⟨a51, c51, rfl, h51⟩
      replace h51 := h51.p
      replace m0 := m0.trans m50.no
      replace bx17 := bx17.mv m50 no_No
      replace h13 := h13.mono (m50.le no_No)
      replace h14 := h14.mono (m50.le no_No)
      replace h15 := h15.mono (m50.le no_No)
      replace h16 := h16.mono (m50.le no_No)
      replace bx43 := bx43.mv m50 no_No
      replace h41 := h41.mono (m50.le no_No)
      replace h42 := h42.mono (m50.le no_No)
      refine L.mv Wt.no rfl rfl (L.ex Wt.no rfl rfl rfl (L.ex Wt.no rfl rfl rfl (L.as Wt.no rfl rfl (L.as Wt.no rfl rfl (L.nil (X.seqN (E.seq (E.reg (L.lg (j := 0) (cs := [.int .i64 r10.1.1.1, .int .i64 r10.1.1.2.1, .int .i64 r10.1.1.2.2.1, .slice a13 r10.1.1.2.2.2.1.length c13, .slice a14 r10.1.1.2.2.2.2.length c14, .slice a15 r10.1.2.1.length c15, .slice a16 r10.1.2.2.1.length c16, .int .i64 r10.1.2.2.2]) bx17.mem ag34 Wt.no rfl rfl rfl rfl rfl (L.lg (j := 0) (cs := [.slice a41 r38.1.1.length c41, .slice a42 r38.1.2.length c42]) bx43.mem ag39 Wt.no rfl rfl rfl rfl rfl (L.bsE (k := 1) (cs := [.int .i64 3]) 0 bs23 (Nat.le_of_ble_eq_true rfl) Wt.no rfl rfl rfl rfl fun b52 s53 m54 bx52 => ?_)))))))))))
      replace m0 := m0.trans m54.no
      replace h13 := h13.mono (m54.le no_No)
      replace h14 := h14.mono (m54.le no_No)
      replace h15 := h15.mono (m54.le no_No)
      replace h16 := h16.mono (m54.le no_No)
      replace h41 := h41.mono (m54.le no_No)
      replace h42 := h42.mono (m54.le no_No)
      replace h51 := h51.mono (m54.le no_No)
      replace bx17 := bx17.mv m54 no_No
      have h52 := Bx.rdL (r := (rK .i64)) (xs := ([3] : List Int)) bx52 ⟨[.int .i64 3], _, rfl, rfl, rfl⟩ (Nat.le_of_ble_eq_true rfl)
      obtain ⟨r55, er55, hm⟩ := bindS hm
      refine L.ca cf14 rfl rfl Wt.no rfl (m_generate_Scan_c (s := s53) (p0 := r10.1) (p1 := r38.1) (p2 := ([3] : List Int)) h13 h14 h15 h16 h41 h42 h52 er55) rfl ?_
      rintro _ s56 m57 ⟨a58, c58, a59, c59, rfl, h58, h59⟩
      replace m0 := m0.trans m57.no
      replace h51 := h51.mono (m57.le no_No)
      replace bx17 := bx17.mv m57 no_No
      replace h13 := h13.mono (m57.le no_No)
      replace h14 := h14.mono (m57.le no_No)
      replace h15 := h15.mono (m57.le no_No)
      replace h16 := h16.mono (m57.le no_No)
      refine L.mv Wt.no rfl rfl (L.ex Wt.no rfl rfl rfl (L.ex Wt.no rfl rfl rfl (L.al (N + 3) zz39 rfl Wt.no rfl fun b60 s61 m62 bx60 => ?_)))
      replace m0 := m0.trans m62.no
      replace h58 := h58.mono (m62.le no_No)
      replace h59 := h59.mono (m62.le no_No)
      replace h51 := h51.mono (m62.le no_No)
      replace bx17 := bx17.mv m62 no_No
      replace h13 := h13.mono (m62.le no_No)
      replace h14 := h14.mono (m62.le no_No)
      replace h15 := h15.mono (m62.le no_No)
      replace h16 := h16.mono (m62.le no_No)
      refine L.st (c := [.slice a58 r55.1.1.length c58, .slice a59 r55.1.2.length c59]) (cs' := #[.slice a58 r55.1.1.length c58, .slice a59 r55.1.2.length c59]) bx60 ag39.sz Wt.no rfl rfl rfl rfl rfl (Nat.le_of_ble_eq_true rfl) rfl fun s63 m64 bx60 => ?_
      replace m0 := m0.trans (m64.one up)
      replace h51 := h51.mono (m64.le (tg0 hN))
      replace bx17 := bx17.mv m64 (tgN (by decide))
      replace h13 := h13.mono (m64.le (tg0 hN))
      replace h14 := h14.mono (m64.le (tg0 hN))
      replace h15 := h15.mono (m64.le (tg0 hN))
      replace h16 := h16.mono (m64.le (tg0 hN))
      replace h58 := h58.mono (m64.le (tg0 hN))
      replace h59 := h59.mono (m64.le (tg0 hN))
      refine L.as Wt.no rfl rfl (L.nil (X.seqN (E.seq (E.reg (L.lg (j := 0) (cs := [.int .i64 r10.1.1.1, .int .i64 r10.1.1.2.1, .int .i64 r10.1.1.2.2.1, .slice a13 r10.1.1.2.2.2.1.length c13, .slice a14 r10.1.1.2.2.2.2.length c14, .slice a15 r10.1.2.1.length c15, .slice a16 r10.1.2.2.1.length c16, .int .i64 r10.1.2.2.2]) bx17.mem ag34 Wt.no rfl rfl rfl rfl rfl (L.lg (j := 0) (cs := [.slice a58 r55.1.1.length c58, .slice a59 r55.1.2.length c59]) bx60.mem ag39 Wt.no rfl rfl rfl rfl rfl ?_))))))
      obtain ⟨r65, er65, hm⟩ := bindS hm
      refine L.ca cf18 rfl rfl Wt.no rfl (m_generate_State_c (s := s63) (p0 := r10.1) (p1 := r55.1) h13 h14 h15 h16 h58 h59 er65) rfl ?_
      rintro _ s66 m67 rfl
      replace m0 := m0.trans m67.no
      replace h51 := h51.mono (m67.le no_No)
      replace bx17 := bx17.mv m67 no_No
      replace h13 := h13.mono (m67.le no_No)
      replace h14 := h14.mono (m67.le no_No)
      replace h15 := h15.mono (m67.le no_No)
      replace h16 := h16.mono (m67.le no_No)
      replace bx60 := bx60.mv m67 no_No
      replace h58 := h58.mono (m67.le no_No)
      replace h59 := h59.mono (m67.le no_No)
      refine L.mv Wt.no rfl rfl (L.ex Wt.no rfl rfl rfl (L.ex Wt.no rfl rfl rfl (L.as Wt.no rfl rfl (L.as Wt.no rfl rfl (L.nil (X.seqN (E.seq (E.reg (L.lg (j := 0) (cs := [.int .i64 r10.1.1.1, .int .i64 r10.1.1.2.1, .int .i64 r10.1.1.2.2.1, .slice a13 r10.1.1.2.2.2.1.length c13, .slice a14 r10.1.1.2.2.2.2.length c14, .slice a15 r10.1.2.1.length c15, .slice a16 r10.1.2.2.1.length c16, .int .i64 r10.1.2.2.2]) bx17.mem ag34 Wt.no rfl rfl rfl rfl rfl (L.lg (j := 0) (cs := [.slice a58 r55.1.1.length c58, .slice a59 r55.1.2.length c59]) bx60.mem ag39 Wt.no rfl rfl rfl rfl rfl ?_))))))))))
      obtain ⟨r68, er68, hm⟩ := bindS hm
      refine L.ca cf19 rfl rfl Wt.no rfl (m_generate_Enabled_c (s := s66) (p0 := r10.1) (p1 := r55.1) (u0 := 0) h13 h14 h15 h16 h58 h59 er68) rfl ?_
      rintro _ s69 m70 ⟨a71, c71, rfl, h71⟩
      replace h71 := h71.p
      replace m0 := m0.trans m70.no
      replace h51 := h51.mono (m70.le no_No)
      refine L.mv Wt.no rfl rfl (L.ex Wt.no rfl rfl rfl (L.ex Wt.no rfl rfl rfl (L.as Wt.no rfl rfl (L.as Wt.no rfl rfl (L.nil (X.seqN (E.seq (E.reg (L.mv Wt.no rfl rfl (L.bi Wt.no rfl rfl rfl rfl (L.mv Wt.no rfl rfl (L.cut 3 (fun e w => ∃ (v72 : Bool), ((r28.2 == 0) && (r38.2 == 0)) = v72 ∧ e = (88, .bool v72) :: [(14, .int .i64 r68.2), (13, .slice a71 r68.1.length c71), (12, .int .i64 r65.2), (11, .int .i64 r65.1), (10, .int .i64 r55.2), (8, .int .i64 r48.2), (7, .slice a51 r48.1.length c51)] ∧ w = s69.w) ?_ ?_))))))))))))
      ·rintro _ _ ⟨v72, rfl, rfl, rfl⟩
       refine L.mv Wt.no rfl rfl (L.cut 3 (fun e w => ∃ (v73 : Bool), (((r28.2 == 0) && (r38.2 == 0)) && (r48.2 == 0)) = v73 ∧ e = (92, .bool v73) :: [(14, .int .i64 r68.2), (13, .slice a71 r68.1.length c71), (12, .int .i64 r65.2), (11, .int .i64 r65.1), (10, .int .i64 r55.2), (7, .slice a51 r48.1.length c51)] ∧ w = s69.w) ?_ ?_)
       ·rintro _ _ ⟨v73, rfl, rfl, rfl⟩
        refine L.mv Wt.no rfl rfl (L.cut 3 (fun e w => ∃ (v74 : Bool), ((((r28.2 == 0) && (r38.2 == 0)) && (r48.2 == 0)) && (r55.2 == 0)) = v74 ∧ e = (96, .bool v74) :: [(14, .int .i64 r68.2), (13, .slice a71 r68.1.length c71), (12, .int .i64 r65.2), (11, .int .i64 r65.1), (7, .slice a51 r48.1.length c51)] ∧ w = s69.w) ?_ ?_)
        ·rintro _ _ ⟨v74, rfl, rfl, rfl⟩
         refine L.mv Wt.no rfl rfl (L.cut 3 (fun e w => ∃ (v75 : Bool), (((((r28.2 == 0) && (r38.2 == 0)) && (r48.2 == 0)) && (r55.2 == 0)) && (r65.2 == 0)) = v75 ∧ e = (100, .bool v75) :: [(14, .int .i64 r68.2), (13, .slice a71 r68.1.length c71), (11, .int .i64 r65.1), (7, .slice a51 r48.1.length c51)] ∧ w = s69.w) ?_ ?_)
         ·rintro _ _ ⟨v75, rfl, rfl, rfl⟩
          refine L.mv Wt.no rfl rfl (L.cut 3 (fun e w => ∃ (v76 : Bool), ((((((r28.2 == 0) && (r38.2 == 0)) && (r48.2 == 0)) && (r55.2 == 0)) && (r65.2 == 0)) && (r68.2 == 0)) = v76 ∧ e = (104, .bool v76) :: [(13, .slice a71 r68.1.length c71), (11, .int .i64 r65.1), (7, .slice a51 r48.1.length c51)] ∧ w = s69.w) ?_ ?_)
          ·rintro _ _ ⟨v76, rfl, rfl, rfl⟩
           refine L.mv Wt.no rfl rfl ?_
           obtain ⟨b77, eb77, hm⟩ := bindS hm
           refine L.cut 4 (fun e w => ∃ (s79 : Sig) (v78 : Bool), b77 = v78 ∧ Mv (Up N No) s s79 ∧ RdL (rK .i64) s79 a71 c71 r68.1 ∧ e = (109, .bool v78) :: [(13, .slice a71 r68.1.length c71), (11, .int .i64 r65.1)] ∧ w = s79.w) ?_ ?_
           ·rintro _ _ ⟨s79, v78, rfl, m0, h71, rfl, rfl⟩
            refine L.mv Wt.no rfl rfl (L.cut 3 (fun e w => ∃ (v80 : Bool), (b77 && (r65.1 == 1)) = v80 ∧ e = (113, .bool v80) :: [(13, .slice a71 r68.1.length c71)] ∧ w = s79.w) ?_ ?_)
            ·rintro _ _ ⟨v80, rfl, rfl, rfl⟩
             refine L.mv Wt.no rfl rfl (L.cut 4 (fun e w => ∃ (v81 : Bool), ((b77 && (r65.1 == 1)) && ((r68.1.length : Int) == 0)) = v81 ∧ e = (118, .bool v81) :: [] ∧ w = s79.w) ?_ ?_)
             ·rintro _ _ ⟨v81, rfl, rfl, rfl⟩
              refine L.as Wt.no rfl rfl (L.nil (X.seqN (E.ret ?_)))
              obtain rfl := Option.some.inj hm
              exact X.rt (.inl rfl) Try.results11 (Rs.tmp rfl Rs.nil) rfl ⟨_, (s79).ren N (fun _ => 0), rfl, rfl, m0.ren hNb, rfl⟩
             ·intro J82
              rcases Bool.eq_false_or_eq_true (b77 && (r65.1 == 1)) with hc | hc
              ·exact L.know (d := 114) rfl hc (L.mv (Wt.mk rfl rfl) rfl rfl (L.len sl23 (Wt.mk rfl rfl) rfl rfl (L.bi (Wt.mk rfl rfl) rfl rfl rfl rfl (L.pkT Wt.no rfl rfl rfl rfl (L.sb (J82 _ _ ⟨((r68.1.length : Int) == 0), (andT hc).symm, rfl, rfl⟩) rfl)))))
              ·exact L.know (d := 114) rfl hc (L.skip rfl rfl rfl rfl (L.skip rfl rfl rfl rfl (L.skip rfl rfl rfl rfl (L.pkF Wt.no rfl rfl rfl rfl (L.sb (J82 _ _ ⟨false, (andF hc).symm, rfl, rfl⟩) rfl)))))
            ·intro J83
             rcases Bool.eq_false_or_eq_true b77 with hc | hc
             ·exact L.know (d := 110) rfl hc (L.mv (Wt.mk rfl rfl) rfl rfl (L.bi (Wt.mk rfl rfl) rfl rfl rfl rfl (L.pkT Wt.no rfl rfl rfl rfl (L.sb (J83 _ _ ⟨(r65.1 == 1), (andT hc).symm, rfl, rfl⟩) rfl))))
             ·exact L.know (d := 110) rfl hc (L.skip rfl rfl rfl rfl (L.skip rfl rfl rfl rfl (L.pkF Wt.no rfl rfl rfl rfl (L.sb (J83 _ _ ⟨false, (andF hc).symm, rfl, rfl⟩) rfl))))
           ·intro J84
            rcases ifS eb77 with ⟨hc, hm⟩ | ⟨hc, hm⟩
            ·refine L.know (d := 105) rfl hc (L.mv (Wt.mk rfl rfl) rfl rfl (L.bsE (k := 1) (cs := [.int .i64 3]) 0 bs23 (Nat.le_of_ble_eq_true rfl) (Wt.mk rfl rfl) rfl rfl rfl rfl fun b85 s86 m87 bx85 => ?_))
             replace m0 := m0.trans m87.no
             replace h51 := h51.mono (m87.le no_No)
             replace h71 := h71.mono (m87.le no_No)
             have h85 := Bx.rdL (r := (rK .i64)) (xs := ([3] : List Int)) bx85 ⟨[.int .i64 3], _, rfl, rfl, rfl⟩ (Nat.le_of_ble_eq_true rfl)
             obtain ⟨r88, er88, hm⟩ := bindS hm
             refine L.ca cf20 rfl rfl (Wt.mk rfl rfl) rfl (m_slices_Equal_int_c (s := s86) (p0 := r48.1) (p1 := ([3] : List Int)) h51 h85 er88) rfl ?_
             rintro _ s89 m90 rfl
             replace m0 := m0.trans m90.no
             replace h71 := h71.mono (m90.le no_No)
             exact L.pkT Wt.no rfl rfl rfl rfl (L.sb (J84 _ _ ⟨s89, r88, (Option.some.inj hm).symm, m0, h71, rfl, rfl⟩) rfl)
            ·exact L.know (d := 105) rfl hc (L.skip rfl rfl rfl rfl (L.skip rfl rfl rfl rfl (L.skip rfl rfl rfl rfl (L.pkF Wt.no rfl rfl rfl rfl (L.sb (J84 _ _ ⟨s69, false, (Option.some.inj hm).symm, m0, h71, rfl, rfl⟩) rfl)))))
          ·intro J91
           rcases Bool.eq_false_or_eq_true (((((r28.2 == 0) && (r38.2 == 0)) && (r48.2 == 0)) && (r55.2 == 0)) && (r65.2 == 0)) with hc | hc
           ·exact L.know (d := 101) rfl hc (L.mv (Wt.mk rfl rfl) rfl rfl (L.bi (Wt.mk rfl rfl) rfl rfl rfl rfl (L.pkT Wt.no rfl rfl rfl rfl (L.sb (J91 _ _ ⟨(r68.2 == 0), (andT hc).symm, rfl, rfl⟩) rfl))))
           ·exact L.know (d := 101) rfl hc (L.skip rfl rfl rfl rfl (L.skip rfl rfl rfl rfl (L.pkF Wt.no rfl rfl rfl rfl (L.sb (J91 _ _ ⟨false, (andF hc).symm, rfl, rfl⟩) rfl))))
         ·intro J92
          rcases Bool.eq_false_or_eq_true ((((r28.2 == 0) && (r38.2 == 0)) && (r48.2 == 0)) && (r55.2 == 0)) with hc | hc
          ·exact L.know (d := 97) rfl hc (L.mv (Wt.mk rfl rfl) rfl rfl (L.bi (Wt.mk rfl rfl) rfl rfl rfl rfl (L.pkT Wt.no rfl rfl rfl rfl (L.sb (J92 _ _ ⟨(r65.2 == 0), (andT hc).symm, rfl, rfl⟩) rfl))))
          ·exact L.know (d := 97) rfl hc (L.skip rfl rfl rfl rfl (L.skip rfl rfl rfl rfl (L.pkF Wt.no rfl rfl rfl rfl (L.sb (J92 _ _ ⟨false, (andF hc).symm, rfl, rfl⟩) rfl))))
        ·intro J93
         rcases Bool.eq_false_or_eq_true (((r28.2 == 0) && (r38.2 == 0)) && (r48.2 == 0)) with hc | hc
         ·exact L.know (d := 93) rfl hc (L.mv (Wt.mk rfl rfl) rfl rfl (L.bi (Wt.mk rfl rfl) rfl rfl rfl rfl (L.pkT Wt.no rfl rfl rfl rfl (L.sb (J93 _ _ ⟨(r55.2 == 0), (andT hc).symm, rfl, rfl⟩) rfl))))
         ·exact L.know (d := 93) rfl hc (L.skip rfl rfl rfl rfl (L.skip rfl rfl rfl rfl (L.pkF Wt.no rfl rfl rfl rfl (L.sb (J93 _ _ ⟨false, (andF hc).symm, rfl, rfl⟩) rfl))))
       ·intro J94
        rcases Bool.eq_false_or_eq_true ((r28.2 == 0) && (r38.2 == 0)) with hc | hc
        ·exact L.know (d := 89) rfl hc (L.mv (Wt.mk rfl rfl) rfl rfl (L.bi (Wt.mk rfl rfl) rfl rfl rfl rfl (L.pkT Wt.no rfl rfl rfl rfl (L.sb (J94 _ _ ⟨(r48.2 == 0), (andT hc).symm, rfl, rfl⟩) rfl))))
        ·exact L.know (d := 89) rfl hc (L.skip rfl rfl rfl rfl (L.skip rfl rfl rfl rfl (L.pkF Wt.no rfl rfl rfl rfl (L.sb (J94 _ _ ⟨false, (andF hc).symm, rfl, rfl⟩) rfl))))
      ·intro J95
       rcases Bool.eq_false_or_eq_true (r28.2 == 0) with hc | hc
       ·exact L.know (d := 85) rfl hc (L.mv (Wt.mk rfl rfl) rfl rfl (L.bi (Wt.mk rfl rfl) rfl rfl rfl rfl (L.pkT Wt.no rfl rfl rfl rfl (L.sb (J95 _ _ ⟨(r38.2 == 0), (andT hc).symm, rfl, rfl⟩) rfl))))
       ·exact L.know (d := 85) rfl hc (L.skip rfl rfl rfl rfl (L.skip rfl rfl rfl rfl (L.pkF Wt.no rfl rfl rfl rfl (L.sb (J95 _ _ ⟨false, (andF hc).symm, rfl, rfl⟩) rfl))))
    ·intro J96
     rcases ifS eb25 with ⟨hc, hm⟩ | ⟨hc, hm⟩
     ·exact L.know (d := 40) rfl hc (L.skip rfl rfl rfl rfl (L.skip rfl rfl rfl rfl (L.skip rfl rfl rfl rfl (L.skip rfl rfl rfl rfl (L.pkT Wt.no rfl rfl rfl rfl (L.sb (J96 _ _ ⟨s20, true, (Option.some.inj hm).symm, m0, h13, h14, h15, h16, bx17, rfl, rfl⟩) rfl))))))
     ·refine L.know (d := 40) rfl hc (L.fa fa34_0 (Wt.mk rfl rfl) rfl rfl (L.lg (j := 0) (cs := [.int .i64 r10.1.1.1, .int .i64 r10.1.1.2.1, .int .i64 r10.1.1.2.2.1, .slice a13 r10.1.1.2.2.2.1.length c13, .slice a14 r10.1.1.2.2.2.2.length c14]) bx17.mem ag32 (Wt.mk rfl rfl) rfl rfl rfl rfl rfl ?_))
      obtain ⟨r97, er97, hm⟩ := bindS hm
      refine L.ca cf26 rfl rfl (Wt.mk rfl rfl) rfl (m_instruction_Check_c (s := s20) (p0 := r10.1.1) h13 h14 er97) rfl ?_
      rintro _ s98 m99 rfl
      replace m0 := m0.trans m99.no
      replace bx17 := bx17.mv m99 no_No
      replace h13 := h13.mono (m99.le no_No)
      replace h14 := h14.mono (m99.le no_No)
      replace h15 := h15.mono (m99.le no_No)
      replace h16 := h16.mono (m99.le no_No)
      exact L.bi (Wt.mk rfl rfl) rfl rfl rfl rfl (L.pkF Wt.no rfl rfl rfl rfl (L.sb (J96 _ _ ⟨s98, (r97 != 0), (Option.some.inj hm).symm, m0, h13, h14, h15, h16, bx17, rfl, rfl⟩) rfl))
   ·intro J100
    rcases Bool.eq_false_or_eq_true (((r10.2 != 0) || (r10.1.1.1 != 2)) || (r10.1.1.2.1 != 2)) with hc | hc
    ·exact L.know (d := 35) rfl hc (L.skip rfl rfl rfl rfl (L.skip rfl rfl rfl rfl (L.skip rfl rfl rfl rfl (L.pkT Wt.no rfl rfl rfl rfl (L.sb (J100 _ _ ⟨true, (orT hc).symm, rfl, rfl⟩) rfl)))))
    ·exact L.know (d := 35) rfl hc (L.fa fa34_3 (Wt.mk rfl rfl) rfl rfl (L.ld (j := 7) bx17.mem nag3 (Wt.mk rfl rfl) rfl rfl rfl rfl (L.bi (Wt.mk rfl rfl) rfl rfl rfl rfl (L.pkF Wt.no rfl rfl rfl rfl (L.sb (J100 _ _ ⟨(r10.1.2.2.2 != 2), (orF hc).symm, rfl, rfl⟩) rfl)))))
  ·intro J101
   rcases Bool.eq_false_or_eq_true ((r10.2 != 0) || (r10.1.1.1 != 2)) with hc | hc
   ·exact L.know (d := 29) rfl hc (L.skip rfl rfl rfl rfl (L.skip rfl rfl rfl rfl (L.skip rfl rfl rfl rfl (L.skip rfl rfl rfl rfl (L.pkT Wt.no rfl rfl rfl rfl (L.sb (J101 _ _ ⟨true, (orT hc).symm, rfl, rfl⟩) rfl))))))
   ·exact L.know (d := 29) rfl hc (L.fa fa34_0 (Wt.mk rfl rfl) rfl rfl (L.fa fa32_1 (Wt.mk rfl rfl) rfl rfl (L.ld (j := 1) bx17.mem nag3 (Wt.mk rfl rfl) rfl rfl rfl rfl (L.bi (Wt.mk rfl rfl) rfl rfl rfl rfl (L.pkF Wt.no rfl rfl rfl rfl (L.sb (J101 _ _ ⟨(r10.1.1.2.1 != 2), (orF hc).symm, rfl, rfl⟩) rfl))))))
 ·intro J102
  rcases Bool.eq_false_or_eq_true (r10.2 != 0) with hc | hc
  ·exact L.know (d := 23) rfl hc (L.skip rfl rfl rfl rfl (L.skip rfl rfl rfl rfl (L.skip rfl rfl rfl rfl (L.skip rfl rfl rfl rfl (L.pkT Wt.no rfl rfl rfl rfl (L.sb (J102 _ _ ⟨true, (orT hc).symm, rfl, rfl⟩) rfl))))))
  ·exact L.know (d := 23) rfl hc (L.fa fa34_0 (Wt.mk rfl rfl) rfl rfl (L.fa fa32_0 (Wt.mk rfl rfl) rfl rfl (L.ld (j := 0) bx17.mem nag3 (Wt.mk rfl rfl) rfl rfl rfl rfl (L.bi (Wt.mk rfl rfl) rfl rfl rfl rfl (L.pkF Wt.no rfl rfl rfl rfl (L.sb (J102 _ _ ⟨(r10.1.1.1 != 2), (orF hc).symm, rfl, rfl⟩) rfl))))))

end Go.Proofs.Ytkkemchihllklaa

namespace Go.Proofs.Ytkkemchihllklaa
open Go Go.RowKit

/-- A program as the printed functions have it. -/
def prgP (m c n : Nat) (start : List Bool) (L : List Ins) : Int × Int × Int × List Bool × List (Int × Int) := ((m : Int), (c : Int), (n : Int), start, L.map insP)
/-- What a store puts. -/
def stB (op : Int) (acc v : Bool) : Bool := if op = 7 then acc else if op = 8 then !acc else if op = 9 then v || acc else v && !acc
theorem insBits_st {op : Int} (h1 : 7 ≤ op) (h2 : op ≤ 10) (k : Int) (acc : Bool) (b : List Bool) : insBits ⟨op, k⟩ acc b = b.set k.toNat (stB op acc (b.getD k.toNat false)) := by
  have hc : op = 7 ∨ op = 8 ∨ op = 9 ∨ op = 10 := by omega
  rcases hc with rfl | rfl | rfl | rfl <;> rfl
/-- What the table of the operations says. -/
theorem ops_at {op : Int} (h1 : 1 ≤ op) (h2 : op ≤ 13) : ∃ T e, m_instruction_operations = some T ∧ T.length = 13 ∧ idx T (W (op - 1)) = some e ∧
    ((op ≤ 6 ∧ e.2.2.2.1 = none ∧ e.2.2.2.2 = none ∧ ∃ f, e.2.2.1 = some f ∧ ∀ acc v k, f acc v = some (insAcc ⟨op, k⟩ acc v)) ∨
     (7 ≤ op ∧ op ≤ 10 ∧ e.2.2.1 = none ∧ e.2.2.2.2 = none ∧ ∃ f, e.2.2.2.1 = some f ∧ ∀ acc v, f acc v = some (stB op acc v)) ∨
     (11 ≤ op ∧ e.2.2.1 = none ∧ e.2.2.2.1 = none ∧ ∃ f, e.2.2.2.2 = some f ∧ ∀ acc, f acc = some (if op = 11 then true else if op = 12 then acc else !acc))) := by
  have hc : op = 1 ∨ op = 2 ∨ op = 3 ∨ op = 4 ∨ op = 5 ∨ op = 6 ∨ op = 7 ∨ op = 8 ∨ op = 9 ∨ op = 10 ∨ op = 11 ∨ op = 12 ∨ op = 13 := by omega
  rcases hc with rfl | rfl | rfl | rfl | rfl | rfl | rfl | rfl | rfl | rfl | rfl | rfl | rfl
  all_goals refine ⟨_, _, rfl, rfl, rfl, ?_⟩
  · exact .inl ⟨by decide, rfl, rfl, _, rfl, fun _ _ _ => rfl⟩
  · exact .inl ⟨by decide, rfl, rfl, _, rfl, fun _ _ _ => rfl⟩
  · exact .inl ⟨by decide, rfl, rfl, _, rfl, fun _ _ _ => rfl⟩
  · exact .inl ⟨by decide, rfl, rfl, _, rfl, fun _ _ _ => rfl⟩
  · exact .inl ⟨by decide, rfl, rfl, _, rfl, fun _ _ _ => rfl⟩
  · exact .inl ⟨by decide, rfl, rfl, _, rfl, fun _ _ _ => rfl⟩
  · exact .inr (.inl ⟨by decide, by decide, rfl, rfl, _, rfl, fun _ _ => rfl⟩)
  · exact .inr (.inl ⟨by decide, by decide, rfl, rfl, _, rfl, fun _ _ => rfl⟩)
  · exact .inr (.inl ⟨by decide, by decide, rfl, rfl, _, rfl, fun _ _ => rfl⟩)
  · exact .inr (.inl ⟨by decide, by decide, rfl, rfl, _, rfl, fun _ _ => rfl⟩)
  · exact .inr (.inr ⟨by decide, rfl, rfl, _, rfl, fun _ => rfl⟩)
  · exact .inr (.inr ⟨by decide, rfl, rfl, _, rfl, fun _ => rfl⟩)
  · exact .inr (.inr ⟨by decide, rfl, rfl, _, rfl, fun _ => rfl⟩)
/-- A valid program. -/
structure PrgIn (m c n : Nat) (start : List Bool) (L : List Ins) : Prop where
  hm : m ≤ 256
  hc : c ≤ 256
  hn : n ≤ 256
  st : start.length = n
  len : L.length ≤ 2048
  ok : ∀ (i : Nat) (x : Ins), L[i]? = some x → InsOk L.length (m + c + n) m i x
section
variable {m c n : Nat} {start : List Bool} {L : List Ins}
theorem head_eq (h : PrgIn m c n start L) : m_instruction_checkHead (prgP m c n start L) = some 0 := by
  have h1 := h.hm; have h2 := h.hc; have h3 := h.hn; have h4 := h.st; have h5 := h.len
  have hi : iter (m_instruction_checkHead_l1 (prgP m c n start L)) 0 = some (.inl ()) := by
    refine iter_run (f := m_instruction_checkHead_l1 (prgP m c n start L)) (fun k => (k : Int)) 3 (by omega) (fun k hk => ?_) ?_
    · rw [m_instruction_checkHead_l1, if_pos (by simp; omega)]
      have hx : ∃ x : Nat, idx ([(prgP m c n start L).1, (prgP m c n start L).2.1, (prgP m c n start L).2.2.1] : List Int) (k : Int) = some (x : Int) ∧ x ≤ 256 := by
        have : k = 0 ∨ k = 1 ∨ k = 2 := by omega
        rcases this with rfl | rfl | rfl
        · exact ⟨m, rfl, h1⟩
        · exact ⟨c, rfl, h2⟩
        · exact ⟨n, rfl, h3⟩
      obtain ⟨x, hx, hle⟩ := hx
      rw [hx, Option.bind_some, if_neg (by simp only [Bool.or_eq_true, decide_eq_true_eq]; omega), show (k : Int) + 1 = ((k + 1 : Nat) : Int) by omega, W_nat (by omega)]
    · rfl
  rw [m_instruction_checkHead, hi, Option.bind_some]
  dsimp only
  rw [if_neg (by simp [prgP, h4]), if_neg (by simp [prgP]; omega)]
theorem width_eq (h : PrgIn m c n start L) : m_instruction_width (prgP m c n start L) = some ((m + c + n : Nat) : Int) := by
  have h1 := h.hm; have h2 := h.hc; have h3 := h.hn
  rw [m_instruction_width]
  dsimp only [prgP]
  rw [W_of (x := (m : Int) + c) (by omega) (by omega), W_of (by omega) (by omega)]
  simp
theorem ins_eq (h : PrgIn m c n start L) {i : Nat} (hi : i < L.length) : m_instruction_checkInstruction (prgP m c n start L) (i : Int) = some 0 := by
  have hk := h.ok i L[i] (List.getElem?_eq_getElem hi)
  obtain ⟨T, e, hT, hl, he, hcase⟩ := ops_at hk.op.1 hk.op.2
  have hat : idx (prgP m c n start L).2.2.2.2 (i : Int) = some (insP L[i]) := by
    rw [idx_at (by simpa [prgP] using hi)]; simp [prgP]
  have hop := hk.op
  rw [m_instruction_checkInstruction, hat, Option.bind_some, hT, Option.bind_some, if_neg (by rw [hl]; simp only [Bool.or_eq_true, decide_eq_true_eq]; show ¬ (L[i].op < 1 ∨ L[i].op > ((13 : Nat) : Int)); omega),
    show idx T (W ((insP L[i]).1 - 1)) = some e from he, Option.bind_some]
  have hw := width_eq h
  have hj : ∀ b : Bool, m_instruction_checkInstruction_j1 (prgP m c n start L) (insP L[i]) e b = if b then some 2 else if (e.2.2.2.1.isSome && decide (L[i].arg < (m : Int))) then some 19 else some 0 := fun b => rfl
  have hbit : e.2.2.2.2 = none → L[i].op ≤ 10 → (e.2.2.2.1.isSome = true → 7 ≤ L[i].op) → (if e.2.2.2.2.isSome = true then (if ((decide ((insP L[i]).2 ≤ (i : Int))) || (decide ((insP L[i]).2 > ((prgP m c n start L).2.2.2.2.length : Int)))) = true then some 2 else some 0) else if decide ((insP L[i]).2 < 0) = true then m_instruction_checkInstruction_j1 (prgP m c n start L) (insP L[i]) e true else (m_instruction_width (prgP m c n start L)).bind fun r51 => m_instruction_checkInstruction_j1 (prgP m c n start L) (insP L[i]) e (decide ((insP L[i]).2 ≥ r51))) = some 0 := by
    intro h1 h2 h3
    have hb := hk.bit h2
    rw [if_neg (by rw [h1]; simp), if_neg (show ¬ decide ((insP L[i]).2 < 0) = true by rw [decide_eq_true_eq]; show ¬ L[i].arg < 0; omega), hw, Option.bind_some, hj, if_neg (show ¬ decide ((insP L[i]).2 ≥ ((m + c + n : Nat) : Int)) = true by rw [decide_eq_true_eq]; show ¬ L[i].arg ≥ _; omega)]
    rw [if_neg]
    rw [Bool.and_eq_true, decide_eq_true_eq]
    rintro ⟨h4, h5⟩
    have := hk.store (h3 h4) h2
    omega
  rcases hcase with ⟨h1, h2, h3, _⟩ | ⟨h1, h2, h3, h4, _⟩ | ⟨h1, h2, h3, f, h4, _⟩
  · exact hbit h3 (by omega) (fun h => by rw [h2] at h; cases h)
  · exact hbit h4 h2 (fun _ => h1)
  · have hb := hk.jump h1
    have hlen : (prgP m c n start L).2.2.2.2.length = L.length := by simp [prgP]
    rw [if_pos (by rw [h4]; rfl), if_neg]
    rw [hlen]
    simp only [Bool.or_eq_true, decide_eq_true_eq]
    show ¬ (L[i].arg ≤ (i : Int) ∨ L[i].arg > (L.length : Int))
    omega
theorem pcheck_eq (h : PrgIn m c n start L) : m_instruction_Check (prgP m c n start L) = some 0 := by
  have h5 := h.len
  have hlen : (prgP m c n start L).2.2.2.2.length = L.length := by simp [prgP]
  have hi : iter (m_instruction_Check_l1 (prgP m c n start L)) 0 = some (.inl ()) := by
    refine iter_run (f := m_instruction_Check_l1 (prgP m c n start L)) (fun k => (k : Int)) L.length (by omega) (fun k hk => ?_) ?_
    · rw [m_instruction_Check_l1, if_pos (by rw [hlen]; simp; omega), ins_eq h hk, Option.bind_some, if_neg (by simp), show (k : Int) + 1 = ((k + 1 : Nat) : Int) by omega, W_nat (by omega)]
    · rw [m_instruction_Check_l1, if_neg (by rw [hlen]; simp)]
  rw [m_instruction_Check, head_eq h, Option.bind_some, if_neg (by simp), hi]
  rfl
theorem start_eq (h : PrgIn m c n start L) : m_instruction_Start (prgP m c n start L) = some ((List.replicate c false, start), 0) := by
  have h2 := h.hc; have h3 := h.hn; have h4 := h.st
  rw [m_instruction_Start, pcheck_eq h, Option.bind_some, if_neg (by simp)]
  dsimp only [prgP]
  rw [mkL_eq (by omega) (by omega), Option.bind_some, app_eq (by simp; omega), Option.bind_some]
  simp
end
end Go.Proofs.Ytkkemchihllklaa

namespace Go.Proofs.Ytkkemchihllklaa
open Go Go.RowKit

theorem idx_hd {α : Type} (a : α) (us : List α) : idx (a :: us) 0 = some a := rfl
theorem slc_tl {α : Type} (a : α) (us : List α) : slc (a :: us) 1 ((a :: us).length : Int) = some us := by
  rw [slc, if_pos ⟨by omega, by simp; omega, by omega⟩]
  simp
theorem merge_go : ∀ (f : Nat) (us vs out : List Int), us.length + vs.length ≤ f → out.length + us.length ≤ 4294967296 → iterF (m_alphabet_merge_l1 m_alphabet_Minus_1) (f + 1) (out, us, vs) = some (minusL f us vs out) := by
  intro f
  induction f with
  | zero =>
    intro us vs out h _
    have h1 : us = [] := List.eq_nil_of_length_eq_zero (by omega)
    have h2 : vs = [] := List.eq_nil_of_length_eq_zero (by omega)
    subst h1; subst h2
    rfl
  | succ f ih =>
    intro us vs out h ho
    rw [iterF_succ]
    cases us with
    | nil =>
      cases vs with
      | nil => rfl
      | cons b vs =>
        have e : m_alphabet_merge_l1 m_alphabet_Minus_1 (out, [], b :: vs) = some (.inl (out, [], vs)) := by
          rw [m_alphabet_merge_l1]
          dsimp only
          rw [if_pos (by simp), if_neg (by simp), m_alphabet_merge_j1]
          dsimp only
          rw [if_pos (by simp), if_pos (by simp), m_alphabet_merge_j2, if_neg (by simp), m_alphabet_merge_j3, if_pos rfl]
          dsimp only
          rw [idx_hd, Option.bind_some, slc_tl, Option.bind_some]
          rfl
        rw [e]
        exact ih [] vs out (by simp at h ⊢; omega) ho
    | cons a us =>
      rw [List.length_cons] at h ho
      have ho' : app out ([a] : List Int) = some (out ++ [a]) := app_eq (by simp; omega)
      cases vs with
      | nil =>
        have e : m_alphabet_merge_l1 m_alphabet_Minus_1 (out, a :: us, []) = some (.inl (out ++ [a], us, [])) := by
          rw [m_alphabet_merge_l1]
          dsimp only
          rw [if_pos (by simp), if_pos (by simp), if_pos (by simp), m_alphabet_merge_j1]
          dsimp only
          rw [if_neg (by simp), m_alphabet_merge_j2, if_pos rfl]
          dsimp only
          rw [idx_hd, Option.bind_some, slc_tl, Option.bind_some, m_alphabet_merge_j3, if_neg (by simp), m_alphabet_merge_j4, show m_alphabet_Minus_1 true false = some true from rfl, Option.bind_some, if_pos rfl]
          dsimp only
          rw [ho', Option.bind_some]
        rw [e]
        exact ih us [] (out ++ [a]) (by simp at h ⊢; omega) (by simp; omega)
      | cons b vs =>
        rw [List.length_cons] at h
        have e0 : m_alphabet_merge_l1 m_alphabet_Minus_1 (out, a :: us, b :: vs) = m_alphabet_merge_j2 m_alphabet_Minus_1 (out, a :: us, b :: vs) (decide (a ≤ b)) (decide (b ≤ a)) := by
          rw [m_alphabet_merge_l1]
          dsimp only
          rw [if_pos (by simp), if_pos (by simp), if_neg (by simp; omega), idx_hd, Option.bind_some, idx_hd, Option.bind_some, m_alphabet_merge_j1]
          dsimp only
          rw [if_pos (by simp), if_neg (by simp; omega), idx_hd, Option.bind_some, idx_hd, Option.bind_some]
        rw [e0, minusL, m_alphabet_merge_j2]
        dsimp only
        by_cases h1 : a < b
        · rw [if_pos (show decide (a ≤ b) = true by simp; omega), idx_hd, Option.bind_some, slc_tl, Option.bind_some, m_alphabet_merge_j3, if_neg (by simp; omega), m_alphabet_merge_j4, show decide (a ≤ b) = true by simp; omega, show decide (b ≤ a) = false by simp; omega,
            show m_alphabet_Minus_1 true false = some true from rfl, Option.bind_some, if_pos rfl, if_pos h1]
          dsimp only
          rw [ho', Option.bind_some]
          exact ih us (b :: vs) (out ++ [a]) (by simp; omega) (by simp; omega)
        · rw [if_neg h1]
          by_cases h2 : b < a
          · rw [if_neg (show ¬ decide (a ≤ b) = true by simp; omega), m_alphabet_merge_j3, if_pos (show decide (b ≤ a) = true by simp; omega)]
            dsimp only
            rw [idx_hd, Option.bind_some, slc_tl, Option.bind_some, m_alphabet_merge_j4, show decide (a ≤ b) = false by simp; omega, show decide (b ≤ a) = true by simp; omega,
              show m_alphabet_Minus_1 false true = some false from rfl, Option.bind_some, if_neg (by simp), if_pos h2]
            exact ih (a :: us) vs out (by simp; omega) (by simp; omega)
          · rw [if_pos (show decide (a ≤ b) = true by simp; omega), idx_hd, Option.bind_some, slc_tl, Option.bind_some, m_alphabet_merge_j3, if_pos (show decide (b ≤ a) = true by simp; omega)]
            dsimp only
            rw [idx_hd, Option.bind_some, slc_tl, Option.bind_some, m_alphabet_merge_j4, show decide (a ≤ b) = true by simp; omega, show decide (b ≤ a) = true by simp; omega,
              show m_alphabet_Minus_1 true true = some false from rfl, Option.bind_some, if_neg (by simp), if_neg h2]
            exact ih us vs out (by omega) (by omega)
/-- What a set has and another has not. -/
theorem minus_eq {us vs : List Int} (hu : us.length ≤ 4294967296) (hv : vs.length ≤ 4294967296) : m_alphabet_Minus us vs = some (minusL (us.length + vs.length) us vs []) := by
  have h : iter (m_alphabet_merge_l1 m_alphabet_Minus_1) (([] : List Int), us, vs) = some (minusL (us.length + vs.length) us vs []) := iter_of (by omega) (merge_go _ us vs [] (Nat.le_refl _) (by simpa using hu))
  rw [m_alphabet_Minus, m_alphabet_merge, h]
  rfl
theorem subset_eq {us vs : List Int} (hu : us.length ≤ 4294967296) (hv : vs.length ≤ 4294967296) (iu : Inc us) (iv : Inc vs) : m_alphabet_Subset us vs = some (subB us vs) := by
  rw [m_alphabet_Subset, minus_eq hu hv, Option.bind_some]
  have h := minus_nil iu iv
  cases hb : subB us vs with
  | true => rw [h.2 hb]; rfl
  | false =>
    have hn : minusL (us.length + vs.length) us vs [] ≠ [] := fun e => by rw [h.1 e] at hb; cases hb
    have : (minusL (us.length + vs.length) us vs []).length ≠ 0 := fun e => hn (List.eq_nil_of_length_eq_zero e)
    rw [show (((minusL (us.length + vs.length) us vs []).length : Int) == 0) = false from by simpa using hn]
theorem half_eq {i j : Nat} (h : i + j < 9223372036854775808) : W ((IntKind.u64.wrap (W ((i : Int) + (j : Int)))).fdiv (2 ^ (min (1 : Int).toNat 64))) = (((i + j) / 2 : Nat) : Int) := by
  rw [W_of (x := (i : Int) + j) (by omega) (by omega), IntWalk.u64_in _ (by omega), show (2 : Int) ^ (min (1 : Int).toNat 64) = 2 from rfl, Int.fdiv_eq_ediv_of_nonneg _ (by omega), W_of (by omega) (by omega)]
  omega
theorem less_eq (x y : Int) : m_cmp_Less_int x y = some (decide (x < y)) := by
  rw [m_cmp_Less_int, show m_cmp_isNaN_int x = some false by rw [m_cmp_isNaN_int]; simp, Option.bind_some, if_neg (by simp), Option.bind_some, Bool.false_or]
theorem bin_go {xs : List Int} {t : Int} (hl : xs.length < 4294967296) (hs : Inc xs) : ∀ (f i j : Nat), j ≤ i + f → i ≤ j → j ≤ xs.length → (∀ k (h : k < xs.length), k < i → xs[k] < t) → (∀ k (h : k < xs.length), j ≤ k → t ≤ xs[k]) →
    ∃ p : Nat, iterF (m_slices_BinarySearch_int_l1 xs t) (f + 1) ((j : Int), (i : Int)) = some (p : Int) ∧ p ≤ xs.length ∧ (∀ k (h : k < xs.length), k < p → xs[k] < t) ∧ (∀ k (h : k < xs.length), p ≤ k → t ≤ xs[k]) := by
  intro f
  induction f with
  | zero =>
    intro i j h1 h2 h3 h4 h5
    refine ⟨i, ?_, by omega, h4, fun k h hk => h5 k h (by omega)⟩
    rw [iterF_succ, m_slices_BinarySearch_int_l1, if_neg (by simp; omega)]
  | succ f ih =>
    intro i j h1 h2 h3 h4 h5
    rw [iterF_succ, m_slices_BinarySearch_int_l1]
    dsimp only
    by_cases hij : i < j
    · have hm : (i + j) / 2 < xs.length := by omega
      rw [if_pos (by simp; omega), half_eq (by omega), idx_at hm, Option.bind_some, less_eq, Option.bind_some]
      have mono : ∀ (a b : Nat) (ha : a < xs.length) (hb : b < xs.length), a ≤ b → xs[a] ≤ xs[b] := fun a b ha hb hab => by
        rcases Nat.lt_or_ge a b with h | h
        · exact Int.le_of_lt (List.pairwise_iff_getElem.1 hs a b ha hb h)
        · have : a = b := by omega
          subst this
          exact Int.le_refl _
      by_cases hc : xs[(i + j) / 2] < t
      · rw [if_pos (decide_eq_true hc), show (((i + j) / 2 : Nat) : Int) + 1 = (((i + j) / 2 + 1 : Nat) : Int) by omega, W_nat (by omega)]
        exact ih _ j (by omega) (by omega) h3 (fun k h hk => by have := mono k _ h hm (by omega); omega) h5
      · rw [if_neg (by simpa using hc)]
        exact ih i _ (by omega) (by omega) (by omega) h4 (fun k h hk => by have := mono _ k hm h hk; omega)
    · rw [if_neg (by simp; omega)]
      exact ⟨i, rfl, by omega, h4, fun k h hk => h5 k h (by omega)⟩
/-- Whether a sorted set holds a word. -/
theorem containsA_eq {xs : List Int} {t : Int} (hl : xs.length < 4294967296) (hs : Inc xs) : m_alphabet_Contains xs t = some (hasB xs t) := by
  obtain ⟨p, hp, hle, hlo, hhi⟩ := bin_go (t := t) hl hs xs.length 0 xs.length (by omega) (by omega) (by omega) (fun k h hk => absurd hk (by omega)) (fun k h hk => absurd hk (by omega))
  have hi : iter (m_slices_BinarySearch_int_l1 xs t) ((xs.length : Int), 0) = some (p : Int) := iter_of (by omega) hp
  rw [m_alphabet_Contains, m_slices_BinarySearch_int, hi, Option.bind_some]
  by_cases hlt : p < xs.length
  · rw [if_pos (by simpa using hlt), idx_at hlt, Option.bind_some]
    by_cases he : xs[p] = t
    · rw [if_pos (by simpa using he)]
      show some true = _
      rw [hasB_true.2 (he ▸ List.getElem_mem hlt)]
    · rw [if_neg (by simpa using he), Option.bind_some, show m_slices_isNaN_int xs[p] = some false by rw [m_slices_isNaN_int]; simp, Option.bind_some, if_neg (by simp)]
      show some false = _
      rw [hasB_false.2]
      intro hm
      obtain ⟨k, hk, hk2⟩ := List.getElem_of_mem hm
      rcases Nat.lt_trichotomy k p with h | h | h
      · have := hlo k hk h; omega
      · subst h; exact he hk2
      · have := hhi p hlt (Nat.le_refl _)
        have := List.pairwise_iff_getElem.1 hs p k hlt hk h
        omega
  · rw [if_neg (by simpa using hlt)]
    show some false = _
    rw [hasB_false.2]
    intro hm
    obtain ⟨k, hk, hk2⟩ := List.getElem_of_mem hm
    have := hlo k hk (by omega)
    omega
/-- A set within another. -/
theorem among_eq {us al : List Int} (hu : us.length < 4294967296) (ha : al.length < 4294967296) (iu : Inc us) (ia : Inc al) (he : setErr 32 none us = 0) (hs : subB us al = true) : m_generate_among us al = some 0 := by
  rw [m_generate_among, checkSet2_eq (by omega), he, Option.bind_some, if_neg (by simp), subset_eq (by omega) (by omega) iu ia, hs, Option.bind_some]
  rfl
end Go.Proofs.Ytkkemchihllklaa

namespace Go.Proofs.Ytkkemchihllklaa
open Go Go.RowKit

theorem fill_set {ys : List Bool} {k : Nat} (h : k < ys.length) : (ys.take k ++ List.replicate (ys.length - k) false).set k ys[k] = ys.take (k + 1) ++ List.replicate (ys.length - (k + 1)) false := by
  have hl : (ys.take k).length = k := by simp; omega
  rw [List.set_append_right _ _ (by omega), hl, Nat.sub_self, show ys.length - k = (ys.length - (k + 1)) + 1 by omega, List.replicate_succ, List.set_cons_zero, List.take_succ_eq_append_getElem h, List.append_assoc]
  rfl
theorem inputs_eq {p : Int × Int × Int × List Bool × List (Int × Int)} {al ctrl ev : List Int} {n : Int} (ha : al.length < 4294967296) (he : ev.length < 4294967296) (ia : Inc al) (ie : Inc ev) (hs : setErr 32 none ev = 0) (hb : subB ev al = true) :
    m_generate_Inputs (p, al, ctrl, n) ev = some (al.map (hasB ev), 0) := by
  have hi : iter (m_generate_Inputs_l1 (p, al, ctrl, n) ev) (0, List.replicate al.length false) = some (al.map (hasB ev)) := by
    have hml : (al.map (hasB ev)).length = al.length := List.length_map ..
    have e0 : ((0 : Int), List.replicate al.length false) = (fun k : Nat => ((k : Int), (al.map (hasB ev)).take k ++ List.replicate ((al.map (hasB ev)).length - k) false)) 0 := by simp
    refine Eq.trans (congrArg _ e0) (iter_run (f := m_generate_Inputs_l1 (p, al, ctrl, n) ev) (fun k : Nat => ((k : Int), (al.map (hasB ev)).take k ++ List.replicate ((al.map (hasB ev)).length - k) false)) al.length (by omega) (fun k hk => ?_) ?_)
    · rw [m_generate_Inputs_l1]
      dsimp only
      have hk2 : k < ((al.map (hasB ev)).take k ++ List.replicate ((al.map (hasB ev)).length - k) false).length := by simp; omega
      rw [if_pos (by simp; omega), idx_at hk, Option.bind_some, containsA_eq he ie, Option.bind_some, idx_at hk2, Option.bind_some, upd, if_pos ⟨by omega, by omega⟩, Option.bind_some, Int.toNat_natCast,
        show (k : Int) + 1 = ((k + 1 : Nat) : Int) by omega, W_nat (by omega), show hasB ev al[k] = (al.map (hasB ev))[k]'(by rw [hml]; exact hk) by simp, fill_set (by rw [hml]; exact hk)]
    · rw [m_generate_Inputs_l1]
      dsimp only
      rw [if_neg (by simp), hml, Nat.sub_self, List.take_of_length_le (by omega), List.replicate_zero, List.append_nil]
  rw [m_generate_Inputs]
  dsimp only
  rw [among_eq he ha ie ia hs hb, Option.bind_some, if_neg (by simp), mkL_eq (by omega) (by omega), Option.bind_some, Int.toNat_natCast, hi]
  rfl
/-- Three lists one behind the other. -/
theorem concat_eq {x y z : List Bool} (h : x.length + y.length + z.length ≤ 100000) : m_slices_Concat_bool [x, y, z] = some (x ++ y ++ z) := by
  have h1 : iter (m_slices_Concat_bool_l1 [x, y, z]) (0, 0) = some ((x.length + y.length + z.length : Nat) : Int) := by
    refine iter_of (n := 4) (by omega) ?_
    have hn : ∀ (i : Nat) (k : Nat) (l : List Bool), [x, y, z][i]? = some l → k + l.length ≤ 100000 → i < 3 → m_slices_Concat_bool_l1 [x, y, z] ((i : Int), (k : Int)) = some (.inl (((i + 1 : Nat) : Int), ((k + l.length : Nat) : Int))) := fun i k l hl hk hi => by
      rw [m_slices_Concat_bool_l1]
      dsimp only
      rw [if_pos (by simp; omega), idx_nat, hl, Option.bind_some, show (k : Int) + (l.length : Int) = ((k + l.length : Nat) : Int) by omega, W_nat (by omega), if_neg (by simp; omega), m_slices_Concat_bool_j1]
      dsimp only
      rw [show (i : Int) + 1 = ((i + 1 : Nat) : Int) by omega, W_nat (by omega)]
    rw [iterF_succ, show m_slices_Concat_bool_l1 [x, y, z] (0, 0) = _ from hn 0 0 x rfl (by omega) (by omega)]
    dsimp only
    rw [iterF_succ, hn (0 + 1) (0 + x.length) y rfl (by omega) (by omega)]
    dsimp only
    rw [iterF_succ, hn (0 + 1 + 1) (0 + x.length + y.length) z rfl (by omega) (by omega)]
    dsimp only
    rw [iterF_succ, m_slices_Concat_bool_l1, if_neg (by simp)]
    show some ((0 + x.length + y.length + z.length : Nat) : Int) = _
    rw [Nat.zero_add]
  have h2 : iter (m_slices_Concat_bool_l2 [x, y, z]) (0, ([] : List Bool)) = some (x ++ y ++ z) := by
    refine iter_of (n := 4) (by omega) ?_
    have hn : ∀ (i : Nat) (k l : List Bool), [x, y, z][i]? = some l → k.length + l.length ≤ 100000 → i < 3 → m_slices_Concat_bool_l2 [x, y, z] ((i : Int), k) = some (.inl (((i + 1 : Nat) : Int), k ++ l)) := fun i k l hl hk hi => by
      rw [m_slices_Concat_bool_l2]
      dsimp only
      rw [if_pos (by simp; omega), idx_nat, hl, Option.bind_some, app_eq (by omega), Option.bind_some, show (i : Int) + 1 = ((i + 1 : Nat) : Int) by omega, W_nat (by omega)]
    rw [iterF_succ, show m_slices_Concat_bool_l2 [x, y, z] (0, []) = _ from hn 0 [] x rfl (by simp; omega) (by omega)]
    dsimp only
    rw [iterF_succ, hn (0 + 1) ([] ++ x) y rfl (by simp; omega) (by omega)]
    dsimp only
    rw [iterF_succ, hn (0 + 1 + 1) ([] ++ x ++ y) z rfl (by simp; omega) (by omega)]
    dsimp only
    rw [iterF_succ, m_slices_Concat_bool_l2, if_neg (by simp)]
    rfl
  rw [m_slices_Concat_bool, h1, Option.bind_some, m_slices_Grow_bool, if_pos ⟨rfl, by omega, by omega⟩, Option.bind_some, h2]
  rfl
theorem begin_eq {m c n : Nat} {start : List Bool} {L : List Ins} (h : PrgIn m c n start L) {inp out mem : List Bool} (hi : inp.length = m) (ho : out.length = c) (hm : mem.length = n) :
    m_instruction_begin (prgP m c n start L) (out, mem) inp = some (inp ++ out ++ mem, 0) := by
  have h1 := h.hm; have h2 := h.hc; have h3 := h.hn
  rw [m_instruction_begin, pcheck_eq h, Option.bind_some, if_neg (by simp), if_neg (by simp [prgP, hi, ho, hm]), concat_eq (by show inp.length + out.length + mem.length ≤ _; omega)]
  rfl
/-- One round of a scan. -/
theorem scan_step {m c n : Nat} {start : List Bool} {L : List Ins} (h : PrgIn m c n start L) {T} (hT : m_instruction_operations = some T) {i : Nat} (hi : i < L.length) {acc : Bool} {xs : List Int} {b : List Bool} (hx : xs.length ≤ i) (hb : b.length = m + c + n) :
    m_instruction_scan_l1 (prgP m c n start L) T ((i : Int), acc, xs, b) = some (.inl (((insStep L[i] i acc b).1 : Int), (insStep L[i] i acc b).2.1, xs ++ [(i : Int)], (insStep L[i] i acc b).2.2)) := by
  have hlen := h.len
  have hk := h.ok i L[i] (List.getElem?_eq_getElem hi)
  obtain ⟨T', e, hT', hl, he, hcase⟩ := ops_at hk.op.1 hk.op.2
  rw [hT] at hT'
  cases hT'
  have hop := hk.op
  have hat : idx (prgP m c n start L).2.2.2.2 (i : Int) = some (insP L[i]) := by
    rw [idx_at (by simpa [prgP] using hi)]; simp [prgP]
  have hinc : W ((i : Int) + 1) = ((i + 1 : Nat) : Int) := by rw [show (i : Int) + 1 = ((i + 1 : Nat) : Int) by omega, W_nat (by omega)]
  rw [m_instruction_scan_l1]
  dsimp only
  rw [if_pos (by simp [prgP]; omega), app_eq (by simp; omega), Option.bind_some, hat, Option.bind_some, show idx T (W ((insP L[i]).1 - 1)) = some e from he, Option.bind_some, hinc]
  have hbit : L[i].op ≤ 10 → idx b (insP L[i]).2 = some (b.getD L[i].arg.toNat false) := fun h10 => by
    have h1 := hk.bit h10
    show idx b L[i].arg = _
    rw [show L[i].arg = (L[i].arg.toNat : Int) by omega, idx_at (by omega), Int.toNat_natCast, List.getD_eq_getElem?_getD, List.getElem?_eq_getElem (by omega)]
    rfl
  rcases hcase with ⟨h1, h2, h3, f, hf, hf2⟩ | ⟨h1, h1', h2, h3, f, hf, hf2⟩ | ⟨h1, h2, h3, f, hf, hf2⟩
  · rw [if_pos (by rw [hf]; rfl), hbit (by omega), Option.bind_some, hf, Option.bind_some, hf2 _ _ L[i].arg, Option.bind_some]
    have e1 : insNext L[i] i acc = i + 1 := by rw [insNext, if_pos ⟨hop.1, by omega⟩]
    have e2 : insBits L[i] acc b = b := by
      rw [insBits, if_neg (by omega), if_neg (by omega), if_neg (by omega), if_neg (by omega)]
    simp only [insStep, e1, e2]
  · have h10 := hk.bit h1'
    rw [if_neg (by rw [h2]; simp), if_pos (by rw [hf]; rfl), hbit h1', Option.bind_some, hf, Option.bind_some, hf2, Option.bind_some, Option.bind_some]
    have e1 : insNext L[i] i acc = i + 1 := by rw [insNext, if_pos ⟨hop.1, by omega⟩]
    have e2 : ∀ v, insAcc L[i] acc v = acc := fun v => by
      rw [insAcc, if_neg (by omega), if_neg (by omega), if_neg (by omega), if_neg (by omega), if_neg (by omega), if_neg (by omega)]
    have e3 := insBits_st h1 h1' L[i].arg acc b
    rw [show upd b (insP L[i]).2 (stB L[i].op acc (b.getD L[i].arg.toNat false)) = some (insBits L[i] acc b) from by
      rw [show insBits L[i] acc b = _ from e3]
      exact if_pos ⟨h10.1, by show L[i].arg < _; omega⟩, Option.bind_some]
    simp only [insStep, e1, e2]
  · have hj := hk.jump h1
    rw [if_neg (by rw [h2]; simp), if_neg (by rw [h3]; simp), hf, Option.bind_some, hf2, Option.bind_some]
    have e2 : ∀ v, insAcc L[i] acc v = acc := fun v => by
      rw [insAcc, if_neg (by omega), if_neg (by omega), if_neg (by omega), if_neg (by omega), if_neg (by omega), if_neg (by omega)]
    have e3 : insBits L[i] acc b = b := by
      rw [insBits, if_neg (by omega), if_neg (by omega), if_neg (by omega), if_neg (by omega)]
    have e1 : ((insNext L[i] i acc : Nat) : Int) = if (if L[i].op = 11 then true else if L[i].op = 12 then acc else !acc) = true then L[i].arg else ((i + 1 : Nat) : Int) := by
      rw [insNext, if_neg (by omega)]
      have ha : (L[i].arg.toNat : Int) = L[i].arg := by omega
      by_cases h11 : L[i].op = 11
      · rw [if_pos h11, if_pos h11, if_pos rfl, ha]
      · rw [if_neg h11, if_neg h11]
        by_cases h12 : L[i].op = 12
        · rw [if_pos h12, if_pos h12]
          cases acc
          · rfl
          · rw [if_pos rfl, if_pos rfl, ha]
        · rw [if_neg h12, if_neg h12]
          cases acc
          · show ((if false = true then i + 1 else L[i].arg.toNat : Nat) : Int) = _
            rw [if_neg (by simp)]
            exact ha
          · rfl
    simp only [insStep, e2, e3, e1]
    generalize (if L[i].op = 11 then true else if L[i].op = 12 then acc else !acc) = q
    cases q <;> rfl
end Go.Proofs.Ytkkemchihllklaa

namespace Go.Proofs.Ytkkemchihllklaa
open Go Go.RowKit
noncomputable def m_overseerlaw53_step_l1 (p0 : List Int × Int × List Int × (List (Int × Int × Int))) (p1 : Int) (p2 : Int) (st18 : Int) : Option (Int ⊕ (Unit ⊕ Int)) :=
  if decide (st18 < (p0.2.2.2.length : Int)) then
    (idx p0.2.2.2 st18).bind fun x27 =>
    if ((x27.1 == p1) && (x27.2.1 == p2)) then
      some (.inr (.inr (x27.2.2)))
    else
      some (.inl (W (st18 + 1)))
  else
    some (.inr (.inl ()))
/-- What overseerlaw53.step computes. -/
noncomputable def m_overseerlaw53_step (p0 : List Int × Int × List Int × (List (Int × Int × Int))) (p1 : Int) (p2 : Int) : Option Int :=
  (iter (m_overseerlaw53_step_l1 p0 p1 p2) 0).bind fun o18 =>
  match o18 with
  | .inl u21 =>
    some (-1)
  | .inr (u24) =>
    some u24
set_option maxRecDepth 100000 in
set_option maxHeartbeats 8000000 in
theorem m_overseerlaw53_step_c {s : Sig} {p0 : List Int × Int × List Int × (List (Int × Int × Int))} {p1 : Int} {p2 : Int} {a1 : Option Addr} {c1 : Nat} {a2 : Option Addr} {c2 : Nat} {a3 : Option Addr} {c3 : Nat} {r : Int} (h1 : RdL (rK .i64) s a1 c1 p0.1) (h2 : RdL (rK .i64) s a2 c2 p0.2.2.1) (h3 : RdL (rP (rK .i64) (rP (rK .i64) (rK .i64))) s a3 c3 p0.2.2.2) (hm : m_overseerlaw53_step p0 p1 p2 = some r) :
    Calls Try.prog 45 #[.agg #[.slice a1 p0.1.length c1, .int .i64 p0.2.1, .slice a2 p0.2.2.1.length c2, .slice a3 p0.2.2.2.length c3], .int .i64 p1, .int .i64 p2] s.w (RetS No s fun v s' => v = .int .i64 r) := by
 unfold m_overseerlaw53_step at hm
 obtain ⟨N, hN, hNb⟩ := s.fresh
 have m0 : Mv (Up N No) s s := Mv.refl _ _
 refine E.entry Try.func45 rfl Try.ntmps45 rfl rfl (E.seq (E.reg (L.box (N + 0) Wt.no rfl rfl rfl fun b4 s5 m6 bx4 => ?_)))
 replace m0 := m0.trans m6.no
 replace h3 := h3.mono (m6.le no_No)
 refine L.as Wt.no rfl rfl (L.nil (X.seqN (E.seq (E.seq (E.reg (L.fa fa26_3 Wt.no rfl rfl (L.ld (j := 3) bx4.mem nag24 Wt.no rfl rfl rfl rfl (L.len sl24 Wt.no rfl rfl (L.mv Wt.no rfl rfl (L.nil (X.seqN (E.block ?_))))))))))))
 obtain ⟨o18, eo18, hm⟩ := bindS hm
 refine E.cut (x := .exit 0) (fun e w => ∃ (s22 : Sig) (u21 : Unit), o18 = .inl u21 ∧ Mv (Up N No) s s22 ∧ e = [] ∧ w = s22.w) ?_ ?_
 ·rintro _ _ ⟨s22, u21, rfl, m0, rfl, rfl⟩
  dsimp only at hm
  refine X.blkE (X.seqN (E.seq (E.reg (L.as Wt.no rfl rfl (L.nil (X.seqN (E.ret ?_)))))))
  obtain rfl := Option.some.inj hm
  exact X.rt (.inl rfl) Try.results45 (Rs.tmp rfl Rs.nil) rfl ⟨_, (s22).ren N (fun _ => 0), rfl, rfl, m0.ren hNb, rfl⟩
 intro K23
 refine E.cut (x := .ret) (fun e w => ∃ (s25 : Sig) (u24 : Int), o18 = .inr (u24) ∧ Mv (Up N No) s s25 ∧ e = [(6, .int .i64 u24)] ∧ w = s25.w) ?_ ?_
 ·rintro _ _ ⟨s25, u24, rfl, m0, rfl, rfl⟩
  dsimp only at hm
  refine X.blkR (X.seqR ?_)
  obtain rfl := Option.some.inj hm
  exact X.rt (.inl rfl) Try.results45 (Rs.tmp rfl Rs.nil) rfl ⟨_, (s25).ren N (fun _ => 0), rfl, rfl, m0.ren hNb, rfl⟩
 intro K26
 refine E.iter (fun (st18 : Int) (e : List (Nat × Value)) (w : World) => ∃ (s20 : Sig), Mv (Up N No) s s20 ∧ RdL (rP (rK .i64) (rP (rK .i64) (rK .i64))) s20 a3 c3 p0.2.2.2 ∧ e = [(12, .int .i64 st18), (11, .int .i64 (p0.2.2.2.length : Int)), (10, .slice a3 p0.2.2.2.length c3), (1, .int .i64 p1), (2, .int .i64 p2)] ∧ w = s20.w) eo18 ⟨s5, m0, h3, rfl, rfl⟩ (Sub.rf rfl) ?_
 rintro st18 res18 hm ih18 ho18 _ _ ⟨s20, m0, h3, rfl, rfl⟩
 unfold m_overseerlaw53_step_l1 at hm
 refine E.seq (E.reg (L.bi Wt.no rfl rfl rfl rfl (L.nil (X.seqN (E.seq ?_)))))
 rcases ifS hm with ⟨hc, hm⟩ | ⟨hc, hm⟩
 ·refine E.cT rfl hc (E.skip (X.seqN (E.seq (E.block (E.seq (E.reg ?_))))))
  obtain ⟨x27, ex27, hm⟩ := bindS hm
  refine L.ix (r := (rP (rK .i64) (rP (rK .i64) (rK .i64)))) sl24 h3 Wt.no rfl rfl ex27 rfl fun b28 o28 cc28 me28 rd28 => ?_
  obtain ⟨_, _, rfl, rfl, ⟨_, _, rfl, rfl, rfl⟩⟩ := rd28
  refine L.lg (j := 0) (cs := [.int .i64 x27.1, .int .i64 x27.2.1, .int .i64 x27.2.2]) me28 ag28 Wt.no rfl rfl rfl rfl rfl (L.al (N + 1) zz28 rfl Wt.no rfl fun b29 s30 m31 bx29 => ?_)
  replace m0 := m0.trans m31.no
  replace h3 := h3.mono (m31.le no_No)
  refine L.st (c := [.int .i64 x27.1, .int .i64 x27.2.1, .int .i64 x27.2.2]) (cs' := #[.int .i64 x27.1, .int .i64 x27.2.1, .int .i64 x27.2.2]) bx29 ag28.sz Wt.no rfl rfl rfl rfl rfl (Nat.le_of_ble_eq_true rfl) rfl fun s32 m33 bx29 => ?_
  replace m0 := m0.trans (m33.one up)
  replace h3 := h3.mono (m33.le (tg0 hN))
  refine L.nil (X.seqN (E.seq (E.reg (L.fa fa28_0 Wt.no rfl rfl (L.ld (j := 0) bx29.mem nag3 Wt.no rfl rfl rfl rfl (L.mv Wt.no rfl rfl (L.bi Wt.no rfl rfl rfl rfl (L.mv Wt.no rfl rfl (L.cut 5 (fun e w => ∃ (v34 : Bool), ((x27.1 == p1) && (x27.2.1 == p2)) = v34 ∧ e = (25, .bool v34) :: [(8, .pointer (some ⟨b29, 0, none⟩)), (12, .int .i64 st18), (11, .int .i64 (p0.2.2.2.length : Int)), (10, .slice a3 p0.2.2.2.length c3), (1, .int .i64 p1), (2, .int .i64 p2)] ∧ w = s32.w) ?_ ?_)))))))))
  ·rintro _ _ ⟨v34, rfl, rfl, rfl⟩
   refine L.nil (X.seqN ?_)
   rcases ifS hm with ⟨hc, hm⟩ | ⟨hc, hm⟩
   ·refine E.cT rfl hc (E.seq (E.reg (L.fa fa28_2 Wt.no rfl rfl (L.ld (j := 2) bx29.mem nag3 Wt.no rfl rfl rfl rfl (L.as Wt.no rfl rfl (L.nil (X.seqN (E.ret (X.blkR (X.seqR (X.seqR ?_)))))))))))
    have hx := ho18 _ (Option.some.inj hm).symm
    exact X.sub (K26 _ _ ⟨s32, x27.2.2, hx.symm, m0, rfl, rfl⟩) (Sub.rf rfl)
   ·exact E.cF rfl hc (E.skip (X.blkN (X.seqN (E.reg (L.bi Wt.no rfl rfl rfl rfl (L.mv Wt.no rfl rfl (L.nil (X.sub (ih18 _ (Option.some.inj hm).symm _ _ ⟨s32, m0, h3, rfl, rfl⟩) (Sub.rf rfl)))))))))
  ·intro J35
   rcases Bool.eq_false_or_eq_true (x27.1 == p1) with hc | hc
   ·exact L.know (d := 20) rfl hc (L.fa fa28_1 (Wt.mk rfl rfl) rfl rfl (L.ld (j := 1) bx29.mem nag3 (Wt.mk rfl rfl) rfl rfl rfl rfl (L.mv (Wt.mk rfl rfl) rfl rfl (L.bi (Wt.mk rfl rfl) rfl rfl rfl rfl (L.pkT Wt.no rfl rfl rfl rfl (L.sb (J35 _ _ ⟨(x27.2.1 == p2), (andT hc).symm, rfl, rfl⟩) rfl))))))
   ·exact L.know (d := 20) rfl hc (L.skip rfl rfl rfl rfl (L.skip rfl rfl rfl rfl (L.skip rfl rfl rfl rfl (L.skip rfl rfl rfl rfl (L.pkF Wt.no rfl rfl rfl rfl (L.sb (J35 _ _ ⟨false, (andF hc).symm, rfl, rfl⟩) rfl))))))
 ·refine E.cF rfl hc (E.exit (X.seqX (X.seqX ?_)))
  have hx := ho18 _ (Option.some.inj hm).symm
  exact X.sub (K23 _ _ ⟨s20, (), hx.symm, m0, rfl, rfl⟩) Sub.nil

/-- What generate.Alarmed computes. -/
noncomputable def m_generate_Alarmed (p0 : (Int × Int × Int × List Bool × (List (Int × Int))) × List Int × List Int × Int) (p1 : List Bool × List Bool) : Option (Bool × Int) :=
  (m_generate_fits p0 p1).bind fun r13 =>
  if (r13 != 0) then
    some (false, r13)
  else
    (idx p1.1 (p0.2.2.1.length : Int)).bind fun x16 =>
    some (x16, 0)
set_option maxRecDepth 100000 in
set_option maxHeartbeats 8000000 in
theorem m_generate_Alarmed_c {s : Sig} {p0 : (Int × Int × Int × List Bool × (List (Int × Int))) × List Int × List Int × Int} {p1 : List Bool × List Bool} {a1 : Option Addr} {c1 : Nat} {a2 : Option Addr} {c2 : Nat} {a3 : Option Addr} {c3 : Nat} {a4 : Option Addr} {c4 : Nat} {a5 : Option Addr} {c5 : Nat} {a6 : Option Addr} {c6 : Nat} {r : Bool × Int} (h1 : RdL rB s a1 c1 p0.1.2.2.2.1) (h2 : RdL (rP (rK .i64) (rK .i64)) s a2 c2 p0.1.2.2.2.2) (h3 : RdL (rK .i64) s a3 c3 p0.2.1) (h4 : RdL (rK .i64) s a4 c4 p0.2.2.1) (h5 : RdL rB s a5 c5 p1.1) (h6 : RdL rB s a6 c6 p1.2) (hm : m_generate_Alarmed p0 p1 = some r) :
    Calls Try.prog 31 #[.agg #[.int .i64 p0.1.1, .int .i64 p0.1.2.1, .int .i64 p0.1.2.2.1, .slice a1 p0.1.2.2.2.1.length c1, .slice a2 p0.1.2.2.2.2.length c2, .slice a3 p0.2.1.length c3, .slice a4 p0.2.2.1.length c4, .int .i64 p0.2.2.2], .agg #[.slice a5 p1.1.length c5, .slice a6 p1.2.length c6]] s.w (RetS No s fun v s' => v = .tuple #[.bool r.1, .int .i64 r.2]) := by
 unfold m_generate_Alarmed at hm
 obtain ⟨N, hN, hNb⟩ := s.fresh
 have m0 : Mv (Up N No) s s := Mv.refl _ _
 refine E.entry Try.func31 rfl Try.ntmps31 rfl rfl (E.seq (E.reg (L.box (N + 0) Wt.no rfl rfl rfl fun b7 s8 m9 bx7 => ?_)))
 replace m0 := m0.trans m9.no
 replace h5 := h5.mono (m9.le no_No)
 replace h6 := h6.mono (m9.le no_No)
 replace h1 := h1.mono (m9.le no_No)
 replace h2 := h2.mono (m9.le no_No)
 replace h3 := h3.mono (m9.le no_No)
 replace h4 := h4.mono (m9.le no_No)
 refine L.box (N + 1) Wt.no rfl rfl rfl fun b10 s11 m12 bx10 => ?_
 replace m0 := m0.trans m12.no
 replace bx7 := bx7.mv m12 no_No
 replace h1 := h1.mono (m12.le no_No)
 replace h2 := h2.mono (m12.le no_No)
 replace h3 := h3.mono (m12.le no_No)
 replace h4 := h4.mono (m12.le no_No)
 replace h5 := h5.mono (m12.le no_No)
 replace h6 := h6.mono (m12.le no_No)
 refine L.as Wt.no rfl rfl (L.as Wt.no rfl rfl (L.nil (X.seqN (E.seq (E.seq (E.reg (L.lg (j := 0) (cs := [.int .i64 p0.1.1, .int .i64 p0.1.2.1, .int .i64 p0.1.2.2.1, .slice a1 p0.1.2.2.2.1.length c1, .slice a2 p0.1.2.2.2.2.length c2, .slice a3 p0.2.1.length c3, .slice a4 p0.2.2.1.length c4, .int .i64 p0.2.2.2]) bx7.mem ag34 Wt.no rfl rfl rfl rfl rfl (L.lg (j := 0) (cs := [.slice a5 p1.1.length c5, .slice a6 p1.2.length c6]) bx10.mem ag39 Wt.no rfl rfl rfl rfl rfl ?_))))))))
 obtain ⟨r13, er13, hm⟩ := bindS hm
 refine L.ca cf50 rfl rfl Wt.no rfl (m_generate_fits_c (s := s11) (p0 := p0) (p1 := p1) h1 h2 h3 h4 h5 h6 er13) rfl ?_
 rintro _ s14 m15 rfl
 replace m0 := m0.trans m15.no
 replace bx7 := bx7.mv m15 no_No
 replace bx10 := bx10.mv m15 no_No
 replace h5 := h5.mono (m15.le no_No)
 refine L.as Wt.no rfl rfl (L.nil (X.seqN (E.seq (E.reg (L.mv Wt.no rfl rfl (L.bi Wt.no rfl rfl rfl rfl (L.nil (X.seqN ?_))))))))
 rcases ifS hm with ⟨hc, hm⟩ | ⟨hc, hm⟩
 ·refine E.cT rfl hc (E.seq (E.reg (L.mv Wt.no rfl rfl (L.as Wt.no rfl rfl (L.as Wt.no rfl rfl (L.nil (X.seqN (E.ret (X.seqR ?_)))))))))
  obtain rfl := Option.some.inj hm
  exact X.rt (.inl rfl) Try.results31 (Rs.tmp rfl (Rs.tmp rfl Rs.nil)) rfl ⟨_, (s14).ren N (fun _ => 0), rfl, rfl, m0.ren hNb, rfl⟩
 ·refine E.cF rfl hc (E.skip (X.seqN (E.seq (E.reg (L.fa fa39_0 Wt.no rfl rfl (L.ld (j := 0) bx10.mem nag29 Wt.no rfl rfl rfl rfl (L.fa fa34_2 Wt.no rfl rfl (L.ld (j := 6) bx7.mem nag23 Wt.no rfl rfl rfl rfl (L.len sl23 Wt.no rfl rfl ?_)))))))))
  obtain ⟨x16, ex16, hm⟩ := bindS hm
  refine L.ix (r := rB) sl29 h5 Wt.no rfl rfl ex16 rfl fun b17 o17 cc17 me17 rd17 => ?_
  obtain rfl := rd17
  refine L.ld (j := 0) me17 nag4 Wt.no rfl rfl rfl rfl (L.as Wt.no rfl rfl (L.as Wt.no rfl rfl (L.nil (X.seqN (E.ret ?_)))))
  obtain rfl := Option.some.inj hm
  exact X.rt (.inl rfl) Try.results31 (Rs.tmp rfl (Rs.tmp rfl Rs.nil)) rfl ⟨_, (s14).ren N (fun _ => 0), rfl, rfl, m0.ren hNb, rfl⟩

theorem cf31 : Cf Try.prog 31 := Cf.mk Try.func31 (by kernel_rfl) (by kernel_rfl)
theorem cf45 : Cf Try.prog 45 := Cf.mk Try.func45 (by kernel_rfl) (by kernel_rfl)
noncomputable def m_overseerlaw53_shows_j1 (st57 : Int × List Int) (l97 : List Int) : Option ((Int × List Int) ⊕ ((List Int) ⊕ Unit)) :=
  some (.inl (W (st57.1 + 1), l97))
noncomputable def m_overseerlaw53_shows_l2 (p0 : List Int × Int × List Int × (List (Int × Int × Int))) (p1 : List Int) (p3 : List Bool × List Bool) (p4 : Int) (p6 : Bool) (st57 : Int × List Int) : Option ((Int × List Int) ⊕ ((List Int) ⊕ Unit)) :=
  if decide (st57.1 < (p1.length : Int)) then
    (idx p1 st57.1).bind fun x101 =>
    (if p6 then
      (m_overseerlaw53_step p0 p4 x101).bind fun r116 =>
      some (decide (r116 ≥ 0))
    else
      some false).bind fun b103 =>
    (idx p3.1 st57.1).bind fun x106 =>
    if (x106 != b103) then
      some (.inr (.inr (())))
    else
      if b103 then
        (app st57.2 ([x101] : List Int)).bind fun x111 =>
        m_overseerlaw53_shows_j1 st57 x111
      else
        m_overseerlaw53_shows_j1 st57 st57.2
  else
    some (.inr (.inl st57.2))
noncomputable def m_overseerlaw53_shows_l1 (p0 : List Int × Int × List Int × (List (Int × Int × Int))) (p3 : List Bool × List Bool) (p4 : Int) (st25 : Int) : Option (Int ⊕ (Unit ⊕ Unit)) :=
  if decide (st25 < p0.2.1) then
    (idx p3.2 st25).bind fun x123 =>
    if (x123 != (st25 == p4)) then
      some (.inr (.inr (())))
    else
      some (.inl (W (st25 + 1)))
  else
    some (.inr (.inl ()))
/-- What overseerlaw53.shows computes. -/
noncomputable def m_overseerlaw53_shows (p0 : List Int × Int × List Int × (List (Int × Int × Int))) (p1 : List Int) (p2 : (Int × Int × Int × List Bool × (List (Int × Int))) × List Int × List Int × Int) (p3 : List Bool × List Bool) (p4 : Int) (p5 : Bool) (p6 : Bool) : Option Bool :=
  if (((p3.1.length : Int) != (W ((p1.length : Int) + 1))) || (decide ((p3.2.length : Int) < p0.2.1))) then
    some false
  else
    (iter (m_overseerlaw53_shows_l1 p0 p3 p4) 0).bind fun o25 =>
    match o25 with
    | .inl u27 =>
      (iter (m_overseerlaw53_shows_l2 p0 p1 p3 p4 p6) (0, ([] : List Int))).bind fun o57 =>
      match o57 with
      | .inl u61 =>
        (m_generate_State p2 p3).bind fun r63 =>
        (m_generate_Enabled p2 p3).bind fun r66 =>
        (m_generate_Alarmed p2 p3).bind fun r70 =>
        (if ((((r63.2 == 0) && (r66.2 == 0)) && (r70.2 == 0)) && (r63.1 == p4)) then
          (m_slices_Equal_int r66.1 u61).bind fun r87 =>
          some r87
        else
          some false).bind fun b76 =>
        (if (b76 && (r70.1 == p5)) then
          (idx p3.1 (p1.length : Int)).bind fun x83 =>
          some (x83 == p5)
        else
          some false).bind fun b80 =>
        some b80
      | .inr (u94) =>
        some false
    | .inr (u120) =>
      some false
set_option maxRecDepth 100000 in
set_option maxHeartbeats 8000000 in
theorem m_overseerlaw53_shows_c {s : Sig} {p0 : List Int × Int × List Int × (List (Int × Int × Int))} {p1 : List Int} {p2 : (Int × Int × Int × List Bool × (List (Int × Int))) × List Int × List Int × Int} {p3 : List Bool × List Bool} {p4 : Int} {p5 : Bool} {p6 : Bool} {a1 : Option Addr} {c1 : Nat} {a2 : Option Addr} {c2 : Nat} {a3 : Option Addr} {c3 : Nat} {a4 : Option Addr} {c4 : Nat} {a5 : Option Addr} {c5 : Nat} {a6 : Option Addr} {c6 : Nat} {a7 : Option Addr} {c7 : Nat} {a8 : Option Addr} {c8 : Nat} {a9 : Option Addr} {c9 : Nat} {a10 : Option Addr} {c10 : Nat} {r : Bool} (h1 : RdL (rK .i64) s a1 c1 p0.1) (h2 : RdL (rK .i64) s a2 c2 p0.2.2.1) (h3 : RdL (rP (rK .i64) (rP (rK .i64) (rK .i64))) s a3 c3 p0.2.2.2) (h4 : RdL (rK .i64) s a4 c4 p1) (h5 : RdL rB s a5 c5 p2.1.2.2.2.1) (h6 : RdL (rP (rK .i64) (rK .i64)) s a6 c6 p2.1.2.2.2.2) (h7 : RdL (rK .i64) s a7 c7 p2.2.1) (h8 : RdL (rK .i64) s a8 c8 p2.2.2.1) (h9 : RdL rB s a9 c9 p3.1) (h10 : RdL rB s a10 c10 p3.2) (hm : m_overseerlaw53_shows p0 p1 p2 p3 p4 p5 p6 = some r) :
    Calls Try.prog 15 #[.agg #[.slice a1 p0.1.length c1, .int .i64 p0.2.1, .slice a2 p0.2.2.1.length c2, .slice a3 p0.2.2.2.length c3], .slice a4 p1.length c4, .agg #[.int .i64 p2.1.1, .int .i64 p2.1.2.1, .int .i64 p2.1.2.2.1, .slice a5 p2.1.2.2.2.1.length c5, .slice a6 p2.1.2.2.2.2.length c6, .slice a7 p2.2.1.length c7, .slice a8 p2.2.2.1.length c8, .int .i64 p2.2.2.2], .agg #[.slice a9 p3.1.length c9, .slice a10 p3.2.length c10], .int .i64 p4, .bool p5, .bool p6] s.w (RetS No s fun v s' => v = .bool r) := by
 unfold m_overseerlaw53_shows at hm
 obtain ⟨N, hN, hNb⟩ := s.fresh
 have m0 : Mv (Up N No) s s := Mv.refl _ _
 refine E.entry Try.func15 rfl Try.ntmps15 rfl rfl (E.seq (E.reg (L.box (N + 0) Wt.no rfl rfl rfl fun b11 s12 m13 bx11 => ?_)))
 replace m0 := m0.trans m13.no
 replace h4 := h4.mono (m13.le no_No)
 replace h5 := h5.mono (m13.le no_No)
 replace h6 := h6.mono (m13.le no_No)
 replace h7 := h7.mono (m13.le no_No)
 replace h8 := h8.mono (m13.le no_No)
 replace h9 := h9.mono (m13.le no_No)
 replace h10 := h10.mono (m13.le no_No)
 replace h1 := h1.mono (m13.le no_No)
 replace h2 := h2.mono (m13.le no_No)
 replace h3 := h3.mono (m13.le no_No)
 refine L.box (N + 1) Wt.no rfl rfl rfl fun b14 s15 m16 bx14 => ?_
 replace m0 := m0.trans m16.no
 replace h4 := h4.mono (m16.le no_No)
 replace h9 := h9.mono (m16.le no_No)
 replace h10 := h10.mono (m16.le no_No)
 replace bx11 := bx11.mv m16 no_No
 replace h1 := h1.mono (m16.le no_No)
 replace h2 := h2.mono (m16.le no_No)
 replace h3 := h3.mono (m16.le no_No)
 replace h5 := h5.mono (m16.le no_No)
 replace h6 := h6.mono (m16.le no_No)
 replace h7 := h7.mono (m16.le no_No)
 replace h8 := h8.mono (m16.le no_No)
 refine L.box (N + 2) Wt.no rfl rfl rfl fun b17 s18 m19 bx17 => ?_
 replace m0 := m0.trans m19.no
 replace h4 := h4.mono (m19.le no_No)
 replace bx11 := bx11.mv m19 no_No
 replace h1 := h1.mono (m19.le no_No)
 replace h2 := h2.mono (m19.le no_No)
 replace h3 := h3.mono (m19.le no_No)
 replace bx14 := bx14.mv m19 no_No
 replace h5 := h5.mono (m19.le no_No)
 replace h6 := h6.mono (m19.le no_No)
 replace h7 := h7.mono (m19.le no_No)
 replace h8 := h8.mono (m19.le no_No)
 replace h9 := h9.mono (m19.le no_No)
 replace h10 := h10.mono (m19.le no_No)
 refine L.as Wt.no rfl rfl (L.nil (X.seqN (E.seq (E.seq (E.reg (L.fa fa39_0 Wt.no rfl rfl (L.ld (j := 0) bx17.mem nag29 Wt.no rfl rfl rfl rfl (L.len sl29 Wt.no rfl rfl (L.mv Wt.no rfl rfl (L.len sl23 Wt.no rfl rfl (L.bi Wt.no rfl rfl rfl rfl (L.bi Wt.no rfl rfl rfl rfl (L.mv Wt.no rfl rfl (L.cut 7 (fun e w => ∃ (v20 : Bool), (((p3.1.length : Int) != (W ((p1.length : Int) + 1))) || (decide ((p3.2.length : Int) < p0.2.1))) = v20 ∧ e = (40, .bool v20) :: [(10, .pointer (some ⟨b17, 0, none⟩)), (9, .pointer (some ⟨b14, 0, none⟩)), (7, .pointer (some ⟨b11, 0, none⟩)), (1, .slice a4 p1.length c4), (4, .int .i64 p4), (5, .bool p5), (6, .bool p6)] ∧ w = s18.w) ?_ ?_))))))))))))))
 ·rintro _ _ ⟨v20, rfl, rfl, rfl⟩
  refine L.nil (X.seqN ?_)
  rcases ifS hm with ⟨hc, hm⟩ | ⟨hc, hm⟩
  ·refine E.cT rfl hc (E.seq (E.reg (L.as Wt.no rfl rfl (L.nil (X.seqN (E.ret (X.seqR ?_)))))))
   obtain rfl := Option.some.inj hm
   exact X.rt (.inl rfl) Try.results15 (Rs.tmp rfl Rs.nil) rfl ⟨_, (s18).ren N (fun _ => 0), rfl, rfl, m0.ren hNb, rfl⟩
  ·refine E.cF rfl hc (E.skip (X.seqN (E.seq (E.seq (E.reg (L.fa fa26_1 Wt.no rfl rfl (L.ld (j := 1) bx11.mem nag3 Wt.no rfl rfl rfl rfl (L.mv Wt.no rfl rfl (L.nil (X.seqN (E.block ?_)))))))))))
   obtain ⟨o25, eo25, hm⟩ := bindS hm
   refine E.cut (x := .exit 0) (fun e w => ∃ (s28 : Sig) (u27 : Unit), o25 = .inl u27 ∧ Mv (Up N No) s s28 ∧ RdL (rK .i64) s28 a4 c4 p1 ∧ RdL (rK .i64) s28 a1 c1 p0.1 ∧ RdL (rK .i64) s28 a2 c2 p0.2.2.1 ∧ RdL (rP (rK .i64) (rP (rK .i64) (rK .i64))) s28 a3 c3 p0.2.2.2 ∧ RdL rB s28 a5 c5 p2.1.2.2.2.1 ∧ RdL (rP (rK .i64) (rK .i64)) s28 a6 c6 p2.1.2.2.2.2 ∧ RdL (rK .i64) s28 a7 c7 p2.2.1 ∧ RdL (rK .i64) s28 a8 c8 p2.2.2.1 ∧ RdL rB s28 a9 c9 p3.1 ∧ RdL rB s28 a10 c10 p3.2 ∧ Bx s28 (N + 0) b11 #[.slice a1 p0.1.length c1, .int .i64 p0.2.1, .slice a2 p0.2.2.1.length c2, .slice a3 p0.2.2.2.length c3] 26 ∧ Bx s28 (N + 1) b14 #[.int .i64 p2.1.1, .int .i64 p2.1.2.1, .int .i64 p2.1.2.2.1, .slice a5 p2.1.2.2.2.1.length c5, .slice a6 p2.1.2.2.2.2.length c6, .slice a7 p2.2.1.length c7, .slice a8 p2.2.2.1.length c8, .int .i64 p2.2.2.2] 34 ∧ Bx s28 (N + 2) b17 #[.slice a9 p3.1.length c9, .slice a10 p3.2.length c10] 39 ∧ e = [(10, .pointer (some ⟨b17, 0, none⟩)), (9, .pointer (some ⟨b14, 0, none⟩)), (7, .pointer (some ⟨b11, 0, none⟩)), (1, .slice a4 p1.length c4), (4, .int .i64 p4), (5, .bool p5), (6, .bool p6)] ∧ w = s28.w) ?_ ?_
   ·rintro _ _ ⟨s28, u27, rfl, m0, h4, h1, h2, h3, h5, h6, h7, h8, h9, h10, bx11, bx14, bx17, rfl, rfl⟩
    dsimp only at hm
    refine X.blkE (X.seqN (E.seq (E.reg (L.as Wt.no rfl rfl (L.nil (X.seqN (E.seq (E.seq (E.reg (L.mv Wt.no rfl rfl (L.len sl23 Wt.no rfl rfl (L.mv Wt.no rfl rfl (L.nil (X.seqN (E.block ?_)))))))))))))))
    obtain ⟨o57, eo57, hm⟩ := bindS hm
    refine E.cut (x := .exit 2) (fun e w => ∃ (s62 : Sig) (u61 : List Int) (a59 : Option Addr) (c59 : Nat), o57 = .inl u61 ∧ Mv (Up N No) s s62 ∧ RowT (rK .i64) s62 (N + 3) 3 a59 c59 u61 ∧ RdL (rK .i64) s62 a4 c4 p1 ∧ RdL rB s62 a5 c5 p2.1.2.2.2.1 ∧ RdL (rP (rK .i64) (rK .i64)) s62 a6 c6 p2.1.2.2.2.2 ∧ RdL (rK .i64) s62 a7 c7 p2.2.1 ∧ RdL (rK .i64) s62 a8 c8 p2.2.2.1 ∧ RdL rB s62 a9 c9 p3.1 ∧ RdL rB s62 a10 c10 p3.2 ∧ Bx s62 (N + 1) b14 #[.int .i64 p2.1.1, .int .i64 p2.1.2.1, .int .i64 p2.1.2.2.1, .slice a5 p2.1.2.2.2.1.length c5, .slice a6 p2.1.2.2.2.2.length c6, .slice a7 p2.2.1.length c7, .slice a8 p2.2.2.1.length c8, .int .i64 p2.2.2.2] 34 ∧ Bx s62 (N + 2) b17 #[.slice a9 p3.1.length c9, .slice a10 p3.2.length c10] 39 ∧ e = [(16, .slice a59 u61.length c59), (10, .pointer (some ⟨b17, 0, none⟩)), (9, .pointer (some ⟨b14, 0, none⟩)), (1, .slice a4 p1.length c4), (4, .int .i64 p4), (5, .bool p5)] ∧ w = s62.w) ?_ ?_
    ·rintro _ _ ⟨s62, u61, a59, c59, rfl, m0, h59, h4, h5, h6, h7, h8, h9, h10, bx14, bx17, rfl, rfl⟩
     dsimp only at hm
     refine X.blkE (X.seqN (E.seq (E.reg (L.lg (j := 0) (cs := [.int .i64 p2.1.1, .int .i64 p2.1.2.1, .int .i64 p2.1.2.2.1, .slice a5 p2.1.2.2.2.1.length c5, .slice a6 p2.1.2.2.2.2.length c6, .slice a7 p2.2.1.length c7, .slice a8 p2.2.2.1.length c8, .int .i64 p2.2.2.2]) bx14.mem ag34 Wt.no rfl rfl rfl rfl rfl (L.lg (j := 0) (cs := [.slice a9 p3.1.length c9, .slice a10 p3.2.length c10]) bx17.mem ag39 Wt.no rfl rfl rfl rfl rfl ?_)))))
     obtain ⟨r63, er63, hm⟩ := bindS hm
     refine L.ca cf18 rfl rfl Wt.no rfl (m_generate_State_c (s := s62) (p0 := p2) (p1 := p3) h5 h6 h7 h8 h9 h10 er63) rfl ?_
     rintro _ s64 m65 rfl
     replace m0 := m0.trans m65.no
     replace h59 := h59.mv m65 no_No no_No
     replace h4 := h4.mono (m65.le no_No)
     replace bx14 := bx14.mv m65 no_No
     replace h5 := h5.mono (m65.le no_No)
     replace h6 := h6.mono (m65.le no_No)
     replace h7 := h7.mono (m65.le no_No)
     replace h8 := h8.mono (m65.le no_No)
     replace bx17 := bx17.mv m65 no_No
     replace h9 := h9.mono (m65.le no_No)
     replace h10 := h10.mono (m65.le no_No)
     refine L.mv Wt.no rfl rfl (L.ex Wt.no rfl rfl rfl (L.ex Wt.no rfl rfl rfl (L.as Wt.no rfl rfl (L.as Wt.no rfl rfl (L.nil (X.seqN (E.seq (E.reg (L.lg (j := 0) (cs := [.int .i64 p2.1.1, .int .i64 p2.1.2.1, .int .i64 p2.1.2.2.1, .slice a5 p2.1.2.2.2.1.length c5, .slice a6 p2.1.2.2.2.2.length c6, .slice a7 p2.2.1.length c7, .slice a8 p2.2.2.1.length c8, .int .i64 p2.2.2.2]) bx14.mem ag34 Wt.no rfl rfl rfl rfl rfl (L.lg (j := 0) (cs := [.slice a9 p3.1.length c9, .slice a10 p3.2.length c10]) bx17.mem ag39 Wt.no rfl rfl rfl rfl rfl ?_))))))))))
     obtain ⟨r66, er66, hm⟩ := bindS hm
     refine L.ca cf19 rfl rfl Wt.no rfl (m_generate_Enabled_c (s := s64) (p0 := p2) (p1 := p3) (u0 := 0) h5 h6 h7 h8 h9 h10 er66) rfl ?_
     rintro _ s67 m68 ⟨a69, c69, rfl, h69⟩
     replace h69 := h69.p
     replace m0 := m0.trans m68.no
     replace h4 := h4.mono (m68.le no_No)
     replace h59 := h59.mv m68 no_No no_No
     replace bx14 := bx14.mv m68 no_No
     replace h5 := h5.mono (m68.le no_No)
     replace h6 := h6.mono (m68.le no_No)
     replace h7 := h7.mono (m68.le no_No)
     replace h8 := h8.mono (m68.le no_No)
     replace bx17 := bx17.mv m68 no_No
     replace h9 := h9.mono (m68.le no_No)
     replace h10 := h10.mono (m68.le no_No)
     refine L.mv Wt.no rfl rfl (L.ex Wt.no rfl rfl rfl (L.ex Wt.no rfl rfl rfl (L.as Wt.no rfl rfl (L.as Wt.no rfl rfl (L.nil (X.seqN (E.seq (E.reg (L.lg (j := 0) (cs := [.int .i64 p2.1.1, .int .i64 p2.1.2.1, .int .i64 p2.1.2.2.1, .slice a5 p2.1.2.2.2.1.length c5, .slice a6 p2.1.2.2.2.2.length c6, .slice a7 p2.2.1.length c7, .slice a8 p2.2.2.1.length c8, .int .i64 p2.2.2.2]) bx14.mem ag34 Wt.no rfl rfl rfl rfl rfl (L.lg (j := 0) (cs := [.slice a9 p3.1.length c9, .slice a10 p3.2.length c10]) bx17.mem ag39 Wt.no rfl rfl rfl rfl rfl ?_))))))))))
     obtain ⟨r70, er70, hm⟩ := bindS hm
     refine L.ca cf31 rfl rfl Wt.no rfl (m_generate_Alarmed_c (s := s67) (p0 := p2) (p1 := p3) h5 h6 h7 h8 h9 h10 er70) rfl ?_
     rintro _ s71 m72 rfl
     replace m0 := m0.trans m72.no
     replace h4 := h4.mono (m72.le no_No)
     replace h59 := h59.mv m72 no_No no_No
     replace h69 := h69.mono (m72.le no_No)
     replace bx17 := bx17.mv m72 no_No
     replace h9 := h9.mono (m72.le no_No)
     replace h10 := h10.mono (m72.le no_No)
     refine L.mv Wt.no rfl rfl (L.ex Wt.no rfl rfl rfl (L.ex Wt.no rfl rfl rfl (L.as Wt.no rfl rfl (L.as Wt.no rfl rfl (L.nil (X.seqN (E.seq (E.reg (L.mv Wt.no rfl rfl (L.bi Wt.no rfl rfl rfl rfl (L.mv Wt.no rfl rfl (L.cut 3 (fun e w => ∃ (v73 : Bool), ((r63.2 == 0) && (r66.2 == 0)) = v73 ∧ e = (107, .bool v73) :: [(25, .int .i64 r70.2), (24, .bool r70.1), (22, .slice a69 r66.1.length c69), (20, .int .i64 r63.1), (16, .slice a59 u61.length c59), (10, .pointer (some ⟨b17, 0, none⟩)), (1, .slice a4 p1.length c4), (4, .int .i64 p4), (5, .bool p5)] ∧ w = s71.w) ?_ ?_))))))))))))
     ·rintro _ _ ⟨v73, rfl, rfl, rfl⟩
      refine L.mv Wt.no rfl rfl (L.cut 3 (fun e w => ∃ (v74 : Bool), (((r63.2 == 0) && (r66.2 == 0)) && (r70.2 == 0)) = v74 ∧ e = (111, .bool v74) :: [(24, .bool r70.1), (22, .slice a69 r66.1.length c69), (20, .int .i64 r63.1), (16, .slice a59 u61.length c59), (10, .pointer (some ⟨b17, 0, none⟩)), (1, .slice a4 p1.length c4), (4, .int .i64 p4), (5, .bool p5)] ∧ w = s71.w) ?_ ?_)
      ·rintro _ _ ⟨v74, rfl, rfl, rfl⟩
       refine L.mv Wt.no rfl rfl (L.cut 4 (fun e w => ∃ (v75 : Bool), ((((r63.2 == 0) && (r66.2 == 0)) && (r70.2 == 0)) && (r63.1 == p4)) = v75 ∧ e = (116, .bool v75) :: [(24, .bool r70.1), (22, .slice a69 r66.1.length c69), (16, .slice a59 u61.length c59), (10, .pointer (some ⟨b17, 0, none⟩)), (1, .slice a4 p1.length c4), (5, .bool p5)] ∧ w = s71.w) ?_ ?_)
       ·rintro _ _ ⟨v75, rfl, rfl, rfl⟩
        refine L.mv Wt.no rfl rfl ?_
        obtain ⟨b76, eb76, hm⟩ := bindS hm
        refine L.cut 4 (fun e w => ∃ (s78 : Sig) (v77 : Bool), b76 = v77 ∧ Mv (Up N No) s s78 ∧ RdL (rK .i64) s78 a4 c4 p1 ∧ RdL rB s78 a9 c9 p3.1 ∧ RdL rB s78 a10 c10 p3.2 ∧ Bx s78 (N + 2) b17 #[.slice a9 p3.1.length c9, .slice a10 p3.2.length c10] 39 ∧ e = (121, .bool v77) :: [(24, .bool r70.1), (10, .pointer (some ⟨b17, 0, none⟩)), (1, .slice a4 p1.length c4), (5, .bool p5)] ∧ w = s78.w) ?_ ?_
        ·rintro _ _ ⟨s78, v77, rfl, m0, h4, h9, h10, bx17, rfl, rfl⟩
         refine L.mv Wt.no rfl rfl (L.cut 4 (fun e w => ∃ (v79 : Bool), (b76 && (r70.1 == p5)) = v79 ∧ e = (126, .bool v79) :: [(10, .pointer (some ⟨b17, 0, none⟩)), (1, .slice a4 p1.length c4), (5, .bool p5)] ∧ w = s78.w) ?_ ?_)
         ·rintro _ _ ⟨v79, rfl, rfl, rfl⟩
          refine L.mv Wt.no rfl rfl ?_
          obtain ⟨b80, eb80, hm⟩ := bindS hm
          refine L.cut 9 (fun e w => ∃ (v81 : Bool), b80 = v81 ∧ e = (136, .bool v81) :: [] ∧ w = s78.w) ?_ ?_
          ·rintro _ _ ⟨v81, rfl, rfl, rfl⟩
           refine L.as Wt.no rfl rfl (L.nil (X.seqN (E.ret ?_)))
           obtain rfl := Option.some.inj hm
           exact X.rt (.inl rfl) Try.results15 (Rs.tmp rfl Rs.nil) rfl ⟨_, (s78).ren N (fun _ => 0), rfl, rfl, m0.ren hNb, rfl⟩
          ·intro J82
           rcases ifS eb80 with ⟨hc, hm⟩ | ⟨hc, hm⟩
           ·refine L.know (d := 127) rfl hc (L.fa fa39_0 (Wt.mk rfl rfl) rfl rfl (L.ld (j := 0) bx17.mem nag29 (Wt.mk rfl rfl) rfl rfl rfl rfl (L.mv (Wt.mk rfl rfl) rfl rfl (L.len sl23 (Wt.mk rfl rfl) rfl rfl ?_))))
            obtain ⟨x83, ex83, hm⟩ := bindS hm
            refine L.ix (r := rB) sl29 h9 (Wt.mk rfl rfl) rfl rfl ex83 rfl fun b84 o84 cc84 me84 rd84 => ?_
            obtain rfl := rd84
            exact L.ld (j := 0) me84 nag4 (Wt.mk rfl rfl) rfl rfl rfl rfl (L.mv (Wt.mk rfl rfl) rfl rfl (L.beq Try.underlying4 (Wt.mk rfl rfl) rfl rfl rfl (L.pkT Wt.no rfl rfl rfl rfl (L.sb (J82 _ _ ⟨(x83 == p5), (Option.some.inj hm).symm, rfl, rfl⟩) rfl))))
           ·exact L.know (d := 127) rfl hc (L.skip rfl rfl rfl rfl (L.skip rfl rfl rfl rfl (L.skip rfl rfl rfl rfl (L.skip rfl rfl rfl rfl (L.skip rfl rfl rfl rfl (L.skip rfl rfl rfl rfl (L.skip rfl rfl rfl rfl (L.skip rfl rfl rfl rfl (L.pkF Wt.no rfl rfl rfl rfl (L.sb (J82 _ _ ⟨false, (Option.some.inj hm).symm, rfl, rfl⟩) rfl))))))))))
         ·intro J85
          rcases Bool.eq_false_or_eq_true b76 with hc | hc
          ·exact L.know (d := 122) rfl hc (L.mv (Wt.mk rfl rfl) rfl rfl (L.mv (Wt.mk rfl rfl) rfl rfl (L.beq Try.underlying4 (Wt.mk rfl rfl) rfl rfl rfl (L.pkT Wt.no rfl rfl rfl rfl (L.sb (J85 _ _ ⟨(r70.1 == p5), (andT hc).symm, rfl, rfl⟩) rfl)))))
          ·exact L.know (d := 122) rfl hc (L.skip rfl rfl rfl rfl (L.skip rfl rfl rfl rfl (L.skip rfl rfl rfl rfl (L.pkF Wt.no rfl rfl rfl rfl (L.sb (J85 _ _ ⟨false, (andF hc).symm, rfl, rfl⟩) rfl)))))
        ·intro J86
         rcases ifS eb76 with ⟨hc, hm⟩ | ⟨hc, hm⟩
         ·refine L.know (d := 117) rfl hc (L.mv (Wt.mk rfl rfl) rfl rfl (L.mv (Wt.mk rfl rfl) rfl rfl ?_))
          obtain ⟨r87, er87, hm⟩ := bindS hm
          refine L.ca cf20 rfl rfl (Wt.mk rfl rfl) rfl (Calls.lendG (s0 := (Sig.drop N s71)) (s := s71) rfl (m_slices_Equal_int_c (s := (Sig.drop N s71)) (p0 := r66.1) (p1 := u61) (h69.mono (Sig.drop_le N _)) (h59.drop (Nat.le_add_right _ _)) er87) (fun v s' h => h)) rfl ?_
          rintro _ s88 m89 rfl
          replace m0 := m0.trans m89.no
          replace h4 := h4.mono (m89.le no_No)
          replace bx17 := bx17.mv m89 no_No
          replace h9 := h9.mono (m89.le no_No)
          replace h10 := h10.mono (m89.le no_No)
          exact L.pkT Wt.no rfl rfl rfl rfl (L.sb (J86 _ _ ⟨s88, r87, (Option.some.inj hm).symm, m0, h4, h9, h10, bx17, rfl, rfl⟩) rfl)
         ·exact L.know (d := 117) rfl hc (L.skip rfl rfl rfl rfl (L.skip rfl rfl rfl rfl (L.skip rfl rfl rfl rfl (L.pkF Wt.no rfl rfl rfl rfl (L.sb (J86 _ _ ⟨s71, false, (Option.some.inj hm).symm, m0, h4, h9, h10, bx17, rfl, rfl⟩) rfl)))))
       ·intro J90
        rcases Bool.eq_false_or_eq_true (((r63.2 == 0) && (r66.2 == 0)) && (r70.2 == 0)) with hc | hc
        ·exact L.know (d := 112) rfl hc (L.mv (Wt.mk rfl rfl) rfl rfl (L.mv (Wt.mk rfl rfl) rfl rfl (L.bi (Wt.mk rfl rfl) rfl rfl rfl rfl (L.pkT Wt.no rfl rfl rfl rfl (L.sb (J90 _ _ ⟨(r63.1 == p4), (andT hc).symm, rfl, rfl⟩) rfl)))))
        ·exact L.know (d := 112) rfl hc (L.skip rfl rfl rfl rfl (L.skip rfl rfl rfl rfl (L.skip rfl rfl rfl rfl (L.pkF Wt.no rfl rfl rfl rfl (L.sb (J90 _ _ ⟨false, (andF hc).symm, rfl, rfl⟩) rfl)))))
      ·intro J91
       rcases Bool.eq_false_or_eq_true ((r63.2 == 0) && (r66.2 == 0)) with hc | hc
       ·exact L.know (d := 108) rfl hc (L.mv (Wt.mk rfl rfl) rfl rfl (L.bi (Wt.mk rfl rfl) rfl rfl rfl rfl (L.pkT Wt.no rfl rfl rfl rfl (L.sb (J91 _ _ ⟨(r70.2 == 0), (andT hc).symm, rfl, rfl⟩) rfl))))
       ·exact L.know (d := 108) rfl hc (L.skip rfl rfl rfl rfl (L.skip rfl rfl rfl rfl (L.pkF Wt.no rfl rfl rfl rfl (L.sb (J91 _ _ ⟨false, (andF hc).symm, rfl, rfl⟩) rfl))))
     ·intro J92
      rcases Bool.eq_false_or_eq_true (r63.2 == 0) with hc | hc
      ·exact L.know (d := 104) rfl hc (L.mv (Wt.mk rfl rfl) rfl rfl (L.bi (Wt.mk rfl rfl) rfl rfl rfl rfl (L.pkT Wt.no rfl rfl rfl rfl (L.sb (J92 _ _ ⟨(r66.2 == 0), (andT hc).symm, rfl, rfl⟩) rfl))))
      ·exact L.know (d := 104) rfl hc (L.skip rfl rfl rfl rfl (L.skip rfl rfl rfl rfl (L.pkF Wt.no rfl rfl rfl rfl (L.sb (J92 _ _ ⟨false, (andF hc).symm, rfl, rfl⟩) rfl))))
    intro K93
    refine E.cut (x := .ret) (fun e w => ∃ (s95 : Sig) (u94 : Unit), o57 = .inr (u94) ∧ Mv (Up N No) s s95 ∧ e = [(14, .bool false)] ∧ w = s95.w) ?_ ?_
    ·rintro _ _ ⟨s95, u94, rfl, m0, rfl, rfl⟩
     dsimp only at hm
     refine X.blkR (X.seqR ?_)
     obtain rfl := Option.some.inj hm
     exact X.rt (.inl rfl) Try.results15 (Rs.tmp rfl Rs.nil) rfl ⟨_, (s95).ren N (fun _ => 0), rfl, rfl, m0.ren hNb, rfl⟩
    intro K96
    refine E.iter (fun (st57 : Int × List Int) (e : List (Nat × Value)) (w : World) => ∃ (s60 : Sig) (a31 : Option Addr) (c31 : Nat), Mv (Up N No) s s60 ∧ RdL (rK .i64) s60 a4 c4 p1 ∧ RowT (rK .i64) s60 (N + 3) 3 a31 c31 st57.2 ∧ RdL (rK .i64) s60 a1 c1 p0.1 ∧ RdL (rK .i64) s60 a2 c2 p0.2.2.1 ∧ RdL (rP (rK .i64) (rP (rK .i64) (rK .i64))) s60 a3 c3 p0.2.2.2 ∧ RdL rB s60 a5 c5 p2.1.2.2.2.1 ∧ RdL (rP (rK .i64) (rK .i64)) s60 a6 c6 p2.1.2.2.2.2 ∧ RdL (rK .i64) s60 a7 c7 p2.2.1 ∧ RdL (rK .i64) s60 a8 c8 p2.2.2.1 ∧ RdL rB s60 a9 c9 p3.1 ∧ RdL rB s60 a10 c10 p3.2 ∧ Bx s60 (N + 0) b11 #[.slice a1 p0.1.length c1, .int .i64 p0.2.1, .slice a2 p0.2.2.1.length c2, .slice a3 p0.2.2.2.length c3] 26 ∧ Bx s60 (N + 1) b14 #[.int .i64 p2.1.1, .int .i64 p2.1.2.1, .int .i64 p2.1.2.2.1, .slice a5 p2.1.2.2.2.1.length c5, .slice a6 p2.1.2.2.2.2.length c6, .slice a7 p2.2.1.length c7, .slice a8 p2.2.2.1.length c8, .int .i64 p2.2.2.2] 34 ∧ Bx s60 (N + 2) b17 #[.slice a9 p3.1.length c9, .slice a10 p3.2.length c10] 39 ∧ e = [(58, .int .i64 st57.1), (57, .int .i64 (p1.length : Int)), (56, .slice a4 p1.length c4), (16, .slice a31 st57.2.length c31), (10, .pointer (some ⟨b17, 0, none⟩)), (9, .pointer (some ⟨b14, 0, none⟩)), (7, .pointer (some ⟨b11, 0, none⟩)), (1, .slice a4 p1.length c4), (4, .int .i64 p4), (5, .bool p5), (6, .bool p6)] ∧ w = s60.w) eo57 ⟨s28, none, 0, m0, h4, RowT.nil, h1, h2, h3, h5, h6, h7, h8, h9, h10, bx11, bx14, bx17, rfl, rfl⟩ (Sub.rf rfl) ?_
    rintro st57 res57 hm ih57 ho57 _ _ ⟨s60, a31, c31, m0, h4, h31, h1, h2, h3, h5, h6, h7, h8, h9, h10, bx11, bx14, bx17, rfl, rfl⟩
    unfold m_overseerlaw53_shows_l2 at hm
    refine E.seq (E.reg (L.bi Wt.no rfl rfl rfl rfl (L.nil (X.seqN (E.seq ?_)))))
    rcases ifS hm with ⟨hc, hm⟩ | ⟨hc, hm⟩
    ·refine E.cT rfl hc (E.skip (X.seqN (E.seqJ (fun e w => ∃ (s99 : Sig) (l97 : List Int) (a98 : Option Addr) (c98 : Nat), m_overseerlaw53_shows_j1 st57 l97 = some res57 ∧ Mv (Up N No) s s99 ∧ RowT (rK .i64) s99 (N + 3) 3 a98 c98 l97 ∧ RdL (rK .i64) s99 a4 c4 p1 ∧ RdL (rK .i64) s99 a1 c1 p0.1 ∧ RdL (rK .i64) s99 a2 c2 p0.2.2.1 ∧ RdL (rP (rK .i64) (rP (rK .i64) (rK .i64))) s99 a3 c3 p0.2.2.2 ∧ RdL rB s99 a5 c5 p2.1.2.2.2.1 ∧ RdL (rP (rK .i64) (rK .i64)) s99 a6 c6 p2.1.2.2.2.2 ∧ RdL (rK .i64) s99 a7 c7 p2.2.1 ∧ RdL (rK .i64) s99 a8 c8 p2.2.2.1 ∧ RdL rB s99 a9 c9 p3.1 ∧ RdL rB s99 a10 c10 p3.2 ∧ Bx s99 (N + 0) b11 #[.slice a1 p0.1.length c1, .int .i64 p0.2.1, .slice a2 p0.2.2.1.length c2, .slice a3 p0.2.2.2.length c3] 26 ∧ Bx s99 (N + 1) b14 #[.int .i64 p2.1.1, .int .i64 p2.1.2.1, .int .i64 p2.1.2.2.1, .slice a5 p2.1.2.2.2.1.length c5, .slice a6 p2.1.2.2.2.2.length c6, .slice a7 p2.2.1.length c7, .slice a8 p2.2.2.1.length c8, .int .i64 p2.2.2.2] 34 ∧ Bx s99 (N + 2) b17 #[.slice a9 p3.1.length c9, .slice a10 p3.2.length c10] 39 ∧ e = [(16, .slice a98 l97.length c98), (58, .int .i64 st57.1), (57, .int .i64 (p1.length : Int)), (56, .slice a4 p1.length c4), (10, .pointer (some ⟨b17, 0, none⟩)), (9, .pointer (some ⟨b14, 0, none⟩)), (7, .pointer (some ⟨b11, 0, none⟩)), (1, .slice a4 p1.length c4), (4, .int .i64 p4), (5, .bool p5), (6, .bool p6)] ∧ w = s99.w) ?_ ?_)))
     ·rintro _ _ ⟨s99, l97, a98, c98, hm, m0, h98, h4, h1, h2, h3, h5, h6, h7, h8, h9, h10, bx11, bx14, bx17, rfl, rfl⟩
      unfold m_overseerlaw53_shows_j1 at hm
      exact E.reg (L.bi Wt.no rfl rfl rfl rfl (L.mv Wt.no rfl rfl (L.nil (X.sub (ih57 _ (Option.some.inj hm).symm _ _ ⟨s99, a98, c98, m0, h4, h98, h1, h2, h3, h5, h6, h7, h8, h9, h10, bx11, bx14, bx17, rfl, rfl⟩) (Sub.rf rfl)))))
     ·intro Jj100
      refine E.block (E.seq (E.reg (L.mv Wt.no rfl rfl ?_)))
      obtain ⟨x101, ex101, hm⟩ := bindS hm
      refine L.ix (r := (rK .i64)) sl23 h4 Wt.no rfl rfl ex101 rfl fun b102 o102 cc102 me102 rd102 => ?_
      obtain rfl := rd102
      refine L.ld (j := 0) me102 nag3 Wt.no rfl rfl rfl rfl (L.as Wt.no rfl rfl (L.as Wt.no rfl rfl (L.nil (X.seqN (E.seq (E.reg (L.mv Wt.no rfl rfl (L.mv Wt.no rfl rfl ?_))))))))
      obtain ⟨b103, eb103, hm⟩ := bindS hm
      refine L.cut 6 (fun e w => ∃ (s105 : Sig) (v104 : Bool), b103 = v104 ∧ Mv (Up N No) s s105 ∧ RdL (rK .i64) s105 a4 c4 p1 ∧ RowT (rK .i64) s105 (N + 3) 3 a31 c31 st57.2 ∧ RdL (rK .i64) s105 a1 c1 p0.1 ∧ RdL (rK .i64) s105 a2 c2 p0.2.2.1 ∧ RdL (rP (rK .i64) (rP (rK .i64) (rK .i64))) s105 a3 c3 p0.2.2.2 ∧ RdL rB s105 a5 c5 p2.1.2.2.2.1 ∧ RdL (rP (rK .i64) (rK .i64)) s105 a6 c6 p2.1.2.2.2.2 ∧ RdL (rK .i64) s105 a7 c7 p2.2.1 ∧ RdL (rK .i64) s105 a8 c8 p2.2.2.1 ∧ RdL rB s105 a9 c9 p3.1 ∧ RdL rB s105 a10 c10 p3.2 ∧ Bx s105 (N + 0) b11 #[.slice a1 p0.1.length c1, .int .i64 p0.2.1, .slice a2 p0.2.2.1.length c2, .slice a3 p0.2.2.2.length c3] 26 ∧ Bx s105 (N + 1) b14 #[.int .i64 p2.1.1, .int .i64 p2.1.2.1, .int .i64 p2.1.2.2.1, .slice a5 p2.1.2.2.2.1.length c5, .slice a6 p2.1.2.2.2.2.length c6, .slice a7 p2.2.1.length c7, .slice a8 p2.2.2.1.length c8, .int .i64 p2.2.2.2] 34 ∧ Bx s105 (N + 2) b17 #[.slice a9 p3.1.length c9, .slice a10 p3.2.length c10] 39 ∧ e = (70, .bool v104) :: [(18, .int .i64 x101), (17, .int .i64 st57.1), (58, .int .i64 st57.1), (57, .int .i64 (p1.length : Int)), (56, .slice a4 p1.length c4), (16, .slice a31 st57.2.length c31), (10, .pointer (some ⟨b17, 0, none⟩)), (9, .pointer (some ⟨b14, 0, none⟩)), (7, .pointer (some ⟨b11, 0, none⟩)), (1, .slice a4 p1.length c4), (4, .int .i64 p4), (5, .bool p5), (6, .bool p6)] ∧ w = s105.w) ?_ ?_
      ·rintro _ _ ⟨s105, v104, rfl, m0, h4, h31, h1, h2, h3, h5, h6, h7, h8, h9, h10, bx11, bx14, bx17, rfl, rfl⟩
       refine L.as Wt.no rfl rfl (L.nil (X.seqN (E.seq (E.seq (E.reg (L.fa fa39_0 Wt.no rfl rfl (L.ld (j := 0) bx17.mem nag29 Wt.no rfl rfl rfl rfl (L.mv Wt.no rfl rfl ?_))))))))
       obtain ⟨x106, ex106, hm⟩ := bindS hm
       refine L.ix (r := rB) sl29 h9 Wt.no rfl rfl ex106 rfl fun b107 o107 cc107 me107 rd107 => ?_
       obtain rfl := rd107
       refine L.ld (j := 0) me107 nag4 Wt.no rfl rfl rfl rfl (L.mv Wt.no rfl rfl (L.bne Try.underlying4 Wt.no rfl rfl rfl (L.nil (X.seqN ?_))))
       rcases ifS hm with ⟨hc, hm⟩ | ⟨hc, hm⟩
       ·refine E.cT rfl hc (E.seq (E.reg (L.as Wt.no rfl rfl (L.nil (X.seqN (E.ret (X.seqR (X.blkR (X.seqR (X.seqR ?_))))))))))
        have hx := ho57 _ (Option.some.inj hm).symm
        exact X.sub (K96 _ _ ⟨s105, (), hx.symm, m0, rfl, rfl⟩) (Sub.rf rfl)
       ·refine E.cF rfl hc (E.skip (X.seqN (E.seq (E.reg (L.mv Wt.no rfl rfl (L.nil (X.seqN ?_)))))))
        rcases ifS hm with ⟨hc, hm⟩ | ⟨hc, hm⟩
        ·refine E.cT rfl hc (E.reg (L.mv Wt.no rfl rfl (L.mv Wt.no rfl rfl (L.bsE (k := 1) (cs := [.int .i64 x101]) 0 bs23 (Nat.le_of_ble_eq_true rfl) Wt.no rfl rfl rfl rfl fun b108 s109 m110 bx108 => ?_))))
         replace m0 := m0.trans m110.no
         replace h4 := h4.mono (m110.le no_No)
         replace h31 := h31.mv m110 no_No no_No
         replace bx11 := bx11.mv m110 no_No
         replace h1 := h1.mono (m110.le no_No)
         replace h2 := h2.mono (m110.le no_No)
         replace h3 := h3.mono (m110.le no_No)
         replace bx14 := bx14.mv m110 no_No
         replace h5 := h5.mono (m110.le no_No)
         replace h6 := h6.mono (m110.le no_No)
         replace h7 := h7.mono (m110.le no_No)
         replace h8 := h8.mono (m110.le no_No)
         replace bx17 := bx17.mv m110 no_No
         replace h9 := h9.mono (m110.le no_No)
         replace h10 := h10.mono (m110.le no_No)
         have h108 := Bx.rdL (r := (rK .i64)) (xs := ([x101] : List Int)) bx108 ⟨[.int .i64 x101], _, rfl, rfl, rfl⟩ (Nat.le_of_ble_eq_true rfl)
         obtain ⟨x111, ex111, hm⟩ := bindS hm
         refine L.ap (r := (rK .i64)) Try.underlying23 el3 rfl (tgp hN) h31 h108.wk Wt.no rfl rfl ex111 rfl fun a112 c112 s113 m114 h112 => ?_
         replace m0 := m0.trans (m114.one up)
         replace h4 := h4.mono (m114.le (tg0 hN))
         replace bx11 := bx11.mv m114 (tgN (by decide))
         replace h1 := h1.mono (m114.le (tg0 hN))
         replace h2 := h2.mono (m114.le (tg0 hN))
         replace h3 := h3.mono (m114.le (tg0 hN))
         replace bx14 := bx14.mv m114 (tgN (by decide))
         replace h5 := h5.mono (m114.le (tg0 hN))
         replace h6 := h6.mono (m114.le (tg0 hN))
         replace h7 := h7.mono (m114.le (tg0 hN))
         replace h8 := h8.mono (m114.le (tg0 hN))
         replace bx17 := bx17.mv m114 (tgN (by decide))
         replace h9 := h9.mono (m114.le (tg0 hN))
         replace h10 := h10.mono (m114.le (tg0 hN))
         exact L.as Wt.no rfl rfl (L.nil (X.blkN (X.sub (Jj100 _ _ ⟨s113, x111, a112, c112, hm, m0, h112, h4, h1, h2, h3, h5, h6, h7, h8, h9, h10, bx11, bx14, bx17, rfl, rfl⟩) (Sub.rf rfl))))
        ·exact E.cF rfl hc (E.skip (X.blkN (X.sub (Jj100 _ _ ⟨s105, st57.2, a31, c31, hm, m0, h31, h4, h1, h2, h3, h5, h6, h7, h8, h9, h10, bx11, bx14, bx17, rfl, rfl⟩) (Sub.rf rfl))))
      ·intro J115
       rcases ifS eb103 with ⟨hc, hm⟩ | ⟨hc, hm⟩
       ·refine L.know (d := 64) rfl hc (L.lg (j := 0) (cs := [.slice a1 p0.1.length c1, .int .i64 p0.2.1, .slice a2 p0.2.2.1.length c2, .slice a3 p0.2.2.2.length c3]) bx11.mem ag26 (Wt.mk rfl rfl) rfl rfl rfl rfl rfl (L.mv (Wt.mk rfl rfl) rfl rfl (L.mv (Wt.mk rfl rfl) rfl rfl ?_)))
        obtain ⟨r116, er116, hm⟩ := bindS hm
        refine L.ca cf45 rfl rfl (Wt.mk rfl rfl) rfl (m_overseerlaw53_step_c (s := s60) (p0 := p0) (p1 := p4) (p2 := x101) h1 h2 h3 er116) rfl ?_
        rintro _ s117 m118 rfl
        replace m0 := m0.trans m118.no
        replace h4 := h4.mono (m118.le no_No)
        replace h31 := h31.mv m118 no_No no_No
        replace bx11 := bx11.mv m118 no_No
        replace h1 := h1.mono (m118.le no_No)
        replace h2 := h2.mono (m118.le no_No)
        replace h3 := h3.mono (m118.le no_No)
        replace bx14 := bx14.mv m118 no_No
        replace h5 := h5.mono (m118.le no_No)
        replace h6 := h6.mono (m118.le no_No)
        replace h7 := h7.mono (m118.le no_No)
        replace h8 := h8.mono (m118.le no_No)
        replace bx17 := bx17.mv m118 no_No
        replace h9 := h9.mono (m118.le no_No)
        replace h10 := h10.mono (m118.le no_No)
        exact L.bi (Wt.mk rfl rfl) rfl rfl rfl rfl (L.pkT Wt.no rfl rfl rfl rfl (L.sb (J115 _ _ ⟨s117, (decide (r116 ≥ 0)), (Option.some.inj hm).symm, m0, h4, h31, h1, h2, h3, h5, h6, h7, h8, h9, h10, bx11, bx14, bx17, rfl, rfl⟩) rfl))
       ·exact L.know (d := 64) rfl hc (L.skip rfl rfl rfl rfl (L.skip rfl rfl rfl rfl (L.skip rfl rfl rfl rfl (L.skip rfl rfl rfl rfl (L.skip rfl rfl rfl rfl (L.pkF Wt.no rfl rfl rfl rfl (L.sb (J115 _ _ ⟨s60, false, (Option.some.inj hm).symm, m0, h4, h31, h1, h2, h3, h5, h6, h7, h8, h9, h10, bx11, bx14, bx17, rfl, rfl⟩) rfl)))))))
    ·refine E.cF rfl hc (E.exit (X.seqX (X.seqX ?_)))
     have hx := ho57 _ (Option.some.inj hm).symm
     exact X.sub (K93 _ _ ⟨s60, st57.2, a31, c31, hx.symm, m0, h31, h4, h5, h6, h7, h8, h9, h10, bx14, bx17, rfl, rfl⟩) (Sub.rf rfl)
   intro K119
   refine E.cut (x := .ret) (fun e w => ∃ (s121 : Sig) (u120 : Unit), o25 = .inr (u120) ∧ Mv (Up N No) s s121 ∧ e = [(14, .bool false)] ∧ w = s121.w) ?_ ?_
   ·rintro _ _ ⟨s121, u120, rfl, m0, rfl, rfl⟩
    dsimp only at hm
    refine X.blkR (X.seqR ?_)
    obtain rfl := Option.some.inj hm
    exact X.rt (.inl rfl) Try.results15 (Rs.tmp rfl Rs.nil) rfl ⟨_, (s121).ren N (fun _ => 0), rfl, rfl, m0.ren hNb, rfl⟩
   intro K122
   refine E.iter (fun (st25 : Int) (e : List (Nat × Value)) (w : World) => ∃ (s26 : Sig), Mv (Up N No) s s26 ∧ RdL (rK .i64) s26 a4 c4 p1 ∧ RdL (rK .i64) s26 a1 c1 p0.1 ∧ RdL (rK .i64) s26 a2 c2 p0.2.2.1 ∧ RdL (rP (rK .i64) (rP (rK .i64) (rK .i64))) s26 a3 c3 p0.2.2.2 ∧ RdL rB s26 a5 c5 p2.1.2.2.2.1 ∧ RdL (rP (rK .i64) (rK .i64)) s26 a6 c6 p2.1.2.2.2.2 ∧ RdL (rK .i64) s26 a7 c7 p2.2.1 ∧ RdL (rK .i64) s26 a8 c8 p2.2.2.1 ∧ RdL rB s26 a9 c9 p3.1 ∧ RdL rB s26 a10 c10 p3.2 ∧ Bx s26 (N + 0) b11 #[.slice a1 p0.1.length c1, .int .i64 p0.2.1, .slice a2 p0.2.2.1.length c2, .slice a3 p0.2.2.2.length c3] 26 ∧ Bx s26 (N + 1) b14 #[.int .i64 p2.1.1, .int .i64 p2.1.2.1, .int .i64 p2.1.2.2.1, .slice a5 p2.1.2.2.2.1.length c5, .slice a6 p2.1.2.2.2.2.length c6, .slice a7 p2.2.1.length c7, .slice a8 p2.2.2.1.length c8, .int .i64 p2.2.2.2] 34 ∧ Bx s26 (N + 2) b17 #[.slice a9 p3.1.length c9, .slice a10 p3.2.length c10] 39 ∧ e = [(43, .int .i64 st25), (42, .int .i64 p0.2.1), (10, .pointer (some ⟨b17, 0, none⟩)), (9, .pointer (some ⟨b14, 0, none⟩)), (7, .pointer (some ⟨b11, 0, none⟩)), (1, .slice a4 p1.length c4), (4, .int .i64 p4), (5, .bool p5), (6, .bool p6)] ∧ w = s26.w) eo25 ⟨s18, m0, h4, h1, h2, h3, h5, h6, h7, h8, h9, h10, bx11, bx14, bx17, rfl, rfl⟩ (Sub.rf rfl) ?_
   rintro st25 res25 hm ih25 ho25 _ _ ⟨s26, m0, h4, h1, h2, h3, h5, h6, h7, h8, h9, h10, bx11, bx14, bx17, rfl, rfl⟩
   unfold m_overseerlaw53_shows_l1 at hm
   refine E.seq (E.reg (L.bi Wt.no rfl rfl rfl rfl (L.nil (X.seqN (E.seq ?_)))))
   rcases ifS hm with ⟨hc, hm⟩ | ⟨hc, hm⟩
   ·refine E.cT rfl hc (E.skip (X.seqN (E.seq (E.block (E.seq (E.reg (L.mv Wt.no rfl rfl (L.as Wt.no rfl rfl (L.nil (X.seqN (E.seq (E.reg (L.fa fa39_1 Wt.no rfl rfl (L.ld (j := 1) bx17.mem nag29 Wt.no rfl rfl rfl rfl (L.mv Wt.no rfl rfl ?_)))))))))))))))
    obtain ⟨x123, ex123, hm⟩ := bindS hm
    refine L.ix (r := rB) sl29 h10 Wt.no rfl rfl ex123 rfl fun b124 o124 cc124 me124 rd124 => ?_
    obtain rfl := rd124
    refine L.ld (j := 0) me124 nag4 Wt.no rfl rfl rfl rfl (L.mv Wt.no rfl rfl (L.mv Wt.no rfl rfl (L.bi Wt.no rfl rfl rfl rfl (L.bne Try.underlying4 Wt.no rfl rfl rfl (L.nil (X.seqN ?_))))))
    rcases ifS hm with ⟨hc, hm⟩ | ⟨hc, hm⟩
    ·refine E.cT rfl hc (E.seq (E.reg (L.as Wt.no rfl rfl (L.nil (X.seqN (E.ret (X.blkR (X.seqR (X.seqR ?_)))))))))
     have hx := ho25 _ (Option.some.inj hm).symm
     exact X.sub (K122 _ _ ⟨s26, (), hx.symm, m0, rfl, rfl⟩) (Sub.rf rfl)
    ·exact E.cF rfl hc (E.skip (X.blkN (X.seqN (E.reg (L.bi Wt.no rfl rfl rfl rfl (L.mv Wt.no rfl rfl (L.nil (X.sub (ih25 _ (Option.some.inj hm).symm _ _ ⟨s26, m0, h4, h1, h2, h3, h5, h6, h7, h8, h9, h10, bx11, bx14, bx17, rfl, rfl⟩) (Sub.rf rfl)))))))))
   ·refine E.cF rfl hc (E.exit (X.seqX (X.seqX ?_)))
    have hx := ho25 _ (Option.some.inj hm).symm
    exact X.sub (K119 _ _ ⟨s26, (), hx.symm, m0, h4, h1, h2, h3, h5, h6, h7, h8, h9, h10, bx11, bx14, bx17, rfl, rfl⟩) (Sub.rf rfl)
 ·intro J125
  rcases Bool.eq_false_or_eq_true ((p3.1.length : Int) != (W ((p1.length : Int) + 1))) with hc | hc
  ·exact L.know (d := 33) rfl hc (L.skip rfl rfl rfl rfl (L.skip rfl rfl rfl rfl (L.skip rfl rfl rfl rfl (L.skip rfl rfl rfl rfl (L.skip rfl rfl rfl rfl (L.skip rfl rfl rfl rfl (L.pkT Wt.no rfl rfl rfl rfl (L.sb (J125 _ _ ⟨true, (orT hc).symm, rfl, rfl⟩) rfl))))))))
  ·exact L.know (d := 33) rfl hc (L.fa fa39_1 (Wt.mk rfl rfl) rfl rfl (L.ld (j := 1) bx17.mem nag29 (Wt.mk rfl rfl) rfl rfl rfl rfl (L.len sl29 (Wt.mk rfl rfl) rfl rfl (L.fa fa26_1 (Wt.mk rfl rfl) rfl rfl (L.ld (j := 1) bx11.mem nag3 (Wt.mk rfl rfl) rfl rfl rfl rfl (L.bi (Wt.mk rfl rfl) rfl rfl rfl rfl (L.pkF Wt.no rfl rfl rfl rfl (L.sb (J125 _ _ ⟨(decide ((p3.2.length : Int) < p0.2.1)), (orF hc).symm, rfl, rfl⟩) rfl))))))))

theorem cf11 : Cf Try.prog 11 := Cf.mk Try.func11 (by kernel_rfl) (by kernel_rfl)
theorem cf15 : Cf Try.prog 15 := Cf.mk Try.func15 (by kernel_rfl) (by kernel_rfl)
noncomputable def m_overseerlaw03_Set_Events_j1 (st20 : Int × List Int) (l26 : List Int) : Option ((Int × List Int) ⊕ (List Int)) :=
  some (.inl (W (st20.1 + 1), l26))
noncomputable def m_overseerlaw03_Set_Events_l1 (p0 : Int) (st20 : Int × List Int) : Option ((Int × List Int) ⊕ (List Int)) :=
  if decide (st20.1 < 5) then
    (ng st20.1).bind fun _ =>
    if ((IntKind.u8.wrap (((BitVec.ofInt 8 (p0.fdiv (2 ^ (min st20.1.toNat 8))) &&& BitVec.ofInt 8 1).toNat : Int))) == 1) then
      (app st20.2 ([st20.1] : List Int)).bind fun x34 =>
      m_overseerlaw03_Set_Events_j1 st20 x34
    else
      m_overseerlaw03_Set_Events_j1 st20 st20.2
  else
    some (.inr st20.2)
/-- What overseerlaw03.Set).Events computes. -/
noncomputable def m_overseerlaw03_Set_Events (p0 : Int) : Option (List Int) :=
  (iter (m_overseerlaw03_Set_Events_l1 p0) (0, ([] : List Int))).bind fun o20 =>
  some o20
set_option maxRecDepth 100000 in
set_option maxHeartbeats 8000000 in
theorem m_overseerlaw03_Set_Events_c {s : Sig} {p0 : Int} {u0 : Nat} {r : List Int} (hm : m_overseerlaw03_Set_Events p0 = some r) :
    Calls Try.prog 47 #[.int .u8 p0] s.w (RetS No s fun v s' => ∃ (a1 : Option Addr) (c1 : Nat), v = .slice a1 r.length c1 ∧ RowT (rK .i64) s' u0 3 a1 c1 r) := by
 unfold m_overseerlaw03_Set_Events at hm
 obtain ⟨N, hN, hNb⟩ := s.fresh
 have m0 : Mv (Up N No) s s := Mv.refl _ _
 refine E.entry Try.func47 rfl Try.ntmps47 rfl rfl (E.seq (E.reg (L.as Wt.no rfl rfl (L.nil (X.seqN (E.seq (E.reg (L.as Wt.no rfl rfl (L.nil (X.seqN (E.seq (E.seq (E.reg (L.as Wt.no rfl rfl (L.nil (X.seqN (E.block ?_)))))))))))))))))
 obtain ⟨o20, eo20, hm⟩ := bindS hm
 refine E.cut (x := .exit 0) (fun e w => ∃ (s24 : Sig) (a22 : Option Addr) (c22 : Nat), Mv (Up N No) s s24 ∧ RowT (rK .i64) s24 (N + 0) 3 a22 c22 o20 ∧ e = [(3, .slice a22 o20.length c22)] ∧ w = s24.w) ?_ ?_
 ·rintro _ _ ⟨s24, a22, c22, m0, h22, rfl, rfl⟩
  refine X.blkE (X.seqN (E.seq (E.reg (L.mv Wt.no rfl rfl (L.as Wt.no rfl rfl (L.nil (X.seqN (E.ret ?_))))))))
  obtain rfl := Option.some.inj hm
  exact X.rt (.inl rfl) Try.results47 (Rs.tmp rfl Rs.nil) rfl ⟨_, (s24).ren N (fun k => cond (Nat.beq k 0) u0 (0)), rfl, rfl, m0.ren hNb, ⟨a22, c22, rfl, (h22.ren hN)⟩⟩
 intro K25
 refine E.iter (fun (st20 : Int × List Int) (e : List (Nat × Value)) (w : World) => ∃ (s23 : Sig) (a4 : Option Addr) (c4 : Nat), Mv (Up N No) s s23 ∧ RowT (rK .i64) s23 (N + 0) 3 a4 c4 st20.2 ∧ e = [(4, .int .i64 st20.1), (3, .slice a4 st20.2.length c4), (0, .int .u8 p0)] ∧ w = s23.w) eo20 ⟨s, none, 0, m0, RowT.nil, rfl, rfl⟩ (Sub.rf rfl) ?_
 rintro st20 res20 hm ih20 ho20 _ _ ⟨s23, a4, c4, m0, h4, rfl, rfl⟩
 unfold m_overseerlaw03_Set_Events_l1 at hm
 refine E.seq (E.seq (E.reg (L.mv Wt.no rfl rfl (L.bi Wt.no rfl rfl rfl rfl (L.nil (X.seqN ?_))))))
 rcases ifS hm with ⟨hc, hm⟩ | ⟨hc, hm⟩
 ·refine E.cT rfl hc (E.skip (X.seqN (E.seqJ (fun e w => ∃ (s28 : Sig) (l26 : List Int) (a27 : Option Addr) (c27 : Nat), m_overseerlaw03_Set_Events_j1 st20 l26 = some res20 ∧ Mv (Up N No) s s28 ∧ RowT (rK .i64) s28 (N + 0) 3 a27 c27 l26 ∧ e = [(3, .slice a27 l26.length c27), (4, .int .i64 st20.1), (0, .int .u8 p0)] ∧ w = s28.w) ?_ ?_)))
  ·rintro _ _ ⟨s28, l26, a27, c27, hm, m0, h27, rfl, rfl⟩
   unfold m_overseerlaw03_Set_Events_j1 at hm
   exact E.reg (L.mv Wt.no rfl rfl (L.bi Wt.no rfl rfl rfl rfl (L.as Wt.no rfl rfl (L.nil (X.sub (ih20 _ (Option.some.inj hm).symm _ _ ⟨s28, a27, c27, m0, h27, rfl, rfl⟩) (Sub.rf rfl))))))
  ·intro Jj29
   refine E.block (E.seq (E.reg (L.mv Wt.no rfl rfl (L.mv Wt.no rfl rfl ?_))))
   obtain ⟨_, z30, hm⟩ := bindS hm
   refine L.shr Wt.no rfl rfl (ng_some z30) rfl (L.bi Wt.no rfl rfl rfl rfl (L.bi Wt.no rfl rfl rfl rfl (L.nil (X.seqN ?_))))
   rcases ifS hm with ⟨hc, hm⟩ | ⟨hc, hm⟩
   ·refine E.cT rfl hc (E.reg (L.mv Wt.no rfl rfl (L.mv Wt.no rfl rfl (L.bsE (k := 1) (cs := [.int .i64 st20.1]) 0 bs23 (Nat.le_of_ble_eq_true rfl) Wt.no rfl rfl rfl rfl fun b31 s32 m33 bx31 => ?_))))
    replace m0 := m0.trans m33.no
    replace h4 := h4.mv m33 no_No no_No
    have h31 := Bx.rdL (r := (rK .i64)) (xs := ([st20.1] : List Int)) bx31 ⟨[.int .i64 st20.1], _, rfl, rfl, rfl⟩ (Nat.le_of_ble_eq_true rfl)
    obtain ⟨x34, ex34, hm⟩ := bindS hm
    refine L.ap (r := (rK .i64)) Try.underlying23 el3 rfl (tgp hN) h4 h31.wk Wt.no rfl rfl ex34 rfl fun a35 c35 s36 m37 h35 => ?_
    replace m0 := m0.trans (m37.one up)
    exact L.as Wt.no rfl rfl (L.nil (X.blkN (X.sub (Jj29 _ _ ⟨s36, x34, a35, c35, hm, m0, h35, rfl, rfl⟩) (Sub.rf rfl))))
   ·exact E.cF rfl hc (E.skip (X.blkN (X.sub (Jj29 _ _ ⟨s23, st20.2, a4, c4, hm, m0, h4, rfl, rfl⟩) (Sub.rf rfl))))
 ·refine E.cF rfl hc (E.exit (X.seqX (X.seqX ?_)))
  have hx := ho20 _ (Option.some.inj hm).symm
  subst hx
  exact X.sub (K25 _ _ ⟨s23, a4, c4, m0, h4, rfl, rfl⟩) (Sub.rf rfl)

/-- What overseerref03.Empty computes. -/
noncomputable def m_overseerref03_Empty (p0 : List Int) : Option (List Int × Int × List Int × (List (Int × Int × Int))) :=
  (app ([] : List Int) p0).bind fun x11 =>
  some (x11, 0, ([] : List Int), ([] : List (Int × Int × Int)))
set_option maxRecDepth 100000 in
set_option maxHeartbeats 8000000 in
theorem m_overseerref03_Empty_c {s : Sig} {p0 : List Int} {a1 : Option Addr} {c1 : Nat} {u0 : Nat} {u1 : Nat} {u2 : Nat} {r : (List Int × Int × List Int × (List (Int × Int × Int)))} (h1 : RdL (rK .i64) s a1 c1 p0) (hm : m_overseerref03_Empty p0 = some r) :
    Calls Try.prog 70 #[.slice a1 p0.length c1] s.w (RetS No s fun v s' => ∃ (a2 : Option Addr) (c2 : Nat) (a3 : Option Addr) (c3 : Nat) (a4 : Option Addr) (c4 : Nat), v = .agg #[.slice a2 r.1.length c2, .int .i64 r.2.1, .slice a3 r.2.2.1.length c3, .slice a4 r.2.2.2.length c4] ∧ RowT (rK .i64) s' u0 3 a2 c2 r.1 ∧ RowT (rK .i64) s' u1 3 a3 c3 r.2.2.1 ∧ RowT (rP (rK .i64) (rP (rK .i64) (rK .i64))) s' u2 28 a4 c4 r.2.2.2) := by
 unfold m_overseerref03_Empty at hm
 obtain ⟨N, hN, hNb⟩ := s.fresh
 have m0 : Mv (Up N No) s s := Mv.refl _ _
 refine E.entry Try.func70 rfl Try.ntmps70 rfl rfl (E.seq (E.reg (L.al (N + 0) zz26 rfl Wt.no rfl fun b5 s6 m7 bx5 => ?_)))
 replace m0 := m0.trans m7.no
 replace h1 := h1.mono (m7.le no_No)
 refine L.nil (X.seqN (E.seq (E.reg (L.bs0 (N + 1) bs23 (Nat.le_of_ble_eq_true rfl) Wt.no rfl fun b8 s9 m10 bx8 => ?_))))
 replace m0 := m0.trans m10.no
 replace h1 := h1.mono (m10.le no_No)
 replace bx5 := bx5.mv m10 no_No
 have h8 := Bx.row (r := (rK .i64)) (xs := ([] : List Int)) bx8 rfl (Nat.le_of_ble_eq_true rfl)
 refine L.mv Wt.no rfl rfl ?_
 obtain ⟨x11, ex11, hm⟩ := bindS hm
 refine L.ap (r := (rK .i64)) Try.underlying23 el3 rfl (tgp hN) h8 h1.wk Wt.no rfl rfl ex11 rfl fun a12 c12 s13 m14 h12 => ?_
 replace m0 := m0.trans (m14.one up)
 replace bx5 := bx5.mv m14 (tgN (by decide))
 refine L.bu (cs := [.slice a12 x11.length c12, .int .i64 0, .slice none 0 0, .slice none 0 0]) pl26 Wt.no rfl rfl rfl (L.st (c := [.slice a12 x11.length c12, .int .i64 0, .slice none 0 0, .slice none 0 0]) (cs' := #[.slice a12 x11.length c12, .int .i64 0, .slice none 0 0, .slice none 0 0]) bx5 ag26.sz Wt.no rfl rfl rfl rfl rfl (Nat.le_of_ble_eq_true rfl) rfl fun s15 m16 bx5 => ?_)
 replace m0 := m0.trans (m16.one up)
 replace h12 := h12.mv m16 (tgN (by decide)) (tg0 hN)
 refine L.nil (X.seqN (E.ret ?_))
 obtain rfl := Option.some.inj hm
 exact X.rt (.inl rfl) Try.results70 (Rs.cell rfl bx5 ag26 rfl Rs.nil) rfl ⟨_, (s15).ren N (fun k => cond (Nat.beq k 1) u0 (0)), rfl, rfl, m0.ren hNb, ⟨a12, c12, none, 0, none, 0, rfl, (h12.ren hN), RowT.nil, RowT.nil⟩⟩

noncomputable def m_overseerref03_Step_l1 (p0 : List Int × Int × List Int × (List (Int × Int × Int))) (p1 : Int) (p2 : Int) (st18 : Int) : Option (Int ⊕ (Unit ⊕ Int)) :=
  if decide (st18 < (p0.2.2.2.length : Int)) then
    (idx p0.2.2.2 st18).bind fun x27 =>
    (if (x27.1 == p1) then
      (idx p0.2.2.2 st18).bind fun x34 =>
      some (x34.2.1 == p2)
    else
      some false).bind fun b29 =>
    if b29 then
      (idx p0.2.2.2 st18).bind fun x31 =>
      some (.inr (.inr (x31.2.2)))
    else
      some (.inl (W (st18 + 1)))
  else
    some (.inr (.inl ()))
/-- What overseerref03.Step computes. -/
noncomputable def m_overseerref03_Step (p0 : List Int × Int × List Int × (List (Int × Int × Int))) (p1 : Int) (p2 : Int) : Option Int :=
  (iter (m_overseerref03_Step_l1 p0 p1 p2) 0).bind fun o18 =>
  match o18 with
  | .inl u21 =>
    some (-1)
  | .inr (u24) =>
    some u24
set_option maxRecDepth 100000 in
set_option maxHeartbeats 8000000 in
theorem m_overseerref03_Step_c {s : Sig} {p0 : List Int × Int × List Int × (List (Int × Int × Int))} {p1 : Int} {p2 : Int} {a1 : Option Addr} {c1 : Nat} {a2 : Option Addr} {c2 : Nat} {a3 : Option Addr} {c3 : Nat} {r : Int} (h1 : RdL (rK .i64) s a1 c1 p0.1) (h2 : RdL (rK .i64) s a2 c2 p0.2.2.1) (h3 : RdL (rP (rK .i64) (rP (rK .i64) (rK .i64))) s a3 c3 p0.2.2.2) (hm : m_overseerref03_Step p0 p1 p2 = some r) :
    Calls Try.prog 82 #[.agg #[.slice a1 p0.1.length c1, .int .i64 p0.2.1, .slice a2 p0.2.2.1.length c2, .slice a3 p0.2.2.2.length c3], .int .i64 p1, .int .i64 p2] s.w (RetS No s fun v s' => v = .int .i64 r) := by
 unfold m_overseerref03_Step at hm
 obtain ⟨N, hN, hNb⟩ := s.fresh
 have m0 : Mv (Up N No) s s := Mv.refl _ _
 refine E.entry Try.func82 rfl Try.ntmps82 rfl rfl (E.seq (E.reg (L.box (N + 0) Wt.no rfl rfl rfl fun b4 s5 m6 bx4 => ?_)))
 replace m0 := m0.trans m6.no
 replace h1 := h1.mono (m6.le no_No)
 replace h2 := h2.mono (m6.le no_No)
 replace h3 := h3.mono (m6.le no_No)
 refine L.as Wt.no rfl rfl (L.nil (X.seqN (E.seq (E.seq (E.reg (L.as Wt.no rfl rfl (L.nil (X.seqN (E.block ?_)))))))))
 obtain ⟨o18, eo18, hm⟩ := bindS hm
 refine E.cut (x := .exit 0) (fun e w => ∃ (s22 : Sig) (u21 : Unit), o18 = .inl u21 ∧ Mv (Up N No) s s22 ∧ e = [] ∧ w = s22.w) ?_ ?_
 ·rintro _ _ ⟨s22, u21, rfl, m0, rfl, rfl⟩
  dsimp only at hm
  refine X.blkE (X.seqN (E.seq (E.reg (L.as Wt.no rfl rfl (L.nil (X.seqN (E.ret ?_)))))))
  obtain rfl := Option.some.inj hm
  exact X.rt (.inl rfl) Try.results82 (Rs.tmp rfl Rs.nil) rfl ⟨_, (s22).ren N (fun _ => 0), rfl, rfl, m0.ren hNb, rfl⟩
 intro K23
 refine E.cut (x := .ret) (fun e w => ∃ (s25 : Sig) (u24 : Int), o18 = .inr (u24) ∧ Mv (Up N No) s s25 ∧ e = [(6, .int .i64 u24)] ∧ w = s25.w) ?_ ?_
 ·rintro _ _ ⟨s25, u24, rfl, m0, rfl, rfl⟩
  dsimp only at hm
  refine X.blkR (X.seqR ?_)
  obtain rfl := Option.some.inj hm
  exact X.rt (.inl rfl) Try.results82 (Rs.tmp rfl Rs.nil) rfl ⟨_, (s25).ren N (fun _ => 0), rfl, rfl, m0.ren hNb, rfl⟩
 intro K26
 refine E.iter (fun (st18 : Int) (e : List (Nat × Value)) (w : World) => ∃ (s20 : Sig), Mv (Up N No) s s20 ∧ RdL (rK .i64) s20 a1 c1 p0.1 ∧ RdL (rK .i64) s20 a2 c2 p0.2.2.1 ∧ RdL (rP (rK .i64) (rP (rK .i64) (rK .i64))) s20 a3 c3 p0.2.2.2 ∧ Bx s20 (N + 0) b4 #[.slice a1 p0.1.length c1, .int .i64 p0.2.1, .slice a2 p0.2.2.1.length c2, .slice a3 p0.2.2.2.length c3] 26 ∧ e = [(7, .int .i64 st18), (3, .pointer (some ⟨b4, 0, none⟩)), (1, .int .i64 p1), (2, .int .i64 p2)] ∧ w = s20.w) eo18 ⟨s5, m0, h1, h2, h3, bx4, rfl, rfl⟩ (Sub.rf rfl) ?_
 rintro st18 res18 hm ih18 ho18 _ _ ⟨s20, m0, h1, h2, h3, bx4, rfl, rfl⟩
 unfold m_overseerref03_Step_l1 at hm
 refine E.seq (E.seq (E.reg (L.mv Wt.no rfl rfl (L.fa fa26_3 Wt.no rfl rfl (L.ld (j := 3) bx4.mem nag24 Wt.no rfl rfl rfl rfl (L.len sl24 Wt.no rfl rfl (L.bi Wt.no rfl rfl rfl rfl (L.nil (X.seqN ?_)))))))))
 rcases ifS hm with ⟨hc, hm⟩ | ⟨hc, hm⟩
 ·refine E.cT rfl hc (E.skip (X.seqN (E.seq (E.block (E.seq (E.reg (L.fa fa26_3 Wt.no rfl rfl (L.ld (j := 3) bx4.mem nag24 Wt.no rfl rfl rfl rfl (L.mv Wt.no rfl rfl ?_)))))))))
  obtain ⟨x27, ex27, hm⟩ := bindS hm
  refine L.ix (r := (rP (rK .i64) (rP (rK .i64) (rK .i64)))) sl24 h3 Wt.no rfl rfl ex27 rfl fun b28 o28 cc28 me28 rd28 => ?_
  obtain ⟨_, _, rfl, rfl, ⟨_, _, rfl, rfl, rfl⟩⟩ := rd28
  refine L.fa fa28_0 Wt.no rfl rfl (L.ld (j := 0) me28 nag3 Wt.no rfl rfl rfl rfl (L.mv Wt.no rfl rfl (L.bi Wt.no rfl rfl rfl rfl (L.mv Wt.no rfl rfl ?_))))
  obtain ⟨b29, eb29, hm⟩ := bindS hm
  refine L.cut 9 (fun e w => ∃ (v30 : Bool), b29 = v30 ∧ e = (32, .bool v30) :: [(7, .int .i64 st18), (3, .pointer (some ⟨b4, 0, none⟩)), (1, .int .i64 p1), (2, .int .i64 p2)] ∧ w = s20.w) ?_ ?_
  ·rintro _ _ ⟨v30, rfl, rfl, rfl⟩
   refine L.nil (X.seqN ?_)
   rcases ifS hm with ⟨hc, hm⟩ | ⟨hc, hm⟩
   ·refine E.cT rfl hc (E.seq (E.reg (L.fa fa26_3 Wt.no rfl rfl (L.ld (j := 3) bx4.mem nag24 Wt.no rfl rfl rfl rfl (L.mv Wt.no rfl rfl ?_)))))
    obtain ⟨x31, ex31, hm⟩ := bindS hm
    refine L.ix (r := (rP (rK .i64) (rP (rK .i64) (rK .i64)))) sl24 h3 Wt.no rfl rfl ex31 rfl fun b32 o32 cc32 me32 rd32 => ?_
    obtain ⟨_, _, rfl, rfl, ⟨_, _, rfl, rfl, rfl⟩⟩ := rd32
    refine L.fa fa28_2 Wt.no rfl rfl (L.ld (j := 2) me32 nag3 Wt.no rfl rfl rfl rfl (L.as Wt.no rfl rfl (L.nil (X.seqN (E.ret (X.blkR (X.seqR (X.seqR ?_))))))))
    have hx := ho18 _ (Option.some.inj hm).symm
    exact X.sub (K26 _ _ ⟨s20, x31.2.2, hx.symm, m0, rfl, rfl⟩) (Sub.rf rfl)
   ·exact E.cF rfl hc (E.skip (X.blkN (X.seqN (E.reg (L.mv Wt.no rfl rfl (L.bi Wt.no rfl rfl rfl rfl (L.as Wt.no rfl rfl (L.nil (X.sub (ih18 _ (Option.some.inj hm).symm _ _ ⟨s20, m0, h1, h2, h3, bx4, rfl, rfl⟩) (Sub.rf rfl))))))))))
  ·intro J33
   rcases ifS eb29 with ⟨hc, hm⟩ | ⟨hc, hm⟩
   ·refine L.know (d := 23) rfl hc (L.fa fa26_3 (Wt.mk rfl rfl) rfl rfl (L.ld (j := 3) bx4.mem nag24 (Wt.mk rfl rfl) rfl rfl rfl rfl (L.mv (Wt.mk rfl rfl) rfl rfl ?_)))
    obtain ⟨x34, ex34, hm⟩ := bindS hm
    refine L.ix (r := (rP (rK .i64) (rP (rK .i64) (rK .i64)))) sl24 h3 (Wt.mk rfl rfl) rfl rfl ex34 rfl fun b35 o35 cc35 me35 rd35 => ?_
    obtain ⟨_, _, rfl, rfl, ⟨_, _, rfl, rfl, rfl⟩⟩ := rd35
    exact L.fa fa28_1 (Wt.mk rfl rfl) rfl rfl (L.ld (j := 1) me35 nag3 (Wt.mk rfl rfl) rfl rfl rfl rfl (L.mv (Wt.mk rfl rfl) rfl rfl (L.bi (Wt.mk rfl rfl) rfl rfl rfl rfl (L.pkT Wt.no rfl rfl rfl rfl (L.sb (J33 _ _ ⟨(x34.2.1 == p2), (Option.some.inj hm).symm, rfl, rfl⟩) rfl)))))
   ·exact L.know (d := 23) rfl hc (L.skip rfl rfl rfl rfl (L.skip rfl rfl rfl rfl (L.skip rfl rfl rfl rfl (L.skip rfl rfl rfl rfl (L.skip rfl rfl rfl rfl (L.skip rfl rfl rfl rfl (L.skip rfl rfl rfl rfl (L.skip rfl rfl rfl rfl (L.pkF Wt.no rfl rfl rfl rfl (L.sb (J33 _ _ ⟨false, (Option.some.inj hm).symm, rfl, rfl⟩) rfl))))))))))
 ·refine E.cF rfl hc (E.exit (X.seqX (X.seqX ?_)))
  have hx := ho18 _ (Option.some.inj hm).symm
  exact X.sub (K23 _ _ ⟨s20, (), hx.symm, m0, rfl, rfl⟩) Sub.nil

end Go.Proofs.Ytkkemchihllklaa

namespace Go.Proofs.Ytkkemchihllklaa
open Go Go.RowKit

theorem PrgIn.fwd {m c n : Nat} {start : List Bool} {L : List Ins} (h : PrgIn m c n start L) : Fwd L := fun i x hx ho => by
  have hk := h.ok i x hx
  have := hk.op
  exact (hk.jump (by omega)).1
theorem insBits_len (x : Ins) (acc : Bool) (b : List Bool) : (insBits x acc b).length = b.length := by
  unfold insBits
  split
  · simp
  · split
    · simp
    · split
      · simp
      · split <;> simp
theorem scan_go {m c n : Nat} {start : List Bool} {L : List Ins} (h : PrgIn m c n start L) {T} (hT : m_instruction_operations = some T) : ∀ (f i : Nat) (acc : Bool) (xs : List Int) (b : List Bool), L.length ≤ i + f → xs.length ≤ i → b.length = m + c + n →
    (evalAt L i acc b).length = b.length ∧ ∃ ys, iterF (m_instruction_scan_l1 (prgP m c n start L) T) (f + 1) ((i : Int), acc, xs, b) = some (ys, evalAt L i acc b) := by
  intro f
  induction f with
  | zero =>
    intro i acc xs b h1 h2 h3
    rw [evalAt_end (by omega)]
    refine ⟨rfl, xs, ?_⟩
    rw [iterF_succ, m_instruction_scan_l1]
    dsimp only
    rw [if_neg (by simp [prgP]; omega)]
  | succ f ih =>
    intro i acc xs b h1 h2 h3
    by_cases hi : i < L.length
    · have hx : L[i]? = some L[i] := List.getElem?_eq_getElem hi
      have hg := insStep_gt h.fwd hx acc b
      have hl : (insStep L[i] i acc b).2.2.length = b.length := insBits_len ..
      obtain ⟨e1, ys, e2⟩ := ih (insStep L[i] i acc b).1 (insStep L[i] i acc b).2.1 (xs ++ [(i : Int)]) (insStep L[i] i acc b).2.2 (by omega) (by simp; omega) (by omega)
      rw [evalAt_step h.fwd hx, iterF_succ, scan_step h hT hi h2 h3]
      exact ⟨by omega, ys, e2⟩
    · rw [evalAt_end (by omega)]
      refine ⟨rfl, xs, ?_⟩
      rw [iterF_succ, m_instruction_scan_l1]
      dsimp only
      rw [if_neg (by simp [prgP]; omega)]
theorem ops_some : ∃ T, m_instruction_operations = some T := by
  obtain ⟨T, _, h, _⟩ := ops_at (op := 1) (by omega) (by omega)
  exact ⟨T, h⟩
theorem pscan_eq {m c n : Nat} {start : List Bool} {L : List Ins} (h : PrgIn m c n start L) {b : List Bool} (hb : b.length = m + c + n) : (evalAt L 0 false b).length = b.length ∧ ∃ ys, m_instruction_scan (prgP m c n start L) b = some (ys, evalAt L 0 false b) := by
  obtain ⟨T, hT⟩ := ops_some
  obtain ⟨h1, ys, h2⟩ := scan_go h hT L.length 0 false [] b (by omega) (by simp) hb
  have h5 := h.len
  refine ⟨h1, ys, ?_⟩
  rw [m_instruction_scan, hT, Option.bind_some, show iter (m_instruction_scan_l1 (prgP m c n start L) T) (0, false, ([] : List Int), b) = _ from iter_of (by omega) h2]
  rfl
theorem pstate_eq {m c n : Nat} {start : List Bool} {L : List Ins} (h : PrgIn m c n start L) {b : List Bool} (hb : b.length = m + c + n) : m_instruction_state (prgP m c n start L) b = some ((b.drop m).take c, b.drop (m + c)) := by
  have h1 := h.hm; have h2 := h.hc; have h3 := h.hn
  rw [m_instruction_state]
  dsimp only [prgP]
  rw [show (m : Int) + c = ((m + c : Nat) : Int) by omega, W_nat (by omega), slc3, if_pos ⟨by omega, by omega, by omega, by omega⟩, Option.bind_some, slc3, if_pos ⟨by omega, by omega, by omega, by omega⟩, Option.bind_some,
    Int.toNat_natCast, Int.toNat_natCast, Int.toNat_natCast, List.drop_take, List.take_of_length_le (Nat.le_refl _), show m + c - m = c by omega]
/-- A scan of a program. -/
theorem iscan_eq {m c n : Nat} {start : List Bool} {L : List Ins} (h : PrgIn m c n start L) {inp out mem : List Bool} (hi : inp.length = m) (ho : out.length = c) (hm : mem.length = n) :
    m_instruction_Scan (prgP m c n start L) (out, mem) inp = some ((((evalAt L 0 false (inp ++ out ++ mem)).drop m).take c, (evalAt L 0 false (inp ++ out ++ mem)).drop (m + c)), 0) := by
  have hb : (inp ++ out ++ mem).length = m + c + n := by simp; omega
  obtain ⟨h1, ys, h2⟩ := pscan_eq h hb
  rw [m_instruction_Scan, begin_eq h hi ho hm, Option.bind_some, if_neg (by simp)]
  dsimp only
  rw [h2, Option.bind_some]
  dsimp only
  rw [lenEq, if_pos h1, Option.bind_some, pstate_eq h (by omega)]
  rfl
section
variable {a : Aut} {ctrl : List Int} {n : Nat}
/-- The generated program is valid. -/
theorem genP_in (h : GenIn a ctrl n) (ia : Inc a.al) (ic : Inc ctrl) : PrgIn a.al.length (ctrl.length + 1) (n + 1) (true :: List.replicate n false) (genP a ctrl) := by
  have h0 := h.n0; have h1 := h.n1; have h2 := h.es; have h3 := h.al; have h4 := h.ct; have h5 := h.hn
  have h6 := genP_len ia ic (a := a)
  exact ⟨by omega, by omega, by omega, by simp, by omega, genP_ok h5 h.ed⟩
theorem gscan_eq (h : GenIn a ctrl n) (ia : Inc a.al) (ic : Inc ctrl) {ev : List Int} (ie : Inc ev) (hl : ev.length < 4294967296) (he : setErr 32 none ev = 0) (hs : subB ev a.al = true) {out mem : List Bool} (ho : out.length = ctrl.length + 1) (hm : mem.length = n + 1) :
    m_generate_Scan (codeP a ctrl n) (out, mem) ev = some ((((evalAt (genP a ctrl) 0 false (a.al.map (hasB ev) ++ out ++ mem)).drop a.al.length).take (ctrl.length + 1), (evalAt (genP a ctrl) 0 false (a.al.map (hasB ev) ++ out ++ mem)).drop (a.al.length + (ctrl.length + 1))), 0) := by
  have h3 := h.al
  rw [m_generate_Scan, codeP, inputs_eq (by omega) hl ia ie he hs, Option.bind_some, if_neg (by simp)]
  show (m_instruction_Scan (prgP a.al.length (ctrl.length + 1) (n + 1) (true :: List.replicate n false) (genP a ctrl)) (out, mem) (a.al.map (hasB ev))).bind (fun r => some r) = _
  rw [iscan_eq (genP_in h ia ic) (by simp) ho hm]
  rfl
theorem fits_eq {out mem : List Bool} (ho : out.length = ctrl.length + 1) (hm : mem.length = n + 1) : m_generate_fits (codeP a ctrl n) (out, mem) = some 0 := by
  rw [m_generate_fits, if_neg (by simp [codeP, ho, hm])]
theorem alarmed_eq (h : GenIn a ctrl n) {out mem : List Bool} (ho : out.length = ctrl.length + 1) (hm : mem.length = n + 1) : m_generate_Alarmed (codeP a ctrl n) (out, mem) = some (out.getD ctrl.length false, 0) := by
  rw [m_generate_Alarmed, fits_eq ho hm, Option.bind_some, if_neg (by simp), show idx (out, mem).1 ((codeP a ctrl n).2.2.1.length : Int) = some (out[ctrl.length]'(by omega)) from idx_at (xs := out) (i := ctrl.length) (by omega), Option.bind_some, List.getD_eq_getElem?_getD, List.getElem?_eq_getElem (by omega)]
  rfl
theorem enabled_eq (h : GenIn a ctrl n) {out mem : List Bool} (ho : out.length = ctrl.length + 1) (hm : mem.length = n + 1) {q : Int → Bool} (hq : ∀ k, k < ctrl.length → out.getD k false = q (ctrl.getD k 0)) :
    m_generate_Enabled (codeP a ctrl n) (out, mem) = some (ctrl.filter q, 0) := by
  have h4 := h.ct
  have hi : iter (m_generate_Enabled_l1 (codeP a ctrl n) (out, mem)) (0, ([] : List Int)) = some (ctrl.filter q) := by
    have e0 : ((0 : Int), ([] : List Int)) = (fun k : Nat => ((k : Int), (ctrl.take k).filter q)) 0 := by simp
    refine Eq.trans (congrArg _ e0) (iter_run (f := m_generate_Enabled_l1 (codeP a ctrl n) (out, mem)) (fun k : Nat => ((k : Int), (ctrl.take k).filter q)) ctrl.length (by omega) (fun k hk => ?_) ?_)
    · rw [m_generate_Enabled_l1]
      dsimp only
      have ht : (ctrl.take (k + 1)).filter q = (ctrl.take k).filter q ++ (if q ctrl[k] then [ctrl[k]] else []) := by
        rw [List.take_succ_eq_append_getElem hk, List.filter_append]
        cases hc : q ctrl[k] <;> simp [hc]
      have hk3 : out[k]'(by omega) = q ctrl[k] := by
        have := hq k hk
        rwa [List.getD_eq_getElem?_getD, List.getElem?_eq_getElem (by omega), List.getD_eq_getElem?_getD, List.getElem?_eq_getElem hk] at this
      have hlen : ((ctrl.take k).filter q).length ≤ 32 := Nat.le_trans (List.length_filter_le ..) (by simp; omega)
      rw [if_pos (show decide ((k : Int) < ((codeP a ctrl n).2.2.1.length : Int)) = true from decide_eq_true (show (k : Int) < (ctrl.length : Int) by omega)), show idx (codeP a ctrl n).2.2.1 (k : Int) = some ctrl[k] from idx_at hk, Option.bind_some, idx_at (by omega), Option.bind_some, hk3, ht]
      cases hc : q ctrl[k] with
      | true =>
        rw [if_pos rfl, app_eq (by simp; omega), Option.bind_some, m_generate_Enabled_j1, show (k : Int) + 1 = ((k + 1 : Nat) : Int) by omega, W_nat (by omega)]
        rfl
      | false =>
        rw [if_neg (by simp), m_generate_Enabled_j1, show (k : Int) + 1 = ((k + 1 : Nat) : Int) by omega, W_nat (by omega), if_neg (by simp), List.append_nil]
    · rw [m_generate_Enabled_l1]
      dsimp only
      rw [if_neg (show ¬ decide ((ctrl.length : Int) < ((codeP a ctrl n).2.2.1.length : Int)) = true from by rw [decide_eq_true_eq]; show ¬ (ctrl.length : Int) < (ctrl.length : Int); omega), List.take_of_length_le (Nat.le_refl _)]
  rw [m_generate_Enabled, fits_eq ho hm, Option.bind_some, if_neg (by simp), hi]
  rfl
theorem gstate_eq (h : GenIn a ctrl n) {out mem : List Bool} (ho : out.length = ctrl.length + 1) (hm : mem.length = n + 1) {s : Nat} (hs : s < n) (hq : ∀ k, k < n → mem.getD k false = decide (k = s)) :
    m_generate_State (codeP a ctrl n) (out, mem) = some ((s : Int), 0) := by
  have h1 := h.n1
  have hl : (mem.take n).length = n := by simp; omega
  have hi : iter (m_generate_State_l1 (mem.take n)) (0, 0, 0) = some (1, (s : Int)) := by
    have e0 : ((0 : Int), (0 : Int), (0 : Int)) = (fun k : Nat => ((k : Int), (if s < k then 1 else 0 : Int), (if s < k then (s : Int) else 0))) 0 := by simp
    refine Eq.trans (congrArg _ e0) (iter_run (f := m_generate_State_l1 (mem.take n)) (fun k : Nat => ((k : Int), (if s < k then 1 else 0 : Int), (if s < k then (s : Int) else 0))) n (by omega) (fun k hk => ?_) ?_)
    · rw [m_generate_State_l1]
      dsimp only
      have hk3 : (mem.take n)[k]'(by omega) = decide (k = s) := by
        have := hq k hk
        rw [List.getElem_take]
        rwa [List.getD_eq_getElem?_getD, List.getElem?_eq_getElem (by omega)] at this
      rw [if_pos (by rw [hl]; simp; omega), idx_at (by omega), Option.bind_some, hk3]
      by_cases hks : k = s
      · subst hks
        rw [if_pos (by simp), if_neg (by omega), if_neg (by omega), if_pos (by omega), if_pos (by omega), m_generate_State_j1, show (k : Int) + 1 = ((k + 1 : Nat) : Int) by omega, W_nat (by omega)]
        rfl
      · rw [if_neg (by simpa using hks), m_generate_State_j1, show (k : Int) + 1 = ((k + 1 : Nat) : Int) by omega, W_nat (by omega)]
        by_cases hsk : s < k
        · rw [if_pos hsk, if_pos hsk, if_pos (by omega), if_pos (by omega)]
        · rw [if_neg hsk, if_neg hsk, if_neg (by omega), if_neg (by omega)]
    · rw [m_generate_State_l1]
      dsimp only
      rw [if_neg (by rw [hl]; simp), if_pos hs, if_pos hs]
  rw [m_generate_State, fits_eq ho hm, Option.bind_some, if_neg (by simp), show slc (out, mem).2 0 (codeP a ctrl n).2.2.2 = some (mem.take n) from by
    show slc mem 0 (n : Int) = _
    rw [slc, if_pos ⟨by omega, by omega, by omega⟩]; simp, Option.bind_some, hi, Option.bind_some, if_neg (by simp)]
end
end Go.Proofs.Ytkkemchihllklaa

namespace Go.Proofs.Ytkkemchihllklaa
open Go Go.RowKit

/-- The state behind an event, or -1. -/
def stF (es : List Ed) (s : Nat) (e : Int) : Int := match stepF es s e with
  | some t => (t : Int)
  | none => -1
theorem stF_ge {es : List Ed} {s : Nat} {e : Int} : decide (stF es s e ≥ 0) = (stepF es s e).isSome := by
  unfold stF
  cases stepF es s e with
  | none => rfl
  | some t => simp
theorem step_go {a : Aut} {s e : Int} (hl : a.es.length < 4611686018427387904) : ∀ (j i : Nat), i + j = a.es.length →
    iterF (m_overseerlaw53_step_l1 (autP a) s e) (j + 1) (i : Int) = some (match (a.es.drop i).find? (fun x => x.f == s && x.e == e) with | some x => .inr x.t | none => .inl ()) := by
  have hlen : (autP a).2.2.2.length = a.es.length := by simp [autP]
  intro j
  induction j with
  | zero =>
    intro i hi
    rw [iterF_succ, m_overseerlaw53_step_l1, if_neg (by rw [hlen]; simp; omega), List.drop_of_length_le (by omega)]
    rfl
  | succ j ih =>
    intro i hi
    have hlt : i < a.es.length := by omega
    have hat : idx (autP a).2.2.2 (i : Int) = some (edP a.es[i]) := by
      rw [idx_at (by rw [hlen]; exact hlt)]; simp [autP]
    rw [iterF_succ, m_overseerlaw53_step_l1, if_pos (by rw [hlen]; simp; omega), hat, Option.bind_some, List.drop_eq_getElem_cons hlt]
    by_cases hc : (a.es[i].f == s && a.es[i].e == e) = true
    · rw [if_pos (show ((edP a.es[i]).1 == s && (edP a.es[i]).2.1 == e) = true from hc), List.find?_cons_of_pos (p := fun x : Ed => x.f == s && x.e == e) hc]
      rfl
    · rw [if_neg (show ¬ ((edP a.es[i]).1 == s && (edP a.es[i]).2.1 == e) = true from hc), List.find?_cons_of_neg (p := fun x : Ed => x.f == s && x.e == e) hc, show (i : Int) + 1 = ((i + 1 : Nat) : Int) by omega, W_nat (by omega)]
      exact ih (i + 1) (by omega)
theorem step_eq {a : Aut} {s : Nat} {e : Int} (hl : a.es.length < 4611686018427387904) (ht : ∀ x ∈ a.es, 0 ≤ x.t) : m_overseerlaw53_step (autP a) (s : Int) e = some (stF a.es s e) := by
  rw [m_overseerlaw53_step, show iter (m_overseerlaw53_step_l1 (autP a) (s : Int) e) 0 = _ from iter_of (by omega) (step_go hl a.es.length 0 (by omega)), Option.bind_some, List.drop_zero, stF, stepF]
  cases hf : a.es.find? (fun x => x.f == (s : Int) && x.e == e) with
  | none => rfl
  | some x =>
    have := ht x (List.mem_of_find?_eq_some hf)
    show some x.t = some ((x.t.toNat : Nat) : Int)
    rw [show ((x.t.toNat : Nat) : Int) = x.t by omega]
theorem equal_self {xs : List Int} (hl : xs.length < 4611686018427387904) : m_slices_Equal_int xs xs = some true := by
  have hi : iter (m_slices_Equal_int_l1 xs xs) 0 = some (.inl ()) := by
    refine iter_run (f := m_slices_Equal_int_l1 xs xs) (fun k => (k : Int)) xs.length (by omega) (fun k hk => ?_) ?_
    · rw [m_slices_Equal_int_l1, if_pos (by simp; omega), idx_at hk, Option.bind_some, Option.bind_some, if_neg (by simp), show (k : Int) + 1 = ((k + 1 : Nat) : Int) by omega, W_nat (by omega)]
    · rw [m_slices_Equal_int_l1, if_neg (by simp)]
  rw [m_slices_Equal_int, if_neg (by simp), hi]
  rfl
theorem shows_eq {a : Aut} {ctrl : List Int} {n : Nat} (h : GenIn a ctrl n) {out mem : List Bool} (ho : out.length = ctrl.length + 1) (hm : mem.length = n + 1) {s : Nat} (hs : s < n) (hq : ∀ k, k < n → mem.getD k false = decide (k = s)) {al p6 : Bool} (ha : out.getD ctrl.length false = al)
    (hc : ∀ k, k < ctrl.length → out.getD k false = (p6 && (stepF a.es s (ctrl.getD k 0)).isSome)) : m_overseerlaw53_shows (autP a) ctrl (codeP a ctrl n) (out, mem) (s : Int) al p6 = some true := by
  have h1 := h.n1; have h2 := h.es; have h4 := h.ct; have h5 := h.hn
  have en := enabled_eq h ho hm (q := fun e => p6 && (stepF a.es s e).isSome) hc
  have hi1 : iter (m_overseerlaw53_shows_l1 (autP a) (out, mem) (s : Int)) 0 = some (.inl ()) := by
    refine iter_run (f := m_overseerlaw53_shows_l1 (autP a) (out, mem) (s : Int)) (fun k => (k : Int)) n (by omega) (fun k hk => ?_) ?_
    · have hk3 : mem[k]'(by omega) = decide (k = s) := by
        have := hq k hk
        rwa [List.getD_eq_getElem?_getD, List.getElem?_eq_getElem (by omega)] at this
      have hd : ((k : Int) == (s : Int)) = decide (k = s) := by
        rw [Bool.eq_iff_iff]; simp; omega
      rw [m_overseerlaw53_shows_l1, if_pos (show decide ((k : Int) < (autP a).2.1) = true from decide_eq_true (show (k : Int) < a.n by omega)), show idx (out, mem).2 (k : Int) = some (mem[k]'(by omega)) from idx_at (xs := mem) (by omega), Option.bind_some, hk3, hd, if_neg (by simp), show (k : Int) + 1 = ((k + 1 : Nat) : Int) by omega, W_nat (by omega)]
    · rw [m_overseerlaw53_shows_l1, if_neg (show ¬ decide ((n : Int) < (autP a).2.1) = true from fun e => by have e2 : (n : Int) < a.n := of_decide_eq_true e; omega)]
  have hi2 : iter (m_overseerlaw53_shows_l2 (autP a) ctrl (out, mem) (s : Int) p6) (0, ([] : List Int)) = some (.inl (ctrl.filter fun e => p6 && (stepF a.es s e).isSome)) := by
    have e0 : ((0 : Int), ([] : List Int)) = (fun k : Nat => ((k : Int), (ctrl.take k).filter fun e => p6 && (stepF a.es s e).isSome)) 0 := by simp
    refine Eq.trans (congrArg _ e0) (iter_run (f := m_overseerlaw53_shows_l2 (autP a) ctrl (out, mem) (s : Int) p6) (fun k : Nat => ((k : Int), (ctrl.take k).filter fun e => p6 && (stepF a.es s e).isSome)) ctrl.length (by omega) (fun k hk => ?_) ?_)
    · generalize hqq : (fun e => p6 && (stepF a.es s e).isSome) = q
      have hb : (if p6 = true then (m_overseerlaw53_step (autP a) (s : Int) ctrl[k]).bind fun r116 => some (decide (r116 ≥ 0)) else some false) = some (q ctrl[k]) := by
        rw [← hqq]
        cases p6 with
        | false => rfl
        | true => rw [if_pos rfl, step_eq (by omega) (fun x hx => (h.ed x hx).2.2.1), Option.bind_some, stF_ge]; rfl
      have ht : (ctrl.take (k + 1)).filter q = (ctrl.take k).filter q ++ (if q ctrl[k] then [ctrl[k]] else []) := by
        rw [List.take_succ_eq_append_getElem hk, List.filter_append]
        cases hc : q ctrl[k] <;> simp [hc]
      have hk3 : out[k]'(by omega) = q ctrl[k] := by
        have := hc k hk
        rw [← hqq]
        rwa [List.getD_eq_getElem?_getD, List.getElem?_eq_getElem (by omega), List.getD_eq_getElem?_getD, List.getElem?_eq_getElem hk] at this
      have hlen : ((ctrl.take k).filter q).length ≤ 32 := Nat.le_trans (List.length_filter_le ..) (by simp; omega)
      rw [m_overseerlaw53_shows_l2]
      dsimp only
      rw [if_pos (by simp; omega), idx_at hk, Option.bind_some, hb, Option.bind_some, idx_at (show k < out.length by omega), Option.bind_some, hk3, if_neg (by simp), ht]
      cases hc : q ctrl[k] with
      | true =>
        rw [if_pos rfl, app_eq (by simp; omega), Option.bind_some, m_overseerlaw53_shows_j1, show (k : Int) + 1 = ((k + 1 : Nat) : Int) by omega, W_nat (by omega)]
        rfl
      | false =>
        rw [if_neg (by simp), m_overseerlaw53_shows_j1, show (k : Int) + 1 = ((k + 1 : Nat) : Int) by omega, W_nat (by omega), if_neg (by simp), List.append_nil]
    · rw [m_overseerlaw53_shows_l2]
      dsimp only
      rw [if_neg (by simp), List.take_of_length_le (Nat.le_refl _)]
  have hf : (ctrl.filter fun e => p6 && (stepF a.es s e).isSome).length ≤ 32 := Nat.le_trans (List.length_filter_le ..) h4
  have ho2 : out[ctrl.length]'(by omega) = al := by
    rwa [List.getD_eq_getElem?_getD, List.getElem?_eq_getElem (by omega)] at ha
  have hw : W ((ctrl.length : Int) + 1) = ((ctrl.length + 1 : Nat) : Int) := by rw [show (ctrl.length : Int) + 1 = ((ctrl.length + 1 : Nat) : Int) by omega, W_nat (by omega)]
  rw [m_overseerlaw53_shows, hw, if_neg (by
      rw [Bool.or_eq_true, not_or]
      refine ⟨by simp [ho], ?_⟩
      show ¬ decide ((mem.length : Int) < a.n) = true
      simp; omega), hi1, Option.bind_some]
  dsimp only
  rw [hi2, Option.bind_some]
  dsimp only
  rw [gstate_eq h ho hm hs hq, Option.bind_some, en, Option.bind_some, alarmed_eq h ho hm, Option.bind_some, ha]
  dsimp only
  rw [if_pos (by simp), equal_self (by omega), Option.bind_some, Option.bind_some, if_pos (by simp), idx_at (show ctrl.length < out.length by omega), Option.bind_some, ho2]
  simp
end Go.Proofs.Ytkkemchihllklaa

namespace Go.Proofs.Ytkkemchihllklaa
open Go Go.RowKit

/-- What a state shows of state s, alarm al. -/
structure Shows (a : Aut) (ctrl : List Int) (n : Nat) (s : Nat) (al : Bool) (st : List Bool × List Bool) : Prop where
  ho : st.1.length = ctrl.length + 1
  hm : st.2.length = n + 1
  hs : s < n
  hq : ∀ k, k < n → st.2.getD k false = decide (k = s)
  ha : st.1.getD ctrl.length false = al
theorem subB_mem {us vs : List Int} (h : subB us vs = true) : ∀ x ∈ us, x ∈ vs := fun x hx => hasB_true.1 (List.all_eq_true.1 h x hx)
theorem view_scan {a : Aut} {ctrl : List Int} {n : Nat} (h : GenIn a ctrl n) (ia : Inc a.al) (ic : Inc ctrl) {ev : List Int} (ie : Inc ev) (hl : ev.length < 4294967296) (he : setErr 32 none ev = 0) (hsub : subB ev a.al = true) {st : List Bool × List Bool} {s : Nat} {al : Bool} (hv : Shows a ctrl n s al st) :
    ∃ st', m_generate_Scan (codeP a ctrl n) st ev = some (st', 0) ∧ Shows a ctrl n (ev.foldl (folStep a.es) (s, al)).1 (ev.foldl (folStep a.es) (s, al)).2 st' ∧
      ∀ k, k < ctrl.length → st'.1.getD k false = (stepF a.es (ev.foldl (folStep a.es) (s, al)).1 (ctrl.getD k 0)).isSome := by
  have h1 := gscan_eq h ia ic ie hl he hsub (out := st.1) (mem := st.2) hv.ho hv.hm
  have v0 := view_of (m := a.al.length) (inp := a.al.map (hasB ev)) (by simp) hv.ho hv.hm hv.hq hv.ha
  obtain ⟨v1, v2, v3⟩ := gen_scan h.hn h.ed ia ie (subB_mem hsub) hv.hs v0
  refine ⟨_, h1, ⟨v1.out.1, v1.mem.1, v2, v1.mem.2, v1.out.2.1⟩, fun k hk => ?_⟩
  rw [← v3 k hk]
  exact v1.out.2.2 k (by omega)
theorem Shows.start {a : Aut} {ctrl : List Int} {n : Nat} (h0 : 0 < n) : Shows a ctrl n 0 false (List.replicate (ctrl.length + 1) false, true :: List.replicate n false) := by
  refine ⟨by simp, by simp, h0, fun k hk => ?_, ?_⟩
  · cases k with
    | zero => rfl
    | succ k =>
      show (true :: List.replicate n false).getD (k + 1) false = _
      rw [List.getD_cons_succ, List.getD_eq_getElem?_getD, List.getElem?_replicate]
      split <;> simp
  · show (List.replicate (ctrl.length + 1) false).getD ctrl.length false = _
    rw [List.getD_eq_getElem?_getD, List.getElem?_replicate]
    split <;> rfl
theorem Shows.says {a : Aut} {ctrl : List Int} {n : Nat} (h : GenIn a ctrl n) {s : Nat} {al p6 : Bool} {st : List Bool × List Bool} (hv : Shows a ctrl n s al st) (hc : ∀ k, k < ctrl.length → st.1.getD k false = (p6 && (stepF a.es s (ctrl.getD k 0)).isSome)) :
    m_overseerlaw53_shows (autP a) ctrl (codeP a ctrl n) st (s : Int) al p6 = some true := shows_eq (out := st.1) (mem := st.2) h hv.ho hv.hm hv.hs hv.hq hv.ha hc
theorem gstart_eq {a : Aut} {ctrl : List Int} {n : Nat} (h : GenIn a ctrl n) (ia : Inc a.al) (ic : Inc ctrl) : m_instruction_Start (codeP a ctrl n).1 = some ((List.replicate (ctrl.length + 1) false, true :: List.replicate n false), 0) := start_eq (genP_in h ia ic)
end Go.Proofs.Ytkkemchihllklaa

namespace Go.Proofs.Ytkkemchihllklaa
open Go Go.RowKit
set_option maxRecDepth 1000000 in
theorem known53 : m_overseerlaw53_known = some true := by kernel_rfl
end Go.Proofs.Ytkkemchihllklaa

namespace Go.Proofs.Ytkkemchihllklaa
open Go.ChangeShapes Go.WideShapes Go.ChangeAt Go.RowKit

theorem Try.own : ownKnob Try.prog.godebug = none := by kernel_rfl
theorem Try.laidOut : laidOutB Try.prog = true := by kernel_rfl

section
variable {H : Type} {enc : TypeId × Value → H}
/-- Types whose values may be carried. -/
def carryB (P : Program) (ts : List TypeId) : Bool := ts.all fun t => P.readableRec t && decide (t < P.types.size)
/-- All arguments read as they did. -/
theorem trodAll_carry {P : Program} (hl : laidOutB P = true) {W W' : World} (hb : Below W.heap.size W W') {sp : Nat → Bool} : ∀ {ts : List TypeId} {vs : List Value} {ds : List (DataW H)} {ps : List MemPlace}, carryB P ts = true →
    DataW.TrodAll enc P W 0 (fun _ => true) true ts vs ds ps → (∀ x ∈ ps, x.block < W.heap.size) → (∀ x ∈ ps, sp x.block = true) → DataW.TrodAll enc P W' 0 sp true ts vs ds ps
  | [], [], [], _, _, h, _, _ => h
  | [], _ :: _, _, _, _, h, _, _ => h.elim
  | [], [], _ :: _, _, _, h, _, _ => h.elim
  | t :: ts, [], _, _, _, h, _, _ => h.elim
  | t :: ts, _ :: _, [], _, _, h, _, _ => h.elim
  | t :: ts, v :: vs, d :: ds, ps, hc, ⟨p, q, h1, h2, e⟩, hlt, hsp => by
    subst e
    unfold carryB at hc
    rw [List.all_cons, Bool.and_eq_true, Bool.and_eq_true] at hc
    exact ⟨p, q, WideElems.Trod_stays hl hc.1.1 (of_decide_eq_true hc.1.2) h1 (fun x hx => hb.same (hlt x (List.mem_append_left _ hx))) (fun x hx => hsp x (List.mem_append_left _ hx)),
      trodAll_carry hl hb hc.2 h2 (fun x hx => hlt x (List.mem_append_right _ hx)) (fun x hx => hsp x (List.mem_append_right _ hx)), rfl⟩

/-- A law's end: it has returned a bool, and nothing that was there has turned. -/
theorem law_post {P : Program} (hl : laidOutB P = true) {f : Func} {s : ChangeSpec} {apart fresh handsOn again : Bool} {W W' : World} {args : Array Value} {ds : List (DataW H)} {before : List MemPlace} {tb : TypeId} {b : Bool}
    (hW : DataW.Whole enc P f.params.toList s.vars apart W args.toList ds [] before) (hv : s.vars = []) (hc : carryB P f.params.toList = true) (hrt : f.resultTypes = #[tb]) (ht : P.underlying tb = some .bool)
    (hr : (s.fn H (ds ++ [])).results = [.lit (.bool b)]) (ha : (s.fn H (ds ++ [])).args = ds) (hvn : (s.fn H (ds ++ [])).vars = []) (hb : Below W.heap.size W W') :
    s.post enc P f apart fresh handsOn again W args (.bool b) W' := by
  have hlt : ∀ p ∈ before, p.block < W.heap.size := fun p hp => hW.lt p hp
  have hWc := hW
  obtain ⟨p, q, hA, hV, rfl, hz, hn⟩ := hWc
  rw [hv] at hV
  obtain ⟨-, rfl⟩ := trodVars_none hV
  rw [List.append_nil] at hlt hz hn
  have hargs : ∀ sp : Nat → Bool, (∀ x ∈ p, sp x.block = true) → DataW.TrodAll enc P W' 0 sp true f.params.toList args.toList (s.fn H (ds ++ [])).args p := fun sp hsp => by
    rw [ha]; exact trodAll_carry hl hb hc hA hlt hsp
  have hres : ∀ (b0 : Nat) (sp : Nat → Bool) (hd : Bool), DataW.TrodAll enc P W' b0 sp hd f.resultTypes.toList ((Value.bool b).resultList f.resultTypes.size) (s.fn H (ds ++ [])).results [] := fun _ _ _ => by
    rw [hr, hrt]; exact trodAll_mk1 (shut_bool ht b)
  have hvars : ∀ sp : Nat → Bool, DataW.TrodVars enc P W' sp s.vars (s.fn H (ds ++ [])).vars [] := fun sp => by rw [hv, hvn]; rfl
  have hold : ∀ x ∈ p, (fun b => decide (b < W.heap.size)) x.block = true := fun x hx => by simpa using hlt x hx
  refine ⟨ds, [], p ++ [], [], p, [], hW, hres _ _ _, hargs _ hold, hvars _, World.keptBut_mono (fun x hx => ?_) (hb.frame (· ∈ p)), fun _ => ?_⟩
  · exact ⟨by rwa [List.append_nil], Or.inr (.inl hx)⟩
  · have hok := ok_one (f := f) (W' := W') (by rw [hrt]) rfl (okWide_bool_mk (W' := W') ht b)
    refine ⟨hok, _, _, ([] ++ p) ++ [], ⟨[] ++ p, [], trodAll_append (hargs _ (fun _ _ => rfl)) (hres _ _ _), hvars _, rfl, ?_, ?_⟩, ?_⟩
    · intro b0 off hp
      have hin : MemPlace.cell b0 off ∈ p := by simpa using hp
      rw [hb.frozen (hlt _ hin)]
      exact hz b0 off hin
    · intro hap
      simpa using hn hap
    · intro x hx _
      simpa using hx
end

set_option maxRecDepth 100000 in
/-- A cell of a byte. -/
theorem cell_u8 {w : World} {r : Reach} {base : Nat} {v : Value} (h : Cell.okWide Try.prog w r base 5 v) : ∃ n : Int, v = .int .u8 n ∧ 0 ≤ n ∧ n < 256 := by
  simp only [Cell.okWide, Try.underlying5] at h
  cases v <;> simp_all [Cell.ok]
  rename_i k n
  obtain ⟨rfl, h2⟩ := h
  simp [IntKind.has, IntKind.min, IntKind.max, IntKind.signed, IntKind.bits] at h2
  omega
end Go.Proofs.Ytkkemchihllklaa

namespace Go.Proofs.Ytkkemchihllklaa
open Go Go.RowKit Go.ChangeShapes Go.WideShapes Go.Deep

/-- Data of a type, wherever they are read, lie so in cells. -/
def Op (P : Program) {α : Type} (r : Rep α) (Q : α → Prop) (t : TypeId) : Prop :=
  ∀ (H : Type) (enc : TypeId × Value → H) (w : World) (fuel : Nat) (cs : List Value) (x : DataW H × List MemPlace), DataW.trod enc P w 0 (fun _ => true) true fuel t cs = some x → ∃ y : α, r.rd ⟨w, fun _ => 0⟩ cs y ∧ Q y
section
variable {P : Program} {α β : Type} {r : Rep α} {q : Rep β} {Q : α → Prop} {R : β → Prop} {t e : TypeId}
theorem Op.int {k : IntKind} (ht : P.underlying t = some (.int k)) : Op P (rK k) (fun n => k.min ≤ n ∧ n ≤ k.max) t := by
  intro H enc w fuel cs x h
  obtain ⟨n, h1, h2, h3⟩ := DataW.trod_int ht h
  refine ⟨n, h1, ?_⟩
  simpa [Lit.wf] using h3
theorem Op.bool (ht : P.underlying t = some .bool) : Op P rB (fun _ => True) t := by
  intro H enc w fuel cs x h
  obtain ⟨b, h1, h2⟩ := DataW.trod_bool ht h
  exact ⟨b, h1, trivial⟩
/-- A slice that is an argument, or lies in one. -/
theorem op_slice {H : Type} {enc : TypeId × Value → H} {w : World} {base fuel : Nat} {v : Value} {x : DataW H × List MemPlace} (ht : P.underlying t = some (.slice e)) (hc : P.cellsOf e = r.sz) (ho : Op P r Q e) (hok : Cell.okWide P w .any base t v)
    (h : DataW.trod enc P w 0 (fun _ => true) true fuel t [v] = some x) : ∃ (a : Option Addr) (c : Nat) (xs : List α), v = .slice a xs.length c ∧ RdL r ⟨w, fun _ => 0⟩ a c xs ∧ ∀ y ∈ xs, Q y := by
  rcases open_slice ht h with ⟨h1, -⟩ | ⟨a, len, cap, m, n, D, Pl, h1, -, h3, h4, h5, -, h7⟩
  · rw [List.cons.injEq] at h1
    refine ⟨none, 0, [], h1.1, ⟨[], ⟨by simp, by simp, by simp, fun _ => rfl, fun ad e => (by cases e), fun ad e => (by cases e)⟩, fun ad e => (by cases e), rfl⟩, fun y hy => (by cases hy)⟩
  · rw [List.cons.injEq] at h1
    have hv := h1.1
    subst hv
    rw [if_pos rfl] at h5
    subst h5
    have hsp : a.spot = none := by
      simp only [Cell.okWide, ht, Cell.ok] at hok
      exact hok.2.2.2.1
    have hadd : ∀ k, a.add k = ⟨a.block, a.off + k, none⟩ := fun k => by
      obtain ⟨b, o, sp⟩ := a
      dsimp only at hsp
      subst hsp
      unfold Addr.add
      split
      · rename_i hk; subst hk; rfl
      · rfl
    have key : ∀ k, k ≤ len → ∃ (xs : List α) (cs : List Value), xs.length = k ∧ Cells r ⟨w, fun _ => 0⟩ cs xs ∧ (∀ y ∈ xs, Q y) ∧ ∀ j (hj : j < cs.length), w.cell? ⟨a.block, a.off + j, none⟩ = some cs[j] := by
      intro k
      induction k with
      | zero => intro _; exact ⟨[], [], rfl, rfl, fun y hy => (by cases hy), fun j hj => absurd hj (Nat.not_lt_zero _)⟩
      | succ k ih =>
        intro hk
        obtain ⟨xs, cs, g1, g2, g3, g4⟩ := ih (by omega)
        obtain ⟨cs', k1, k2⟩ := h7 k (by omega)
        obtain ⟨y, k3, k4⟩ := ho H enc w n cs' _ k2
        obtain ⟨-, k5, k6⟩ := World.cells?_some k1
        have hl := g2.len
        rw [g1] at hl
        rw [hc] at k5 k6
        refine ⟨xs ++ [y], cs ++ cs', by simp [g1], g2.append ⟨cs', [], by simp, k3, rfl⟩, fun z hz => ?_, fun j hj => ?_⟩
        · rcases List.mem_append.1 hz with hz | hz
          · exact g3 z hz
          · rw [List.mem_singleton.1 hz]; exact k4
        · by_cases hlt : j < cs.length
          · rw [List.getElem_append_left hlt]; exact g4 j hlt
          · have hj2 : j - cs.length < cs'.length := by rw [List.length_append] at hj; omega
            rw [List.getElem_append_right (by omega)]
            have := k6 (j - cs.length) (by omega)
            rw [add_add, hadd, List.getElem?_eq_getElem hj2] at this
            rw [← this]
            congr 2
            omega
    obtain ⟨xs, cs, g1, g2, g3, g4⟩ := key len (Nat.le_refl _)
    subst g1
    refine ⟨some a, m, xs, rfl, ⟨cs, ⟨g2.len, h3, h4, fun e => (by cases e), fun ad e => (by cases e; exact hsp), fun ad e j hj => (by cases e; exact g4 j hj)⟩, fun _ _ _ => rfl, g2⟩, g3⟩
/-- The cells of a struct, one type each. -/
theorem op_agg {w : World} {base : Nat} {v : Value} {fs : Array Field} {ts : List TypeId} (ht : P.underlying t = some (.struct fs)) (hts : P.cellTypes P.depth t = some ts) (hsz : P.cellsOf t = ts.length) (hok : Value.okWide P w .any base t v) :
    ∃ cs, v = .agg cs ∧ cs.size = ts.length ∧ ∀ (i : Nat) (u : TypeId), ts[i]? = some u → ∃ c : Value, cs[i]? = some c ∧ Cell.okWide P w .any base u c := by
  simp only [Value.okWide, ht] at hok
  obtain ⟨cs, rfl, h1, ts', h2, h3, h4⟩ := hok
  rw [hts] at h2
  cases h2
  refine ⟨cs, rfl, by omega, fun i u hu => ?_⟩
  have hlt : i < ts.length := (List.getElem?_eq_some_iff.1 hu).1
  obtain ⟨u', g1, g2⟩ := h4 i cs[i] (Array.getElem?_eq_getElem (by omega))
  rw [Nat.mod_eq_of_lt hlt, hu] at g1
  cases g1
  exact ⟨_, Array.getElem?_eq_getElem (by omega), g2⟩
end
end Go.Proofs.Ytkkemchihllklaa

namespace Go.Proofs.Ytkkemchihllklaa
open Go.RowKit

/-- The place of a number in a list, or -1. -/
def idxI (xs : List Int) (n : Int) : Int := if n ∈ xs then (xs.idxOf n : Int) else -1
end Go.Proofs.Ytkkemchihllklaa

namespace Go.Proofs.Ytkkemchihllklaa

theorem idxI_in {q : List Int} {t : Int} (h : t ∈ q) : 0 ≤ idxI q t ∧ idxI q t < (q.length : Int) := by
  rw [idxI, if_pos h]
  have := List.idxOf_lt_length_of_mem h
  omega
def rrMs (ms q : List Int) : List Int := ((List.range q.length).filter fun i => hasB ms (q.getD i 0)).map fun (i : Nat) => (i : Int)
end Go.Proofs.Ytkkemchihllklaa

namespace Go.Proofs.Ytkkemchihllklaa

theorem rrMs_in (ms q : List Int) : ∀ x ∈ rrMs ms q, 0 ≤ x ∧ x < (q.length : Int) := range_in _ _
theorem rrMs_pairwise (ms q : List Int) : (rrMs ms q).Pairwise (· < ·) := range_pairwise _ _
end Go.Proofs.Ytkkemchihllklaa

namespace Go.Proofs.Ytkkemchihllklaa
open Go Go.RowKit

/-- The queue holds states below n, each once; so it is short. -/
structure QOk (n : Nat) (q : List Int) : Prop where
  nd : q.Nodup
  rng : ∀ s ∈ q, 0 ≤ s ∧ s < (n : Int)
theorem QOk.len : ∀ {n : Nat} {q : List Int}, QOk n q → q.length ≤ n
  | 0, [], _ => Nat.le_refl _
  | 0, x :: q, h => by have := h.rng x (List.mem_cons_self ..); omega
  | n + 1, q, h => by
    by_cases hm : (n : Int) ∈ q
    · have h1 : QOk n (q.erase (n : Int)) := ⟨h.nd.erase _, fun s hs => by
        have h2 := (h.nd.mem_erase_iff).1 hs
        have h3 := h.rng s h2.2
        have := h2.1
        omega⟩
      have h2 := h1.len
      rw [List.length_erase_of_mem hm] at h2
      omega
    · have h1 : QOk n q := ⟨h.nd, fun s hs => by
        have h3 := h.rng s hs
        have : s ≠ n := fun e => hm (e ▸ hs)
        omega⟩
      have := h1.len
      omega
end Go.Proofs.Ytkkemchihllklaa

namespace Go.Proofs.Ytkkemchihllklaa

/-- A state that an event leads to is found. -/
def c3In (es : List Ed) (s : Int) (out : List Int) (e : Int) : List Int := match stepF es s.toNat e with
  | some t => if hasB out (t : Int) = true then out else out ++ [(t : Int)]
  | none => out
def c3Loop (es : List Ed) (al : List Int) : Nat → Nat → List Int → List Int
  | 0, _, out => out
  | f + 1, i, out => if i < out.length then c3Loop es al f (i + 1) (al.foldl (c3In es (out.getD i 0)) out) else out
def foundL (a : Aut) : List Int := if a.n = 0 then [] else c3Loop a.es a.al (a.n.toNat + 1) 0 [0]
/-- The edges of the i-th state that was found. -/
def c3Row (a : Aut) (q : List Int) (i : Nat) : List Ed := a.al.filterMap fun e => (stepF a.es (q.getD i 0).toNat e).map fun t => ⟨(i : Int), e, idxI q (t : Int)⟩
def canon3 (a : Aut) : Aut := ⟨a.al, ((foundL a).length : Int), rrMs a.ms (foundL a), (List.range (foundL a).length).flatMap (c3Row a (foundL a))⟩
theorem stepF_in {es : List Ed} {s t : Nat} {e : Int} (h : stepF es s e = some t) : ∃ x ∈ es, x.f = s ∧ x.e = e ∧ x.t.toNat = t := by
  unfold stepF at h
  cases hf : es.find? (fun x => x.f == (s : Int) && x.e == e) with
  | none => rw [hf] at h; cases h
  | some x =>
    rw [hf] at h
    have h1 := List.find?_some hf
    rw [Bool.and_eq_true] at h1
    exact ⟨x, List.mem_of_find?_eq_some hf, by simpa using h1.1, by simpa using h1.2, by simpa using h⟩
theorem c3In_fold {es : List Ed} {n : Nat} (hes : ∀ x ∈ es, 0 ≤ x.t ∧ x.t < (n : Int)) {s : Int} : ∀ (al out : List Int), QOk n out →
    QOk n (al.foldl (c3In es s) out) ∧ (∃ r, al.foldl (c3In es s) out = out ++ r) ∧ ∀ e ∈ al, ∀ t, stepF es s.toNat e = some t → (t : Int) ∈ al.foldl (c3In es s) out
  | [], out, h => ⟨h, ⟨[], (List.append_nil _).symm⟩, fun e he => (by cases he)⟩
  | e :: al, out, h => by
    have h1 : QOk n (c3In es s out e) ∧ (∃ r, c3In es s out e = out ++ r) ∧ ∀ t, stepF es s.toNat e = some t → (t : Int) ∈ c3In es s out e := by
      unfold c3In
      cases hs : stepF es s.toNat e with
      | none => exact ⟨h, ⟨[], (List.append_nil _).symm⟩, fun t ht => (by cases ht)⟩
      | some t =>
        dsimp only
        obtain ⟨x, hx, _, _, hxt⟩ := stepF_in hs
        have hr := hes x hx
        by_cases hb : hasB out (t : Int) = true
        · rw [if_pos hb]
          exact ⟨h, ⟨[], (List.append_nil _).symm⟩, fun t' ht => by cases ht; exact hasB_true.1 hb⟩
        · rw [if_neg hb]
          refine ⟨⟨?_, fun u hu => ?_⟩, ⟨_, rfl⟩, fun t' ht => by cases ht; exact List.mem_append_right _ (List.mem_singleton.2 rfl)⟩
          · rw [List.nodup_append]
            exact ⟨h.nd, by simp, fun a ha b hb' e' => by rw [List.mem_singleton.1 hb'] at e'; exact hb (hasB_true.2 (e' ▸ ha))⟩
          · rcases List.mem_append.1 hu with h2 | h2
            · exact h.rng u h2
            · rw [List.mem_singleton.1 h2]; omega
    obtain ⟨h2, ⟨r, h3⟩, h4⟩ := h1
    obtain ⟨h5, ⟨r2, h6⟩, h7⟩ := c3In_fold hes al _ h2
    rw [List.foldl_cons]
    refine ⟨h5, ⟨r ++ r2, by rw [h6, h3, List.append_assoc]⟩, fun e' he t ht => ?_⟩
    rcases List.mem_cons.1 he with rfl | he
    · rw [h6]; exact List.mem_append_left _ (h4 t ht)
    · exact h7 e' he t ht
theorem c3_loop {es : List Ed} {al : List Int} {n : Nat} (hes : ∀ x ∈ es, 0 ≤ x.t ∧ x.t < (n : Int)) : ∀ (f i : Nat) (out : List Int), QOk n out → (∀ k, k < i → k < out.length → ∀ e ∈ al, ∀ t, stepF es (out.getD k 0).toNat e = some t → (t : Int) ∈ out) → n + 1 ≤ i + f →
    QOk n (c3Loop es al f i out) ∧ (∃ r, c3Loop es al f i out = out ++ r) ∧ ∀ k, k < (c3Loop es al f i out).length → ∀ e ∈ al, ∀ t, stepF es ((c3Loop es al f i out).getD k 0).toNat e = some t → (t : Int) ∈ c3Loop es al f i out
  | 0, i, out, h, hd, hf => by
    have := h.len
    rw [c3Loop]
    exact ⟨h, ⟨[], (List.append_nil _).symm⟩, fun k hk => hd k (by omega) hk⟩
  | f + 1, i, out, h, hd, hf => by
    rw [c3Loop]
    by_cases hi : i < out.length
    · rw [if_pos hi]
      obtain ⟨h1, ⟨r, h2⟩, h3⟩ := c3In_fold (s := out.getD i 0) hes al out h
      obtain ⟨h4, ⟨r2, h5⟩, h6⟩ := c3_loop (al := al) hes f (i + 1) _ h1 (fun k hk hkl e he t ht => by
        have hkS : k < out.length := by omega
        have hg : (al.foldl (c3In es (out.getD i 0)) out).getD k 0 = out.getD k 0 := by
          rw [h2, List.getD_eq_getElem?_getD, List.getElem?_append_left hkS, ← List.getD_eq_getElem?_getD]
        rw [hg] at ht
        by_cases e1 : k = i
        · subst e1; exact h3 e he t ht
        · rw [h2]; exact List.mem_append_left _ (hd k (by omega) hkS e he t ht)) (by omega)
      exact ⟨h4, ⟨r ++ r2, by rw [h5, h2, List.append_assoc]⟩, h6⟩
    · rw [if_neg hi]
      exact ⟨h, ⟨[], (List.append_nil _).symm⟩, fun k hk => hd k (by omega) hk⟩
theorem c3Row_mem {a : Aut} {q : List Int} {i : Nat} {x : Ed} (h : x ∈ c3Row a q i) : x.f = i ∧ x.e ∈ a.al ∧ ∃ t, stepF a.es (q.getD i 0).toNat x.e = some t ∧ x.t = idxI q (t : Int) := by
  obtain ⟨e, he, hx⟩ := List.mem_filterMap.1 h
  cases hs : stepF a.es (q.getD i 0).toNat e with
  | none => rw [hs] at hx; cases hx
  | some t =>
    rw [hs] at hx
    cases hx
    exact ⟨rfl, he, t, hs, rfl⟩
theorem c3Row_sorted {a : Aut} (ha : Inc a.al) (q : List Int) (i : Nat) : Sorted (c3Row a q i) := by
  unfold c3Row Sorted
  rw [List.pairwise_filterMap]
  refine List.Pairwise.imp (fun {x y} (h : x < y) => ?_) ha
  intro b hb c hc
  cases h1 : stepF a.es (q.getD i 0).toNat x with
  | none => rw [h1] at hb; cases hb
  | some t =>
    rw [h1] at hb
    cases h2 : stepF a.es (q.getD i 0).toNat y with
    | none => rw [h2] at hc; cases hc
    | some u =>
      rw [h2] at hc
      cases hb; cases hc
      exact .inr ⟨rfl, h⟩
theorem rows_sorted {f : Nat → List Ed} (h : ∀ i, Sorted (f i)) (hf : ∀ i, ∀ x ∈ f i, x.f = i) : ∀ m, Sorted ((List.range m).flatMap f)
  | 0 => List.Pairwise.nil
  | m + 1 => by
    rw [List.range_succ, List.flatMap_append]
    simp only [List.flatMap_cons, List.flatMap_nil, List.append_nil]
    unfold Sorted
    rw [List.pairwise_append]
    refine ⟨rows_sorted h hf m, h m, fun x hx y hy => ?_⟩
    obtain ⟨i, hi, hx2⟩ := List.mem_flatMap.1 hx
    have h1 := hf i x hx2
    have h2 := hf m y hy
    have := List.mem_range.1 hi
    left; omega
/-- The canonical form is right. -/
theorem canon3_right {a : Aut} {n : Nat} (hn : a.n = n) (hn0 : 0 < n) (hes : ∀ x ∈ a.es, 0 ≤ x.t ∧ x.t < (n : Int)) (ha : Inc a.al) (hal : setErr 32 none a.al = 0) (hn1 : n ≤ 4096) :
    (canon3 a).err = 0 ∧ 1 ≤ (canon3 a).n ∧ (canon3 a).n ≤ n ∧ Sorted (canon3 a).es ∧ (canon3 a).al = a.al := by
  have hfd : foundL a = c3Loop a.es a.al (n + 1) 0 [0] := by rw [foundL, if_neg (by omega), hn, Int.toNat_natCast]
  have hq0 : QOk n [0] := ⟨by simp, fun s hs => by rw [List.mem_singleton.1 hs]; omega⟩
  obtain ⟨h1, ⟨r, h2⟩, h3⟩ := c3_loop (al := a.al) hes (n + 1) 0 [0] hq0 (fun k hk => absurd hk (Nat.not_lt_zero _)) (by omega)
  rw [← hfd] at h1 h2 h3
  have hlen : 1 ≤ (foundL a).length := by rw [h2]; simp
  have hle := h1.len
  have hso : Sorted (canon3 a).es := rows_sorted (fun i => c3Row_sorted ha _ i) (fun i x hx => (c3Row_mem hx).1) _
  have hok : ∀ x ∈ (canon3 a).es, 0 ≤ x.f ∧ x.f < (canon3 a).n ∧ 0 ≤ x.t ∧ x.t < (canon3 a).n ∧ hasB a.al x.e = true := by
    intro x hx
    obtain ⟨i, hi, hx2⟩ := List.mem_flatMap.1 hx
    have hi2 := List.mem_range.1 hi
    obtain ⟨g1, g2, t, g3, g4⟩ := c3Row_mem hx2
    have hm := h3 i hi2 x.e g2 t g3
    have hid := idxI_in hm
    rw [g1, g4]
    refine ⟨by omega, by show ((i : Nat) : Int) < ((foundL a).length : Int); omega, hid.1, hid.2, hasB_true.2 g2⟩
  refine ⟨?_, by show (1 : Int) ≤ ((foundL a).length : Int); omega, by show ((foundL a).length : Int) ≤ n; omega, hso, rfl⟩
  unfold Aut.err
  have e1 : (canon3 a).al = a.al := rfl
  have e2 : setErr (canon3 a).n none (canon3 a).ms = 0 := setErr_ok (rrMs_pairwise _ _) (rrMs_in _ _) (fun q hq => by cases hq)
  rw [e1, hal, if_neg (by decide), if_neg (by show ¬ ((foundL a).length : Int) < 0; omega), if_neg (by show ¬ (4096 : Int) < ((foundL a).length : Int); omega), e2, if_neg (by decide)]
  exact edErr_ok hso hok (fun q hq => by cases hq)
end Go.Proofs.Ytkkemchihllklaa

