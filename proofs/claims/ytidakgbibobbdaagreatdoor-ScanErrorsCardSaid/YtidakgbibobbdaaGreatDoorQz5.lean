/- Parts of the proof, without what nothing here names. -/
import Derived.Test.YtidakgbibobbdaaGreatDoorProg
import Derived.Test.YtidakgbibobbdaaGreatDoorQz4
set_option maxRecDepth 100000
set_option maxHeartbeats 8000000
namespace Go.Proofs.YtidakgbibobbdaaGreatDoor
open Go Go.RowKit
theorem cf53 : Cf Tryz.prog 53 := Cf.mk Tryz.func53 (by kernel_rfl) (by kernel_rfl)
noncomputable def m_scan_Handle (p0 : AutT × AutT × List Int) (p1 : Int) (p2 : List Int) : Option (Int × Int × Int) :=
 (m_scan_open p0).bind fun r12 =>
 if (r12.2 != 0) then
  some (0, 0, r12.2)
 else
  r12.1.bind fun x16 =>
  (m_scan_task_checkImage x16 p1 p2).bind fun r33 =>
  if (r33 != 0) then
   some (0, 0, r33)
  else
   (m_scan_task_handle x16 p1 p2).bind fun r36 =>
   some (r36.1, r36.2, 0)
theorem m_scan_Handle_c {s : Sig} {p0 : AutT × AutT × List Int} {p1 : Int} {p2 : List Int} {a1 : Option Addr} {c1 : Nat} {a2 : Option Addr} {c2 : Nat} {a3 : Option Addr} {c3 : Nat} {a4 : Option Addr} {c4 : Nat} {a5 : Option Addr} {c5 : Nat} {a6 : Option Addr} {c6 : Nat} {a7 : Option Addr} {c7 : Nat} {a8 : Option Addr} {c8 : Nat} {r : Int × Int × Int} (h1 : RdL qI s a1 c1 p0.1.1) (h2 : RdL qI s a2 c2 p0.1.2.2.1) (h3 : RdL qT s a3 c3 p0.1.2.2.2) (h4 : RdL qI s a4 c4 p0.2.1.1) (h5 : RdL qI s a5 c5 p0.2.1.2.2.1) (h6 : RdL qT s a6 c6 p0.2.1.2.2.2) (h7 : RdL qI s a7 c7 p0.2.2) (h8 : RdL qI s a8 c8 p2) (hm : m_scan_Handle p0 p1 p2 = some r) :
    Calls Tryz.prog 14 #[.agg #[.slice a1 p0.1.1.length c1, .int .i64 p0.1.2.1, .slice a2 p0.1.2.2.1.length c2, .slice a3 p0.1.2.2.2.length c3, .slice a4 p0.2.1.1.length c4, .int .i64 p0.2.1.2.1, .slice a5 p0.2.1.2.2.1.length c5, .slice a6 p0.2.1.2.2.2.length c6, .slice a7 p0.2.2.length c7], .int .i64 p1, .slice a8 p2.length c8] s.w (RetS No s fun v s' => v = .tuple #[.int .i64 r.1, .int .i64 r.2.1, .int .i64 r.2.2]) := by
 unfold m_scan_Handle at hm
 obtain ⟨N, hN, hNb⟩ := s.fresh
 have m0 : Mv (Up N No) s s := Mv.refl _ _
 refine E.entry Tryz.func14 R Tryz.ntmps14 R R (ER (L.box (N + 0) Y R R R fun b9 s10 m11 bx9 => ?_))
 replace h1 := h1.mono m11.z
 replace h2 := h2.mono m11.z
 replace h3 := h3.mono m11.z
 replace h4 := h4.mono m11.z
 replace h5 := h5.mono m11.z
 replace h6 := h6.mono m11.z
 replace h7 := h7.mono m11.z
 refine L.as Y R R (L.as Y R R (L.as Y R R (LN (ER (L.lg (j := 0) (cs := [.slice a1 p0.1.1.length c1, .int .i64 p0.1.2.1, .slice a2 p0.1.2.2.1.length c2, .slice a3 p0.1.2.2.2.length c3, .slice a4 p0.2.1.1.length c4, .int .i64 p0.2.1.2.1, .slice a5 p0.2.1.2.2.1.length c5, .slice a6 p0.2.1.2.2.2.length c6, .slice a7 p0.2.2.length c7]) bx9.mem ag27 Y R R R R R ?_)))))
 obtain ⟨r12, er12, hm⟩ := bindS hm
 refine L.ca cf52 R R Y R (m_scan_open_c (s := s10) (p0 := p0) h1 h2 h3 h4 h5 h6 h7 er12) R ?_
 rintro _ s13 m14 ⟨v15, rfl, h15⟩
 replace m0 := (m0.trans m11.no).trans m14.no
 replace h8 := (h8.mono m11.z).mono m14.z
 refine L.mv Y R R (L.ex Y R R R (L.ex Y R R R (L.as Y R R (L.as Y R R (LN (E.seq (ER (L.mv Y R R (L.bi Y R R R R (L.nil (X.seqN ?_)))))))))))
 rcases ifS hm with ⟨hc, hm⟩ | ⟨hc, hm⟩
 ·refine E.cT R hc (ER (L.mv Y R R (L.as Y R R (L.as Y R R (L.as Y R R (LN (E.ret (X.seqR ?_))))))))
  obtain rfl := oi hm
  exact X.rt (.inl R) Tryz.results14 (Rs.tmp R (Rs.tmp R (Rs.tmp R Rs.nil))) R ⟨_, (s13).ren N (fun _ => 0), R, R, m0.ren hNb, R⟩
 refine E.cF R hc (E.skip (X.seqN (E.seq (ER (L.mv Y R R (L.mv Y R R (L.mv Y R R ?_)))))))
 obtain ⟨x16, ex16, hm⟩ := bindS hm
 obtain ⟨b17, ds17, rfl, bx17, rd17⟩ := h15.some ex16
 obtain ⟨_, _, rfl, ⟨_, _, rfl, ⟨_, _, rfl, ⟨a18, c18, rfl, h18⟩, ⟨_, _, rfl, rfl, ⟨_, _, rfl, ⟨a19, c19, rfl, h19⟩, ⟨a20, c20, rfl, h20⟩⟩⟩⟩, ⟨y21, c21, rfl, h21⟩⟩, ⟨_, _, rfl, ⟨_, _, rfl, ⟨_, _, rfl, ⟨a22, c22, rfl, h22⟩, ⟨_, _, rfl, rfl, ⟨_, _, rfl, ⟨a23, c23, rfl, h23⟩, ⟨a24, c24, rfl, h24⟩⟩⟩⟩, ⟨y25, c25, rfl, h25⟩⟩, ⟨_, _, rfl, ⟨_, _, rfl, ⟨_, _, rfl, ⟨a26, c26, rfl, h26⟩, ⟨_, _, rfl, rfl, ⟨_, _, rfl, ⟨a27, c27, rfl, h27⟩, ⟨a28, c28, rfl, h28⟩⟩⟩⟩, ⟨y29, c29, rfl, h29⟩⟩, ⟨_, _, rfl, ⟨a30, c30, rfl, h30⟩, ⟨_, _, rfl, ⟨a31, c31, rfl, h31⟩, ⟨a32, c32, rfl, h32⟩⟩⟩⟩⟩⟩ := rd17
 replace bx17 : Bx s13 0 b17 #[.slice a18 x16.1.1.1.length c18, .int .i64 x16.1.1.2.1, .slice a19 x16.1.1.2.2.1.length c19, .slice a20 x16.1.1.2.2.2.length c20, .map y21, .slice a22 x16.2.1.1.1.length c22, .int .i64 x16.2.1.1.2.1, .slice a23 x16.2.1.1.2.2.1.length c23, .slice a24 x16.2.1.1.2.2.2.length c24, .map y25, .slice a26 x16.2.2.1.1.1.length c26, .int .i64 x16.2.2.1.1.2.1, .slice a27 x16.2.2.1.1.2.2.1.length c27, .slice a28 x16.2.2.1.1.2.2.2.length c28, .map y29, .slice a30 x16.2.2.2.1.length c30, .slice a31 x16.2.2.2.2.1.length c31, .slice a32 x16.2.2.2.2.2.length c32] 110 := bx17
 obtain ⟨r33, er33, hm⟩ := bindS hm
 refine L.ca cf53 R R Y R (m_scan_task_checkImage_c (s := s13) (p0 := x16) (p1 := p1) (p2 := p2) (t0 := 0) h18 h19 h20 h21 h22 h23 h24 h25 h26 h27 h28 h29 h30 h31 h32 bx17 h8 er33) R ?_
 rintro _ s34 m35 rfl
 replace m0 := m0.trans m35.no
 replace h8 := h8.mono m35.z
 replace bx17 := bx17.mv m35 no_No
 replace h18 := h18.mono m35.z
 replace h19 := h19.mono m35.z
 replace h20 := h20.mono m35.z
 replace h21 := h21.mono m35.z
 replace h22 := h22.mono m35.z
 replace h23 := h23.mono m35.z
 replace h24 := h24.mono m35.z
 replace h25 := h25.mono m35.z
 replace h26 := h26.mono m35.z
 replace h27 := h27.mono m35.z
 replace h28 := h28.mono m35.z
 replace h29 := h29.mono m35.z
 replace h30 := h30.mono m35.z
 replace h31 := h31.mono m35.z
 replace h32 := h32.mono m35.z
 refine L.as Y R R (LN (ER (L.mv Y R R (L.bi Y R R R R (L.nil (X.seqN ?_))))))
 rcases ifS hm with ⟨hc, hm⟩ | ⟨hc, hm⟩
 ·refine E.cT R hc (ER (L.mv Y R R (L.as Y R R (L.as Y R R (L.as Y R R (LN (E.ret (X.seqR ?_))))))))
  obtain rfl := oi hm
  exact X.rt (.inl R) Tryz.results14 (Rs.tmp R (Rs.tmp R (Rs.tmp R Rs.nil))) R ⟨_, (s34).ren N (fun _ => 0), R, R, m0.ren hNb, R⟩
 refine E.cF R hc (E.skip (X.seqN (ER (L.mv Y R R (L.mv Y R R (L.mv Y R R ?_))))))
 obtain ⟨r36, er36, hm⟩ := bindS hm
 refine L.ca cf54 R R Y R (m_scan_task_handle_c (s := s34) (p0 := x16) (p1 := p1) (p2 := p2) (t0 := 0) h18 h19 h20 h21 h22 h23 h24 h25 h26 h27 h28 h29 h30 h31 h32 bx17 h8 er36) R ?_
 rintro _ s37 m38 rfl
 replace m0 := m0.trans m38.no
 refine L.mv Y R R (L.ex Y R R R (L.ex Y R R R (L.as Y R R (L.as Y R R (LN (ER (L.mv Y R R (L.mv Y R R (L.as Y R R (L.as Y R R (L.as Y R R (LN (E.ret ?_)))))))))))))
 obtain rfl := oi hm
 exact X.rt (.inl R) Tryz.results14 (Rs.tmp R (Rs.tmp R (Rs.tmp R Rs.nil))) R ⟨_, (s37).ren N (fun _ => 0), R, R, m0.ren hNb, R⟩

theorem zz3 : (Tryz.prog.info? 3).bind (·.zero) = some (.int .i64 0) := by kernel_rfl
theorem zz34 : (Tryz.prog.info? 34).bind (·.zero) = some (.slice none 0 0) := by kernel_rfl
theorem zz99 : (Tryz.prog.info? 99).bind (·.zero) = some (.pointer none) := by kernel_rfl
noncomputable def m_scan_Safe (p0 : AutT × AutT × List Int) (p1 : Int) (p2 : List Int) : Option (List (List Int) × Int) :=
 (m_scan_open p0).bind fun r16 =>
 if (r16.2 != 0) then
  some (([] : List (List Int)), r16.2)
 else
  r16.1.bind fun x25 =>
  (m_scan_task_checkImage x25 p1 p2).bind fun r42 =>
  if (r42 != 0) then
   some (([] : List (List Int)), r42)
  else
   (m_scan_task_handle x25 p1 p2).bind fun r45 =>
   if decide (r45.2 < (p2.length : Int)) then
    some (([] : List (List Int)), 0)
   else
    none
theorem m_scan_Safe_c {s : Sig} {p0 : AutT × AutT × List Int} {p1 : Int} {p2 : List Int} {a1 : Option Addr} {c1 : Nat} {a2 : Option Addr} {c2 : Nat} {a3 : Option Addr} {c3 : Nat} {a4 : Option Addr} {c4 : Nat} {a5 : Option Addr} {c5 : Nat} {a6 : Option Addr} {c6 : Nat} {a7 : Option Addr} {c7 : Nat} {a8 : Option Addr} {c8 : Nat} {u0 : Nat} {r : List (List Int) × Int} (h1 : RdL qI s a1 c1 p0.1.1) (h2 : RdL qI s a2 c2 p0.1.2.2.1) (h3 : RdL qT s a3 c3 p0.1.2.2.2) (h4 : RdL qI s a4 c4 p0.2.1.1) (h5 : RdL qI s a5 c5 p0.2.1.2.2.1) (h6 : RdL qT s a6 c6 p0.2.1.2.2.2) (h7 : RdL qI s a7 c7 p0.2.2) (h8 : RdL qI s a8 c8 p2) (hm : m_scan_Safe p0 p1 p2 = some r) :
    Calls Tryz.prog 15 #[.agg #[.slice a1 p0.1.1.length c1, .int .i64 p0.1.2.1, .slice a2 p0.1.2.2.1.length c2, .slice a3 p0.1.2.2.2.length c3, .slice a4 p0.2.1.1.length c4, .int .i64 p0.2.1.2.1, .slice a5 p0.2.1.2.2.1.length c5, .slice a6 p0.2.1.2.2.2.length c6, .slice a7 p0.2.2.length c7], .int .i64 p1, .slice a8 p2.length c8] s.w (RetS No s fun v s' => ∃ (a9 : Option Addr) (c9 : Nat), v = .tuple #[.slice a9 r.1.length c9, .int .i64 r.2] ∧ RowT (rL qI) s' u0 22 a9 c9 r.1) := by
 unfold m_scan_Safe at hm
 obtain ⟨N, hN, hNb⟩ := s.fresh
 have m0 : Mv (Up N No) s s := Mv.refl _ _
 refine E.entry Tryz.func15 R Tryz.ntmps15 R R (ER (L.box (N + 0) Y R R R fun b10 s11 m12 bx10 => ?_))
 refine L.box (N + 1) Y R R R fun b13 s14 m15 bx13 => ?_
 replace bx10 := bx10.mv m15 no_No
 replace h1 := (h1.mono m12.z).mono m15.z
 replace h2 := (h2.mono m12.z).mono m15.z
 replace h3 := (h3.mono m12.z).mono m15.z
 replace h4 := (h4.mono m12.z).mono m15.z
 replace h5 := (h5.mono m12.z).mono m15.z
 replace h6 := (h6.mono m12.z).mono m15.z
 replace h7 := (h7.mono m12.z).mono m15.z
 refine L.as Y R R (L.as Y R R (LN (ER (L.lg (j := 0) (cs := [.slice a1 p0.1.1.length c1, .int .i64 p0.1.2.1, .slice a2 p0.1.2.2.1.length c2, .slice a3 p0.1.2.2.2.length c3, .slice a4 p0.2.1.1.length c4, .int .i64 p0.2.1.2.1, .slice a5 p0.2.1.2.2.1.length c5, .slice a6 p0.2.1.2.2.2.length c6, .slice a7 p0.2.2.length c7]) bx10.mem ag27 Y R R R R R ?_))))
 obtain ⟨r16, er16, hm⟩ := bindS hm
 refine L.ca cf52 R R Y R (m_scan_open_c (s := s14) (p0 := p0) h1 h2 h3 h4 h5 h6 h7 er16) R ?_
 rintro _ s17 m18 ⟨v19, rfl, h19⟩
 refine L.mv Y R R (L.ex Y R R R (L.ex Y R R R (L.al (N + 2) zz99 R Y R fun b20 s21 m22 bx20 => ?_)))
 replace h19 := h19.mono m22.z
 refine L.st (c := [v19]) (cs' := #[v19]) bx20 nag99.sz Y R R (cells1 h19.one) R (oneC h19.one R) (nb R) R fun s23 m24 bx20 => ?_
 replace m0 := ((((m0.trans m12.no).trans m15.no).trans m18.no).trans m22.no).trans (m24.one up)
 replace h8 := ((((h8.mono m12.z).mono m15.z).mono m18.z).mono m22.z).mono (m24.le (tg0 hN))
 replace h19 := h19.mono (m24.le (tg0 hN))
 replace bx13 := ((bx13.mv m18 no_No).mv m22 no_No).mv m24 (tq R)
 refine L.as Y R R (LN (E.seq (ER (L.mv Y R R (L.bi Y R R R R (L.nil (X.seqN ?_)))))))
 rcases ifS hm with ⟨hc, hm⟩ | ⟨hc, hm⟩
 ·refine E.cT R hc (ER (L.mv Y R R (L.as Y R R (L.as Y R R (LN (E.ret (X.seqR ?_)))))))
  obtain rfl := oi hm
  exact X.rt (.inl R) Tryz.results15 (Rs.tmp R (Rs.tmp R Rs.nil)) R ⟨_, (s23).ren N (fun _ => 0), R, R, m0.ren hNb, ⟨none, 0, R, RowT.nil⟩⟩
 refine E.cF R hc (E.skip (X.seqN (E.seq (ER (L.ld (j := 0) bx20.mem nag99 Y R R R R (L.ld (j := 0) bx13.mem nag3 Y R R R R (L.mv Y R R ?_)))))))
 obtain ⟨x25, ex25, hm⟩ := bindS hm
 obtain ⟨b26, ds26, rfl, bx26, rd26⟩ := h19.some ex25
 obtain ⟨_, _, rfl, ⟨_, _, rfl, ⟨_, _, rfl, ⟨a27, c27, rfl, h27⟩, ⟨_, _, rfl, rfl, ⟨_, _, rfl, ⟨a28, c28, rfl, h28⟩, ⟨a29, c29, rfl, h29⟩⟩⟩⟩, ⟨y30, c30, rfl, h30⟩⟩, ⟨_, _, rfl, ⟨_, _, rfl, ⟨_, _, rfl, ⟨a31, c31, rfl, h31⟩, ⟨_, _, rfl, rfl, ⟨_, _, rfl, ⟨a32, c32, rfl, h32⟩, ⟨a33, c33, rfl, h33⟩⟩⟩⟩, ⟨y34, c34, rfl, h34⟩⟩, ⟨_, _, rfl, ⟨_, _, rfl, ⟨_, _, rfl, ⟨a35, c35, rfl, h35⟩, ⟨_, _, rfl, rfl, ⟨_, _, rfl, ⟨a36, c36, rfl, h36⟩, ⟨a37, c37, rfl, h37⟩⟩⟩⟩, ⟨y38, c38, rfl, h38⟩⟩, ⟨_, _, rfl, ⟨a39, c39, rfl, h39⟩, ⟨_, _, rfl, ⟨a40, c40, rfl, h40⟩, ⟨a41, c41, rfl, h41⟩⟩⟩⟩⟩⟩ := rd26
 replace bx26 : Bx s23 0 b26 #[.slice a27 x25.1.1.1.length c27, .int .i64 x25.1.1.2.1, .slice a28 x25.1.1.2.2.1.length c28, .slice a29 x25.1.1.2.2.2.length c29, .map y30, .slice a31 x25.2.1.1.1.length c31, .int .i64 x25.2.1.1.2.1, .slice a32 x25.2.1.1.2.2.1.length c32, .slice a33 x25.2.1.1.2.2.2.length c33, .map y34, .slice a35 x25.2.2.1.1.1.length c35, .int .i64 x25.2.2.1.1.2.1, .slice a36 x25.2.2.1.1.2.2.1.length c36, .slice a37 x25.2.2.1.1.2.2.2.length c37, .map y38, .slice a39 x25.2.2.2.1.length c39, .slice a40 x25.2.2.2.2.1.length c40, .slice a41 x25.2.2.2.2.2.length c41] 110 := bx26
 obtain ⟨r42, er42, hm⟩ := bindS hm
 refine L.ca cf53 R R Y R (m_scan_task_checkImage_c (s := s23) (p0 := x25) (p1 := p1) (p2 := p2) (t0 := 0) h27 h28 h29 h30 h31 h32 h33 h34 h35 h36 h37 h38 h39 h40 h41 bx26 h8 er42) R ?_
 rintro _ s43 m44 rfl
 replace m0 := m0.trans m44.no
 replace h8 := h8.mono m44.z
 replace bx20 := bx20.mv m44 no_No
 replace bx26 := bx26.mv m44 no_No
 replace h27 := h27.mono m44.z
 replace h28 := h28.mono m44.z
 replace h29 := h29.mono m44.z
 replace h30 := h30.mono m44.z
 replace h31 := h31.mono m44.z
 replace h32 := h32.mono m44.z
 replace h33 := h33.mono m44.z
 replace h34 := h34.mono m44.z
 replace h35 := h35.mono m44.z
 replace h36 := h36.mono m44.z
 replace h37 := h37.mono m44.z
 replace h38 := h38.mono m44.z
 replace h39 := h39.mono m44.z
 replace h40 := h40.mono m44.z
 replace h41 := h41.mono m44.z
 replace bx13 := bx13.mv m44 no_No
 refine L.as Y R R (LN (ER (L.mv Y R R (L.bi Y R R R R (L.nil (X.seqN ?_))))))
 rcases ifS hm with ⟨hc, hm⟩ | ⟨hc, hm⟩
 ·refine E.cT R hc (ER (L.mv Y R R (L.as Y R R (L.as Y R R (LN (E.ret (X.seqR ?_)))))))
  obtain rfl := oi hm
  exact X.rt (.inl R) Tryz.results15 (Rs.tmp R (Rs.tmp R Rs.nil)) R ⟨_, (s43).ren N (fun _ => 0), R, R, m0.ren hNb, ⟨none, 0, R, RowT.nil⟩⟩
 refine E.cF R hc (E.skip (X.seqN (ER (L.ld (j := 0) bx20.mem nag99 Y R R R R (L.ld (j := 0) bx13.mem nag3 Y R R R R (L.mv Y R R ?_))))))
 obtain ⟨r45, er45, hm⟩ := bindS hm
 refine L.ca cf54 R R Y R (m_scan_task_handle_c (s := s43) (p0 := x25) (p1 := p1) (p2 := p2) (t0 := 0) h27 h28 h29 h30 h31 h32 h33 h34 h35 h36 h37 h38 h39 h40 h41 bx26 h8 er45) R ?_
 rintro _ s46 m47 rfl
 refine L.mv Y R R (L.ex Y R R R (L.ex Y R R R (L.al (N + 3) zz3 R Y R fun b48 s49 m50 bx48 => ?_)))
 refine L.st (c := [.int .i64 r45.1]) (cs' := #[.int .i64 r45.1]) bx48 nag3.sz Y R R R R R (nb R) R fun s51 m52 bx48 => ?_
 replace m0 := ((m0.trans m47.no).trans m50.no).trans (m52.one up)
 refine L.as Y R R (LN (E.seq (ER (L.mv Y R R (L.mv Y R R (L.len sl22 Y R R (L.bi Y R R R R (L.nil (X.seqN ?_)))))))))
 rcases ifS hm with ⟨hc, hm⟩ | ⟨hc, hm⟩
 ·refine E.cT R hc (ER (L.as Y R R (L.as Y R R (LN (E.ret (X.seqR ?_))))))
  obtain rfl := oi hm
  exact X.rt (.inl R) Tryz.results15 (Rs.tmp R (Rs.tmp R Rs.nil)) R ⟨_, (s51).ren N (fun _ => 0), R, R, m0.ren hNb, ⟨none, 0, R, RowT.nil⟩⟩
 refine E.cF R hc (E.skip (X.seqN (ER (L.al (N + 4) zz34 R Y R fun b53 s54 m55 bx53 => LN (ER (L.mv Y R R ?_))))))
 cases hm

noncomputable def m_scan_task_delayed_j1 (b20 : Bool) : Option Bool :=
 some b20
noncomputable def m_scan_task_delayed (p0 : (AutT × (List ((Int × Int) × Int))) × (AutT × (List ((Int × Int) × Int))) × (AutT × (List ((Int × Int) × Int))) × List (List Int) × List Int × List Int) (p1 : Int) (p2 : Int) (p3 : Int) : Option Bool :=
 (m_scan_graph_to p0.2.2.1 p1 p2).bind fun r17 =>
 if (r17 != (-1)) then
  (m_scan_graph_to p0.2.2.1 p1 p3).bind fun r34 =>
  if (r34 != (-1)) then
   (m_scan_graph_to p0.2.2.1 r17 p3).bind fun r48 =>
   if (r48 == (-1)) then
    (idx p0.2.2.2.1 r17).bind fun x65 =>
    (idx x65 0).bind fun x71 =>
    (m_scan_graph_to p0.1 x71 p3).bind fun r76 =>
    m_scan_task_delayed_j1 (r76 != (-1))
   else
    m_scan_task_delayed_j1 false
  else
   m_scan_task_delayed_j1 false
 else
  m_scan_task_delayed_j1 false
abbrev m_scan_task_delayed_w0 : List (List Nat) := [[], [0], [0, 1], [0, 1, 2], [0, 1, 2, 3], [0, 1, 2, 3, 4], [0, 1, 2, 3, 4, 5], [0, 1, 2], [0, 1, 2], [0, 1, 2, 3, 4, 5, 6, 7, 8], [0, 1, 2, 3, 4, 5, 6, 7, 8, 9], [0, 1, 2, 3, 4, 5, 6, 7, 8, 9, 10], [0, 1, 2, 3, 4, 5, 6, 7, 8, 9, 10, 11], [0, 1, 2, 3, 4, 5, 6, 7, 8, 9, 10, 11, 12], [0, 1, 2, 3, 4, 5, 6, 7, 8, 9, 10, 11, 12, 13], [0, 1, 2, 3, 4, 5, 6, 7, 8, 9, 10, 11, 12, 13, 14], [0, 1, 2, 3, 4, 5, 6, 7, 8, 9, 10, 11, 12, 13, 14, 15], [0, 1, 2, 3, 4, 5, 6, 7, 8, 9, 10, 11, 12], [0, 1, 2, 3, 4, 5, 6, 7, 8, 9, 10, 11, 12], [0, 1, 2, 3, 4, 5, 6, 7, 8, 9, 10, 11, 12, 13, 14, 15, 16, 17, 18], [0, 1, 2, 3, 4, 5, 6, 7, 8, 9, 10, 11, 12, 13, 14, 15, 16, 17, 18, 19], [0, 1, 2, 3, 4, 5, 6, 7, 8, 9, 10, 11, 12, 13, 14, 15, 16, 17, 18, 19, 20], [0, 1, 2, 3, 4, 5, 6, 7, 8, 9, 10, 11, 12, 13, 14, 15, 16, 17, 18, 19, 20, 21], [0, 1, 2, 3, 4, 5, 6, 7, 8, 9, 10, 11, 12, 13, 14, 15, 16, 17, 18, 19, 20, 21, 22], [0, 1, 2, 3, 4, 5, 6, 7, 8, 9, 10, 11, 12, 13, 14, 15, 16, 17, 18, 19, 20, 21, 22, 23], [0, 1, 2, 3, 4, 5, 6, 7, 8, 9, 10, 11, 12, 13, 14, 15, 16, 17, 18, 19, 20, 21, 22, 23, 24], [0, 1, 2, 3, 4, 5, 6, 7, 8, 9, 10, 11, 12, 13, 14, 15, 16, 17, 18, 19, 20, 21, 22, 23, 24, 25], [0, 1, 2, 3, 4, 5, 6, 7, 8, 9, 10, 11, 12, 13, 14, 15, 16, 17, 18, 19, 20, 21, 22], [0, 1, 2, 3, 4, 5, 6, 7, 8, 9, 10, 11, 12, 13, 14, 15, 16, 17, 18, 19, 20, 21, 22, 27], [0, 1, 2, 3, 4, 5, 6, 7, 8, 9, 10, 11, 12, 13, 14, 15, 16, 17, 18, 19, 20, 21, 22, 27, 28], [0, 1, 2, 3, 4, 5, 6, 7, 8, 9, 10, 11, 12, 13, 14, 15, 16, 17, 18, 19, 20, 21, 22, 27, 28, 29], [0, 1, 2, 3, 4, 5, 6, 7, 8, 9, 10, 11, 12, 13, 14, 15, 16, 17, 18, 19, 20, 21, 22], [0, 1, 2, 3, 4, 5, 6, 7, 8, 9, 10, 11, 12, 13, 14, 15, 16, 17, 18, 19, 20, 21, 22, 27, 28, 29, 30, 31], [0, 1, 2, 3, 4, 5, 6, 7, 8, 9, 10, 11, 12, 13, 14, 15, 16, 17, 18, 19, 20, 21, 22, 27, 28, 29, 30, 31, 32], [0, 1, 2, 3, 4, 5, 6, 7, 8, 9, 10, 11, 12, 13, 14, 15, 16, 17, 18, 19, 20, 21, 22, 27, 28, 29, 30, 31, 32, 33], [0, 1, 2, 3, 4, 5, 6, 7, 8, 9, 10, 11, 12, 13, 14, 15, 16, 17, 18, 19, 20, 21, 22, 27, 28, 29, 30, 31, 32, 33, 34], [0, 1, 2, 3, 4, 5, 6, 7, 8, 9, 10, 11, 12, 13, 14, 15, 16, 17, 18, 19, 20, 21, 22], [0, 1, 2, 3, 4, 5, 6, 7, 8, 9, 10, 11, 12, 13, 14, 15, 16, 17, 18, 19, 20, 21, 22, 23, 24, 25, 26, 27, 28, 29, 30, 31, 32, 33, 34, 35, 36], [0, 1, 2, 3, 4, 5, 6, 7, 8, 9, 10, 11, 12, 13, 14, 15, 16, 17, 18, 19, 20, 21, 22, 23, 24, 25, 26, 27, 28, 29, 30, 31, 32, 33, 34, 35, 36, 37], [0, 1, 2, 3, 4, 5, 6, 7, 8, 9, 10, 11, 12, 13, 14, 15, 16, 17, 18, 19, 20, 21, 22, 23, 24, 25, 26, 27, 28, 29, 30, 31, 32, 33, 34, 35, 36, 37, 38], [0, 1, 2, 3, 4, 5, 6, 7, 8, 9, 10, 11, 12, 13, 14, 15, 16, 17, 18, 19, 20, 21, 22, 23, 24, 25, 26, 27, 28, 29, 30, 31, 32, 33, 34, 35, 36, 37, 38, 39]]
theorem m_scan_task_delayed_c {s : Sig} {p0 : (AutT × (List ((Int × Int) × Int))) × (AutT × (List ((Int × Int) × Int))) × (AutT × (List ((Int × Int) × Int))) × List (List Int) × List Int × List Int} {p1 : Int} {p2 : Int} {p3 : Int} {t0 : Nat} {a1 : Option Addr} {c1 : Nat} {a2 : Option Addr} {c2 : Nat} {a3 : Option Addr} {c3 : Nat} {y4 : Option Nat} {c4 : Nat} {a5 : Option Addr} {c5 : Nat} {a6 : Option Addr} {c6 : Nat} {a7 : Option Addr} {c7 : Nat} {y8 : Option Nat} {c8 : Nat} {a9 : Option Addr} {c9 : Nat} {a10 : Option Addr} {c10 : Nat} {a11 : Option Addr} {c11 : Nat} {y12 : Option Nat} {c12 : Nat} {a13 : Option Addr} {c13 : Nat} {a14 : Option Addr} {c14 : Nat} {a15 : Option Addr} {c15 : Nat} {b16 : Nat} {r : Bool} (h1 : RdL qI s a1 c1 p0.1.1.1) (h2 : RdL qI s a2 c2 p0.1.1.2.2.1) (h3 : RdL qT s a3 c3 p0.1.1.2.2.2) (h4 : MapD kvP qI s y4 c4 p0.1.2) (h5 : RdL qI s a5 c5 p0.2.1.1.1) (h6 : RdL qI s a6 c6 p0.2.1.1.2.2.1) (h7 : RdL qT s a7 c7 p0.2.1.1.2.2.2) (h8 : MapD kvP qI s y8 c8 p0.2.1.2) (h9 : RdL qI s a9 c9 p0.2.2.1.1.1) (h10 : RdL qI s a10 c10 p0.2.2.1.1.2.2.1) (h11 : RdL qT s a11 c11 p0.2.2.1.1.2.2.2) (h12 : MapD kvP qI s y12 c12 p0.2.2.1.2) (h13 : RdL (rL qI) s a13 c13 p0.2.2.2.1) (h14 : RdL qI s a14 c14 p0.2.2.2.2.1) (h15 : RdL qI s a15 c15 p0.2.2.2.2.2) (bx16 : Bx s t0 b16 #[.slice a1 p0.1.1.1.length c1, .int .i64 p0.1.1.2.1, .slice a2 p0.1.1.2.2.1.length c2, .slice a3 p0.1.1.2.2.2.length c3, .map y4, .slice a5 p0.2.1.1.1.length c5, .int .i64 p0.2.1.1.2.1, .slice a6 p0.2.1.1.2.2.1.length c6, .slice a7 p0.2.1.1.2.2.2.length c7, .map y8, .slice a9 p0.2.2.1.1.1.length c9, .int .i64 p0.2.2.1.1.2.1, .slice a10 p0.2.2.1.1.2.2.1.length c10, .slice a11 p0.2.2.1.1.2.2.2.length c11, .map y12, .slice a13 p0.2.2.2.1.length c13, .slice a14 p0.2.2.2.2.1.length c14, .slice a15 p0.2.2.2.2.2.length c15] 110) (hm : m_scan_task_delayed p0 p1 p2 p3 = some r) :
    Calls Tryz.prog 60 #[.pointer (some ⟨b16, 0, none⟩), .int .i64 p1, .int .i64 p2, .int .i64 p3] s.w (RetS No s fun v s' => v = .bool r) := by
 unfold m_scan_task_delayed at hm
 obtain ⟨N, hN, hNb, lt0, -⟩ := s.freshL [t0]
 have m0 : Mv (Up N No) s s := Mv.refl _ _
 refine E.entry Tryz.func60 R Tryz.ntmps60 R R (ER (L.as Y R R (LN (ER (L.mv Y R R (L.nc Y R R (L.fa fa110_2 Y R R (L.lg (j := 10) (cs := [.slice a9 p0.2.2.1.1.1.length c9, .int .i64 p0.2.2.1.1.2.1, .slice a10 p0.2.2.1.1.2.2.1.length c10, .slice a11 p0.2.2.1.1.2.2.2.length c11, .map y12]) bx16.mem ag108 Y R R R R R (L.mv Y R R (L.mv Y R R ?_))))))))))
 obtain ⟨r17, er17, hm⟩ := bindS hm
 refine L.ca cf106 R R Y R (m_scan_graph_to_c (s := s) (p0 := p0.2.2.1) (p1 := p1) (p2 := p2) h9 h10 h11 h12 er17) R ?_
 rintro _ s18 m19 rfl
 replace m0 := m0.trans m19.no
 replace bx16 := bx16.mv m19 no_No
 replace h1 := h1.mono m19.z
 replace h2 := h2.mono m19.z
 replace h3 := h3.mono m19.z
 replace h4 := h4.mono m19.z
 replace h5 := h5.mono m19.z
 replace h6 := h6.mono m19.z
 replace h7 := h7.mono m19.z
 replace h8 := h8.mono m19.z
 replace h9 := h9.mono m19.z
 replace h10 := h10.mono m19.z
 replace h11 := h11.mono m19.z
 replace h12 := h12.mono m19.z
 replace h13 := h13.mono m19.z
 replace h14 := h14.mono m19.z
 replace h15 := h15.mono m19.z
 refine L.as Y R R (LN (E.seqJ (fun e w => ∃ (s21 : Sig) (b20 : Bool), m_scan_task_delayed_j1 b20 = some r ∧ Mv (Up N No) s s21 ∧ RdL qI s21 a1 c1 p0.1.1.1 ∧ RdL qI s21 a2 c2 p0.1.1.2.2.1 ∧ RdL qT s21 a3 c3 p0.1.1.2.2.2 ∧ MapD kvP qI s21 y4 c4 p0.1.2 ∧ RdL qI s21 a5 c5 p0.2.1.1.1 ∧ RdL qI s21 a6 c6 p0.2.1.1.2.2.1 ∧ RdL qT s21 a7 c7 p0.2.1.1.2.2.2 ∧ MapD kvP qI s21 y8 c8 p0.2.1.2 ∧ RdL qI s21 a9 c9 p0.2.2.1.1.1 ∧ RdL qI s21 a10 c10 p0.2.2.1.1.2.2.1 ∧ RdL qT s21 a11 c11 p0.2.2.1.1.2.2.2 ∧ MapD kvP qI s21 y12 c12 p0.2.2.1.2 ∧ RdL (rL qI) s21 a13 c13 p0.2.2.2.1 ∧ RdL qI s21 a14 c14 p0.2.2.2.2.1 ∧ RdL qI s21 a15 c15 p0.2.2.2.2.2 ∧ Bx s21 t0 b16 #[.slice a1 p0.1.1.1.length c1, .int .i64 p0.1.1.2.1, .slice a2 p0.1.1.2.2.1.length c2, .slice a3 p0.1.1.2.2.2.length c3, .map y4, .slice a5 p0.2.1.1.1.length c5, .int .i64 p0.2.1.1.2.1, .slice a6 p0.2.1.1.2.2.1.length c6, .slice a7 p0.2.1.1.2.2.2.length c7, .map y8, .slice a9 p0.2.2.1.1.1.length c9, .int .i64 p0.2.2.1.1.2.1, .slice a10 p0.2.2.1.1.2.2.1.length c10, .slice a11 p0.2.2.1.1.2.2.2.length c11, .map y12, .slice a13 p0.2.2.2.1.length c13, .slice a14 p0.2.2.2.2.1.length c14, .slice a15 p0.2.2.2.2.2.length c15] 110 ∧ e = [(8, .bool b20)] ∧ w = s21.w) ?_ ?_))
 ·rintro _ _ ⟨s21, b20, hm, m0, h1, h2, h3, h4, h5, h6, h7, h8, h9, h10, h11, h12, h13, h14, h15, bx16, rfl, rfl⟩
  unfold m_scan_task_delayed_j1 at hm
  refine E.ret ?_
  obtain rfl := oi hm
  exact X.rt (.inl R) Tryz.results60 (Rs.tmp R Rs.nil) R ⟨_, (s21).ren N (fun _ => 0), R, R, m0.ren hNb, R⟩
 intro Jj22
 rcases ifS hm with ⟨hc26, hm⟩ | ⟨hc26, hm⟩
 ·have _ := hN
  obtain ⟨r34, er34, hm⟩ := bindS hm
  rcases ifS hm with ⟨hc40, hm⟩ | ⟨hc40, hm⟩
  ·have _ := hN
   obtain ⟨r48, er48, hm⟩ := bindS hm
   rcases ifS hm with ⟨hc54, hm⟩ | ⟨hc54, hm⟩
   ·have _ := hN
    obtain ⟨x65, ex65, hm⟩ := bindS hm
    obtain ⟨x71, ex71, hm⟩ := bindS hm
    obtain ⟨r76, er76, hm⟩ := bindS hm
    refine E.draw m_scan_task_delayed_w0 (fun D e sx => Mv No s18 sx ∧ Sub [(9, .int .i64 r17), (0, .pointer (some ⟨b16, 0, none⟩)), (1, .int .i64 p1), (3, .int .i64 p3)] e ∧ AllP [G D e 0 17 (.int .i64 r17), G D e 1 18 (.bool (r17 != (-1))), G D e 2 19 (.bool (r17 != (-1))), G D e 3 20 (.pointer (some ⟨b16, 0, none⟩)), G D e 4 21 (.pointer (some ⟨b16, 0, none⟩)), G D e 5 22 (.pointer (some ⟨b16, 10, none⟩)), G D e 6 23 (.agg #[.slice a9 p0.2.2.1.1.1.length c9, .int .i64 p0.2.2.1.1.2.1, .slice a10 p0.2.2.1.1.2.2.1.length c10, .slice a11 p0.2.2.1.1.2.2.2.length c11, .map y12]), G D e 7 24 (.int .i64 p1), G D e 8 25 (.int .i64 p3), G D e 9 26 (.int .i64 r34), G D e 10 27 (.bool (r34 != (-1))), G D e 11 28 (.bool (r34 != (-1))), G D e 12 29 (.bool (r34 != (-1))), G D e 13 30 (.pointer (some ⟨b16, 0, none⟩)), G D e 14 31 (.pointer (some ⟨b16, 0, none⟩)), G D e 15 32 (.pointer (some ⟨b16, 10, none⟩)), G D e 16 33 (.agg #[.slice a9 p0.2.2.1.1.1.length c9, .int .i64 p0.2.2.1.1.2.1, .slice a10 p0.2.2.1.1.2.2.1.length c10, .slice a11 p0.2.2.1.1.2.2.2.length c11, .map y12]), G D e 17 34 (.int .i64 r17), G D e 18 35 (.int .i64 p3), G D e 19 36 (.int .i64 r48), G D e 20 37 (.bool (r48 == (-1))), G D e 21 38 (.bool (r48 == (-1))), G D e 22 39 (.bool (r48 == (-1))), G D e 23 40 (.pointer (some ⟨b16, 0, none⟩)), G D e 24 41 (.pointer (some ⟨b16, 0, none⟩)), G D e 25 42 (.pointer (some ⟨b16, 0, none⟩)), G D e 26 43 (.agg #[.slice a1 p0.1.1.1.length c1, .int .i64 p0.1.1.2.1, .slice a2 p0.1.1.2.2.1.length c2, .slice a3 p0.1.1.2.2.2.length c3, .map y4]), G D e 27 44 (.pointer (some ⟨b16, 0, none⟩)), G D e 28 45 (.pointer (some ⟨b16, 0, none⟩)), G D e 29 46 (.pointer (some ⟨b16, 15, none⟩)), G D e 30 47 (.slice a13 p0.2.2.2.1.length c13), G D e 31 48 (.int .i64 r17), D 32 = true → (∃ (b66 : Nat) (o66 : Nat) (a67 : Option Addr) (c67 : Nat), Env.get e 49 = some (.pointer (some ⟨b66, o66, none⟩)) ∧ Mem sx 0 b66 o66 [.slice a67 x65.length c67] ∧ RdL qI sx a67 c67 x65), D 33 = true → (∃ (a69 : Option Addr) (c69 : Nat), Env.get e 50 = some (.slice a69 x65.length c69) ∧ RdL qI sx a69 c69 x65), D 34 = true → (∃ (b72 : Nat) (o72 : Nat), Env.get e 51 = some (.pointer (some ⟨b72, o72, none⟩)) ∧ Mem sx 0 b72 o72 [.int .i64 x71]), G D e 35 52 (.int .i64 x71), G D e 36 53 (.int .i64 p3), G D e 37 54 (.int .i64 r76), G D e 38 55 (.bool (r76 != (-1))), G D e 39 56 (.bool (r76 != (-1))), G D e 40 8 (.bool (r76 != (-1)))]) (by kernel_rfl) (by kernel_rfl) (by kernel_rfl) ?_ ?_ ?_
    ·intro sz mz
     exact ⟨mz, (Sub.rf R), nofun, nofun, nofun, nofun, nofun, nofun, nofun, nofun, nofun, nofun, nofun, nofun, nofun, nofun, nofun, nofun, nofun, nofun, nofun, nofun, nofun, nofun, nofun, nofun, nofun, nofun, nofun, nofun, nofun, nofun, nofun, nofun, nofun, nofun, nofun, nofun, nofun, nofun, nofun, nofun, nofun, trivial⟩
    ·refine ⟨?_, ?_, ?_, ?_, ?_, ?_, ?_, ?_, ?_, ?_, ?_, ?_, ?_, ?_, ?_, ?_, ?_, ?_, ?_, ?_, ?_, ?_, ?_, ?_, ?_, ?_, ?_, ?_, ?_, ?_, ?_, ?_, ?_, ?_, ?_, ?_, ?_, ?_, ?_, ?_, ?_, trivial⟩
     ·rintro D e s23 ⟨im, ib, i⟩ hk hf ha
      have kn := K1 (ib 9 _ R)
      exact kn.g (L.mv Y R R (L.nil (X.dk kn ⟨im, Sub.fresh ib R, i.u 0 (fun _ => R)⟩)))
     ·rintro D e s24 ⟨im, ib, i⟩ hk hf ha
      have kn := K1 ((i.p 0) (ha.at 0 R))
      exact kn.g (L.bi Y R R R R (L.nil (X.dk kn ⟨im, Sub.fresh ib R, i.u 1 (fun _ => R)⟩)))
     ·rintro D e s25 ⟨im, ib, i⟩ hk hf ha
      have kn := K1 ((i.p 1) (ha.at 1 R))
      exact kn.g (L.mv Y R R (L.nil (X.dk kn ⟨im, Sub.fresh ib R, i.u 2 (fun _ => R)⟩)))
     ·rintro D e s27 ⟨im, ib, i⟩ hk hf ha
      have g2_ := (i.p 2) (ha.at 2 R)
      rw [hc26] at g2_
      have kn := K2 (ib 0 _ R) g2_
      exact kn.g (L.mv (Wt.mk R R) R R (L.nil (X.dk kn ⟨im, Sub.fresh ib R, i.u 3 (fun _ => R)⟩)))
     ·rintro D e s28 ⟨im, ib, i⟩ hk hf ha
      have g2_ := (i.p 2) (ha.at 2 R)
      rw [hc26] at g2_
      have kn := K2 ((i.p 3) (ha.at 3 R)) g2_
      exact kn.g (L.nc (Wt.mk R R) R R (L.nil (X.dk kn ⟨im, Sub.fresh ib R, i.u 4 (fun _ => R)⟩)))
     ·rintro D e s29 ⟨im, ib, i⟩ hk hf ha
      have g2_ := (i.p 2) (ha.at 2 R)
      rw [hc26] at g2_
      have kn := K2 ((i.p 4) (ha.at 4 R)) g2_
      exact kn.g (L.fa fa110_2 (Wt.mk R R) R R (L.nil (X.dk kn ⟨im, Sub.fresh ib R, i.u 5 (fun _ => R)⟩)))
     ·rintro D e s30 ⟨im, ib, i⟩ hk hf ha
      have g2_ := (i.p 2) (ha.at 2 R)
      have bx16 := bx16.mv im no_No
      rw [hc26] at g2_
      have kn := K2 ((i.p 5) (ha.at 5 R)) g2_
      exact kn.g (L.lg (j := 10) (cs := [.slice a9 p0.2.2.1.1.1.length c9, .int .i64 p0.2.2.1.1.2.1, .slice a10 p0.2.2.1.1.2.2.1.length c10, .slice a11 p0.2.2.1.1.2.2.2.length c11, .map y12]) bx16.mem ag108 (Wt.mk R R) R R R R R (L.nil (X.dk kn ⟨im, Sub.fresh ib R, i.u 6 (fun _ => R)⟩)))
     ·rintro D e s31 ⟨im, ib, i⟩ hk hf ha
      have g2_ := (i.p 2) (ha.at 2 R)
      rw [hc26] at g2_
      have kn := K2 (ib 1 _ R) g2_
      exact kn.g (L.mv (Wt.mk R R) R R (L.nil (X.dk kn ⟨im, Sub.fresh ib R, i.u 7 (fun _ => R)⟩)))
     ·rintro D e s32 ⟨im, ib, i⟩ hk hf ha
      have g2_ := (i.p 2) (ha.at 2 R)
      rw [hc26] at g2_
      have kn := K2 (ib 3 _ R) g2_
      exact kn.g (L.mv (Wt.mk R R) R R (L.nil (X.dk kn ⟨im, Sub.fresh ib R, i.u 8 (fun _ => R)⟩)))
     ·rintro D e s33 ⟨im, ib, i⟩ hk hf ha
      have g2_ := (i.p 2) (ha.at 2 R)
      have h9 := h9.mono im.z
      have h10 := h10.mono im.z
      have h11 := h11.mono im.z
      have h12 := h12.mono im.z
      rw [hc26] at g2_
      have kn := K4 ((i.p 6) (ha.at 6 R)) ((i.p 7) (ha.at 7 R)) ((i.p 8) (ha.at 8 R)) g2_
      refine kn.g (L.ca cf106 R R (Wt.mk R R) R (m_scan_graph_to_c (s := s33) (p0 := p0.2.2.1) (p1 := p1) (p2 := p3) h9 h10 h11 h12 er34) R ?_)
      rintro _ s35 m36 rfl
      exact L.nil (X.dk kn ⟨im.trans m36.no, Sub.fresh ib R, (((i.u 9 (fun _ => R)).u 32 (fun z => let ⟨b66, o66, a67, c67, q, me66, h67⟩ := (i.p 32) z; ⟨b66, o66, a67, c67, q, (me66.mv m36 no_No), (h67.mono m36.z)⟩)).u 33 (fun z => let ⟨a69, c69, q, h69⟩ := (i.p 33) z; ⟨a69, c69, q, (h69.mono m36.z)⟩)).u 34 (fun z => let ⟨b72, o72, q, me72⟩ := (i.p 34) z; ⟨b72, o72, q, (me72.mv m36 no_No)⟩)⟩)
     ·rintro D e s37 ⟨im, ib, i⟩ hk hf ha
      have g2_ := (i.p 2) (ha.at 2 R)
      rw [hc26] at g2_
      have kn := K2 ((i.p 9) (ha.at 9 R)) g2_
      exact kn.g (L.bi (Wt.mk R R) R R R R (L.nil (X.dk kn ⟨im, Sub.fresh ib R, i.u 10 (fun _ => R)⟩)))
     ·rintro D e s38 ⟨im, ib, i⟩ hk hf ha
      have g2_ := (i.p 2) (ha.at 2 R)
      rw [hc26] at g2_
      have kn := K2 g2_ ((i.p 10) (ha.at 10 R))
      exact kn.g (L.pkT Y R R R R (L.nil (X.dk kn ⟨im, Sub.fresh ib R, i.u 11 (fun _ => R)⟩)))
     ·rintro D e s39 ⟨im, ib, i⟩ hk hf ha
      have kn := K1 ((i.p 11) (ha.at 11 R))
      exact kn.g (L.mv Y R R (L.nil (X.dk kn ⟨im, Sub.fresh ib R, i.u 12 (fun _ => R)⟩)))
     ·rintro D e s41 ⟨im, ib, i⟩ hk hf ha
      have g12_ := (i.p 12) (ha.at 12 R)
      rw [hc40] at g12_
      have kn := K2 (ib 0 _ R) g12_
      exact kn.g (L.mv (Wt.mk R R) R R (L.nil (X.dk kn ⟨im, Sub.fresh ib R, i.u 13 (fun _ => R)⟩)))
     ·rintro D e s42 ⟨im, ib, i⟩ hk hf ha
      have g12_ := (i.p 12) (ha.at 12 R)
      rw [hc40] at g12_
      have kn := K2 ((i.p 13) (ha.at 13 R)) g12_
      exact kn.g (L.nc (Wt.mk R R) R R (L.nil (X.dk kn ⟨im, Sub.fresh ib R, i.u 14 (fun _ => R)⟩)))
     ·rintro D e s43 ⟨im, ib, i⟩ hk hf ha
      have g12_ := (i.p 12) (ha.at 12 R)
      rw [hc40] at g12_
      have kn := K2 ((i.p 14) (ha.at 14 R)) g12_
      exact kn.g (L.fa fa110_2 (Wt.mk R R) R R (L.nil (X.dk kn ⟨im, Sub.fresh ib R, i.u 15 (fun _ => R)⟩)))
     ·rintro D e s44 ⟨im, ib, i⟩ hk hf ha
      have g12_ := (i.p 12) (ha.at 12 R)
      have bx16 := bx16.mv im no_No
      rw [hc40] at g12_
      have kn := K2 ((i.p 15) (ha.at 15 R)) g12_
      exact kn.g (L.lg (j := 10) (cs := [.slice a9 p0.2.2.1.1.1.length c9, .int .i64 p0.2.2.1.1.2.1, .slice a10 p0.2.2.1.1.2.2.1.length c10, .slice a11 p0.2.2.1.1.2.2.2.length c11, .map y12]) bx16.mem ag108 (Wt.mk R R) R R R R R (L.nil (X.dk kn ⟨im, Sub.fresh ib R, i.u 16 (fun _ => R)⟩)))
     ·rintro D e s45 ⟨im, ib, i⟩ hk hf ha
      have g12_ := (i.p 12) (ha.at 12 R)
      rw [hc40] at g12_
      have kn := K2 (ib 9 _ R) g12_
      exact kn.g (L.mv (Wt.mk R R) R R (L.nil (X.dk kn ⟨im, Sub.fresh ib R, i.u 17 (fun _ => R)⟩)))
     ·rintro D e s46 ⟨im, ib, i⟩ hk hf ha
      have g12_ := (i.p 12) (ha.at 12 R)
      rw [hc40] at g12_
      have kn := K2 (ib 3 _ R) g12_
      exact kn.g (L.mv (Wt.mk R R) R R (L.nil (X.dk kn ⟨im, Sub.fresh ib R, i.u 18 (fun _ => R)⟩)))
     ·rintro D e s47 ⟨im, ib, i⟩ hk hf ha
      have g12_ := (i.p 12) (ha.at 12 R)
      have h9 := h9.mono im.z
      have h10 := h10.mono im.z
      have h11 := h11.mono im.z
      have h12 := h12.mono im.z
      rw [hc40] at g12_
      have kn := K4 ((i.p 16) (ha.at 16 R)) ((i.p 17) (ha.at 17 R)) ((i.p 18) (ha.at 18 R)) g12_
      refine kn.g (L.ca cf106 R R (Wt.mk R R) R (m_scan_graph_to_c (s := s47) (p0 := p0.2.2.1) (p1 := r17) (p2 := p3) h9 h10 h11 h12 er48) R ?_)
      rintro _ s49 m50 rfl
      exact L.nil (X.dk kn ⟨im.trans m50.no, Sub.fresh ib R, (((i.u 19 (fun _ => R)).u 32 (fun z => let ⟨b66, o66, a67, c67, q, me66, h67⟩ := (i.p 32) z; ⟨b66, o66, a67, c67, q, (me66.mv m50 no_No), (h67.mono m50.z)⟩)).u 33 (fun z => let ⟨a69, c69, q, h69⟩ := (i.p 33) z; ⟨a69, c69, q, (h69.mono m50.z)⟩)).u 34 (fun z => let ⟨b72, o72, q, me72⟩ := (i.p 34) z; ⟨b72, o72, q, (me72.mv m50 no_No)⟩)⟩)
     ·rintro D e s51 ⟨im, ib, i⟩ hk hf ha
      have g12_ := (i.p 12) (ha.at 12 R)
      rw [hc40] at g12_
      have kn := K2 ((i.p 19) (ha.at 19 R)) g12_
      exact kn.g (L.bi (Wt.mk R R) R R R R (L.nil (X.dk kn ⟨im, Sub.fresh ib R, i.u 20 (fun _ => R)⟩)))
     ·rintro D e s52 ⟨im, ib, i⟩ hk hf ha
      have g12_ := (i.p 12) (ha.at 12 R)
      rw [hc40] at g12_
      have kn := K2 g12_ ((i.p 20) (ha.at 20 R))
      exact kn.g (L.pkT Y R R R R (L.nil (X.dk kn ⟨im, Sub.fresh ib R, i.u 21 (fun _ => R)⟩)))
     ·rintro D e s53 ⟨im, ib, i⟩ hk hf ha
      have kn := K1 ((i.p 21) (ha.at 21 R))
      exact kn.g (L.mv Y R R (L.nil (X.dk kn ⟨im, Sub.fresh ib R, i.u 22 (fun _ => R)⟩)))
     ·rintro D e s55 ⟨im, ib, i⟩ hk hf ha
      have g22_ := (i.p 22) (ha.at 22 R)
      rw [hc54] at g22_
      have kn := K2 (ib 0 _ R) g22_
      exact kn.g (L.mv (Wt.mk R R) R R (L.nil (X.dk kn ⟨im, Sub.fresh ib R, i.u 23 (fun _ => R)⟩)))
     ·rintro D e s56 ⟨im, ib, i⟩ hk hf ha
      have g22_ := (i.p 22) (ha.at 22 R)
      rw [hc54] at g22_
      have kn := K2 ((i.p 23) (ha.at 23 R)) g22_
      exact kn.g (L.nc (Wt.mk R R) R R (L.nil (X.dk kn ⟨im, Sub.fresh ib R, i.u 24 (fun _ => R)⟩)))
     ·rintro D e s57 ⟨im, ib, i⟩ hk hf ha
      have g22_ := (i.p 22) (ha.at 22 R)
      rw [hc54] at g22_
      have kn := K2 ((i.p 24) (ha.at 24 R)) g22_
      exact kn.g (L.fa fa110_0 (Wt.mk R R) R R (L.nil (X.dk kn ⟨im, Sub.fresh ib R, i.u 25 (fun _ => R)⟩)))
     ·rintro D e s58 ⟨im, ib, i⟩ hk hf ha
      have g22_ := (i.p 22) (ha.at 22 R)
      have bx16 := bx16.mv im no_No
      rw [hc54] at g22_
      have kn := K2 ((i.p 25) (ha.at 25 R)) g22_
      exact kn.g (L.lg (j := 0) (cs := [.slice a1 p0.1.1.1.length c1, .int .i64 p0.1.1.2.1, .slice a2 p0.1.1.2.2.1.length c2, .slice a3 p0.1.1.2.2.2.length c3, .map y4]) bx16.mem ag108 (Wt.mk R R) R R R R R (L.nil (X.dk kn ⟨im, Sub.fresh ib R, i.u 26 (fun _ => R)⟩)))
     ·rintro D e s59 ⟨im, ib, i⟩ hk hf ha
      have g22_ := (i.p 22) (ha.at 22 R)
      rw [hc54] at g22_
      have kn := K2 (ib 0 _ R) g22_
      exact kn.g (L.mv (Wt.mk R R) R R (L.nil (X.dk kn ⟨im, Sub.fresh ib R, i.u 27 (fun _ => R)⟩)))
     ·rintro D e s60 ⟨im, ib, i⟩ hk hf ha
      have g22_ := (i.p 22) (ha.at 22 R)
      rw [hc54] at g22_
      have kn := K2 ((i.p 27) (ha.at 27 R)) g22_
      exact kn.g (L.nc (Wt.mk R R) R R (L.nil (X.dk kn ⟨im, Sub.fresh ib R, i.u 28 (fun _ => R)⟩)))
     ·rintro D e s61 ⟨im, ib, i⟩ hk hf ha
      have g22_ := (i.p 22) (ha.at 22 R)
      rw [hc54] at g22_
      have kn := K2 ((i.p 28) (ha.at 28 R)) g22_
      exact kn.g (L.fa fa110_3 (Wt.mk R R) R R (L.nil (X.dk kn ⟨im, Sub.fresh ib R, i.u 29 (fun _ => R)⟩)))
     ·rintro D e s62 ⟨im, ib, i⟩ hk hf ha
      have g22_ := (i.p 22) (ha.at 22 R)
      have bx16 := bx16.mv im no_No
      rw [hc54] at g22_
      have kn := K2 ((i.p 29) (ha.at 29 R)) g22_
      exact kn.g (L.ld (j := 15) bx16.mem nag34 (Wt.mk R R) R R R R (L.nil (X.dk kn ⟨im, Sub.fresh ib R, i.u 30 (fun _ => R)⟩)))
     ·rintro D e s63 ⟨im, ib, i⟩ hk hf ha
      have g22_ := (i.p 22) (ha.at 22 R)
      rw [hc54] at g22_
      have kn := K2 (ib 9 _ R) g22_
      exact kn.g (L.mv (Wt.mk R R) R R (L.nil (X.dk kn ⟨im, Sub.fresh ib R, i.u 31 (fun _ => R)⟩)))
     ·rintro D e s64 ⟨im, ib, i⟩ hk hf ha
      have g22_ := (i.p 22) (ha.at 22 R)
      have h13 := h13.mono im.z
      rw [hc54] at g22_
      have kn := K3 ((i.p 30) (ha.at 30 R)) ((i.p 31) (ha.at 31 R)) g22_
      refine kn.g (L.ix (r := (rL qI)) sl34 h13 (Wt.mk R R) R R ex65 R fun b66 o66 cc66 me66 rd66 => ?_)
      obtain ⟨a67, c67, rfl, h67⟩ := rd66
      exact L.nil (X.dk kn ⟨im, Sub.fresh ib R, i.u 32 (fun _ => ⟨b66, o66, a67, c67, R, me66, h67⟩)⟩)
     ·rintro D e s68 ⟨im, ib, i⟩ hk hf ha
      have g22_ := (i.p 22) (ha.at 22 R)
      obtain ⟨b66, o66, a67, c67, g32_, me66, h67⟩ := (i.p 32) (ha.at 32 R)
      rw [hc54] at g22_
      have kn := K2 g32_ g22_
      refine kn.g (L.ld (j := 0) me66 nag22 (Wt.mk R R) R R R R ?_)
      obtain ⟨a69, c69, ea69, ec69, h69⟩ : ∃ a c, a = a67 ∧ c = c67 ∧ RdL qI s68 a c x65 := ⟨_, _, rfl, rfl, h67⟩
      subst ea69 ec69
      exact L.nil (X.dk kn ⟨im, Sub.fresh ib R, i.u 33 (fun _ => ⟨a69, c69, R, h69⟩)⟩)
     ·rintro D e s70 ⟨im, ib, i⟩ hk hf ha
      have g22_ := (i.p 22) (ha.at 22 R)
      obtain ⟨a69, c69, g33_, h69⟩ := (i.p 33) (ha.at 33 R)
      rw [hc54] at g22_
      have kn := K2 g33_ g22_
      refine kn.g (L.ix (r := qI) sl22 h69 (Wt.mk R R) R R ex71 R fun b72 o72 cc72 me72 rd72 => ?_)
      obtain rfl := rd72
      exact L.nil (X.dk kn ⟨im, Sub.fresh ib R, i.u 34 (fun _ => ⟨b72, o72, R, me72⟩)⟩)
     ·rintro D e s73 ⟨im, ib, i⟩ hk hf ha
      have g22_ := (i.p 22) (ha.at 22 R)
      obtain ⟨b72, o72, g34_, me72⟩ := (i.p 34) (ha.at 34 R)
      rw [hc54] at g22_
      have kn := K2 g34_ g22_
      exact kn.g (L.ld (j := 0) me72 nag3 (Wt.mk R R) R R R R (L.nil (X.dk kn ⟨im, Sub.fresh ib R, i.u 35 (fun _ => R)⟩)))
     ·rintro D e s74 ⟨im, ib, i⟩ hk hf ha
      have g22_ := (i.p 22) (ha.at 22 R)
      rw [hc54] at g22_
      have kn := K2 (ib 3 _ R) g22_
      exact kn.g (L.mv (Wt.mk R R) R R (L.nil (X.dk kn ⟨im, Sub.fresh ib R, i.u 36 (fun _ => R)⟩)))
     ·rintro D e s75 ⟨im, ib, i⟩ hk hf ha
      have g22_ := (i.p 22) (ha.at 22 R)
      have h1 := h1.mono im.z
      have h2 := h2.mono im.z
      have h3 := h3.mono im.z
      have h4 := h4.mono im.z
      rw [hc54] at g22_
      have kn := K4 ((i.p 26) (ha.at 26 R)) ((i.p 35) (ha.at 35 R)) ((i.p 36) (ha.at 36 R)) g22_
      refine kn.g (L.ca cf106 R R (Wt.mk R R) R (m_scan_graph_to_c (s := s75) (p0 := p0.1) (p1 := x71) (p2 := p3) h1 h2 h3 h4 er76) R ?_)
      rintro _ s77 m78 rfl
      exact L.nil (X.dk kn ⟨im.trans m78.no, Sub.fresh ib R, (((i.u 32 (fun z => let ⟨b66, o66, a67, c67, q, me66, h67⟩ := (i.p 32) z; ⟨b66, o66, a67, c67, q, (me66.mv m78 no_No), (h67.mono m78.z)⟩)).u 33 (fun z => let ⟨a69, c69, q, h69⟩ := (i.p 33) z; ⟨a69, c69, q, (h69.mono m78.z)⟩)).u 34 (fun z => let ⟨b72, o72, q, me72⟩ := (i.p 34) z; ⟨b72, o72, q, (me72.mv m78 no_No)⟩)).u 37 (fun _ => R)⟩)
     ·rintro D e s79 ⟨im, ib, i⟩ hk hf ha
      have g22_ := (i.p 22) (ha.at 22 R)
      rw [hc54] at g22_
      have kn := K2 ((i.p 37) (ha.at 37 R)) g22_
      exact kn.g (L.bi (Wt.mk R R) R R R R (L.nil (X.dk kn ⟨im, Sub.fresh ib R, i.u 38 (fun _ => R)⟩)))
     ·rintro D e s80 ⟨im, ib, i⟩ hk hf ha
      have g22_ := (i.p 22) (ha.at 22 R)
      rw [hc54] at g22_
      have kn := K2 g22_ ((i.p 38) (ha.at 38 R))
      exact kn.g (L.pkT Y R R R R (L.nil (X.dk kn ⟨im, Sub.fresh ib R, i.u 39 (fun _ => R)⟩)))
     rintro D e s81 ⟨im, ib, i⟩ hk hf ha
     have kn := K1 ((i.p 39) (ha.at 39 R))
     exact kn.g (L.as Y R R (L.nil (X.dk kn ⟨im, Sub.fresh ib R, i.u 40 (fun _ => R)⟩)))
    rintro D e s82 hD ⟨im, ib, i⟩
    have g40_ := (i.p 40) (hD 40 R)
    have bx16 := bx16.mv im no_No
    have h1 := h1.mono im.z
    have h2 := h2.mono im.z
    have h3 := h3.mono im.z
    have h4 := h4.mono im.z
    have h5 := h5.mono im.z
    have h6 := h6.mono im.z
    have h7 := h7.mono im.z
    have h8 := h8.mono im.z
    have h9 := h9.mono im.z
    have h10 := h10.mono im.z
    have h11 := h11.mono im.z
    have h12 := h12.mono im.z
    have h13 := h13.mono im.z
    have h14 := h14.mono im.z
    have h15 := h15.mono im.z
    have m0 := m0.trans im.no
    refine X.sub (e' := [(8, .bool (r76 != (-1)))]) ?_ (Sub.cons g40_ Sub.nil)
    exact X.sub (Jj22 _ _ ⟨s82, (r76 != (-1)), hm, m0, h1, h2, h3, h4, h5, h6, h7, h8, h9, h10, h11, h12, h13, h14, h15, bx16, R, R⟩) (Sub.rf R)
   have _ := hN
   refine E.draw m_scan_task_delayed_w0 (fun D e sx => Mv No s18 sx ∧ Sub [(9, .int .i64 r17), (0, .pointer (some ⟨b16, 0, none⟩)), (1, .int .i64 p1), (3, .int .i64 p3)] e ∧ AllP [G D e 0 17 (.int .i64 r17), G D e 1 18 (.bool (r17 != (-1))), G D e 2 19 (.bool (r17 != (-1))), G D e 3 20 (.pointer (some ⟨b16, 0, none⟩)), G D e 4 21 (.pointer (some ⟨b16, 0, none⟩)), G D e 5 22 (.pointer (some ⟨b16, 10, none⟩)), G D e 6 23 (.agg #[.slice a9 p0.2.2.1.1.1.length c9, .int .i64 p0.2.2.1.1.2.1, .slice a10 p0.2.2.1.1.2.2.1.length c10, .slice a11 p0.2.2.1.1.2.2.2.length c11, .map y12]), G D e 7 24 (.int .i64 p1), G D e 8 25 (.int .i64 p3), G D e 9 26 (.int .i64 r34), G D e 10 27 (.bool (r34 != (-1))), G D e 11 28 (.bool (r34 != (-1))), G D e 12 29 (.bool (r34 != (-1))), G D e 13 30 (.pointer (some ⟨b16, 0, none⟩)), G D e 14 31 (.pointer (some ⟨b16, 0, none⟩)), G D e 15 32 (.pointer (some ⟨b16, 10, none⟩)), G D e 16 33 (.agg #[.slice a9 p0.2.2.1.1.1.length c9, .int .i64 p0.2.2.1.1.2.1, .slice a10 p0.2.2.1.1.2.2.1.length c10, .slice a11 p0.2.2.1.1.2.2.2.length c11, .map y12]), G D e 17 34 (.int .i64 r17), G D e 18 35 (.int .i64 p3), G D e 19 36 (.int .i64 r48), G D e 20 37 (.bool (r48 == (-1))), G D e 21 38 (.bool (r48 == (-1))), G D e 22 39 (.bool (r48 == (-1))), G D e 23 40 undef, G D e 24 41 undef, G D e 25 42 undef, G D e 26 43 undef, G D e 27 44 undef, G D e 28 45 undef, G D e 29 46 undef, G D e 30 47 undef, G D e 31 48 undef, G D e 32 49 undef, G D e 33 50 undef, G D e 34 51 undef, G D e 35 52 undef, G D e 36 53 undef, G D e 37 54 undef, G D e 38 55 undef, G D e 39 56 (.bool false), G D e 40 8 (.bool false)]) (by kernel_rfl) (by kernel_rfl) (by kernel_rfl) ?_ ?_ ?_
   ·intro sz mz
    exact ⟨mz, (Sub.rf R), nofun, nofun, nofun, nofun, nofun, nofun, nofun, nofun, nofun, nofun, nofun, nofun, nofun, nofun, nofun, nofun, nofun, nofun, nofun, nofun, nofun, nofun, nofun, nofun, nofun, nofun, nofun, nofun, nofun, nofun, nofun, nofun, nofun, nofun, nofun, nofun, nofun, nofun, nofun, nofun, nofun, trivial⟩
   ·refine ⟨?_, ?_, ?_, ?_, ?_, ?_, ?_, ?_, ?_, ?_, ?_, ?_, ?_, ?_, ?_, ?_, ?_, ?_, ?_, ?_, ?_, ?_, ?_, ?_, ?_, ?_, ?_, ?_, ?_, ?_, ?_, ?_, ?_, ?_, ?_, ?_, ?_, ?_, ?_, ?_, ?_, trivial⟩
    ·rintro D e s23 ⟨im, ib, i⟩ hk hf ha
     have kn := K1 (ib 9 _ R)
     exact kn.g (L.mv Y R R (L.nil (X.dk kn ⟨im, Sub.fresh ib R, i.u 0 (fun _ => R)⟩)))
    ·rintro D e s24 ⟨im, ib, i⟩ hk hf ha
     have kn := K1 ((i.p 0) (ha.at 0 R))
     exact kn.g (L.bi Y R R R R (L.nil (X.dk kn ⟨im, Sub.fresh ib R, i.u 1 (fun _ => R)⟩)))
    ·rintro D e s25 ⟨im, ib, i⟩ hk hf ha
     have kn := K1 ((i.p 1) (ha.at 1 R))
     exact kn.g (L.mv Y R R (L.nil (X.dk kn ⟨im, Sub.fresh ib R, i.u 2 (fun _ => R)⟩)))
    ·rintro D e s27 ⟨im, ib, i⟩ hk hf ha
     have g2_ := (i.p 2) (ha.at 2 R)
     rw [hc26] at g2_
     have kn := K2 (ib 0 _ R) g2_
     exact kn.g (L.mv (Wt.mk R R) R R (L.nil (X.dk kn ⟨im, Sub.fresh ib R, i.u 3 (fun _ => R)⟩)))
    ·rintro D e s28 ⟨im, ib, i⟩ hk hf ha
     have g2_ := (i.p 2) (ha.at 2 R)
     rw [hc26] at g2_
     have kn := K2 ((i.p 3) (ha.at 3 R)) g2_
     exact kn.g (L.nc (Wt.mk R R) R R (L.nil (X.dk kn ⟨im, Sub.fresh ib R, i.u 4 (fun _ => R)⟩)))
    ·rintro D e s29 ⟨im, ib, i⟩ hk hf ha
     have g2_ := (i.p 2) (ha.at 2 R)
     rw [hc26] at g2_
     have kn := K2 ((i.p 4) (ha.at 4 R)) g2_
     exact kn.g (L.fa fa110_2 (Wt.mk R R) R R (L.nil (X.dk kn ⟨im, Sub.fresh ib R, i.u 5 (fun _ => R)⟩)))
    ·rintro D e s30 ⟨im, ib, i⟩ hk hf ha
     have g2_ := (i.p 2) (ha.at 2 R)
     have bx16 := bx16.mv im no_No
     rw [hc26] at g2_
     have kn := K2 ((i.p 5) (ha.at 5 R)) g2_
     exact kn.g (L.lg (j := 10) (cs := [.slice a9 p0.2.2.1.1.1.length c9, .int .i64 p0.2.2.1.1.2.1, .slice a10 p0.2.2.1.1.2.2.1.length c10, .slice a11 p0.2.2.1.1.2.2.2.length c11, .map y12]) bx16.mem ag108 (Wt.mk R R) R R R R R (L.nil (X.dk kn ⟨im, Sub.fresh ib R, i.u 6 (fun _ => R)⟩)))
    ·rintro D e s31 ⟨im, ib, i⟩ hk hf ha
     have g2_ := (i.p 2) (ha.at 2 R)
     rw [hc26] at g2_
     have kn := K2 (ib 1 _ R) g2_
     exact kn.g (L.mv (Wt.mk R R) R R (L.nil (X.dk kn ⟨im, Sub.fresh ib R, i.u 7 (fun _ => R)⟩)))
    ·rintro D e s32 ⟨im, ib, i⟩ hk hf ha
     have g2_ := (i.p 2) (ha.at 2 R)
     rw [hc26] at g2_
     have kn := K2 (ib 3 _ R) g2_
     exact kn.g (L.mv (Wt.mk R R) R R (L.nil (X.dk kn ⟨im, Sub.fresh ib R, i.u 8 (fun _ => R)⟩)))
    ·rintro D e s33 ⟨im, ib, i⟩ hk hf ha
     have g2_ := (i.p 2) (ha.at 2 R)
     have h9 := h9.mono im.z
     have h10 := h10.mono im.z
     have h11 := h11.mono im.z
     have h12 := h12.mono im.z
     rw [hc26] at g2_
     have kn := K4 ((i.p 6) (ha.at 6 R)) ((i.p 7) (ha.at 7 R)) ((i.p 8) (ha.at 8 R)) g2_
     refine kn.g (L.ca cf106 R R (Wt.mk R R) R (m_scan_graph_to_c (s := s33) (p0 := p0.2.2.1) (p1 := p1) (p2 := p3) h9 h10 h11 h12 er34) R ?_)
     rintro _ s35 m36 rfl
     exact L.nil (X.dk kn ⟨im.trans m36.no, Sub.fresh ib R, i.u 9 (fun _ => R)⟩)
    ·rintro D e s37 ⟨im, ib, i⟩ hk hf ha
     have g2_ := (i.p 2) (ha.at 2 R)
     rw [hc26] at g2_
     have kn := K2 ((i.p 9) (ha.at 9 R)) g2_
     exact kn.g (L.bi (Wt.mk R R) R R R R (L.nil (X.dk kn ⟨im, Sub.fresh ib R, i.u 10 (fun _ => R)⟩)))
    ·rintro D e s38 ⟨im, ib, i⟩ hk hf ha
     have g2_ := (i.p 2) (ha.at 2 R)
     rw [hc26] at g2_
     have kn := K2 g2_ ((i.p 10) (ha.at 10 R))
     exact kn.g (L.pkT Y R R R R (L.nil (X.dk kn ⟨im, Sub.fresh ib R, i.u 11 (fun _ => R)⟩)))
    ·rintro D e s39 ⟨im, ib, i⟩ hk hf ha
     have kn := K1 ((i.p 11) (ha.at 11 R))
     exact kn.g (L.mv Y R R (L.nil (X.dk kn ⟨im, Sub.fresh ib R, i.u 12 (fun _ => R)⟩)))
    ·rintro D e s41 ⟨im, ib, i⟩ hk hf ha
     have g12_ := (i.p 12) (ha.at 12 R)
     rw [hc40] at g12_
     have kn := K2 (ib 0 _ R) g12_
     exact kn.g (L.mv (Wt.mk R R) R R (L.nil (X.dk kn ⟨im, Sub.fresh ib R, i.u 13 (fun _ => R)⟩)))
    ·rintro D e s42 ⟨im, ib, i⟩ hk hf ha
     have g12_ := (i.p 12) (ha.at 12 R)
     rw [hc40] at g12_
     have kn := K2 ((i.p 13) (ha.at 13 R)) g12_
     exact kn.g (L.nc (Wt.mk R R) R R (L.nil (X.dk kn ⟨im, Sub.fresh ib R, i.u 14 (fun _ => R)⟩)))
    ·rintro D e s43 ⟨im, ib, i⟩ hk hf ha
     have g12_ := (i.p 12) (ha.at 12 R)
     rw [hc40] at g12_
     have kn := K2 ((i.p 14) (ha.at 14 R)) g12_
     exact kn.g (L.fa fa110_2 (Wt.mk R R) R R (L.nil (X.dk kn ⟨im, Sub.fresh ib R, i.u 15 (fun _ => R)⟩)))
    ·rintro D e s44 ⟨im, ib, i⟩ hk hf ha
     have g12_ := (i.p 12) (ha.at 12 R)
     have bx16 := bx16.mv im no_No
     rw [hc40] at g12_
     have kn := K2 ((i.p 15) (ha.at 15 R)) g12_
     exact kn.g (L.lg (j := 10) (cs := [.slice a9 p0.2.2.1.1.1.length c9, .int .i64 p0.2.2.1.1.2.1, .slice a10 p0.2.2.1.1.2.2.1.length c10, .slice a11 p0.2.2.1.1.2.2.2.length c11, .map y12]) bx16.mem ag108 (Wt.mk R R) R R R R R (L.nil (X.dk kn ⟨im, Sub.fresh ib R, i.u 16 (fun _ => R)⟩)))
    ·rintro D e s45 ⟨im, ib, i⟩ hk hf ha
     have g12_ := (i.p 12) (ha.at 12 R)
     rw [hc40] at g12_
     have kn := K2 (ib 9 _ R) g12_
     exact kn.g (L.mv (Wt.mk R R) R R (L.nil (X.dk kn ⟨im, Sub.fresh ib R, i.u 17 (fun _ => R)⟩)))
    ·rintro D e s46 ⟨im, ib, i⟩ hk hf ha
     have g12_ := (i.p 12) (ha.at 12 R)
     rw [hc40] at g12_
     have kn := K2 (ib 3 _ R) g12_
     exact kn.g (L.mv (Wt.mk R R) R R (L.nil (X.dk kn ⟨im, Sub.fresh ib R, i.u 18 (fun _ => R)⟩)))
    ·rintro D e s47 ⟨im, ib, i⟩ hk hf ha
     have g12_ := (i.p 12) (ha.at 12 R)
     have h9 := h9.mono im.z
     have h10 := h10.mono im.z
     have h11 := h11.mono im.z
     have h12 := h12.mono im.z
     rw [hc40] at g12_
     have kn := K4 ((i.p 16) (ha.at 16 R)) ((i.p 17) (ha.at 17 R)) ((i.p 18) (ha.at 18 R)) g12_
     refine kn.g (L.ca cf106 R R (Wt.mk R R) R (m_scan_graph_to_c (s := s47) (p0 := p0.2.2.1) (p1 := r17) (p2 := p3) h9 h10 h11 h12 er48) R ?_)
     rintro _ s49 m50 rfl
     exact L.nil (X.dk kn ⟨im.trans m50.no, Sub.fresh ib R, i.u 19 (fun _ => R)⟩)
    ·rintro D e s51 ⟨im, ib, i⟩ hk hf ha
     have g12_ := (i.p 12) (ha.at 12 R)
     rw [hc40] at g12_
     have kn := K2 ((i.p 19) (ha.at 19 R)) g12_
     exact kn.g (L.bi (Wt.mk R R) R R R R (L.nil (X.dk kn ⟨im, Sub.fresh ib R, i.u 20 (fun _ => R)⟩)))
    ·rintro D e s52 ⟨im, ib, i⟩ hk hf ha
     have g12_ := (i.p 12) (ha.at 12 R)
     rw [hc40] at g12_
     have kn := K2 g12_ ((i.p 20) (ha.at 20 R))
     exact kn.g (L.pkT Y R R R R (L.nil (X.dk kn ⟨im, Sub.fresh ib R, i.u 21 (fun _ => R)⟩)))
    ·rintro D e s53 ⟨im, ib, i⟩ hk hf ha
     have kn := K1 ((i.p 21) (ha.at 21 R))
     exact kn.g (L.mv Y R R (L.nil (X.dk kn ⟨im, Sub.fresh ib R, i.u 22 (fun _ => R)⟩)))
    ·rintro D e s83 ⟨im, ib, i⟩ hk hf ha
     have g22_ := (i.p 22) (ha.at 22 R)
     rw [hc54] at g22_
     have kn := K2 (ib 0 _ R) g22_
     exact kn.g (L.skip R R R R (L.nil (X.dk kn ⟨im, Sub.fresh ib R, i.u 23 (fun _ => R)⟩)))
    ·rintro D e s84 ⟨im, ib, i⟩ hk hf ha
     have g22_ := (i.p 22) (ha.at 22 R)
     rw [hc54] at g22_
     have kn := K2 ((i.p 23) (ha.at 23 R)) g22_
     exact kn.g (L.skip R R R R (L.nil (X.dk kn ⟨im, Sub.fresh ib R, i.u 24 (fun _ => R)⟩)))
    ·rintro D e s85 ⟨im, ib, i⟩ hk hf ha
     have g22_ := (i.p 22) (ha.at 22 R)
     rw [hc54] at g22_
     have kn := K2 ((i.p 24) (ha.at 24 R)) g22_
     exact kn.g (L.skip R R R R (L.nil (X.dk kn ⟨im, Sub.fresh ib R, i.u 25 (fun _ => R)⟩)))
    ·rintro D e s86 ⟨im, ib, i⟩ hk hf ha
     have g22_ := (i.p 22) (ha.at 22 R)
     rw [hc54] at g22_
     have kn := K2 ((i.p 25) (ha.at 25 R)) g22_
     exact kn.g (L.skip R R R R (L.nil (X.dk kn ⟨im, Sub.fresh ib R, i.u 26 (fun _ => R)⟩)))
    ·rintro D e s87 ⟨im, ib, i⟩ hk hf ha
     have g22_ := (i.p 22) (ha.at 22 R)
     rw [hc54] at g22_
     have kn := K2 (ib 0 _ R) g22_
     exact kn.g (L.skip R R R R (L.nil (X.dk kn ⟨im, Sub.fresh ib R, i.u 27 (fun _ => R)⟩)))
    ·rintro D e s88 ⟨im, ib, i⟩ hk hf ha
     have g22_ := (i.p 22) (ha.at 22 R)
     rw [hc54] at g22_
     have kn := K2 ((i.p 27) (ha.at 27 R)) g22_
     exact kn.g (L.skip R R R R (L.nil (X.dk kn ⟨im, Sub.fresh ib R, i.u 28 (fun _ => R)⟩)))
    ·rintro D e s89 ⟨im, ib, i⟩ hk hf ha
     have g22_ := (i.p 22) (ha.at 22 R)
     rw [hc54] at g22_
     have kn := K2 ((i.p 28) (ha.at 28 R)) g22_
     exact kn.g (L.skip R R R R (L.nil (X.dk kn ⟨im, Sub.fresh ib R, i.u 29 (fun _ => R)⟩)))
    ·rintro D e s90 ⟨im, ib, i⟩ hk hf ha
     have g22_ := (i.p 22) (ha.at 22 R)
     rw [hc54] at g22_
     have kn := K2 ((i.p 29) (ha.at 29 R)) g22_
     exact kn.g (L.skip R R R R (L.nil (X.dk kn ⟨im, Sub.fresh ib R, i.u 30 (fun _ => R)⟩)))
    ·rintro D e s91 ⟨im, ib, i⟩ hk hf ha
     have g22_ := (i.p 22) (ha.at 22 R)
     rw [hc54] at g22_
     have kn := K2 (ib 9 _ R) g22_
     exact kn.g (L.skip R R R R (L.nil (X.dk kn ⟨im, Sub.fresh ib R, i.u 31 (fun _ => R)⟩)))
    ·rintro D e s92 ⟨im, ib, i⟩ hk hf ha
     have g22_ := (i.p 22) (ha.at 22 R)
     rw [hc54] at g22_
     have kn := K3 ((i.p 30) (ha.at 30 R)) ((i.p 31) (ha.at 31 R)) g22_
     exact kn.g (L.skip R R R R (L.nil (X.dk kn ⟨im, Sub.fresh ib R, i.u 32 (fun _ => R)⟩)))
    ·rintro D e s93 ⟨im, ib, i⟩ hk hf ha
     have g22_ := (i.p 22) (ha.at 22 R)
     rw [hc54] at g22_
     have kn := K2 ((i.p 32) (ha.at 32 R)) g22_
     exact kn.g (L.skip R R R R (L.nil (X.dk kn ⟨im, Sub.fresh ib R, i.u 33 (fun _ => R)⟩)))
    ·rintro D e s94 ⟨im, ib, i⟩ hk hf ha
     have g22_ := (i.p 22) (ha.at 22 R)
     rw [hc54] at g22_
     have kn := K2 ((i.p 33) (ha.at 33 R)) g22_
     exact kn.g (L.skip R R R R (L.nil (X.dk kn ⟨im, Sub.fresh ib R, i.u 34 (fun _ => R)⟩)))
    ·rintro D e s95 ⟨im, ib, i⟩ hk hf ha
     have g22_ := (i.p 22) (ha.at 22 R)
     rw [hc54] at g22_
     have kn := K2 ((i.p 34) (ha.at 34 R)) g22_
     exact kn.g (L.skip R R R R (L.nil (X.dk kn ⟨im, Sub.fresh ib R, i.u 35 (fun _ => R)⟩)))
    ·rintro D e s96 ⟨im, ib, i⟩ hk hf ha
     have g22_ := (i.p 22) (ha.at 22 R)
     rw [hc54] at g22_
     have kn := K2 (ib 3 _ R) g22_
     exact kn.g (L.skip R R R R (L.nil (X.dk kn ⟨im, Sub.fresh ib R, i.u 36 (fun _ => R)⟩)))
    ·rintro D e s97 ⟨im, ib, i⟩ hk hf ha
     have g22_ := (i.p 22) (ha.at 22 R)
     rw [hc54] at g22_
     have kn := K4 ((i.p 26) (ha.at 26 R)) ((i.p 35) (ha.at 35 R)) ((i.p 36) (ha.at 36 R)) g22_
     exact kn.g (L.skip R R R R (L.nil (X.dk kn ⟨im, Sub.fresh ib R, i.u 37 (fun _ => R)⟩)))
    ·rintro D e s98 ⟨im, ib, i⟩ hk hf ha
     have g22_ := (i.p 22) (ha.at 22 R)
     rw [hc54] at g22_
     have kn := K2 ((i.p 37) (ha.at 37 R)) g22_
     exact kn.g (L.skip R R R R (L.nil (X.dk kn ⟨im, Sub.fresh ib R, i.u 38 (fun _ => R)⟩)))
    ·rintro D e s99 ⟨im, ib, i⟩ hk hf ha
     have g22_ := (i.p 22) (ha.at 22 R)
     rw [hc54] at g22_
     have kn := K2 g22_ ((i.p 38) (ha.at 38 R))
     exact kn.g (L.pkF Y R R R R (L.nil (X.dk kn ⟨im, Sub.fresh ib R, i.u 39 (fun _ => R)⟩)))
    rintro D e s100 ⟨im, ib, i⟩ hk hf ha
    have kn := K1 ((i.p 39) (ha.at 39 R))
    exact kn.g (L.as Y R R (L.nil (X.dk kn ⟨im, Sub.fresh ib R, i.u 40 (fun _ => R)⟩)))
   rintro D e s101 hD ⟨im, ib, i⟩
   have g40_ := (i.p 40) (hD 40 R)
   have bx16 := bx16.mv im no_No
   have h1 := h1.mono im.z
   have h2 := h2.mono im.z
   have h3 := h3.mono im.z
   have h4 := h4.mono im.z
   have h5 := h5.mono im.z
   have h6 := h6.mono im.z
   have h7 := h7.mono im.z
   have h8 := h8.mono im.z
   have h9 := h9.mono im.z
   have h10 := h10.mono im.z
   have h11 := h11.mono im.z
   have h12 := h12.mono im.z
   have h13 := h13.mono im.z
   have h14 := h14.mono im.z
   have h15 := h15.mono im.z
   have m0 := m0.trans im.no
   refine X.sub (e' := [(8, .bool false)]) ?_ (Sub.cons g40_ Sub.nil)
   exact X.sub (Jj22 _ _ ⟨s101, false, hm, m0, h1, h2, h3, h4, h5, h6, h7, h8, h9, h10, h11, h12, h13, h14, h15, bx16, R, R⟩) (Sub.rf R)
  have _ := hN
  refine E.draw m_scan_task_delayed_w0 (fun D e sx => Mv No s18 sx ∧ Sub [(9, .int .i64 r17), (0, .pointer (some ⟨b16, 0, none⟩)), (1, .int .i64 p1), (3, .int .i64 p3)] e ∧ AllP [G D e 0 17 (.int .i64 r17), G D e 1 18 (.bool (r17 != (-1))), G D e 2 19 (.bool (r17 != (-1))), G D e 3 20 (.pointer (some ⟨b16, 0, none⟩)), G D e 4 21 (.pointer (some ⟨b16, 0, none⟩)), G D e 5 22 (.pointer (some ⟨b16, 10, none⟩)), G D e 6 23 (.agg #[.slice a9 p0.2.2.1.1.1.length c9, .int .i64 p0.2.2.1.1.2.1, .slice a10 p0.2.2.1.1.2.2.1.length c10, .slice a11 p0.2.2.1.1.2.2.2.length c11, .map y12]), G D e 7 24 (.int .i64 p1), G D e 8 25 (.int .i64 p3), G D e 9 26 (.int .i64 r34), G D e 10 27 (.bool (r34 != (-1))), G D e 11 28 (.bool (r34 != (-1))), G D e 12 29 (.bool (r34 != (-1))), G D e 13 30 undef, G D e 14 31 undef, G D e 15 32 undef, G D e 16 33 undef, G D e 17 34 undef, G D e 18 35 undef, G D e 19 36 undef, G D e 20 37 undef, G D e 21 38 (.bool false), G D e 22 39 (.bool false), G D e 23 40 undef, G D e 24 41 undef, G D e 25 42 undef, G D e 26 43 undef, G D e 27 44 undef, G D e 28 45 undef, G D e 29 46 undef, G D e 30 47 undef, G D e 31 48 undef, G D e 32 49 undef, G D e 33 50 undef, G D e 34 51 undef, G D e 35 52 undef, G D e 36 53 undef, G D e 37 54 undef, G D e 38 55 undef, G D e 39 56 (.bool false), G D e 40 8 (.bool false)]) (by kernel_rfl) (by kernel_rfl) (by kernel_rfl) ?_ ?_ ?_
  ·intro sz mz
   exact ⟨mz, (Sub.rf R), nofun, nofun, nofun, nofun, nofun, nofun, nofun, nofun, nofun, nofun, nofun, nofun, nofun, nofun, nofun, nofun, nofun, nofun, nofun, nofun, nofun, nofun, nofun, nofun, nofun, nofun, nofun, nofun, nofun, nofun, nofun, nofun, nofun, nofun, nofun, nofun, nofun, nofun, nofun, nofun, nofun, trivial⟩
  ·refine ⟨?_, ?_, ?_, ?_, ?_, ?_, ?_, ?_, ?_, ?_, ?_, ?_, ?_, ?_, ?_, ?_, ?_, ?_, ?_, ?_, ?_, ?_, ?_, ?_, ?_, ?_, ?_, ?_, ?_, ?_, ?_, ?_, ?_, ?_, ?_, ?_, ?_, ?_, ?_, ?_, ?_, trivial⟩
   ·rintro D e s23 ⟨im, ib, i⟩ hk hf ha
    have kn := K1 (ib 9 _ R)
    exact kn.g (L.mv Y R R (L.nil (X.dk kn ⟨im, Sub.fresh ib R, i.u 0 (fun _ => R)⟩)))
   ·rintro D e s24 ⟨im, ib, i⟩ hk hf ha
    have kn := K1 ((i.p 0) (ha.at 0 R))
    exact kn.g (L.bi Y R R R R (L.nil (X.dk kn ⟨im, Sub.fresh ib R, i.u 1 (fun _ => R)⟩)))
   ·rintro D e s25 ⟨im, ib, i⟩ hk hf ha
    have kn := K1 ((i.p 1) (ha.at 1 R))
    exact kn.g (L.mv Y R R (L.nil (X.dk kn ⟨im, Sub.fresh ib R, i.u 2 (fun _ => R)⟩)))
   ·rintro D e s27 ⟨im, ib, i⟩ hk hf ha
    have g2_ := (i.p 2) (ha.at 2 R)
    rw [hc26] at g2_
    have kn := K2 (ib 0 _ R) g2_
    exact kn.g (L.mv (Wt.mk R R) R R (L.nil (X.dk kn ⟨im, Sub.fresh ib R, i.u 3 (fun _ => R)⟩)))
   ·rintro D e s28 ⟨im, ib, i⟩ hk hf ha
    have g2_ := (i.p 2) (ha.at 2 R)
    rw [hc26] at g2_
    have kn := K2 ((i.p 3) (ha.at 3 R)) g2_
    exact kn.g (L.nc (Wt.mk R R) R R (L.nil (X.dk kn ⟨im, Sub.fresh ib R, i.u 4 (fun _ => R)⟩)))
   ·rintro D e s29 ⟨im, ib, i⟩ hk hf ha
    have g2_ := (i.p 2) (ha.at 2 R)
    rw [hc26] at g2_
    have kn := K2 ((i.p 4) (ha.at 4 R)) g2_
    exact kn.g (L.fa fa110_2 (Wt.mk R R) R R (L.nil (X.dk kn ⟨im, Sub.fresh ib R, i.u 5 (fun _ => R)⟩)))
   ·rintro D e s30 ⟨im, ib, i⟩ hk hf ha
    have g2_ := (i.p 2) (ha.at 2 R)
    have bx16 := bx16.mv im no_No
    rw [hc26] at g2_
    have kn := K2 ((i.p 5) (ha.at 5 R)) g2_
    exact kn.g (L.lg (j := 10) (cs := [.slice a9 p0.2.2.1.1.1.length c9, .int .i64 p0.2.2.1.1.2.1, .slice a10 p0.2.2.1.1.2.2.1.length c10, .slice a11 p0.2.2.1.1.2.2.2.length c11, .map y12]) bx16.mem ag108 (Wt.mk R R) R R R R R (L.nil (X.dk kn ⟨im, Sub.fresh ib R, i.u 6 (fun _ => R)⟩)))
   ·rintro D e s31 ⟨im, ib, i⟩ hk hf ha
    have g2_ := (i.p 2) (ha.at 2 R)
    rw [hc26] at g2_
    have kn := K2 (ib 1 _ R) g2_
    exact kn.g (L.mv (Wt.mk R R) R R (L.nil (X.dk kn ⟨im, Sub.fresh ib R, i.u 7 (fun _ => R)⟩)))
   ·rintro D e s32 ⟨im, ib, i⟩ hk hf ha
    have g2_ := (i.p 2) (ha.at 2 R)
    rw [hc26] at g2_
    have kn := K2 (ib 3 _ R) g2_
    exact kn.g (L.mv (Wt.mk R R) R R (L.nil (X.dk kn ⟨im, Sub.fresh ib R, i.u 8 (fun _ => R)⟩)))
   ·rintro D e s33 ⟨im, ib, i⟩ hk hf ha
    have g2_ := (i.p 2) (ha.at 2 R)
    have h9 := h9.mono im.z
    have h10 := h10.mono im.z
    have h11 := h11.mono im.z
    have h12 := h12.mono im.z
    rw [hc26] at g2_
    have kn := K4 ((i.p 6) (ha.at 6 R)) ((i.p 7) (ha.at 7 R)) ((i.p 8) (ha.at 8 R)) g2_
    refine kn.g (L.ca cf106 R R (Wt.mk R R) R (m_scan_graph_to_c (s := s33) (p0 := p0.2.2.1) (p1 := p1) (p2 := p3) h9 h10 h11 h12 er34) R ?_)
    rintro _ s35 m36 rfl
    exact L.nil (X.dk kn ⟨im.trans m36.no, Sub.fresh ib R, i.u 9 (fun _ => R)⟩)
   ·rintro D e s37 ⟨im, ib, i⟩ hk hf ha
    have g2_ := (i.p 2) (ha.at 2 R)
    rw [hc26] at g2_
    have kn := K2 ((i.p 9) (ha.at 9 R)) g2_
    exact kn.g (L.bi (Wt.mk R R) R R R R (L.nil (X.dk kn ⟨im, Sub.fresh ib R, i.u 10 (fun _ => R)⟩)))
   ·rintro D e s38 ⟨im, ib, i⟩ hk hf ha
    have g2_ := (i.p 2) (ha.at 2 R)
    rw [hc26] at g2_
    have kn := K2 g2_ ((i.p 10) (ha.at 10 R))
    exact kn.g (L.pkT Y R R R R (L.nil (X.dk kn ⟨im, Sub.fresh ib R, i.u 11 (fun _ => R)⟩)))
   ·rintro D e s39 ⟨im, ib, i⟩ hk hf ha
    have kn := K1 ((i.p 11) (ha.at 11 R))
    exact kn.g (L.mv Y R R (L.nil (X.dk kn ⟨im, Sub.fresh ib R, i.u 12 (fun _ => R)⟩)))
   ·rintro D e s102 ⟨im, ib, i⟩ hk hf ha
    have g12_ := (i.p 12) (ha.at 12 R)
    rw [hc40] at g12_
    have kn := K2 (ib 0 _ R) g12_
    exact kn.g (L.skip R R R R (L.nil (X.dk kn ⟨im, Sub.fresh ib R, i.u 13 (fun _ => R)⟩)))
   ·rintro D e s103 ⟨im, ib, i⟩ hk hf ha
    have g12_ := (i.p 12) (ha.at 12 R)
    rw [hc40] at g12_
    have kn := K2 ((i.p 13) (ha.at 13 R)) g12_
    exact kn.g (L.skip R R R R (L.nil (X.dk kn ⟨im, Sub.fresh ib R, i.u 14 (fun _ => R)⟩)))
   ·rintro D e s104 ⟨im, ib, i⟩ hk hf ha
    have g12_ := (i.p 12) (ha.at 12 R)
    rw [hc40] at g12_
    have kn := K2 ((i.p 14) (ha.at 14 R)) g12_
    exact kn.g (L.skip R R R R (L.nil (X.dk kn ⟨im, Sub.fresh ib R, i.u 15 (fun _ => R)⟩)))
   ·rintro D e s105 ⟨im, ib, i⟩ hk hf ha
    have g12_ := (i.p 12) (ha.at 12 R)
    rw [hc40] at g12_
    have kn := K2 ((i.p 15) (ha.at 15 R)) g12_
    exact kn.g (L.skip R R R R (L.nil (X.dk kn ⟨im, Sub.fresh ib R, i.u 16 (fun _ => R)⟩)))
   ·rintro D e s106 ⟨im, ib, i⟩ hk hf ha
    have g12_ := (i.p 12) (ha.at 12 R)
    rw [hc40] at g12_
    have kn := K2 (ib 9 _ R) g12_
    exact kn.g (L.skip R R R R (L.nil (X.dk kn ⟨im, Sub.fresh ib R, i.u 17 (fun _ => R)⟩)))
   ·rintro D e s107 ⟨im, ib, i⟩ hk hf ha
    have g12_ := (i.p 12) (ha.at 12 R)
    rw [hc40] at g12_
    have kn := K2 (ib 3 _ R) g12_
    exact kn.g (L.skip R R R R (L.nil (X.dk kn ⟨im, Sub.fresh ib R, i.u 18 (fun _ => R)⟩)))
   ·rintro D e s108 ⟨im, ib, i⟩ hk hf ha
    have g12_ := (i.p 12) (ha.at 12 R)
    rw [hc40] at g12_
    have kn := K4 ((i.p 16) (ha.at 16 R)) ((i.p 17) (ha.at 17 R)) ((i.p 18) (ha.at 18 R)) g12_
    exact kn.g (L.skip R R R R (L.nil (X.dk kn ⟨im, Sub.fresh ib R, i.u 19 (fun _ => R)⟩)))
   ·rintro D e s109 ⟨im, ib, i⟩ hk hf ha
    have g12_ := (i.p 12) (ha.at 12 R)
    rw [hc40] at g12_
    have kn := K2 ((i.p 19) (ha.at 19 R)) g12_
    exact kn.g (L.skip R R R R (L.nil (X.dk kn ⟨im, Sub.fresh ib R, i.u 20 (fun _ => R)⟩)))
   ·rintro D e s110 ⟨im, ib, i⟩ hk hf ha
    have g12_ := (i.p 12) (ha.at 12 R)
    rw [hc40] at g12_
    have kn := K2 g12_ ((i.p 20) (ha.at 20 R))
    exact kn.g (L.pkF Y R R R R (L.nil (X.dk kn ⟨im, Sub.fresh ib R, i.u 21 (fun _ => R)⟩)))
   ·rintro D e s111 ⟨im, ib, i⟩ hk hf ha
    have kn := K1 ((i.p 21) (ha.at 21 R))
    exact kn.g (L.mv Y R R (L.nil (X.dk kn ⟨im, Sub.fresh ib R, i.u 22 (fun _ => R)⟩)))
   ·rintro D e s112 ⟨im, ib, i⟩ hk hf ha
    have kn := K2 (ib 0 _ R) ((i.p 22) (ha.at 22 R))
    exact kn.g (L.skip R R R R (L.nil (X.dk kn ⟨im, Sub.fresh ib R, i.u 23 (fun _ => R)⟩)))
   ·rintro D e s113 ⟨im, ib, i⟩ hk hf ha
    have kn := K2 ((i.p 23) (ha.at 23 R)) ((i.p 22) (ha.at 22 R))
    exact kn.g (L.skip R R R R (L.nil (X.dk kn ⟨im, Sub.fresh ib R, i.u 24 (fun _ => R)⟩)))
   ·rintro D e s114 ⟨im, ib, i⟩ hk hf ha
    have kn := K2 ((i.p 24) (ha.at 24 R)) ((i.p 22) (ha.at 22 R))
    exact kn.g (L.skip R R R R (L.nil (X.dk kn ⟨im, Sub.fresh ib R, i.u 25 (fun _ => R)⟩)))
   ·rintro D e s115 ⟨im, ib, i⟩ hk hf ha
    have kn := K2 ((i.p 25) (ha.at 25 R)) ((i.p 22) (ha.at 22 R))
    exact kn.g (L.skip R R R R (L.nil (X.dk kn ⟨im, Sub.fresh ib R, i.u 26 (fun _ => R)⟩)))
   ·rintro D e s116 ⟨im, ib, i⟩ hk hf ha
    have kn := K2 (ib 0 _ R) ((i.p 22) (ha.at 22 R))
    exact kn.g (L.skip R R R R (L.nil (X.dk kn ⟨im, Sub.fresh ib R, i.u 27 (fun _ => R)⟩)))
   ·rintro D e s117 ⟨im, ib, i⟩ hk hf ha
    have kn := K2 ((i.p 27) (ha.at 27 R)) ((i.p 22) (ha.at 22 R))
    exact kn.g (L.skip R R R R (L.nil (X.dk kn ⟨im, Sub.fresh ib R, i.u 28 (fun _ => R)⟩)))
   ·rintro D e s118 ⟨im, ib, i⟩ hk hf ha
    have kn := K2 ((i.p 28) (ha.at 28 R)) ((i.p 22) (ha.at 22 R))
    exact kn.g (L.skip R R R R (L.nil (X.dk kn ⟨im, Sub.fresh ib R, i.u 29 (fun _ => R)⟩)))
   ·rintro D e s119 ⟨im, ib, i⟩ hk hf ha
    have kn := K2 ((i.p 29) (ha.at 29 R)) ((i.p 22) (ha.at 22 R))
    exact kn.g (L.skip R R R R (L.nil (X.dk kn ⟨im, Sub.fresh ib R, i.u 30 (fun _ => R)⟩)))
   ·rintro D e s120 ⟨im, ib, i⟩ hk hf ha
    have kn := K2 (ib 9 _ R) ((i.p 22) (ha.at 22 R))
    exact kn.g (L.skip R R R R (L.nil (X.dk kn ⟨im, Sub.fresh ib R, i.u 31 (fun _ => R)⟩)))
   ·rintro D e s121 ⟨im, ib, i⟩ hk hf ha
    have kn := K3 ((i.p 30) (ha.at 30 R)) ((i.p 31) (ha.at 31 R)) ((i.p 22) (ha.at 22 R))
    exact kn.g (L.skip R R R R (L.nil (X.dk kn ⟨im, Sub.fresh ib R, i.u 32 (fun _ => R)⟩)))
   ·rintro D e s122 ⟨im, ib, i⟩ hk hf ha
    have kn := K2 ((i.p 32) (ha.at 32 R)) ((i.p 22) (ha.at 22 R))
    exact kn.g (L.skip R R R R (L.nil (X.dk kn ⟨im, Sub.fresh ib R, i.u 33 (fun _ => R)⟩)))
   ·rintro D e s123 ⟨im, ib, i⟩ hk hf ha
    have kn := K2 ((i.p 33) (ha.at 33 R)) ((i.p 22) (ha.at 22 R))
    exact kn.g (L.skip R R R R (L.nil (X.dk kn ⟨im, Sub.fresh ib R, i.u 34 (fun _ => R)⟩)))
   ·rintro D e s124 ⟨im, ib, i⟩ hk hf ha
    have kn := K2 ((i.p 34) (ha.at 34 R)) ((i.p 22) (ha.at 22 R))
    exact kn.g (L.skip R R R R (L.nil (X.dk kn ⟨im, Sub.fresh ib R, i.u 35 (fun _ => R)⟩)))
   ·rintro D e s125 ⟨im, ib, i⟩ hk hf ha
    have kn := K2 (ib 3 _ R) ((i.p 22) (ha.at 22 R))
    exact kn.g (L.skip R R R R (L.nil (X.dk kn ⟨im, Sub.fresh ib R, i.u 36 (fun _ => R)⟩)))
   ·rintro D e s126 ⟨im, ib, i⟩ hk hf ha
    have kn := K4 ((i.p 26) (ha.at 26 R)) ((i.p 35) (ha.at 35 R)) ((i.p 36) (ha.at 36 R)) ((i.p 22) (ha.at 22 R))
    exact kn.g (L.skip R R R R (L.nil (X.dk kn ⟨im, Sub.fresh ib R, i.u 37 (fun _ => R)⟩)))
   ·rintro D e s127 ⟨im, ib, i⟩ hk hf ha
    have kn := K2 ((i.p 37) (ha.at 37 R)) ((i.p 22) (ha.at 22 R))
    exact kn.g (L.skip R R R R (L.nil (X.dk kn ⟨im, Sub.fresh ib R, i.u 38 (fun _ => R)⟩)))
   ·rintro D e s128 ⟨im, ib, i⟩ hk hf ha
    have kn := K2 ((i.p 22) (ha.at 22 R)) ((i.p 38) (ha.at 38 R))
    exact kn.g (L.pkF Y R R R R (L.nil (X.dk kn ⟨im, Sub.fresh ib R, i.u 39 (fun _ => R)⟩)))
   rintro D e s129 ⟨im, ib, i⟩ hk hf ha
   have kn := K1 ((i.p 39) (ha.at 39 R))
   exact kn.g (L.as Y R R (L.nil (X.dk kn ⟨im, Sub.fresh ib R, i.u 40 (fun _ => R)⟩)))
  rintro D e s130 hD ⟨im, ib, i⟩
  have g40_ := (i.p 40) (hD 40 R)
  have bx16 := bx16.mv im no_No
  have h1 := h1.mono im.z
  have h2 := h2.mono im.z
  have h3 := h3.mono im.z
  have h4 := h4.mono im.z
  have h5 := h5.mono im.z
  have h6 := h6.mono im.z
  have h7 := h7.mono im.z
  have h8 := h8.mono im.z
  have h9 := h9.mono im.z
  have h10 := h10.mono im.z
  have h11 := h11.mono im.z
  have h12 := h12.mono im.z
  have h13 := h13.mono im.z
  have h14 := h14.mono im.z
  have h15 := h15.mono im.z
  have m0 := m0.trans im.no
  refine X.sub (e' := [(8, .bool false)]) ?_ (Sub.cons g40_ Sub.nil)
  exact X.sub (Jj22 _ _ ⟨s130, false, hm, m0, h1, h2, h3, h4, h5, h6, h7, h8, h9, h10, h11, h12, h13, h14, h15, bx16, R, R⟩) (Sub.rf R)
 have _ := hN
 refine E.draw m_scan_task_delayed_w0 (fun D e sx => Mv No s18 sx ∧ Sub [(9, .int .i64 r17), (0, .pointer (some ⟨b16, 0, none⟩)), (1, .int .i64 p1), (3, .int .i64 p3)] e ∧ AllP [G D e 0 17 (.int .i64 r17), G D e 1 18 (.bool (r17 != (-1))), G D e 2 19 (.bool (r17 != (-1))), G D e 3 20 undef, G D e 4 21 undef, G D e 5 22 undef, G D e 6 23 undef, G D e 7 24 undef, G D e 8 25 undef, G D e 9 26 undef, G D e 10 27 undef, G D e 11 28 (.bool false), G D e 12 29 (.bool false), G D e 13 30 undef, G D e 14 31 undef, G D e 15 32 undef, G D e 16 33 undef, G D e 17 34 undef, G D e 18 35 undef, G D e 19 36 undef, G D e 20 37 undef, G D e 21 38 (.bool false), G D e 22 39 (.bool false), G D e 23 40 undef, G D e 24 41 undef, G D e 25 42 undef, G D e 26 43 undef, G D e 27 44 undef, G D e 28 45 undef, G D e 29 46 undef, G D e 30 47 undef, G D e 31 48 undef, G D e 32 49 undef, G D e 33 50 undef, G D e 34 51 undef, G D e 35 52 undef, G D e 36 53 undef, G D e 37 54 undef, G D e 38 55 undef, G D e 39 56 (.bool false), G D e 40 8 (.bool false)]) (by kernel_rfl) (by kernel_rfl) (by kernel_rfl) ?_ ?_ ?_
 ·intro sz mz
  exact ⟨mz, (Sub.rf R), nofun, nofun, nofun, nofun, nofun, nofun, nofun, nofun, nofun, nofun, nofun, nofun, nofun, nofun, nofun, nofun, nofun, nofun, nofun, nofun, nofun, nofun, nofun, nofun, nofun, nofun, nofun, nofun, nofun, nofun, nofun, nofun, nofun, nofun, nofun, nofun, nofun, nofun, nofun, nofun, nofun, trivial⟩
 ·refine ⟨?_, ?_, ?_, ?_, ?_, ?_, ?_, ?_, ?_, ?_, ?_, ?_, ?_, ?_, ?_, ?_, ?_, ?_, ?_, ?_, ?_, ?_, ?_, ?_, ?_, ?_, ?_, ?_, ?_, ?_, ?_, ?_, ?_, ?_, ?_, ?_, ?_, ?_, ?_, ?_, ?_, trivial⟩
  ·rintro D e s23 ⟨im, ib, i⟩ hk hf ha
   have kn := K1 (ib 9 _ R)
   exact kn.g (L.mv Y R R (L.nil (X.dk kn ⟨im, Sub.fresh ib R, i.u 0 (fun _ => R)⟩)))
  ·rintro D e s24 ⟨im, ib, i⟩ hk hf ha
   have kn := K1 ((i.p 0) (ha.at 0 R))
   exact kn.g (L.bi Y R R R R (L.nil (X.dk kn ⟨im, Sub.fresh ib R, i.u 1 (fun _ => R)⟩)))
  ·rintro D e s25 ⟨im, ib, i⟩ hk hf ha
   have kn := K1 ((i.p 1) (ha.at 1 R))
   exact kn.g (L.mv Y R R (L.nil (X.dk kn ⟨im, Sub.fresh ib R, i.u 2 (fun _ => R)⟩)))
  ·rintro D e s131 ⟨im, ib, i⟩ hk hf ha
   have g2_ := (i.p 2) (ha.at 2 R)
   rw [hc26] at g2_
   have kn := K2 (ib 0 _ R) g2_
   exact kn.g (L.skip R R R R (L.nil (X.dk kn ⟨im, Sub.fresh ib R, i.u 3 (fun _ => R)⟩)))
  ·rintro D e s132 ⟨im, ib, i⟩ hk hf ha
   have g2_ := (i.p 2) (ha.at 2 R)
   rw [hc26] at g2_
   have kn := K2 ((i.p 3) (ha.at 3 R)) g2_
   exact kn.g (L.skip R R R R (L.nil (X.dk kn ⟨im, Sub.fresh ib R, i.u 4 (fun _ => R)⟩)))
  ·rintro D e s133 ⟨im, ib, i⟩ hk hf ha
   have g2_ := (i.p 2) (ha.at 2 R)
   rw [hc26] at g2_
   have kn := K2 ((i.p 4) (ha.at 4 R)) g2_
   exact kn.g (L.skip R R R R (L.nil (X.dk kn ⟨im, Sub.fresh ib R, i.u 5 (fun _ => R)⟩)))
  ·rintro D e s134 ⟨im, ib, i⟩ hk hf ha
   have g2_ := (i.p 2) (ha.at 2 R)
   rw [hc26] at g2_
   have kn := K2 ((i.p 5) (ha.at 5 R)) g2_
   exact kn.g (L.skip R R R R (L.nil (X.dk kn ⟨im, Sub.fresh ib R, i.u 6 (fun _ => R)⟩)))
  ·rintro D e s135 ⟨im, ib, i⟩ hk hf ha
   have g2_ := (i.p 2) (ha.at 2 R)
   rw [hc26] at g2_
   have kn := K2 (ib 1 _ R) g2_
   exact kn.g (L.skip R R R R (L.nil (X.dk kn ⟨im, Sub.fresh ib R, i.u 7 (fun _ => R)⟩)))
  ·rintro D e s136 ⟨im, ib, i⟩ hk hf ha
   have g2_ := (i.p 2) (ha.at 2 R)
   rw [hc26] at g2_
   have kn := K2 (ib 3 _ R) g2_
   exact kn.g (L.skip R R R R (L.nil (X.dk kn ⟨im, Sub.fresh ib R, i.u 8 (fun _ => R)⟩)))
  ·rintro D e s137 ⟨im, ib, i⟩ hk hf ha
   have g2_ := (i.p 2) (ha.at 2 R)
   rw [hc26] at g2_
   have kn := K4 ((i.p 6) (ha.at 6 R)) ((i.p 7) (ha.at 7 R)) ((i.p 8) (ha.at 8 R)) g2_
   exact kn.g (L.skip R R R R (L.nil (X.dk kn ⟨im, Sub.fresh ib R, i.u 9 (fun _ => R)⟩)))
  ·rintro D e s138 ⟨im, ib, i⟩ hk hf ha
   have g2_ := (i.p 2) (ha.at 2 R)
   rw [hc26] at g2_
   have kn := K2 ((i.p 9) (ha.at 9 R)) g2_
   exact kn.g (L.skip R R R R (L.nil (X.dk kn ⟨im, Sub.fresh ib R, i.u 10 (fun _ => R)⟩)))
  ·rintro D e s139 ⟨im, ib, i⟩ hk hf ha
   have g2_ := (i.p 2) (ha.at 2 R)
   rw [hc26] at g2_
   have kn := K2 g2_ ((i.p 10) (ha.at 10 R))
   exact kn.g (L.pkF Y R R R R (L.nil (X.dk kn ⟨im, Sub.fresh ib R, i.u 11 (fun _ => R)⟩)))
  ·rintro D e s140 ⟨im, ib, i⟩ hk hf ha
   have kn := K1 ((i.p 11) (ha.at 11 R))
   exact kn.g (L.mv Y R R (L.nil (X.dk kn ⟨im, Sub.fresh ib R, i.u 12 (fun _ => R)⟩)))
  ·rintro D e s141 ⟨im, ib, i⟩ hk hf ha
   have kn := K2 (ib 0 _ R) ((i.p 12) (ha.at 12 R))
   exact kn.g (L.skip R R R R (L.nil (X.dk kn ⟨im, Sub.fresh ib R, i.u 13 (fun _ => R)⟩)))
  ·rintro D e s142 ⟨im, ib, i⟩ hk hf ha
   have kn := K2 ((i.p 13) (ha.at 13 R)) ((i.p 12) (ha.at 12 R))
   exact kn.g (L.skip R R R R (L.nil (X.dk kn ⟨im, Sub.fresh ib R, i.u 14 (fun _ => R)⟩)))
  ·rintro D e s143 ⟨im, ib, i⟩ hk hf ha
   have kn := K2 ((i.p 14) (ha.at 14 R)) ((i.p 12) (ha.at 12 R))
   exact kn.g (L.skip R R R R (L.nil (X.dk kn ⟨im, Sub.fresh ib R, i.u 15 (fun _ => R)⟩)))
  ·rintro D e s144 ⟨im, ib, i⟩ hk hf ha
   have kn := K2 ((i.p 15) (ha.at 15 R)) ((i.p 12) (ha.at 12 R))
   exact kn.g (L.skip R R R R (L.nil (X.dk kn ⟨im, Sub.fresh ib R, i.u 16 (fun _ => R)⟩)))
  ·rintro D e s145 ⟨im, ib, i⟩ hk hf ha
   have kn := K2 (ib 9 _ R) ((i.p 12) (ha.at 12 R))
   exact kn.g (L.skip R R R R (L.nil (X.dk kn ⟨im, Sub.fresh ib R, i.u 17 (fun _ => R)⟩)))
  ·rintro D e s146 ⟨im, ib, i⟩ hk hf ha
   have kn := K2 (ib 3 _ R) ((i.p 12) (ha.at 12 R))
   exact kn.g (L.skip R R R R (L.nil (X.dk kn ⟨im, Sub.fresh ib R, i.u 18 (fun _ => R)⟩)))
  ·rintro D e s147 ⟨im, ib, i⟩ hk hf ha
   have kn := K4 ((i.p 16) (ha.at 16 R)) ((i.p 17) (ha.at 17 R)) ((i.p 18) (ha.at 18 R)) ((i.p 12) (ha.at 12 R))
   exact kn.g (L.skip R R R R (L.nil (X.dk kn ⟨im, Sub.fresh ib R, i.u 19 (fun _ => R)⟩)))
  ·rintro D e s148 ⟨im, ib, i⟩ hk hf ha
   have kn := K2 ((i.p 19) (ha.at 19 R)) ((i.p 12) (ha.at 12 R))
   exact kn.g (L.skip R R R R (L.nil (X.dk kn ⟨im, Sub.fresh ib R, i.u 20 (fun _ => R)⟩)))
  ·rintro D e s149 ⟨im, ib, i⟩ hk hf ha
   have kn := K2 ((i.p 12) (ha.at 12 R)) ((i.p 20) (ha.at 20 R))
   exact kn.g (L.pkF Y R R R R (L.nil (X.dk kn ⟨im, Sub.fresh ib R, i.u 21 (fun _ => R)⟩)))
  ·rintro D e s150 ⟨im, ib, i⟩ hk hf ha
   have kn := K1 ((i.p 21) (ha.at 21 R))
   exact kn.g (L.mv Y R R (L.nil (X.dk kn ⟨im, Sub.fresh ib R, i.u 22 (fun _ => R)⟩)))
  ·rintro D e s151 ⟨im, ib, i⟩ hk hf ha
   have kn := K2 (ib 0 _ R) ((i.p 22) (ha.at 22 R))
   exact kn.g (L.skip R R R R (L.nil (X.dk kn ⟨im, Sub.fresh ib R, i.u 23 (fun _ => R)⟩)))
  ·rintro D e s152 ⟨im, ib, i⟩ hk hf ha
   have kn := K2 ((i.p 23) (ha.at 23 R)) ((i.p 22) (ha.at 22 R))
   exact kn.g (L.skip R R R R (L.nil (X.dk kn ⟨im, Sub.fresh ib R, i.u 24 (fun _ => R)⟩)))
  ·rintro D e s153 ⟨im, ib, i⟩ hk hf ha
   have kn := K2 ((i.p 24) (ha.at 24 R)) ((i.p 22) (ha.at 22 R))
   exact kn.g (L.skip R R R R (L.nil (X.dk kn ⟨im, Sub.fresh ib R, i.u 25 (fun _ => R)⟩)))
  ·rintro D e s154 ⟨im, ib, i⟩ hk hf ha
   have kn := K2 ((i.p 25) (ha.at 25 R)) ((i.p 22) (ha.at 22 R))
   exact kn.g (L.skip R R R R (L.nil (X.dk kn ⟨im, Sub.fresh ib R, i.u 26 (fun _ => R)⟩)))
  ·rintro D e s155 ⟨im, ib, i⟩ hk hf ha
   have kn := K2 (ib 0 _ R) ((i.p 22) (ha.at 22 R))
   exact kn.g (L.skip R R R R (L.nil (X.dk kn ⟨im, Sub.fresh ib R, i.u 27 (fun _ => R)⟩)))
  ·rintro D e s156 ⟨im, ib, i⟩ hk hf ha
   have kn := K2 ((i.p 27) (ha.at 27 R)) ((i.p 22) (ha.at 22 R))
   exact kn.g (L.skip R R R R (L.nil (X.dk kn ⟨im, Sub.fresh ib R, i.u 28 (fun _ => R)⟩)))
  ·rintro D e s157 ⟨im, ib, i⟩ hk hf ha
   have kn := K2 ((i.p 28) (ha.at 28 R)) ((i.p 22) (ha.at 22 R))
   exact kn.g (L.skip R R R R (L.nil (X.dk kn ⟨im, Sub.fresh ib R, i.u 29 (fun _ => R)⟩)))
  ·rintro D e s158 ⟨im, ib, i⟩ hk hf ha
   have kn := K2 ((i.p 29) (ha.at 29 R)) ((i.p 22) (ha.at 22 R))
   exact kn.g (L.skip R R R R (L.nil (X.dk kn ⟨im, Sub.fresh ib R, i.u 30 (fun _ => R)⟩)))
  ·rintro D e s159 ⟨im, ib, i⟩ hk hf ha
   have kn := K2 (ib 9 _ R) ((i.p 22) (ha.at 22 R))
   exact kn.g (L.skip R R R R (L.nil (X.dk kn ⟨im, Sub.fresh ib R, i.u 31 (fun _ => R)⟩)))
  ·rintro D e s160 ⟨im, ib, i⟩ hk hf ha
   have kn := K3 ((i.p 30) (ha.at 30 R)) ((i.p 31) (ha.at 31 R)) ((i.p 22) (ha.at 22 R))
   exact kn.g (L.skip R R R R (L.nil (X.dk kn ⟨im, Sub.fresh ib R, i.u 32 (fun _ => R)⟩)))
  ·rintro D e s161 ⟨im, ib, i⟩ hk hf ha
   have kn := K2 ((i.p 32) (ha.at 32 R)) ((i.p 22) (ha.at 22 R))
   exact kn.g (L.skip R R R R (L.nil (X.dk kn ⟨im, Sub.fresh ib R, i.u 33 (fun _ => R)⟩)))
  ·rintro D e s162 ⟨im, ib, i⟩ hk hf ha
   have kn := K2 ((i.p 33) (ha.at 33 R)) ((i.p 22) (ha.at 22 R))
   exact kn.g (L.skip R R R R (L.nil (X.dk kn ⟨im, Sub.fresh ib R, i.u 34 (fun _ => R)⟩)))
  ·rintro D e s163 ⟨im, ib, i⟩ hk hf ha
   have kn := K2 ((i.p 34) (ha.at 34 R)) ((i.p 22) (ha.at 22 R))
   exact kn.g (L.skip R R R R (L.nil (X.dk kn ⟨im, Sub.fresh ib R, i.u 35 (fun _ => R)⟩)))
  ·rintro D e s164 ⟨im, ib, i⟩ hk hf ha
   have kn := K2 (ib 3 _ R) ((i.p 22) (ha.at 22 R))
   exact kn.g (L.skip R R R R (L.nil (X.dk kn ⟨im, Sub.fresh ib R, i.u 36 (fun _ => R)⟩)))
  ·rintro D e s165 ⟨im, ib, i⟩ hk hf ha
   have kn := K4 ((i.p 26) (ha.at 26 R)) ((i.p 35) (ha.at 35 R)) ((i.p 36) (ha.at 36 R)) ((i.p 22) (ha.at 22 R))
   exact kn.g (L.skip R R R R (L.nil (X.dk kn ⟨im, Sub.fresh ib R, i.u 37 (fun _ => R)⟩)))
  ·rintro D e s166 ⟨im, ib, i⟩ hk hf ha
   have kn := K2 ((i.p 37) (ha.at 37 R)) ((i.p 22) (ha.at 22 R))
   exact kn.g (L.skip R R R R (L.nil (X.dk kn ⟨im, Sub.fresh ib R, i.u 38 (fun _ => R)⟩)))
  ·rintro D e s167 ⟨im, ib, i⟩ hk hf ha
   have kn := K2 ((i.p 22) (ha.at 22 R)) ((i.p 38) (ha.at 38 R))
   exact kn.g (L.pkF Y R R R R (L.nil (X.dk kn ⟨im, Sub.fresh ib R, i.u 39 (fun _ => R)⟩)))
  rintro D e s168 ⟨im, ib, i⟩ hk hf ha
  have kn := K1 ((i.p 39) (ha.at 39 R))
  exact kn.g (L.as Y R R (L.nil (X.dk kn ⟨im, Sub.fresh ib R, i.u 40 (fun _ => R)⟩)))
 rintro D e s169 hD ⟨im, ib, i⟩
 have g40_ := (i.p 40) (hD 40 R)
 have bx16 := bx16.mv im no_No
 have h1 := h1.mono im.z
 have h2 := h2.mono im.z
 have h3 := h3.mono im.z
 have h4 := h4.mono im.z
 have h5 := h5.mono im.z
 have h6 := h6.mono im.z
 have h7 := h7.mono im.z
 have h8 := h8.mono im.z
 have h9 := h9.mono im.z
 have h10 := h10.mono im.z
 have h11 := h11.mono im.z
 have h12 := h12.mono im.z
 have h13 := h13.mono im.z
 have h14 := h14.mono im.z
 have h15 := h15.mono im.z
 have m0 := m0.trans im.no
 refine X.sub (e' := [(8, .bool false)]) ?_ (Sub.cons g40_ Sub.nil)
 exact X.sub (Jj22 _ _ ⟨s169, false, hm, m0, h1, h2, h3, h4, h5, h6, h7, h8, h9, h10, h11, h12, h13, h14, h15, bx16, R, R⟩) (Sub.rf R)

theorem cf60 : Cf Tryz.prog 60 := Cf.mk Tryz.func60 (by kernel_rfl) (by kernel_rfl)
theorem fa110_5 : FA Tryz.prog 110 5 17 := FA.mk Tryz.underlying110 rfl rfl ⟨1, by decide, by kernel_rfl⟩
noncomputable def m_scan_Delays_l3 (x22 : (AutT × (List ((Int × Int) × Int))) × (AutT × (List ((Int × Int) × Int))) × (AutT × (List ((Int × Int) × Int))) × List (List Int) × List Int × List Int) (st143 : Int) (x215 : Int) (st233 : Int) : Option (Int ⊕ (Unit ⊕ (List Int × List Int))) :=
 if decide (st233 < (x22.2.2.2.2.2.length : Int)) then
  (idx x22.2.2.2.2.2 st233).bind fun x245 =>
  (m_scan_task_delayed x22 st143 x215 x245).bind fun r247 =>
  if r247 then
   (m_scan_graph_word x22.2.2.1 st143).bind fun r250 =>
   some (.inr (.inr ((r250, ([x215, x245] : List Int)))))
  else
   some (.inl (W (st233 + 1)))
 else
  some (.inr (.inl ()))
noncomputable def m_scan_Delays_l2 (x22 : (AutT × (List ((Int × Int) × Int))) × (AutT × (List ((Int × Int) × Int))) × (AutT × (List ((Int × Int) × Int))) × List (List Int) × List Int × List Int) (st143 : Int) (st203 : Int) : Option (Int ⊕ (Unit ⊕ (List Int × List Int))) :=
 if decide (st203 < (x22.2.2.2.2.1.length : Int)) then
  (idx x22.2.2.2.2.1 st203).bind fun x215 =>
  (iter (m_scan_Delays_l3 x22 st143 x215) 0).bind fun o233 =>
  match o233 with
  | .inl u239 =>
   some (.inl (W (st203 + 1)))
  | .inr (u242) =>
   some (.inr (.inr (u242)))
 else
  some (.inr (.inl ()))
noncomputable def m_scan_Delays_l1 (x22 : (AutT × (List ((Int × Int) × Int))) × (AutT × (List ((Int × Int) × Int))) × (AutT × (List ((Int × Int) × Int))) × List (List Int) × List Int × List Int) (st143 : Int) : Option (Int ⊕ (Unit ⊕ (List Int × List Int))) :=
 if decide (st143 < (x22.2.2.2.1.length : Int)) then
  (iter (m_scan_Delays_l2 x22 st143) 0).bind fun o203 =>
  match o203 with
  | .inl u209 =>
   some (.inl (W (st143 + 1)))
  | .inr (u212) =>
   some (.inr (.inr (u212)))
 else
  some (.inr (.inl ()))
noncomputable def m_scan_Delays (p0 : AutT × AutT × List Int) : Option ((Int × List Int × List Int) × Bool × Int) :=
 (m_scan_open p0).bind fun r16 =>
 if (r16.2 != 0) then
  some ((0, ([] : List Int), ([] : List Int)), false, r16.2)
 else
  r16.1.bind fun x22 =>
  (iter (m_scan_Delays_l1 x22) 0).bind fun o143 =>
  match o143 with
  | .inl u149 =>
   some ((0, ([] : List Int), ([] : List Int)), true, 0)
  | .inr (u154) =>
   some ((2, u154), false, 0)
theorem m_scan_Delays_c {s : Sig} {p0 : AutT × AutT × List Int} {a1 : Option Addr} {c1 : Nat} {a2 : Option Addr} {c2 : Nat} {a3 : Option Addr} {c3 : Nat} {a4 : Option Addr} {c4 : Nat} {a5 : Option Addr} {c5 : Nat} {a6 : Option Addr} {c6 : Nat} {a7 : Option Addr} {c7 : Nat} {u0 : Nat} {r : (Int × List Int × List Int) × Bool × Int} (h1 : RdL qI s a1 c1 p0.1.1) (h2 : RdL qI s a2 c2 p0.1.2.2.1) (h3 : RdL qT s a3 c3 p0.1.2.2.2) (h4 : RdL qI s a4 c4 p0.2.1.1) (h5 : RdL qI s a5 c5 p0.2.1.2.2.1) (h6 : RdL qT s a6 c6 p0.2.1.2.2.2) (h7 : RdL qI s a7 c7 p0.2.2) (hm : m_scan_Delays p0 = some r) :
    Calls Tryz.prog 17 #[.agg #[.slice a1 p0.1.1.length c1, .int .i64 p0.1.2.1, .slice a2 p0.1.2.2.1.length c2, .slice a3 p0.1.2.2.2.length c3, .slice a4 p0.2.1.1.length c4, .int .i64 p0.2.1.2.1, .slice a5 p0.2.1.2.2.1.length c5, .slice a6 p0.2.1.2.2.2.length c6, .slice a7 p0.2.2.length c7]] s.w (RetS No s fun v s' => ∃ (a8 : Option Addr) (c8 : Nat) (a9 : Option Addr) (c9 : Nat), v = .tuple #[.agg #[.int .i64 r.1.1, .slice a8 r.1.2.1.length c8, .slice a9 r.1.2.2.length c9], .bool r.2.1, .int .i64 r.2.2] ∧ RowT qI s' u0 3 a8 c8 r.1.2.1 ∧ RdL qI s' a9 c9 r.1.2.2) := by
 unfold m_scan_Delays at hm
 obtain ⟨N, hN, hNb⟩ := s.fresh
 have m0 : Mv (Up N No) s s := Mv.refl _ _
 refine E.entry Tryz.func17 R Tryz.ntmps17 R R (ER (L.box (N + 0) Y R R R fun b10 s11 m12 bx10 => ?_))
 refine L.al (N + 1) zz38 R Y R fun b13 s14 m15 bx13 => ?_
 replace bx10 := bx10.mv m15 no_No
 replace h1 := (h1.mono m12.z).mono m15.z
 replace h2 := (h2.mono m12.z).mono m15.z
 replace h3 := (h3.mono m12.z).mono m15.z
 replace h4 := (h4.mono m12.z).mono m15.z
 replace h5 := (h5.mono m12.z).mono m15.z
 replace h6 := (h6.mono m12.z).mono m15.z
 replace h7 := (h7.mono m12.z).mono m15.z
 refine L.as Y R R (L.as Y R R (LN (ER (L.lg (j := 0) (cs := [.slice a1 p0.1.1.length c1, .int .i64 p0.1.2.1, .slice a2 p0.1.2.2.1.length c2, .slice a3 p0.1.2.2.2.length c3, .slice a4 p0.2.1.1.length c4, .int .i64 p0.2.1.2.1, .slice a5 p0.2.1.2.2.1.length c5, .slice a6 p0.2.1.2.2.2.length c6, .slice a7 p0.2.2.length c7]) bx10.mem ag27 Y R R R R R ?_))))
 obtain ⟨r16, er16, hm⟩ := bindS hm
 refine L.ca cf52 R R Y R (m_scan_open_c (s := s14) (p0 := p0) h1 h2 h3 h4 h5 h6 h7 er16) R ?_
 rintro _ s17 m18 ⟨v19, rfl, h19⟩
 replace m0 := ((m0.trans m12.no).trans m15.no).trans m18.no
 replace bx13 := bx13.mv m18 no_No
 refine L.mv Y R R (L.ex Y R R R (L.ex Y R R R (L.as Y R R (L.as Y R R (LN (E.seq (ER (L.mv Y R R (L.bi Y R R R R (L.nil (X.seqN ?_)))))))))))
 rcases ifS hm with ⟨hc, hm⟩ | ⟨hc, hm⟩
 ·refine E.cT R hc (ER (L.bu (cs := [.int .i64 0, .slice none 0 0, .slice none 0 0]) pl38 Y R R R (L.mv Y R R (L.st (c := [.int .i64 0, .slice none 0 0, .slice none 0 0]) (cs' := #[.int .i64 0, .slice none 0 0, .slice none 0 0]) bx13 ag38.sz Y R R R R R (nb R) R fun s20 m21 bx13 => ?_))))
  replace m0 := m0.trans (m21.one up)
  refine L.as Y R R (L.as Y R R (LN (E.ret (X.seqR ?_))))
  obtain rfl := oi hm
  exact X.rt (.inl R) Tryz.results17 (Rs.cell R bx13 ag38 R (Rs.tmp R (Rs.tmp R Rs.nil))) R ⟨_, (s20).ren N (fun _ => 0), R, R, m0.ren hNb, ⟨none, 0, none, 0, R, RowT.nil, RdL.nil⟩⟩
 refine E.cF R hc (E.skip (X.seqN (E.seq (ER (L.mv Y R R ?_)))))
 obtain ⟨x22, ex22, hm⟩ := bindS hm
 obtain ⟨b23, ds23, rfl, bx23, rd23⟩ := h19.some ex22
 obtain ⟨_, _, rfl, ⟨_, _, rfl, ⟨_, _, rfl, ⟨a24, c24, rfl, h24⟩, ⟨_, _, rfl, rfl, ⟨_, _, rfl, ⟨a25, c25, rfl, h25⟩, ⟨a26, c26, rfl, h26⟩⟩⟩⟩, ⟨y27, c27, rfl, h27⟩⟩, ⟨_, _, rfl, ⟨_, _, rfl, ⟨_, _, rfl, ⟨a28, c28, rfl, h28⟩, ⟨_, _, rfl, rfl, ⟨_, _, rfl, ⟨a29, c29, rfl, h29⟩, ⟨a30, c30, rfl, h30⟩⟩⟩⟩, ⟨y31, c31, rfl, h31⟩⟩, ⟨_, _, rfl, ⟨_, _, rfl, ⟨_, _, rfl, ⟨a32, c32, rfl, h32⟩, ⟨_, _, rfl, rfl, ⟨_, _, rfl, ⟨a33, c33, rfl, h33⟩, ⟨a34, c34, rfl, h34⟩⟩⟩⟩, ⟨y35, c35, rfl, h35⟩⟩, ⟨_, _, rfl, ⟨a36, c36, rfl, h36⟩, ⟨_, _, rfl, ⟨a37, c37, rfl, h37⟩, ⟨a38, c38, rfl, h38⟩⟩⟩⟩⟩⟩ := rd23
 replace bx23 : Bx s17 0 b23 #[.slice a24 x22.1.1.1.length c24, .int .i64 x22.1.1.2.1, .slice a25 x22.1.1.2.2.1.length c25, .slice a26 x22.1.1.2.2.2.length c26, .map y27, .slice a28 x22.2.1.1.1.length c28, .int .i64 x22.2.1.1.2.1, .slice a29 x22.2.1.1.2.2.1.length c29, .slice a30 x22.2.1.1.2.2.2.length c30, .map y31, .slice a32 x22.2.2.1.1.1.length c32, .int .i64 x22.2.2.1.1.2.1, .slice a33 x22.2.2.1.1.2.2.1.length c33, .slice a34 x22.2.2.1.1.2.2.2.length c34, .map y35, .slice a36 x22.2.2.2.1.length c36, .slice a37 x22.2.2.2.2.1.length c37, .slice a38 x22.2.2.2.2.2.length c38] 110 := bx23
 refine L.nc Y R R (L.fa fa110_3 Y R R (L.ld (j := 15) bx23.mem nag34 Y R R R R (L.len sl34 Y R R (L.mv Y R R (LN (E.block ?_))))))
 obtain ⟨o143, eo143, hm⟩ := bindS hm
 refine E.cut (x := .exit 0) (fun e w => ∃ (s150 : Sig) (u149 : Unit), o143 = .inl u149 ∧ Mv (Up N No) s s150 ∧ Bx s150 (N + 1) b13 #[.int .i64 0, .slice none 0 0, .slice none 0 0] 38 ∧ e = [(2, .pointer (some ⟨b13, 0, none⟩))] ∧ w = s150.w) ?_ ?_
 ·rintro _ _ ⟨s150, u149, rfl, m0, bx13, rfl, rfl⟩
  dsimp only at hm
  refine X.blkE (X.seqN (ER (L.bu (cs := [.int .i64 0, .slice none 0 0, .slice none 0 0]) pl38 Y R R R (L.st (c := [.int .i64 0, .slice none 0 0, .slice none 0 0]) (cs' := #[.int .i64 0, .slice none 0 0, .slice none 0 0]) bx13 ag38.sz Y R R R R R (nb R) R fun s151 m152 bx13 => ?_))))
  replace m0 := m0.trans (m152.one up)
  refine L.as Y R R (L.as Y R R (LN (E.ret ?_)))
  obtain rfl := oi hm
  exact X.rt (.inl R) Tryz.results17 (Rs.cell R bx13 ag38 R (Rs.tmp R (Rs.tmp R Rs.nil))) R ⟨_, (s151).ren N (fun _ => 0), R, R, m0.ren hNb, ⟨none, 0, none, 0, R, RowT.nil, RdL.nil⟩⟩
 intro K153
 refine E.cut (x := .ret) (fun e w => ∃ (s155 : Sig) (u154 : List Int × List Int) (a145 : Option Addr) (c145 : Nat) (a147 : Option Addr) (c147 : Nat), o143 = .inr (u154) ∧ Mv (Up N No) s s155 ∧ RowT qI s155 (N + 2) 3 a145 c145 u154.1 ∧ RdL qI s155 a147 c147 u154.2 ∧ Bx s155 (N + 1) b13 #[.int .i64 2, .slice a145 u154.1.length c145, .slice a147 u154.2.length c147] 38 ∧ e = [(4, .int .i64 0), (3, .bool false), (2, .pointer (some ⟨b13, 0, none⟩))] ∧ w = s155.w) ?_ ?_
 ·rintro _ _ ⟨s155, u154, a145, c145, a147, c147, rfl, m0, h145, h147, bx13, rfl, rfl⟩
  dsimp only at hm
  refine X.blkR (X.seqR ?_)
  obtain rfl := oi hm
  exact X.rt (.inl R) Tryz.results17 (Rs.cell R bx13 ag38 R (Rs.tmp R (Rs.tmp R Rs.nil))) R ⟨_, (s155).ren N (fun k => cond (Nat.beq k 2) u0 (0)), R, R, m0.ren hNb, ⟨a145, c145, a147, c147, R, (h145.ren hN), (h147.ren hN)⟩⟩
 intro K156
 refine E.iter (fun (st143 : Int) (e : List (Nat × Value)) (w : World) => ∃ (s148 : Sig), Mv (Up N No) s s148 ∧ RdL qI s148 a24 c24 x22.1.1.1 ∧ RdL qI s148 a25 c25 x22.1.1.2.2.1 ∧ RdL qT s148 a26 c26 x22.1.1.2.2.2 ∧ MapD kvP qI s148 y27 c27 x22.1.2 ∧ RdL qI s148 a28 c28 x22.2.1.1.1 ∧ RdL qI s148 a29 c29 x22.2.1.1.2.2.1 ∧ RdL qT s148 a30 c30 x22.2.1.1.2.2.2 ∧ MapD kvP qI s148 y31 c31 x22.2.1.2 ∧ RdL qI s148 a32 c32 x22.2.2.1.1.1 ∧ RdL qI s148 a33 c33 x22.2.2.1.1.2.2.1 ∧ RdL qT s148 a34 c34 x22.2.2.1.1.2.2.2 ∧ MapD kvP qI s148 y35 c35 x22.2.2.1.2 ∧ RdL (rL qI) s148 a36 c36 x22.2.2.2.1 ∧ RdL qI s148 a37 c37 x22.2.2.2.2.1 ∧ RdL qI s148 a38 c38 x22.2.2.2.2.2 ∧ Bx s148 (N + 1) b13 #[.int .i64 0, .slice none 0 0, .slice none 0 0] 38 ∧ Bx s148 0 b23 #[.slice a24 x22.1.1.1.length c24, .int .i64 x22.1.1.2.1, .slice a25 x22.1.1.2.2.1.length c25, .slice a26 x22.1.1.2.2.2.length c26, .map y27, .slice a28 x22.2.1.1.1.length c28, .int .i64 x22.2.1.1.2.1, .slice a29 x22.2.1.1.2.2.1.length c29, .slice a30 x22.2.1.1.2.2.2.length c30, .map y31, .slice a32 x22.2.2.1.1.1.length c32, .int .i64 x22.2.2.1.1.2.1, .slice a33 x22.2.2.1.1.2.2.1.length c33, .slice a34 x22.2.2.1.1.2.2.2.length c34, .map y35, .slice a36 x22.2.2.2.1.length c36, .slice a37 x22.2.2.2.2.1.length c37, .slice a38 x22.2.2.2.2.2.length c38] 110 ∧ e = [(25, .int .i64 st143), (24, .int .i64 (x22.2.2.2.1.length : Int)), (5, .pointer (some ⟨b23, 0, none⟩)), (2, .pointer (some ⟨b13, 0, none⟩))] ∧ w = s148.w) eo143 ⟨s17, m0, h24, h25, h26, h27, h28, h29, h30, h31, h32, h33, h34, h35, h36, h37, h38, bx13, bx23, R, R⟩ (Sub.rf R) ?_
 rintro st143 res143 hm ih143 ho143 _ _ ⟨s148, m0, h24, h25, h26, h27, h28, h29, h30, h31, h32, h33, h34, h35, h36, h37, h38, bx13, bx23, rfl, rfl⟩
 unfold m_scan_Delays_l1 at hm
 refine ER (L.bi Y R R R R (LN (E.seq ?_)))
 rcases ifS hm with ⟨hc, hm⟩ | ⟨hc, hm⟩
 ·refine E.cT R hc (E.skip (X.seqN (E.seq (E.block (ER (L.mv Y R R (L.as Y R R (LN (ER (L.mv Y R R (L.nc Y R R (L.fa fa110_4 Y R R (L.ld (j := 16) bx23.mem nag22 Y R R R R (L.len sl22 Y R R (L.mv Y R R (LN (E.block ?_)))))))))))))))))
  obtain ⟨o203, eo203, hm⟩ := bindS hm
  refine E.cut (x := .exit 2) (fun e w => ∃ (s210 : Sig) (u209 : Unit), o203 = .inl u209 ∧ Mv (Up N No) s s210 ∧ RdL qI s210 a24 c24 x22.1.1.1 ∧ RdL qI s210 a25 c25 x22.1.1.2.2.1 ∧ RdL qT s210 a26 c26 x22.1.1.2.2.2 ∧ MapD kvP qI s210 y27 c27 x22.1.2 ∧ RdL qI s210 a28 c28 x22.2.1.1.1 ∧ RdL qI s210 a29 c29 x22.2.1.1.2.2.1 ∧ RdL qT s210 a30 c30 x22.2.1.1.2.2.2 ∧ MapD kvP qI s210 y31 c31 x22.2.1.2 ∧ RdL qI s210 a32 c32 x22.2.2.1.1.1 ∧ RdL qI s210 a33 c33 x22.2.2.1.1.2.2.1 ∧ RdL qT s210 a34 c34 x22.2.2.1.1.2.2.2 ∧ MapD kvP qI s210 y35 c35 x22.2.2.1.2 ∧ RdL (rL qI) s210 a36 c36 x22.2.2.2.1 ∧ RdL qI s210 a37 c37 x22.2.2.2.2.1 ∧ RdL qI s210 a38 c38 x22.2.2.2.2.2 ∧ Bx s210 (N + 1) b13 #[.int .i64 0, .slice none 0 0, .slice none 0 0] 38 ∧ Bx s210 0 b23 #[.slice a24 x22.1.1.1.length c24, .int .i64 x22.1.1.2.1, .slice a25 x22.1.1.2.2.1.length c25, .slice a26 x22.1.1.2.2.2.length c26, .map y27, .slice a28 x22.2.1.1.1.length c28, .int .i64 x22.2.1.1.2.1, .slice a29 x22.2.1.1.2.2.1.length c29, .slice a30 x22.2.1.1.2.2.2.length c30, .map y31, .slice a32 x22.2.2.1.1.1.length c32, .int .i64 x22.2.2.1.1.2.1, .slice a33 x22.2.2.1.1.2.2.1.length c33, .slice a34 x22.2.2.1.1.2.2.2.length c34, .map y35, .slice a36 x22.2.2.2.1.length c36, .slice a37 x22.2.2.2.2.1.length c37, .slice a38 x22.2.2.2.2.2.length c38] 110 ∧ e = [(25, .int .i64 st143), (24, .int .i64 (x22.2.2.2.1.length : Int)), (5, .pointer (some ⟨b23, 0, none⟩)), (2, .pointer (some ⟨b13, 0, none⟩))] ∧ w = s210.w) ?_ ?_
  ·rintro _ _ ⟨s210, u209, rfl, m0, h24, h25, h26, h27, h28, h29, h30, h31, h32, h33, h34, h35, h36, h37, h38, bx13, bx23, rfl, rfl⟩
   dsimp only at hm
   exact X.blkE (X.blkN (X.seqN (E.reg (L.bi Y R R R R (L.mv Y R R (L.nil (X.sub (ih143 _ (oi hm).symm _ _ ⟨s210, m0, h24, h25, h26, h27, h28, h29, h30, h31, h32, h33, h34, h35, h36, h37, h38, bx13, bx23, R, R⟩) (Sub.rf R))))))))
  intro K211
  refine E.cut (x := .ret) (fun e w => ∃ (s213 : Sig) (u212 : List Int × List Int) (a205 : Option Addr) (c205 : Nat) (a207 : Option Addr) (c207 : Nat), o203 = .inr (u212) ∧ Mv (Up N No) s s213 ∧ RowT qI s213 (N + 2) 3 a205 c205 u212.1 ∧ RdL qI s213 a207 c207 u212.2 ∧ Bx s213 (N + 1) b13 #[.int .i64 2, .slice a205 u212.1.length c205, .slice a207 u212.2.length c207] 38 ∧ e = [(4, .int .i64 0), (3, .bool false), (2, .pointer (some ⟨b13, 0, none⟩))] ∧ w = s213.w) ?_ ?_
  ·rintro _ _ ⟨s213, u212, a205, c205, a207, c207, rfl, m0, h205, h207, bx13, rfl, rfl⟩
   dsimp only at hm
   refine X.blkR (X.blkR (X.seqR (X.seqR ?_)))
   have hx := ho143 _ (oi hm).symm
   exact X.sub (K156 _ _ ⟨s213, u212, a205, c205, a207, c207, hx.symm, m0, h205, h207, bx13, R, R⟩) (Sub.rf R)
  intro K214
  refine E.iter (fun (st203 : Int) (e : List (Nat × Value)) (w : World) => ∃ (s208 : Sig), Mv (Up N No) s s208 ∧ RdL qI s208 a37 c37 x22.2.2.2.2.1 ∧ RdL qI s208 a24 c24 x22.1.1.1 ∧ RdL qI s208 a25 c25 x22.1.1.2.2.1 ∧ RdL qT s208 a26 c26 x22.1.1.2.2.2 ∧ MapD kvP qI s208 y27 c27 x22.1.2 ∧ RdL qI s208 a28 c28 x22.2.1.1.1 ∧ RdL qI s208 a29 c29 x22.2.1.1.2.2.1 ∧ RdL qT s208 a30 c30 x22.2.1.1.2.2.2 ∧ MapD kvP qI s208 y31 c31 x22.2.1.2 ∧ RdL qI s208 a32 c32 x22.2.2.1.1.1 ∧ RdL qI s208 a33 c33 x22.2.2.1.1.2.2.1 ∧ RdL qT s208 a34 c34 x22.2.2.1.1.2.2.2 ∧ MapD kvP qI s208 y35 c35 x22.2.2.1.2 ∧ RdL (rL qI) s208 a36 c36 x22.2.2.2.1 ∧ RdL qI s208 a38 c38 x22.2.2.2.2.2 ∧ Bx s208 (N + 1) b13 #[.int .i64 0, .slice none 0 0, .slice none 0 0] 38 ∧ Bx s208 0 b23 #[.slice a24 x22.1.1.1.length c24, .int .i64 x22.1.1.2.1, .slice a25 x22.1.1.2.2.1.length c25, .slice a26 x22.1.1.2.2.2.length c26, .map y27, .slice a28 x22.2.1.1.1.length c28, .int .i64 x22.2.1.1.2.1, .slice a29 x22.2.1.1.2.2.1.length c29, .slice a30 x22.2.1.1.2.2.2.length c30, .map y31, .slice a32 x22.2.2.1.1.1.length c32, .int .i64 x22.2.2.1.1.2.1, .slice a33 x22.2.2.1.1.2.2.1.length c33, .slice a34 x22.2.2.1.1.2.2.2.length c34, .map y35, .slice a36 x22.2.2.2.1.length c36, .slice a37 x22.2.2.2.2.1.length c37, .slice a38 x22.2.2.2.2.2.length c38] 110 ∧ e = [(33, .int .i64 st203), (32, .int .i64 (x22.2.2.2.2.1.length : Int)), (31, .slice a37 x22.2.2.2.2.1.length c37), (6, .int .i64 st143), (25, .int .i64 st143), (24, .int .i64 (x22.2.2.2.1.length : Int)), (5, .pointer (some ⟨b23, 0, none⟩)), (2, .pointer (some ⟨b13, 0, none⟩))] ∧ w = s208.w) eo203 ⟨s148, m0, h37, h24, h25, h26, h27, h28, h29, h30, h31, h32, h33, h34, h35, h36, h38, bx13, bx23, R, R⟩ (Sub.rf R) ?_
  rintro st203 res203 hm ih203 ho203 _ _ ⟨s208, m0, h37, h24, h25, h26, h27, h28, h29, h30, h31, h32, h33, h34, h35, h36, h38, bx13, bx23, rfl, rfl⟩
  unfold m_scan_Delays_l2 at hm
  refine ER (L.bi Y R R R R (LN (E.seq ?_)))
  rcases ifS hm with ⟨hc, hm⟩ | ⟨hc, hm⟩
  ·refine E.cT R hc (E.skip (X.seqN (E.seq (E.block (E.seq (E.reg ?_))))))
   obtain ⟨x215, ex215, hm⟩ := bindS hm
   refine L.ix (r := qI) sl22 h37 Y R R ex215 R fun b216 o216 cc216 me216 rd216 => ?_
   obtain rfl := rd216
   refine L.ld (j := 0) me216 nag3 Y R R R R (L.as Y R R (LN (ER (L.mv Y R R (L.nc Y R R (L.fa fa110_5 Y R R (L.ld (j := 17) bx23.mem nag22 Y R R R R (L.len sl22 Y R R (L.mv Y R R (LN (E.block ?_)))))))))))
   obtain ⟨o233, eo233, hm⟩ := bindS hm
   refine E.cut (x := .exit 4) (fun e w => ∃ (s240 : Sig) (u239 : Unit), o233 = .inl u239 ∧ Mv (Up N No) s s240 ∧ RdL qI s240 a37 c37 x22.2.2.2.2.1 ∧ RdL qI s240 a24 c24 x22.1.1.1 ∧ RdL qI s240 a25 c25 x22.1.1.2.2.1 ∧ RdL qT s240 a26 c26 x22.1.1.2.2.2 ∧ MapD kvP qI s240 y27 c27 x22.1.2 ∧ RdL qI s240 a28 c28 x22.2.1.1.1 ∧ RdL qI s240 a29 c29 x22.2.1.1.2.2.1 ∧ RdL qT s240 a30 c30 x22.2.1.1.2.2.2 ∧ MapD kvP qI s240 y31 c31 x22.2.1.2 ∧ RdL qI s240 a32 c32 x22.2.2.1.1.1 ∧ RdL qI s240 a33 c33 x22.2.2.1.1.2.2.1 ∧ RdL qT s240 a34 c34 x22.2.2.1.1.2.2.2 ∧ MapD kvP qI s240 y35 c35 x22.2.2.1.2 ∧ RdL (rL qI) s240 a36 c36 x22.2.2.2.1 ∧ RdL qI s240 a38 c38 x22.2.2.2.2.2 ∧ Bx s240 (N + 1) b13 #[.int .i64 0, .slice none 0 0, .slice none 0 0] 38 ∧ Bx s240 0 b23 #[.slice a24 x22.1.1.1.length c24, .int .i64 x22.1.1.2.1, .slice a25 x22.1.1.2.2.1.length c25, .slice a26 x22.1.1.2.2.2.length c26, .map y27, .slice a28 x22.2.1.1.1.length c28, .int .i64 x22.2.1.1.2.1, .slice a29 x22.2.1.1.2.2.1.length c29, .slice a30 x22.2.1.1.2.2.2.length c30, .map y31, .slice a32 x22.2.2.1.1.1.length c32, .int .i64 x22.2.2.1.1.2.1, .slice a33 x22.2.2.1.1.2.2.1.length c33, .slice a34 x22.2.2.1.1.2.2.2.length c34, .map y35, .slice a36 x22.2.2.2.1.length c36, .slice a37 x22.2.2.2.2.1.length c37, .slice a38 x22.2.2.2.2.2.length c38] 110 ∧ e = [(33, .int .i64 st203), (32, .int .i64 (x22.2.2.2.2.1.length : Int)), (31, .slice a37 x22.2.2.2.2.1.length c37), (6, .int .i64 st143), (25, .int .i64 st143), (24, .int .i64 (x22.2.2.2.1.length : Int)), (5, .pointer (some ⟨b23, 0, none⟩)), (2, .pointer (some ⟨b13, 0, none⟩))] ∧ w = s240.w) ?_ ?_
   ·rintro _ _ ⟨s240, u239, rfl, m0, h37, h24, h25, h26, h27, h28, h29, h30, h31, h32, h33, h34, h35, h36, h38, bx13, bx23, rfl, rfl⟩
    dsimp only at hm
    exact X.blkE (X.blkN (X.seqN (E.reg (L.bi Y R R R R (L.mv Y R R (L.nil (X.sub (ih203 _ (oi hm).symm _ _ ⟨s240, m0, h37, h24, h25, h26, h27, h28, h29, h30, h31, h32, h33, h34, h35, h36, h38, bx13, bx23, R, R⟩) (Sub.rf R))))))))
   intro K241
   refine E.cut (x := .ret) (fun e w => ∃ (s243 : Sig) (u242 : List Int × List Int) (a235 : Option Addr) (c235 : Nat) (a237 : Option Addr) (c237 : Nat), o233 = .inr (u242) ∧ Mv (Up N No) s s243 ∧ RowT qI s243 (N + 2) 3 a235 c235 u242.1 ∧ RdL qI s243 a237 c237 u242.2 ∧ Bx s243 (N + 1) b13 #[.int .i64 2, .slice a235 u242.1.length c235, .slice a237 u242.2.length c237] 38 ∧ e = [(4, .int .i64 0), (3, .bool false), (2, .pointer (some ⟨b13, 0, none⟩))] ∧ w = s243.w) ?_ ?_
   ·rintro _ _ ⟨s243, u242, a235, c235, a237, c237, rfl, m0, h235, h237, bx13, rfl, rfl⟩
    dsimp only at hm
    refine X.blkR (X.blkR (X.seqR (X.seqR ?_)))
    have hx := ho203 _ (oi hm).symm
    exact X.sub (K214 _ _ ⟨s243, u242, a235, c235, a237, c237, hx.symm, m0, h235, h237, bx13, R, R⟩) (Sub.rf R)
   intro K244
   refine E.iter (fun (st233 : Int) (e : List (Nat × Value)) (w : World) => ∃ (s238 : Sig), Mv (Up N No) s s238 ∧ RdL qI s238 a38 c38 x22.2.2.2.2.2 ∧ RdL qI s238 a37 c37 x22.2.2.2.2.1 ∧ RdL qI s238 a24 c24 x22.1.1.1 ∧ RdL qI s238 a25 c25 x22.1.1.2.2.1 ∧ RdL qT s238 a26 c26 x22.1.1.2.2.2 ∧ MapD kvP qI s238 y27 c27 x22.1.2 ∧ RdL qI s238 a28 c28 x22.2.1.1.1 ∧ RdL qI s238 a29 c29 x22.2.1.1.2.2.1 ∧ RdL qT s238 a30 c30 x22.2.1.1.2.2.2 ∧ MapD kvP qI s238 y31 c31 x22.2.1.2 ∧ RdL qI s238 a32 c32 x22.2.2.1.1.1 ∧ RdL qI s238 a33 c33 x22.2.2.1.1.2.2.1 ∧ RdL qT s238 a34 c34 x22.2.2.1.1.2.2.2 ∧ MapD kvP qI s238 y35 c35 x22.2.2.1.2 ∧ RdL (rL qI) s238 a36 c36 x22.2.2.2.1 ∧ Bx s238 (N + 1) b13 #[.int .i64 0, .slice none 0 0, .slice none 0 0] 38 ∧ Bx s238 0 b23 #[.slice a24 x22.1.1.1.length c24, .int .i64 x22.1.1.2.1, .slice a25 x22.1.1.2.2.1.length c25, .slice a26 x22.1.1.2.2.2.length c26, .map y27, .slice a28 x22.2.1.1.1.length c28, .int .i64 x22.2.1.1.2.1, .slice a29 x22.2.1.1.2.2.1.length c29, .slice a30 x22.2.1.1.2.2.2.length c30, .map y31, .slice a32 x22.2.2.1.1.1.length c32, .int .i64 x22.2.2.1.1.2.1, .slice a33 x22.2.2.1.1.2.2.1.length c33, .slice a34 x22.2.2.1.1.2.2.2.length c34, .map y35, .slice a36 x22.2.2.2.1.length c36, .slice a37 x22.2.2.2.2.1.length c37, .slice a38 x22.2.2.2.2.2.length c38] 110 ∧ e = [(42, .int .i64 st233), (41, .int .i64 (x22.2.2.2.2.2.length : Int)), (40, .slice a38 x22.2.2.2.2.2.length c38), (8, .int .i64 x215), (33, .int .i64 st203), (32, .int .i64 (x22.2.2.2.2.1.length : Int)), (31, .slice a37 x22.2.2.2.2.1.length c37), (6, .int .i64 st143), (25, .int .i64 st143), (24, .int .i64 (x22.2.2.2.1.length : Int)), (5, .pointer (some ⟨b23, 0, none⟩)), (2, .pointer (some ⟨b13, 0, none⟩))] ∧ w = s238.w) eo233 ⟨s208, m0, h38, h37, h24, h25, h26, h27, h28, h29, h30, h31, h32, h33, h34, h35, h36, bx13, bx23, R, R⟩ (Sub.rf R) ?_
   rintro st233 res233 hm ih233 ho233 _ _ ⟨s238, m0, h38, h37, h24, h25, h26, h27, h28, h29, h30, h31, h32, h33, h34, h35, h36, bx13, bx23, rfl, rfl⟩
   unfold m_scan_Delays_l3 at hm
   refine ER (L.bi Y R R R R (LN (E.seq ?_)))
   rcases ifS hm with ⟨hc, hm⟩ | ⟨hc, hm⟩
   ·refine E.cT R hc (E.skip (X.seqN (E.seq (E.block (E.seq (E.reg ?_))))))
    obtain ⟨x245, ex245, hm⟩ := bindS hm
    refine L.ix (r := qI) sl22 h38 Y R R ex245 R fun b246 o246 cc246 me246 rd246 => ?_
    obtain rfl := rd246
    refine L.ld (j := 0) me246 nag3 Y R R R R (L.as Y R R (LN (ER (L.mv Y R R (L.mv Y R R (L.mv Y R R (L.mv Y R R ?_)))))))
    obtain ⟨r247, er247, hm⟩ := bindS hm
    refine L.ca cf60 R R Y R (m_scan_task_delayed_c (s := s238) (p0 := x22) (p1 := st143) (p2 := x215) (p3 := x245) (t0 := 0) h24 h25 h26 h27 h28 h29 h30 h31 h32 h33 h34 h35 h36 h37 h38 bx23 er247) R ?_
    rintro _ s248 m249 rfl
    replace m0 := m0.trans m249.no
    replace h38 := h38.mono m249.z
    replace h37 := h37.mono m249.z
    replace bx13 := bx13.mv m249 no_No
    replace bx23 := bx23.mv m249 no_No
    replace h24 := h24.mono m249.z
    replace h25 := h25.mono m249.z
    replace h26 := h26.mono m249.z
    replace h27 := h27.mono m249.z
    replace h28 := h28.mono m249.z
    replace h29 := h29.mono m249.z
    replace h30 := h30.mono m249.z
    replace h31 := h31.mono m249.z
    replace h32 := h32.mono m249.z
    replace h33 := h33.mono m249.z
    replace h34 := h34.mono m249.z
    replace h35 := h35.mono m249.z
    replace h36 := h36.mono m249.z
    refine L.nil (X.seqN ?_)
    rcases ifS hm with ⟨hc, hm⟩ | ⟨hc, hm⟩
    ·refine E.cT R hc (ER (L.mv Y R R (L.nc Y R R (L.fa fa110_2 Y R R (L.lg (j := 10) (cs := [.slice a32 x22.2.2.1.1.1.length c32, .int .i64 x22.2.2.1.1.2.1, .slice a33 x22.2.2.1.1.2.2.1.length c33, .slice a34 x22.2.2.1.1.2.2.2.length c34, .map y35]) bx23.mem ag108 Y R R R R R (L.mv Y R R ?_))))))
     obtain ⟨r250, er250, hm⟩ := bindS hm
     refine L.ca cf59 R R Y R (m_scan_graph_word_c (s := s248) (p0 := x22.2.2.1) (p1 := st143) (u0 := (N + 2)) h32 h33 h34 h35 er250) R ?_
     rintro _ s251 m252 ⟨a253, c253, rfl, h253⟩
     refine L.mv Y R R (L.mv Y R R (L.bsE (k := 2) (cs := [.int .i64 x215, .int .i64 x245]) 0 bs22 (nb R) Y R R R R fun b254 s255 m256 bx254 => ?_))
     replace bx13 := (bx13.mv m252 no_No).mv m256 no_No
     have h254 := Bx.rdL (r := qI) (xs := ([x215, x245] : List Int)) bx254 ⟨[.int .i64 x215], _, R, R, ⟨[.int .i64 x245], _, R, R, R⟩⟩ (nb R)
     refine L.bu (cs := [.int .i64 2, .slice a253 r250.length c253, .slice (some ⟨b254, 0, none⟩) ([x215, x245] : List Int).length (([x215, x245] : List Int).length)]) pl38 Y R R R (L.st (c := [.int .i64 2, .slice a253 r250.length c253, .slice (some ⟨b254, 0, none⟩) ([x215, x245] : List Int).length (([x215, x245] : List Int).length)]) (cs' := #[.int .i64 2, .slice a253 r250.length c253, .slice (some ⟨b254, 0, none⟩) ([x215, x245] : List Int).length (([x215, x245] : List Int).length)]) bx13 ag38.sz Y R R R R R (nb R) R fun s257 m258 bx13 => ?_)
     replace m0 := ((m0.trans m252.no).trans m256.no).trans (m258.one up)
     replace h253 := (h253.mv m256 no_No no_No).mv m258 (tq R) (tg0 hN)
     replace h254 := h254.mono (m258.le (tg0 hN))
     refine L.as Y R R (L.as Y R R (LN (E.ret (X.blkR (X.seqR (X.seqR ?_))))))
     have hx := ho233 _ (oi hm).symm
     exact X.sub (K244 _ _ ⟨s257, (r250, ([x215, x245] : List Int)), a253, c253, (some ⟨b254, 0, none⟩), ([x215, x245] : List Int).length, hx.symm, m0, h253, h254, bx13, R, R⟩) (Sub.rf R)
    exact E.cF R hc (E.skip (X.blkN (X.seqN (E.reg (L.bi Y R R R R (L.mv Y R R (L.nil (X.sub (ih233 _ (oi hm).symm _ _ ⟨s248, m0, h38, h37, h24, h25, h26, h27, h28, h29, h30, h31, h32, h33, h34, h35, h36, bx13, bx23, R, R⟩) (Sub.rf R)))))))))
   refine E.cF R hc (E.exit (X.seqX (X.seqX ?_)))
   have hx := ho233 _ (oi hm).symm
   exact X.sub (K241 _ _ ⟨s238, (), hx.symm, m0, h37, h24, h25, h26, h27, h28, h29, h30, h31, h32, h33, h34, h35, h36, h38, bx13, bx23, R, R⟩) (Sub.rf R)
  refine E.cF R hc (E.exit (X.seqX (X.seqX ?_)))
  have hx := ho203 _ (oi hm).symm
  exact X.sub (K211 _ _ ⟨s208, (), hx.symm, m0, h24, h25, h26, h27, h28, h29, h30, h31, h32, h33, h34, h35, h36, h37, h38, bx13, bx23, R, R⟩) (Sub.rf R)
 refine E.cF R hc (E.exit (X.seqX (X.seqX ?_)))
 have hx := ho143 _ (oi hm).symm
 exact X.sub (K153 _ _ ⟨s148, (), hx.symm, m0, bx13, R, R⟩) (Sub.rf R)

noncomputable def m_scan_Restricted (p0 : AutT × AutT × List Int) (p1 : List Int) : Option (AutT × Int) :=
 (m_scan_with p0 p1).bind fun r18 =>
 if (r18.2 != 0) then
  some ((([] : List Int), 0, ([] : List Int), ([] : List (Int × Int × Int))), r18.2)
 else
  r18.1.bind fun x24 =>
  (m_scan_task_restricted x24 p1).bind fun r41 =>
  some (r41.1, 0)
theorem m_scan_Restricted_c {s : Sig} {p0 : AutT × AutT × List Int} {p1 : List Int} {a1 : Option Addr} {c1 : Nat} {a2 : Option Addr} {c2 : Nat} {a3 : Option Addr} {c3 : Nat} {a4 : Option Addr} {c4 : Nat} {a5 : Option Addr} {c5 : Nat} {a6 : Option Addr} {c6 : Nat} {a7 : Option Addr} {c7 : Nat} {a8 : Option Addr} {c8 : Nat} {r : AutT × Int} (h1 : RdL qI s a1 c1 p0.1.1) (h2 : RdL qI s a2 c2 p0.1.2.2.1) (h3 : RdL qT s a3 c3 p0.1.2.2.2) (h4 : RdL qI s a4 c4 p0.2.1.1) (h5 : RdL qI s a5 c5 p0.2.1.2.2.1) (h6 : RdL qT s a6 c6 p0.2.1.2.2.2) (h7 : RdL qI s a7 c7 p0.2.2) (h8 : RdL qI s a8 c8 p1) (hm : m_scan_Restricted p0 p1 = some r) :
    Calls Tryz.prog 19 #[.agg #[.slice a1 p0.1.1.length c1, .int .i64 p0.1.2.1, .slice a2 p0.1.2.2.1.length c2, .slice a3 p0.1.2.2.2.length c3, .slice a4 p0.2.1.1.length c4, .int .i64 p0.2.1.2.1, .slice a5 p0.2.1.2.2.1.length c5, .slice a6 p0.2.1.2.2.2.length c6, .slice a7 p0.2.2.length c7], .slice a8 p1.length c8] s.w (RetS No s fun v s' => ∃ (a9 : Option Addr) (c9 : Nat) (a10 : Option Addr) (c10 : Nat) (a11 : Option Addr) (c11 : Nat), v = .tuple #[.agg #[.slice a9 r.1.1.length c9, .int .i64 r.1.2.1, .slice a10 r.1.2.2.1.length c10, .slice a11 r.1.2.2.2.length c11], .int .i64 r.2] ∧ RdL qI s' a9 c9 r.1.1 ∧ RdL qI s' a10 c10 r.1.2.2.1 ∧ RdL qT s' a11 c11 r.1.2.2.2) := by
 unfold m_scan_Restricted at hm
 obtain ⟨N, hN, hNb⟩ := s.fresh
 have m0 : Mv (Up N No) s s := Mv.refl _ _
 refine E.entry Tryz.func19 R Tryz.ntmps19 R R (ER (L.box (N + 0) Y R R R fun b12 s13 m14 bx12 => ?_))
 refine L.al (N + 1) zz25 R Y R fun b15 s16 m17 bx15 => ?_
 replace h8 := (h8.mono m14.z).mono m17.z
 replace bx12 := bx12.mv m17 no_No
 replace h1 := (h1.mono m14.z).mono m17.z
 replace h2 := (h2.mono m14.z).mono m17.z
 replace h3 := (h3.mono m14.z).mono m17.z
 replace h4 := (h4.mono m14.z).mono m17.z
 replace h5 := (h5.mono m14.z).mono m17.z
 replace h6 := (h6.mono m14.z).mono m17.z
 replace h7 := (h7.mono m14.z).mono m17.z
 refine L.as Y R R (LN (ER (L.lg (j := 0) (cs := [.slice a1 p0.1.1.length c1, .int .i64 p0.1.2.1, .slice a2 p0.1.2.2.1.length c2, .slice a3 p0.1.2.2.2.length c3, .slice a4 p0.2.1.1.length c4, .int .i64 p0.2.1.2.1, .slice a5 p0.2.1.2.2.1.length c5, .slice a6 p0.2.1.2.2.2.length c6, .slice a7 p0.2.2.length c7]) bx12.mem ag27 Y R R R R R (L.mv Y R R ?_))))
 obtain ⟨r18, er18, hm⟩ := bindS hm
 refine L.ca cf61 R R Y R (m_scan_with_c (s := s16) (p0 := p0) (p1 := p1) h1 h2 h3 h4 h5 h6 h7 h8 er18) R ?_
 rintro _ s19 m20 ⟨v21, rfl, h21⟩
 replace m0 := ((m0.trans m14.no).trans m17.no).trans m20.no
 replace h8 := h8.mono m20.z
 replace bx15 := bx15.mv m20 no_No
 refine L.mv Y R R (L.ex Y R R R (L.ex Y R R R (L.as Y R R (L.as Y R R (LN (E.seq (ER (L.mv Y R R (L.bi Y R R R R (L.nil (X.seqN ?_)))))))))))
 rcases ifS hm with ⟨hc, hm⟩ | ⟨hc, hm⟩
 ·refine E.cT R hc (ER (L.bu (cs := [.slice none 0 0, .int .i64 0, .slice none 0 0, .slice none 0 0]) pl25 Y R R R (L.mv Y R R (L.st (c := [.slice none 0 0, .int .i64 0, .slice none 0 0, .slice none 0 0]) (cs' := #[.slice none 0 0, .int .i64 0, .slice none 0 0, .slice none 0 0]) bx15 ag25.sz Y R R R R R (nb R) R fun s22 m23 bx15 => ?_))))
  replace m0 := m0.trans (m23.one up)
  refine L.as Y R R (LN (E.ret (X.seqR ?_)))
  obtain rfl := oi hm
  exact X.rt (.inl R) Tryz.results19 (Rs.cell R bx15 ag25 R (Rs.tmp R Rs.nil)) R ⟨_, (s22).ren N (fun _ => 0), R, R, m0.ren hNb, ⟨none, 0, none, 0, none, 0, R, RdL.nil, RdL.nil, RdL.nil⟩⟩
 refine E.cF R hc (E.skip (X.seqN (ER (L.mv Y R R (L.mv Y R R ?_)))))
 obtain ⟨x24, ex24, hm⟩ := bindS hm
 obtain ⟨b25, ds25, rfl, bx25, rd25⟩ := h21.some ex24
 obtain ⟨_, _, rfl, ⟨_, _, rfl, ⟨_, _, rfl, ⟨a26, c26, rfl, h26⟩, ⟨_, _, rfl, rfl, ⟨_, _, rfl, ⟨a27, c27, rfl, h27⟩, ⟨a28, c28, rfl, h28⟩⟩⟩⟩, ⟨y29, c29, rfl, h29⟩⟩, ⟨_, _, rfl, ⟨_, _, rfl, ⟨_, _, rfl, ⟨a30, c30, rfl, h30⟩, ⟨_, _, rfl, rfl, ⟨_, _, rfl, ⟨a31, c31, rfl, h31⟩, ⟨a32, c32, rfl, h32⟩⟩⟩⟩, ⟨y33, c33, rfl, h33⟩⟩, ⟨_, _, rfl, ⟨_, _, rfl, ⟨_, _, rfl, ⟨a34, c34, rfl, h34⟩, ⟨_, _, rfl, rfl, ⟨_, _, rfl, ⟨a35, c35, rfl, h35⟩, ⟨a36, c36, rfl, h36⟩⟩⟩⟩, ⟨y37, c37, rfl, h37⟩⟩, ⟨_, _, rfl, ⟨a38, c38, rfl, h38⟩, ⟨_, _, rfl, ⟨a39, c39, rfl, h39⟩, ⟨a40, c40, rfl, h40⟩⟩⟩⟩⟩⟩ := rd25
 replace bx25 : Bx s19 0 b25 #[.slice a26 x24.1.1.1.length c26, .int .i64 x24.1.1.2.1, .slice a27 x24.1.1.2.2.1.length c27, .slice a28 x24.1.1.2.2.2.length c28, .map y29, .slice a30 x24.2.1.1.1.length c30, .int .i64 x24.2.1.1.2.1, .slice a31 x24.2.1.1.2.2.1.length c31, .slice a32 x24.2.1.1.2.2.2.length c32, .map y33, .slice a34 x24.2.2.1.1.1.length c34, .int .i64 x24.2.2.1.1.2.1, .slice a35 x24.2.2.1.1.2.2.1.length c35, .slice a36 x24.2.2.1.1.2.2.2.length c36, .map y37, .slice a38 x24.2.2.2.1.length c38, .slice a39 x24.2.2.2.2.1.length c39, .slice a40 x24.2.2.2.2.2.length c40] 110 := bx25
 obtain ⟨r41, er41, hm⟩ := bindS hm
 refine L.ca cf62 R R Y R (m_scan_task_restricted_c (s := s19) (p0 := x24) (p1 := p1) h26 h27 h28 h29 h30 h31 h32 h33 h34 h35 h36 h37 h38 h39 h40 bx25 h8 er41) R ?_
 rintro _ s42 m43 ⟨a44, c44, a45, c45, a46, c46, y47, c47, rfl, h44, h45, h46, h47⟩
 replace bx15 := bx15.mv m43 no_No
 refine L.flg (cs := [.slice a44 r41.1.1.length c44, .int .i64 r41.1.2.1, .slice a45 r41.1.2.2.1.length c45, .slice a46 r41.1.2.2.2.length c46, .map y47]) (o := 0) (vs := [.slice a44 r41.1.1.length c44, .int .i64 r41.1.2.1, .slice a45 r41.1.2.2.1.length c45, .slice a46 r41.1.2.2.2.length c46]) Tryz.underlying108 R R ag25 Y R R R (L.st (c := [.slice a44 r41.1.1.length c44, .int .i64 r41.1.2.1, .slice a45 r41.1.2.2.1.length c45, .slice a46 r41.1.2.2.2.length c46]) (cs' := #[.slice a44 r41.1.1.length c44, .int .i64 r41.1.2.1, .slice a45 r41.1.2.2.1.length c45, .slice a46 r41.1.2.2.2.length c46]) bx15 ag25.sz Y R R R R R (nb R) R fun s48 m49 bx15 => ?_)
 replace m0 := (m0.trans m43.no).trans (m49.one up)
 replace h44 := h44.mono (m49.le (tg0 hN))
 replace h45 := h45.mono (m49.le (tg0 hN))
 replace h46 := h46.mono (m49.le (tg0 hN))
 refine L.as Y R R (LN (E.ret ?_))
 obtain rfl := oi hm
 exact X.rt (.inl R) Tryz.results19 (Rs.cell R bx15 ag25 R (Rs.tmp R Rs.nil)) R ⟨_, (s48).ren N (fun _ => 0), R, R, m0.ren hNb, ⟨a44, c44, a45, c45, a46, c46, R, (h44.ren hN), (h45.ren hN), (h46.ren hN)⟩⟩

end Go.Proofs.YtidakgbibobbdaaGreatDoor

namespace Go.Proofs.YtidakgbibobbdaaGreatDoor
open Go Go.RowKit
noncomputable def m_scan_graph_after_l1 (p0 : AutT × (List ((Int × Int) × Int))) (p1 : List Int) (st18 : Int × Int) : Option ((Int × Int) ⊕ (Int ⊕ Unit)) :=
 if decide (st18.1 < (p1.length : Int)) then
  (idx p1 st18.1).bind fun x27 =>
  (m_scan_graph_to p0 st18.2 x27).bind fun r29 =>
  if (r29 == (-1)) then
   some (.inr (.inr (())))
  else
   some (.inl (W (st18.1 + 1), r29))
 else
  some (.inr (.inl st18.2))
noncomputable def m_scan_graph_after (p0 : AutT × (List ((Int × Int) × Int))) (p1 : List Int) : Option Int :=
 if (p0.1.2.1 == 0) then
  some (-1)
 else
  (iter (m_scan_graph_after_l1 p0 p1) (0, 0)).bind fun o18 =>
  match o18 with
  | .inl u21 =>
   some u21
  | .inr (u24) =>
   some (-1)
theorem m_scan_graph_after_c {s : Sig} {p0 : AutT × (List ((Int × Int) × Int))} {p1 : List Int} {a1 : Option Addr} {c1 : Nat} {a2 : Option Addr} {c2 : Nat} {a3 : Option Addr} {c3 : Nat} {y4 : Option Nat} {c4 : Nat} {a5 : Option Addr} {c5 : Nat} {r : Int} (h1 : RdL qI s a1 c1 p0.1.1) (h2 : RdL qI s a2 c2 p0.1.2.2.1) (h3 : RdL qT s a3 c3 p0.1.2.2.2) (h4 : MapD kvP qI s y4 c4 p0.2) (h5 : RdL qI s a5 c5 p1) (hm : m_scan_graph_after p0 p1 = some r) :
    Calls Tryz.prog 65 #[.agg #[.slice a1 p0.1.1.length c1, .int .i64 p0.1.2.1, .slice a2 p0.1.2.2.1.length c2, .slice a3 p0.1.2.2.2.length c3, .map y4], .slice a5 p1.length c5] s.w (RetS No s fun v s' => v = .int .i64 r) := by
 unfold m_scan_graph_after at hm
 obtain ⟨N, hN, hNb⟩ := s.fresh
 have m0 : Mv (Up N No) s s := Mv.refl _ _
 refine E.entry Tryz.func65 R Tryz.ntmps65 R R (ER (L.box (N + 0) Y R R R fun b6 s7 m8 bx6 => ?_))
 replace m0 := m0.trans m8.no
 replace h5 := h5.mono m8.z
 replace h1 := h1.mono m8.z
 replace h2 := h2.mono m8.z
 replace h3 := h3.mono m8.z
 replace h4 := h4.mono m8.z
 refine L.as Y R R (LN (E.seq (ER (L.fa fa108_0 Y R R (L.fa fa25_1 Y R R (L.ld (j := 1) bx6.mem nag3 Y R R R R (L.bi Y R R R R (L.nil (X.seqN ?_)))))))))
 rcases ifS hm with ⟨hc, hm⟩ | ⟨hc, hm⟩
 ·refine E.cT R hc (ER (L.as Y R R (LN (E.ret (X.seqR ?_)))))
  obtain rfl := oi hm
  exact X.rt (.inl R) Tryz.results65 (Rs.tmp R Rs.nil) R ⟨_, (s7).ren N (fun _ => 0), R, R, m0.ren hNb, R⟩
 refine E.cF R hc (E.skip (X.seqN (ER (L.as Y R R (LN (E.seq (ER (L.mv Y R R (L.len sl22 Y R R (L.mv Y R R (LN (E.block ?_))))))))))))
 obtain ⟨o18, eo18, hm⟩ := bindS hm
 refine E.cut (x := .exit 0) (fun e w => ∃ (s22 : Sig) (u21 : Int), o18 = .inl u21 ∧ Mv (Up N No) s s22 ∧ e = [(5, .int .i64 u21)] ∧ w = s22.w) ?_ ?_
 ·rintro _ _ ⟨s22, u21, rfl, m0, rfl, rfl⟩
  dsimp only at hm
  refine X.blkE (X.seqN (ER (L.mv Y R R (L.as Y R R (LN (E.ret ?_))))))
  obtain rfl := oi hm
  exact X.rt (.inl R) Tryz.results65 (Rs.tmp R Rs.nil) R ⟨_, (s22).ren N (fun _ => 0), R, R, m0.ren hNb, R⟩
 intro K23
 refine E.cut (x := .ret) (fun e w => ∃ (s25 : Sig) (u24 : Unit), o18 = .inr (u24) ∧ Mv (Up N No) s s25 ∧ e = [(4, .int .i64 (-1))] ∧ w = s25.w) ?_ ?_
 ·rintro _ _ ⟨s25, u24, rfl, m0, rfl, rfl⟩
  dsimp only at hm
  refine X.blkR (X.seqR ?_)
  obtain rfl := oi hm
  exact X.rt (.inl R) Tryz.results65 (Rs.tmp R Rs.nil) R ⟨_, (s25).ren N (fun _ => 0), R, R, m0.ren hNb, R⟩
 intro K26
 refine E.iter (fun (st18 : Int × Int) (e : List (Nat × Value)) (w : World) => ∃ (s20 : Sig), Mv (Up N No) s s20 ∧ RdL qI s20 a5 c5 p1 ∧ RdL qI s20 a1 c1 p0.1.1 ∧ RdL qI s20 a2 c2 p0.1.2.2.1 ∧ RdL qT s20 a3 c3 p0.1.2.2.2 ∧ MapD kvP qI s20 y4 c4 p0.2 ∧ Bx s20 (N + 0) b6 #[.slice a1 p0.1.1.length c1, .int .i64 p0.1.2.1, .slice a2 p0.1.2.2.1.length c2, .slice a3 p0.1.2.2.2.length c3, .map y4] 108 ∧ e = [(14, .int .i64 st18.1), (13, .int .i64 (p1.length : Int)), (12, .slice a5 p1.length c5), (5, .int .i64 st18.2), (2, .pointer (some ⟨b6, 0, none⟩))] ∧ w = s20.w) eo18 ⟨s7, m0, h5, h1, h2, h3, h4, bx6, R, R⟩ (Sub.rf R) ?_
 rintro st18 res18 hm ih18 ho18 _ _ ⟨s20, m0, h5, h1, h2, h3, h4, bx6, rfl, rfl⟩
 unfold m_scan_graph_after_l1 at hm
 refine ER (L.bi Y R R R R (LN (E.seq ?_)))
 rcases ifS hm with ⟨hc, hm⟩ | ⟨hc, hm⟩
 ·refine E.cT R hc (E.skip (X.seqN (E.seq (E.block (E.seq (E.reg ?_))))))
  obtain ⟨x27, ex27, hm⟩ := bindS hm
  refine L.ix (r := qI) sl22 h5 Y R R ex27 R fun b28 o28 cc28 me28 rd28 => ?_
  obtain rfl := rd28
  refine L.ld (j := 0) me28 nag3 Y R R R R (L.as Y R R (LN (ER (L.lg (j := 0) (cs := [.slice a1 p0.1.1.length c1, .int .i64 p0.1.2.1, .slice a2 p0.1.2.2.1.length c2, .slice a3 p0.1.2.2.2.length c3, .map y4]) bx6.mem ag108 Y R R R R R (L.mv Y R R (L.mv Y R R ?_))))))
  obtain ⟨r29, er29, hm⟩ := bindS hm
  refine L.ca cf106 R R Y R (m_scan_graph_to_c (s := s20) (p0 := p0) (p1 := st18.2) (p2 := x27) h1 h2 h3 h4 er29) R ?_
  rintro _ s30 m31 rfl
  replace m0 := m0.trans m31.no
  replace h5 := h5.mono m31.z
  replace bx6 := bx6.mv m31 no_No
  replace h1 := h1.mono m31.z
  replace h2 := h2.mono m31.z
  replace h3 := h3.mono m31.z
  replace h4 := h4.mono m31.z
  refine L.as Y R R (LN (ER (L.mv Y R R (L.bi Y R R R R (L.nil (X.seqN ?_))))))
  rcases ifS hm with ⟨hc, hm⟩ | ⟨hc, hm⟩
  ·refine E.cT R hc (ER (L.as Y R R (LN (E.ret (X.blkR (X.seqR (X.seqR ?_)))))))
   have hx := ho18 _ (oi hm).symm
   exact X.sub (K26 _ _ ⟨s30, (), hx.symm, m0, R, R⟩) (Sub.rf R)
  exact E.cF R hc (E.skip (X.blkN (X.seqN (E.reg (L.bi Y R R R R (L.mv Y R R (L.nil (X.sub (ih18 _ (oi hm).symm _ _ ⟨s30, m0, h5, h1, h2, h3, h4, bx6, R, R⟩) (Sub.rf R)))))))))
 refine E.cF R hc (E.exit (X.seqX (X.seqX ?_)))
 have hx := ho18 _ (oi hm).symm
 exact X.sub (K23 _ _ ⟨s20, st18.2, hx.symm, m0, R, R⟩) (Sub.rf R)

theorem cf65 : Cf Tryz.prog 65 := Cf.mk Tryz.func65 (by kernel_rfl) (by kernel_rfl)
noncomputable def m_scan_Chosen (p0 : AutT × AutT × List Int) (p1 : List Int) (p2 : List Int) : Option (Int × Bool × Int) :=
 (m_scan_with p0 p1).bind fun r13 =>
 if (r13.2 != 0) then
  some (0, false, r13.2)
 else
  r13.1.bind fun x17 =>
  (m_scan_graph_after x17.2.2.1 p2).bind fun r34 =>
  if (r34 == (-1)) then
   some (0, false, 10)
  else
   (m_scan_task_chosen x17 r34 p1).bind fun r37 =>
   if (r37 == (-1)) then
    some (0, false, 0)
   else
    some (r37, true, 0)
theorem m_scan_Chosen_c {s : Sig} {p0 : AutT × AutT × List Int} {p1 : List Int} {p2 : List Int} {a1 : Option Addr} {c1 : Nat} {a2 : Option Addr} {c2 : Nat} {a3 : Option Addr} {c3 : Nat} {a4 : Option Addr} {c4 : Nat} {a5 : Option Addr} {c5 : Nat} {a6 : Option Addr} {c6 : Nat} {a7 : Option Addr} {c7 : Nat} {a8 : Option Addr} {c8 : Nat} {a9 : Option Addr} {c9 : Nat} {r : Int × Bool × Int} (h1 : RdL qI s a1 c1 p0.1.1) (h2 : RdL qI s a2 c2 p0.1.2.2.1) (h3 : RdL qT s a3 c3 p0.1.2.2.2) (h4 : RdL qI s a4 c4 p0.2.1.1) (h5 : RdL qI s a5 c5 p0.2.1.2.2.1) (h6 : RdL qT s a6 c6 p0.2.1.2.2.2) (h7 : RdL qI s a7 c7 p0.2.2) (h8 : RdL qI s a8 c8 p1) (h9 : RdL qI s a9 c9 p2) (hm : m_scan_Chosen p0 p1 p2 = some r) :
    Calls Tryz.prog 20 #[.agg #[.slice a1 p0.1.1.length c1, .int .i64 p0.1.2.1, .slice a2 p0.1.2.2.1.length c2, .slice a3 p0.1.2.2.2.length c3, .slice a4 p0.2.1.1.length c4, .int .i64 p0.2.1.2.1, .slice a5 p0.2.1.2.2.1.length c5, .slice a6 p0.2.1.2.2.2.length c6, .slice a7 p0.2.2.length c7], .slice a8 p1.length c8, .slice a9 p2.length c9] s.w (RetS No s fun v s' => v = .tuple #[.int .i64 r.1, .bool r.2.1, .int .i64 r.2.2]) := by
 unfold m_scan_Chosen at hm
 obtain ⟨N, hN, hNb⟩ := s.fresh
 have m0 : Mv (Up N No) s s := Mv.refl _ _
 refine E.entry Tryz.func20 R Tryz.ntmps20 R R (ER (L.box (N + 0) Y R R R fun b10 s11 m12 bx10 => ?_))
 replace h8 := h8.mono m12.z
 replace h1 := h1.mono m12.z
 replace h2 := h2.mono m12.z
 replace h3 := h3.mono m12.z
 replace h4 := h4.mono m12.z
 replace h5 := h5.mono m12.z
 replace h6 := h6.mono m12.z
 replace h7 := h7.mono m12.z
 refine L.as Y R R (L.as Y R R (L.as Y R R (LN (ER (L.lg (j := 0) (cs := [.slice a1 p0.1.1.length c1, .int .i64 p0.1.2.1, .slice a2 p0.1.2.2.1.length c2, .slice a3 p0.1.2.2.2.length c3, .slice a4 p0.2.1.1.length c4, .int .i64 p0.2.1.2.1, .slice a5 p0.2.1.2.2.1.length c5, .slice a6 p0.2.1.2.2.2.length c6, .slice a7 p0.2.2.length c7]) bx10.mem ag27 Y R R R R R (L.mv Y R R ?_))))))
 obtain ⟨r13, er13, hm⟩ := bindS hm
 refine L.ca cf61 R R Y R (m_scan_with_c (s := s11) (p0 := p0) (p1 := p1) h1 h2 h3 h4 h5 h6 h7 h8 er13) R ?_
 rintro _ s14 m15 ⟨v16, rfl, h16⟩
 replace m0 := (m0.trans m12.no).trans m15.no
 replace h9 := (h9.mono m12.z).mono m15.z
 refine L.mv Y R R (L.ex Y R R R (L.ex Y R R R (L.as Y R R (L.as Y R R (LN (E.seq (ER (L.mv Y R R (L.bi Y R R R R (L.nil (X.seqN ?_)))))))))))
 rcases ifS hm with ⟨hc, hm⟩ | ⟨hc, hm⟩
 ·refine E.cT R hc (ER (L.mv Y R R (L.as Y R R (L.as Y R R (L.as Y R R (LN (E.ret (X.seqR ?_))))))))
  obtain rfl := oi hm
  exact X.rt (.inl R) Tryz.results20 (Rs.tmp R (Rs.tmp R (Rs.tmp R Rs.nil))) R ⟨_, (s14).ren N (fun _ => 0), R, R, m0.ren hNb, R⟩
 refine E.cF R hc (E.skip (X.seqN (ER (L.mv Y R R ?_))))
 obtain ⟨x17, ex17, hm⟩ := bindS hm
 obtain ⟨b18, ds18, rfl, bx18, rd18⟩ := h16.some ex17
 obtain ⟨_, _, rfl, ⟨_, _, rfl, ⟨_, _, rfl, ⟨a19, c19, rfl, h19⟩, ⟨_, _, rfl, rfl, ⟨_, _, rfl, ⟨a20, c20, rfl, h20⟩, ⟨a21, c21, rfl, h21⟩⟩⟩⟩, ⟨y22, c22, rfl, h22⟩⟩, ⟨_, _, rfl, ⟨_, _, rfl, ⟨_, _, rfl, ⟨a23, c23, rfl, h23⟩, ⟨_, _, rfl, rfl, ⟨_, _, rfl, ⟨a24, c24, rfl, h24⟩, ⟨a25, c25, rfl, h25⟩⟩⟩⟩, ⟨y26, c26, rfl, h26⟩⟩, ⟨_, _, rfl, ⟨_, _, rfl, ⟨_, _, rfl, ⟨a27, c27, rfl, h27⟩, ⟨_, _, rfl, rfl, ⟨_, _, rfl, ⟨a28, c28, rfl, h28⟩, ⟨a29, c29, rfl, h29⟩⟩⟩⟩, ⟨y30, c30, rfl, h30⟩⟩, ⟨_, _, rfl, ⟨a31, c31, rfl, h31⟩, ⟨_, _, rfl, ⟨a32, c32, rfl, h32⟩, ⟨a33, c33, rfl, h33⟩⟩⟩⟩⟩⟩ := rd18
 replace bx18 : Bx s14 0 b18 #[.slice a19 x17.1.1.1.length c19, .int .i64 x17.1.1.2.1, .slice a20 x17.1.1.2.2.1.length c20, .slice a21 x17.1.1.2.2.2.length c21, .map y22, .slice a23 x17.2.1.1.1.length c23, .int .i64 x17.2.1.1.2.1, .slice a24 x17.2.1.1.2.2.1.length c24, .slice a25 x17.2.1.1.2.2.2.length c25, .map y26, .slice a27 x17.2.2.1.1.1.length c27, .int .i64 x17.2.2.1.1.2.1, .slice a28 x17.2.2.1.1.2.2.1.length c28, .slice a29 x17.2.2.1.1.2.2.2.length c29, .map y30, .slice a31 x17.2.2.2.1.length c31, .slice a32 x17.2.2.2.2.1.length c32, .slice a33 x17.2.2.2.2.2.length c33] 110 := bx18
 refine L.nc Y R R (L.fa fa110_2 Y R R (L.lg (j := 10) (cs := [.slice a27 x17.2.2.1.1.1.length c27, .int .i64 x17.2.2.1.1.2.1, .slice a28 x17.2.2.1.1.2.2.1.length c28, .slice a29 x17.2.2.1.1.2.2.2.length c29, .map y30]) bx18.mem ag108 Y R R R R R (L.mv Y R R ?_)))
 obtain ⟨r34, er34, hm⟩ := bindS hm
 refine L.ca cf65 R R Y R (m_scan_graph_after_c (s := s14) (p0 := x17.2.2.1) (p1 := p2) h27 h28 h29 h30 h9 er34) R ?_
 rintro _ s35 m36 rfl
 replace m0 := m0.trans m36.no
 replace h8 := (h8.mono m15.z).mono m36.z
 replace bx18 := bx18.mv m36 no_No
 replace h19 := h19.mono m36.z
 replace h20 := h20.mono m36.z
 replace h21 := h21.mono m36.z
 replace h22 := h22.mono m36.z
 replace h23 := h23.mono m36.z
 replace h24 := h24.mono m36.z
 replace h25 := h25.mono m36.z
 replace h26 := h26.mono m36.z
 replace h27 := h27.mono m36.z
 replace h28 := h28.mono m36.z
 replace h29 := h29.mono m36.z
 replace h30 := h30.mono m36.z
 replace h31 := h31.mono m36.z
 replace h32 := h32.mono m36.z
 replace h33 := h33.mono m36.z
 refine L.as Y R R (LN (E.seq (ER (L.mv Y R R (L.bi Y R R R R (L.nil (X.seqN ?_)))))))
 rcases ifS hm with ⟨hc, hm⟩ | ⟨hc, hm⟩
 ·refine E.cT R hc (ER (L.as Y R R (L.as Y R R (L.as Y R R (LN (E.ret (X.seqR ?_)))))))
  obtain rfl := oi hm
  exact X.rt (.inl R) Tryz.results20 (Rs.tmp R (Rs.tmp R (Rs.tmp R Rs.nil))) R ⟨_, (s35).ren N (fun _ => 0), R, R, m0.ren hNb, R⟩
 refine E.cF R hc (E.skip (X.seqN (E.seq (ER (L.mv Y R R (L.mv Y R R (L.mv Y R R ?_)))))))
 obtain ⟨r37, er37, hm⟩ := bindS hm
 refine L.ca cf66 R R Y R (m_scan_task_chosen_c (s := s35) (p0 := x17) (p1 := r34) (p2 := p1) h19 h20 h21 h22 h23 h24 h25 h26 h27 h28 h29 h30 h31 h32 h33 bx18 h8 er37) R ?_
 rintro _ s38 m39 rfl
 replace m0 := m0.trans m39.no
 refine L.as Y R R (LN (ER (L.mv Y R R (L.bi Y R R R R (L.nil (X.seqN ?_))))))
 rcases ifS hm with ⟨hc, hm⟩ | ⟨hc, hm⟩
 ·refine E.cT R hc (ER (L.as Y R R (L.as Y R R (L.as Y R R (LN (E.ret (X.seqR ?_)))))))
  obtain rfl := oi hm
  exact X.rt (.inl R) Tryz.results20 (Rs.tmp R (Rs.tmp R (Rs.tmp R Rs.nil))) R ⟨_, (s38).ren N (fun _ => 0), R, R, m0.ren hNb, R⟩
 refine E.cF R hc (E.skip (X.seqN (ER (L.mv Y R R (L.as Y R R (L.as Y R R (L.as Y R R (LN (E.ret ?_)))))))))
 obtain rfl := oi hm
 exact X.rt (.inl R) Tryz.results20 (Rs.tmp R (Rs.tmp R (Rs.tmp R Rs.nil))) R ⟨_, (s38).ren N (fun _ => 0), R, R, m0.ren hNb, R⟩

noncomputable def m_scan_task_burst_1 (q0 : List Int) (p0 : List Int) : Option Bool :=
 (m_slices_Equal_int p0 q0).bind fun r4 =>
 some r4
theorem m_scan_task_burst_1_c {s : Sig} {q0 : List Int} {p0 : List Int} {a1 : Option Addr} {c1 : Nat} {a2 : Option Addr} {c2 : Nat} {b3 : Nat} {r : Bool} (h1 : RdL qI s a1 c1 p0) (h2 : RdL qI s a2 c2 q0) (bx3 : Bx s 0 b3 #[.slice a2 q0.length c2] 22) (hm : m_scan_task_burst_1 q0 p0 = some r) :
    Calls Tryz.prog 117 #[.slice a1 p0.length c1, .pointer (some ⟨b3, 0, none⟩)] s.w (RetS No s fun v s' => v = .bool r) := by
 unfold m_scan_task_burst_1 at hm
 obtain ⟨N, hN, hNb⟩ := s.fresh
 have m0 : Mv (Up N No) s s := Mv.refl _ _
 refine E.entry Tryz.func117 R Tryz.ntmps117 R R (ER (L.as Y R R (LN (ER (L.mv Y R R (L.ld (j := 0) bx3.mem nag22 Y R R R R ?_))))))
 obtain ⟨r4, er4, hm⟩ := bindS hm
 refine L.ca cf74 R R Y R (m_slices_Equal_int_c (s := s) (p0 := p0) (p1 := q0) h1 h2 er4) R ?_
 rintro _ s5 m6 rfl
 replace m0 := m0.trans m6.no
 refine L.as Y R R (LN (E.ret ?_))
 obtain rfl := oi hm
 exact X.rt (.inl R) Tryz.results117 (Rs.tmp R Rs.nil) R ⟨_, (s5).ren N (fun _ => 0), R, R, m0.ren hNb, R⟩

noncomputable def m_slices_IndexFunc_int_int_l1 (p0 : List (List Int)) (p1 : (List Int) → Option Bool) (st10 : Int) : Option (Int ⊕ (Unit ⊕ Int)) :=
 if decide (st10 < (p0.length : Int)) then
  (idx p0 st10).bind fun x19 =>
  (p1 x19).bind fun r22 =>
  if r22 then
   some (.inr (.inr (st10)))
  else
   some (.inl (W (st10 + 1)))
 else
  some (.inr (.inl ()))
noncomputable def m_slices_IndexFunc_int_int (p0 : List (List Int)) (p1 : (List Int) → Option Bool) : Option Int :=
 (iter (m_slices_IndexFunc_int_int_l1 p0 p1) 0).bind fun o10 =>
 match o10 with
 | .inl u13 =>
  some (-1)
 | .inr (u16) =>
  some u16
theorem m_slices_IndexFunc_int_int_c {s : Sig} {p0 : List (List Int)} {p1 : (List Int) → Option Bool} {a1 : Option Addr} {c1 : Nat} {vp1 : Value} {r : Int} (h1 : RdL (rL qI) s a1 c1 p0) (hp1 : FS1 Tryz.prog s vp1 (rL qI) (fun (r : Bool) => .bool r) p1) (hm : m_slices_IndexFunc_int_int p0 p1 = some r) :
    Calls Tryz.prog 149 #[.slice a1 p0.length c1, vp1] s.w (RetS No s fun v s' => v = .int .i64 r) := by
 unfold m_slices_IndexFunc_int_int at hm
 obtain ⟨N, hN, hNb⟩ := s.fresh
 have m0 : Mv (Up N No) s s := Mv.refl _ _
 refine E.entry Tryz.func149 R Tryz.ntmps149 R R (ER (L.as Y R R (LN (E.seq (ER (L.mv Y R R (L.len sl34 Y R R (L.mv Y R R (LN (E.block ?_))))))))))
 obtain ⟨o10, eo10, hm⟩ := bindS hm
 refine E.cut (x := .exit 0) (fun e w => ∃ (s14 : Sig) (u13 : Unit), o10 = .inl u13 ∧ Mv (Up N No) s s14 ∧ e = [] ∧ w = s14.w) ?_ ?_
 ·rintro _ _ ⟨s14, u13, rfl, m0, rfl, rfl⟩
  dsimp only at hm
  refine X.blkE (X.seqN (ER (L.as Y R R (LN (E.ret ?_)))))
  obtain rfl := oi hm
  exact X.rt (.inl R) Tryz.results149 (Rs.tmp R Rs.nil) R ⟨_, (s14).ren N (fun _ => 0), R, R, m0.ren hNb, R⟩
 intro K15
 refine E.cut (x := .ret) (fun e w => ∃ (s17 : Sig) (u16 : Int), o10 = .inr (u16) ∧ Mv (Up N No) s s17 ∧ e = [(4, .int .i64 u16)] ∧ w = s17.w) ?_ ?_
 ·rintro _ _ ⟨s17, u16, rfl, m0, rfl, rfl⟩
  dsimp only at hm
  refine X.blkR (X.seqR ?_)
  obtain rfl := oi hm
  exact X.rt (.inl R) Tryz.results149 (Rs.tmp R Rs.nil) R ⟨_, (s17).ren N (fun _ => 0), R, R, m0.ren hNb, R⟩
 intro K18
 refine E.iter (fun (st10 : Int) (e : List (Nat × Value)) (w : World) => ∃ (s12 : Sig), Mv (Up N No) s s12 ∧ RdL (rL qI) s12 a1 c1 p0 ∧ FS1 Tryz.prog s12 vp1 (rL qI) (fun (r : Bool) => .bool r) p1 ∧ e = [(8, .int .i64 st10), (7, .int .i64 (p0.length : Int)), (0, .slice a1 p0.length c1), (1, vp1)] ∧ w = s12.w) eo10 ⟨s, m0, h1, hp1, R, R⟩ (Sub.rf R) ?_
 rintro st10 res10 hm ih10 ho10 _ _ ⟨s12, m0, h1, hp1, rfl, rfl⟩
 unfold m_slices_IndexFunc_int_int_l1 at hm
 refine ER (L.bi Y R R R R (LN (E.seq ?_)))
 rcases ifS hm with ⟨hc, hm⟩ | ⟨hc, hm⟩
 ·refine E.cT R hc (E.skip (X.seqN (E.seq (E.block (ER (L.mv Y R R (L.as Y R R (LN (ER (L.mv Y R R (L.mv Y R R (L.mv Y R R ?_))))))))))))
  obtain ⟨x19, ex19, hm⟩ := bindS hm
  refine L.ix (r := (rL qI)) sl34 h1 Y R R ex19 R fun b20 o20 cc20 me20 rd20 => ?_
  obtain ⟨a21, c21, rfl, h21⟩ := rd20
  refine L.ld (j := 0) me20 nag22 Y R R R R ?_
  obtain ⟨r22, er22, hm⟩ := bindS hm
  refine L.fs1 (u := .slice a21 x19.length c21) (y := x19) hp1 ⟨_, _, R, h21⟩ R R Y R R er22 R fun s23 m24 => ?_
  replace m0 := m0.trans m24.no
  replace h1 := h1.mono m24.z
  replace hp1 := hp1.mono m24.z
  refine L.nil (X.seqN ?_)
  rcases ifS hm with ⟨hc, hm⟩ | ⟨hc, hm⟩
  ·refine E.cT R hc (ER (L.mv Y R R (L.as Y R R (LN (E.ret (X.blkR (X.seqR (X.seqR ?_))))))))
   have hx := ho10 _ (oi hm).symm
   exact X.sub (K18 _ _ ⟨s23, st10, hx.symm, m0, R, R⟩) (Sub.rf R)
  exact E.cF R hc (E.skip (X.blkN (X.seqN (E.reg (L.bi Y R R R R (L.mv Y R R (L.nil (X.sub (ih10 _ (oi hm).symm _ _ ⟨s23, m0, h1, hp1, R, R⟩) (Sub.rf R)))))))))
 refine E.cF R hc (E.exit (X.seqX (X.seqX ?_)))
 have hx := ho10 _ (oi hm).symm
 exact X.sub (K15 _ _ ⟨s12, (), hx.symm, m0, R, R⟩) Sub.nil

theorem cf149 : Cf Tryz.prog 149 := Cf.mk Tryz.func149 (by kernel_rfl) (by kernel_rfl)
noncomputable def m_slices_ContainsFunc_int_int (p0 : List (List Int)) (p1 : (List Int) → Option Bool) : Option Bool :=
 (m_slices_IndexFunc_int_int p0 p1).bind fun r2 =>
 some (decide (r2 ≥ 0))
theorem m_slices_ContainsFunc_int_int_c {s : Sig} {p0 : List (List Int)} {p1 : (List Int) → Option Bool} {a1 : Option Addr} {c1 : Nat} {vp1 : Value} {r : Bool} (h1 : RdL (rL qI) s a1 c1 p0) (hp1 : FS1 Tryz.prog s vp1 (rL qI) (fun (r : Bool) => .bool r) p1) (hm : m_slices_ContainsFunc_int_int p0 p1 = some r) :
    Calls Tryz.prog 116 #[.slice a1 p0.length c1, vp1] s.w (RetS No s fun v s' => v = .bool r) := by
 unfold m_slices_ContainsFunc_int_int at hm
 obtain ⟨N, hN, hNb⟩ := s.fresh
 have m0 : Mv (Up N No) s s := Mv.refl _ _
 refine E.entry Tryz.func116 R Tryz.ntmps116 R R (ER (L.as Y R R (LN (ER (L.mv Y R R (L.mv Y R R ?_))))))
 obtain ⟨r2, er2, hm⟩ := bindS hm
 refine L.ca cf149 R R Y R (m_slices_IndexFunc_int_int_c (s := s) (p0 := p0) (p1 := p1) h1 hp1 er2) R ?_
 rintro _ s3 m4 rfl
 replace m0 := m0.trans m4.no
 refine L.bi Y R R R R (L.as Y R R (LN (E.ret ?_)))
 obtain rfl := oi hm
 exact X.rt (.inl R) Tryz.results116 (Rs.tmp R Rs.nil) R ⟨_, (s3).ren N (fun _ => 0), R, R, m0.ren hNb, R⟩

theorem cf116 : Cf Tryz.prog 116 := Cf.mk Tryz.func116 (by kernel_rfl) (by kernel_rfl)
theorem cf117 : Cf Tryz.prog 117 := Cf.mk Tryz.func117 (by kernel_rfl) (by kernel_rfl)
noncomputable def m_scan_task_burst (p0 : (AutT × (List ((Int × Int) × Int))) × (AutT × (List ((Int × Int) × Int))) × (AutT × (List ((Int × Int) × Int))) × List (List Int) × List Int × List Int) (p1 : Int) (p2 : List Int) : Option Bool :=
 if ((decide ((p2.length : Int) < 2)) || (decide ((p2.length : Int) > 3))) then
  some false
 else
  (m_scan_task_bursts p0 p1 (p2.length : Int)).bind fun r22 =>
  (m_slices_ContainsFunc_int_int r22 (m_scan_task_burst_1 p2)).bind fun r28 =>
  some r28
theorem m_scan_task_burst_c {s : Sig} {p0 : (AutT × (List ((Int × Int) × Int))) × (AutT × (List ((Int × Int) × Int))) × (AutT × (List ((Int × Int) × Int))) × List (List Int) × List Int × List Int} {p1 : Int} {p2 : List Int} {t0 : Nat} {a1 : Option Addr} {c1 : Nat} {a2 : Option Addr} {c2 : Nat} {a3 : Option Addr} {c3 : Nat} {y4 : Option Nat} {c4 : Nat} {a5 : Option Addr} {c5 : Nat} {a6 : Option Addr} {c6 : Nat} {a7 : Option Addr} {c7 : Nat} {y8 : Option Nat} {c8 : Nat} {a9 : Option Addr} {c9 : Nat} {a10 : Option Addr} {c10 : Nat} {a11 : Option Addr} {c11 : Nat} {y12 : Option Nat} {c12 : Nat} {a13 : Option Addr} {c13 : Nat} {a14 : Option Addr} {c14 : Nat} {a15 : Option Addr} {c15 : Nat} {b16 : Nat} {a17 : Option Addr} {c17 : Nat} {r : Bool} (h1 : RdL qI s a1 c1 p0.1.1.1) (h2 : RdL qI s a2 c2 p0.1.1.2.2.1) (h3 : RdL qT s a3 c3 p0.1.1.2.2.2) (h4 : MapD kvP qI s y4 c4 p0.1.2) (h5 : RdL qI s a5 c5 p0.2.1.1.1) (h6 : RdL qI s a6 c6 p0.2.1.1.2.2.1) (h7 : RdL qT s a7 c7 p0.2.1.1.2.2.2) (h8 : MapD kvP qI s y8 c8 p0.2.1.2) (h9 : RdL qI s a9 c9 p0.2.2.1.1.1) (h10 : RdL qI s a10 c10 p0.2.2.1.1.2.2.1) (h11 : RdL qT s a11 c11 p0.2.2.1.1.2.2.2) (h12 : MapD kvP qI s y12 c12 p0.2.2.1.2) (h13 : RdL (rL qI) s a13 c13 p0.2.2.2.1) (h14 : RdL qI s a14 c14 p0.2.2.2.2.1) (h15 : RdL qI s a15 c15 p0.2.2.2.2.2) (bx16 : Bx s t0 b16 #[.slice a1 p0.1.1.1.length c1, .int .i64 p0.1.1.2.1, .slice a2 p0.1.1.2.2.1.length c2, .slice a3 p0.1.1.2.2.2.length c3, .map y4, .slice a5 p0.2.1.1.1.length c5, .int .i64 p0.2.1.1.2.1, .slice a6 p0.2.1.1.2.2.1.length c6, .slice a7 p0.2.1.1.2.2.2.length c7, .map y8, .slice a9 p0.2.2.1.1.1.length c9, .int .i64 p0.2.2.1.1.2.1, .slice a10 p0.2.2.1.1.2.2.1.length c10, .slice a11 p0.2.2.1.1.2.2.2.length c11, .map y12, .slice a13 p0.2.2.2.1.length c13, .slice a14 p0.2.2.2.2.1.length c14, .slice a15 p0.2.2.2.2.2.length c15] 110) (h17 : RdL qI s a17 c17 p2) (hm : m_scan_task_burst p0 p1 p2 = some r) :
    Calls Tryz.prog 67 #[.pointer (some ⟨b16, 0, none⟩), .int .i64 p1, .slice a17 p2.length c17] s.w (RetS No s fun v s' => v = .bool r) := by
 unfold m_scan_task_burst at hm
 obtain ⟨N, hN, hNb, lt0, -⟩ := s.freshL [t0]
 have m0 : Mv (Up N No) s s := Mv.refl _ _
 refine E.entry Tryz.func67 R Tryz.ntmps67 R R (ER (L.box (N + 0) Y R R R fun b18 s19 m20 bx18 => ?_))
 replace m0 := m0.trans m20.no
 replace bx16 := bx16.mv m20 no_No
 replace h1 := h1.mono m20.z
 replace h2 := h2.mono m20.z
 replace h3 := h3.mono m20.z
 replace h4 := h4.mono m20.z
 replace h5 := h5.mono m20.z
 replace h6 := h6.mono m20.z
 replace h7 := h7.mono m20.z
 replace h8 := h8.mono m20.z
 replace h9 := h9.mono m20.z
 replace h10 := h10.mono m20.z
 replace h11 := h11.mono m20.z
 replace h12 := h12.mono m20.z
 replace h13 := h13.mono m20.z
 replace h14 := h14.mono m20.z
 replace h15 := h15.mono m20.z
 replace h17 := h17.mono m20.z
 refine L.as Y R R (LN (E.seq (ER (L.ld (j := 0) bx18.mem nag22 Y R R R R (L.len sl22 Y R R (L.bi Y R R R R (L.mv Y R R (L.cut 4 (fun e w => ∃ (v21 : Bool), ((decide ((p2.length : Int) < 2)) || (decide ((p2.length : Int) > 3))) = v21 ∧ e = (14, .bool v21) :: [(5, .pointer (some ⟨b18, 0, none⟩)), (0, .pointer (some ⟨b16, 0, none⟩)), (1, .int .i64 p1)] ∧ w = s19.w) ?_ ?_))))))))
 ·rintro _ _ ⟨v21, rfl, rfl, rfl⟩
  refine L.nil (X.seqN ?_)
  rcases ifS hm with ⟨hc, hm⟩ | ⟨hc, hm⟩
  ·refine E.cT R hc (ER (L.as Y R R (LN (E.ret (X.seqR ?_)))))
   obtain rfl := oi hm
   exact X.rt (.inl R) Tryz.results67 (Rs.tmp R Rs.nil) R ⟨_, (s19).ren N (fun _ => 0), R, R, m0.ren hNb, R⟩
  refine E.cF R hc (E.skip (X.seqN (ER (L.mv Y R R (L.mv Y R R (L.ld (j := 0) bx18.mem nag22 Y R R R R (L.len sl22 Y R R ?_)))))))
  obtain ⟨r22, er22, hm⟩ := bindS hm
  refine L.ca cf57 R R Y R (m_scan_task_bursts_c (s := s19) (p0 := p0) (p1 := p1) (p2 := (p2.length : Int)) (t0 := t0) (u0 := 0) h1 h2 h3 h4 h5 h6 h7 h8 h9 h10 h11 h12 h13 h14 h15 bx16 er22) R ?_
  rintro _ s23 m24 ⟨a25, c25, rfl, h25⟩
  have m26 := Sig.fz_mv (N + 0) s23
  replace bx18 := (bx18.mv m24 no_No).fz (tgn hN)
  replace h25 := (h25.p).mono (m26.le (tg0 hN))
  replace h17 := (h17.mono m24.z).mono (m26.le (tg0 hN))
  refine L.toR (s' := (Sig.fz (N + 0) s23)) R ?_
  have h27 : FS1 Tryz.prog (Sig.fz (N + 0) s23) (.func (.func 117) #[] #[.pointer (some ⟨b18, 0, none⟩)]) (rL qI) (fun (r : Bool) => .bool r) (m_scan_task_burst_1 p2) := ⟨117, #[], #[.pointer (some ⟨b18, 0, none⟩)], rfl, cf117, fun x0 r hm s' hl cs hrd => by obtain ⟨_, _, rfl, hrd⟩ := hrd; have hh := m_scan_task_burst_1_c (s := s') hrd (h17.mono hl) (bx18.le hl) hm; simpa using hh⟩
  refine L.mf Y R R R ?_
  obtain ⟨r28, er28, hm⟩ := bindS hm
  refine L.ca cf116 R R Y R (m_slices_ContainsFunc_int_int_c (s := (Sig.fz (N + 0) s23)) (p0 := r22) (p1 := (m_scan_task_burst_1 p2)) h25 h27 er28) R ?_
  rintro _ s29 m30 rfl
  replace m0 := ((m0.trans m24.no).trans (m26.one up)).trans m30.no
  refine L.as Y R R (LN (E.ret ?_))
  obtain rfl := oi hm
  exact X.rt (.inl R) Tryz.results67 (Rs.tmp R Rs.nil) R ⟨_, (s29).ren N (fun _ => 0), R, R, m0.ren hNb, R⟩
 intro J31
 rcases Bool.eq_false_or_eq_true (decide ((p2.length : Int) < 2)) with hc | hc
 ·exact L.know (d := 10) R hc (L.skip R R R R (L.skip R R R R (L.skip R R R R (L.pkT Y R R R R (L.sb (J31 _ _ ⟨true, (orT hc).symm, R, R⟩) R)))))
 exact L.know (d := 10) R hc (L.ld (j := 0) bx18.mem nag22 (Wt.mk R R) R R R R (L.len sl22 (Wt.mk R R) R R (L.bi (Wt.mk R R) R R R R (L.pkF Y R R R R (L.sb (J31 _ _ ⟨(decide ((p2.length : Int) > 3)), (orF hc).symm, R, R⟩) R)))))

theorem cf67 : Cf Tryz.prog 67 := Cf.mk Tryz.func67 (by kernel_rfl) (by kernel_rfl)
noncomputable def m_scan_Verify_j1 (b50 : Bool) : Option Int :=
 if (!b50) then
  some 24
 else
  some 0
noncomputable def m_scan_Verify (p0 : AutT × AutT × List Int) (p1 : List Int) (p2 : Int × List Int × List Int) : Option Int :=
 (m_scan_with p0 p1).bind fun r17 =>
 if (r17.2 != 0) then
  some r17.2
 else
  r17.1.bind fun x21 =>
  (m_scan_graph_after x21.2.2.1 p2.2.1).bind fun r45 =>
  if (p2.1 == 1) then
   (if (r45 != (-1)) then
    (m_scan_task_burst x21 r45 p2.2.2).bind fun r64 =>
    some r64
   else
    some false).bind fun b53 =>
   (if b53 then
    (m_scan_task_ordered x21 r45 p2.2.2).bind fun r60 =>
    some (!r60)
   else
    some false).bind fun b56 =>
   m_scan_Verify_j1 b56
  else
   if (p2.1 == 2) then
    if (r45 != (-1)) then
     if ((p2.2.2.length : Int) == 2) then
      (idx p2.2.2 0).bind fun x85 =>
      (m_alphabet_Contains x21.2.2.2.2.1 x85).bind fun r89 =>
      if r89 then
       (idx p2.2.2 1).bind fun x102 =>
       (m_alphabet_Contains x21.2.2.2.2.2 x102).bind fun r106 =>
       if r106 then
        (idx p2.2.2 0).bind fun x117 =>
        (idx p2.2.2 1).bind fun x123 =>
        (m_scan_task_delayed x21 r45 x117 x123).bind fun r127 =>
        m_scan_Verify_j1 r127
       else
        m_scan_Verify_j1 false
      else
       m_scan_Verify_j1 false
     else
      m_scan_Verify_j1 false
    else
     m_scan_Verify_j1 false
   else
    if (p2.1 == 3) then
     (m_scan_task_restricted x21 p1).bind fun r250 =>
     (m_scan_graph_after r250 p2.2.1).bind fun r262 =>
     (if ((r262 != (-1)) && ((p2.2.2.length : Int) == 0)) then
      (m_scan_graph_live r250).bind fun r270 =>
      (idx r270 r262).bind fun x274 =>
      some (!x274)
     else
      some false).bind fun b266 =>
     m_scan_Verify_j1 b266
    else
     some 11
abbrev m_scan_Verify_w0 : List (List Nat) := [[], [0], [0, 1], [0, 1, 2], [0, 1, 2, 3], [0, 1, 2, 3, 4], [0, 1, 2, 3, 4, 5], [0, 1, 2, 3, 4, 5, 6], [0, 1, 2, 3, 4, 5, 6, 7], [0, 1, 2, 3, 4, 5, 6, 7, 8], [0, 1, 2, 3, 4, 5, 6, 7, 8, 9], [0, 1, 2, 3, 4, 5, 6, 7, 8, 9, 10], [0, 1, 2, 3, 4, 5, 6, 7, 8, 9, 10, 11], [0, 1, 2, 3, 4, 5, 6, 7, 8], [0, 1, 2, 3, 4, 5, 6, 7, 8, 13], [0, 1, 2, 3, 4, 5, 6, 7, 8, 13, 14], [0, 1, 2, 3, 4, 5, 6, 7, 8, 13, 14, 15], [0, 1, 2, 3, 4, 5, 6, 7, 8, 9, 10, 11, 12, 13, 14, 15, 16], [0, 1, 2, 3, 4, 5, 6, 7, 8, 9, 10, 11, 12, 13, 14, 15, 16, 17], [0, 1, 2, 3, 4, 5, 6, 7, 8, 9, 10, 11, 12, 13, 14, 15, 16, 17, 18], [0, 1, 2, 3, 4, 5, 6, 7, 8, 9, 10, 11, 12, 13, 14, 15, 16, 17, 18, 19], [0, 1, 2, 3, 4, 5, 6, 7, 8, 9, 10, 11, 12, 13, 14, 15, 16, 17, 18, 19, 20], [0, 1, 2, 3, 4, 5, 6, 7, 8, 9, 10, 11, 12, 13, 14, 15, 16, 17, 18, 19, 20, 21], [0, 1, 2, 3, 4, 5, 6, 7, 8, 9, 10, 11, 12, 13, 14, 15, 16, 17, 18, 19, 20, 21, 22], [0, 1, 2, 3, 4, 5, 6, 7, 8, 9, 10, 11, 12, 13, 14, 15, 16, 17, 18, 19], [0, 1, 2, 3, 4, 5, 6, 7, 8, 9, 10, 11, 12, 13, 14, 15, 16, 17, 18, 19, 24], [0, 1, 2, 3, 4, 5, 6, 7, 8, 9, 10, 11, 12, 13, 14, 15, 16, 17, 18, 19, 24, 25], [0, 1, 2, 3, 4, 5, 6, 7, 8, 9, 10, 11, 12, 13, 14, 15, 16, 17, 18, 19, 24, 25, 26], [0, 1, 2, 3, 4, 5, 6, 7, 8, 9, 10, 11, 12, 13, 14, 15, 16, 17, 18, 19, 20, 21, 22, 23, 24, 25, 26, 27], [0, 1, 2, 3, 4, 5, 6, 7, 8, 9, 10, 11, 12, 13, 14, 15, 16, 17, 18, 19, 20, 21, 22, 23, 24, 25, 26, 27, 28], [0, 1, 2, 3, 4, 5, 6, 7, 8, 9, 10, 11, 12, 13, 14, 15, 16, 17, 18, 19, 20, 21, 22, 23, 24, 25, 26, 27, 28, 29], [0, 1, 2, 3, 4, 5, 6, 7, 8, 9, 10, 11, 12, 13, 14, 15, 16, 17, 18, 19, 20, 21, 22, 23, 24, 25, 26, 27, 28, 29, 30], [0, 1, 2, 3, 4, 5, 6, 7, 8, 9, 10, 11, 12, 13, 14, 15, 16, 17, 18, 19, 20, 21, 22, 23, 24, 25, 26, 27, 28, 29, 30], [0, 1, 2, 3, 4, 5, 6, 7, 8, 9, 10, 11, 12, 13, 14, 15, 16, 17, 18, 19, 20, 21, 22, 23, 24, 25, 26, 27, 28, 29, 30], [0, 1, 2, 3, 4, 5, 6, 7, 8, 9, 10, 11, 12, 13, 14, 15, 16, 17, 18, 19, 20, 21, 22, 23, 24, 25, 26, 27, 28, 29, 30, 33], [0, 1, 2, 3, 4, 5, 6, 7, 8, 9, 10, 11, 12, 13, 14, 15, 16, 17, 18, 19, 20, 21, 22, 23, 24, 25, 26, 27, 28, 29, 30, 33, 34], [0, 1, 2, 3, 4, 5, 6, 7, 8, 9, 10, 11, 12, 13, 14, 15, 16, 17, 18, 19, 20, 21, 22, 23, 24, 25, 26, 27, 28, 29, 30, 33, 34, 35], [0, 1, 2, 3, 4, 5, 6, 7, 8, 9, 10, 11, 12, 13, 14, 15, 16, 17, 18, 19, 20, 21, 22, 23, 24, 25, 26, 27, 28, 29, 30], [0, 1, 2, 3, 4, 5, 6, 7, 8, 9, 10, 11, 12, 13, 14, 15, 16, 17, 18, 19, 20, 21, 22, 23, 24, 25, 26, 27, 28, 29, 30, 37], [0, 1, 2, 3, 4, 5, 6, 7, 8, 9, 10, 11, 12, 13, 14, 15, 16, 17, 18, 19, 20, 21, 22, 23, 24, 25, 26, 27, 28, 29, 30, 37, 38], [0, 1, 2, 3, 4, 5, 6, 7, 8, 9, 10, 11, 12, 13, 14, 15, 16, 17, 18, 19, 20, 21, 22, 23, 24, 25, 26, 27, 28, 29, 30, 37, 38, 39], [0, 1, 2, 3, 4, 5, 6, 7, 8, 9, 10, 11, 12, 13, 14, 15, 16, 17, 18, 19, 20, 21, 22, 23, 24, 25, 26, 27, 28, 29, 30, 31, 32, 33, 34, 35, 36, 37, 38, 39, 40], [0, 1, 2, 3, 4, 5, 6, 7, 8, 9, 10, 11, 12, 13, 14, 15, 16, 17, 18, 19, 20, 21, 22, 23, 24, 25, 26, 27, 28, 29, 30, 31, 32, 33, 34, 35, 36, 37, 38, 39, 40, 41], [0, 1, 2, 3, 4, 5, 6, 7, 8, 9, 10, 11, 12, 13, 14, 15, 16, 17, 18, 19, 20, 21, 22, 23, 24, 25, 26, 27, 28, 29, 30, 31, 32, 33, 34, 35, 36, 37, 38, 39, 40, 41, 42]]
theorem m_scan_Verify_c {s : Sig} {p0 : AutT × AutT × List Int} {p1 : List Int} {p2 : Int × List Int × List Int} {a1 : Option Addr} {c1 : Nat} {a2 : Option Addr} {c2 : Nat} {a3 : Option Addr} {c3 : Nat} {a4 : Option Addr} {c4 : Nat} {a5 : Option Addr} {c5 : Nat} {a6 : Option Addr} {c6 : Nat} {a7 : Option Addr} {c7 : Nat} {a8 : Option Addr} {c8 : Nat} {a9 : Option Addr} {c9 : Nat} {a10 : Option Addr} {c10 : Nat} {r : Int} (h1 : RdL qI s a1 c1 p0.1.1) (h2 : RdL qI s a2 c2 p0.1.2.2.1) (h3 : RdL qT s a3 c3 p0.1.2.2.2) (h4 : RdL qI s a4 c4 p0.2.1.1) (h5 : RdL qI s a5 c5 p0.2.1.2.2.1) (h6 : RdL qT s a6 c6 p0.2.1.2.2.2) (h7 : RdL qI s a7 c7 p0.2.2) (h8 : RdL qI s a8 c8 p1) (h9 : RdL qI s a9 c9 p2.2.1) (h10 : RdL qI s a10 c10 p2.2.2) (hm : m_scan_Verify p0 p1 p2 = some r) :
    Calls Tryz.prog 21 #[.agg #[.slice a1 p0.1.1.length c1, .int .i64 p0.1.2.1, .slice a2 p0.1.2.2.1.length c2, .slice a3 p0.1.2.2.2.length c3, .slice a4 p0.2.1.1.length c4, .int .i64 p0.2.1.2.1, .slice a5 p0.2.1.2.2.1.length c5, .slice a6 p0.2.1.2.2.2.length c6, .slice a7 p0.2.2.length c7], .slice a8 p1.length c8, .agg #[.int .i64 p2.1, .slice a9 p2.2.1.length c9, .slice a10 p2.2.2.length c10]] s.w (RetS No s fun v s' => v = .int .i64 r) := by
 unfold m_scan_Verify at hm
 obtain ⟨N, hN, hNb⟩ := s.fresh
 have m0 : Mv (Up N No) s s := Mv.refl _ _
 refine E.entry Tryz.func21 R Tryz.ntmps21 R R (ER (L.box (N + 0) Y R R R fun b11 s12 m13 bx11 => ?_))
 refine L.box (N + 1) Y R R R fun b14 s15 m16 bx14 => ?_
 replace h8 := (h8.mono m13.z).mono m16.z
 replace bx11 := bx11.mv m16 no_No
 replace h1 := (h1.mono m13.z).mono m16.z
 replace h2 := (h2.mono m13.z).mono m16.z
 replace h3 := (h3.mono m13.z).mono m16.z
 replace h4 := (h4.mono m13.z).mono m16.z
 replace h5 := (h5.mono m13.z).mono m16.z
 replace h6 := (h6.mono m13.z).mono m16.z
 replace h7 := (h7.mono m13.z).mono m16.z
 refine L.as Y R R (LN (ER (L.lg (j := 0) (cs := [.slice a1 p0.1.1.length c1, .int .i64 p0.1.2.1, .slice a2 p0.1.2.2.1.length c2, .slice a3 p0.1.2.2.2.length c3, .slice a4 p0.2.1.1.length c4, .int .i64 p0.2.1.2.1, .slice a5 p0.2.1.2.2.1.length c5, .slice a6 p0.2.1.2.2.2.length c6, .slice a7 p0.2.2.length c7]) bx11.mem ag27 Y R R R R R (L.mv Y R R ?_))))
 obtain ⟨r17, er17, hm⟩ := bindS hm
 refine L.ca cf61 R R Y R (m_scan_with_c (s := s15) (p0 := p0) (p1 := p1) h1 h2 h3 h4 h5 h6 h7 h8 er17) R ?_
 rintro _ s18 m19 ⟨v20, rfl, h20⟩
 replace m0 := ((m0.trans m13.no).trans m16.no).trans m19.no
 replace h8 := h8.mono m19.z
 replace bx14 := bx14.mv m19 no_No
 replace h9 := ((h9.mono m13.z).mono m16.z).mono m19.z
 replace h10 := ((h10.mono m13.z).mono m16.z).mono m19.z
 refine L.mv Y R R (L.ex Y R R R (L.ex Y R R R (L.as Y R R (L.as Y R R (LN (E.seq (ER (L.mv Y R R (L.bi Y R R R R (L.nil (X.seqN ?_)))))))))))
 rcases ifS hm with ⟨hc, hm⟩ | ⟨hc, hm⟩
 ·refine E.cT R hc (ER (L.mv Y R R (L.as Y R R (LN (E.ret (X.seqR ?_))))))
  obtain rfl := oi hm
  exact X.rt (.inl R) Tryz.results21 (Rs.tmp R Rs.nil) R ⟨_, (s18).ren N (fun _ => 0), R, R, m0.ren hNb, R⟩
 refine E.cF R hc (E.skip (X.seqN (E.seq ?_)))
 obtain ⟨x21, ex21, hm⟩ := bindS hm
 obtain ⟨b22, ds22, rfl, bx22, rd22⟩ := h20.some ex21
 obtain ⟨_, _, rfl, ⟨_, _, rfl, ⟨_, _, rfl, ⟨a23, c23, rfl, h23⟩, ⟨_, _, rfl, rfl, ⟨_, _, rfl, ⟨a24, c24, rfl, h24⟩, ⟨a25, c25, rfl, h25⟩⟩⟩⟩, ⟨y26, c26, rfl, h26⟩⟩, ⟨_, _, rfl, ⟨_, _, rfl, ⟨_, _, rfl, ⟨a27, c27, rfl, h27⟩, ⟨_, _, rfl, rfl, ⟨_, _, rfl, ⟨a28, c28, rfl, h28⟩, ⟨a29, c29, rfl, h29⟩⟩⟩⟩, ⟨y30, c30, rfl, h30⟩⟩, ⟨_, _, rfl, ⟨_, _, rfl, ⟨_, _, rfl, ⟨a31, c31, rfl, h31⟩, ⟨_, _, rfl, rfl, ⟨_, _, rfl, ⟨a32, c32, rfl, h32⟩, ⟨a33, c33, rfl, h33⟩⟩⟩⟩, ⟨y34, c34, rfl, h34⟩⟩, ⟨_, _, rfl, ⟨a35, c35, rfl, h35⟩, ⟨_, _, rfl, ⟨a36, c36, rfl, h36⟩, ⟨a37, c37, rfl, h37⟩⟩⟩⟩⟩⟩ := rd22
 replace bx22 : Bx s18 0 b22 #[.slice a23 x21.1.1.1.length c23, .int .i64 x21.1.1.2.1, .slice a24 x21.1.1.2.2.1.length c24, .slice a25 x21.1.1.2.2.2.length c25, .map y26, .slice a27 x21.2.1.1.1.length c27, .int .i64 x21.2.1.1.2.1, .slice a28 x21.2.1.1.2.2.1.length c28, .slice a29 x21.2.1.1.2.2.2.length c29, .map y30, .slice a31 x21.2.2.1.1.1.length c31, .int .i64 x21.2.2.1.1.2.1, .slice a32 x21.2.2.1.1.2.2.1.length c32, .slice a33 x21.2.2.1.1.2.2.2.length c33, .map y34, .slice a35 x21.2.2.2.1.length c35, .slice a36 x21.2.2.2.2.1.length c36, .slice a37 x21.2.2.2.2.2.length c37] 110 := bx22
 obtain ⟨r45, er45, hm⟩ := bindS hm
 refine E.draw [[], [0], [0, 1], [0, 1, 2], [], [4], [0, 1, 2, 3, 4, 5], [0, 1, 2, 3, 4, 5, 6]] (fun D e sx => Mv No s18 sx ∧ Sub [(7, .pointer (some ⟨b22, 0, none⟩)), (5, .pointer (some ⟨b14, 0, none⟩)), (1, .slice a8 p1.length c8)] e ∧ AllP [G D e 0 22 (.pointer (some ⟨b22, 0, none⟩)), G D e 1 23 (.pointer (some ⟨b22, 0, none⟩)), G D e 2 24 (.pointer (some ⟨b22, 10, none⟩)), G D e 3 25 (.agg #[.slice a31 x21.2.2.1.1.1.length c31, .int .i64 x21.2.2.1.1.2.1, .slice a32 x21.2.2.1.1.2.2.1.length c32, .slice a33 x21.2.2.1.1.2.2.2.length c33, .map y34]), G D e 4 26 (.pointer (some ⟨b14, 1, none⟩)), G D e 5 27 (.slice a9 p2.2.1.length c9), G D e 6 28 (.int .i64 r45), G D e 7 9 (.int .i64 r45)]) (by kernel_rfl) (by kernel_rfl) (by kernel_rfl) ?_ ?_ ?_
 ·intro sz mz
  exact ⟨mz, (Sub.rf R), nofun, nofun, nofun, nofun, nofun, nofun, nofun, nofun, trivial⟩
 ·refine ⟨?_, ?_, ?_, ?_, ?_, ?_, ?_, ?_, trivial⟩
  ·rintro D e s38 ⟨im, ib, i⟩ hk hf ha
   have kn := K1 (ib 7 _ R)
   exact kn.g (L.mv Y R R (L.nil (X.dk kn ⟨im, Sub.fresh ib R, i.u 0 (fun _ => R)⟩)))
  ·rintro D e s39 ⟨im, ib, i⟩ hk hf ha
   have kn := K1 ((i.p 0) (ha.at 0 R))
   exact kn.g (L.nc Y R R (L.nil (X.dk kn ⟨im, Sub.fresh ib R, i.u 1 (fun _ => R)⟩)))
  ·rintro D e s40 ⟨im, ib, i⟩ hk hf ha
   have kn := K1 ((i.p 1) (ha.at 1 R))
   exact kn.g (L.fa fa110_2 Y R R (L.nil (X.dk kn ⟨im, Sub.fresh ib R, i.u 2 (fun _ => R)⟩)))
  ·rintro D e s41 ⟨im, ib, i⟩ hk hf ha
   have bx22 := bx22.mv im no_No
   have kn := K1 ((i.p 2) (ha.at 2 R))
   exact kn.g (L.lg (j := 10) (cs := [.slice a31 x21.2.2.1.1.1.length c31, .int .i64 x21.2.2.1.1.2.1, .slice a32 x21.2.2.1.1.2.2.1.length c32, .slice a33 x21.2.2.1.1.2.2.2.length c33, .map y34]) bx22.mem ag108 Y R R R R R (L.nil (X.dk kn ⟨im, Sub.fresh ib R, i.u 3 (fun _ => R)⟩)))
  ·rintro D e s42 ⟨im, ib, i⟩ hk hf ha
   have kn := K1 (ib 5 _ R)
   exact kn.g (L.fa fa38_1 Y R R (L.nil (X.dk kn ⟨im, Sub.fresh ib R, i.u 4 (fun _ => R)⟩)))
  ·rintro D e s43 ⟨im, ib, i⟩ hk hf ha
   have bx14 := bx14.mv im no_No
   have kn := K1 ((i.p 4) (ha.at 4 R))
   exact kn.g (L.ld (j := 1) bx14.mem nag22 Y R R R R (L.nil (X.dk kn ⟨im, Sub.fresh ib R, i.u 5 (fun _ => R)⟩)))
  ·rintro D e s44 ⟨im, ib, i⟩ hk hf ha
   have h31 := h31.mono im.z
   have h32 := h32.mono im.z
   have h33 := h33.mono im.z
   have h34 := h34.mono im.z
   have h9 := h9.mono im.z
   have kn := K2 ((i.p 3) (ha.at 3 R)) ((i.p 5) (ha.at 5 R))
   refine kn.g (L.ca cf65 R R Y R (m_scan_graph_after_c (s := s44) (p0 := x21.2.2.1) (p1 := p2.2.1) h31 h32 h33 h34 h9 er45) R ?_)
   rintro _ s46 m47 rfl
   exact L.nil (X.dk kn ⟨im.trans m47.no, Sub.fresh ib R, i.u 6 (fun _ => R)⟩)
  rintro D e s48 ⟨im, ib, i⟩ hk hf ha
  have kn := K1 ((i.p 6) (ha.at 6 R))
  exact kn.g (L.as Y R R (L.nil (X.dk kn ⟨im, Sub.fresh ib R, i.u 7 (fun _ => R)⟩)))
 rintro D e s49 hD ⟨im, ib, i⟩
 have g7_ := (i.p 7) (hD 7 R)
 have bx22 := bx22.mv im no_No
 have h23 := h23.mono im.z
 have h24 := h24.mono im.z
 have h25 := h25.mono im.z
 have h26 := h26.mono im.z
 have h27 := h27.mono im.z
 have h28 := h28.mono im.z
 have h29 := h29.mono im.z
 have h30 := h30.mono im.z
 have h31 := h31.mono im.z
 have h32 := h32.mono im.z
 have h33 := h33.mono im.z
 have h34 := h34.mono im.z
 have h35 := h35.mono im.z
 have h36 := h36.mono im.z
 have h37 := h37.mono im.z
 have bx14 := bx14.mv im no_No
 have h9 := h9.mono im.z
 have h10 := h10.mono im.z
 have h8 := h8.mono im.z
 have m0 := m0.trans im.no
 refine X.sub (e' := [(9, .int .i64 r45), (7, .pointer (some ⟨b22, 0, none⟩)), (5, .pointer (some ⟨b14, 0, none⟩)), (1, .slice a8 p1.length c8)]) ?_ (Sub.cons g7_ (Sub.cons (ib 7 _ R) (Sub.cons (ib 5 _ R) (Sub.cons (ib 1 _ R) Sub.nil))))
 refine X.seqN (ER (L.as Y R R (LN (E.seqJ (fun e w => ∃ (s51 : Sig) (b50 : Bool), m_scan_Verify_j1 b50 = some r ∧ Mv (Up N No) s s51 ∧ e = [(10, .bool b50)] ∧ w = s51.w) ?_ ?_))))
 ·rintro _ _ ⟨s51, b50, hm, m0, rfl, rfl⟩
  unfold m_scan_Verify_j1 at hm
  refine E.seq (ER (L.mv Y R R (L.not Y R R (L.nil (X.seqN ?_)))))
  rcases ifS hm with ⟨hc, hm⟩ | ⟨hc, hm⟩
  ·refine E.cT R hc (ER (L.as Y R R (LN (E.ret (X.seqR ?_)))))
   obtain rfl := oi hm
   exact X.rt (.inl R) Tryz.results21 (Rs.tmp R Rs.nil) R ⟨_, (s51).ren N (fun _ => 0), R, R, m0.ren hNb, R⟩
  refine E.cF R hc (E.skip (X.seqN (ER (L.as Y R R (LN (E.ret ?_))))))
  obtain rfl := oi hm
  exact X.rt (.inl R) Tryz.results21 (Rs.tmp R Rs.nil) R ⟨_, (s51).ren N (fun _ => 0), R, R, m0.ren hNb, R⟩
 intro Jj52
 refine ER (L.fa fa38_0 Y R R (L.ld (j := 0) bx14.mem nag3 Y R R R R (LN (E.block (ER (L.bi Y R R R R (L.as Y R R (L.nil (X.seqN ?_)))))))))
 rcases ifS hm with ⟨hc, hm⟩ | ⟨hc, hm⟩
 ·refine E.cT R hc (E.reg (L.mv Y R R (L.bi Y R R R R (L.mv Y R R ?_))))
  obtain ⟨b53, eb53, hm⟩ := bindS hm
  refine L.cut 6 (fun e w => ∃ (s55 : Sig) (v54 : Bool), b53 = v54 ∧ Mv (Up N No) s s55 ∧ RdL qI s55 a9 c9 p2.2.1 ∧ RdL qI s55 a10 c10 p2.2.2 ∧ RdL qI s55 a23 c23 x21.1.1.1 ∧ RdL qI s55 a24 c24 x21.1.1.2.2.1 ∧ RdL qT s55 a25 c25 x21.1.1.2.2.2 ∧ MapD kvP qI s55 y26 c26 x21.1.2 ∧ RdL qI s55 a27 c27 x21.2.1.1.1 ∧ RdL qI s55 a28 c28 x21.2.1.1.2.2.1 ∧ RdL qT s55 a29 c29 x21.2.1.1.2.2.2 ∧ MapD kvP qI s55 y30 c30 x21.2.1.2 ∧ RdL qI s55 a31 c31 x21.2.2.1.1.1 ∧ RdL qI s55 a32 c32 x21.2.2.1.1.2.2.1 ∧ RdL qT s55 a33 c33 x21.2.2.1.1.2.2.2 ∧ MapD kvP qI s55 y34 c34 x21.2.2.1.2 ∧ RdL (rL qI) s55 a35 c35 x21.2.2.2.1 ∧ RdL qI s55 a36 c36 x21.2.2.2.2.1 ∧ RdL qI s55 a37 c37 x21.2.2.2.2.2 ∧ Bx s55 (N + 1) b14 #[.int .i64 p2.1, .slice a9 p2.2.1.length c9, .slice a10 p2.2.2.length c10] 38 ∧ Bx s55 0 b22 #[.slice a23 x21.1.1.1.length c23, .int .i64 x21.1.1.2.1, .slice a24 x21.1.1.2.2.1.length c24, .slice a25 x21.1.1.2.2.2.length c25, .map y26, .slice a27 x21.2.1.1.1.length c27, .int .i64 x21.2.1.1.2.1, .slice a28 x21.2.1.1.2.2.1.length c28, .slice a29 x21.2.1.1.2.2.2.length c29, .map y30, .slice a31 x21.2.2.1.1.1.length c31, .int .i64 x21.2.2.1.1.2.1, .slice a32 x21.2.2.1.1.2.2.1.length c32, .slice a33 x21.2.2.1.1.2.2.2.length c33, .map y34, .slice a35 x21.2.2.2.1.length c35, .slice a36 x21.2.2.2.2.1.length c36, .slice a37 x21.2.2.2.2.2.length c37] 110 ∧ e = (41, .bool v54) :: [(9, .int .i64 r45), (7, .pointer (some ⟨b22, 0, none⟩)), (5, .pointer (some ⟨b14, 0, none⟩))] ∧ w = s55.w) ?_ ?_
  ·rintro _ _ ⟨s55, v54, rfl, m0, h9, h10, h23, h24, h25, h26, h27, h28, h29, h30, h31, h32, h33, h34, h35, h36, h37, bx14, bx22, rfl, rfl⟩
   refine L.mv Y R R ?_
   obtain ⟨b56, eb56, hm⟩ := bindS hm
   refine L.cut 7 (fun e w => ∃ (s58 : Sig) (v57 : Bool), b56 = v57 ∧ Mv (Up N No) s s58 ∧ e = (49, .bool v57) :: [] ∧ w = s58.w) ?_ ?_
   ·rintro _ _ ⟨s58, v57, rfl, m0, rfl, rfl⟩
    exact L.as Y R R (L.nil (X.blkN (X.sub (Jj52 _ _ ⟨s58, b56, hm, m0, R, R⟩) (Sub.rf R))))
   intro J59
   rcases ifS eb56 with ⟨hc, hm⟩ | ⟨hc, hm⟩
   ·refine L.know (d := 42) R hc (L.mv (Wt.mk R R) R R (L.mv (Wt.mk R R) R R (L.fa fa38_2 (Wt.mk R R) R R (L.ld (j := 2) bx14.mem nag22 (Wt.mk R R) R R R R ?_))))
    obtain ⟨r60, er60, hm⟩ := bindS hm
    refine L.ca cf58 R R (Wt.mk R R) R (m_scan_task_ordered_c (s := s55) (p0 := x21) (p1 := r45) (p2 := p2.2.2) (t0 := 0) h23 h24 h25 h26 h27 h28 h29 h30 h31 h32 h33 h34 h35 h36 h37 bx22 h10 er60) R ?_
    rintro _ s61 m62 rfl
    replace m0 := m0.trans m62.no
    exact L.not (Wt.mk R R) R R (L.pkT Y R R R R (L.sb (J59 _ _ ⟨s61, (!r60), (oi hm).symm, m0, R, R⟩) R))
   exact L.know (d := 42) R hc (L.skip R R R R (L.skip R R R R (L.skip R R R R (L.skip R R R R (L.skip R R R R (L.skip R R R R (L.pkF Y R R R R (L.sb (J59 _ _ ⟨s55, false, (oi hm).symm, m0, R, R⟩) R))))))))
  intro J63
  rcases ifS eb53 with ⟨hc, hm⟩ | ⟨hc, hm⟩
  ·refine L.know (d := 35) R hc (L.mv (Wt.mk R R) R R (L.mv (Wt.mk R R) R R (L.fa fa38_2 (Wt.mk R R) R R (L.ld (j := 2) bx14.mem nag22 (Wt.mk R R) R R R R ?_))))
   obtain ⟨r64, er64, hm⟩ := bindS hm
   refine L.ca cf67 R R (Wt.mk R R) R (m_scan_task_burst_c (s := s49) (p0 := x21) (p1 := r45) (p2 := p2.2.2) (t0 := 0) h23 h24 h25 h26 h27 h28 h29 h30 h31 h32 h33 h34 h35 h36 h37 bx22 h10 er64) R ?_
   rintro _ s65 m66 rfl
   replace m0 := m0.trans m66.no
   replace bx14 := bx14.mv m66 no_No
   replace h9 := h9.mono m66.z
   replace h10 := h10.mono m66.z
   replace bx22 := bx22.mv m66 no_No
   replace h23 := h23.mono m66.z
   replace h24 := h24.mono m66.z
   replace h25 := h25.mono m66.z
   replace h26 := h26.mono m66.z
   replace h27 := h27.mono m66.z
   replace h28 := h28.mono m66.z
   replace h29 := h29.mono m66.z
   replace h30 := h30.mono m66.z
   replace h31 := h31.mono m66.z
   replace h32 := h32.mono m66.z
   replace h33 := h33.mono m66.z
   replace h34 := h34.mono m66.z
   replace h35 := h35.mono m66.z
   replace h36 := h36.mono m66.z
   replace h37 := h37.mono m66.z
   exact L.pkT Y R R R R (L.sb (J63 _ _ ⟨s65, r64, (oi hm).symm, m0, h9, h10, h23, h24, h25, h26, h27, h28, h29, h30, h31, h32, h33, h34, h35, h36, h37, bx14, bx22, R, R⟩) R)
  exact L.know (d := 35) R hc (L.skip R R R R (L.skip R R R R (L.skip R R R R (L.skip R R R R (L.skip R R R R (L.pkF Y R R R R (L.sb (J63 _ _ ⟨s49, false, (oi hm).symm, m0, h9, h10, h23, h24, h25, h26, h27, h28, h29, h30, h31, h32, h33, h34, h35, h36, h37, bx14, bx22, R, R⟩) R)))))))
 refine E.cF R hc (ER (L.bi Y R R R R (L.as Y R R (L.nil (X.seqN ?_)))))
 rcases ifS hm with ⟨hc, hm⟩ | ⟨hc, hm⟩
 ·refine E.cT R hc ?_
  rcases ifS hm with ⟨hc70, hm⟩ | ⟨hc70, hm⟩
  ·have _ := hN
   rcases ifS hm with ⟨hc77, hm⟩ | ⟨hc77, hm⟩
   ·have _ := hN
    obtain ⟨x85, ex85, hm⟩ := bindS hm
    obtain ⟨r89, er89, hm⟩ := bindS hm
    rcases ifS hm with ⟨hc94, hm⟩ | ⟨hc94, hm⟩
    ·have _ := hN
     obtain ⟨x102, ex102, hm⟩ := bindS hm
     obtain ⟨r106, er106, hm⟩ := bindS hm
     rcases ifS hm with ⟨hc111, hm⟩ | ⟨hc111, hm⟩
     ·have _ := hN
      obtain ⟨x117, ex117, hm⟩ := bindS hm
      obtain ⟨x123, ex123, hm⟩ := bindS hm
      obtain ⟨r127, er127, hm⟩ := bindS hm
      refine E.draw m_scan_Verify_w0 (fun D e sx => Mv No s49 sx ∧ Sub [(9, .int .i64 r45), (7, .pointer (some ⟨b22, 0, none⟩)), (5, .pointer (some ⟨b14, 0, none⟩))] e ∧ AllP [G D e 0 52 (.int .i64 r45), G D e 1 53 (.bool (r45 != (-1))), G D e 2 54 (.bool (r45 != (-1))), G D e 3 55 (.pointer (some ⟨b14, 2, none⟩)), G D e 4 56 (.slice a10 p2.2.2.length c10), G D e 5 57 (.int .i64 (p2.2.2.length : Int)), G D e 6 58 (.bool ((p2.2.2.length : Int) == 2)), G D e 7 59 (.bool ((p2.2.2.length : Int) == 2)), G D e 8 60 (.bool ((p2.2.2.length : Int) == 2)), G D e 9 61 (.pointer (some ⟨b22, 0, none⟩)), G D e 10 62 (.pointer (some ⟨b22, 0, none⟩)), G D e 11 63 (.pointer (some ⟨b22, 16, none⟩)), G D e 12 64 (.slice a36 x21.2.2.2.2.1.length c36), G D e 13 65 (.pointer (some ⟨b14, 2, none⟩)), G D e 14 66 (.slice a10 p2.2.2.length c10), D 15 = true → (∃ (b86 : Nat) (o86 : Nat), Env.get e 67 = some (.pointer (some ⟨b86, o86, none⟩)) ∧ Mem sx 0 b86 o86 [.int .i64 x85]), G D e 16 68 (.int .i64 x85), G D e 17 69 (.bool r89), G D e 18 70 (.bool r89), G D e 19 71 (.bool r89), G D e 20 72 (.pointer (some ⟨b22, 0, none⟩)), G D e 21 73 (.pointer (some ⟨b22, 0, none⟩)), G D e 22 74 (.pointer (some ⟨b22, 17, none⟩)), G D e 23 75 (.slice a37 x21.2.2.2.2.2.length c37), G D e 24 76 (.pointer (some ⟨b14, 2, none⟩)), G D e 25 77 (.slice a10 p2.2.2.length c10), D 26 = true → (∃ (b103 : Nat) (o103 : Nat), Env.get e 78 = some (.pointer (some ⟨b103, o103, none⟩)) ∧ Mem sx 0 b103 o103 [.int .i64 x102]), G D e 27 79 (.int .i64 x102), G D e 28 80 (.bool r106), G D e 29 81 (.bool r106), G D e 30 82 (.bool r106), G D e 31 83 (.pointer (some ⟨b22, 0, none⟩)), G D e 32 84 (.int .i64 r45), G D e 33 85 (.pointer (some ⟨b14, 2, none⟩)), G D e 34 86 (.slice a10 p2.2.2.length c10), D 35 = true → (∃ (b118 : Nat) (o118 : Nat), Env.get e 87 = some (.pointer (some ⟨b118, o118, none⟩)) ∧ Mem sx 0 b118 o118 [.int .i64 x117]), G D e 36 88 (.int .i64 x117), G D e 37 89 (.pointer (some ⟨b14, 2, none⟩)), G D e 38 90 (.slice a10 p2.2.2.length c10), D 39 = true → (∃ (b124 : Nat) (o124 : Nat), Env.get e 91 = some (.pointer (some ⟨b124, o124, none⟩)) ∧ Mem sx 0 b124 o124 [.int .i64 x123]), G D e 40 92 (.int .i64 x123), G D e 41 93 (.bool r127), G D e 42 94 (.bool r127), G D e 43 10 (.bool r127)]) (by kernel_rfl) (by kernel_rfl) (by kernel_rfl) ?_ ?_ ?_
      ·intro sz mz
       exact ⟨mz, (Sub.rf R), nofun, nofun, nofun, nofun, nofun, nofun, nofun, nofun, nofun, nofun, nofun, nofun, nofun, nofun, nofun, nofun, nofun, nofun, nofun, nofun, nofun, nofun, nofun, nofun, nofun, nofun, nofun, nofun, nofun, nofun, nofun, nofun, nofun, nofun, nofun, nofun, nofun, nofun, nofun, nofun, nofun, nofun, nofun, nofun, trivial⟩
      ·refine ⟨?_, ?_, ?_, ?_, ?_, ?_, ?_, ?_, ?_, ?_, ?_, ?_, ?_, ?_, ?_, ?_, ?_, ?_, ?_, ?_, ?_, ?_, ?_, ?_, ?_, ?_, ?_, ?_, ?_, ?_, ?_, ?_, ?_, ?_, ?_, ?_, ?_, ?_, ?_, ?_, ?_, ?_, ?_, ?_, trivial⟩
       ·rintro D e s67 ⟨im, ib, i⟩ hk hf ha
        have kn := K1 (ib 9 _ R)
        exact kn.g (L.mv Y R R (L.nil (X.dk kn ⟨im, Sub.fresh ib R, i.u 0 (fun _ => R)⟩)))
       ·rintro D e s68 ⟨im, ib, i⟩ hk hf ha
        have kn := K1 ((i.p 0) (ha.at 0 R))
        exact kn.g (L.bi Y R R R R (L.nil (X.dk kn ⟨im, Sub.fresh ib R, i.u 1 (fun _ => R)⟩)))
       ·rintro D e s69 ⟨im, ib, i⟩ hk hf ha
        have kn := K1 ((i.p 1) (ha.at 1 R))
        exact kn.g (L.mv Y R R (L.nil (X.dk kn ⟨im, Sub.fresh ib R, i.u 2 (fun _ => R)⟩)))
       ·rintro D e s71 ⟨im, ib, i⟩ hk hf ha
        have g2_ := (i.p 2) (ha.at 2 R)
        rw [hc70] at g2_
        have kn := K2 (ib 5 _ R) g2_
        exact kn.g (L.fa fa38_2 (Wt.mk R R) R R (L.nil (X.dk kn ⟨im, Sub.fresh ib R, i.u 3 (fun _ => R)⟩)))
       ·rintro D e s72 ⟨im, ib, i⟩ hk hf ha
        have g2_ := (i.p 2) (ha.at 2 R)
        have bx14 := bx14.mv im no_No
        rw [hc70] at g2_
        have kn := K2 ((i.p 3) (ha.at 3 R)) g2_
        exact kn.g (L.ld (j := 2) bx14.mem nag22 (Wt.mk R R) R R R R (L.nil (X.dk kn ⟨im, Sub.fresh ib R, i.u 4 (fun _ => R)⟩)))
       ·rintro D e s73 ⟨im, ib, i⟩ hk hf ha
        have g2_ := (i.p 2) (ha.at 2 R)
        rw [hc70] at g2_
        have kn := K2 ((i.p 4) (ha.at 4 R)) g2_
        exact kn.g (L.len sl22 (Wt.mk R R) R R (L.nil (X.dk kn ⟨im, Sub.fresh ib R, i.u 5 (fun _ => R)⟩)))
       ·rintro D e s74 ⟨im, ib, i⟩ hk hf ha
        have g2_ := (i.p 2) (ha.at 2 R)
        rw [hc70] at g2_
        have kn := K2 ((i.p 5) (ha.at 5 R)) g2_
        exact kn.g (L.bi (Wt.mk R R) R R R R (L.nil (X.dk kn ⟨im, Sub.fresh ib R, i.u 6 (fun _ => R)⟩)))
       ·rintro D e s75 ⟨im, ib, i⟩ hk hf ha
        have g2_ := (i.p 2) (ha.at 2 R)
        rw [hc70] at g2_
        have kn := K2 g2_ ((i.p 6) (ha.at 6 R))
        exact kn.g (L.pkT Y R R R R (L.nil (X.dk kn ⟨im, Sub.fresh ib R, i.u 7 (fun _ => R)⟩)))
       ·rintro D e s76 ⟨im, ib, i⟩ hk hf ha
        have kn := K1 ((i.p 7) (ha.at 7 R))
        exact kn.g (L.mv Y R R (L.nil (X.dk kn ⟨im, Sub.fresh ib R, i.u 8 (fun _ => R)⟩)))
       ·rintro D e s78 ⟨im, ib, i⟩ hk hf ha
        have g8_ := (i.p 8) (ha.at 8 R)
        rw [hc77] at g8_
        have kn := K2 (ib 7 _ R) g8_
        exact kn.g (L.mv (Wt.mk R R) R R (L.nil (X.dk kn ⟨im, Sub.fresh ib R, i.u 9 (fun _ => R)⟩)))
       ·rintro D e s79 ⟨im, ib, i⟩ hk hf ha
        have g8_ := (i.p 8) (ha.at 8 R)
        rw [hc77] at g8_
        have kn := K2 ((i.p 9) (ha.at 9 R)) g8_
        exact kn.g (L.nc (Wt.mk R R) R R (L.nil (X.dk kn ⟨im, Sub.fresh ib R, i.u 10 (fun _ => R)⟩)))
       ·rintro D e s80 ⟨im, ib, i⟩ hk hf ha
        have g8_ := (i.p 8) (ha.at 8 R)
        rw [hc77] at g8_
        have kn := K2 ((i.p 10) (ha.at 10 R)) g8_
        exact kn.g (L.fa fa110_4 (Wt.mk R R) R R (L.nil (X.dk kn ⟨im, Sub.fresh ib R, i.u 11 (fun _ => R)⟩)))
       ·rintro D e s81 ⟨im, ib, i⟩ hk hf ha
        have g8_ := (i.p 8) (ha.at 8 R)
        have bx22 := bx22.mv im no_No
        rw [hc77] at g8_
        have kn := K2 ((i.p 11) (ha.at 11 R)) g8_
        exact kn.g (L.ld (j := 16) bx22.mem nag22 (Wt.mk R R) R R R R (L.nil (X.dk kn ⟨im, Sub.fresh ib R, i.u 12 (fun _ => R)⟩)))
       ·rintro D e s82 ⟨im, ib, i⟩ hk hf ha
        have g8_ := (i.p 8) (ha.at 8 R)
        rw [hc77] at g8_
        have kn := K2 (ib 5 _ R) g8_
        exact kn.g (L.fa fa38_2 (Wt.mk R R) R R (L.nil (X.dk kn ⟨im, Sub.fresh ib R, i.u 13 (fun _ => R)⟩)))
       ·rintro D e s83 ⟨im, ib, i⟩ hk hf ha
        have g8_ := (i.p 8) (ha.at 8 R)
        have bx14 := bx14.mv im no_No
        rw [hc77] at g8_
        have kn := K2 ((i.p 13) (ha.at 13 R)) g8_
        exact kn.g (L.ld (j := 2) bx14.mem nag22 (Wt.mk R R) R R R R (L.nil (X.dk kn ⟨im, Sub.fresh ib R, i.u 14 (fun _ => R)⟩)))
       ·rintro D e s84 ⟨im, ib, i⟩ hk hf ha
        have g8_ := (i.p 8) (ha.at 8 R)
        have h10 := h10.mono im.z
        rw [hc77] at g8_
        have kn := K2 ((i.p 14) (ha.at 14 R)) g8_
        refine kn.g (L.ix (r := qI) sl22 h10 (Wt.mk R R) R R ex85 R fun b86 o86 cc86 me86 rd86 => ?_)
        obtain rfl := rd86
        exact L.nil (X.dk kn ⟨im, Sub.fresh ib R, i.u 15 (fun _ => ⟨b86, o86, R, me86⟩)⟩)
       ·rintro D e s87 ⟨im, ib, i⟩ hk hf ha
        have g8_ := (i.p 8) (ha.at 8 R)
        obtain ⟨b86, o86, g15_, me86⟩ := (i.p 15) (ha.at 15 R)
        rw [hc77] at g8_
        have kn := K2 g15_ g8_
        exact kn.g (L.ld (j := 0) me86 nag3 (Wt.mk R R) R R R R (L.nil (X.dk kn ⟨im, Sub.fresh ib R, i.u 16 (fun _ => R)⟩)))
       ·rintro D e s88 ⟨im, ib, i⟩ hk hf ha
        have g8_ := (i.p 8) (ha.at 8 R)
        have h36 := h36.mono im.z
        rw [hc77] at g8_
        have kn := K3 ((i.p 12) (ha.at 12 R)) ((i.p 16) (ha.at 16 R)) g8_
        refine kn.g (L.ca cf68 R R (Wt.mk R R) R (m_alphabet_Contains_c (s := s88) (p0 := x21.2.2.2.2.1) (p1 := x85) h36 er89) R ?_)
        rintro _ s90 m91 rfl
        exact L.nil (X.dk kn ⟨im.trans m91.no, Sub.fresh ib R, ((((i.u 15 (fun z => let ⟨b86, o86, q, me86⟩ := (i.p 15) z; ⟨b86, o86, q, (me86.mv m91 no_No)⟩)).u 17 (fun _ => R)).u 26 (fun z => let ⟨b103, o103, q, me103⟩ := (i.p 26) z; ⟨b103, o103, q, (me103.mv m91 no_No)⟩)).u 35 (fun z => let ⟨b118, o118, q, me118⟩ := (i.p 35) z; ⟨b118, o118, q, (me118.mv m91 no_No)⟩)).u 39 (fun z => let ⟨b124, o124, q, me124⟩ := (i.p 39) z; ⟨b124, o124, q, (me124.mv m91 no_No)⟩)⟩)
       ·rintro D e s92 ⟨im, ib, i⟩ hk hf ha
        have g8_ := (i.p 8) (ha.at 8 R)
        rw [hc77] at g8_
        have kn := K2 g8_ ((i.p 17) (ha.at 17 R))
        exact kn.g (L.pkT Y R R R R (L.nil (X.dk kn ⟨im, Sub.fresh ib R, i.u 18 (fun _ => R)⟩)))
       ·rintro D e s93 ⟨im, ib, i⟩ hk hf ha
        have kn := K1 ((i.p 18) (ha.at 18 R))
        exact kn.g (L.mv Y R R (L.nil (X.dk kn ⟨im, Sub.fresh ib R, i.u 19 (fun _ => R)⟩)))
       ·rintro D e s95 ⟨im, ib, i⟩ hk hf ha
        have g19_ := (i.p 19) (ha.at 19 R)
        rw [hc94] at g19_
        have kn := K2 (ib 7 _ R) g19_
        exact kn.g (L.mv (Wt.mk R R) R R (L.nil (X.dk kn ⟨im, Sub.fresh ib R, i.u 20 (fun _ => R)⟩)))
       ·rintro D e s96 ⟨im, ib, i⟩ hk hf ha
        have g19_ := (i.p 19) (ha.at 19 R)
        rw [hc94] at g19_
        have kn := K2 ((i.p 20) (ha.at 20 R)) g19_
        exact kn.g (L.nc (Wt.mk R R) R R (L.nil (X.dk kn ⟨im, Sub.fresh ib R, i.u 21 (fun _ => R)⟩)))
       ·rintro D e s97 ⟨im, ib, i⟩ hk hf ha
        have g19_ := (i.p 19) (ha.at 19 R)
        rw [hc94] at g19_
        have kn := K2 ((i.p 21) (ha.at 21 R)) g19_
        exact kn.g (L.fa fa110_5 (Wt.mk R R) R R (L.nil (X.dk kn ⟨im, Sub.fresh ib R, i.u 22 (fun _ => R)⟩)))
       ·rintro D e s98 ⟨im, ib, i⟩ hk hf ha
        have g19_ := (i.p 19) (ha.at 19 R)
        have bx22 := bx22.mv im no_No
        rw [hc94] at g19_
        have kn := K2 ((i.p 22) (ha.at 22 R)) g19_
        exact kn.g (L.ld (j := 17) bx22.mem nag22 (Wt.mk R R) R R R R (L.nil (X.dk kn ⟨im, Sub.fresh ib R, i.u 23 (fun _ => R)⟩)))
       ·rintro D e s99 ⟨im, ib, i⟩ hk hf ha
        have g19_ := (i.p 19) (ha.at 19 R)
        rw [hc94] at g19_
        have kn := K2 (ib 5 _ R) g19_
        exact kn.g (L.fa fa38_2 (Wt.mk R R) R R (L.nil (X.dk kn ⟨im, Sub.fresh ib R, i.u 24 (fun _ => R)⟩)))
       ·rintro D e s100 ⟨im, ib, i⟩ hk hf ha
        have g19_ := (i.p 19) (ha.at 19 R)
        have bx14 := bx14.mv im no_No
        rw [hc94] at g19_
        have kn := K2 ((i.p 24) (ha.at 24 R)) g19_
        exact kn.g (L.ld (j := 2) bx14.mem nag22 (Wt.mk R R) R R R R (L.nil (X.dk kn ⟨im, Sub.fresh ib R, i.u 25 (fun _ => R)⟩)))
       ·rintro D e s101 ⟨im, ib, i⟩ hk hf ha
        have g19_ := (i.p 19) (ha.at 19 R)
        have h10 := h10.mono im.z
        rw [hc94] at g19_
        have kn := K2 ((i.p 25) (ha.at 25 R)) g19_
        refine kn.g (L.ix (r := qI) sl22 h10 (Wt.mk R R) R R ex102 R fun b103 o103 cc103 me103 rd103 => ?_)
        obtain rfl := rd103
        exact L.nil (X.dk kn ⟨im, Sub.fresh ib R, i.u 26 (fun _ => ⟨b103, o103, R, me103⟩)⟩)
       ·rintro D e s104 ⟨im, ib, i⟩ hk hf ha
        have g19_ := (i.p 19) (ha.at 19 R)
        obtain ⟨b103, o103, g26_, me103⟩ := (i.p 26) (ha.at 26 R)
        rw [hc94] at g19_
        have kn := K2 g26_ g19_
        exact kn.g (L.ld (j := 0) me103 nag3 (Wt.mk R R) R R R R (L.nil (X.dk kn ⟨im, Sub.fresh ib R, i.u 27 (fun _ => R)⟩)))
       ·rintro D e s105 ⟨im, ib, i⟩ hk hf ha
        have g19_ := (i.p 19) (ha.at 19 R)
        have h37 := h37.mono im.z
        rw [hc94] at g19_
        have kn := K3 ((i.p 23) (ha.at 23 R)) ((i.p 27) (ha.at 27 R)) g19_
        refine kn.g (L.ca cf68 R R (Wt.mk R R) R (m_alphabet_Contains_c (s := s105) (p0 := x21.2.2.2.2.2) (p1 := x102) h37 er106) R ?_)
        rintro _ s107 m108 rfl
        exact L.nil (X.dk kn ⟨im.trans m108.no, Sub.fresh ib R, ((((i.u 15 (fun z => let ⟨b86, o86, q, me86⟩ := (i.p 15) z; ⟨b86, o86, q, (me86.mv m108 no_No)⟩)).u 26 (fun z => let ⟨b103, o103, q, me103⟩ := (i.p 26) z; ⟨b103, o103, q, (me103.mv m108 no_No)⟩)).u 28 (fun _ => R)).u 35 (fun z => let ⟨b118, o118, q, me118⟩ := (i.p 35) z; ⟨b118, o118, q, (me118.mv m108 no_No)⟩)).u 39 (fun z => let ⟨b124, o124, q, me124⟩ := (i.p 39) z; ⟨b124, o124, q, (me124.mv m108 no_No)⟩)⟩)
       ·rintro D e s109 ⟨im, ib, i⟩ hk hf ha
        have g19_ := (i.p 19) (ha.at 19 R)
        rw [hc94] at g19_
        have kn := K2 g19_ ((i.p 28) (ha.at 28 R))
        exact kn.g (L.pkT Y R R R R (L.nil (X.dk kn ⟨im, Sub.fresh ib R, i.u 29 (fun _ => R)⟩)))
       ·rintro D e s110 ⟨im, ib, i⟩ hk hf ha
        have kn := K1 ((i.p 29) (ha.at 29 R))
        exact kn.g (L.mv Y R R (L.nil (X.dk kn ⟨im, Sub.fresh ib R, i.u 30 (fun _ => R)⟩)))
       ·rintro D e s112 ⟨im, ib, i⟩ hk hf ha
        have g30_ := (i.p 30) (ha.at 30 R)
        rw [hc111] at g30_
        have kn := K2 (ib 7 _ R) g30_
        exact kn.g (L.mv (Wt.mk R R) R R (L.nil (X.dk kn ⟨im, Sub.fresh ib R, i.u 31 (fun _ => R)⟩)))
       ·rintro D e s113 ⟨im, ib, i⟩ hk hf ha
        have g30_ := (i.p 30) (ha.at 30 R)
        rw [hc111] at g30_
        have kn := K2 (ib 9 _ R) g30_
        exact kn.g (L.mv (Wt.mk R R) R R (L.nil (X.dk kn ⟨im, Sub.fresh ib R, i.u 32 (fun _ => R)⟩)))
       ·rintro D e s114 ⟨im, ib, i⟩ hk hf ha
        have g30_ := (i.p 30) (ha.at 30 R)
        rw [hc111] at g30_
        have kn := K2 (ib 5 _ R) g30_
        exact kn.g (L.fa fa38_2 (Wt.mk R R) R R (L.nil (X.dk kn ⟨im, Sub.fresh ib R, i.u 33 (fun _ => R)⟩)))
       ·rintro D e s115 ⟨im, ib, i⟩ hk hf ha
        have g30_ := (i.p 30) (ha.at 30 R)
        have bx14 := bx14.mv im no_No
        rw [hc111] at g30_
        have kn := K2 ((i.p 33) (ha.at 33 R)) g30_
        exact kn.g (L.ld (j := 2) bx14.mem nag22 (Wt.mk R R) R R R R (L.nil (X.dk kn ⟨im, Sub.fresh ib R, i.u 34 (fun _ => R)⟩)))
       ·rintro D e s116 ⟨im, ib, i⟩ hk hf ha
        have g30_ := (i.p 30) (ha.at 30 R)
        have h10 := h10.mono im.z
        rw [hc111] at g30_
        have kn := K2 ((i.p 34) (ha.at 34 R)) g30_
        refine kn.g (L.ix (r := qI) sl22 h10 (Wt.mk R R) R R ex117 R fun b118 o118 cc118 me118 rd118 => ?_)
        obtain rfl := rd118
        exact L.nil (X.dk kn ⟨im, Sub.fresh ib R, i.u 35 (fun _ => ⟨b118, o118, R, me118⟩)⟩)
       ·rintro D e s119 ⟨im, ib, i⟩ hk hf ha
        have g30_ := (i.p 30) (ha.at 30 R)
        obtain ⟨b118, o118, g35_, me118⟩ := (i.p 35) (ha.at 35 R)
        rw [hc111] at g30_
        have kn := K2 g35_ g30_
        exact kn.g (L.ld (j := 0) me118 nag3 (Wt.mk R R) R R R R (L.nil (X.dk kn ⟨im, Sub.fresh ib R, i.u 36 (fun _ => R)⟩)))
       ·rintro D e s120 ⟨im, ib, i⟩ hk hf ha
        have g30_ := (i.p 30) (ha.at 30 R)
        rw [hc111] at g30_
        have kn := K2 (ib 5 _ R) g30_
        exact kn.g (L.fa fa38_2 (Wt.mk R R) R R (L.nil (X.dk kn ⟨im, Sub.fresh ib R, i.u 37 (fun _ => R)⟩)))
       ·rintro D e s121 ⟨im, ib, i⟩ hk hf ha
        have g30_ := (i.p 30) (ha.at 30 R)
        have bx14 := bx14.mv im no_No
        rw [hc111] at g30_
        have kn := K2 ((i.p 37) (ha.at 37 R)) g30_
        exact kn.g (L.ld (j := 2) bx14.mem nag22 (Wt.mk R R) R R R R (L.nil (X.dk kn ⟨im, Sub.fresh ib R, i.u 38 (fun _ => R)⟩)))
       ·rintro D e s122 ⟨im, ib, i⟩ hk hf ha
        have g30_ := (i.p 30) (ha.at 30 R)
        have h10 := h10.mono im.z
        rw [hc111] at g30_
        have kn := K2 ((i.p 38) (ha.at 38 R)) g30_
        refine kn.g (L.ix (r := qI) sl22 h10 (Wt.mk R R) R R ex123 R fun b124 o124 cc124 me124 rd124 => ?_)
        obtain rfl := rd124
        exact L.nil (X.dk kn ⟨im, Sub.fresh ib R, i.u 39 (fun _ => ⟨b124, o124, R, me124⟩)⟩)
       ·rintro D e s125 ⟨im, ib, i⟩ hk hf ha
        have g30_ := (i.p 30) (ha.at 30 R)
        obtain ⟨b124, o124, g39_, me124⟩ := (i.p 39) (ha.at 39 R)
        rw [hc111] at g30_
        have kn := K2 g39_ g30_
        exact kn.g (L.ld (j := 0) me124 nag3 (Wt.mk R R) R R R R (L.nil (X.dk kn ⟨im, Sub.fresh ib R, i.u 40 (fun _ => R)⟩)))
       ·rintro D e s126 ⟨im, ib, i⟩ hk hf ha
        have g30_ := (i.p 30) (ha.at 30 R)
        have bx22 := bx22.mv im no_No
        have h23 := h23.mono im.z
        have h24 := h24.mono im.z
        have h25 := h25.mono im.z
        have h26 := h26.mono im.z
        have h27 := h27.mono im.z
        have h28 := h28.mono im.z
        have h29 := h29.mono im.z
        have h30 := h30.mono im.z
        have h31 := h31.mono im.z
        have h32 := h32.mono im.z
        have h33 := h33.mono im.z
        have h34 := h34.mono im.z
        have h35 := h35.mono im.z
        have h36 := h36.mono im.z
        have h37 := h37.mono im.z
        rw [hc111] at g30_
        have kn := K5 ((i.p 31) (ha.at 31 R)) ((i.p 32) (ha.at 32 R)) ((i.p 36) (ha.at 36 R)) ((i.p 40) (ha.at 40 R)) g30_
        refine kn.g (L.ca cf60 R R (Wt.mk R R) R (m_scan_task_delayed_c (s := s126) (p0 := x21) (p1 := r45) (p2 := x117) (p3 := x123) (t0 := 0) h23 h24 h25 h26 h27 h28 h29 h30 h31 h32 h33 h34 h35 h36 h37 bx22 er127) R ?_)
        rintro _ s128 m129 rfl
        exact L.nil (X.dk kn ⟨im.trans m129.no, Sub.fresh ib R, ((((i.u 15 (fun z => let ⟨b86, o86, q, me86⟩ := (i.p 15) z; ⟨b86, o86, q, (me86.mv m129 no_No)⟩)).u 26 (fun z => let ⟨b103, o103, q, me103⟩ := (i.p 26) z; ⟨b103, o103, q, (me103.mv m129 no_No)⟩)).u 35 (fun z => let ⟨b118, o118, q, me118⟩ := (i.p 35) z; ⟨b118, o118, q, (me118.mv m129 no_No)⟩)).u 39 (fun z => let ⟨b124, o124, q, me124⟩ := (i.p 39) z; ⟨b124, o124, q, (me124.mv m129 no_No)⟩)).u 41 (fun _ => R)⟩)
       ·rintro D e s130 ⟨im, ib, i⟩ hk hf ha
        have g30_ := (i.p 30) (ha.at 30 R)
        rw [hc111] at g30_
        have kn := K2 g30_ ((i.p 41) (ha.at 41 R))
        exact kn.g (L.pkT Y R R R R (L.nil (X.dk kn ⟨im, Sub.fresh ib R, i.u 42 (fun _ => R)⟩)))
       rintro D e s131 ⟨im, ib, i⟩ hk hf ha
       have kn := K1 ((i.p 42) (ha.at 42 R))
       exact kn.g (L.as Y R R (L.nil (X.dk kn ⟨im, Sub.fresh ib R, i.u 43 (fun _ => R)⟩)))
      rintro D e s132 hD ⟨im, ib, i⟩
      have g43_ := (i.p 43) (hD 43 R)
      have m0 := m0.trans im.no
      refine X.sub (e' := [(10, .bool r127)]) ?_ (Sub.cons g43_ Sub.nil)
      exact X.blkN (X.sub (Jj52 _ _ ⟨s132, r127, hm, m0, R, R⟩) (Sub.rf R))
     have _ := hN
     refine E.draw m_scan_Verify_w0 (fun D e sx => Mv No s49 sx ∧ Sub [(9, .int .i64 r45), (7, .pointer (some ⟨b22, 0, none⟩)), (5, .pointer (some ⟨b14, 0, none⟩))] e ∧ AllP [G D e 0 52 (.int .i64 r45), G D e 1 53 (.bool (r45 != (-1))), G D e 2 54 (.bool (r45 != (-1))), G D e 3 55 (.pointer (some ⟨b14, 2, none⟩)), G D e 4 56 (.slice a10 p2.2.2.length c10), G D e 5 57 (.int .i64 (p2.2.2.length : Int)), G D e 6 58 (.bool ((p2.2.2.length : Int) == 2)), G D e 7 59 (.bool ((p2.2.2.length : Int) == 2)), G D e 8 60 (.bool ((p2.2.2.length : Int) == 2)), G D e 9 61 (.pointer (some ⟨b22, 0, none⟩)), G D e 10 62 (.pointer (some ⟨b22, 0, none⟩)), G D e 11 63 (.pointer (some ⟨b22, 16, none⟩)), G D e 12 64 (.slice a36 x21.2.2.2.2.1.length c36), G D e 13 65 (.pointer (some ⟨b14, 2, none⟩)), G D e 14 66 (.slice a10 p2.2.2.length c10), D 15 = true → (∃ (b86 : Nat) (o86 : Nat), Env.get e 67 = some (.pointer (some ⟨b86, o86, none⟩)) ∧ Mem sx 0 b86 o86 [.int .i64 x85]), G D e 16 68 (.int .i64 x85), G D e 17 69 (.bool r89), G D e 18 70 (.bool r89), G D e 19 71 (.bool r89), G D e 20 72 (.pointer (some ⟨b22, 0, none⟩)), G D e 21 73 (.pointer (some ⟨b22, 0, none⟩)), G D e 22 74 (.pointer (some ⟨b22, 17, none⟩)), G D e 23 75 (.slice a37 x21.2.2.2.2.2.length c37), G D e 24 76 (.pointer (some ⟨b14, 2, none⟩)), G D e 25 77 (.slice a10 p2.2.2.length c10), D 26 = true → (∃ (b103 : Nat) (o103 : Nat), Env.get e 78 = some (.pointer (some ⟨b103, o103, none⟩)) ∧ Mem sx 0 b103 o103 [.int .i64 x102]), G D e 27 79 (.int .i64 x102), G D e 28 80 (.bool r106), G D e 29 81 (.bool r106), G D e 30 82 (.bool r106), G D e 31 83 undef, G D e 32 84 undef, G D e 33 85 undef, G D e 34 86 undef, G D e 35 87 undef, G D e 36 88 undef, G D e 37 89 undef, G D e 38 90 undef, G D e 39 91 undef, G D e 40 92 undef, G D e 41 93 undef, G D e 42 94 (.bool false), G D e 43 10 (.bool false)]) (by kernel_rfl) (by kernel_rfl) (by kernel_rfl) ?_ ?_ ?_
     ·intro sz mz
      exact ⟨mz, (Sub.rf R), nofun, nofun, nofun, nofun, nofun, nofun, nofun, nofun, nofun, nofun, nofun, nofun, nofun, nofun, nofun, nofun, nofun, nofun, nofun, nofun, nofun, nofun, nofun, nofun, nofun, nofun, nofun, nofun, nofun, nofun, nofun, nofun, nofun, nofun, nofun, nofun, nofun, nofun, nofun, nofun, nofun, nofun, nofun, nofun, trivial⟩
     ·refine ⟨?_, ?_, ?_, ?_, ?_, ?_, ?_, ?_, ?_, ?_, ?_, ?_, ?_, ?_, ?_, ?_, ?_, ?_, ?_, ?_, ?_, ?_, ?_, ?_, ?_, ?_, ?_, ?_, ?_, ?_, ?_, ?_, ?_, ?_, ?_, ?_, ?_, ?_, ?_, ?_, ?_, ?_, ?_, ?_, trivial⟩
      ·rintro D e s67 ⟨im, ib, i⟩ hk hf ha
       have kn := K1 (ib 9 _ R)
       exact kn.g (L.mv Y R R (L.nil (X.dk kn ⟨im, Sub.fresh ib R, i.u 0 (fun _ => R)⟩)))
      ·rintro D e s68 ⟨im, ib, i⟩ hk hf ha
       have kn := K1 ((i.p 0) (ha.at 0 R))
       exact kn.g (L.bi Y R R R R (L.nil (X.dk kn ⟨im, Sub.fresh ib R, i.u 1 (fun _ => R)⟩)))
      ·rintro D e s69 ⟨im, ib, i⟩ hk hf ha
       have kn := K1 ((i.p 1) (ha.at 1 R))
       exact kn.g (L.mv Y R R (L.nil (X.dk kn ⟨im, Sub.fresh ib R, i.u 2 (fun _ => R)⟩)))
      ·rintro D e s71 ⟨im, ib, i⟩ hk hf ha
       have g2_ := (i.p 2) (ha.at 2 R)
       rw [hc70] at g2_
       have kn := K2 (ib 5 _ R) g2_
       exact kn.g (L.fa fa38_2 (Wt.mk R R) R R (L.nil (X.dk kn ⟨im, Sub.fresh ib R, i.u 3 (fun _ => R)⟩)))
      ·rintro D e s72 ⟨im, ib, i⟩ hk hf ha
       have g2_ := (i.p 2) (ha.at 2 R)
       have bx14 := bx14.mv im no_No
       rw [hc70] at g2_
       have kn := K2 ((i.p 3) (ha.at 3 R)) g2_
       exact kn.g (L.ld (j := 2) bx14.mem nag22 (Wt.mk R R) R R R R (L.nil (X.dk kn ⟨im, Sub.fresh ib R, i.u 4 (fun _ => R)⟩)))
      ·rintro D e s73 ⟨im, ib, i⟩ hk hf ha
       have g2_ := (i.p 2) (ha.at 2 R)
       rw [hc70] at g2_
       have kn := K2 ((i.p 4) (ha.at 4 R)) g2_
       exact kn.g (L.len sl22 (Wt.mk R R) R R (L.nil (X.dk kn ⟨im, Sub.fresh ib R, i.u 5 (fun _ => R)⟩)))
      ·rintro D e s74 ⟨im, ib, i⟩ hk hf ha
       have g2_ := (i.p 2) (ha.at 2 R)
       rw [hc70] at g2_
       have kn := K2 ((i.p 5) (ha.at 5 R)) g2_
       exact kn.g (L.bi (Wt.mk R R) R R R R (L.nil (X.dk kn ⟨im, Sub.fresh ib R, i.u 6 (fun _ => R)⟩)))
      ·rintro D e s75 ⟨im, ib, i⟩ hk hf ha
       have g2_ := (i.p 2) (ha.at 2 R)
       rw [hc70] at g2_
       have kn := K2 g2_ ((i.p 6) (ha.at 6 R))
       exact kn.g (L.pkT Y R R R R (L.nil (X.dk kn ⟨im, Sub.fresh ib R, i.u 7 (fun _ => R)⟩)))
      ·rintro D e s76 ⟨im, ib, i⟩ hk hf ha
       have kn := K1 ((i.p 7) (ha.at 7 R))
       exact kn.g (L.mv Y R R (L.nil (X.dk kn ⟨im, Sub.fresh ib R, i.u 8 (fun _ => R)⟩)))
      ·rintro D e s78 ⟨im, ib, i⟩ hk hf ha
       have g8_ := (i.p 8) (ha.at 8 R)
       rw [hc77] at g8_
       have kn := K2 (ib 7 _ R) g8_
       exact kn.g (L.mv (Wt.mk R R) R R (L.nil (X.dk kn ⟨im, Sub.fresh ib R, i.u 9 (fun _ => R)⟩)))
      ·rintro D e s79 ⟨im, ib, i⟩ hk hf ha
       have g8_ := (i.p 8) (ha.at 8 R)
       rw [hc77] at g8_
       have kn := K2 ((i.p 9) (ha.at 9 R)) g8_
       exact kn.g (L.nc (Wt.mk R R) R R (L.nil (X.dk kn ⟨im, Sub.fresh ib R, i.u 10 (fun _ => R)⟩)))
      ·rintro D e s80 ⟨im, ib, i⟩ hk hf ha
       have g8_ := (i.p 8) (ha.at 8 R)
       rw [hc77] at g8_
       have kn := K2 ((i.p 10) (ha.at 10 R)) g8_
       exact kn.g (L.fa fa110_4 (Wt.mk R R) R R (L.nil (X.dk kn ⟨im, Sub.fresh ib R, i.u 11 (fun _ => R)⟩)))
      ·rintro D e s81 ⟨im, ib, i⟩ hk hf ha
       have g8_ := (i.p 8) (ha.at 8 R)
       have bx22 := bx22.mv im no_No
       rw [hc77] at g8_
       have kn := K2 ((i.p 11) (ha.at 11 R)) g8_
       exact kn.g (L.ld (j := 16) bx22.mem nag22 (Wt.mk R R) R R R R (L.nil (X.dk kn ⟨im, Sub.fresh ib R, i.u 12 (fun _ => R)⟩)))
      ·rintro D e s82 ⟨im, ib, i⟩ hk hf ha
       have g8_ := (i.p 8) (ha.at 8 R)
       rw [hc77] at g8_
       have kn := K2 (ib 5 _ R) g8_
       exact kn.g (L.fa fa38_2 (Wt.mk R R) R R (L.nil (X.dk kn ⟨im, Sub.fresh ib R, i.u 13 (fun _ => R)⟩)))
      ·rintro D e s83 ⟨im, ib, i⟩ hk hf ha
       have g8_ := (i.p 8) (ha.at 8 R)
       have bx14 := bx14.mv im no_No
       rw [hc77] at g8_
       have kn := K2 ((i.p 13) (ha.at 13 R)) g8_
       exact kn.g (L.ld (j := 2) bx14.mem nag22 (Wt.mk R R) R R R R (L.nil (X.dk kn ⟨im, Sub.fresh ib R, i.u 14 (fun _ => R)⟩)))
      ·rintro D e s84 ⟨im, ib, i⟩ hk hf ha
       have g8_ := (i.p 8) (ha.at 8 R)
       have h10 := h10.mono im.z
       rw [hc77] at g8_
       have kn := K2 ((i.p 14) (ha.at 14 R)) g8_
       refine kn.g (L.ix (r := qI) sl22 h10 (Wt.mk R R) R R ex85 R fun b86 o86 cc86 me86 rd86 => ?_)
       obtain rfl := rd86
       exact L.nil (X.dk kn ⟨im, Sub.fresh ib R, i.u 15 (fun _ => ⟨b86, o86, R, me86⟩)⟩)
      ·rintro D e s87 ⟨im, ib, i⟩ hk hf ha
       have g8_ := (i.p 8) (ha.at 8 R)
       obtain ⟨b86, o86, g15_, me86⟩ := (i.p 15) (ha.at 15 R)
       rw [hc77] at g8_
       have kn := K2 g15_ g8_
       exact kn.g (L.ld (j := 0) me86 nag3 (Wt.mk R R) R R R R (L.nil (X.dk kn ⟨im, Sub.fresh ib R, i.u 16 (fun _ => R)⟩)))
      ·rintro D e s88 ⟨im, ib, i⟩ hk hf ha
       have g8_ := (i.p 8) (ha.at 8 R)
       have h36 := h36.mono im.z
       rw [hc77] at g8_
       have kn := K3 ((i.p 12) (ha.at 12 R)) ((i.p 16) (ha.at 16 R)) g8_
       refine kn.g (L.ca cf68 R R (Wt.mk R R) R (m_alphabet_Contains_c (s := s88) (p0 := x21.2.2.2.2.1) (p1 := x85) h36 er89) R ?_)
       rintro _ s90 m91 rfl
       exact L.nil (X.dk kn ⟨im.trans m91.no, Sub.fresh ib R, ((i.u 15 (fun z => let ⟨b86, o86, q, me86⟩ := (i.p 15) z; ⟨b86, o86, q, (me86.mv m91 no_No)⟩)).u 17 (fun _ => R)).u 26 (fun z => let ⟨b103, o103, q, me103⟩ := (i.p 26) z; ⟨b103, o103, q, (me103.mv m91 no_No)⟩)⟩)
      ·rintro D e s92 ⟨im, ib, i⟩ hk hf ha
       have g8_ := (i.p 8) (ha.at 8 R)
       rw [hc77] at g8_
       have kn := K2 g8_ ((i.p 17) (ha.at 17 R))
       exact kn.g (L.pkT Y R R R R (L.nil (X.dk kn ⟨im, Sub.fresh ib R, i.u 18 (fun _ => R)⟩)))
      ·rintro D e s93 ⟨im, ib, i⟩ hk hf ha
       have kn := K1 ((i.p 18) (ha.at 18 R))
       exact kn.g (L.mv Y R R (L.nil (X.dk kn ⟨im, Sub.fresh ib R, i.u 19 (fun _ => R)⟩)))
      ·rintro D e s95 ⟨im, ib, i⟩ hk hf ha
       have g19_ := (i.p 19) (ha.at 19 R)
       rw [hc94] at g19_
       have kn := K2 (ib 7 _ R) g19_
       exact kn.g (L.mv (Wt.mk R R) R R (L.nil (X.dk kn ⟨im, Sub.fresh ib R, i.u 20 (fun _ => R)⟩)))
      ·rintro D e s96 ⟨im, ib, i⟩ hk hf ha
       have g19_ := (i.p 19) (ha.at 19 R)
       rw [hc94] at g19_
       have kn := K2 ((i.p 20) (ha.at 20 R)) g19_
       exact kn.g (L.nc (Wt.mk R R) R R (L.nil (X.dk kn ⟨im, Sub.fresh ib R, i.u 21 (fun _ => R)⟩)))
      ·rintro D e s97 ⟨im, ib, i⟩ hk hf ha
       have g19_ := (i.p 19) (ha.at 19 R)
       rw [hc94] at g19_
       have kn := K2 ((i.p 21) (ha.at 21 R)) g19_
       exact kn.g (L.fa fa110_5 (Wt.mk R R) R R (L.nil (X.dk kn ⟨im, Sub.fresh ib R, i.u 22 (fun _ => R)⟩)))
      ·rintro D e s98 ⟨im, ib, i⟩ hk hf ha
       have g19_ := (i.p 19) (ha.at 19 R)
       have bx22 := bx22.mv im no_No
       rw [hc94] at g19_
       have kn := K2 ((i.p 22) (ha.at 22 R)) g19_
       exact kn.g (L.ld (j := 17) bx22.mem nag22 (Wt.mk R R) R R R R (L.nil (X.dk kn ⟨im, Sub.fresh ib R, i.u 23 (fun _ => R)⟩)))
      ·rintro D e s99 ⟨im, ib, i⟩ hk hf ha
       have g19_ := (i.p 19) (ha.at 19 R)
       rw [hc94] at g19_
       have kn := K2 (ib 5 _ R) g19_
       exact kn.g (L.fa fa38_2 (Wt.mk R R) R R (L.nil (X.dk kn ⟨im, Sub.fresh ib R, i.u 24 (fun _ => R)⟩)))
      ·rintro D e s100 ⟨im, ib, i⟩ hk hf ha
       have g19_ := (i.p 19) (ha.at 19 R)
       have bx14 := bx14.mv im no_No
       rw [hc94] at g19_
       have kn := K2 ((i.p 24) (ha.at 24 R)) g19_
       exact kn.g (L.ld (j := 2) bx14.mem nag22 (Wt.mk R R) R R R R (L.nil (X.dk kn ⟨im, Sub.fresh ib R, i.u 25 (fun _ => R)⟩)))
      ·rintro D e s101 ⟨im, ib, i⟩ hk hf ha
       have g19_ := (i.p 19) (ha.at 19 R)
       have h10 := h10.mono im.z
       rw [hc94] at g19_
       have kn := K2 ((i.p 25) (ha.at 25 R)) g19_
       refine kn.g (L.ix (r := qI) sl22 h10 (Wt.mk R R) R R ex102 R fun b103 o103 cc103 me103 rd103 => ?_)
       obtain rfl := rd103
       exact L.nil (X.dk kn ⟨im, Sub.fresh ib R, i.u 26 (fun _ => ⟨b103, o103, R, me103⟩)⟩)
      ·rintro D e s104 ⟨im, ib, i⟩ hk hf ha
       have g19_ := (i.p 19) (ha.at 19 R)
       obtain ⟨b103, o103, g26_, me103⟩ := (i.p 26) (ha.at 26 R)
       rw [hc94] at g19_
       have kn := K2 g26_ g19_
       exact kn.g (L.ld (j := 0) me103 nag3 (Wt.mk R R) R R R R (L.nil (X.dk kn ⟨im, Sub.fresh ib R, i.u 27 (fun _ => R)⟩)))
      ·rintro D e s105 ⟨im, ib, i⟩ hk hf ha
       have g19_ := (i.p 19) (ha.at 19 R)
       have h37 := h37.mono im.z
       rw [hc94] at g19_
       have kn := K3 ((i.p 23) (ha.at 23 R)) ((i.p 27) (ha.at 27 R)) g19_
       refine kn.g (L.ca cf68 R R (Wt.mk R R) R (m_alphabet_Contains_c (s := s105) (p0 := x21.2.2.2.2.2) (p1 := x102) h37 er106) R ?_)
       rintro _ s107 m108 rfl
       exact L.nil (X.dk kn ⟨im.trans m108.no, Sub.fresh ib R, ((i.u 15 (fun z => let ⟨b86, o86, q, me86⟩ := (i.p 15) z; ⟨b86, o86, q, (me86.mv m108 no_No)⟩)).u 26 (fun z => let ⟨b103, o103, q, me103⟩ := (i.p 26) z; ⟨b103, o103, q, (me103.mv m108 no_No)⟩)).u 28 (fun _ => R)⟩)
      ·rintro D e s109 ⟨im, ib, i⟩ hk hf ha
       have g19_ := (i.p 19) (ha.at 19 R)
       rw [hc94] at g19_
       have kn := K2 g19_ ((i.p 28) (ha.at 28 R))
       exact kn.g (L.pkT Y R R R R (L.nil (X.dk kn ⟨im, Sub.fresh ib R, i.u 29 (fun _ => R)⟩)))
      ·rintro D e s110 ⟨im, ib, i⟩ hk hf ha
       have kn := K1 ((i.p 29) (ha.at 29 R))
       exact kn.g (L.mv Y R R (L.nil (X.dk kn ⟨im, Sub.fresh ib R, i.u 30 (fun _ => R)⟩)))
      ·rintro D e s133 ⟨im, ib, i⟩ hk hf ha
       have g30_ := (i.p 30) (ha.at 30 R)
       rw [hc111] at g30_
       have kn := K2 (ib 7 _ R) g30_
       exact kn.g (L.skip R R R R (L.nil (X.dk kn ⟨im, Sub.fresh ib R, i.u 31 (fun _ => R)⟩)))
      ·rintro D e s134 ⟨im, ib, i⟩ hk hf ha
       have g30_ := (i.p 30) (ha.at 30 R)
       rw [hc111] at g30_
       have kn := K2 (ib 9 _ R) g30_
       exact kn.g (L.skip R R R R (L.nil (X.dk kn ⟨im, Sub.fresh ib R, i.u 32 (fun _ => R)⟩)))
      ·rintro D e s135 ⟨im, ib, i⟩ hk hf ha
       have g30_ := (i.p 30) (ha.at 30 R)
       rw [hc111] at g30_
       have kn := K2 (ib 5 _ R) g30_
       exact kn.g (L.skip R R R R (L.nil (X.dk kn ⟨im, Sub.fresh ib R, i.u 33 (fun _ => R)⟩)))
      ·rintro D e s136 ⟨im, ib, i⟩ hk hf ha
       have g30_ := (i.p 30) (ha.at 30 R)
       rw [hc111] at g30_
       have kn := K2 ((i.p 33) (ha.at 33 R)) g30_
       exact kn.g (L.skip R R R R (L.nil (X.dk kn ⟨im, Sub.fresh ib R, i.u 34 (fun _ => R)⟩)))
      ·rintro D e s137 ⟨im, ib, i⟩ hk hf ha
       have g30_ := (i.p 30) (ha.at 30 R)
       rw [hc111] at g30_
       have kn := K2 ((i.p 34) (ha.at 34 R)) g30_
       exact kn.g (L.skip R R R R (L.nil (X.dk kn ⟨im, Sub.fresh ib R, i.u 35 (fun _ => R)⟩)))
      ·rintro D e s138 ⟨im, ib, i⟩ hk hf ha
       have g30_ := (i.p 30) (ha.at 30 R)
       rw [hc111] at g30_
       have kn := K2 ((i.p 35) (ha.at 35 R)) g30_
       exact kn.g (L.skip R R R R (L.nil (X.dk kn ⟨im, Sub.fresh ib R, i.u 36 (fun _ => R)⟩)))
      ·rintro D e s139 ⟨im, ib, i⟩ hk hf ha
       have g30_ := (i.p 30) (ha.at 30 R)
       rw [hc111] at g30_
       have kn := K2 (ib 5 _ R) g30_
       exact kn.g (L.skip R R R R (L.nil (X.dk kn ⟨im, Sub.fresh ib R, i.u 37 (fun _ => R)⟩)))
      ·rintro D e s140 ⟨im, ib, i⟩ hk hf ha
       have g30_ := (i.p 30) (ha.at 30 R)
       rw [hc111] at g30_
       have kn := K2 ((i.p 37) (ha.at 37 R)) g30_
       exact kn.g (L.skip R R R R (L.nil (X.dk kn ⟨im, Sub.fresh ib R, i.u 38 (fun _ => R)⟩)))
      ·rintro D e s141 ⟨im, ib, i⟩ hk hf ha
       have g30_ := (i.p 30) (ha.at 30 R)
       rw [hc111] at g30_
       have kn := K2 ((i.p 38) (ha.at 38 R)) g30_
       exact kn.g (L.skip R R R R (L.nil (X.dk kn ⟨im, Sub.fresh ib R, i.u 39 (fun _ => R)⟩)))
      ·rintro D e s142 ⟨im, ib, i⟩ hk hf ha
       have g30_ := (i.p 30) (ha.at 30 R)
       rw [hc111] at g30_
       have kn := K2 ((i.p 39) (ha.at 39 R)) g30_
       exact kn.g (L.skip R R R R (L.nil (X.dk kn ⟨im, Sub.fresh ib R, i.u 40 (fun _ => R)⟩)))
      ·rintro D e s143 ⟨im, ib, i⟩ hk hf ha
       have g30_ := (i.p 30) (ha.at 30 R)
       rw [hc111] at g30_
       have kn := K5 ((i.p 31) (ha.at 31 R)) ((i.p 32) (ha.at 32 R)) ((i.p 36) (ha.at 36 R)) ((i.p 40) (ha.at 40 R)) g30_
       exact kn.g (L.skip R R R R (L.nil (X.dk kn ⟨im, Sub.fresh ib R, i.u 41 (fun _ => R)⟩)))
      ·rintro D e s144 ⟨im, ib, i⟩ hk hf ha
       have g30_ := (i.p 30) (ha.at 30 R)
       rw [hc111] at g30_
       have kn := K2 g30_ ((i.p 41) (ha.at 41 R))
       exact kn.g (L.pkF Y R R R R (L.nil (X.dk kn ⟨im, Sub.fresh ib R, i.u 42 (fun _ => R)⟩)))
      rintro D e s145 ⟨im, ib, i⟩ hk hf ha
      have kn := K1 ((i.p 42) (ha.at 42 R))
      exact kn.g (L.as Y R R (L.nil (X.dk kn ⟨im, Sub.fresh ib R, i.u 43 (fun _ => R)⟩)))
     rintro D e s146 hD ⟨im, ib, i⟩
     have g43_ := (i.p 43) (hD 43 R)
     have m0 := m0.trans im.no
     refine X.sub (e' := [(10, .bool false)]) ?_ (Sub.cons g43_ Sub.nil)
     exact X.blkN (X.sub (Jj52 _ _ ⟨s146, false, hm, m0, R, R⟩) (Sub.rf R))
    have _ := hN
    refine E.draw m_scan_Verify_w0 (fun D e sx => Mv No s49 sx ∧ Sub [(9, .int .i64 r45), (7, .pointer (some ⟨b22, 0, none⟩)), (5, .pointer (some ⟨b14, 0, none⟩))] e ∧ AllP [G D e 0 52 (.int .i64 r45), G D e 1 53 (.bool (r45 != (-1))), G D e 2 54 (.bool (r45 != (-1))), G D e 3 55 (.pointer (some ⟨b14, 2, none⟩)), G D e 4 56 (.slice a10 p2.2.2.length c10), G D e 5 57 (.int .i64 (p2.2.2.length : Int)), G D e 6 58 (.bool ((p2.2.2.length : Int) == 2)), G D e 7 59 (.bool ((p2.2.2.length : Int) == 2)), G D e 8 60 (.bool ((p2.2.2.length : Int) == 2)), G D e 9 61 (.pointer (some ⟨b22, 0, none⟩)), G D e 10 62 (.pointer (some ⟨b22, 0, none⟩)), G D e 11 63 (.pointer (some ⟨b22, 16, none⟩)), G D e 12 64 (.slice a36 x21.2.2.2.2.1.length c36), G D e 13 65 (.pointer (some ⟨b14, 2, none⟩)), G D e 14 66 (.slice a10 p2.2.2.length c10), D 15 = true → (∃ (b86 : Nat) (o86 : Nat), Env.get e 67 = some (.pointer (some ⟨b86, o86, none⟩)) ∧ Mem sx 0 b86 o86 [.int .i64 x85]), G D e 16 68 (.int .i64 x85), G D e 17 69 (.bool r89), G D e 18 70 (.bool r89), G D e 19 71 (.bool r89), G D e 20 72 undef, G D e 21 73 undef, G D e 22 74 undef, G D e 23 75 undef, G D e 24 76 undef, G D e 25 77 undef, G D e 26 78 undef, G D e 27 79 undef, G D e 28 80 undef, G D e 29 81 (.bool false), G D e 30 82 (.bool false), G D e 31 83 undef, G D e 32 84 undef, G D e 33 85 undef, G D e 34 86 undef, G D e 35 87 undef, G D e 36 88 undef, G D e 37 89 undef, G D e 38 90 undef, G D e 39 91 undef, G D e 40 92 undef, G D e 41 93 undef, G D e 42 94 (.bool false), G D e 43 10 (.bool false)]) (by kernel_rfl) (by kernel_rfl) (by kernel_rfl) ?_ ?_ ?_
    ·intro sz mz
     exact ⟨mz, (Sub.rf R), nofun, nofun, nofun, nofun, nofun, nofun, nofun, nofun, nofun, nofun, nofun, nofun, nofun, nofun, nofun, nofun, nofun, nofun, nofun, nofun, nofun, nofun, nofun, nofun, nofun, nofun, nofun, nofun, nofun, nofun, nofun, nofun, nofun, nofun, nofun, nofun, nofun, nofun, nofun, nofun, nofun, nofun, nofun, nofun, trivial⟩
    ·refine ⟨?_, ?_, ?_, ?_, ?_, ?_, ?_, ?_, ?_, ?_, ?_, ?_, ?_, ?_, ?_, ?_, ?_, ?_, ?_, ?_, ?_, ?_, ?_, ?_, ?_, ?_, ?_, ?_, ?_, ?_, ?_, ?_, ?_, ?_, ?_, ?_, ?_, ?_, ?_, ?_, ?_, ?_, ?_, ?_, trivial⟩
     ·rintro D e s67 ⟨im, ib, i⟩ hk hf ha
      have kn := K1 (ib 9 _ R)
      exact kn.g (L.mv Y R R (L.nil (X.dk kn ⟨im, Sub.fresh ib R, i.u 0 (fun _ => R)⟩)))
     ·rintro D e s68 ⟨im, ib, i⟩ hk hf ha
      have kn := K1 ((i.p 0) (ha.at 0 R))
      exact kn.g (L.bi Y R R R R (L.nil (X.dk kn ⟨im, Sub.fresh ib R, i.u 1 (fun _ => R)⟩)))
     ·rintro D e s69 ⟨im, ib, i⟩ hk hf ha
      have kn := K1 ((i.p 1) (ha.at 1 R))
      exact kn.g (L.mv Y R R (L.nil (X.dk kn ⟨im, Sub.fresh ib R, i.u 2 (fun _ => R)⟩)))
     ·rintro D e s71 ⟨im, ib, i⟩ hk hf ha
      have g2_ := (i.p 2) (ha.at 2 R)
      rw [hc70] at g2_
      have kn := K2 (ib 5 _ R) g2_
      exact kn.g (L.fa fa38_2 (Wt.mk R R) R R (L.nil (X.dk kn ⟨im, Sub.fresh ib R, i.u 3 (fun _ => R)⟩)))
     ·rintro D e s72 ⟨im, ib, i⟩ hk hf ha
      have g2_ := (i.p 2) (ha.at 2 R)
      have bx14 := bx14.mv im no_No
      rw [hc70] at g2_
      have kn := K2 ((i.p 3) (ha.at 3 R)) g2_
      exact kn.g (L.ld (j := 2) bx14.mem nag22 (Wt.mk R R) R R R R (L.nil (X.dk kn ⟨im, Sub.fresh ib R, i.u 4 (fun _ => R)⟩)))
     ·rintro D e s73 ⟨im, ib, i⟩ hk hf ha
      have g2_ := (i.p 2) (ha.at 2 R)
      rw [hc70] at g2_
      have kn := K2 ((i.p 4) (ha.at 4 R)) g2_
      exact kn.g (L.len sl22 (Wt.mk R R) R R (L.nil (X.dk kn ⟨im, Sub.fresh ib R, i.u 5 (fun _ => R)⟩)))
     ·rintro D e s74 ⟨im, ib, i⟩ hk hf ha
      have g2_ := (i.p 2) (ha.at 2 R)
      rw [hc70] at g2_
      have kn := K2 ((i.p 5) (ha.at 5 R)) g2_
      exact kn.g (L.bi (Wt.mk R R) R R R R (L.nil (X.dk kn ⟨im, Sub.fresh ib R, i.u 6 (fun _ => R)⟩)))
     ·rintro D e s75 ⟨im, ib, i⟩ hk hf ha
      have g2_ := (i.p 2) (ha.at 2 R)
      rw [hc70] at g2_
      have kn := K2 g2_ ((i.p 6) (ha.at 6 R))
      exact kn.g (L.pkT Y R R R R (L.nil (X.dk kn ⟨im, Sub.fresh ib R, i.u 7 (fun _ => R)⟩)))
     ·rintro D e s76 ⟨im, ib, i⟩ hk hf ha
      have kn := K1 ((i.p 7) (ha.at 7 R))
      exact kn.g (L.mv Y R R (L.nil (X.dk kn ⟨im, Sub.fresh ib R, i.u 8 (fun _ => R)⟩)))
     ·rintro D e s78 ⟨im, ib, i⟩ hk hf ha
      have g8_ := (i.p 8) (ha.at 8 R)
      rw [hc77] at g8_
      have kn := K2 (ib 7 _ R) g8_
      exact kn.g (L.mv (Wt.mk R R) R R (L.nil (X.dk kn ⟨im, Sub.fresh ib R, i.u 9 (fun _ => R)⟩)))
     ·rintro D e s79 ⟨im, ib, i⟩ hk hf ha
      have g8_ := (i.p 8) (ha.at 8 R)
      rw [hc77] at g8_
      have kn := K2 ((i.p 9) (ha.at 9 R)) g8_
      exact kn.g (L.nc (Wt.mk R R) R R (L.nil (X.dk kn ⟨im, Sub.fresh ib R, i.u 10 (fun _ => R)⟩)))
     ·rintro D e s80 ⟨im, ib, i⟩ hk hf ha
      have g8_ := (i.p 8) (ha.at 8 R)
      rw [hc77] at g8_
      have kn := K2 ((i.p 10) (ha.at 10 R)) g8_
      exact kn.g (L.fa fa110_4 (Wt.mk R R) R R (L.nil (X.dk kn ⟨im, Sub.fresh ib R, i.u 11 (fun _ => R)⟩)))
     ·rintro D e s81 ⟨im, ib, i⟩ hk hf ha
      have g8_ := (i.p 8) (ha.at 8 R)
      have bx22 := bx22.mv im no_No
      rw [hc77] at g8_
      have kn := K2 ((i.p 11) (ha.at 11 R)) g8_
      exact kn.g (L.ld (j := 16) bx22.mem nag22 (Wt.mk R R) R R R R (L.nil (X.dk kn ⟨im, Sub.fresh ib R, i.u 12 (fun _ => R)⟩)))
     ·rintro D e s82 ⟨im, ib, i⟩ hk hf ha
      have g8_ := (i.p 8) (ha.at 8 R)
      rw [hc77] at g8_
      have kn := K2 (ib 5 _ R) g8_
      exact kn.g (L.fa fa38_2 (Wt.mk R R) R R (L.nil (X.dk kn ⟨im, Sub.fresh ib R, i.u 13 (fun _ => R)⟩)))
     ·rintro D e s83 ⟨im, ib, i⟩ hk hf ha
      have g8_ := (i.p 8) (ha.at 8 R)
      have bx14 := bx14.mv im no_No
      rw [hc77] at g8_
      have kn := K2 ((i.p 13) (ha.at 13 R)) g8_
      exact kn.g (L.ld (j := 2) bx14.mem nag22 (Wt.mk R R) R R R R (L.nil (X.dk kn ⟨im, Sub.fresh ib R, i.u 14 (fun _ => R)⟩)))
     ·rintro D e s84 ⟨im, ib, i⟩ hk hf ha
      have g8_ := (i.p 8) (ha.at 8 R)
      have h10 := h10.mono im.z
      rw [hc77] at g8_
      have kn := K2 ((i.p 14) (ha.at 14 R)) g8_
      refine kn.g (L.ix (r := qI) sl22 h10 (Wt.mk R R) R R ex85 R fun b86 o86 cc86 me86 rd86 => ?_)
      obtain rfl := rd86
      exact L.nil (X.dk kn ⟨im, Sub.fresh ib R, i.u 15 (fun _ => ⟨b86, o86, R, me86⟩)⟩)
     ·rintro D e s87 ⟨im, ib, i⟩ hk hf ha
      have g8_ := (i.p 8) (ha.at 8 R)
      obtain ⟨b86, o86, g15_, me86⟩ := (i.p 15) (ha.at 15 R)
      rw [hc77] at g8_
      have kn := K2 g15_ g8_
      exact kn.g (L.ld (j := 0) me86 nag3 (Wt.mk R R) R R R R (L.nil (X.dk kn ⟨im, Sub.fresh ib R, i.u 16 (fun _ => R)⟩)))
     ·rintro D e s88 ⟨im, ib, i⟩ hk hf ha
      have g8_ := (i.p 8) (ha.at 8 R)
      have h36 := h36.mono im.z
      rw [hc77] at g8_
      have kn := K3 ((i.p 12) (ha.at 12 R)) ((i.p 16) (ha.at 16 R)) g8_
      refine kn.g (L.ca cf68 R R (Wt.mk R R) R (m_alphabet_Contains_c (s := s88) (p0 := x21.2.2.2.2.1) (p1 := x85) h36 er89) R ?_)
      rintro _ s90 m91 rfl
      exact L.nil (X.dk kn ⟨im.trans m91.no, Sub.fresh ib R, (i.u 15 (fun z => let ⟨b86, o86, q, me86⟩ := (i.p 15) z; ⟨b86, o86, q, (me86.mv m91 no_No)⟩)).u 17 (fun _ => R)⟩)
     ·rintro D e s92 ⟨im, ib, i⟩ hk hf ha
      have g8_ := (i.p 8) (ha.at 8 R)
      rw [hc77] at g8_
      have kn := K2 g8_ ((i.p 17) (ha.at 17 R))
      exact kn.g (L.pkT Y R R R R (L.nil (X.dk kn ⟨im, Sub.fresh ib R, i.u 18 (fun _ => R)⟩)))
     ·rintro D e s93 ⟨im, ib, i⟩ hk hf ha
      have kn := K1 ((i.p 18) (ha.at 18 R))
      exact kn.g (L.mv Y R R (L.nil (X.dk kn ⟨im, Sub.fresh ib R, i.u 19 (fun _ => R)⟩)))
     ·rintro D e s147 ⟨im, ib, i⟩ hk hf ha
      have g19_ := (i.p 19) (ha.at 19 R)
      rw [hc94] at g19_
      have kn := K2 (ib 7 _ R) g19_
      exact kn.g (L.skip R R R R (L.nil (X.dk kn ⟨im, Sub.fresh ib R, i.u 20 (fun _ => R)⟩)))
     ·rintro D e s148 ⟨im, ib, i⟩ hk hf ha
      have g19_ := (i.p 19) (ha.at 19 R)
      rw [hc94] at g19_
      have kn := K2 ((i.p 20) (ha.at 20 R)) g19_
      exact kn.g (L.skip R R R R (L.nil (X.dk kn ⟨im, Sub.fresh ib R, i.u 21 (fun _ => R)⟩)))
     ·rintro D e s149 ⟨im, ib, i⟩ hk hf ha
      have g19_ := (i.p 19) (ha.at 19 R)
      rw [hc94] at g19_
      have kn := K2 ((i.p 21) (ha.at 21 R)) g19_
      exact kn.g (L.skip R R R R (L.nil (X.dk kn ⟨im, Sub.fresh ib R, i.u 22 (fun _ => R)⟩)))
     ·rintro D e s150 ⟨im, ib, i⟩ hk hf ha
      have g19_ := (i.p 19) (ha.at 19 R)
      rw [hc94] at g19_
      have kn := K2 ((i.p 22) (ha.at 22 R)) g19_
      exact kn.g (L.skip R R R R (L.nil (X.dk kn ⟨im, Sub.fresh ib R, i.u 23 (fun _ => R)⟩)))
     ·rintro D e s151 ⟨im, ib, i⟩ hk hf ha
      have g19_ := (i.p 19) (ha.at 19 R)
      rw [hc94] at g19_
      have kn := K2 (ib 5 _ R) g19_
      exact kn.g (L.skip R R R R (L.nil (X.dk kn ⟨im, Sub.fresh ib R, i.u 24 (fun _ => R)⟩)))
     ·rintro D e s152 ⟨im, ib, i⟩ hk hf ha
      have g19_ := (i.p 19) (ha.at 19 R)
      rw [hc94] at g19_
      have kn := K2 ((i.p 24) (ha.at 24 R)) g19_
      exact kn.g (L.skip R R R R (L.nil (X.dk kn ⟨im, Sub.fresh ib R, i.u 25 (fun _ => R)⟩)))
     ·rintro D e s153 ⟨im, ib, i⟩ hk hf ha
      have g19_ := (i.p 19) (ha.at 19 R)
      rw [hc94] at g19_
      have kn := K2 ((i.p 25) (ha.at 25 R)) g19_
      exact kn.g (L.skip R R R R (L.nil (X.dk kn ⟨im, Sub.fresh ib R, i.u 26 (fun _ => R)⟩)))
     ·rintro D e s154 ⟨im, ib, i⟩ hk hf ha
      have g19_ := (i.p 19) (ha.at 19 R)
      rw [hc94] at g19_
      have kn := K2 ((i.p 26) (ha.at 26 R)) g19_
      exact kn.g (L.skip R R R R (L.nil (X.dk kn ⟨im, Sub.fresh ib R, i.u 27 (fun _ => R)⟩)))
     ·rintro D e s155 ⟨im, ib, i⟩ hk hf ha
      have g19_ := (i.p 19) (ha.at 19 R)
      rw [hc94] at g19_
      have kn := K3 ((i.p 23) (ha.at 23 R)) ((i.p 27) (ha.at 27 R)) g19_
      exact kn.g (L.skip R R R R (L.nil (X.dk kn ⟨im, Sub.fresh ib R, i.u 28 (fun _ => R)⟩)))
     ·rintro D e s156 ⟨im, ib, i⟩ hk hf ha
      have g19_ := (i.p 19) (ha.at 19 R)
      rw [hc94] at g19_
      have kn := K2 g19_ ((i.p 28) (ha.at 28 R))
      exact kn.g (L.pkF Y R R R R (L.nil (X.dk kn ⟨im, Sub.fresh ib R, i.u 29 (fun _ => R)⟩)))
     ·rintro D e s157 ⟨im, ib, i⟩ hk hf ha
      have kn := K1 ((i.p 29) (ha.at 29 R))
      exact kn.g (L.mv Y R R (L.nil (X.dk kn ⟨im, Sub.fresh ib R, i.u 30 (fun _ => R)⟩)))
     ·rintro D e s158 ⟨im, ib, i⟩ hk hf ha
      have kn := K2 (ib 7 _ R) ((i.p 30) (ha.at 30 R))
      exact kn.g (L.skip R R R R (L.nil (X.dk kn ⟨im, Sub.fresh ib R, i.u 31 (fun _ => R)⟩)))
     ·rintro D e s159 ⟨im, ib, i⟩ hk hf ha
      have kn := K2 (ib 9 _ R) ((i.p 30) (ha.at 30 R))
      exact kn.g (L.skip R R R R (L.nil (X.dk kn ⟨im, Sub.fresh ib R, i.u 32 (fun _ => R)⟩)))
     ·rintro D e s160 ⟨im, ib, i⟩ hk hf ha
      have kn := K2 (ib 5 _ R) ((i.p 30) (ha.at 30 R))
      exact kn.g (L.skip R R R R (L.nil (X.dk kn ⟨im, Sub.fresh ib R, i.u 33 (fun _ => R)⟩)))
     ·rintro D e s161 ⟨im, ib, i⟩ hk hf ha
      have kn := K2 ((i.p 33) (ha.at 33 R)) ((i.p 30) (ha.at 30 R))
      exact kn.g (L.skip R R R R (L.nil (X.dk kn ⟨im, Sub.fresh ib R, i.u 34 (fun _ => R)⟩)))
     ·rintro D e s162 ⟨im, ib, i⟩ hk hf ha
      have kn := K2 ((i.p 34) (ha.at 34 R)) ((i.p 30) (ha.at 30 R))
      exact kn.g (L.skip R R R R (L.nil (X.dk kn ⟨im, Sub.fresh ib R, i.u 35 (fun _ => R)⟩)))
     ·rintro D e s163 ⟨im, ib, i⟩ hk hf ha
      have kn := K2 ((i.p 35) (ha.at 35 R)) ((i.p 30) (ha.at 30 R))
      exact kn.g (L.skip R R R R (L.nil (X.dk kn ⟨im, Sub.fresh ib R, i.u 36 (fun _ => R)⟩)))
     ·rintro D e s164 ⟨im, ib, i⟩ hk hf ha
      have kn := K2 (ib 5 _ R) ((i.p 30) (ha.at 30 R))
      exact kn.g (L.skip R R R R (L.nil (X.dk kn ⟨im, Sub.fresh ib R, i.u 37 (fun _ => R)⟩)))
     ·rintro D e s165 ⟨im, ib, i⟩ hk hf ha
      have kn := K2 ((i.p 37) (ha.at 37 R)) ((i.p 30) (ha.at 30 R))
      exact kn.g (L.skip R R R R (L.nil (X.dk kn ⟨im, Sub.fresh ib R, i.u 38 (fun _ => R)⟩)))
     ·rintro D e s166 ⟨im, ib, i⟩ hk hf ha
      have kn := K2 ((i.p 38) (ha.at 38 R)) ((i.p 30) (ha.at 30 R))
      exact kn.g (L.skip R R R R (L.nil (X.dk kn ⟨im, Sub.fresh ib R, i.u 39 (fun _ => R)⟩)))
     ·rintro D e s167 ⟨im, ib, i⟩ hk hf ha
      have kn := K2 ((i.p 39) (ha.at 39 R)) ((i.p 30) (ha.at 30 R))
      exact kn.g (L.skip R R R R (L.nil (X.dk kn ⟨im, Sub.fresh ib R, i.u 40 (fun _ => R)⟩)))
     ·rintro D e s168 ⟨im, ib, i⟩ hk hf ha
      have kn := K5 ((i.p 31) (ha.at 31 R)) ((i.p 32) (ha.at 32 R)) ((i.p 36) (ha.at 36 R)) ((i.p 40) (ha.at 40 R)) ((i.p 30) (ha.at 30 R))
      exact kn.g (L.skip R R R R (L.nil (X.dk kn ⟨im, Sub.fresh ib R, i.u 41 (fun _ => R)⟩)))
     ·rintro D e s169 ⟨im, ib, i⟩ hk hf ha
      have kn := K2 ((i.p 30) (ha.at 30 R)) ((i.p 41) (ha.at 41 R))
      exact kn.g (L.pkF Y R R R R (L.nil (X.dk kn ⟨im, Sub.fresh ib R, i.u 42 (fun _ => R)⟩)))
     rintro D e s170 ⟨im, ib, i⟩ hk hf ha
     have kn := K1 ((i.p 42) (ha.at 42 R))
     exact kn.g (L.as Y R R (L.nil (X.dk kn ⟨im, Sub.fresh ib R, i.u 43 (fun _ => R)⟩)))
    rintro D e s171 hD ⟨im, ib, i⟩
    have g43_ := (i.p 43) (hD 43 R)
    have m0 := m0.trans im.no
    refine X.sub (e' := [(10, .bool false)]) ?_ (Sub.cons g43_ Sub.nil)
    exact X.blkN (X.sub (Jj52 _ _ ⟨s171, false, hm, m0, R, R⟩) (Sub.rf R))
   have _ := hN
   refine E.draw m_scan_Verify_w0 (fun D e sx => Mv No s49 sx ∧ Sub [(9, .int .i64 r45), (7, .pointer (some ⟨b22, 0, none⟩)), (5, .pointer (some ⟨b14, 0, none⟩))] e ∧ AllP [G D e 0 52 (.int .i64 r45), G D e 1 53 (.bool (r45 != (-1))), G D e 2 54 (.bool (r45 != (-1))), G D e 3 55 (.pointer (some ⟨b14, 2, none⟩)), G D e 4 56 (.slice a10 p2.2.2.length c10), G D e 5 57 (.int .i64 (p2.2.2.length : Int)), G D e 6 58 (.bool ((p2.2.2.length : Int) == 2)), G D e 7 59 (.bool ((p2.2.2.length : Int) == 2)), G D e 8 60 (.bool ((p2.2.2.length : Int) == 2)), G D e 9 61 undef, G D e 10 62 undef, G D e 11 63 undef, G D e 12 64 undef, G D e 13 65 undef, G D e 14 66 undef, G D e 15 67 undef, G D e 16 68 undef, G D e 17 69 undef, G D e 18 70 (.bool false), G D e 19 71 (.bool false), G D e 20 72 undef, G D e 21 73 undef, G D e 22 74 undef, G D e 23 75 undef, G D e 24 76 undef, G D e 25 77 undef, G D e 26 78 undef, G D e 27 79 undef, G D e 28 80 undef, G D e 29 81 (.bool false), G D e 30 82 (.bool false), G D e 31 83 undef, G D e 32 84 undef, G D e 33 85 undef, G D e 34 86 undef, G D e 35 87 undef, G D e 36 88 undef, G D e 37 89 undef, G D e 38 90 undef, G D e 39 91 undef, G D e 40 92 undef, G D e 41 93 undef, G D e 42 94 (.bool false), G D e 43 10 (.bool false)]) (by kernel_rfl) (by kernel_rfl) (by kernel_rfl) ?_ ?_ ?_
   ·intro sz mz
    exact ⟨mz, (Sub.rf R), nofun, nofun, nofun, nofun, nofun, nofun, nofun, nofun, nofun, nofun, nofun, nofun, nofun, nofun, nofun, nofun, nofun, nofun, nofun, nofun, nofun, nofun, nofun, nofun, nofun, nofun, nofun, nofun, nofun, nofun, nofun, nofun, nofun, nofun, nofun, nofun, nofun, nofun, nofun, nofun, nofun, nofun, nofun, nofun, trivial⟩
   ·refine ⟨?_, ?_, ?_, ?_, ?_, ?_, ?_, ?_, ?_, ?_, ?_, ?_, ?_, ?_, ?_, ?_, ?_, ?_, ?_, ?_, ?_, ?_, ?_, ?_, ?_, ?_, ?_, ?_, ?_, ?_, ?_, ?_, ?_, ?_, ?_, ?_, ?_, ?_, ?_, ?_, ?_, ?_, ?_, ?_, trivial⟩
    ·rintro D e s67 ⟨im, ib, i⟩ hk hf ha
     have kn := K1 (ib 9 _ R)
     exact kn.g (L.mv Y R R (L.nil (X.dk kn ⟨im, Sub.fresh ib R, i.u 0 (fun _ => R)⟩)))
    ·rintro D e s68 ⟨im, ib, i⟩ hk hf ha
     have kn := K1 ((i.p 0) (ha.at 0 R))
     exact kn.g (L.bi Y R R R R (L.nil (X.dk kn ⟨im, Sub.fresh ib R, i.u 1 (fun _ => R)⟩)))
    ·rintro D e s69 ⟨im, ib, i⟩ hk hf ha
     have kn := K1 ((i.p 1) (ha.at 1 R))
     exact kn.g (L.mv Y R R (L.nil (X.dk kn ⟨im, Sub.fresh ib R, i.u 2 (fun _ => R)⟩)))
    ·rintro D e s71 ⟨im, ib, i⟩ hk hf ha
     have g2_ := (i.p 2) (ha.at 2 R)
     rw [hc70] at g2_
     have kn := K2 (ib 5 _ R) g2_
     exact kn.g (L.fa fa38_2 (Wt.mk R R) R R (L.nil (X.dk kn ⟨im, Sub.fresh ib R, i.u 3 (fun _ => R)⟩)))
    ·rintro D e s72 ⟨im, ib, i⟩ hk hf ha
     have g2_ := (i.p 2) (ha.at 2 R)
     have bx14 := bx14.mv im no_No
     rw [hc70] at g2_
     have kn := K2 ((i.p 3) (ha.at 3 R)) g2_
     exact kn.g (L.ld (j := 2) bx14.mem nag22 (Wt.mk R R) R R R R (L.nil (X.dk kn ⟨im, Sub.fresh ib R, i.u 4 (fun _ => R)⟩)))
    ·rintro D e s73 ⟨im, ib, i⟩ hk hf ha
     have g2_ := (i.p 2) (ha.at 2 R)
     rw [hc70] at g2_
     have kn := K2 ((i.p 4) (ha.at 4 R)) g2_
     exact kn.g (L.len sl22 (Wt.mk R R) R R (L.nil (X.dk kn ⟨im, Sub.fresh ib R, i.u 5 (fun _ => R)⟩)))
    ·rintro D e s74 ⟨im, ib, i⟩ hk hf ha
     have g2_ := (i.p 2) (ha.at 2 R)
     rw [hc70] at g2_
     have kn := K2 ((i.p 5) (ha.at 5 R)) g2_
     exact kn.g (L.bi (Wt.mk R R) R R R R (L.nil (X.dk kn ⟨im, Sub.fresh ib R, i.u 6 (fun _ => R)⟩)))
    ·rintro D e s75 ⟨im, ib, i⟩ hk hf ha
     have g2_ := (i.p 2) (ha.at 2 R)
     rw [hc70] at g2_
     have kn := K2 g2_ ((i.p 6) (ha.at 6 R))
     exact kn.g (L.pkT Y R R R R (L.nil (X.dk kn ⟨im, Sub.fresh ib R, i.u 7 (fun _ => R)⟩)))
    ·rintro D e s76 ⟨im, ib, i⟩ hk hf ha
     have kn := K1 ((i.p 7) (ha.at 7 R))
     exact kn.g (L.mv Y R R (L.nil (X.dk kn ⟨im, Sub.fresh ib R, i.u 8 (fun _ => R)⟩)))
    ·rintro D e s172 ⟨im, ib, i⟩ hk hf ha
     have g8_ := (i.p 8) (ha.at 8 R)
     rw [hc77] at g8_
     have kn := K2 (ib 7 _ R) g8_
     exact kn.g (L.skip R R R R (L.nil (X.dk kn ⟨im, Sub.fresh ib R, i.u 9 (fun _ => R)⟩)))
    ·rintro D e s173 ⟨im, ib, i⟩ hk hf ha
     have g8_ := (i.p 8) (ha.at 8 R)
     rw [hc77] at g8_
     have kn := K2 ((i.p 9) (ha.at 9 R)) g8_
     exact kn.g (L.skip R R R R (L.nil (X.dk kn ⟨im, Sub.fresh ib R, i.u 10 (fun _ => R)⟩)))
    ·rintro D e s174 ⟨im, ib, i⟩ hk hf ha
     have g8_ := (i.p 8) (ha.at 8 R)
     rw [hc77] at g8_
     have kn := K2 ((i.p 10) (ha.at 10 R)) g8_
     exact kn.g (L.skip R R R R (L.nil (X.dk kn ⟨im, Sub.fresh ib R, i.u 11 (fun _ => R)⟩)))
    ·rintro D e s175 ⟨im, ib, i⟩ hk hf ha
     have g8_ := (i.p 8) (ha.at 8 R)
     rw [hc77] at g8_
     have kn := K2 ((i.p 11) (ha.at 11 R)) g8_
     exact kn.g (L.skip R R R R (L.nil (X.dk kn ⟨im, Sub.fresh ib R, i.u 12 (fun _ => R)⟩)))
    ·rintro D e s176 ⟨im, ib, i⟩ hk hf ha
     have g8_ := (i.p 8) (ha.at 8 R)
     rw [hc77] at g8_
     have kn := K2 (ib 5 _ R) g8_
     exact kn.g (L.skip R R R R (L.nil (X.dk kn ⟨im, Sub.fresh ib R, i.u 13 (fun _ => R)⟩)))
    ·rintro D e s177 ⟨im, ib, i⟩ hk hf ha
     have g8_ := (i.p 8) (ha.at 8 R)
     rw [hc77] at g8_
     have kn := K2 ((i.p 13) (ha.at 13 R)) g8_
     exact kn.g (L.skip R R R R (L.nil (X.dk kn ⟨im, Sub.fresh ib R, i.u 14 (fun _ => R)⟩)))
    ·rintro D e s178 ⟨im, ib, i⟩ hk hf ha
     have g8_ := (i.p 8) (ha.at 8 R)
     rw [hc77] at g8_
     have kn := K2 ((i.p 14) (ha.at 14 R)) g8_
     exact kn.g (L.skip R R R R (L.nil (X.dk kn ⟨im, Sub.fresh ib R, i.u 15 (fun _ => R)⟩)))
    ·rintro D e s179 ⟨im, ib, i⟩ hk hf ha
     have g8_ := (i.p 8) (ha.at 8 R)
     rw [hc77] at g8_
     have kn := K2 ((i.p 15) (ha.at 15 R)) g8_
     exact kn.g (L.skip R R R R (L.nil (X.dk kn ⟨im, Sub.fresh ib R, i.u 16 (fun _ => R)⟩)))
    ·rintro D e s180 ⟨im, ib, i⟩ hk hf ha
     have g8_ := (i.p 8) (ha.at 8 R)
     rw [hc77] at g8_
     have kn := K3 ((i.p 12) (ha.at 12 R)) ((i.p 16) (ha.at 16 R)) g8_
     exact kn.g (L.skip R R R R (L.nil (X.dk kn ⟨im, Sub.fresh ib R, i.u 17 (fun _ => R)⟩)))
    ·rintro D e s181 ⟨im, ib, i⟩ hk hf ha
     have g8_ := (i.p 8) (ha.at 8 R)
     rw [hc77] at g8_
     have kn := K2 g8_ ((i.p 17) (ha.at 17 R))
     exact kn.g (L.pkF Y R R R R (L.nil (X.dk kn ⟨im, Sub.fresh ib R, i.u 18 (fun _ => R)⟩)))
    ·rintro D e s182 ⟨im, ib, i⟩ hk hf ha
     have kn := K1 ((i.p 18) (ha.at 18 R))
     exact kn.g (L.mv Y R R (L.nil (X.dk kn ⟨im, Sub.fresh ib R, i.u 19 (fun _ => R)⟩)))
    ·rintro D e s183 ⟨im, ib, i⟩ hk hf ha
     have kn := K2 (ib 7 _ R) ((i.p 19) (ha.at 19 R))
     exact kn.g (L.skip R R R R (L.nil (X.dk kn ⟨im, Sub.fresh ib R, i.u 20 (fun _ => R)⟩)))
    ·rintro D e s184 ⟨im, ib, i⟩ hk hf ha
     have kn := K2 ((i.p 20) (ha.at 20 R)) ((i.p 19) (ha.at 19 R))
     exact kn.g (L.skip R R R R (L.nil (X.dk kn ⟨im, Sub.fresh ib R, i.u 21 (fun _ => R)⟩)))
    ·rintro D e s185 ⟨im, ib, i⟩ hk hf ha
     have kn := K2 ((i.p 21) (ha.at 21 R)) ((i.p 19) (ha.at 19 R))
     exact kn.g (L.skip R R R R (L.nil (X.dk kn ⟨im, Sub.fresh ib R, i.u 22 (fun _ => R)⟩)))
    ·rintro D e s186 ⟨im, ib, i⟩ hk hf ha
     have kn := K2 ((i.p 22) (ha.at 22 R)) ((i.p 19) (ha.at 19 R))
     exact kn.g (L.skip R R R R (L.nil (X.dk kn ⟨im, Sub.fresh ib R, i.u 23 (fun _ => R)⟩)))
    ·rintro D e s187 ⟨im, ib, i⟩ hk hf ha
     have kn := K2 (ib 5 _ R) ((i.p 19) (ha.at 19 R))
     exact kn.g (L.skip R R R R (L.nil (X.dk kn ⟨im, Sub.fresh ib R, i.u 24 (fun _ => R)⟩)))
    ·rintro D e s188 ⟨im, ib, i⟩ hk hf ha
     have kn := K2 ((i.p 24) (ha.at 24 R)) ((i.p 19) (ha.at 19 R))
     exact kn.g (L.skip R R R R (L.nil (X.dk kn ⟨im, Sub.fresh ib R, i.u 25 (fun _ => R)⟩)))
    ·rintro D e s189 ⟨im, ib, i⟩ hk hf ha
     have kn := K2 ((i.p 25) (ha.at 25 R)) ((i.p 19) (ha.at 19 R))
     exact kn.g (L.skip R R R R (L.nil (X.dk kn ⟨im, Sub.fresh ib R, i.u 26 (fun _ => R)⟩)))
    ·rintro D e s190 ⟨im, ib, i⟩ hk hf ha
     have kn := K2 ((i.p 26) (ha.at 26 R)) ((i.p 19) (ha.at 19 R))
     exact kn.g (L.skip R R R R (L.nil (X.dk kn ⟨im, Sub.fresh ib R, i.u 27 (fun _ => R)⟩)))
    ·rintro D e s191 ⟨im, ib, i⟩ hk hf ha
     have kn := K3 ((i.p 23) (ha.at 23 R)) ((i.p 27) (ha.at 27 R)) ((i.p 19) (ha.at 19 R))
     exact kn.g (L.skip R R R R (L.nil (X.dk kn ⟨im, Sub.fresh ib R, i.u 28 (fun _ => R)⟩)))
    ·rintro D e s192 ⟨im, ib, i⟩ hk hf ha
     have kn := K2 ((i.p 19) (ha.at 19 R)) ((i.p 28) (ha.at 28 R))
     exact kn.g (L.pkF Y R R R R (L.nil (X.dk kn ⟨im, Sub.fresh ib R, i.u 29 (fun _ => R)⟩)))
    ·rintro D e s193 ⟨im, ib, i⟩ hk hf ha
     have kn := K1 ((i.p 29) (ha.at 29 R))
     exact kn.g (L.mv Y R R (L.nil (X.dk kn ⟨im, Sub.fresh ib R, i.u 30 (fun _ => R)⟩)))
    ·rintro D e s194 ⟨im, ib, i⟩ hk hf ha
     have kn := K2 (ib 7 _ R) ((i.p 30) (ha.at 30 R))
     exact kn.g (L.skip R R R R (L.nil (X.dk kn ⟨im, Sub.fresh ib R, i.u 31 (fun _ => R)⟩)))
    ·rintro D e s195 ⟨im, ib, i⟩ hk hf ha
     have kn := K2 (ib 9 _ R) ((i.p 30) (ha.at 30 R))
     exact kn.g (L.skip R R R R (L.nil (X.dk kn ⟨im, Sub.fresh ib R, i.u 32 (fun _ => R)⟩)))
    ·rintro D e s196 ⟨im, ib, i⟩ hk hf ha
     have kn := K2 (ib 5 _ R) ((i.p 30) (ha.at 30 R))
     exact kn.g (L.skip R R R R (L.nil (X.dk kn ⟨im, Sub.fresh ib R, i.u 33 (fun _ => R)⟩)))
    ·rintro D e s197 ⟨im, ib, i⟩ hk hf ha
     have kn := K2 ((i.p 33) (ha.at 33 R)) ((i.p 30) (ha.at 30 R))
     exact kn.g (L.skip R R R R (L.nil (X.dk kn ⟨im, Sub.fresh ib R, i.u 34 (fun _ => R)⟩)))
    ·rintro D e s198 ⟨im, ib, i⟩ hk hf ha
     have kn := K2 ((i.p 34) (ha.at 34 R)) ((i.p 30) (ha.at 30 R))
     exact kn.g (L.skip R R R R (L.nil (X.dk kn ⟨im, Sub.fresh ib R, i.u 35 (fun _ => R)⟩)))
    ·rintro D e s199 ⟨im, ib, i⟩ hk hf ha
     have kn := K2 ((i.p 35) (ha.at 35 R)) ((i.p 30) (ha.at 30 R))
     exact kn.g (L.skip R R R R (L.nil (X.dk kn ⟨im, Sub.fresh ib R, i.u 36 (fun _ => R)⟩)))
    ·rintro D e s200 ⟨im, ib, i⟩ hk hf ha
     have kn := K2 (ib 5 _ R) ((i.p 30) (ha.at 30 R))
     exact kn.g (L.skip R R R R (L.nil (X.dk kn ⟨im, Sub.fresh ib R, i.u 37 (fun _ => R)⟩)))
    ·rintro D e s201 ⟨im, ib, i⟩ hk hf ha
     have kn := K2 ((i.p 37) (ha.at 37 R)) ((i.p 30) (ha.at 30 R))
     exact kn.g (L.skip R R R R (L.nil (X.dk kn ⟨im, Sub.fresh ib R, i.u 38 (fun _ => R)⟩)))
    ·rintro D e s202 ⟨im, ib, i⟩ hk hf ha
     have kn := K2 ((i.p 38) (ha.at 38 R)) ((i.p 30) (ha.at 30 R))
     exact kn.g (L.skip R R R R (L.nil (X.dk kn ⟨im, Sub.fresh ib R, i.u 39 (fun _ => R)⟩)))
    ·rintro D e s203 ⟨im, ib, i⟩ hk hf ha
     have kn := K2 ((i.p 39) (ha.at 39 R)) ((i.p 30) (ha.at 30 R))
     exact kn.g (L.skip R R R R (L.nil (X.dk kn ⟨im, Sub.fresh ib R, i.u 40 (fun _ => R)⟩)))
    ·rintro D e s204 ⟨im, ib, i⟩ hk hf ha
     have kn := K5 ((i.p 31) (ha.at 31 R)) ((i.p 32) (ha.at 32 R)) ((i.p 36) (ha.at 36 R)) ((i.p 40) (ha.at 40 R)) ((i.p 30) (ha.at 30 R))
     exact kn.g (L.skip R R R R (L.nil (X.dk kn ⟨im, Sub.fresh ib R, i.u 41 (fun _ => R)⟩)))
    ·rintro D e s205 ⟨im, ib, i⟩ hk hf ha
     have kn := K2 ((i.p 30) (ha.at 30 R)) ((i.p 41) (ha.at 41 R))
     exact kn.g (L.pkF Y R R R R (L.nil (X.dk kn ⟨im, Sub.fresh ib R, i.u 42 (fun _ => R)⟩)))
    rintro D e s206 ⟨im, ib, i⟩ hk hf ha
    have kn := K1 ((i.p 42) (ha.at 42 R))
    exact kn.g (L.as Y R R (L.nil (X.dk kn ⟨im, Sub.fresh ib R, i.u 43 (fun _ => R)⟩)))
   rintro D e s207 hD ⟨im, ib, i⟩
   have g43_ := (i.p 43) (hD 43 R)
   have m0 := m0.trans im.no
   refine X.sub (e' := [(10, .bool false)]) ?_ (Sub.cons g43_ Sub.nil)
   exact X.blkN (X.sub (Jj52 _ _ ⟨s207, false, hm, m0, R, R⟩) (Sub.rf R))
  have _ := hN
  refine E.draw m_scan_Verify_w0 (fun D e sx => Mv No s49 sx ∧ Sub [(9, .int .i64 r45), (7, .pointer (some ⟨b22, 0, none⟩)), (5, .pointer (some ⟨b14, 0, none⟩))] e ∧ AllP [G D e 0 52 (.int .i64 r45), G D e 1 53 (.bool (r45 != (-1))), G D e 2 54 (.bool (r45 != (-1))), G D e 3 55 undef, G D e 4 56 undef, G D e 5 57 undef, G D e 6 58 undef, G D e 7 59 (.bool false), G D e 8 60 (.bool false), G D e 9 61 undef, G D e 10 62 undef, G D e 11 63 undef, G D e 12 64 undef, G D e 13 65 undef, G D e 14 66 undef, G D e 15 67 undef, G D e 16 68 undef, G D e 17 69 undef, G D e 18 70 (.bool false), G D e 19 71 (.bool false), G D e 20 72 undef, G D e 21 73 undef, G D e 22 74 undef, G D e 23 75 undef, G D e 24 76 undef, G D e 25 77 undef, G D e 26 78 undef, G D e 27 79 undef, G D e 28 80 undef, G D e 29 81 (.bool false), G D e 30 82 (.bool false), G D e 31 83 undef, G D e 32 84 undef, G D e 33 85 undef, G D e 34 86 undef, G D e 35 87 undef, G D e 36 88 undef, G D e 37 89 undef, G D e 38 90 undef, G D e 39 91 undef, G D e 40 92 undef, G D e 41 93 undef, G D e 42 94 (.bool false), G D e 43 10 (.bool false)]) (by kernel_rfl) (by kernel_rfl) (by kernel_rfl) ?_ ?_ ?_
  ·intro sz mz
   exact ⟨mz, (Sub.rf R), nofun, nofun, nofun, nofun, nofun, nofun, nofun, nofun, nofun, nofun, nofun, nofun, nofun, nofun, nofun, nofun, nofun, nofun, nofun, nofun, nofun, nofun, nofun, nofun, nofun, nofun, nofun, nofun, nofun, nofun, nofun, nofun, nofun, nofun, nofun, nofun, nofun, nofun, nofun, nofun, nofun, nofun, nofun, nofun, trivial⟩
  ·refine ⟨?_, ?_, ?_, ?_, ?_, ?_, ?_, ?_, ?_, ?_, ?_, ?_, ?_, ?_, ?_, ?_, ?_, ?_, ?_, ?_, ?_, ?_, ?_, ?_, ?_, ?_, ?_, ?_, ?_, ?_, ?_, ?_, ?_, ?_, ?_, ?_, ?_, ?_, ?_, ?_, ?_, ?_, ?_, ?_, trivial⟩
   ·rintro D e s67 ⟨im, ib, i⟩ hk hf ha
    have kn := K1 (ib 9 _ R)
    exact kn.g (L.mv Y R R (L.nil (X.dk kn ⟨im, Sub.fresh ib R, i.u 0 (fun _ => R)⟩)))
   ·rintro D e s68 ⟨im, ib, i⟩ hk hf ha
    have kn := K1 ((i.p 0) (ha.at 0 R))
    exact kn.g (L.bi Y R R R R (L.nil (X.dk kn ⟨im, Sub.fresh ib R, i.u 1 (fun _ => R)⟩)))
   ·rintro D e s69 ⟨im, ib, i⟩ hk hf ha
    have kn := K1 ((i.p 1) (ha.at 1 R))
    exact kn.g (L.mv Y R R (L.nil (X.dk kn ⟨im, Sub.fresh ib R, i.u 2 (fun _ => R)⟩)))
   ·rintro D e s208 ⟨im, ib, i⟩ hk hf ha
    have g2_ := (i.p 2) (ha.at 2 R)
    rw [hc70] at g2_
    have kn := K2 (ib 5 _ R) g2_
    exact kn.g (L.skip R R R R (L.nil (X.dk kn ⟨im, Sub.fresh ib R, i.u 3 (fun _ => R)⟩)))
   ·rintro D e s209 ⟨im, ib, i⟩ hk hf ha
    have g2_ := (i.p 2) (ha.at 2 R)
    rw [hc70] at g2_
    have kn := K2 ((i.p 3) (ha.at 3 R)) g2_
    exact kn.g (L.skip R R R R (L.nil (X.dk kn ⟨im, Sub.fresh ib R, i.u 4 (fun _ => R)⟩)))
   ·rintro D e s210 ⟨im, ib, i⟩ hk hf ha
    have g2_ := (i.p 2) (ha.at 2 R)
    rw [hc70] at g2_
    have kn := K2 ((i.p 4) (ha.at 4 R)) g2_
    exact kn.g (L.skip R R R R (L.nil (X.dk kn ⟨im, Sub.fresh ib R, i.u 5 (fun _ => R)⟩)))
   ·rintro D e s211 ⟨im, ib, i⟩ hk hf ha
    have g2_ := (i.p 2) (ha.at 2 R)
    rw [hc70] at g2_
    have kn := K2 ((i.p 5) (ha.at 5 R)) g2_
    exact kn.g (L.skip R R R R (L.nil (X.dk kn ⟨im, Sub.fresh ib R, i.u 6 (fun _ => R)⟩)))
   ·rintro D e s212 ⟨im, ib, i⟩ hk hf ha
    have g2_ := (i.p 2) (ha.at 2 R)
    rw [hc70] at g2_
    have kn := K2 g2_ ((i.p 6) (ha.at 6 R))
    exact kn.g (L.pkF Y R R R R (L.nil (X.dk kn ⟨im, Sub.fresh ib R, i.u 7 (fun _ => R)⟩)))
   ·rintro D e s213 ⟨im, ib, i⟩ hk hf ha
    have kn := K1 ((i.p 7) (ha.at 7 R))
    exact kn.g (L.mv Y R R (L.nil (X.dk kn ⟨im, Sub.fresh ib R, i.u 8 (fun _ => R)⟩)))
   ·rintro D e s214 ⟨im, ib, i⟩ hk hf ha
    have kn := K2 (ib 7 _ R) ((i.p 8) (ha.at 8 R))
    exact kn.g (L.skip R R R R (L.nil (X.dk kn ⟨im, Sub.fresh ib R, i.u 9 (fun _ => R)⟩)))
   ·rintro D e s215 ⟨im, ib, i⟩ hk hf ha
    have kn := K2 ((i.p 9) (ha.at 9 R)) ((i.p 8) (ha.at 8 R))
    exact kn.g (L.skip R R R R (L.nil (X.dk kn ⟨im, Sub.fresh ib R, i.u 10 (fun _ => R)⟩)))
   ·rintro D e s216 ⟨im, ib, i⟩ hk hf ha
    have kn := K2 ((i.p 10) (ha.at 10 R)) ((i.p 8) (ha.at 8 R))
    exact kn.g (L.skip R R R R (L.nil (X.dk kn ⟨im, Sub.fresh ib R, i.u 11 (fun _ => R)⟩)))
   ·rintro D e s217 ⟨im, ib, i⟩ hk hf ha
    have kn := K2 ((i.p 11) (ha.at 11 R)) ((i.p 8) (ha.at 8 R))
    exact kn.g (L.skip R R R R (L.nil (X.dk kn ⟨im, Sub.fresh ib R, i.u 12 (fun _ => R)⟩)))
   ·rintro D e s218 ⟨im, ib, i⟩ hk hf ha
    have kn := K2 (ib 5 _ R) ((i.p 8) (ha.at 8 R))
    exact kn.g (L.skip R R R R (L.nil (X.dk kn ⟨im, Sub.fresh ib R, i.u 13 (fun _ => R)⟩)))
   ·rintro D e s219 ⟨im, ib, i⟩ hk hf ha
    have kn := K2 ((i.p 13) (ha.at 13 R)) ((i.p 8) (ha.at 8 R))
    exact kn.g (L.skip R R R R (L.nil (X.dk kn ⟨im, Sub.fresh ib R, i.u 14 (fun _ => R)⟩)))
   ·rintro D e s220 ⟨im, ib, i⟩ hk hf ha
    have kn := K2 ((i.p 14) (ha.at 14 R)) ((i.p 8) (ha.at 8 R))
    exact kn.g (L.skip R R R R (L.nil (X.dk kn ⟨im, Sub.fresh ib R, i.u 15 (fun _ => R)⟩)))
   ·rintro D e s221 ⟨im, ib, i⟩ hk hf ha
    have kn := K2 ((i.p 15) (ha.at 15 R)) ((i.p 8) (ha.at 8 R))
    exact kn.g (L.skip R R R R (L.nil (X.dk kn ⟨im, Sub.fresh ib R, i.u 16 (fun _ => R)⟩)))
   ·rintro D e s222 ⟨im, ib, i⟩ hk hf ha
    have kn := K3 ((i.p 12) (ha.at 12 R)) ((i.p 16) (ha.at 16 R)) ((i.p 8) (ha.at 8 R))
    exact kn.g (L.skip R R R R (L.nil (X.dk kn ⟨im, Sub.fresh ib R, i.u 17 (fun _ => R)⟩)))
   ·rintro D e s223 ⟨im, ib, i⟩ hk hf ha
    have kn := K2 ((i.p 8) (ha.at 8 R)) ((i.p 17) (ha.at 17 R))
    exact kn.g (L.pkF Y R R R R (L.nil (X.dk kn ⟨im, Sub.fresh ib R, i.u 18 (fun _ => R)⟩)))
   ·rintro D e s224 ⟨im, ib, i⟩ hk hf ha
    have kn := K1 ((i.p 18) (ha.at 18 R))
    exact kn.g (L.mv Y R R (L.nil (X.dk kn ⟨im, Sub.fresh ib R, i.u 19 (fun _ => R)⟩)))
   ·rintro D e s225 ⟨im, ib, i⟩ hk hf ha
    have kn := K2 (ib 7 _ R) ((i.p 19) (ha.at 19 R))
    exact kn.g (L.skip R R R R (L.nil (X.dk kn ⟨im, Sub.fresh ib R, i.u 20 (fun _ => R)⟩)))
   ·rintro D e s226 ⟨im, ib, i⟩ hk hf ha
    have kn := K2 ((i.p 20) (ha.at 20 R)) ((i.p 19) (ha.at 19 R))
    exact kn.g (L.skip R R R R (L.nil (X.dk kn ⟨im, Sub.fresh ib R, i.u 21 (fun _ => R)⟩)))
   ·rintro D e s227 ⟨im, ib, i⟩ hk hf ha
    have kn := K2 ((i.p 21) (ha.at 21 R)) ((i.p 19) (ha.at 19 R))
    exact kn.g (L.skip R R R R (L.nil (X.dk kn ⟨im, Sub.fresh ib R, i.u 22 (fun _ => R)⟩)))
   ·rintro D e s228 ⟨im, ib, i⟩ hk hf ha
    have kn := K2 ((i.p 22) (ha.at 22 R)) ((i.p 19) (ha.at 19 R))
    exact kn.g (L.skip R R R R (L.nil (X.dk kn ⟨im, Sub.fresh ib R, i.u 23 (fun _ => R)⟩)))
   ·rintro D e s229 ⟨im, ib, i⟩ hk hf ha
    have kn := K2 (ib 5 _ R) ((i.p 19) (ha.at 19 R))
    exact kn.g (L.skip R R R R (L.nil (X.dk kn ⟨im, Sub.fresh ib R, i.u 24 (fun _ => R)⟩)))
   ·rintro D e s230 ⟨im, ib, i⟩ hk hf ha
    have kn := K2 ((i.p 24) (ha.at 24 R)) ((i.p 19) (ha.at 19 R))
    exact kn.g (L.skip R R R R (L.nil (X.dk kn ⟨im, Sub.fresh ib R, i.u 25 (fun _ => R)⟩)))
   ·rintro D e s231 ⟨im, ib, i⟩ hk hf ha
    have kn := K2 ((i.p 25) (ha.at 25 R)) ((i.p 19) (ha.at 19 R))
    exact kn.g (L.skip R R R R (L.nil (X.dk kn ⟨im, Sub.fresh ib R, i.u 26 (fun _ => R)⟩)))
   ·rintro D e s232 ⟨im, ib, i⟩ hk hf ha
    have kn := K2 ((i.p 26) (ha.at 26 R)) ((i.p 19) (ha.at 19 R))
    exact kn.g (L.skip R R R R (L.nil (X.dk kn ⟨im, Sub.fresh ib R, i.u 27 (fun _ => R)⟩)))
   ·rintro D e s233 ⟨im, ib, i⟩ hk hf ha
    have kn := K3 ((i.p 23) (ha.at 23 R)) ((i.p 27) (ha.at 27 R)) ((i.p 19) (ha.at 19 R))
    exact kn.g (L.skip R R R R (L.nil (X.dk kn ⟨im, Sub.fresh ib R, i.u 28 (fun _ => R)⟩)))
   ·rintro D e s234 ⟨im, ib, i⟩ hk hf ha
    have kn := K2 ((i.p 19) (ha.at 19 R)) ((i.p 28) (ha.at 28 R))
    exact kn.g (L.pkF Y R R R R (L.nil (X.dk kn ⟨im, Sub.fresh ib R, i.u 29 (fun _ => R)⟩)))
   ·rintro D e s235 ⟨im, ib, i⟩ hk hf ha
    have kn := K1 ((i.p 29) (ha.at 29 R))
    exact kn.g (L.mv Y R R (L.nil (X.dk kn ⟨im, Sub.fresh ib R, i.u 30 (fun _ => R)⟩)))
   ·rintro D e s236 ⟨im, ib, i⟩ hk hf ha
    have kn := K2 (ib 7 _ R) ((i.p 30) (ha.at 30 R))
    exact kn.g (L.skip R R R R (L.nil (X.dk kn ⟨im, Sub.fresh ib R, i.u 31 (fun _ => R)⟩)))
   ·rintro D e s237 ⟨im, ib, i⟩ hk hf ha
    have kn := K2 (ib 9 _ R) ((i.p 30) (ha.at 30 R))
    exact kn.g (L.skip R R R R (L.nil (X.dk kn ⟨im, Sub.fresh ib R, i.u 32 (fun _ => R)⟩)))
   ·rintro D e s238 ⟨im, ib, i⟩ hk hf ha
    have kn := K2 (ib 5 _ R) ((i.p 30) (ha.at 30 R))
    exact kn.g (L.skip R R R R (L.nil (X.dk kn ⟨im, Sub.fresh ib R, i.u 33 (fun _ => R)⟩)))
   ·rintro D e s239 ⟨im, ib, i⟩ hk hf ha
    have kn := K2 ((i.p 33) (ha.at 33 R)) ((i.p 30) (ha.at 30 R))
    exact kn.g (L.skip R R R R (L.nil (X.dk kn ⟨im, Sub.fresh ib R, i.u 34 (fun _ => R)⟩)))
   ·rintro D e s240 ⟨im, ib, i⟩ hk hf ha
    have kn := K2 ((i.p 34) (ha.at 34 R)) ((i.p 30) (ha.at 30 R))
    exact kn.g (L.skip R R R R (L.nil (X.dk kn ⟨im, Sub.fresh ib R, i.u 35 (fun _ => R)⟩)))
   ·rintro D e s241 ⟨im, ib, i⟩ hk hf ha
    have kn := K2 ((i.p 35) (ha.at 35 R)) ((i.p 30) (ha.at 30 R))
    exact kn.g (L.skip R R R R (L.nil (X.dk kn ⟨im, Sub.fresh ib R, i.u 36 (fun _ => R)⟩)))
   ·rintro D e s242 ⟨im, ib, i⟩ hk hf ha
    have kn := K2 (ib 5 _ R) ((i.p 30) (ha.at 30 R))
    exact kn.g (L.skip R R R R (L.nil (X.dk kn ⟨im, Sub.fresh ib R, i.u 37 (fun _ => R)⟩)))
   ·rintro D e s243 ⟨im, ib, i⟩ hk hf ha
    have kn := K2 ((i.p 37) (ha.at 37 R)) ((i.p 30) (ha.at 30 R))
    exact kn.g (L.skip R R R R (L.nil (X.dk kn ⟨im, Sub.fresh ib R, i.u 38 (fun _ => R)⟩)))
   ·rintro D e s244 ⟨im, ib, i⟩ hk hf ha
    have kn := K2 ((i.p 38) (ha.at 38 R)) ((i.p 30) (ha.at 30 R))
    exact kn.g (L.skip R R R R (L.nil (X.dk kn ⟨im, Sub.fresh ib R, i.u 39 (fun _ => R)⟩)))
   ·rintro D e s245 ⟨im, ib, i⟩ hk hf ha
    have kn := K2 ((i.p 39) (ha.at 39 R)) ((i.p 30) (ha.at 30 R))
    exact kn.g (L.skip R R R R (L.nil (X.dk kn ⟨im, Sub.fresh ib R, i.u 40 (fun _ => R)⟩)))
   ·rintro D e s246 ⟨im, ib, i⟩ hk hf ha
    have kn := K5 ((i.p 31) (ha.at 31 R)) ((i.p 32) (ha.at 32 R)) ((i.p 36) (ha.at 36 R)) ((i.p 40) (ha.at 40 R)) ((i.p 30) (ha.at 30 R))
    exact kn.g (L.skip R R R R (L.nil (X.dk kn ⟨im, Sub.fresh ib R, i.u 41 (fun _ => R)⟩)))
   ·rintro D e s247 ⟨im, ib, i⟩ hk hf ha
    have kn := K2 ((i.p 30) (ha.at 30 R)) ((i.p 41) (ha.at 41 R))
    exact kn.g (L.pkF Y R R R R (L.nil (X.dk kn ⟨im, Sub.fresh ib R, i.u 42 (fun _ => R)⟩)))
   rintro D e s248 ⟨im, ib, i⟩ hk hf ha
   have kn := K1 ((i.p 42) (ha.at 42 R))
   exact kn.g (L.as Y R R (L.nil (X.dk kn ⟨im, Sub.fresh ib R, i.u 43 (fun _ => R)⟩)))
  rintro D e s249 hD ⟨im, ib, i⟩
  have g43_ := (i.p 43) (hD 43 R)
  have m0 := m0.trans im.no
  refine X.sub (e' := [(10, .bool false)]) ?_ (Sub.cons g43_ Sub.nil)
  exact X.blkN (X.sub (Jj52 _ _ ⟨s249, false, hm, m0, R, R⟩) (Sub.rf R))
 refine E.cF R hc (ER (L.bi Y R R R R (L.as Y R R (L.nil (X.seqN ?_)))))
 rcases ifS hm with ⟨hc, hm⟩ | ⟨hc, hm⟩
 ·refine E.cT R hc (ER (L.mv Y R R (L.mv Y R R ?_)))
  obtain ⟨r250, er250, hm⟩ := bindS hm
  refine L.ca cf62 R R Y R (m_scan_task_restricted_c (s := s49) (p0 := x21) (p1 := p1) h23 h24 h25 h26 h27 h28 h29 h30 h31 h32 h33 h34 h35 h36 h37 bx22 h8 er250) R ?_
  rintro _ s251 m252 ⟨a253, c253, a254, c254, a255, c255, y256, c256, rfl, h253, h254, h255, h256⟩
  refine L.al (N + 2) zz108 R Y R fun b257 s258 m259 bx257 => ?_
  refine L.st (c := [.slice a253 r250.1.1.length c253, .int .i64 r250.1.2.1, .slice a254 r250.1.2.2.1.length c254, .slice a255 r250.1.2.2.2.length c255, .map y256]) (cs' := #[.slice a253 r250.1.1.length c253, .int .i64 r250.1.2.1, .slice a254 r250.1.2.2.1.length c254, .slice a255 r250.1.2.2.2.length c255, .map y256]) bx257 ag108.sz Y R R R R R (nb R) R fun s260 m261 bx257 => ?_
  replace h253 := (h253.mono m259.z).mono (m261.le (tg0 hN))
  replace h254 := (h254.mono m259.z).mono (m261.le (tg0 hN))
  replace h255 := (h255.mono m259.z).mono (m261.le (tg0 hN))
  replace h256 := (h256.mono m259.z).mono (m261.le (tg0 hN))
  replace bx14 := ((bx14.mv m252 no_No).mv m259 no_No).mv m261 (tq R)
  replace h9 := ((h9.mono m252.z).mono m259.z).mono (m261.le (tg0 hN))
  refine LN (ER (L.lg (j := 0) (cs := [.slice a253 r250.1.1.length c253, .int .i64 r250.1.2.1, .slice a254 r250.1.2.2.1.length c254, .slice a255 r250.1.2.2.2.length c255, .map y256]) bx257.mem ag108 Y R R R R R (L.fa fa38_1 Y R R (L.ld (j := 1) bx14.mem nag22 Y R R R R ?_))))
  obtain ⟨r262, er262, hm⟩ := bindS hm
  refine L.ca cf65 R R Y R (m_scan_graph_after_c (s := s260) (p0 := r250) (p1 := p2.2.1) h253 h254 h255 h256 h9 er262) R ?_
  rintro _ s263 m264 rfl
  replace m0 := (((m0.trans m252.no).trans m259.no).trans (m261.one up)).trans m264.no
  replace bx257 := bx257.mv m264 no_No
  replace h253 := h253.mono m264.z
  replace h254 := h254.mono m264.z
  replace h255 := h255.mono m264.z
  replace h256 := h256.mono m264.z
  replace bx14 := bx14.mv m264 no_No
  refine L.as Y R R (LN (E.reg (L.mv Y R R (L.bi Y R R R R (L.mv Y R R (L.cut 5 (fun e w => ∃ (v265 : Bool), ((r262 != (-1)) && ((p2.2.2.length : Int) == 0)) = v265 ∧ e = (111, .bool v265) :: [(12, .int .i64 r262), (11, .pointer (some ⟨b257, 0, none⟩))] ∧ w = s263.w) ?_ ?_))))))
  ·rintro _ _ ⟨v265, rfl, rfl, rfl⟩
   refine L.mv Y R R ?_
   obtain ⟨b266, eb266, hm⟩ := bindS hm
   refine L.cut 7 (fun e w => ∃ (s268 : Sig) (v267 : Bool), b266 = v267 ∧ Mv (Up N No) s s268 ∧ e = (119, .bool v267) :: [] ∧ w = s268.w) ?_ ?_
   ·rintro _ _ ⟨s268, v267, rfl, m0, rfl, rfl⟩
    exact L.as Y R R (L.nil (X.blkN (X.sub (Jj52 _ _ ⟨s268, b266, hm, m0, R, R⟩) (Sub.rf R))))
   intro J269
   rcases ifS eb266 with ⟨hc, hm⟩ | ⟨hc, hm⟩
   ·refine L.know (d := 112) R hc (L.lg (j := 0) (cs := [.slice a253 r250.1.1.length c253, .int .i64 r250.1.2.1, .slice a254 r250.1.2.2.1.length c254, .slice a255 r250.1.2.2.2.length c255, .map y256]) bx257.mem ag108 (Wt.mk R R) R R R R R ?_)
    obtain ⟨r270, er270, hm⟩ := bindS hm
    refine L.ca cf64 R R (Wt.mk R R) R (m_scan_graph_live_c (s := s263) (p0 := r250) (u0 := 0) h253 h254 h255 h256 er270) R ?_
    rintro _ s271 m272 ⟨a273, c273, rfl, h273⟩
    replace h273 := h273.p
    replace m0 := m0.trans m272.no
    refine L.mv (Wt.mk R R) R R ?_
    obtain ⟨x274, ex274, hm⟩ := bindS hm
    refine L.ix (r := rB) sl118 h273 (Wt.mk R R) R R ex274 R fun b275 o275 cc275 me275 rd275 => ?_
    obtain rfl := rd275
    exact L.ld (j := 0) me275 nag4 (Wt.mk R R) R R R R (L.not (Wt.mk R R) R R (L.pkT Y R R R R (L.sb (J269 _ _ ⟨s271, (!x274), (oi hm).symm, m0, R, R⟩) R)))
   exact L.know (d := 112) R hc (L.skip R R R R (L.skip R R R R (L.skip R R R R (L.skip R R R R (L.skip R R R R (L.skip R R R R (L.pkF Y R R R R (L.sb (J269 _ _ ⟨s263, false, (oi hm).symm, m0, R, R⟩) R))))))))
  intro J276
  rcases Bool.eq_false_or_eq_true (r262 != (-1)) with hc | hc
  ·exact L.know (d := 106) R hc (L.fa fa38_2 (Wt.mk R R) R R (L.ld (j := 2) bx14.mem nag22 (Wt.mk R R) R R R R (L.len sl22 (Wt.mk R R) R R (L.bi (Wt.mk R R) R R R R (L.pkT Y R R R R (L.sb (J276 _ _ ⟨((p2.2.2.length : Int) == 0), (andT hc).symm, R, R⟩) R))))))
  exact L.know (d := 106) R hc (L.skip R R R R (L.skip R R R R (L.skip R R R R (L.skip R R R R (L.pkF Y R R R R (L.sb (J276 _ _ ⟨false, (andF hc).symm, R, R⟩) R))))))
 refine E.cF R hc (ER (L.as Y R R (LN (E.ret (X.blkR (X.seqR ?_))))))
 obtain rfl := oi hm
 exact X.rt (.inl R) Tryz.results21 (Rs.tmp R Rs.nil) R ⟨_, (s49).ren N (fun _ => 0), R, R, m0.ren hNb, R⟩

noncomputable def m_scan_Check (p0 : AutT × AutT × List Int) : Option Int :=
 (m_scan_open p0).bind fun r11 =>
 some r11.2
theorem m_scan_Check_c {s : Sig} {p0 : AutT × AutT × List Int} {a1 : Option Addr} {c1 : Nat} {a2 : Option Addr} {c2 : Nat} {a3 : Option Addr} {c3 : Nat} {a4 : Option Addr} {c4 : Nat} {a5 : Option Addr} {c5 : Nat} {a6 : Option Addr} {c6 : Nat} {a7 : Option Addr} {c7 : Nat} {r : Int} (h1 : RdL qI s a1 c1 p0.1.1) (h2 : RdL qI s a2 c2 p0.1.2.2.1) (h3 : RdL qT s a3 c3 p0.1.2.2.2) (h4 : RdL qI s a4 c4 p0.2.1.1) (h5 : RdL qI s a5 c5 p0.2.1.2.2.1) (h6 : RdL qT s a6 c6 p0.2.1.2.2.2) (h7 : RdL qI s a7 c7 p0.2.2) (hm : m_scan_Check p0 = some r) :
    Calls Tryz.prog 22 #[.agg #[.slice a1 p0.1.1.length c1, .int .i64 p0.1.2.1, .slice a2 p0.1.2.2.1.length c2, .slice a3 p0.1.2.2.2.length c3, .slice a4 p0.2.1.1.length c4, .int .i64 p0.2.1.2.1, .slice a5 p0.2.1.2.2.1.length c5, .slice a6 p0.2.1.2.2.2.length c6, .slice a7 p0.2.2.length c7]] s.w (RetS No s fun v s' => v = .int .i64 r) := by
 unfold m_scan_Check at hm
 obtain ⟨N, hN, hNb⟩ := s.fresh
 have m0 : Mv (Up N No) s s := Mv.refl _ _
 refine E.entry Tryz.func22 R Tryz.ntmps22 R R (ER (L.box (N + 0) Y R R R fun b8 s9 m10 bx8 => ?_))
 replace h1 := h1.mono m10.z
 replace h2 := h2.mono m10.z
 replace h3 := h3.mono m10.z
 replace h4 := h4.mono m10.z
 replace h5 := h5.mono m10.z
 replace h6 := h6.mono m10.z
 replace h7 := h7.mono m10.z
 refine L.as Y R R (LN (ER (L.lg (j := 0) (cs := [.slice a1 p0.1.1.length c1, .int .i64 p0.1.2.1, .slice a2 p0.1.2.2.1.length c2, .slice a3 p0.1.2.2.2.length c3, .slice a4 p0.2.1.1.length c4, .int .i64 p0.2.1.2.1, .slice a5 p0.2.1.2.2.1.length c5, .slice a6 p0.2.1.2.2.2.length c6, .slice a7 p0.2.2.length c7]) bx8.mem ag27 Y R R R R R ?_)))
 obtain ⟨r11, er11, hm⟩ := bindS hm
 refine L.ca cf52 R R Y R (m_scan_open_c (s := s9) (p0 := p0) h1 h2 h3 h4 h5 h6 h7 er11) R ?_
 rintro _ s12 m13 ⟨v14, rfl, h14⟩
 replace m0 := (m0.trans m10.no).trans m13.no
 refine L.mv Y R R (L.ex Y R R R (L.ex Y R R R (L.as Y R R (L.as Y R R (LN (ER (L.mv Y R R (L.as Y R R (LN (E.ret ?_))))))))))
 obtain rfl := oi hm
 exact X.rt (.inl R) Tryz.results22 (Rs.tmp R Rs.nil) R ⟨_, (s12).ren N (fun _ => 0), R, R, m0.ren hNb, R⟩

end Go.Proofs.YtidakgbibobbdaaGreatDoor

