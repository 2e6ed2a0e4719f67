/- Parts of the proof, without what nothing here names. -/
import Derived.Test.YtidakgbibobbdaaGreatDoorProg
import Derived.Test.YtidakgbibobbdaaGreatDoorQz3
set_option maxRecDepth 100000
set_option maxHeartbeats 8000000
namespace Go.Proofs.YtidakgbibobbdaaGreatDoor
open Go Go.RowKit
theorem ag38 : Ag Tryz.prog 38 3 := Ag.mk' Tryz.underlying38 rfl (by kernel_rfl)
theorem cf52 : Cf Tryz.prog 52 := Cf.mk Tryz.func52 (by kernel_rfl) (by kernel_rfl)
theorem cf57 : Cf Tryz.prog 57 := Cf.mk Tryz.func57 (by kernel_rfl) (by kernel_rfl)
theorem cf58 : Cf Tryz.prog 58 := Cf.mk Tryz.func58 (by kernel_rfl) (by kernel_rfl)
theorem cf59 : Cf Tryz.prog 59 := Cf.mk Tryz.func59 (by kernel_rfl) (by kernel_rfl)
theorem fa110_2 : FA Tryz.prog 110 2 10 := FA.mk Tryz.underlying110 rfl rfl ⟨5, by decide, by kernel_rfl⟩
theorem pl38 : Pl Tryz.prog 38 [(0, 1), (1, 1), (2, 1)] [.int .i64 0, .slice none 0 0, .slice none 0 0] := Pl.str Tryz.underlying38 (by kernel_rfl) (by kernel_rfl)
theorem zz38 : (Tryz.prog.info? 38).bind (·.zero) = some (.agg #[.int .i64 0, .slice none 0 0, .slice none 0 0]) := by kernel_rfl
noncomputable def m_scan_Orders_l2 (x25 : (AutT × (List ((Int × Int) × Int))) × (AutT × (List ((Int × Int) × Int))) × (AutT × (List ((Int × Int) × Int))) × List (List Int) × List Int × List Int) (st86 : Int) (r100 : List (List Int)) (st118 : Int) : Option (Int ⊕ (Unit ⊕ (List Int × List Int))) :=
 if decide (st118 < (r100.length : Int)) then
  (idx r100 st118).bind fun x130 =>
  (m_scan_task_ordered x25 st86 x130).bind fun r133 =>
  if (!r133) then
   (m_scan_graph_word x25.2.2.1 st86).bind fun r136 =>
   some (.inr (.inr ((r136, x130))))
  else
   some (.inl (W (st118 + 1)))
 else
  some (.inr (.inl ()))
noncomputable def m_scan_Orders_l1 (p1 : Int) (x25 : (AutT × (List ((Int × Int) × Int))) × (AutT × (List ((Int × Int) × Int))) × (AutT × (List ((Int × Int) × Int))) × List (List Int) × List Int × List Int) (st86 : Int) : Option (Int ⊕ (Unit ⊕ (List Int × List Int))) :=
 if decide (st86 < (x25.2.2.2.1.length : Int)) then
  (m_scan_task_bursts x25 st86 p1).bind fun r100 =>
  (iter (m_scan_Orders_l2 x25 st86 r100) 0).bind fun o118 =>
  match o118 with
  | .inl u124 =>
   some (.inl (W (st86 + 1)))
  | .inr (u127) =>
   some (.inr (.inr (u127)))
 else
  some (.inr (.inl ()))
noncomputable def m_scan_Orders (p0 : AutT × AutT × List Int) (p1 : Int) : Option ((Int × List Int × List Int) × Bool × Int) :=
 (m_scan_open p0).bind fun r16 =>
 if (r16.2 != 0) then
  some ((0, ([] : List Int), ([] : List Int)), false, r16.2)
 else
  if ((decide (p1 < 2)) || (decide (p1 > 3))) then
   some ((0, ([] : List Int), ([] : List Int)), false, 2)
  else
   r16.1.bind fun x25 =>
   (iter (m_scan_Orders_l1 p1 x25) 0).bind fun o86 =>
   match o86 with
   | .inl u92 =>
    some ((0, ([] : List Int), ([] : List Int)), true, 0)
   | .inr (u97) =>
    some ((1, u97), false, 0)
theorem m_scan_Orders_c {s : Sig} {p0 : AutT × AutT × List Int} {p1 : Int} {a1 : Option Addr} {c1 : Nat} {a2 : Option Addr} {c2 : Nat} {a3 : Option Addr} {c3 : Nat} {a4 : Option Addr} {c4 : Nat} {a5 : Option Addr} {c5 : Nat} {a6 : Option Addr} {c6 : Nat} {a7 : Option Addr} {c7 : Nat} {u0 : Nat} {r : (Int × List Int × List Int) × Bool × Int} (h1 : RdL qI s a1 c1 p0.1.1) (h2 : RdL qI s a2 c2 p0.1.2.2.1) (h3 : RdL qT s a3 c3 p0.1.2.2.2) (h4 : RdL qI s a4 c4 p0.2.1.1) (h5 : RdL qI s a5 c5 p0.2.1.2.2.1) (h6 : RdL qT s a6 c6 p0.2.1.2.2.2) (h7 : RdL qI s a7 c7 p0.2.2) (hm : m_scan_Orders p0 p1 = some r) :
    Calls Tryz.prog 16 #[.agg #[.slice a1 p0.1.1.length c1, .int .i64 p0.1.2.1, .slice a2 p0.1.2.2.1.length c2, .slice a3 p0.1.2.2.2.length c3, .slice a4 p0.2.1.1.length c4, .int .i64 p0.2.1.2.1, .slice a5 p0.2.1.2.2.1.length c5, .slice a6 p0.2.1.2.2.2.length c6, .slice a7 p0.2.2.length c7], .int .i64 p1] s.w (RetS No s fun v s' => ∃ (a8 : Option Addr) (c8 : Nat) (a9 : Option Addr) (c9 : Nat), v = .tuple #[.agg #[.int .i64 r.1.1, .slice a8 r.1.2.1.length c8, .slice a9 r.1.2.2.length c9], .bool r.2.1, .int .i64 r.2.2] ∧ RowT qI s' u0 3 a8 c8 r.1.2.1 ∧ RdL qI s' a9 c9 r.1.2.2) := by
 unfold m_scan_Orders at hm
 obtain ⟨N, hN, hNb⟩ := s.fresh
 have m0 : Mv (Up N No) s s := Mv.refl _ _
 refine E.entry Tryz.func16 R Tryz.ntmps16 R R (ER (L.box (N + 0) Y R R R fun b10 s11 m12 bx10 => ?_))
 refine L.al (N + 1) zz38 R Y R fun b13 s14 m15 bx13 => ?_
 replace bx10 := bx10.mv m15 no_No
 replace h1 := (h1.mono m12.z).mono m15.z
 replace h2 := (h2.mono m12.z).mono m15.z
 replace h3 := (h3.mono m12.z).mono m15.z
 replace h4 := (h4.mono m12.z).mono m15.z
 replace h5 := (h5.mono m12.z).mono m15.z
 replace h6 := (h6.mono m12.z).mono m15.z
 replace h7 := (h7.mono m12.z).mono m15.z
 refine L.as Y R R (L.as Y R R (LN (ER (L.lg (j := 0) (cs := [.slice a1 p0.1.1.length c1, .int .i64 p0.1.2.1, .slice a2 p0.1.2.2.1.length c2, .slice a3 p0.1.2.2.2.length c3, .slice a4 p0.2.1.1.length c4, .int .i64 p0.2.1.2.1, .slice a5 p0.2.1.2.2.1.length c5, .slice a6 p0.2.1.2.2.2.length c6, .slice a7 p0.2.2.length c7]) bx10.mem ag27 Y R R R R R ?_))))
 obtain ⟨r16, er16, hm⟩ := bindS hm
 refine L.ca cf52 R R Y R (m_scan_open_c (s := s14) (p0 := p0) h1 h2 h3 h4 h5 h6 h7 er16) R ?_
 rintro _ s17 m18 ⟨v19, rfl, h19⟩
 replace m0 := ((m0.trans m12.no).trans m15.no).trans m18.no
 replace bx13 := bx13.mv m18 no_No
 refine L.mv Y R R (L.ex Y R R R (L.ex Y R R R (L.as Y R R (L.as Y R R (LN (E.seq (ER (L.mv Y R R (L.bi Y R R R R (L.nil (X.seqN ?_)))))))))))
 rcases ifS hm with ⟨hc, hm⟩ | ⟨hc, hm⟩
 ·refine E.cT R hc (ER (L.bu (cs := [.int .i64 0, .slice none 0 0, .slice none 0 0]) pl38 Y R R R (L.mv Y R R (L.st (c := [.int .i64 0, .slice none 0 0, .slice none 0 0]) (cs' := #[.int .i64 0, .slice none 0 0, .slice none 0 0]) bx13 ag38.sz Y R R R R R (nb R) R fun s20 m21 bx13 => ?_))))
  replace m0 := m0.trans (m21.one up)
  refine L.as Y R R (L.as Y R R (LN (E.ret (X.seqR ?_))))
  obtain rfl := oi hm
  exact X.rt (.inl R) Tryz.results16 (Rs.cell R bx13 ag38 R (Rs.tmp R (Rs.tmp R Rs.nil))) R ⟨_, (s20).ren N (fun _ => 0), R, R, m0.ren hNb, ⟨none, 0, none, 0, R, RowT.nil, RdL.nil⟩⟩
 refine E.cF R hc (E.skip (X.seqN (E.seq (ER (L.mv Y R R (L.bi Y R R R R (L.mv Y R R (L.cut 3 (fun e w => ∃ (v22 : Bool), ((decide (p1 < 2)) || (decide (p1 > 3))) = v22 ∧ e = (25, .bool v22) :: [(7, v19), (4, .pointer (some ⟨b13, 0, none⟩)), (1, .int .i64 p1)] ∧ w = s17.w) ?_ ?_))))))))
 ·rintro _ _ ⟨v22, rfl, rfl, rfl⟩
  refine L.nil (X.seqN ?_)
  rcases ifS hm with ⟨hc, hm⟩ | ⟨hc, hm⟩
  ·refine E.cT R hc (ER (L.bu (cs := [.int .i64 0, .slice none 0 0, .slice none 0 0]) pl38 Y R R R (L.st (c := [.int .i64 0, .slice none 0 0, .slice none 0 0]) (cs' := #[.int .i64 0, .slice none 0 0, .slice none 0 0]) bx13 ag38.sz Y R R R R R (nb R) R fun s23 m24 bx13 => ?_)))
   replace m0 := m0.trans (m24.one up)
   refine L.as Y R R (L.as Y R R (LN (E.ret (X.seqR ?_))))
   obtain rfl := oi hm
   exact X.rt (.inl R) Tryz.results16 (Rs.cell R bx13 ag38 R (Rs.tmp R (Rs.tmp R Rs.nil))) R ⟨_, (s23).ren N (fun _ => 0), R, R, m0.ren hNb, ⟨none, 0, none, 0, R, RowT.nil, RdL.nil⟩⟩
  refine E.cF R hc (E.skip (X.seqN (E.seq (ER (L.mv Y R R ?_)))))
  obtain ⟨x25, ex25, hm⟩ := bindS hm
  obtain ⟨b26, ds26, rfl, bx26, rd26⟩ := h19.some ex25
  obtain ⟨_, _, rfl, ⟨_, _, rfl, ⟨_, _, rfl, ⟨a27, c27, rfl, h27⟩, ⟨_, _, rfl, rfl, ⟨_, _, rfl, ⟨a28, c28, rfl, h28⟩, ⟨a29, c29, rfl, h29⟩⟩⟩⟩, ⟨y30, c30, rfl, h30⟩⟩, ⟨_, _, rfl, ⟨_, _, rfl, ⟨_, _, rfl, ⟨a31, c31, rfl, h31⟩, ⟨_, _, rfl, rfl, ⟨_, _, rfl, ⟨a32, c32, rfl, h32⟩, ⟨a33, c33, rfl, h33⟩⟩⟩⟩, ⟨y34, c34, rfl, h34⟩⟩, ⟨_, _, rfl, ⟨_, _, rfl, ⟨_, _, rfl, ⟨a35, c35, rfl, h35⟩, ⟨_, _, rfl, rfl, ⟨_, _, rfl, ⟨a36, c36, rfl, h36⟩, ⟨a37, c37, rfl, h37⟩⟩⟩⟩, ⟨y38, c38, rfl, h38⟩⟩, ⟨_, _, rfl, ⟨a39, c39, rfl, h39⟩, ⟨_, _, rfl, ⟨a40, c40, rfl, h40⟩, ⟨a41, c41, rfl, h41⟩⟩⟩⟩⟩⟩ := rd26
  replace bx26 : Bx s17 0 b26 #[.slice a27 x25.1.1.1.length c27, .int .i64 x25.1.1.2.1, .slice a28 x25.1.1.2.2.1.length c28, .slice a29 x25.1.1.2.2.2.length c29, .map y30, .slice a31 x25.2.1.1.1.length c31, .int .i64 x25.2.1.1.2.1, .slice a32 x25.2.1.1.2.2.1.length c32, .slice a33 x25.2.1.1.2.2.2.length c33, .map y34, .slice a35 x25.2.2.1.1.1.length c35, .int .i64 x25.2.2.1.1.2.1, .slice a36 x25.2.2.1.1.2.2.1.length c36, .slice a37 x25.2.2.1.1.2.2.2.length c37, .map y38, .slice a39 x25.2.2.2.1.length c39, .slice a40 x25.2.2.2.2.1.length c40, .slice a41 x25.2.2.2.2.2.length c41] 110 := bx26
  refine L.nc Y R R (L.fa fa110_3 Y R R (L.ld (j := 15) bx26.mem nag34 Y R R R R (L.len sl34 Y R R (L.mv Y R R (LN (E.block ?_))))))
  obtain ⟨o86, eo86, hm⟩ := bindS hm
  refine E.cut (x := .exit 0) (fun e w => ∃ (s93 : Sig) (u92 : Unit), o86 = .inl u92 ∧ Mv (Up N No) s s93 ∧ Bx s93 (N + 1) b13 #[.int .i64 0, .slice none 0 0, .slice none 0 0] 38 ∧ e = [(4, .pointer (some ⟨b13, 0, none⟩))] ∧ w = s93.w) ?_ ?_
  ·rintro _ _ ⟨s93, u92, rfl, m0, bx13, rfl, rfl⟩
   dsimp only at hm
   refine X.blkE (X.seqN (ER (L.bu (cs := [.int .i64 0, .slice none 0 0, .slice none 0 0]) pl38 Y R R R (L.st (c := [.int .i64 0, .slice none 0 0, .slice none 0 0]) (cs' := #[.int .i64 0, .slice none 0 0, .slice none 0 0]) bx13 ag38.sz Y R R R R R (nb R) R fun s94 m95 bx13 => ?_))))
   replace m0 := m0.trans (m95.one up)
   refine L.as Y R R (L.as Y R R (LN (E.ret ?_)))
   obtain rfl := oi hm
   exact X.rt (.inl R) Tryz.results16 (Rs.cell R bx13 ag38 R (Rs.tmp R (Rs.tmp R Rs.nil))) R ⟨_, (s94).ren N (fun _ => 0), R, R, m0.ren hNb, ⟨none, 0, none, 0, R, RowT.nil, RdL.nil⟩⟩
  intro K96
  refine E.cut (x := .ret) (fun e w => ∃ (s98 : Sig) (u97 : List Int × List Int) (a88 : Option Addr) (c88 : Nat) (a90 : Option Addr) (c90 : Nat), o86 = .inr (u97) ∧ Mv (Up N No) s s98 ∧ RowT qI s98 (N + 2) 3 a88 c88 u97.1 ∧ RdL qI s98 a90 c90 u97.2 ∧ Bx s98 (N + 1) b13 #[.int .i64 1, .slice a88 u97.1.length c88, .slice a90 u97.2.length c90] 38 ∧ e = [(6, .int .i64 0), (5, .bool false), (4, .pointer (some ⟨b13, 0, none⟩))] ∧ w = s98.w) ?_ ?_
  ·rintro _ _ ⟨s98, u97, a88, c88, a90, c90, rfl, m0, h88, h90, bx13, rfl, rfl⟩
   dsimp only at hm
   refine X.blkR (X.seqR ?_)
   obtain rfl := oi hm
   exact X.rt (.inl R) Tryz.results16 (Rs.cell R bx13 ag38 R (Rs.tmp R (Rs.tmp R Rs.nil))) R ⟨_, (s98).ren N (fun k => cond (Nat.beq k 2) u0 (0)), R, R, m0.ren hNb, ⟨a88, c88, a90, c90, R, (h88.ren hN), (h90.ren hN)⟩⟩
  intro K99
  refine E.iter (fun (st86 : Int) (e : List (Nat × Value)) (w : World) => ∃ (s91 : Sig), Mv (Up N No) s s91 ∧ RdL qI s91 a27 c27 x25.1.1.1 ∧ RdL qI s91 a28 c28 x25.1.1.2.2.1 ∧ RdL qT s91 a29 c29 x25.1.1.2.2.2 ∧ MapD kvP qI s91 y30 c30 x25.1.2 ∧ RdL qI s91 a31 c31 x25.2.1.1.1 ∧ RdL qI s91 a32 c32 x25.2.1.1.2.2.1 ∧ RdL qT s91 a33 c33 x25.2.1.1.2.2.2 ∧ MapD kvP qI s91 y34 c34 x25.2.1.2 ∧ RdL qI s91 a35 c35 x25.2.2.1.1.1 ∧ RdL qI s91 a36 c36 x25.2.2.1.1.2.2.1 ∧ RdL qT s91 a37 c37 x25.2.2.1.1.2.2.2 ∧ MapD kvP qI s91 y38 c38 x25.2.2.1.2 ∧ RdL (rL qI) s91 a39 c39 x25.2.2.2.1 ∧ RdL qI s91 a40 c40 x25.2.2.2.2.1 ∧ RdL qI s91 a41 c41 x25.2.2.2.2.2 ∧ Bx s91 (N + 1) b13 #[.int .i64 0, .slice none 0 0, .slice none 0 0] 38 ∧ Bx s91 0 b26 #[.slice a27 x25.1.1.1.length c27, .int .i64 x25.1.1.2.1, .slice a28 x25.1.1.2.2.1.length c28, .slice a29 x25.1.1.2.2.2.length c29, .map y30, .slice a31 x25.2.1.1.1.length c31, .int .i64 x25.2.1.1.2.1, .slice a32 x25.2.1.1.2.2.1.length c32, .slice a33 x25.2.1.1.2.2.2.length c33, .map y34, .slice a35 x25.2.2.1.1.1.length c35, .int .i64 x25.2.2.1.1.2.1, .slice a36 x25.2.2.1.1.2.2.1.length c36, .slice a37 x25.2.2.1.1.2.2.2.length c37, .map y38, .slice a39 x25.2.2.2.1.length c39, .slice a40 x25.2.2.2.2.1.length c40, .slice a41 x25.2.2.2.2.2.length c41] 110 ∧ e = [(32, .int .i64 st86), (31, .int .i64 (x25.2.2.2.1.length : Int)), (7, .pointer (some ⟨b26, 0, none⟩)), (4, .pointer (some ⟨b13, 0, none⟩)), (1, .int .i64 p1)] ∧ w = s91.w) eo86 ⟨s17, m0, h27, h28, h29, h30, h31, h32, h33, h34, h35, h36, h37, h38, h39, h40, h41, bx13, bx26, R, R⟩ (Sub.rf R) ?_
  rintro st86 res86 hm ih86 ho86 _ _ ⟨s91, m0, h27, h28, h29, h30, h31, h32, h33, h34, h35, h36, h37, h38, h39, h40, h41, bx13, bx26, rfl, rfl⟩
  unfold m_scan_Orders_l1 at hm
  refine ER (L.bi Y R R R R (LN (E.seq ?_)))
  rcases ifS hm with ⟨hc, hm⟩ | ⟨hc, hm⟩
  ·refine E.cT R hc (E.skip (X.seqN (E.seq (E.block (ER (L.mv Y R R (L.as Y R R (LN (ER (L.mv Y R R (L.mv Y R R (L.mv Y R R ?_))))))))))))
   obtain ⟨r100, er100, hm⟩ := bindS hm
   refine L.ca cf57 R R Y R (m_scan_task_bursts_c (s := s91) (p0 := x25) (p1 := st86) (p2 := p1) (t0 := 0) (u0 := 0) h27 h28 h29 h30 h31 h32 h33 h34 h35 h36 h37 h38 h39 h40 h41 bx26 er100) R ?_
   rintro _ s101 m102 ⟨a103, c103, rfl, h103⟩
   replace h103 := h103.p
   replace m0 := m0.trans m102.no
   replace bx13 := bx13.mv m102 no_No
   replace bx26 := bx26.mv m102 no_No
   replace h27 := h27.mono m102.z
   replace h28 := h28.mono m102.z
   replace h29 := h29.mono m102.z
   replace h30 := h30.mono m102.z
   replace h31 := h31.mono m102.z
   replace h32 := h32.mono m102.z
   replace h33 := h33.mono m102.z
   replace h34 := h34.mono m102.z
   replace h35 := h35.mono m102.z
   replace h36 := h36.mono m102.z
   replace h37 := h37.mono m102.z
   replace h38 := h38.mono m102.z
   replace h39 := h39.mono m102.z
   replace h40 := h40.mono m102.z
   replace h41 := h41.mono m102.z
   refine L.len sl34 Y R R (L.mv Y R R (LN (E.block ?_)))
   obtain ⟨o118, eo118, hm⟩ := bindS hm
   refine E.cut (x := .exit 2) (fun e w => ∃ (s125 : Sig) (u124 : Unit), o118 = .inl u124 ∧ Mv (Up N No) s s125 ∧ RdL qI s125 a27 c27 x25.1.1.1 ∧ RdL qI s125 a28 c28 x25.1.1.2.2.1 ∧ RdL qT s125 a29 c29 x25.1.1.2.2.2 ∧ MapD kvP qI s125 y30 c30 x25.1.2 ∧ RdL qI s125 a31 c31 x25.2.1.1.1 ∧ RdL qI s125 a32 c32 x25.2.1.1.2.2.1 ∧ RdL qT s125 a33 c33 x25.2.1.1.2.2.2 ∧ MapD kvP qI s125 y34 c34 x25.2.1.2 ∧ RdL qI s125 a35 c35 x25.2.2.1.1.1 ∧ RdL qI s125 a36 c36 x25.2.2.1.1.2.2.1 ∧ RdL qT s125 a37 c37 x25.2.2.1.1.2.2.2 ∧ MapD kvP qI s125 y38 c38 x25.2.2.1.2 ∧ RdL (rL qI) s125 a39 c39 x25.2.2.2.1 ∧ RdL qI s125 a40 c40 x25.2.2.2.2.1 ∧ RdL qI s125 a41 c41 x25.2.2.2.2.2 ∧ Bx s125 (N + 1) b13 #[.int .i64 0, .slice none 0 0, .slice none 0 0] 38 ∧ Bx s125 0 b26 #[.slice a27 x25.1.1.1.length c27, .int .i64 x25.1.1.2.1, .slice a28 x25.1.1.2.2.1.length c28, .slice a29 x25.1.1.2.2.2.length c29, .map y30, .slice a31 x25.2.1.1.1.length c31, .int .i64 x25.2.1.1.2.1, .slice a32 x25.2.1.1.2.2.1.length c32, .slice a33 x25.2.1.1.2.2.2.length c33, .map y34, .slice a35 x25.2.2.1.1.1.length c35, .int .i64 x25.2.2.1.1.2.1, .slice a36 x25.2.2.1.1.2.2.1.length c36, .slice a37 x25.2.2.1.1.2.2.2.length c37, .map y38, .slice a39 x25.2.2.2.1.length c39, .slice a40 x25.2.2.2.2.1.length c40, .slice a41 x25.2.2.2.2.2.length c41] 110 ∧ e = [(32, .int .i64 st86), (31, .int .i64 (x25.2.2.2.1.length : Int)), (7, .pointer (some ⟨b26, 0, none⟩)), (4, .pointer (some ⟨b13, 0, none⟩)), (1, .int .i64 p1)] ∧ w = s125.w) ?_ ?_
   ·rintro _ _ ⟨s125, u124, rfl, m0, h27, h28, h29, h30, h31, h32, h33, h34, h35, h36, h37, h38, h39, h40, h41, bx13, bx26, rfl, rfl⟩
    dsimp only at hm
    exact X.blkE (X.blkN (X.seqN (E.reg (L.bi Y R R R R (L.mv Y R R (L.nil (X.sub (ih86 _ (oi hm).symm _ _ ⟨s125, m0, h27, h28, h29, h30, h31, h32, h33, h34, h35, h36, h37, h38, h39, h40, h41, bx13, bx26, R, R⟩) (Sub.rf R))))))))
   intro K126
   refine E.cut (x := .ret) (fun e w => ∃ (s128 : Sig) (u127 : List Int × List Int) (a120 : Option Addr) (c120 : Nat) (a122 : Option Addr) (c122 : Nat), o118 = .inr (u127) ∧ Mv (Up N No) s s128 ∧ RowT qI s128 (N + 2) 3 a120 c120 u127.1 ∧ RdL qI s128 a122 c122 u127.2 ∧ Bx s128 (N + 1) b13 #[.int .i64 1, .slice a120 u127.1.length c120, .slice a122 u127.2.length c122] 38 ∧ e = [(6, .int .i64 0), (5, .bool false), (4, .pointer (some ⟨b13, 0, none⟩))] ∧ w = s128.w) ?_ ?_
   ·rintro _ _ ⟨s128, u127, a120, c120, a122, c122, rfl, m0, h120, h122, bx13, rfl, rfl⟩
    dsimp only at hm
    refine X.blkR (X.blkR (X.seqR (X.seqR ?_)))
    have hx := ho86 _ (oi hm).symm
    exact X.sub (K99 _ _ ⟨s128, u127, a120, c120, a122, c122, hx.symm, m0, h120, h122, bx13, R, R⟩) (Sub.rf R)
   intro K129
   refine E.iter (fun (st118 : Int) (e : List (Nat × Value)) (w : World) => ∃ (s123 : Sig), Mv (Up N No) s s123 ∧ RdL (rL qI) s123 a103 c103 r100 ∧ RdL qI s123 a27 c27 x25.1.1.1 ∧ RdL qI s123 a28 c28 x25.1.1.2.2.1 ∧ RdL qT s123 a29 c29 x25.1.1.2.2.2 ∧ MapD kvP qI s123 y30 c30 x25.1.2 ∧ RdL qI s123 a31 c31 x25.2.1.1.1 ∧ RdL qI s123 a32 c32 x25.2.1.1.2.2.1 ∧ RdL qT s123 a33 c33 x25.2.1.1.2.2.2 ∧ MapD kvP qI s123 y34 c34 x25.2.1.2 ∧ RdL qI s123 a35 c35 x25.2.2.1.1.1 ∧ RdL qI s123 a36 c36 x25.2.2.1.1.2.2.1 ∧ RdL qT s123 a37 c37 x25.2.2.1.1.2.2.2 ∧ MapD kvP qI s123 y38 c38 x25.2.2.1.2 ∧ RdL (rL qI) s123 a39 c39 x25.2.2.2.1 ∧ RdL qI s123 a40 c40 x25.2.2.2.2.1 ∧ RdL qI s123 a41 c41 x25.2.2.2.2.2 ∧ Bx s123 (N + 1) b13 #[.int .i64 0, .slice none 0 0, .slice none 0 0] 38 ∧ Bx s123 0 b26 #[.slice a27 x25.1.1.1.length c27, .int .i64 x25.1.1.2.1, .slice a28 x25.1.1.2.2.1.length c28, .slice a29 x25.1.1.2.2.2.length c29, .map y30, .slice a31 x25.2.1.1.1.length c31, .int .i64 x25.2.1.1.2.1, .slice a32 x25.2.1.1.2.2.1.length c32, .slice a33 x25.2.1.1.2.2.2.length c33, .map y34, .slice a35 x25.2.2.1.1.1.length c35, .int .i64 x25.2.2.1.1.2.1, .slice a36 x25.2.2.1.1.2.2.1.length c36, .slice a37 x25.2.2.1.1.2.2.2.length c37, .map y38, .slice a39 x25.2.2.2.1.length c39, .slice a40 x25.2.2.2.2.1.length c40, .slice a41 x25.2.2.2.2.2.length c41] 110 ∧ e = [(40, .int .i64 st118), (39, .int .i64 (r100.length : Int)), (38, .slice a103 r100.length c103), (8, .int .i64 st86), (32, .int .i64 st86), (31, .int .i64 (x25.2.2.2.1.length : Int)), (7, .pointer (some ⟨b26, 0, none⟩)), (4, .pointer (some ⟨b13, 0, none⟩)), (1, .int .i64 p1)] ∧ w = s123.w) eo118 ⟨s101, m0, h103, h27, h28, h29, h30, h31, h32, h33, h34, h35, h36, h37, h38, h39, h40, h41, bx13, bx26, R, R⟩ (Sub.rf R) ?_
   rintro st118 res118 hm ih118 ho118 _ _ ⟨s123, m0, h103, h27, h28, h29, h30, h31, h32, h33, h34, h35, h36, h37, h38, h39, h40, h41, bx13, bx26, rfl, rfl⟩
   unfold m_scan_Orders_l2 at hm
   refine ER (L.bi Y R R R R (LN (E.seq ?_)))
   rcases ifS hm with ⟨hc, hm⟩ | ⟨hc, hm⟩
   ·refine E.cT R hc (E.skip (X.seqN (E.seq (E.block (E.seq (E.reg ?_))))))
    obtain ⟨x130, ex130, hm⟩ := bindS hm
    refine L.ix (r := (rL qI)) sl34 h103 Y R R ex130 R fun b131 o131 cc131 me131 rd131 => ?_
    obtain ⟨a132, c132, rfl, h132⟩ := rd131
    refine L.ld (j := 0) me131 nag22 Y R R R R (L.as Y R R (LN (ER (L.mv Y R R (L.mv Y R R (L.mv Y R R ?_))))))
    obtain ⟨r133, er133, hm⟩ := bindS hm
    refine L.ca cf58 R R Y R (m_scan_task_ordered_c (s := s123) (p0 := x25) (p1 := st86) (p2 := x130) (t0 := 0) h27 h28 h29 h30 h31 h32 h33 h34 h35 h36 h37 h38 h39 h40 h41 bx26 h132 er133) R ?_
    rintro _ s134 m135 rfl
    replace m0 := m0.trans m135.no
    replace h103 := h103.mono m135.z
    replace h132 := h132.mono m135.z
    replace bx13 := bx13.mv m135 no_No
    replace bx26 := bx26.mv m135 no_No
    replace h27 := h27.mono m135.z
    replace h28 := h28.mono m135.z
    replace h29 := h29.mono m135.z
    replace h30 := h30.mono m135.z
    replace h31 := h31.mono m135.z
    replace h32 := h32.mono m135.z
    replace h33 := h33.mono m135.z
    replace h34 := h34.mono m135.z
    replace h35 := h35.mono m135.z
    replace h36 := h36.mono m135.z
    replace h37 := h37.mono m135.z
    replace h38 := h38.mono m135.z
    replace h39 := h39.mono m135.z
    replace h40 := h40.mono m135.z
    replace h41 := h41.mono m135.z
    refine L.not Y R R (L.nil (X.seqN ?_))
    rcases ifS hm with ⟨hc, hm⟩ | ⟨hc, hm⟩
    ·refine E.cT R hc (ER (L.mv Y R R (L.nc Y R R (L.fa fa110_2 Y R R (L.lg (j := 10) (cs := [.slice a35 x25.2.2.1.1.1.length c35, .int .i64 x25.2.2.1.1.2.1, .slice a36 x25.2.2.1.1.2.2.1.length c36, .slice a37 x25.2.2.1.1.2.2.2.length c37, .map y38]) bx26.mem ag108 Y R R R R R (L.mv Y R R ?_))))))
     obtain ⟨r136, er136, hm⟩ := bindS hm
     refine L.ca cf59 R R Y R (m_scan_graph_word_c (s := s134) (p0 := x25.2.2.1) (p1 := st86) (u0 := (N + 2)) h35 h36 h37 h38 er136) R ?_
     rintro _ s137 m138 ⟨a139, c139, rfl, h139⟩
     replace bx13 := bx13.mv m138 no_No
     refine L.mv Y R R (L.bu (cs := [.int .i64 1, .slice a139 r136.length c139, .slice a132 x130.length c132]) pl38 Y R R R (L.st (c := [.int .i64 1, .slice a139 r136.length c139, .slice a132 x130.length c132]) (cs' := #[.int .i64 1, .slice a139 r136.length c139, .slice a132 x130.length c132]) bx13 ag38.sz Y R R R R R (nb R) R fun s140 m141 bx13 => ?_))
     replace m0 := (m0.trans m138.no).trans (m141.one up)
     replace h139 := h139.mv m141 (tq R) (tg0 hN)
     replace h132 := (h132.mono m138.z).mono (m141.le (tg0 hN))
     refine L.as Y R R (L.as Y R R (LN (E.ret (X.blkR (X.seqR (X.seqR ?_))))))
     have hx := ho118 _ (oi hm).symm
     exact X.sub (K129 _ _ ⟨s140, (r136, x130), a139, c139, a132, c132, hx.symm, m0, h139, h132, bx13, R, R⟩) (Sub.rf R)
    exact E.cF R hc (E.skip (X.blkN (X.seqN (E.reg (L.bi Y R R R R (L.mv Y R R (L.nil (X.sub (ih118 _ (oi hm).symm _ _ ⟨s134, m0, h103, h27, h28, h29, h30, h31, h32, h33, h34, h35, h36, h37, h38, h39, h40, h41, bx13, bx26, R, R⟩) (Sub.rf R)))))))))
   refine E.cF R hc (E.exit (X.seqX (X.seqX ?_)))
   have hx := ho118 _ (oi hm).symm
   exact X.sub (K126 _ _ ⟨s123, (), hx.symm, m0, h27, h28, h29, h30, h31, h32, h33, h34, h35, h36, h37, h38, h39, h40, h41, bx13, bx26, R, R⟩) (Sub.rf R)
  refine E.cF R hc (E.exit (X.seqX (X.seqX ?_)))
  have hx := ho86 _ (oi hm).symm
  exact X.sub (K96 _ _ ⟨s91, (), hx.symm, m0, bx13, R, R⟩) (Sub.rf R)
 intro J142
 rcases Bool.eq_false_or_eq_true (decide (p1 < 2)) with hc | hc
 ·exact L.know (d := 22) R hc (L.skip R R R R (L.skip R R R R (L.pkT Y R R R R (L.sb (J142 _ _ ⟨true, (orT hc).symm, R, R⟩) R))))
 exact L.know (d := 22) R hc (L.mv (Wt.mk R R) R R (L.bi (Wt.mk R R) R R R R (L.pkF Y R R R R (L.sb (J142 _ _ ⟨(decide (p1 > 3)), (orF hc).symm, R, R⟩) R))))

noncomputable def m_scan_task_checkPriority_l1 (p0 : (AutT × (List ((Int × Int) × Int))) × (AutT × (List ((Int × Int) × Int))) × (AutT × (List ((Int × Int) × Int))) × List (List Int) × List Int × List Int) (p1 : List Int) (st33 : Int) : Option (Int ⊕ (Unit ⊕ Int)) :=
 if decide (st33 < (p1.length : Int)) then
  (idx p1 st33).bind fun x42 =>
  (m_alphabet_Contains p0.1.1.1 x42).bind fun r44 =>
  if (!r44) then
   some (.inr (.inr (9)))
  else
   (m_alphabet_Contains p0.2.2.2.2.1 x42).bind fun r47 =>
   if r47 then
    some (.inr (.inr (13)))
   else
    (slc p1 0 st33).bind fun x50 =>
    (m_slices_Contains_int x50 x42).bind fun r52 =>
    if r52 then
     some (.inr (.inr (8)))
    else
     some (.inl (W (st33 + 1)))
 else
  some (.inr (.inl ()))
noncomputable def m_scan_task_checkPriority (p0 : (AutT × (List ((Int × Int) × Int))) × (AutT × (List ((Int × Int) × Int))) × (AutT × (List ((Int × Int) × Int))) × List (List Int) × List Int × List Int) (p1 : List Int) : Option Int :=
 (iter (m_scan_task_checkPriority_l1 p0 p1) 0).bind fun o33 =>
 match o33 with
 | .inl u36 =>
  some 0
 | .inr (u39) =>
  some u39
theorem m_scan_task_checkPriority_c {s : Sig} {p0 : (AutT × (List ((Int × Int) × Int))) × (AutT × (List ((Int × Int) × Int))) × (AutT × (List ((Int × Int) × Int))) × List (List Int) × List Int × List Int} {p1 : List Int} {t0 : Nat} {a1 : Option Addr} {c1 : Nat} {a2 : Option Addr} {c2 : Nat} {a3 : Option Addr} {c3 : Nat} {y4 : Option Nat} {c4 : Nat} {a5 : Option Addr} {c5 : Nat} {a6 : Option Addr} {c6 : Nat} {a7 : Option Addr} {c7 : Nat} {y8 : Option Nat} {c8 : Nat} {a9 : Option Addr} {c9 : Nat} {a10 : Option Addr} {c10 : Nat} {a11 : Option Addr} {c11 : Nat} {y12 : Option Nat} {c12 : Nat} {a13 : Option Addr} {c13 : Nat} {a14 : Option Addr} {c14 : Nat} {a15 : Option Addr} {c15 : Nat} {b16 : Nat} {a17 : Option Addr} {c17 : Nat} {r : Int} (h1 : RdL qI s a1 c1 p0.1.1.1) (h2 : RdL qI s a2 c2 p0.1.1.2.2.1) (h3 : RdL qT s a3 c3 p0.1.1.2.2.2) (h4 : MapD kvP qI s y4 c4 p0.1.2) (h5 : RdL qI s a5 c5 p0.2.1.1.1) (h6 : RdL qI s a6 c6 p0.2.1.1.2.2.1) (h7 : RdL qT s a7 c7 p0.2.1.1.2.2.2) (h8 : MapD kvP qI s y8 c8 p0.2.1.2) (h9 : RdL qI s a9 c9 p0.2.2.1.1.1) (h10 : RdL qI s a10 c10 p0.2.2.1.1.2.2.1) (h11 : RdL qT s a11 c11 p0.2.2.1.1.2.2.2) (h12 : MapD kvP qI s y12 c12 p0.2.2.1.2) (h13 : RdL (rL qI) s a13 c13 p0.2.2.2.1) (h14 : RdL qI s a14 c14 p0.2.2.2.2.1) (h15 : RdL qI s a15 c15 p0.2.2.2.2.2) (bx16 : Bx s t0 b16 #[.slice a1 p0.1.1.1.length c1, .int .i64 p0.1.1.2.1, .slice a2 p0.1.1.2.2.1.length c2, .slice a3 p0.1.1.2.2.2.length c3, .map y4, .slice a5 p0.2.1.1.1.length c5, .int .i64 p0.2.1.1.2.1, .slice a6 p0.2.1.1.2.2.1.length c6, .slice a7 p0.2.1.1.2.2.2.length c7, .map y8, .slice a9 p0.2.2.1.1.1.length c9, .int .i64 p0.2.2.1.1.2.1, .slice a10 p0.2.2.1.1.2.2.1.length c10, .slice a11 p0.2.2.1.1.2.2.2.length c11, .map y12, .slice a13 p0.2.2.2.1.length c13, .slice a14 p0.2.2.2.2.1.length c14, .slice a15 p0.2.2.2.2.2.length c15] 110) (h17 : RdL qI s a17 c17 p1) (hm : m_scan_task_checkPriority p0 p1 = some r) :
    Calls Tryz.prog 113 #[.pointer (some ⟨b16, 0, none⟩), .slice a17 p1.length c17] s.w (RetS No s fun v s' => v = .int .i64 r) := by
 unfold m_scan_task_checkPriority at hm
 obtain ⟨N, hN, hNb, lt0, -⟩ := s.freshL [t0]
 have m0 : Mv (Up N No) s s := Mv.refl _ _
 refine E.entry Tryz.func113 R Tryz.ntmps113 R R (ER (L.as Y R R (LN (E.seq (ER (L.mv Y R R (L.len sl22 Y R R (L.mv Y R R (LN (E.block ?_))))))))))
 obtain ⟨o33, eo33, hm⟩ := bindS hm
 refine E.cut (x := .exit 0) (fun e w => ∃ (s37 : Sig) (u36 : Unit), o33 = .inl u36 ∧ Mv (Up N No) s s37 ∧ RdL qI s37 a1 c1 p0.1.1.1 ∧ RdL qI s37 a2 c2 p0.1.1.2.2.1 ∧ RdL qT s37 a3 c3 p0.1.1.2.2.2 ∧ MapD kvP qI s37 y4 c4 p0.1.2 ∧ RdL qI s37 a5 c5 p0.2.1.1.1 ∧ RdL qI s37 a6 c6 p0.2.1.1.2.2.1 ∧ RdL qT s37 a7 c7 p0.2.1.1.2.2.2 ∧ MapD kvP qI s37 y8 c8 p0.2.1.2 ∧ RdL qI s37 a9 c9 p0.2.2.1.1.1 ∧ RdL qI s37 a10 c10 p0.2.2.1.1.2.2.1 ∧ RdL qT s37 a11 c11 p0.2.2.1.1.2.2.2 ∧ MapD kvP qI s37 y12 c12 p0.2.2.1.2 ∧ RdL (rL qI) s37 a13 c13 p0.2.2.2.1 ∧ RdL qI s37 a14 c14 p0.2.2.2.2.1 ∧ RdL qI s37 a15 c15 p0.2.2.2.2.2 ∧ Bx s37 t0 b16 #[.slice a1 p0.1.1.1.length c1, .int .i64 p0.1.1.2.1, .slice a2 p0.1.1.2.2.1.length c2, .slice a3 p0.1.1.2.2.2.length c3, .map y4, .slice a5 p0.2.1.1.1.length c5, .int .i64 p0.2.1.1.2.1, .slice a6 p0.2.1.1.2.2.1.length c6, .slice a7 p0.2.1.1.2.2.2.length c7, .map y8, .slice a9 p0.2.2.1.1.1.length c9, .int .i64 p0.2.2.1.1.2.1, .slice a10 p0.2.2.1.1.2.2.1.length c10, .slice a11 p0.2.2.1.1.2.2.2.length c11, .map y12, .slice a13 p0.2.2.2.1.length c13, .slice a14 p0.2.2.2.2.1.length c14, .slice a15 p0.2.2.2.2.2.length c15] 110 ∧ e = [] ∧ w = s37.w) ?_ ?_
 ·rintro _ _ ⟨s37, u36, rfl, m0, h1, h2, h3, h4, h5, h6, h7, h8, h9, h10, h11, h12, h13, h14, h15, bx16, rfl, rfl⟩
  dsimp only at hm
  refine X.blkE (X.seqN (ER (L.as Y R R (LN (E.ret ?_)))))
  obtain rfl := oi hm
  exact X.rt (.inl R) Tryz.results113 (Rs.tmp R Rs.nil) R ⟨_, (s37).ren N (fun _ => 0), R, R, m0.ren hNb, R⟩
 intro K38
 refine E.cut (x := .ret) (fun e w => ∃ (s40 : Sig) (u39 : Int), o33 = .inr (u39) ∧ Mv (Up N No) s s40 ∧ RdL qI s40 a1 c1 p0.1.1.1 ∧ RdL qI s40 a2 c2 p0.1.1.2.2.1 ∧ RdL qT s40 a3 c3 p0.1.1.2.2.2 ∧ MapD kvP qI s40 y4 c4 p0.1.2 ∧ RdL qI s40 a5 c5 p0.2.1.1.1 ∧ RdL qI s40 a6 c6 p0.2.1.1.2.2.1 ∧ RdL qT s40 a7 c7 p0.2.1.1.2.2.2 ∧ MapD kvP qI s40 y8 c8 p0.2.1.2 ∧ RdL qI s40 a9 c9 p0.2.2.1.1.1 ∧ RdL qI s40 a10 c10 p0.2.2.1.1.2.2.1 ∧ RdL qT s40 a11 c11 p0.2.2.1.1.2.2.2 ∧ MapD kvP qI s40 y12 c12 p0.2.2.1.2 ∧ RdL (rL qI) s40 a13 c13 p0.2.2.2.1 ∧ RdL qI s40 a14 c14 p0.2.2.2.2.1 ∧ RdL qI s40 a15 c15 p0.2.2.2.2.2 ∧ Bx s40 t0 b16 #[.slice a1 p0.1.1.1.length c1, .int .i64 p0.1.1.2.1, .slice a2 p0.1.1.2.2.1.length c2, .slice a3 p0.1.1.2.2.2.length c3, .map y4, .slice a5 p0.2.1.1.1.length c5, .int .i64 p0.2.1.1.2.1, .slice a6 p0.2.1.1.2.2.1.length c6, .slice a7 p0.2.1.1.2.2.2.length c7, .map y8, .slice a9 p0.2.2.1.1.1.length c9, .int .i64 p0.2.2.1.1.2.1, .slice a10 p0.2.2.1.1.2.2.1.length c10, .slice a11 p0.2.2.1.1.2.2.2.length c11, .map y12, .slice a13 p0.2.2.2.1.length c13, .slice a14 p0.2.2.2.2.1.length c14, .slice a15 p0.2.2.2.2.2.length c15] 110 ∧ e = [(4, .int .i64 u39)] ∧ w = s40.w) ?_ ?_
 ·rintro _ _ ⟨s40, u39, rfl, m0, h1, h2, h3, h4, h5, h6, h7, h8, h9, h10, h11, h12, h13, h14, h15, bx16, rfl, rfl⟩
  dsimp only at hm
  refine X.blkR (X.seqR ?_)
  obtain rfl := oi hm
  exact X.rt (.inl R) Tryz.results113 (Rs.tmp R Rs.nil) R ⟨_, (s40).ren N (fun _ => 0), R, R, m0.ren hNb, R⟩
 intro K41
 refine E.iter (fun (st33 : Int) (e : List (Nat × Value)) (w : World) => ∃ (s35 : Sig), Mv (Up N No) s s35 ∧ RdL qI s35 a17 c17 p1 ∧ RdL qI s35 a1 c1 p0.1.1.1 ∧ RdL qI s35 a2 c2 p0.1.1.2.2.1 ∧ RdL qT s35 a3 c3 p0.1.1.2.2.2 ∧ MapD kvP qI s35 y4 c4 p0.1.2 ∧ RdL qI s35 a5 c5 p0.2.1.1.1 ∧ RdL qI s35 a6 c6 p0.2.1.1.2.2.1 ∧ RdL qT s35 a7 c7 p0.2.1.1.2.2.2 ∧ MapD kvP qI s35 y8 c8 p0.2.1.2 ∧ RdL qI s35 a9 c9 p0.2.2.1.1.1 ∧ RdL qI s35 a10 c10 p0.2.2.1.1.2.2.1 ∧ RdL qT s35 a11 c11 p0.2.2.1.1.2.2.2 ∧ MapD kvP qI s35 y12 c12 p0.2.2.1.2 ∧ RdL (rL qI) s35 a13 c13 p0.2.2.2.1 ∧ RdL qI s35 a14 c14 p0.2.2.2.2.1 ∧ RdL qI s35 a15 c15 p0.2.2.2.2.2 ∧ Bx s35 t0 b16 #[.slice a1 p0.1.1.1.length c1, .int .i64 p0.1.1.2.1, .slice a2 p0.1.1.2.2.1.length c2, .slice a3 p0.1.1.2.2.2.length c3, .map y4, .slice a5 p0.2.1.1.1.length c5, .int .i64 p0.2.1.1.2.1, .slice a6 p0.2.1.1.2.2.1.length c6, .slice a7 p0.2.1.1.2.2.2.length c7, .map y8, .slice a9 p0.2.2.1.1.1.length c9, .int .i64 p0.2.2.1.1.2.1, .slice a10 p0.2.2.1.1.2.2.1.length c10, .slice a11 p0.2.2.1.1.2.2.2.length c11, .map y12, .slice a13 p0.2.2.2.1.length c13, .slice a14 p0.2.2.2.2.1.length c14, .slice a15 p0.2.2.2.2.2.length c15] 110 ∧ e = [(9, .int .i64 st33), (8, .int .i64 (p1.length : Int)), (7, .slice a17 p1.length c17), (0, .pointer (some ⟨b16, 0, none⟩)), (1, .slice a17 p1.length c17)] ∧ w = s35.w) eo33 ⟨s, m0, h17, h1, h2, h3, h4, h5, h6, h7, h8, h9, h10, h11, h12, h13, h14, h15, bx16, R, R⟩ (Sub.rf R) ?_
 rintro st33 res33 hm ih33 ho33 _ _ ⟨s35, m0, h17, h1, h2, h3, h4, h5, h6, h7, h8, h9, h10, h11, h12, h13, h14, h15, bx16, rfl, rfl⟩
 unfold m_scan_task_checkPriority_l1 at hm
 refine ER (L.bi Y R R R R (LN (E.seq ?_)))
 rcases ifS hm with ⟨hc, hm⟩ | ⟨hc, hm⟩
 ·refine E.cT R hc (E.skip (X.seqN (E.seq (E.block (ER (L.mv Y R R ?_))))))
  obtain ⟨x42, ex42, hm⟩ := bindS hm
  refine L.ix (r := qI) sl22 h17 Y R R ex42 R fun b43 o43 cc43 me43 rd43 => ?_
  obtain rfl := rd43
  refine L.ld (j := 0) me43 nag3 Y R R R R (L.as Y R R (L.as Y R R (LN (E.block (ER (L.mv Y R R (L.nc Y R R (L.fa fa110_0 Y R R (L.fa fa108_0 Y R R (L.fa fa25_0 Y R R (L.ld (j := 0) bx16.mem nag22 Y R R R R (L.mv Y R R ?_))))))))))))
  obtain ⟨r44, er44, hm⟩ := bindS hm
  refine L.ca cf68 R R Y R (m_alphabet_Contains_c (s := s35) (p0 := p0.1.1.1) (p1 := x42) h1 er44) R ?_
  rintro _ s45 m46 rfl
  replace m0 := m0.trans m46.no
  replace bx16 := bx16.mv m46 no_No
  replace h1 := h1.mono m46.z
  replace h2 := h2.mono m46.z
  replace h3 := h3.mono m46.z
  replace h4 := h4.mono m46.z
  replace h5 := h5.mono m46.z
  replace h6 := h6.mono m46.z
  replace h7 := h7.mono m46.z
  replace h8 := h8.mono m46.z
  replace h9 := h9.mono m46.z
  replace h10 := h10.mono m46.z
  replace h11 := h11.mono m46.z
  replace h12 := h12.mono m46.z
  replace h13 := h13.mono m46.z
  replace h14 := h14.mono m46.z
  replace h15 := h15.mono m46.z
  refine L.not Y R R (L.as Y R R (L.nil (X.seqN ?_)))
  rcases ifS hm with ⟨hc, hm⟩ | ⟨hc, hm⟩
  ·refine E.cT R hc (ER (L.as Y R R (LN (E.ret (X.blkR (X.blkR (X.seqR (X.seqR ?_))))))))
   have hx := ho33 _ (oi hm).symm
   exact X.sub (K41 _ _ ⟨s45, 9, hx.symm, m0, h1, h2, h3, h4, h5, h6, h7, h8, h9, h10, h11, h12, h13, h14, h15, bx16, R, R⟩) (Sub.rf R)
  refine E.cF R hc (ER (L.mv Y R R (L.nc Y R R (L.fa fa110_4 Y R R (L.ld (j := 16) bx16.mem nag22 Y R R R R (L.mv Y R R ?_))))))
  obtain ⟨r47, er47, hm⟩ := bindS hm
  refine L.ca cf68 R R Y R (m_alphabet_Contains_c (s := s45) (p0 := p0.2.2.2.2.1) (p1 := x42) h14 er47) R ?_
  rintro _ s48 m49 rfl
  replace m0 := m0.trans m49.no
  replace h17 := (h17.mono m46.z).mono m49.z
  replace bx16 := bx16.mv m49 no_No
  replace h1 := h1.mono m49.z
  replace h2 := h2.mono m49.z
  replace h3 := h3.mono m49.z
  replace h4 := h4.mono m49.z
  replace h5 := h5.mono m49.z
  replace h6 := h6.mono m49.z
  replace h7 := h7.mono m49.z
  replace h8 := h8.mono m49.z
  replace h9 := h9.mono m49.z
  replace h10 := h10.mono m49.z
  replace h11 := h11.mono m49.z
  replace h12 := h12.mono m49.z
  replace h13 := h13.mono m49.z
  replace h14 := h14.mono m49.z
  replace h15 := h15.mono m49.z
  refine L.as Y R R (L.nil (X.seqN ?_))
  rcases ifS hm with ⟨hc, hm⟩ | ⟨hc, hm⟩
  ·refine E.cT R hc (ER (L.as Y R R (LN (E.ret (X.blkR (X.blkR (X.seqR (X.seqR ?_))))))))
   have hx := ho33 _ (oi hm).symm
   exact X.sub (K41 _ _ ⟨s48, 13, hx.symm, m0, h1, h2, h3, h4, h5, h6, h7, h8, h9, h10, h11, h12, h13, h14, h15, bx16, R, R⟩) (Sub.rf R)
  refine E.cF R hc (ER (L.mv Y R R (L.mv Y R R ?_)))
  obtain ⟨x50, ex50, hm⟩ := bindS hm
  refine L.sh (r := qI) sl22 h17 Y R R ex50 R fun a51 c51 h51 => L.mv Y R R ?_
  obtain ⟨r52, er52, hm⟩ := bindS hm
  refine L.ca cf84 R R Y R (m_slices_Contains_int_c (s := s48) (p0 := x50) (p1 := x42) h51 er52) R ?_
  rintro _ s53 m54 rfl
  replace m0 := m0.trans m54.no
  replace h17 := h17.mono m54.z
  replace bx16 := bx16.mv m54 no_No
  replace h1 := h1.mono m54.z
  replace h2 := h2.mono m54.z
  replace h3 := h3.mono m54.z
  replace h4 := h4.mono m54.z
  replace h5 := h5.mono m54.z
  replace h6 := h6.mono m54.z
  replace h7 := h7.mono m54.z
  replace h8 := h8.mono m54.z
  replace h9 := h9.mono m54.z
  replace h10 := h10.mono m54.z
  replace h11 := h11.mono m54.z
  replace h12 := h12.mono m54.z
  replace h13 := h13.mono m54.z
  replace h14 := h14.mono m54.z
  replace h15 := h15.mono m54.z
  refine L.as Y R R (L.nil (X.seqN ?_))
  rcases ifS hm with ⟨hc, hm⟩ | ⟨hc, hm⟩
  ·refine E.cT R hc (ER (L.as Y R R (LN (E.ret (X.blkR (X.blkR (X.seqR (X.seqR ?_))))))))
   have hx := ho33 _ (oi hm).symm
   exact X.sub (K41 _ _ ⟨s53, 8, hx.symm, m0, h1, h2, h3, h4, h5, h6, h7, h8, h9, h10, h11, h12, h13, h14, h15, bx16, R, R⟩) (Sub.rf R)
  exact E.cF R hc (E.skip (X.blkN (X.blkN (X.seqN (E.reg (L.bi Y R R R R (L.mv Y R R (L.nil (X.sub (ih33 _ (oi hm).symm _ _ ⟨s53, m0, h17, h1, h2, h3, h4, h5, h6, h7, h8, h9, h10, h11, h12, h13, h14, h15, bx16, R, R⟩) (Sub.rf R))))))))))
 refine E.cF R hc (E.exit (X.seqX (X.seqX ?_)))
 have hx := ho33 _ (oi hm).symm
 exact X.sub (K38 _ _ ⟨s35, (), hx.symm, m0, h1, h2, h3, h4, h5, h6, h7, h8, h9, h10, h11, h12, h13, h14, h15, bx16, R, R⟩) Sub.nil

theorem cf113 : Cf Tryz.prog 113 := Cf.mk Tryz.func113 (by kernel_rfl) (by kernel_rfl)
noncomputable def m_scan_with (p0 : AutT × AutT × List Int) (p1 : List Int) : Option ((Option ((AutT × (List ((Int × Int) × Int))) × (AutT × (List ((Int × Int) × Int))) × (AutT × (List ((Int × Int) × Int))) × List (List Int) × List Int × List Int)) × Int) :=
 (m_scan_open p0).bind fun r13 =>
 if (r13.2 != 0) then
  some (none, r13.2)
 else
  r13.1.bind fun x17 =>
  (m_scan_task_checkPriority x17 p1).bind fun r34 =>
  if (r34 != 0) then
   some (none, r34)
  else
   some ((some x17), 0)
theorem m_scan_with_c {s : Sig} {p0 : AutT × AutT × List Int} {p1 : List Int} {a1 : Option Addr} {c1 : Nat} {a2 : Option Addr} {c2 : Nat} {a3 : Option Addr} {c3 : Nat} {a4 : Option Addr} {c4 : Nat} {a5 : Option Addr} {c5 : Nat} {a6 : Option Addr} {c6 : Nat} {a7 : Option Addr} {c7 : Nat} {a8 : Option Addr} {c8 : Nat} {r : (Option ((AutT × (List ((Int × Int) × Int))) × (AutT × (List ((Int × Int) × Int))) × (AutT × (List ((Int × Int) × Int))) × List (List Int) × List Int × List Int)) × Int} (h1 : RdL qI s a1 c1 p0.1.1) (h2 : RdL qI s a2 c2 p0.1.2.2.1) (h3 : RdL qT s a3 c3 p0.1.2.2.2) (h4 : RdL qI s a4 c4 p0.2.1.1) (h5 : RdL qI s a5 c5 p0.2.1.2.2.1) (h6 : RdL qT s a6 c6 p0.2.1.2.2.2) (h7 : RdL qI s a7 c7 p0.2.2) (h8 : RdL qI s a8 c8 p1) (hm : m_scan_with p0 p1 = some r) :
    Calls Tryz.prog 61 #[.agg #[.slice a1 p0.1.1.length c1, .int .i64 p0.1.2.1, .slice a2 p0.1.2.2.1.length c2, .slice a3 p0.1.2.2.2.length c3, .slice a4 p0.2.1.1.length c4, .int .i64 p0.2.1.2.1, .slice a5 p0.2.1.2.2.1.length c5, .slice a6 p0.2.1.2.2.2.length c6, .slice a7 p0.2.2.length c7], .slice a8 p1.length c8] s.w (RetS No s fun v s' => ∃ (v9 : Value), v = .tuple #[v9, .int .i64 r.2] ∧ PtO (rP (rP (rP (rL qI) (rP qI (rP (rL qI) (rL qT)))) (rM kvP qI)) (rP (rP (rP (rL qI) (rP qI (rP (rL qI) (rL qT)))) (rM kvP qI)) (rP (rP (rP (rL qI) (rP qI (rP (rL qI) (rL qT)))) (rM kvP qI)) (rP (rL (rL qI)) (rP (rL qI) (rL qI)))))) 110 s' v9 r.1) := by
 unfold m_scan_with at hm
 obtain ⟨N, hN, hNb⟩ := s.fresh
 have m0 : Mv (Up N No) s s := Mv.refl _ _
 refine E.entry Tryz.func61 R Tryz.ntmps61 R R (ER (L.box (N + 0) Y R R R fun b10 s11 m12 bx10 => ?_))
 replace h1 := h1.mono m12.z
 replace h2 := h2.mono m12.z
 replace h3 := h3.mono m12.z
 replace h4 := h4.mono m12.z
 replace h5 := h5.mono m12.z
 replace h6 := h6.mono m12.z
 replace h7 := h7.mono m12.z
 refine L.as Y R R (L.as Y R R (LN (ER (L.lg (j := 0) (cs := [.slice a1 p0.1.1.length c1, .int .i64 p0.1.2.1, .slice a2 p0.1.2.2.1.length c2, .slice a3 p0.1.2.2.2.length c3, .slice a4 p0.2.1.1.length c4, .int .i64 p0.2.1.2.1, .slice a5 p0.2.1.2.2.1.length c5, .slice a6 p0.2.1.2.2.2.length c6, .slice a7 p0.2.2.length c7]) bx10.mem ag27 Y R R R R R ?_))))
 obtain ⟨r13, er13, hm⟩ := bindS hm
 refine L.ca cf52 R R Y R (m_scan_open_c (s := s11) (p0 := p0) h1 h2 h3 h4 h5 h6 h7 er13) R ?_
 rintro _ s14 m15 ⟨v16, rfl, h16⟩
 replace m0 := (m0.trans m12.no).trans m15.no
 replace h8 := (h8.mono m12.z).mono m15.z
 refine L.mv Y R R (L.ex Y R R R (L.ex Y R R R (L.as Y R R (L.as Y R R (LN (E.seq (ER (L.mv Y R R (L.bi Y R R R R (L.nil (X.seqN ?_)))))))))))
 rcases ifS hm with ⟨hc, hm⟩ | ⟨hc, hm⟩
 ·refine E.cT R hc (ER (L.mv Y R R (L.as Y R R (L.as Y R R (LN (E.ret (X.seqR ?_)))))))
  obtain rfl := oi hm
  exact X.rt (.inl R) Tryz.results61 (Rs.tmp R (Rs.tmp R Rs.nil)) R ⟨_, (s14).ren N (fun _ => 0), R, R, m0.ren hNb, ⟨.pointer none, R, PtO.nil⟩⟩
 refine E.cF R hc (E.skip (X.seqN (E.seq (ER (L.mv Y R R (L.mv Y R R ?_))))))
 obtain ⟨x17, ex17, hm⟩ := bindS hm
 obtain ⟨b18, ds18, rfl, bx18, rd18⟩ := h16.some ex17
 obtain ⟨_, _, rfl, ⟨_, _, rfl, ⟨_, _, rfl, ⟨a19, c19, rfl, h19⟩, ⟨_, _, rfl, rfl, ⟨_, _, rfl, ⟨a20, c20, rfl, h20⟩, ⟨a21, c21, rfl, h21⟩⟩⟩⟩, ⟨y22, c22, rfl, h22⟩⟩, ⟨_, _, rfl, ⟨_, _, rfl, ⟨_, _, rfl, ⟨a23, c23, rfl, h23⟩, ⟨_, _, rfl, rfl, ⟨_, _, rfl, ⟨a24, c24, rfl, h24⟩, ⟨a25, c25, rfl, h25⟩⟩⟩⟩, ⟨y26, c26, rfl, h26⟩⟩, ⟨_, _, rfl, ⟨_, _, rfl, ⟨_, _, rfl, ⟨a27, c27, rfl, h27⟩, ⟨_, _, rfl, rfl, ⟨_, _, rfl, ⟨a28, c28, rfl, h28⟩, ⟨a29, c29, rfl, h29⟩⟩⟩⟩, ⟨y30, c30, rfl, h30⟩⟩, ⟨_, _, rfl, ⟨a31, c31, rfl, h31⟩, ⟨_, _, rfl, ⟨a32, c32, rfl, h32⟩, ⟨a33, c33, rfl, h33⟩⟩⟩⟩⟩⟩ := rd18
 replace bx18 : Bx s14 0 b18 #[.slice a19 x17.1.1.1.length c19, .int .i64 x17.1.1.2.1, .slice a20 x17.1.1.2.2.1.length c20, .slice a21 x17.1.1.2.2.2.length c21, .map y22, .slice a23 x17.2.1.1.1.length c23, .int .i64 x17.2.1.1.2.1, .slice a24 x17.2.1.1.2.2.1.length c24, .slice a25 x17.2.1.1.2.2.2.length c25, .map y26, .slice a27 x17.2.2.1.1.1.length c27, .int .i64 x17.2.2.1.1.2.1, .slice a28 x17.2.2.1.1.2.2.1.length c28, .slice a29 x17.2.2.1.1.2.2.2.length c29, .map y30, .slice a31 x17.2.2.2.1.length c31, .slice a32 x17.2.2.2.2.1.length c32, .slice a33 x17.2.2.2.2.2.length c33] 110 := bx18
 obtain ⟨r34, er34, hm⟩ := bindS hm
 refine L.ca cf113 R R Y R (m_scan_task_checkPriority_c (s := s14) (p0 := x17) (p1 := p1) (t0 := 0) h19 h20 h21 h22 h23 h24 h25 h26 h27 h28 h29 h30 h31 h32 h33 bx18 h8 er34) R ?_
 rintro _ s35 m36 rfl
 replace m0 := m0.trans m36.no
 replace bx18 := bx18.mv m36 no_No
 replace h19 := h19.mono m36.z
 replace h20 := h20.mono m36.z
 replace h21 := h21.mono m36.z
 replace h22 := h22.mono m36.z
 replace h23 := h23.mono m36.z
 replace h24 := h24.mono m36.z
 replace h25 := h25.mono m36.z
 replace h26 := h26.mono m36.z
 replace h27 := h27.mono m36.z
 replace h28 := h28.mono m36.z
 replace h29 := h29.mono m36.z
 replace h30 := h30.mono m36.z
 replace h31 := h31.mono m36.z
 replace h32 := h32.mono m36.z
 replace h33 := h33.mono m36.z
 refine L.as Y R R (LN (ER (L.mv Y R R (L.bi Y R R R R (L.nil (X.seqN ?_))))))
 rcases ifS hm with ⟨hc, hm⟩ | ⟨hc, hm⟩
 ·refine E.cT R hc (ER (L.mv Y R R (L.as Y R R (L.as Y R R (LN (E.ret (X.seqR ?_)))))))
  obtain rfl := oi hm
  exact X.rt (.inl R) Tryz.results61 (Rs.tmp R (Rs.tmp R Rs.nil)) R ⟨_, (s35).ren N (fun _ => 0), R, R, m0.ren hNb, ⟨.pointer none, R, PtO.nil⟩⟩
 refine E.cF R hc (E.skip (X.seqN (ER (L.mv Y R R (L.as Y R R (L.as Y R R (LN (E.ret ?_))))))))
 obtain rfl := oi hm
 exact X.rt (.inl R) Tryz.results61 (Rs.tmp R (Rs.tmp R Rs.nil)) R ⟨_, (s35).ren N (fun _ => 0), R, R, m0.ren hNb, ⟨.pointer (some ⟨b18, 0, none⟩), R, ((PtO.mk (r := (rP (rP (rP (rL qI) (rP qI (rP (rL qI) (rL qT)))) (rM kvP qI)) (rP (rP (rP (rL qI) (rP qI (rP (rL qI) (rL qT)))) (rM kvP qI)) (rP (rP (rP (rL qI) (rP qI (rP (rL qI) (rL qT)))) (rM kvP qI)) (rP (rL (rL qI)) (rP (rL qI) (rL qI))))))) (cs := [.slice a19 x17.1.1.1.length c19, .int .i64 x17.1.1.2.1, .slice a20 x17.1.1.2.2.1.length c20, .slice a21 x17.1.1.2.2.2.length c21, .map y22, .slice a23 x17.2.1.1.1.length c23, .int .i64 x17.2.1.1.2.1, .slice a24 x17.2.1.1.2.2.1.length c24, .slice a25 x17.2.1.1.2.2.2.length c25, .map y26, .slice a27 x17.2.2.1.1.1.length c27, .int .i64 x17.2.2.1.1.2.1, .slice a28 x17.2.2.1.1.2.2.1.length c28, .slice a29 x17.2.2.1.1.2.2.2.length c29, .map y30, .slice a31 x17.2.2.2.1.length c31, .slice a32 x17.2.2.2.2.1.length c32, .slice a33 x17.2.2.2.2.2.length c33]) (y := x17) bx18 ⟨[.slice a19 x17.1.1.1.length c19, .int .i64 x17.1.1.2.1, .slice a20 x17.1.1.2.2.1.length c20, .slice a21 x17.1.1.2.2.2.length c21, .map y22], [.slice a23 x17.2.1.1.1.length c23, .int .i64 x17.2.1.1.2.1, .slice a24 x17.2.1.1.2.2.1.length c24, .slice a25 x17.2.1.1.2.2.2.length c25, .map y26, .slice a27 x17.2.2.1.1.1.length c27, .int .i64 x17.2.2.1.1.2.1, .slice a28 x17.2.2.1.1.2.2.1.length c28, .slice a29 x17.2.2.1.1.2.2.2.length c29, .map y30, .slice a31 x17.2.2.2.1.length c31, .slice a32 x17.2.2.2.2.1.length c32, .slice a33 x17.2.2.2.2.2.length c33], R, ⟨[.slice a19 x17.1.1.1.length c19, .int .i64 x17.1.1.2.1, .slice a20 x17.1.1.2.2.1.length c20, .slice a21 x17.1.1.2.2.2.length c21], [.map y22], R, ⟨[.slice a19 x17.1.1.1.length c19], [.int .i64 x17.1.1.2.1, .slice a20 x17.1.1.2.2.1.length c20, .slice a21 x17.1.1.2.2.2.length c21], R, ⟨_, _, R, h19⟩, ⟨[.int .i64 x17.1.1.2.1], [.slice a20 x17.1.1.2.2.1.length c20, .slice a21 x17.1.1.2.2.2.length c21], R, R, ⟨[.slice a20 x17.1.1.2.2.1.length c20], [.slice a21 x17.1.1.2.2.2.length c21], R, ⟨_, _, R, h20⟩, ⟨_, _, R, h21⟩⟩⟩⟩, ⟨_, _, R, h22⟩⟩, ⟨[.slice a23 x17.2.1.1.1.length c23, .int .i64 x17.2.1.1.2.1, .slice a24 x17.2.1.1.2.2.1.length c24, .slice a25 x17.2.1.1.2.2.2.length c25, .map y26], [.slice a27 x17.2.2.1.1.1.length c27, .int .i64 x17.2.2.1.1.2.1, .slice a28 x17.2.2.1.1.2.2.1.length c28, .slice a29 x17.2.2.1.1.2.2.2.length c29, .map y30, .slice a31 x17.2.2.2.1.length c31, .slice a32 x17.2.2.2.2.1.length c32, .slice a33 x17.2.2.2.2.2.length c33], R, ⟨[.slice a23 x17.2.1.1.1.length c23, .int .i64 x17.2.1.1.2.1, .slice a24 x17.2.1.1.2.2.1.length c24, .slice a25 x17.2.1.1.2.2.2.length c25], [.map y26], R, ⟨[.slice a23 x17.2.1.1.1.length c23], [.int .i64 x17.2.1.1.2.1, .slice a24 x17.2.1.1.2.2.1.length c24, .slice a25 x17.2.1.1.2.2.2.length c25], R, ⟨_, _, R, h23⟩, ⟨[.int .i64 x17.2.1.1.2.1], [.slice a24 x17.2.1.1.2.2.1.length c24, .slice a25 x17.2.1.1.2.2.2.length c25], R, R, ⟨[.slice a24 x17.2.1.1.2.2.1.length c24], [.slice a25 x17.2.1.1.2.2.2.length c25], R, ⟨_, _, R, h24⟩, ⟨_, _, R, h25⟩⟩⟩⟩, ⟨_, _, R, h26⟩⟩, ⟨[.slice a27 x17.2.2.1.1.1.length c27, .int .i64 x17.2.2.1.1.2.1, .slice a28 x17.2.2.1.1.2.2.1.length c28, .slice a29 x17.2.2.1.1.2.2.2.length c29, .map y30], [.slice a31 x17.2.2.2.1.length c31, .slice a32 x17.2.2.2.2.1.length c32, .slice a33 x17.2.2.2.2.2.length c33], R, ⟨[.slice a27 x17.2.2.1.1.1.length c27, .int .i64 x17.2.2.1.1.2.1, .slice a28 x17.2.2.1.1.2.2.1.length c28, .slice a29 x17.2.2.1.1.2.2.2.length c29], [.map y30], R, ⟨[.slice a27 x17.2.2.1.1.1.length c27], [.int .i64 x17.2.2.1.1.2.1, .slice a28 x17.2.2.1.1.2.2.1.length c28, .slice a29 x17.2.2.1.1.2.2.2.length c29], R, ⟨_, _, R, h27⟩, ⟨[.int .i64 x17.2.2.1.1.2.1], [.slice a28 x17.2.2.1.1.2.2.1.length c28, .slice a29 x17.2.2.1.1.2.2.2.length c29], R, R, ⟨[.slice a28 x17.2.2.1.1.2.2.1.length c28], [.slice a29 x17.2.2.1.1.2.2.2.length c29], R, ⟨_, _, R, h28⟩, ⟨_, _, R, h29⟩⟩⟩⟩, ⟨_, _, R, h30⟩⟩, ⟨[.slice a31 x17.2.2.2.1.length c31], [.slice a32 x17.2.2.2.2.1.length c32, .slice a33 x17.2.2.2.2.2.length c33], R, ⟨_, _, R, h31⟩, ⟨[.slice a32 x17.2.2.2.2.1.length c32], [.slice a33 x17.2.2.2.2.2.length c33], R, ⟨_, _, R, h32⟩, ⟨_, _, R, h33⟩⟩⟩⟩⟩⟩).mono (Sig.ren_le hN))⟩⟩

theorem nag99 : NAg Tryz.prog 99 := NAg.mk' Tryz.underlying99 rfl (by kernel_rfl)
noncomputable def m_scan_task_chosen_1 (q0 : Option ((AutT × (List ((Int × Int) × Int))) × (AutT × (List ((Int × Int) × Int))) × (AutT × (List ((Int × Int) × Int))) × List (List Int) × List Int × List Int)) (q1 : Int) (p0 : Int) : Option Bool :=
 q0.bind fun x4 =>
 (m_scan_graph_to x4.2.2.1 q1 p0).bind fun r28 =>
 some (r28 != (-1))
theorem m_scan_task_chosen_1_c {s : Sig} {q0 : Option ((AutT × (List ((Int × Int) × Int))) × (AutT × (List ((Int × Int) × Int))) × (AutT × (List ((Int × Int) × Int))) × List (List Int) × List Int × List Int)} {q1 : Int} {p0 : Int} {v1 : Value} {b2 : Nat} {b3 : Nat} {r : Bool} (h1 : PtO (rP (rP (rP (rL qI) (rP qI (rP (rL qI) (rL qT)))) (rM kvP qI)) (rP (rP (rP (rL qI) (rP qI (rP (rL qI) (rL qT)))) (rM kvP qI)) (rP (rP (rP (rL qI) (rP qI (rP (rL qI) (rL qT)))) (rM kvP qI)) (rP (rL (rL qI)) (rP (rL qI) (rL qI)))))) 110 s v1 q0) (bx2 : Bx s 0 b2 #[v1] 99) (bx3 : Bx s 0 b3 #[.int .i64 q1] 3) (hm : m_scan_task_chosen_1 q0 q1 p0 = some r) :
    Calls Tryz.prog 115 #[.int .i64 p0, .pointer (some ⟨b2, 0, none⟩), .pointer (some ⟨b3, 0, none⟩)] s.w (RetS No s fun v s' => v = .bool r) := by
 unfold m_scan_task_chosen_1 at hm
 obtain ⟨N, hN, hNb⟩ := s.fresh
 have m0 : Mv (Up N No) s s := Mv.refl _ _
 refine E.entry Tryz.func115 R Tryz.ntmps115 R R (ER (L.as Y R R (LN (E.seq ?_))))
 obtain ⟨x4, ex4, hm⟩ := bindS hm
 obtain ⟨b5, ds5, rfl, bx5, rd5⟩ := h1.some ex4
 obtain ⟨_, _, rfl, ⟨_, _, rfl, ⟨_, _, rfl, ⟨a6, c6, rfl, h6⟩, ⟨_, _, rfl, rfl, ⟨_, _, rfl, ⟨a7, c7, rfl, h7⟩, ⟨a8, c8, rfl, h8⟩⟩⟩⟩, ⟨y9, c9, rfl, h9⟩⟩, ⟨_, _, rfl, ⟨_, _, rfl, ⟨_, _, rfl, ⟨a10, c10, rfl, h10⟩, ⟨_, _, rfl, rfl, ⟨_, _, rfl, ⟨a11, c11, rfl, h11⟩, ⟨a12, c12, rfl, h12⟩⟩⟩⟩, ⟨y13, c13, rfl, h13⟩⟩, ⟨_, _, rfl, ⟨_, _, rfl, ⟨_, _, rfl, ⟨a14, c14, rfl, h14⟩, ⟨_, _, rfl, rfl, ⟨_, _, rfl, ⟨a15, c15, rfl, h15⟩, ⟨a16, c16, rfl, h16⟩⟩⟩⟩, ⟨y17, c17, rfl, h17⟩⟩, ⟨_, _, rfl, ⟨a18, c18, rfl, h18⟩, ⟨_, _, rfl, ⟨a19, c19, rfl, h19⟩, ⟨a20, c20, rfl, h20⟩⟩⟩⟩⟩⟩ := rd5
 replace bx5 : Bx s 0 b5 #[.slice a6 x4.1.1.1.length c6, .int .i64 x4.1.1.2.1, .slice a7 x4.1.1.2.2.1.length c7, .slice a8 x4.1.1.2.2.2.length c8, .map y9, .slice a10 x4.2.1.1.1.length c10, .int .i64 x4.2.1.1.2.1, .slice a11 x4.2.1.1.2.2.1.length c11, .slice a12 x4.2.1.1.2.2.2.length c12, .map y13, .slice a14 x4.2.2.1.1.1.length c14, .int .i64 x4.2.2.1.1.2.1, .slice a15 x4.2.2.1.1.2.2.1.length c15, .slice a16 x4.2.2.1.1.2.2.2.length c16, .map y17, .slice a18 x4.2.2.2.1.length c18, .slice a19 x4.2.2.2.2.1.length c19, .slice a20 x4.2.2.2.2.2.length c20] 110 := bx5
 obtain ⟨r28, er28, hm⟩ := bindS hm
 refine E.draw [[], [0], [0, 1], [0, 1, 2], [], [], [0, 1, 2, 3, 4, 5], [0, 1, 2, 3, 4, 5, 6], [0, 1, 2, 3, 4, 5, 6, 7]] (fun D e sx => Mv No s sx ∧ Sub [(0, .int .i64 p0), (1, .pointer (some ⟨b2, 0, none⟩)), (2, .pointer (some ⟨b3, 0, none⟩))] e ∧ AllP [G D e 0 5 (.pointer (some ⟨b5, 0, none⟩)), G D e 1 6 (.pointer (some ⟨b5, 0, none⟩)), G D e 2 7 (.pointer (some ⟨b5, 10, none⟩)), G D e 3 8 (.agg #[.slice a14 x4.2.2.1.1.1.length c14, .int .i64 x4.2.2.1.1.2.1, .slice a15 x4.2.2.1.1.2.2.1.length c15, .slice a16 x4.2.2.1.1.2.2.2.length c16, .map y17]), G D e 4 9 (.int .i64 q1), G D e 5 10 (.int .i64 p0), G D e 6 11 (.int .i64 r28), G D e 7 12 (.bool (r28 != (-1))), G D e 8 4 (.bool (r28 != (-1)))]) (by kernel_rfl) (by kernel_rfl) (by kernel_rfl) ?_ ?_ ?_
 ·intro sz mz
  exact ⟨mz, (Sub.rf R), nofun, nofun, nofun, nofun, nofun, nofun, nofun, nofun, nofun, trivial⟩
 ·refine ⟨?_, ?_, ?_, ?_, ?_, ?_, ?_, ?_, ?_, trivial⟩
  ·rintro D e s21 ⟨im, ib, i⟩ hk hf ha
   have bx2 := bx2.mv im no_No
   have kn := K1 (ib 1 _ R)
   exact kn.g (L.ld (j := 0) bx2.mem nag99 Y R R R R (L.nil (X.dk kn ⟨im, Sub.fresh ib R, i.u 0 (fun _ => R)⟩)))
  ·rintro D e s22 ⟨im, ib, i⟩ hk hf ha
   have kn := K1 ((i.p 0) (ha.at 0 R))
   exact kn.g (L.nc Y R R (L.nil (X.dk kn ⟨im, Sub.fresh ib R, i.u 1 (fun _ => R)⟩)))
  ·rintro D e s23 ⟨im, ib, i⟩ hk hf ha
   have kn := K1 ((i.p 1) (ha.at 1 R))
   exact kn.g (L.fa fa110_2 Y R R (L.nil (X.dk kn ⟨im, Sub.fresh ib R, i.u 2 (fun _ => R)⟩)))
  ·rintro D e s24 ⟨im, ib, i⟩ hk hf ha
   have bx5 := bx5.mv im no_No
   have kn := K1 ((i.p 2) (ha.at 2 R))
   exact kn.g (L.lg (j := 10) (cs := [.slice a14 x4.2.2.1.1.1.length c14, .int .i64 x4.2.2.1.1.2.1, .slice a15 x4.2.2.1.1.2.2.1.length c15, .slice a16 x4.2.2.1.1.2.2.2.length c16, .map y17]) bx5.mem ag108 Y R R R R R (L.nil (X.dk kn ⟨im, Sub.fresh ib R, i.u 3 (fun _ => R)⟩)))
  ·rintro D e s25 ⟨im, ib, i⟩ hk hf ha
   have bx3 := bx3.mv im no_No
   have kn := K1 (ib 2 _ R)
   exact kn.g (L.ld (j := 0) bx3.mem nag3 Y R R R R (L.nil (X.dk kn ⟨im, Sub.fresh ib R, i.u 4 (fun _ => R)⟩)))
  ·rintro D e s26 ⟨im, ib, i⟩ hk hf ha
   have kn := K1 (ib 0 _ R)
   exact kn.g (L.mv Y R R (L.nil (X.dk kn ⟨im, Sub.fresh ib R, i.u 5 (fun _ => R)⟩)))
  ·rintro D e s27 ⟨im, ib, i⟩ hk hf ha
   have h14 := h14.mono im.z
   have h15 := h15.mono im.z
   have h16 := h16.mono im.z
   have h17 := h17.mono im.z
   have kn := K3 ((i.p 3) (ha.at 3 R)) ((i.p 4) (ha.at 4 R)) ((i.p 5) (ha.at 5 R))
   refine kn.g (L.ca cf106 R R Y R (m_scan_graph_to_c (s := s27) (p0 := x4.2.2.1) (p1 := q1) (p2 := p0) h14 h15 h16 h17 er28) R ?_)
   rintro _ s29 m30 rfl
   exact L.nil (X.dk kn ⟨im.trans m30.no, Sub.fresh ib R, i.u 6 (fun _ => R)⟩)
  ·rintro D e s31 ⟨im, ib, i⟩ hk hf ha
   have kn := K1 ((i.p 6) (ha.at 6 R))
   exact kn.g (L.bi Y R R R R (L.nil (X.dk kn ⟨im, Sub.fresh ib R, i.u 7 (fun _ => R)⟩)))
  rintro D e s32 ⟨im, ib, i⟩ hk hf ha
  have kn := K1 ((i.p 7) (ha.at 7 R))
  exact kn.g (L.as Y R R (L.nil (X.dk kn ⟨im, Sub.fresh ib R, i.u 8 (fun _ => R)⟩)))
 rintro D e s33 hD ⟨im, ib, i⟩
 have g8_ := (i.p 8) (hD 8 R)
 have m0 := m0.trans im.no
 refine X.sub (e' := [(4, .bool (r28 != (-1)))]) ?_ (Sub.cons g8_ Sub.nil)
 refine X.seqN (E.ret ?_)
 obtain rfl := oi hm
 exact X.rt (.inl R) Tryz.results115 (Rs.tmp R Rs.nil) R ⟨_, (s33).ren N (fun _ => 0), R, R, m0.ren hNb, R⟩

noncomputable def m_slices_IndexFunc_int_l1 (p0 : List Int) (p1 : Int → Option Bool) (st9 : Int) : Option (Int ⊕ (Unit ⊕ Int)) :=
 if decide (st9 < (p0.length : Int)) then
  (idx p0 st9).bind fun x18 =>
  (p1 x18).bind fun r20 =>
  if r20 then
   some (.inr (.inr (st9)))
  else
   some (.inl (W (st9 + 1)))
 else
  some (.inr (.inl ()))
noncomputable def m_slices_IndexFunc_int (p0 : List Int) (p1 : Int → Option Bool) : Option Int :=
 (iter (m_slices_IndexFunc_int_l1 p0 p1) 0).bind fun o9 =>
 match o9 with
 | .inl u12 =>
  some (-1)
 | .inr (u15) =>
  some u15
theorem m_slices_IndexFunc_int_c {s : Sig} {p0 : List Int} {p1 : Int → Option Bool} {a1 : Option Addr} {c1 : Nat} {vp1 : Value} {r : Int} (h1 : RdL qI s a1 c1 p0) (hp1 : FV1 Tryz.prog s vp1 (fun (x0 : Int) => [.int .i64 x0]) (fun (r : Bool) => .bool r) p1) (hm : m_slices_IndexFunc_int p0 p1 = some r) :
    Calls Tryz.prog 114 #[.slice a1 p0.length c1, vp1] s.w (RetS No s fun v s' => v = .int .i64 r) := by
 unfold m_slices_IndexFunc_int at hm
 obtain ⟨N, hN, hNb⟩ := s.fresh
 have m0 : Mv (Up N No) s s := Mv.refl _ _
 refine E.entry Tryz.func114 R Tryz.ntmps114 R R (ER (L.as Y R R (LN (E.seq (ER (L.mv Y R R (L.len sl22 Y R R (L.mv Y R R (LN (E.block ?_))))))))))
 obtain ⟨o9, eo9, hm⟩ := bindS hm
 refine E.cut (x := .exit 0) (fun e w => ∃ (s13 : Sig) (u12 : Unit), o9 = .inl u12 ∧ Mv (Up N No) s s13 ∧ e = [] ∧ w = s13.w) ?_ ?_
 ·rintro _ _ ⟨s13, u12, rfl, m0, rfl, rfl⟩
  dsimp only at hm
  refine X.blkE (X.seqN (ER (L.as Y R R (LN (E.ret ?_)))))
  obtain rfl := oi hm
  exact X.rt (.inl R) Tryz.results114 (Rs.tmp R Rs.nil) R ⟨_, (s13).ren N (fun _ => 0), R, R, m0.ren hNb, R⟩
 intro K14
 refine E.cut (x := .ret) (fun e w => ∃ (s16 : Sig) (u15 : Int), o9 = .inr (u15) ∧ Mv (Up N No) s s16 ∧ e = [(4, .int .i64 u15)] ∧ w = s16.w) ?_ ?_
 ·rintro _ _ ⟨s16, u15, rfl, m0, rfl, rfl⟩
  dsimp only at hm
  refine X.blkR (X.seqR ?_)
  obtain rfl := oi hm
  exact X.rt (.inl R) Tryz.results114 (Rs.tmp R Rs.nil) R ⟨_, (s16).ren N (fun _ => 0), R, R, m0.ren hNb, R⟩
 intro K17
 refine E.iter (fun (st9 : Int) (e : List (Nat × Value)) (w : World) => ∃ (s11 : Sig), Mv (Up N No) s s11 ∧ RdL qI s11 a1 c1 p0 ∧ FV1 Tryz.prog s11 vp1 (fun (x0 : Int) => [.int .i64 x0]) (fun (r : Bool) => .bool r) p1 ∧ e = [(8, .int .i64 st9), (7, .int .i64 (p0.length : Int)), (0, .slice a1 p0.length c1), (1, vp1)] ∧ w = s11.w) eo9 ⟨s, m0, h1, hp1, R, R⟩ (Sub.rf R) ?_
 rintro st9 res9 hm ih9 ho9 _ _ ⟨s11, m0, h1, hp1, rfl, rfl⟩
 unfold m_slices_IndexFunc_int_l1 at hm
 refine ER (L.bi Y R R R R (LN (E.seq ?_)))
 rcases ifS hm with ⟨hc, hm⟩ | ⟨hc, hm⟩
 ·refine E.cT R hc (E.skip (X.seqN (E.seq (E.block (ER (L.mv Y R R (L.as Y R R (LN (ER (L.mv Y R R (L.mv Y R R (L.mv Y R R ?_))))))))))))
  obtain ⟨x18, ex18, hm⟩ := bindS hm
  refine L.ix (r := qI) sl22 h1 Y R R ex18 R fun b19 o19 cc19 me19 rd19 => ?_
  obtain rfl := rd19
  refine L.ld (j := 0) me19 nag3 Y R R R R ?_
  obtain ⟨r20, er20, hm⟩ := bindS hm
  refine L.fv1 (y := x18) hp1 R R Y R R er20 R fun s21 m22 => ?_
  replace m0 := m0.trans m22.no
  replace h1 := h1.mono m22.z
  replace hp1 := hp1.mono m22.z
  refine L.nil (X.seqN ?_)
  rcases ifS hm with ⟨hc, hm⟩ | ⟨hc, hm⟩
  ·refine E.cT R hc (ER (L.mv Y R R (L.as Y R R (LN (E.ret (X.blkR (X.seqR (X.seqR ?_))))))))
   have hx := ho9 _ (oi hm).symm
   exact X.sub (K17 _ _ ⟨s21, st9, hx.symm, m0, R, R⟩) (Sub.rf R)
  exact E.cF R hc (E.skip (X.blkN (X.seqN (E.reg (L.bi Y R R R R (L.mv Y R R (L.nil (X.sub (ih9 _ (oi hm).symm _ _ ⟨s21, m0, h1, hp1, R, R⟩) (Sub.rf R)))))))))
 refine E.cF R hc (E.exit (X.seqX (X.seqX ?_)))
 have hx := ho9 _ (oi hm).symm
 exact X.sub (K14 _ _ ⟨s11, (), hx.symm, m0, R, R⟩) Sub.nil

theorem cf114 : Cf Tryz.prog 114 := Cf.mk Tryz.func114 (by kernel_rfl) (by kernel_rfl)
theorem cf115 : Cf Tryz.prog 115 := Cf.mk Tryz.func115 (by kernel_rfl) (by kernel_rfl)
noncomputable def m_scan_task_chosen (p0 : (AutT × (List ((Int × Int) × Int))) × (AutT × (List ((Int × Int) × Int))) × (AutT × (List ((Int × Int) × Int))) × List (List Int) × List Int × List Int) (p1 : Int) (p2 : List Int) : Option Int :=
 (m_slices_IndexFunc_int p2 (m_scan_task_chosen_1 (some p0) p1)).bind fun r27 =>
 if decide (r27 < 0) then
  some (-1)
 else
  (idx p2 r27).bind fun x30 =>
  some x30
theorem m_scan_task_chosen_c {s : Sig} {p0 : (AutT × (List ((Int × Int) × Int))) × (AutT × (List ((Int × Int) × Int))) × (AutT × (List ((Int × Int) × Int))) × List (List Int) × List Int × List Int} {p1 : Int} {p2 : List Int} {a1 : Option Addr} {c1 : Nat} {a2 : Option Addr} {c2 : Nat} {a3 : Option Addr} {c3 : Nat} {y4 : Option Nat} {c4 : Nat} {a5 : Option Addr} {c5 : Nat} {a6 : Option Addr} {c6 : Nat} {a7 : Option Addr} {c7 : Nat} {y8 : Option Nat} {c8 : Nat} {a9 : Option Addr} {c9 : Nat} {a10 : Option Addr} {c10 : Nat} {a11 : Option Addr} {c11 : Nat} {y12 : Option Nat} {c12 : Nat} {a13 : Option Addr} {c13 : Nat} {a14 : Option Addr} {c14 : Nat} {a15 : Option Addr} {c15 : Nat} {b16 : Nat} {a17 : Option Addr} {c17 : Nat} {r : Int} (h1 : RdL qI s a1 c1 p0.1.1.1) (h2 : RdL qI s a2 c2 p0.1.1.2.2.1) (h3 : RdL qT s a3 c3 p0.1.1.2.2.2) (h4 : MapD kvP qI s y4 c4 p0.1.2) (h5 : RdL qI s a5 c5 p0.2.1.1.1) (h6 : RdL qI s a6 c6 p0.2.1.1.2.2.1) (h7 : RdL qT s a7 c7 p0.2.1.1.2.2.2) (h8 : MapD kvP qI s y8 c8 p0.2.1.2) (h9 : RdL qI s a9 c9 p0.2.2.1.1.1) (h10 : RdL qI s a10 c10 p0.2.2.1.1.2.2.1) (h11 : RdL qT s a11 c11 p0.2.2.1.1.2.2.2) (h12 : MapD kvP qI s y12 c12 p0.2.2.1.2) (h13 : RdL (rL qI) s a13 c13 p0.2.2.2.1) (h14 : RdL qI s a14 c14 p0.2.2.2.2.1) (h15 : RdL qI s a15 c15 p0.2.2.2.2.2) (bx16 : Bx s 0 b16 #[.slice a1 p0.1.1.1.length c1, .int .i64 p0.1.1.2.1, .slice a2 p0.1.1.2.2.1.length c2, .slice a3 p0.1.1.2.2.2.length c3, .map y4, .slice a5 p0.2.1.1.1.length c5, .int .i64 p0.2.1.1.2.1, .slice a6 p0.2.1.1.2.2.1.length c6, .slice a7 p0.2.1.1.2.2.2.length c7, .map y8, .slice a9 p0.2.2.1.1.1.length c9, .int .i64 p0.2.2.1.1.2.1, .slice a10 p0.2.2.1.1.2.2.1.length c10, .slice a11 p0.2.2.1.1.2.2.2.length c11, .map y12, .slice a13 p0.2.2.2.1.length c13, .slice a14 p0.2.2.2.2.1.length c14, .slice a15 p0.2.2.2.2.2.length c15] 110) (h17 : RdL qI s a17 c17 p2) (hm : m_scan_task_chosen p0 p1 p2 = some r) :
    Calls Tryz.prog 66 #[.pointer (some ⟨b16, 0, none⟩), .int .i64 p1, .slice a17 p2.length c17] s.w (RetS No s fun v s' => v = .int .i64 r) := by
 unfold m_scan_task_chosen at hm
 obtain ⟨N, hN, hNb⟩ := s.fresh
 have m0 : Mv (Up N No) s s := Mv.refl _ _
 refine E.entry Tryz.func66 R Tryz.ntmps66 R R (ER (L.box (N + 0) Y R R R fun b18 s19 m20 bx18 => ?_))
 refine L.box (N + 1) Y R R R fun b21 s22 m23 bx21 => ?_
 refine L.as Y R R (LN (ER (L.mv Y R R ?_)))
 have m24 := Sig.fz_mv (N + 0) s22
 refine L.toR (s' := (Sig.fz (N + 0) s22)) R ?_
 have m25 := Sig.fz_mv (N + 1) (Sig.fz (N + 0) s22)
 replace bx21 := (bx21.mv m24 (tq R)).fz (tgn hN)
 replace h17 := (((h17.mono m20.z).mono m23.z).mono (m24.le (tg0 hN))).mono (m25.le (tg0 hN))
 replace bx18 := ((bx18.mv m23 no_No).fz (tgn hN)).mv m25 (tg0 hN)
 replace bx16 := (((bx16.mv m20 no_No).mv m23 no_No).mv m24 (tg0 hN)).mv m25 (tg0 hN)
 replace h1 := (((h1.mono m20.z).mono m23.z).mono (m24.le (tg0 hN))).mono (m25.le (tg0 hN))
 replace h2 := (((h2.mono m20.z).mono m23.z).mono (m24.le (tg0 hN))).mono (m25.le (tg0 hN))
 replace h3 := (((h3.mono m20.z).mono m23.z).mono (m24.le (tg0 hN))).mono (m25.le (tg0 hN))
 replace h4 := (((h4.mono m20.z).mono m23.z).mono (m24.le (tg0 hN))).mono (m25.le (tg0 hN))
 replace h5 := (((h5.mono m20.z).mono m23.z).mono (m24.le (tg0 hN))).mono (m25.le (tg0 hN))
 replace h6 := (((h6.mono m20.z).mono m23.z).mono (m24.le (tg0 hN))).mono (m25.le (tg0 hN))
 replace h7 := (((h7.mono m20.z).mono m23.z).mono (m24.le (tg0 hN))).mono (m25.le (tg0 hN))
 replace h8 := (((h8.mono m20.z).mono m23.z).mono (m24.le (tg0 hN))).mono (m25.le (tg0 hN))
 replace h9 := (((h9.mono m20.z).mono m23.z).mono (m24.le (tg0 hN))).mono (m25.le (tg0 hN))
 replace h10 := (((h10.mono m20.z).mono m23.z).mono (m24.le (tg0 hN))).mono (m25.le (tg0 hN))
 replace h11 := (((h11.mono m20.z).mono m23.z).mono (m24.le (tg0 hN))).mono (m25.le (tg0 hN))
 replace h12 := (((h12.mono m20.z).mono m23.z).mono (m24.le (tg0 hN))).mono (m25.le (tg0 hN))
 replace h13 := (((h13.mono m20.z).mono m23.z).mono (m24.le (tg0 hN))).mono (m25.le (tg0 hN))
 replace h14 := (((h14.mono m20.z).mono m23.z).mono (m24.le (tg0 hN))).mono (m25.le (tg0 hN))
 replace h15 := (((h15.mono m20.z).mono m23.z).mono (m24.le (tg0 hN))).mono (m25.le (tg0 hN))
 refine L.toR (s' := (Sig.fz (N + 1) (Sig.fz (N + 0) s22))) R ?_
 have h26 : FV1 Tryz.prog (Sig.fz (N + 1) (Sig.fz (N + 0) s22)) (.func (.func 115) #[] #[.pointer (some ⟨b18, 0, none⟩), .pointer (some ⟨b21, 0, none⟩)]) (fun (x0 : Int) => [.int .i64 x0]) (fun (r : Bool) => .bool r) (m_scan_task_chosen_1 (some p0) p1) := ⟨115, #[], #[.pointer (some ⟨b18, 0, none⟩), .pointer (some ⟨b21, 0, none⟩)], rfl, cf115, fun x0 r hm s' hl => by have hh := m_scan_task_chosen_1_c (s := s') (PtO.mono (PtO.mk (r := (rP (rP (rP (rL qI) (rP qI (rP (rL qI) (rL qT)))) (rM kvP qI)) (rP (rP (rP (rL qI) (rP qI (rP (rL qI) (rL qT)))) (rM kvP qI)) (rP (rP (rP (rL qI) (rP qI (rP (rL qI) (rL qT)))) (rM kvP qI)) (rP (rL (rL qI)) (rP (rL qI) (rL qI))))))) (cs := [.slice a1 p0.1.1.1.length c1, .int .i64 p0.1.1.2.1, .slice a2 p0.1.1.2.2.1.length c2, .slice a3 p0.1.1.2.2.2.length c3, .map y4, .slice a5 p0.2.1.1.1.length c5, .int .i64 p0.2.1.1.2.1, .slice a6 p0.2.1.1.2.2.1.length c6, .slice a7 p0.2.1.1.2.2.2.length c7, .map y8, .slice a9 p0.2.2.1.1.1.length c9, .int .i64 p0.2.2.1.1.2.1, .slice a10 p0.2.2.1.1.2.2.1.length c10, .slice a11 p0.2.2.1.1.2.2.2.length c11, .map y12, .slice a13 p0.2.2.2.1.length c13, .slice a14 p0.2.2.2.2.1.length c14, .slice a15 p0.2.2.2.2.2.length c15]) (y := p0) bx16 ⟨[.slice a1 p0.1.1.1.length c1, .int .i64 p0.1.1.2.1, .slice a2 p0.1.1.2.2.1.length c2, .slice a3 p0.1.1.2.2.2.length c3, .map y4], [.slice a5 p0.2.1.1.1.length c5, .int .i64 p0.2.1.1.2.1, .slice a6 p0.2.1.1.2.2.1.length c6, .slice a7 p0.2.1.1.2.2.2.length c7, .map y8, .slice a9 p0.2.2.1.1.1.length c9, .int .i64 p0.2.2.1.1.2.1, .slice a10 p0.2.2.1.1.2.2.1.length c10, .slice a11 p0.2.2.1.1.2.2.2.length c11, .map y12, .slice a13 p0.2.2.2.1.length c13, .slice a14 p0.2.2.2.2.1.length c14, .slice a15 p0.2.2.2.2.2.length c15], rfl, ⟨[.slice a1 p0.1.1.1.length c1, .int .i64 p0.1.1.2.1, .slice a2 p0.1.1.2.2.1.length c2, .slice a3 p0.1.1.2.2.2.length c3], [.map y4], rfl, ⟨[.slice a1 p0.1.1.1.length c1], [.int .i64 p0.1.1.2.1, .slice a2 p0.1.1.2.2.1.length c2, .slice a3 p0.1.1.2.2.2.length c3], rfl, ⟨_, _, rfl, h1⟩, ⟨[.int .i64 p0.1.1.2.1], [.slice a2 p0.1.1.2.2.1.length c2, .slice a3 p0.1.1.2.2.2.length c3], rfl, rfl, ⟨[.slice a2 p0.1.1.2.2.1.length c2], [.slice a3 p0.1.1.2.2.2.length c3], rfl, ⟨_, _, rfl, h2⟩, ⟨_, _, rfl, h3⟩⟩⟩⟩, ⟨_, _, rfl, h4⟩⟩, ⟨[.slice a5 p0.2.1.1.1.length c5, .int .i64 p0.2.1.1.2.1, .slice a6 p0.2.1.1.2.2.1.length c6, .slice a7 p0.2.1.1.2.2.2.length c7, .map y8], [.slice a9 p0.2.2.1.1.1.length c9, .int .i64 p0.2.2.1.1.2.1, .slice a10 p0.2.2.1.1.2.2.1.length c10, .slice a11 p0.2.2.1.1.2.2.2.length c11, .map y12, .slice a13 p0.2.2.2.1.length c13, .slice a14 p0.2.2.2.2.1.length c14, .slice a15 p0.2.2.2.2.2.length c15], rfl, ⟨[.slice a5 p0.2.1.1.1.length c5, .int .i64 p0.2.1.1.2.1, .slice a6 p0.2.1.1.2.2.1.length c6, .slice a7 p0.2.1.1.2.2.2.length c7], [.map y8], rfl, ⟨[.slice a5 p0.2.1.1.1.length c5], [.int .i64 p0.2.1.1.2.1, .slice a6 p0.2.1.1.2.2.1.length c6, .slice a7 p0.2.1.1.2.2.2.length c7], rfl, ⟨_, _, rfl, h5⟩, ⟨[.int .i64 p0.2.1.1.2.1], [.slice a6 p0.2.1.1.2.2.1.length c6, .slice a7 p0.2.1.1.2.2.2.length c7], rfl, rfl, ⟨[.slice a6 p0.2.1.1.2.2.1.length c6], [.slice a7 p0.2.1.1.2.2.2.length c7], rfl, ⟨_, _, rfl, h6⟩, ⟨_, _, rfl, h7⟩⟩⟩⟩, ⟨_, _, rfl, h8⟩⟩, ⟨[.slice a9 p0.2.2.1.1.1.length c9, .int .i64 p0.2.2.1.1.2.1, .slice a10 p0.2.2.1.1.2.2.1.length c10, .slice a11 p0.2.2.1.1.2.2.2.length c11, .map y12], [.slice a13 p0.2.2.2.1.length c13, .slice a14 p0.2.2.2.2.1.length c14, .slice a15 p0.2.2.2.2.2.length c15], rfl, ⟨[.slice a9 p0.2.2.1.1.1.length c9, .int .i64 p0.2.2.1.1.2.1, .slice a10 p0.2.2.1.1.2.2.1.length c10, .slice a11 p0.2.2.1.1.2.2.2.length c11], [.map y12], rfl, ⟨[.slice a9 p0.2.2.1.1.1.length c9], [.int .i64 p0.2.2.1.1.2.1, .slice a10 p0.2.2.1.1.2.2.1.length c10, .slice a11 p0.2.2.1.1.2.2.2.length c11], rfl, ⟨_, _, rfl, h9⟩, ⟨[.int .i64 p0.2.2.1.1.2.1], [.slice a10 p0.2.2.1.1.2.2.1.length c10, .slice a11 p0.2.2.1.1.2.2.2.length c11], rfl, rfl, ⟨[.slice a10 p0.2.2.1.1.2.2.1.length c10], [.slice a11 p0.2.2.1.1.2.2.2.length c11], rfl, ⟨_, _, rfl, h10⟩, ⟨_, _, rfl, h11⟩⟩⟩⟩, ⟨_, _, rfl, h12⟩⟩, ⟨[.slice a13 p0.2.2.2.1.length c13], [.slice a14 p0.2.2.2.2.1.length c14, .slice a15 p0.2.2.2.2.2.length c15], rfl, ⟨_, _, rfl, h13⟩, ⟨[.slice a14 p0.2.2.2.2.1.length c14], [.slice a15 p0.2.2.2.2.2.length c15], rfl, ⟨_, _, rfl, h14⟩, ⟨_, _, rfl, h15⟩⟩⟩⟩⟩⟩) hl) (bx18.le hl) (bx21.le hl) hm; simpa using hh⟩
 refine L.mf Y R R R ?_
 obtain ⟨r27, er27, hm⟩ := bindS hm
 refine L.ca cf114 R R Y R (m_slices_IndexFunc_int_c (s := (Sig.fz (N + 1) (Sig.fz (N + 0) s22))) (p0 := p2) (p1 := (m_scan_task_chosen_1 (some p0) p1)) h17 h26 er27) R ?_
 rintro _ s28 m29 rfl
 replace m0 := ((((m0.trans m20.no).trans m23.no).trans (m24.one up)).trans (m25.one up)).trans m29.no
 replace h17 := h17.mono m29.z
 refine L.as Y R R (LN (E.seq (ER (L.mv Y R R (L.bi Y R R R R (L.nil (X.seqN ?_)))))))
 rcases ifS hm with ⟨hc, hm⟩ | ⟨hc, hm⟩
 ·refine E.cT R hc (ER (L.as Y R R (LN (E.ret (X.seqR ?_)))))
  obtain rfl := oi hm
  exact X.rt (.inl R) Tryz.results66 (Rs.tmp R Rs.nil) R ⟨_, (s28).ren N (fun _ => 0), R, R, m0.ren hNb, R⟩
 refine E.cF R hc (E.skip (X.seqN (ER (L.mv Y R R (L.mv Y R R ?_)))))
 obtain ⟨x30, ex30, hm⟩ := bindS hm
 refine L.ix (r := qI) sl22 h17 Y R R ex30 R fun b31 o31 cc31 me31 rd31 => ?_
 obtain rfl := rd31
 refine L.ld (j := 0) me31 nag3 Y R R R R (L.as Y R R (LN (E.ret ?_)))
 obtain rfl := oi hm
 exact X.rt (.inl R) Tryz.results66 (Rs.tmp R Rs.nil) R ⟨_, (s28).ren N (fun _ => 0), R, R, m0.ren hNb, R⟩

theorem cf66 : Cf Tryz.prog 66 := Cf.mk Tryz.func66 (by kernel_rfl) (by kernel_rfl)
theorem md181 : Md Tryz.prog 181 3 3 kvI qI 0 (.int .i64 0) := Md.mk' Tryz.underlying181 (KE.int Tryz.underlying3) (by kernel_rfl) (fun _ => rfl)
noncomputable def m_scan_task_restricted_j3 (st338 : Int × List Int × (List (Int × Int)) × (List (Int × Int × Int))) (l347 : List Int) (l349 : List (Int × Int)) (l350 : List (Int × Int × Int)) : Option ((Int × List Int × (List (Int × Int)) × (List (Int × Int × Int))) ⊕ (List Int × (List (Int × Int)) × (List (Int × Int × Int)))) :=
 some (.inl (W (st338.1 + 1), l347, l349, l350))
noncomputable def m_scan_task_restricted_j4 (st234 : Int × List Int × (List (Int × Int)) × List Int × (List (Int × Int × Int))) (st338 : Int × List Int × (List (Int × Int)) × (List (Int × Int × Int))) (x354 : Int) (r368 : Int) (l376 : List Int) (l378 : List (Int × Int)) : Option ((Int × List Int × (List (Int × Int)) × (List (Int × Int × Int))) ⊕ (List Int × (List (Int × Int)) × (List (Int × Int × Int)))) :=
 (app st338.2.2.2 ([(st234.1, x354, ((kget l378 r368).getD 0))] : List (Int × Int × Int))).bind fun x384 =>
 m_scan_task_restricted_j3 st338 l376 l378 x384
noncomputable def m_scan_task_restricted_l2 (p0 : (AutT × (List ((Int × Int) × Int))) × (AutT × (List ((Int × Int) × Int))) × (AutT × (List ((Int × Int) × Int))) × List (List Int) × List Int × List Int) (r25 : List Int) (st234 : Int × List Int × (List (Int × Int)) × List Int × (List (Int × Int × Int))) (r263 : Int) (st338 : Int × List Int × (List (Int × Int)) × (List (Int × Int × Int))) : Option ((Int × List Int × (List (Int × Int)) × (List (Int × Int × Int))) ⊕ (List Int × (List (Int × Int)) × (List (Int × Int × Int)))) :=
 if decide (st338.1 < (r25.length : Int)) then
  (idx r25 st338.1).bind fun x354 =>
  (idx st338.2.1 st234.1).bind fun x363 =>
  (m_scan_graph_to p0.2.2.1 x363 x354).bind fun r368 =>
  (if (r368 == (-1)) then
   some true
  else
   (if (x354 != r263) then
    (m_alphabet_Contains p0.2.2.2.2.1 x354).bind fun r404 =>
    some (!r404)
   else
    some false).bind fun b400 =>
   some b400).bind fun b373 =>
  if b373 then
   m_scan_task_restricted_j3 st338 st338.2.1 st338.2.2.1 st338.2.2.2
  else
   if (!((kget st338.2.2.1 r368).isSome)) then
    (app st338.2.1 ([r368] : List Int)).bind fun x395 =>
    m_scan_task_restricted_j4 st234 st338 x354 r368 x395 (kput st338.2.2.1 r368 (st338.2.1.length : Int))
   else
    m_scan_task_restricted_j4 st234 st338 x354 r368 st338.2.1 st338.2.2.1
 else
  some (.inr st338.2)
noncomputable def m_scan_task_restricted_j2 (p0 : (AutT × (List ((Int × Int) × Int))) × (AutT × (List ((Int × Int) × Int))) × (AutT × (List ((Int × Int) × Int))) × List (List Int) × List Int × List Int) (p1 : List Int) (r25 : List Int) (st234 : Int × List Int × (List (Int × Int)) × List Int × (List (Int × Int × Int))) (l257 : List Int) : Option ((Int × List Int × (List (Int × Int)) × List Int × (List (Int × Int × Int))) ⊕ (List Int × List Int × (List (Int × Int × Int)))) :=
 (idx st234.2.1 st234.1).bind fun x261 =>
 (m_scan_task_chosen p0 x261 p1).bind fun r263 =>
 (iter (m_scan_task_restricted_l2 p0 r25 st234 r263) (0, st234.2.1, st234.2.2.1, st234.2.2.2.2)).bind fun o338 =>
 some (.inl (W (st234.1 + 1), o338.1, o338.2.1, l257, o338.2.2))
noncomputable def m_scan_task_restricted_l1 (p0 : (AutT × (List ((Int × Int) × Int))) × (AutT × (List ((Int × Int) × Int))) × (AutT × (List ((Int × Int) × Int))) × List (List Int) × List Int × List Int) (p1 : List Int) (r25 : List Int) (st234 : Int × List Int × (List (Int × Int)) × List Int × (List (Int × Int × Int))) : Option ((Int × List Int × (List (Int × Int)) × List Int × (List (Int × Int × Int))) ⊕ (List Int × List Int × (List (Int × Int × Int)))) :=
 if decide (st234.1 < (st234.2.1.length : Int)) then
  (idx st234.2.1 st234.1).bind fun x416 =>
  (m_alphabet_Contains p0.2.2.1.1.2.2.1 x416).bind fun r420 =>
  if r420 then
   (app st234.2.2.2.1 ([st234.1] : List Int)).bind fun x427 =>
   m_scan_task_restricted_j2 p0 p1 r25 st234 x427
  else
   m_scan_task_restricted_j2 p0 p1 r25 st234 st234.2.2.2.1
 else
  some (.inr (st234.2.1, st234.2.2.2))
noncomputable def m_scan_task_restricted_j1 (p0 : (AutT × (List ((Int × Int) × Int))) × (AutT × (List ((Int × Int) × Int))) × (AutT × (List ((Int × Int) × Int))) × List (List Int) × List Int × List Int) (p1 : List Int) (r25 : List Int) (l37 : List Int) (l39 : List (Int × Int)) : Option (AutT × (List ((Int × Int) × Int))) :=
 (iter (m_scan_task_restricted_l1 p0 p1 r25) (0, l37, l39, ([] : List Int), ([] : List (Int × Int × Int)))).bind fun o234 =>
 (m_scan_index (r25, (o234.1.length : Int), o234.2)).bind fun r247 =>
 some r247
noncomputable def m_scan_task_restricted (p0 : (AutT × (List ((Int × Int) × Int))) × (AutT × (List ((Int × Int) × Int))) × (AutT × (List ((Int × Int) × Int))) × List (List Int) × List Int × List Int) (p1 : List Int) : Option (AutT × (List ((Int × Int) × Int))) :=
 (m_slices_Clone_int p0.2.2.1.1.1).bind fun r25 =>
 if decide (p0.2.2.1.1.2.1 > 0) then
  (app ([] : List Int) ([0] : List Int)).bind fun x436 =>
  m_scan_task_restricted_j1 p0 p1 r25 x436 (kput ([] : List (Int × Int)) 0 0)
 else
  m_scan_task_restricted_j1 p0 p1 r25 ([] : List Int) ([] : List (Int × Int))
theorem m_scan_task_restricted_c {s : Sig} {p0 : (AutT × (List ((Int × Int) × Int))) × (AutT × (List ((Int × Int) × Int))) × (AutT × (List ((Int × Int) × Int))) × List (List Int) × List Int × List Int} {p1 : List Int} {a1 : Option Addr} {c1 : Nat} {a2 : Option Addr} {c2 : Nat} {a3 : Option Addr} {c3 : Nat} {y4 : Option Nat} {c4 : Nat} {a5 : Option Addr} {c5 : Nat} {a6 : Option Addr} {c6 : Nat} {a7 : Option Addr} {c7 : Nat} {y8 : Option Nat} {c8 : Nat} {a9 : Option Addr} {c9 : Nat} {a10 : Option Addr} {c10 : Nat} {a11 : Option Addr} {c11 : Nat} {y12 : Option Nat} {c12 : Nat} {a13 : Option Addr} {c13 : Nat} {a14 : Option Addr} {c14 : Nat} {a15 : Option Addr} {c15 : Nat} {b16 : Nat} {a17 : Option Addr} {c17 : Nat} {r : (AutT × (List ((Int × Int) × Int)))} (h1 : RdL qI s a1 c1 p0.1.1.1) (h2 : RdL qI s a2 c2 p0.1.1.2.2.1) (h3 : RdL qT s a3 c3 p0.1.1.2.2.2) (h4 : MapD kvP qI s y4 c4 p0.1.2) (h5 : RdL qI s a5 c5 p0.2.1.1.1) (h6 : RdL qI s a6 c6 p0.2.1.1.2.2.1) (h7 : RdL qT s a7 c7 p0.2.1.1.2.2.2) (h8 : MapD kvP qI s y8 c8 p0.2.1.2) (h9 : RdL qI s a9 c9 p0.2.2.1.1.1) (h10 : RdL qI s a10 c10 p0.2.2.1.1.2.2.1) (h11 : RdL qT s a11 c11 p0.2.2.1.1.2.2.2) (h12 : MapD kvP qI s y12 c12 p0.2.2.1.2) (h13 : RdL (rL qI) s a13 c13 p0.2.2.2.1) (h14 : RdL qI s a14 c14 p0.2.2.2.2.1) (h15 : RdL qI s a15 c15 p0.2.2.2.2.2) (bx16 : Bx s 0 b16 #[.slice a1 p0.1.1.1.length c1, .int .i64 p0.1.1.2.1, .slice a2 p0.1.1.2.2.1.length c2, .slice a3 p0.1.1.2.2.2.length c3, .map y4, .slice a5 p0.2.1.1.1.length c5, .int .i64 p0.2.1.1.2.1, .slice a6 p0.2.1.1.2.2.1.length c6, .slice a7 p0.2.1.1.2.2.2.length c7, .map y8, .slice a9 p0.2.2.1.1.1.length c9, .int .i64 p0.2.2.1.1.2.1, .slice a10 p0.2.2.1.1.2.2.1.length c10, .slice a11 p0.2.2.1.1.2.2.2.length c11, .map y12, .slice a13 p0.2.2.2.1.length c13, .slice a14 p0.2.2.2.2.1.length c14, .slice a15 p0.2.2.2.2.2.length c15] 110) (h17 : RdL qI s a17 c17 p1) (hm : m_scan_task_restricted p0 p1 = some r) :
    Calls Tryz.prog 62 #[.pointer (some ⟨b16, 0, none⟩), .slice a17 p1.length c17] s.w (RetS No s fun v s' => ∃ (a18 : Option Addr) (c18 : Nat) (a19 : Option Addr) (c19 : Nat) (a20 : Option Addr) (c20 : Nat) (y21 : Option Nat) (c21 : Nat), v = .agg #[.slice a18 r.1.1.length c18, .int .i64 r.1.2.1, .slice a19 r.1.2.2.1.length c19, .slice a20 r.1.2.2.2.length c20, .map y21] ∧ RdL qI s' a18 c18 r.1.1 ∧ RdL qI s' a19 c19 r.1.2.2.1 ∧ RdL qT s' a20 c20 r.1.2.2.2 ∧ MapD kvP qI s' y21 c21 r.2) := by
 unfold m_scan_task_restricted at hm
 obtain ⟨N, hN, hNb⟩ := s.fresh
 have m0 : Mv (Up N No) s s := Mv.refl _ _
 refine E.entry Tryz.func62 R Tryz.ntmps62 R R (ER (L.al (N + 0) zz108 R Y R fun b22 s23 m24 bx22 => ?_))
 replace bx16 := bx16.mv m24 no_No
 replace h9 := h9.mono m24.z
 refine LN (ER (L.mv Y R R (L.nc Y R R (L.fa fa110_2 Y R R (L.fa fa108_0 Y R R (L.fa fa25_0 Y R R (L.ld (j := 10) bx16.mem nag22 Y R R R R ?_)))))))
 obtain ⟨r25, er25, hm⟩ := bindS hm
 refine L.ca cf83 R R Y R (m_slices_Clone_int_c (s := s23) (p0 := p0.2.2.1.1.1) (u0 := 0) h9 er25) R ?_
 rintro _ s26 m27 ⟨a28, c28, rfl, h28⟩
 refine L.bu (cs := [.slice a28 r25.length c28, .int .i64 0, .slice none 0 0, .slice none 0 0]) pl25 Y R R R (L.al (N + 1) zz25 R Y R fun b29 s30 m31 bx29 => ?_)
 refine L.st (c := [.slice a28 r25.length c28, .int .i64 0, .slice none 0 0, .slice none 0 0]) (cs' := #[.slice a28 r25.length c28, .int .i64 0, .slice none 0 0, .slice none 0 0]) bx29 ag25.sz Y R R R R R (nb R) R fun s32 m33 bx29 => ?_
 refine LN (ER (L.as Y R R (LN (ER (L.mk2 (kv := kvI) (r := qI) (T := 181) (N + 2) R Y fun y34 c34 s35 m36 h34 => ?_)))))
 replace h34 := h34.as (T' := 0) (Le.refl _) R (fun _ e => e)
 replace m0 := ((((m0.trans m24.no).trans m27.no).trans m31.no).trans (m33.one up)).trans m36.no
 replace h17 := ((((h17.mono m24.z).mono m27.z).mono m31.z).mono (m33.le (tg0 hN))).mono m36.z
 replace bx16 := (((bx16.mv m27 no_No).mv m31 no_No).mv m33 (tg0 hN)).mv m36 no_No
 replace h1 := ((((h1.mono m24.z).mono m27.z).mono m31.z).mono (m33.le (tg0 hN))).mono m36.z
 replace h2 := ((((h2.mono m24.z).mono m27.z).mono m31.z).mono (m33.le (tg0 hN))).mono m36.z
 replace h3 := ((((h3.mono m24.z).mono m27.z).mono m31.z).mono (m33.le (tg0 hN))).mono m36.z
 replace h4 := ((((h4.mono m24.z).mono m27.z).mono m31.z).mono (m33.le (tg0 hN))).mono m36.z
 replace h5 := ((((h5.mono m24.z).mono m27.z).mono m31.z).mono (m33.le (tg0 hN))).mono m36.z
 replace h6 := ((((h6.mono m24.z).mono m27.z).mono m31.z).mono (m33.le (tg0 hN))).mono m36.z
 replace h7 := ((((h7.mono m24.z).mono m27.z).mono m31.z).mono (m33.le (tg0 hN))).mono m36.z
 replace h8 := ((((h8.mono m24.z).mono m27.z).mono m31.z).mono (m33.le (tg0 hN))).mono m36.z
 replace h9 := (((h9.mono m27.z).mono m31.z).mono (m33.le (tg0 hN))).mono m36.z
 replace h10 := ((((h10.mono m24.z).mono m27.z).mono m31.z).mono (m33.le (tg0 hN))).mono m36.z
 replace h11 := ((((h11.mono m24.z).mono m27.z).mono m31.z).mono (m33.le (tg0 hN))).mono m36.z
 replace h12 := ((((h12.mono m24.z).mono m27.z).mono m31.z).mono (m33.le (tg0 hN))).mono m36.z
 replace h13 := ((((h13.mono m24.z).mono m27.z).mono m31.z).mono (m33.le (tg0 hN))).mono m36.z
 replace h14 := ((((h14.mono m24.z).mono m27.z).mono m31.z).mono (m33.le (tg0 hN))).mono m36.z
 replace h15 := ((((h15.mono m24.z).mono m27.z).mono m31.z).mono (m33.le (tg0 hN))).mono m36.z
 replace bx22 := (((bx22.mv m27 no_No).mv m31 no_No).mv m33 (tq R)).mv m36 no_No
 replace bx29 := bx29.mv m36 no_No
 replace h28 := (((h28.p).mono m31.z).mono (m33.le (tg0 hN))).mono m36.z
 refine L.as Y R R (LN (E.seqJ (fun e w => ∃ (s40 : Sig) (l37 : List Int) (l39 : List (Int × Int)) (a38 : Option Addr) (c38 : Nat), m_scan_task_restricted_j1 p0 p1 r25 l37 l39 = some r ∧ Mv (Up N No) s s40 ∧ RowT qI s40 (N + 3) 3 a38 c38 l37 ∧ MapO kvI qI s40 (N + 2) 0 y34 c34 l39 ∧ RdL qI s40 a17 c17 p1 ∧ RdL qI s40 a1 c1 p0.1.1.1 ∧ RdL qI s40 a2 c2 p0.1.1.2.2.1 ∧ RdL qT s40 a3 c3 p0.1.1.2.2.2 ∧ MapD kvP qI s40 y4 c4 p0.1.2 ∧ RdL qI s40 a5 c5 p0.2.1.1.1 ∧ RdL qI s40 a6 c6 p0.2.1.1.2.2.1 ∧ RdL qT s40 a7 c7 p0.2.1.1.2.2.2 ∧ MapD kvP qI s40 y8 c8 p0.2.1.2 ∧ RdL qI s40 a9 c9 p0.2.2.1.1.1 ∧ RdL qI s40 a10 c10 p0.2.2.1.1.2.2.1 ∧ RdL qT s40 a11 c11 p0.2.2.1.1.2.2.2 ∧ MapD kvP qI s40 y12 c12 p0.2.2.1.2 ∧ RdL (rL qI) s40 a13 c13 p0.2.2.2.1 ∧ RdL qI s40 a14 c14 p0.2.2.2.2.1 ∧ RdL qI s40 a15 c15 p0.2.2.2.2.2 ∧ RdL qI s40 a28 c28 r25 ∧ Bx s40 0 b16 #[.slice a1 p0.1.1.1.length c1, .int .i64 p0.1.1.2.1, .slice a2 p0.1.1.2.2.1.length c2, .slice a3 p0.1.1.2.2.2.length c3, .map y4, .slice a5 p0.2.1.1.1.length c5, .int .i64 p0.2.1.1.2.1, .slice a6 p0.2.1.1.2.2.1.length c6, .slice a7 p0.2.1.1.2.2.2.length c7, .map y8, .slice a9 p0.2.2.1.1.1.length c9, .int .i64 p0.2.2.1.1.2.1, .slice a10 p0.2.2.1.1.2.2.1.length c10, .slice a11 p0.2.2.1.1.2.2.2.length c11, .map y12, .slice a13 p0.2.2.2.1.length c13, .slice a14 p0.2.2.2.2.1.length c14, .slice a15 p0.2.2.2.2.2.length c15] 110 ∧ Bx s40 (N + 0) b22 #[.slice none 0 0, .int .i64 0, .slice none 0 0, .slice none 0 0, .map none] 108 ∧ Bx s40 (N + 1) b29 #[.slice a28 r25.length c28, .int .i64 0, .slice none 0 0, .slice none 0 0] 25 ∧ e = [(6, .slice a38 l37.length c38), (7, .map y34), (5, .pointer (some ⟨b29, 0, none⟩)), (4, .pointer (some ⟨b22, 0, none⟩)), (0, .pointer (some ⟨b16, 0, none⟩)), (1, .slice a17 p1.length c17)] ∧ w = s40.w) ?_ ?_))
 ·rintro _ _ ⟨s40, l37, l39, a38, c38, hm, m0, h38, h34, h17, h1, h2, h3, h4, h5, h6, h7, h8, h9, h10, h11, h12, h13, h14, h15, h28, bx16, bx22, bx29, rfl, rfl⟩
  unfold m_scan_task_restricted_j1 at hm
  refine E.seq (ER (L.as Y R R (LN (E.block ?_))))
  obtain ⟨o234, eo234, hm⟩ := bindS hm
  refine E.cut (x := .exit 0) (fun e w => ∃ (s242 : Sig) (a236 : Option Addr) (c236 : Nat) (a238 : Option Addr) (c238 : Nat) (a240 : Option Addr) (c240 : Nat), Mv (Up N No) s s242 ∧ RowT qI s242 (N + 3) 3 a236 c236 o234.1 ∧ RdL qI s242 a28 c28 r25 ∧ RowT qI s242 (N + 4) 3 a238 c238 o234.2.1 ∧ RowT qT s242 (N + 5) 97 a240 c240 o234.2.2 ∧ Bx s242 (N + 0) b22 #[.slice none 0 0, .int .i64 0, .slice none 0 0, .slice none 0 0, .map none] 108 ∧ Bx s242 (N + 1) b29 #[.slice a28 r25.length c28, .int .i64 0, .slice a238 o234.2.1.length c238, .slice a240 o234.2.2.length c240] 25 ∧ e = [(6, .slice a236 o234.1.length c236), (5, .pointer (some ⟨b29, 0, none⟩)), (4, .pointer (some ⟨b22, 0, none⟩))] ∧ w = s242.w) ?_ ?_
  ·rintro _ _ ⟨s242, a236, c236, a238, c238, a240, c240, m0, h236, h28, h238, h240, bx22, bx29, rfl, rfl⟩
   refine X.blkE (X.seqN (ER (L.mv Y R R (L.len sl22 Y R R (L.fa fa25_1 Y R R (L.st (c := [.int .i64 (o234.1.length : Int)]) (cs' := #[.slice a28 r25.length c28, .int .i64 (o234.1.length : Int), .slice a238 o234.2.1.length c238, .slice a240 o234.2.2.length c240]) bx29 nag3.sz Y R R R R R (nb R) R fun s243 m244 bx29 => ?_))))))
   refine LN (ER (L.lg (j := 0) (cs := [.slice a28 r25.length c28, .int .i64 (o234.1.length : Int), .slice a238 o234.2.1.length c238, .slice a240 o234.2.2.length c240]) bx29.mem ag25 Y R R R R R ?_))
   have m245 := Sig.fz_mv (N + 4) s243
   refine L.toR (s' := (Sig.fz (N + 4) s243)) R ?_
   have m246 := Sig.fz_mv (N + 5) (Sig.fz (N + 4) s243)
   replace h240 := ((h240.mv m244 (tq R) (tg0 hN)).mv m245 (tq R) (tg0 hN)).fz (tgn hN)
   replace h28 := ((h28.mono (m244.le (tg0 hN))).mono (m245.le (tg0 hN))).mono (m246.le (tg0 hN))
   replace h238 := ((h238.mv m244 (tq R) (tg0 hN)).fz (tgn hN)).mono (m246.le (tg0 hN))
   refine L.toR (s' := (Sig.fz (N + 5) (Sig.fz (N + 4) s243))) R ?_
   obtain ⟨r247, er247, hm⟩ := bindS hm
   refine L.ca cf105 R R Y R (m_scan_index_c (s := (Sig.fz (N + 5) (Sig.fz (N + 4) s243))) (p0 := (r25, (o234.1.length : Int), o234.2)) h28 h238 h240 er247) R ?_
   rintro _ s248 m249 ⟨a250, c250, a251, c251, a252, c252, y253, c253, rfl, h250, h251, h252, h253⟩
   replace bx22 := (((bx22.mv m244 (tq R)).mv m245 (tq R)).mv m246 (tq R)).mv m249 no_No
   refine L.st (c := [.slice a250 r247.1.1.length c250, .int .i64 r247.1.2.1, .slice a251 r247.1.2.2.1.length c251, .slice a252 r247.1.2.2.2.length c252, .map y253]) (cs' := #[.slice a250 r247.1.1.length c250, .int .i64 r247.1.2.1, .slice a251 r247.1.2.2.1.length c251, .slice a252 r247.1.2.2.2.length c252, .map y253]) bx22 ag108.sz Y R R R R R (nb R) R fun s254 m255 bx22 => ?_
   replace m0 := ((((m0.trans (m244.one up)).trans (m245.one up)).trans (m246.one up)).trans m249.no).trans (m255.one up)
   replace h250 := h250.mono (m255.le (tg0 hN))
   replace h251 := h251.mono (m255.le (tg0 hN))
   replace h252 := h252.mono (m255.le (tg0 hN))
   replace h253 := h253.mono (m255.le (tg0 hN))
   refine LN (E.ret ?_)
   obtain rfl := oi hm
   exact X.rt (.inl R) Tryz.results62 (Rs.cell R bx22 ag108 R Rs.nil) R ⟨_, (s254).ren N (fun _ => 0), R, R, m0.ren hNb, ⟨a250, c250, a251, c251, a252, c252, y253, c253, R, (h250.ren hN), (h251.ren hN), (h252.ren hN), (h253.ren hN)⟩⟩
  intro K256
  refine E.iter (fun (st234 : Int × List Int × (List (Int × Int)) × List Int × (List (Int × Int × Int))) (e : List (Nat × Value)) (w : World) => ∃ (s241 : Sig) (a44 : Option Addr) (c44 : Nat) (a47 : Option Addr) (c47 : Nat) (a49 : Option Addr) (c49 : Nat), Mv (Up N No) s s241 ∧ RowT qI s241 (N + 3) 3 a44 c44 st234.2.1 ∧ MapO kvI qI s241 (N + 2) 0 y34 c34 st234.2.2.1 ∧ RdL qI s241 a17 c17 p1 ∧ RdL qI s241 a1 c1 p0.1.1.1 ∧ RdL qI s241 a2 c2 p0.1.1.2.2.1 ∧ RdL qT s241 a3 c3 p0.1.1.2.2.2 ∧ MapD kvP qI s241 y4 c4 p0.1.2 ∧ RdL qI s241 a5 c5 p0.2.1.1.1 ∧ RdL qI s241 a6 c6 p0.2.1.1.2.2.1 ∧ RdL qT s241 a7 c7 p0.2.1.1.2.2.2 ∧ MapD kvP qI s241 y8 c8 p0.2.1.2 ∧ RdL qI s241 a9 c9 p0.2.2.1.1.1 ∧ RdL qI s241 a10 c10 p0.2.2.1.1.2.2.1 ∧ RdL qT s241 a11 c11 p0.2.2.1.1.2.2.2 ∧ MapD kvP qI s241 y12 c12 p0.2.2.1.2 ∧ RdL (rL qI) s241 a13 c13 p0.2.2.2.1 ∧ RdL qI s241 a14 c14 p0.2.2.2.2.1 ∧ RdL qI s241 a15 c15 p0.2.2.2.2.2 ∧ RdL qI s241 a28 c28 r25 ∧ RowT qI s241 (N + 4) 3 a47 c47 st234.2.2.2.1 ∧ RowT qT s241 (N + 5) 97 a49 c49 st234.2.2.2.2 ∧ Bx s241 0 b16 #[.slice a1 p0.1.1.1.length c1, .int .i64 p0.1.1.2.1, .slice a2 p0.1.1.2.2.1.length c2, .slice a3 p0.1.1.2.2.2.length c3, .map y4, .slice a5 p0.2.1.1.1.length c5, .int .i64 p0.2.1.1.2.1, .slice a6 p0.2.1.1.2.2.1.length c6, .slice a7 p0.2.1.1.2.2.2.length c7, .map y8, .slice a9 p0.2.2.1.1.1.length c9, .int .i64 p0.2.2.1.1.2.1, .slice a10 p0.2.2.1.1.2.2.1.length c10, .slice a11 p0.2.2.1.1.2.2.2.length c11, .map y12, .slice a13 p0.2.2.2.1.length c13, .slice a14 p0.2.2.2.2.1.length c14, .slice a15 p0.2.2.2.2.2.length c15] 110 ∧ Bx s241 (N + 0) b22 #[.slice none 0 0, .int .i64 0, .slice none 0 0, .slice none 0 0, .map none] 108 ∧ Bx s241 (N + 1) b29 #[.slice a28 r25.length c28, .int .i64 0, .slice a47 st234.2.2.2.1.length c47, .slice a49 st234.2.2.2.2.length c49] 25 ∧ e = [(8, .int .i64 st234.1), (6, .slice a44 st234.2.1.length c44), (7, .map y34), (5, .pointer (some ⟨b29, 0, none⟩)), (4, .pointer (some ⟨b22, 0, none⟩)), (0, .pointer (some ⟨b16, 0, none⟩)), (1, .slice a17 p1.length c17)] ∧ w = s241.w) eo234 ⟨s40, a38, c38, none, 0, none, 0, m0, h38, h34, h17, h1, h2, h3, h4, h5, h6, h7, h8, h9, h10, h11, h12, h13, h14, h15, h28, RowT.nil, RowT.nil, bx16, bx22, bx29, R, R⟩ (Sub.rf R) ?_
  rintro st234 res234 hm ih234 ho234 _ _ ⟨s241, a44, c44, a47, c47, a49, c49, m0, h44, h34, h17, h1, h2, h3, h4, h5, h6, h7, h8, h9, h10, h11, h12, h13, h14, h15, h28, h47, h49, bx16, bx22, bx29, rfl, rfl⟩
  unfold m_scan_task_restricted_l1 at hm
  refine E.seq (ER (L.mv Y R R (L.mv Y R R (L.len sl22 Y R R (L.bi Y R R R R (L.nil (X.seqN ?_)))))))
  rcases ifS hm with ⟨hc, hm⟩ | ⟨hc, hm⟩
  ·refine E.cT R hc (E.skip (X.seqN (E.seq (E.block (E.seqJ (fun e w => ∃ (s259 : Sig) (l257 : List Int) (a258 : Option Addr) (c258 : Nat), m_scan_task_restricted_j2 p0 p1 r25 st234 l257 = some res234 ∧ Mv (Up N No) s s259 ∧ RowT qI s259 (N + 3) 3 a44 c44 st234.2.1 ∧ MapO kvI qI s259 (N + 2) 0 y34 c34 st234.2.2.1 ∧ RdL qI s259 a17 c17 p1 ∧ RdL qI s259 a1 c1 p0.1.1.1 ∧ RdL qI s259 a2 c2 p0.1.1.2.2.1 ∧ RdL qT s259 a3 c3 p0.1.1.2.2.2 ∧ MapD kvP qI s259 y4 c4 p0.1.2 ∧ RdL qI s259 a5 c5 p0.2.1.1.1 ∧ RdL qI s259 a6 c6 p0.2.1.1.2.2.1 ∧ RdL qT s259 a7 c7 p0.2.1.1.2.2.2 ∧ MapD kvP qI s259 y8 c8 p0.2.1.2 ∧ RdL qI s259 a9 c9 p0.2.2.1.1.1 ∧ RdL qI s259 a10 c10 p0.2.2.1.1.2.2.1 ∧ RdL qT s259 a11 c11 p0.2.2.1.1.2.2.2 ∧ MapD kvP qI s259 y12 c12 p0.2.2.1.2 ∧ RdL (rL qI) s259 a13 c13 p0.2.2.2.1 ∧ RdL qI s259 a14 c14 p0.2.2.2.2.1 ∧ RdL qI s259 a15 c15 p0.2.2.2.2.2 ∧ RdL qI s259 a28 c28 r25 ∧ RowT qI s259 (N + 4) 3 a258 c258 l257 ∧ RowT qT s259 (N + 5) 97 a49 c49 st234.2.2.2.2 ∧ Bx s259 0 b16 #[.slice a1 p0.1.1.1.length c1, .int .i64 p0.1.1.2.1, .slice a2 p0.1.1.2.2.1.length c2, .slice a3 p0.1.1.2.2.2.length c3, .map y4, .slice a5 p0.2.1.1.1.length c5, .int .i64 p0.2.1.1.2.1, .slice a6 p0.2.1.1.2.2.1.length c6, .slice a7 p0.2.1.1.2.2.2.length c7, .map y8, .slice a9 p0.2.2.1.1.1.length c9, .int .i64 p0.2.2.1.1.2.1, .slice a10 p0.2.2.1.1.2.2.1.length c10, .slice a11 p0.2.2.1.1.2.2.2.length c11, .map y12, .slice a13 p0.2.2.2.1.length c13, .slice a14 p0.2.2.2.2.1.length c14, .slice a15 p0.2.2.2.2.2.length c15] 110 ∧ Bx s259 (N + 0) b22 #[.slice none 0 0, .int .i64 0, .slice none 0 0, .slice none 0 0, .map none] 108 ∧ Bx s259 (N + 1) b29 #[.slice a28 r25.length c28, .int .i64 0, .slice a258 l257.length c258, .slice a49 st234.2.2.2.2.length c49] 25 ∧ e = [(8, .int .i64 st234.1), (6, .slice a44 st234.2.1.length c44), (7, .map y34), (5, .pointer (some ⟨b29, 0, none⟩)), (4, .pointer (some ⟨b22, 0, none⟩)), (0, .pointer (some ⟨b16, 0, none⟩)), (1, .slice a17 p1.length c17)] ∧ w = s259.w) ?_ ?_)))))
   ·rintro _ _ ⟨s259, l257, a258, c258, hm, m0, h44, h34, h17, h1, h2, h3, h4, h5, h6, h7, h8, h9, h10, h11, h12, h13, h14, h15, h28, h258, h49, bx16, bx22, bx29, rfl, rfl⟩
    unfold m_scan_task_restricted_j2 at hm
    refine ER (L.mv Y R R (L.mv Y R R (L.mv Y R R ?_)))
    obtain ⟨x261, ex261, hm⟩ := bindS hm
    refine L.ir (r := qI) sl22 h44 Y R R ex261 R fun b262 o262 cc262 me262 rd262 sp262 => ?_
    obtain rfl := rd262
    refine L.ld (j := 0) me262 nag3 Y R R R R (L.mv Y R R ?_)
    obtain ⟨r263, er263, hm⟩ := bindS hm
    refine L.ca cf66 R R Y R (m_scan_task_chosen_c (s := s259) (p0 := p0) (p1 := x261) (p2 := p1) h1 h2 h3 h4 h5 h6 h7 h8 h9 h10 h11 h12 h13 h14 h15 bx16 h17 er263) R ?_
    rintro _ s264 m265 rfl
    replace m0 := m0.trans m265.no
    replace h17 := h17.mono m265.z
    replace h44 := h44.mv m265 no_No no_No
    replace h34 := h34.mv m265 no_No no_No
    replace bx16 := bx16.mv m265 no_No
    replace h1 := h1.mono m265.z
    replace h2 := h2.mono m265.z
    replace h3 := h3.mono m265.z
    replace h4 := h4.mono m265.z
    replace h5 := h5.mono m265.z
    replace h6 := h6.mono m265.z
    replace h7 := h7.mono m265.z
    replace h8 := h8.mono m265.z
    replace h9 := h9.mono m265.z
    replace h10 := h10.mono m265.z
    replace h11 := h11.mono m265.z
    replace h12 := h12.mono m265.z
    replace h13 := h13.mono m265.z
    replace h14 := h14.mono m265.z
    replace h15 := h15.mono m265.z
    replace bx22 := bx22.mv m265 no_No
    replace bx29 := bx29.mv m265 no_No
    replace h28 := h28.mono m265.z
    replace h258 := h258.mv m265 no_No no_No
    replace h49 := h49.mv m265 no_No no_No
    refine L.as Y R R (LN (ER (L.fa fa25_0 Y R R (L.ld (j := 0) bx29.mem nag22 Y R R R R (L.len sl22 Y R R (L.mv Y R R (LN (E.block ?_))))))))
    obtain ⟨o338, eo338, hm⟩ := bindS hm
    refine E.cut (x := .exit 2) (fun e w => ∃ (s345 : Sig) (a340 : Option Addr) (c340 : Nat) (a343 : Option Addr) (c343 : Nat), Mv (Up N No) s s345 ∧ RowT qI s345 (N + 3) 3 a340 c340 o338.1 ∧ MapO kvI qI s345 (N + 2) 0 y34 c34 o338.2.1 ∧ RdL qI s345 a17 c17 p1 ∧ RdL qI s345 a1 c1 p0.1.1.1 ∧ RdL qI s345 a2 c2 p0.1.1.2.2.1 ∧ RdL qT s345 a3 c3 p0.1.1.2.2.2 ∧ MapD kvP qI s345 y4 c4 p0.1.2 ∧ RdL qI s345 a5 c5 p0.2.1.1.1 ∧ RdL qI s345 a6 c6 p0.2.1.1.2.2.1 ∧ RdL qT s345 a7 c7 p0.2.1.1.2.2.2 ∧ MapD kvP qI s345 y8 c8 p0.2.1.2 ∧ RdL qI s345 a9 c9 p0.2.2.1.1.1 ∧ RdL qI s345 a10 c10 p0.2.2.1.1.2.2.1 ∧ RdL qT s345 a11 c11 p0.2.2.1.1.2.2.2 ∧ MapD kvP qI s345 y12 c12 p0.2.2.1.2 ∧ RdL (rL qI) s345 a13 c13 p0.2.2.2.1 ∧ RdL qI s345 a14 c14 p0.2.2.2.2.1 ∧ RdL qI s345 a15 c15 p0.2.2.2.2.2 ∧ RdL qI s345 a28 c28 r25 ∧ RowT qI s345 (N + 4) 3 a258 c258 l257 ∧ RowT qT s345 (N + 5) 97 a343 c343 o338.2.2 ∧ Bx s345 0 b16 #[.slice a1 p0.1.1.1.length c1, .int .i64 p0.1.1.2.1, .slice a2 p0.1.1.2.2.1.length c2, .slice a3 p0.1.1.2.2.2.length c3, .map y4, .slice a5 p0.2.1.1.1.length c5, .int .i64 p0.2.1.1.2.1, .slice a6 p0.2.1.1.2.2.1.length c6, .slice a7 p0.2.1.1.2.2.2.length c7, .map y8, .slice a9 p0.2.2.1.1.1.length c9, .int .i64 p0.2.2.1.1.2.1, .slice a10 p0.2.2.1.1.2.2.1.length c10, .slice a11 p0.2.2.1.1.2.2.2.length c11, .map y12, .slice a13 p0.2.2.2.1.length c13, .slice a14 p0.2.2.2.2.1.length c14, .slice a15 p0.2.2.2.2.2.length c15] 110 ∧ Bx s345 (N + 0) b22 #[.slice none 0 0, .int .i64 0, .slice none 0 0, .slice none 0 0, .map none] 108 ∧ Bx s345 (N + 1) b29 #[.slice a28 r25.length c28, .int .i64 0, .slice a258 l257.length c258, .slice a343 o338.2.2.length c343] 25 ∧ e = [(8, .int .i64 st234.1), (6, .slice a340 o338.1.length c340), (7, .map y34), (5, .pointer (some ⟨b29, 0, none⟩)), (4, .pointer (some ⟨b22, 0, none⟩)), (0, .pointer (some ⟨b16, 0, none⟩)), (1, .slice a17 p1.length c17)] ∧ w = s345.w) ?_ ?_
    ·rintro _ _ ⟨s345, a340, c340, a343, c343, m0, h340, h34, h17, h1, h2, h3, h4, h5, h6, h7, h8, h9, h10, h11, h12, h13, h14, h15, h28, h258, h343, bx16, bx22, bx29, rfl, rfl⟩
     exact X.blkE (X.blkN (X.seqN (E.reg (L.mv Y R R (L.bi Y R R R R (L.as Y R R (L.nil (X.sub (ih234 _ (oi hm).symm _ _ ⟨s345, a340, c340, a258, c258, a343, c343, m0, h340, h34, h17, h1, h2, h3, h4, h5, h6, h7, h8, h9, h10, h11, h12, h13, h14, h15, h28, h258, h343, bx16, bx22, bx29, R, R⟩) (Sub.rf R)))))))))
    intro K346
    refine E.iter (fun (st338 : Int × List Int × (List (Int × Int)) × (List (Int × Int × Int))) (e : List (Nat × Value)) (w : World) => ∃ (s344 : Sig) (a268 : Option Addr) (c268 : Nat) (a271 : Option Addr) (c271 : Nat), Mv (Up N No) s s344 ∧ RdL qI s344 a28 c28 r25 ∧ RowT qI s344 (N + 3) 3 a268 c268 st338.2.1 ∧ MapO kvI qI s344 (N + 2) 0 y34 c34 st338.2.2.1 ∧ RdL qI s344 a17 c17 p1 ∧ RdL qI s344 a1 c1 p0.1.1.1 ∧ RdL qI s344 a2 c2 p0.1.1.2.2.1 ∧ RdL qT s344 a3 c3 p0.1.1.2.2.2 ∧ MapD kvP qI s344 y4 c4 p0.1.2 ∧ RdL qI s344 a5 c5 p0.2.1.1.1 ∧ RdL qI s344 a6 c6 p0.2.1.1.2.2.1 ∧ RdL qT s344 a7 c7 p0.2.1.1.2.2.2 ∧ MapD kvP qI s344 y8 c8 p0.2.1.2 ∧ RdL qI s344 a9 c9 p0.2.2.1.1.1 ∧ RdL qI s344 a10 c10 p0.2.2.1.1.2.2.1 ∧ RdL qT s344 a11 c11 p0.2.2.1.1.2.2.2 ∧ MapD kvP qI s344 y12 c12 p0.2.2.1.2 ∧ RdL (rL qI) s344 a13 c13 p0.2.2.2.1 ∧ RdL qI s344 a14 c14 p0.2.2.2.2.1 ∧ RdL qI s344 a15 c15 p0.2.2.2.2.2 ∧ RowT qI s344 (N + 4) 3 a258 c258 l257 ∧ RowT qT s344 (N + 5) 97 a271 c271 st338.2.2.2 ∧ Bx s344 0 b16 #[.slice a1 p0.1.1.1.length c1, .int .i64 p0.1.1.2.1, .slice a2 p0.1.1.2.2.1.length c2, .slice a3 p0.1.1.2.2.2.length c3, .map y4, .slice a5 p0.2.1.1.1.length c5, .int .i64 p0.2.1.1.2.1, .slice a6 p0.2.1.1.2.2.1.length c6, .slice a7 p0.2.1.1.2.2.2.length c7, .map y8, .slice a9 p0.2.2.1.1.1.length c9, .int .i64 p0.2.2.1.1.2.1, .slice a10 p0.2.2.1.1.2.2.1.length c10, .slice a11 p0.2.2.1.1.2.2.2.length c11, .map y12, .slice a13 p0.2.2.2.1.length c13, .slice a14 p0.2.2.2.2.1.length c14, .slice a15 p0.2.2.2.2.2.length c15] 110 ∧ Bx s344 (N + 0) b22 #[.slice none 0 0, .int .i64 0, .slice none 0 0, .slice none 0 0, .map none] 108 ∧ Bx s344 (N + 1) b29 #[.slice a28 r25.length c28, .int .i64 0, .slice a258 l257.length c258, .slice a271 st338.2.2.2.length c271] 25 ∧ e = [(68, .int .i64 st338.1), (67, .int .i64 (r25.length : Int)), (66, .slice a28 r25.length c28), (9, .int .i64 r263), (8, .int .i64 st234.1), (6, .slice a268 st338.2.1.length c268), (7, .map y34), (5, .pointer (some ⟨b29, 0, none⟩)), (4, .pointer (some ⟨b22, 0, none⟩)), (0, .pointer (some ⟨b16, 0, none⟩)), (1, .slice a17 p1.length c17)] ∧ w = s344.w) eo338 ⟨s264, a44, c44, a49, c49, m0, h28, h44, h34, h17, h1, h2, h3, h4, h5, h6, h7, h8, h9, h10, h11, h12, h13, h14, h15, h258, h49, bx16, bx22, bx29, R, R⟩ (Sub.rf R) ?_
    rintro st338 res338 hm ih338 ho338 _ _ ⟨s344, a268, c268, a271, c271, m0, h28, h268, h34, h17, h1, h2, h3, h4, h5, h6, h7, h8, h9, h10, h11, h12, h13, h14, h15, h258, h271, bx16, bx22, bx29, rfl, rfl⟩
    unfold m_scan_task_restricted_l2 at hm
    refine ER (L.bi Y R R R R (LN (E.seq ?_)))
    rcases ifS hm with ⟨hc, hm⟩ | ⟨hc, hm⟩
    ·refine E.cT R hc (E.skip (X.seqN (E.seqJ (fun e w => ∃ (s352 : Sig) (l347 : List Int) (l349 : List (Int × Int)) (l350 : List (Int × Int × Int)) (a348 : Option Addr) (c348 : Nat) (a351 : Option Addr) (c351 : Nat), m_scan_task_restricted_j3 st338 l347 l349 l350 = some res338 ∧ Mv (Up N No) s s352 ∧ RdL qI s352 a28 c28 r25 ∧ RowT qI s352 (N + 3) 3 a348 c348 l347 ∧ MapO kvI qI s352 (N + 2) 0 y34 c34 l349 ∧ RdL qI s352 a17 c17 p1 ∧ RdL qI s352 a1 c1 p0.1.1.1 ∧ RdL qI s352 a2 c2 p0.1.1.2.2.1 ∧ RdL qT s352 a3 c3 p0.1.1.2.2.2 ∧ MapD kvP qI s352 y4 c4 p0.1.2 ∧ RdL qI s352 a5 c5 p0.2.1.1.1 ∧ RdL qI s352 a6 c6 p0.2.1.1.2.2.1 ∧ RdL qT s352 a7 c7 p0.2.1.1.2.2.2 ∧ MapD kvP qI s352 y8 c8 p0.2.1.2 ∧ RdL qI s352 a9 c9 p0.2.2.1.1.1 ∧ RdL qI s352 a10 c10 p0.2.2.1.1.2.2.1 ∧ RdL qT s352 a11 c11 p0.2.2.1.1.2.2.2 ∧ MapD kvP qI s352 y12 c12 p0.2.2.1.2 ∧ RdL (rL qI) s352 a13 c13 p0.2.2.2.1 ∧ RdL qI s352 a14 c14 p0.2.2.2.2.1 ∧ RdL qI s352 a15 c15 p0.2.2.2.2.2 ∧ RowT qI s352 (N + 4) 3 a258 c258 l257 ∧ RowT qT s352 (N + 5) 97 a351 c351 l350 ∧ Bx s352 0 b16 #[.slice a1 p0.1.1.1.length c1, .int .i64 p0.1.1.2.1, .slice a2 p0.1.1.2.2.1.length c2, .slice a3 p0.1.1.2.2.2.length c3, .map y4, .slice a5 p0.2.1.1.1.length c5, .int .i64 p0.2.1.1.2.1, .slice a6 p0.2.1.1.2.2.1.length c6, .slice a7 p0.2.1.1.2.2.2.length c7, .map y8, .slice a9 p0.2.2.1.1.1.length c9, .int .i64 p0.2.2.1.1.2.1, .slice a10 p0.2.2.1.1.2.2.1.length c10, .slice a11 p0.2.2.1.1.2.2.2.length c11, .map y12, .slice a13 p0.2.2.2.1.length c13, .slice a14 p0.2.2.2.2.1.length c14, .slice a15 p0.2.2.2.2.2.length c15] 110 ∧ Bx s352 (N + 0) b22 #[.slice none 0 0, .int .i64 0, .slice none 0 0, .slice none 0 0, .map none] 108 ∧ Bx s352 (N + 1) b29 #[.slice a28 r25.length c28, .int .i64 0, .slice a258 l257.length c258, .slice a351 l350.length c351] 25 ∧ e = [(68, .int .i64 st338.1), (67, .int .i64 (r25.length : Int)), (66, .slice a28 r25.length c28), (9, .int .i64 r263), (8, .int .i64 st234.1), (6, .slice a348 l347.length c348), (7, .map y34), (5, .pointer (some ⟨b29, 0, none⟩)), (4, .pointer (some ⟨b22, 0, none⟩)), (0, .pointer (some ⟨b16, 0, none⟩)), (1, .slice a17 p1.length c17)] ∧ w = s352.w) ?_ ?_)))
     ·rintro _ _ ⟨s352, l347, l349, l350, a348, c348, a351, c351, hm, m0, h28, h348, h34, h17, h1, h2, h3, h4, h5, h6, h7, h8, h9, h10, h11, h12, h13, h14, h15, h258, h351, bx16, bx22, bx29, rfl, rfl⟩
      unfold m_scan_task_restricted_j3 at hm
      exact E.reg (L.bi Y R R R R (L.mv Y R R (L.nil (X.sub (ih338 _ (oi hm).symm _ _ ⟨s352, a348, c348, a351, c351, m0, h28, h348, h34, h17, h1, h2, h3, h4, h5, h6, h7, h8, h9, h10, h11, h12, h13, h14, h15, h258, h351, bx16, bx22, bx29, R, R⟩) (Sub.rf R)))))
     intro Jj353
     refine E.block (E.seq (E.reg ?_))
     obtain ⟨x354, ex354, hm⟩ := bindS hm
     refine L.ix (r := qI) sl22 h28 Y R R ex354 R fun b355 o355 cc355 me355 rd355 => ?_
     obtain rfl := rd355
     refine L.ld (j := 0) me355 nag3 Y R R R R (L.as Y R R (LN (E.seq ?_)))
     obtain ⟨x363, ex363, hm⟩ := bindS hm
     obtain ⟨r368, er368, hm⟩ := bindS hm
     refine E.draw [[], [0], [0, 1], [0, 1, 2], [], [], [4, 5], [4, 5, 6], [], [0, 1, 2, 3, 4, 5, 6, 7, 8], [0, 1, 2, 3, 4, 5, 6, 7, 8, 9]] (fun D e sx => Mv No s344 sx ∧ Sub [(11, .int .i64 x354), (68, .int .i64 st338.1), (67, .int .i64 (r25.length : Int)), (66, .slice a28 r25.length c28), (9, .int .i64 r263), (8, .int .i64 st234.1), (6, .slice a268 st338.2.1.length c268), (7, .map y34), (5, .pointer (some ⟨b29, 0, none⟩)), (4, .pointer (some ⟨b22, 0, none⟩)), (0, .pointer (some ⟨b16, 0, none⟩)), (1, .slice a17 p1.length c17)] e ∧ AllP [G D e 0 72 (.pointer (some ⟨b16, 0, none⟩)), G D e 1 73 (.pointer (some ⟨b16, 0, none⟩)), G D e 2 74 (.pointer (some ⟨b16, 10, none⟩)), G D e 3 75 (.agg #[.slice a9 p0.2.2.1.1.1.length c9, .int .i64 p0.2.2.1.1.2.1, .slice a10 p0.2.2.1.1.2.2.1.length c10, .slice a11 p0.2.2.1.1.2.2.2.length c11, .map y12]), G D e 4 76 (.slice a268 st338.2.1.length c268), G D e 5 77 (.int .i64 st234.1), D 6 = true → (∃ (b364 : Nat) (o364 : Nat), Env.get e 78 = some (.pointer (some ⟨b364, o364, none⟩)) ∧ Mem sx (N + 3) b364 o364 [.int .i64 x363] ∧ Spot a268 qI.sz (st234.1).toNat b364 o364), G D e 7 79 (.int .i64 x363), G D e 8 80 (.int .i64 x354), G D e 9 81 (.int .i64 r368), G D e 10 12 (.int .i64 r368)]) (by kernel_rfl) (by kernel_rfl) (by kernel_rfl) ?_ ?_ ?_
     ·intro sz mz
      exact ⟨mz, (Sub.rf R), nofun, nofun, nofun, nofun, nofun, nofun, nofun, nofun, nofun, nofun, nofun, trivial⟩
     ·refine ⟨?_, ?_, ?_, ?_, ?_, ?_, ?_, ?_, ?_, ?_, ?_, trivial⟩
      ·rintro D e s356 ⟨im, ib, i⟩ hk hf ha
       have kn := K1 (ib 0 _ R)
       exact kn.g (L.mv Y R R (L.nil (X.dk kn ⟨im, Sub.fresh ib R, i.u 0 (fun _ => R)⟩)))
      ·rintro D e s357 ⟨im, ib, i⟩ hk hf ha
       have kn := K1 ((i.p 0) (ha.at 0 R))
       exact kn.g (L.nc Y R R (L.nil (X.dk kn ⟨im, Sub.fresh ib R, i.u 1 (fun _ => R)⟩)))
      ·rintro D e s358 ⟨im, ib, i⟩ hk hf ha
       have kn := K1 ((i.p 1) (ha.at 1 R))
       exact kn.g (L.fa fa110_2 Y R R (L.nil (X.dk kn ⟨im, Sub.fresh ib R, i.u 2 (fun _ => R)⟩)))
      ·rintro D e s359 ⟨im, ib, i⟩ hk hf ha
       have bx16 := bx16.mv im no_No
       have kn := K1 ((i.p 2) (ha.at 2 R))
       exact kn.g (L.lg (j := 10) (cs := [.slice a9 p0.2.2.1.1.1.length c9, .int .i64 p0.2.2.1.1.2.1, .slice a10 p0.2.2.1.1.2.2.1.length c10, .slice a11 p0.2.2.1.1.2.2.2.length c11, .map y12]) bx16.mem ag108 Y R R R R R (L.nil (X.dk kn ⟨im, Sub.fresh ib R, i.u 3 (fun _ => R)⟩)))
      ·rintro D e s360 ⟨im, ib, i⟩ hk hf ha
       have kn := K1 (ib 6 _ R)
       exact kn.g (L.mv Y R R (L.nil (X.dk kn ⟨im, Sub.fresh ib R, i.u 4 (fun _ => R)⟩)))
      ·rintro D e s361 ⟨im, ib, i⟩ hk hf ha
       have kn := K1 (ib 8 _ R)
       exact kn.g (L.mv Y R R (L.nil (X.dk kn ⟨im, Sub.fresh ib R, i.u 5 (fun _ => R)⟩)))
      ·rintro D e s362 ⟨im, ib, i⟩ hk hf ha
       have h268 := h268.mv im no_No no_No
       have kn := K2 ((i.p 4) (ha.at 4 R)) ((i.p 5) (ha.at 5 R))
       refine kn.g (L.ir (r := qI) sl22 h268 Y R R ex363 R fun b364 o364 cc364 me364 rd364 sp364 => ?_)
       obtain rfl := rd364
       exact L.nil (X.dk kn ⟨im, Sub.fresh ib R, i.u 6 (fun _ => ⟨b364, o364, R, me364, sp364⟩)⟩)
      ·rintro D e s365 ⟨im, ib, i⟩ hk hf ha
       obtain ⟨b364, o364, g6_, me364, sp364⟩ := (i.p 6) (ha.at 6 R)
       have kn := K1 g6_
       exact kn.g (L.ld (j := 0) me364 nag3 Y R R R R (L.nil (X.dk kn ⟨im, Sub.fresh ib R, i.u 7 (fun _ => R)⟩)))
      ·rintro D e s366 ⟨im, ib, i⟩ hk hf ha
       have kn := K1 (ib 11 _ R)
       exact kn.g (L.mv Y R R (L.nil (X.dk kn ⟨im, Sub.fresh ib R, i.u 8 (fun _ => R)⟩)))
      ·rintro D e s367 ⟨im, ib, i⟩ hk hf ha
       have h9 := h9.mono im.z
       have h10 := h10.mono im.z
       have h11 := h11.mono im.z
       have h12 := h12.mono im.z
       have kn := K3 ((i.p 3) (ha.at 3 R)) ((i.p 7) (ha.at 7 R)) ((i.p 8) (ha.at 8 R))
       refine kn.g (L.ca cf106 R R Y R (m_scan_graph_to_c (s := s367) (p0 := p0.2.2.1) (p1 := x363) (p2 := x354) h9 h10 h11 h12 er368) R ?_)
       rintro _ s369 m370 rfl
       exact L.nil (X.dk kn ⟨im.trans m370.no, Sub.fresh ib R, (i.u 6 (fun z => let ⟨b364, o364, q, me364, sp364⟩ := (i.p 6) z; ⟨b364, o364, q, (me364.mv m370 no_No), sp364⟩)).u 9 (fun _ => R)⟩)
      rintro D e s371 ⟨im, ib, i⟩ hk hf ha
      have kn := K1 ((i.p 9) (ha.at 9 R))
      exact kn.g (L.as Y R R (L.nil (X.dk kn ⟨im, Sub.fresh ib R, i.u 10 (fun _ => R)⟩)))
     rintro D e s372 hD ⟨im, ib, i⟩
     have g10_ := (i.p 10) (hD 10 R)
     have h28 := h28.mono im.z
     have h268 := h268.mv im no_No no_No
     have h34 := h34.mv im no_No no_No
     have bx29 := bx29.mv im no_No
     have h258 := h258.mv im no_No no_No
     have h271 := h271.mv im no_No no_No
     have bx22 := bx22.mv im no_No
     have bx16 := bx16.mv im no_No
     have h1 := h1.mono im.z
     have h2 := h2.mono im.z
     have h3 := h3.mono im.z
     have h4 := h4.mono im.z
     have h5 := h5.mono im.z
     have h6 := h6.mono im.z
     have h7 := h7.mono im.z
     have h8 := h8.mono im.z
     have h9 := h9.mono im.z
     have h10 := h10.mono im.z
     have h11 := h11.mono im.z
     have h12 := h12.mono im.z
     have h13 := h13.mono im.z
     have h14 := h14.mono im.z
     have h15 := h15.mono im.z
     have h17 := h17.mono im.z
     have m0 := m0.trans im.no
     refine X.sub (e' := [(12, .int .i64 r368), (11, .int .i64 x354), (68, .int .i64 st338.1), (67, .int .i64 (r25.length : Int)), (66, .slice a28 r25.length c28), (9, .int .i64 r263), (8, .int .i64 st234.1), (6, .slice a268 st338.2.1.length c268), (7, .map y34), (5, .pointer (some ⟨b29, 0, none⟩)), (4, .pointer (some ⟨b22, 0, none⟩)), (0, .pointer (some ⟨b16, 0, none⟩)), (1, .slice a17 p1.length c17)]) ?_ (Sub.cons g10_ (Sub.cons (ib 11 _ R) (Sub.cons (ib 68 _ R) (Sub.cons (ib 67 _ R) (Sub.cons (ib 66 _ R) (Sub.cons (ib 9 _ R) (Sub.cons (ib 8 _ R) (Sub.cons (ib 6 _ R) (Sub.cons (ib 7 _ R) (Sub.cons (ib 5 _ R) (Sub.cons (ib 4 _ R) (Sub.cons (ib 0 _ R) (Sub.cons (ib 1 _ R) Sub.nil)))))))))))))
     refine X.seqN (E.seq (ER (L.mv Y R R (L.bi Y R R R R (L.mv Y R R ?_)))))
     obtain ⟨b373, eb373, hm⟩ := bindS hm
     refine L.cut 13 (fun e w => ∃ (s375 : Sig) (v374 : Bool), b373 = v374 ∧ Mv (Up N No) s s375 ∧ RdL qI s375 a28 c28 r25 ∧ RowT qI s375 (N + 3) 3 a268 c268 st338.2.1 ∧ MapO kvI qI s375 (N + 2) 0 y34 c34 st338.2.2.1 ∧ RdL qI s375 a17 c17 p1 ∧ RdL qI s375 a1 c1 p0.1.1.1 ∧ RdL qI s375 a2 c2 p0.1.1.2.2.1 ∧ RdL qT s375 a3 c3 p0.1.1.2.2.2 ∧ MapD kvP qI s375 y4 c4 p0.1.2 ∧ RdL qI s375 a5 c5 p0.2.1.1.1 ∧ RdL qI s375 a6 c6 p0.2.1.1.2.2.1 ∧ RdL qT s375 a7 c7 p0.2.1.1.2.2.2 ∧ MapD kvP qI s375 y8 c8 p0.2.1.2 ∧ RdL qI s375 a9 c9 p0.2.2.1.1.1 ∧ RdL qI s375 a10 c10 p0.2.2.1.1.2.2.1 ∧ RdL qT s375 a11 c11 p0.2.2.1.1.2.2.2 ∧ MapD kvP qI s375 y12 c12 p0.2.2.1.2 ∧ RdL (rL qI) s375 a13 c13 p0.2.2.2.1 ∧ RdL qI s375 a14 c14 p0.2.2.2.2.1 ∧ RdL qI s375 a15 c15 p0.2.2.2.2.2 ∧ RowT qI s375 (N + 4) 3 a258 c258 l257 ∧ RowT qT s375 (N + 5) 97 a271 c271 st338.2.2.2 ∧ Bx s375 0 b16 #[.slice a1 p0.1.1.1.length c1, .int .i64 p0.1.1.2.1, .slice a2 p0.1.1.2.2.1.length c2, .slice a3 p0.1.1.2.2.2.length c3, .map y4, .slice a5 p0.2.1.1.1.length c5, .int .i64 p0.2.1.1.2.1, .slice a6 p0.2.1.1.2.2.1.length c6, .slice a7 p0.2.1.1.2.2.2.length c7, .map y8, .slice a9 p0.2.2.1.1.1.length c9, .int .i64 p0.2.2.1.1.2.1, .slice a10 p0.2.2.1.1.2.2.1.length c10, .slice a11 p0.2.2.1.1.2.2.2.length c11, .map y12, .slice a13 p0.2.2.2.1.length c13, .slice a14 p0.2.2.2.2.1.length c14, .slice a15 p0.2.2.2.2.2.length c15] 110 ∧ Bx s375 (N + 0) b22 #[.slice none 0 0, .int .i64 0, .slice none 0 0, .slice none 0 0, .map none] 108 ∧ Bx s375 (N + 1) b29 #[.slice a28 r25.length c28, .int .i64 0, .slice a258 l257.length c258, .slice a271 st338.2.2.2.length c271] 25 ∧ e = (97, .bool v374) :: [(12, .int .i64 r368), (11, .int .i64 x354), (68, .int .i64 st338.1), (67, .int .i64 (r25.length : Int)), (66, .slice a28 r25.length c28), (9, .int .i64 r263), (8, .int .i64 st234.1), (6, .slice a268 st338.2.1.length c268), (7, .map y34), (5, .pointer (some ⟨b29, 0, none⟩)), (4, .pointer (some ⟨b22, 0, none⟩)), (0, .pointer (some ⟨b16, 0, none⟩)), (1, .slice a17 p1.length c17)] ∧ w = s375.w) ?_ ?_
     ·rintro _ _ ⟨s375, v374, rfl, m0, h28, h268, h34, h17, h1, h2, h3, h4, h5, h6, h7, h8, h9, h10, h11, h12, h13, h14, h15, h258, h271, bx16, bx22, bx29, rfl, rfl⟩
      refine L.nil (X.seqN ?_)
      rcases ifS hm with ⟨hc, hm⟩ | ⟨hc, hm⟩
      ·exact E.cT R hc (E.exit (X.seqX (X.blkE (X.sub (Jj353 _ _ ⟨s375, st338.2.1, st338.2.2.1, st338.2.2.2, a268, c268, a271, c271, hm, m0, h28, h268, h34, h17, h1, h2, h3, h4, h5, h6, h7, h8, h9, h10, h11, h12, h13, h14, h15, h258, h271, bx16, bx22, bx29, R, R⟩) (Sub.rf R)))))
      refine E.cF R hc (E.skip (X.seqN (E.seqJ (fun e w => ∃ (s379 : Sig) (l376 : List Int) (l378 : List (Int × Int)) (a377 : Option Addr) (c377 : Nat), m_scan_task_restricted_j4 st234 st338 x354 r368 l376 l378 = some res338 ∧ Mv (Up N No) s s379 ∧ RowT qI s379 (N + 3) 3 a377 c377 l376 ∧ RdL qI s379 a28 c28 r25 ∧ MapO kvI qI s379 (N + 2) 0 y34 c34 l378 ∧ RdL qI s379 a17 c17 p1 ∧ RdL qI s379 a1 c1 p0.1.1.1 ∧ RdL qI s379 a2 c2 p0.1.1.2.2.1 ∧ RdL qT s379 a3 c3 p0.1.1.2.2.2 ∧ MapD kvP qI s379 y4 c4 p0.1.2 ∧ RdL qI s379 a5 c5 p0.2.1.1.1 ∧ RdL qI s379 a6 c6 p0.2.1.1.2.2.1 ∧ RdL qT s379 a7 c7 p0.2.1.1.2.2.2 ∧ MapD kvP qI s379 y8 c8 p0.2.1.2 ∧ RdL qI s379 a9 c9 p0.2.2.1.1.1 ∧ RdL qI s379 a10 c10 p0.2.2.1.1.2.2.1 ∧ RdL qT s379 a11 c11 p0.2.2.1.1.2.2.2 ∧ MapD kvP qI s379 y12 c12 p0.2.2.1.2 ∧ RdL (rL qI) s379 a13 c13 p0.2.2.2.1 ∧ RdL qI s379 a14 c14 p0.2.2.2.2.1 ∧ RdL qI s379 a15 c15 p0.2.2.2.2.2 ∧ RowT qI s379 (N + 4) 3 a258 c258 l257 ∧ RowT qT s379 (N + 5) 97 a271 c271 st338.2.2.2 ∧ Bx s379 0 b16 #[.slice a1 p0.1.1.1.length c1, .int .i64 p0.1.1.2.1, .slice a2 p0.1.1.2.2.1.length c2, .slice a3 p0.1.1.2.2.2.length c3, .map y4, .slice a5 p0.2.1.1.1.length c5, .int .i64 p0.2.1.1.2.1, .slice a6 p0.2.1.1.2.2.1.length c6, .slice a7 p0.2.1.1.2.2.2.length c7, .map y8, .slice a9 p0.2.2.1.1.1.length c9, .int .i64 p0.2.2.1.1.2.1, .slice a10 p0.2.2.1.1.2.2.1.length c10, .slice a11 p0.2.2.1.1.2.2.2.length c11, .map y12, .slice a13 p0.2.2.2.1.length c13, .slice a14 p0.2.2.2.2.1.length c14, .slice a15 p0.2.2.2.2.2.length c15] 110 ∧ Bx s379 (N + 0) b22 #[.slice none 0 0, .int .i64 0, .slice none 0 0, .slice none 0 0, .map none] 108 ∧ Bx s379 (N + 1) b29 #[.slice a28 r25.length c28, .int .i64 0, .slice a258 l257.length c258, .slice a271 st338.2.2.2.length c271] 25 ∧ e = [(6, .slice a377 l376.length c377), (12, .int .i64 r368), (11, .int .i64 x354), (68, .int .i64 st338.1), (67, .int .i64 (r25.length : Int)), (66, .slice a28 r25.length c28), (9, .int .i64 r263), (8, .int .i64 st234.1), (7, .map y34), (5, .pointer (some ⟨b29, 0, none⟩)), (4, .pointer (some ⟨b22, 0, none⟩)), (0, .pointer (some ⟨b16, 0, none⟩)), (1, .slice a17 p1.length c17)] ∧ w = s379.w) ?_ ?_)))
      ·rintro _ _ ⟨s379, l376, l378, a377, c377, hm, m0, h377, h28, h34, h17, h1, h2, h3, h4, h5, h6, h7, h8, h9, h10, h11, h12, h13, h14, h15, h258, h271, bx16, bx22, bx29, rfl, rfl⟩
       unfold m_scan_task_restricted_j4 at hm
       refine E.reg (L.fa fa25_3 Y R R (L.ld (j := 3) bx29.mem nag23 Y R R R R (L.mv Y R R (L.mv Y R R (L.mv Y R R (L.mv Y R R (L.mi (k := r368) md181 h34.any Y R R R (L.bu (cs := [.int .i64 st234.1, .int .i64 x354, .int .i64 ((kget l378 r368).getD 0)]) pl97 Y R R R (L.bsE (k := 1) (cs := [.int .i64 st234.1, .int .i64 x354, .int .i64 ((kget l378 r368).getD 0)]) 0 bs23 (nb R) Y R R R R fun b381 s382 m383 bx381 => ?_)))))))))
       replace h271 := h271.mv m383 no_No no_No
       have h381 := Bx.rdL (r := qT) (xs := ([(st234.1, x354, ((kget l378 r368).getD 0))] : List (Int × Int × Int))) bx381 ⟨[.int .i64 st234.1, .int .i64 x354, .int .i64 ((kget l378 r368).getD 0)], _, R, ⟨[.int .i64 st234.1], [.int .i64 x354, .int .i64 ((kget l378 r368).getD 0)], R, R, ⟨[.int .i64 x354], [.int .i64 ((kget l378 r368).getD 0)], R, R, R⟩⟩, R⟩ (nb R)
       obtain ⟨x384, ex384, hm⟩ := bindS hm
       refine L.ap (r := qT) Tryz.underlying23 el97 R (tgp hN) h271 h381.wk Y R R ex384 R fun a385 c385 s386 m387 h385 => ?_
       replace bx29 := (bx29.mv m383 no_No).mv m387 (tq R)
       refine L.fa fa25_3 Y R R (L.st (c := [.slice a385 x384.length c385]) (cs' := #[.slice a28 r25.length c28, .int .i64 0, .slice a258 l257.length c258, .slice a385 x384.length c385]) bx29 nag23.sz Y R R R R R (nb R) R fun s388 m389 bx29 => ?_)
       replace m0 := ((m0.trans m383.no).trans (m387.one up)).trans (m389.one up)
       replace h17 := ((h17.mono m383.z).mono (m387.le (tg0 hN))).mono (m389.le (tg0 hN))
       replace h28 := ((h28.mono m383.z).mono (m387.le (tg0 hN))).mono (m389.le (tg0 hN))
       replace h377 := ((h377.mv m383 no_No no_No).mv m387 (tq R) (tg0 hN)).mv m389 (tq R) (tg0 hN)
       replace h34 := ((h34.mv m383 no_No no_No).mv m387 (tq R) (tg0 hN)).mv m389 (tq R) (tg0 hN)
       replace bx16 := ((bx16.mv m383 no_No).mv m387 (tg0 hN)).mv m389 (tg0 hN)
       replace h1 := ((h1.mono m383.z).mono (m387.le (tg0 hN))).mono (m389.le (tg0 hN))
       replace h2 := ((h2.mono m383.z).mono (m387.le (tg0 hN))).mono (m389.le (tg0 hN))
       replace h3 := ((h3.mono m383.z).mono (m387.le (tg0 hN))).mono (m389.le (tg0 hN))
       replace h4 := ((h4.mono m383.z).mono (m387.le (tg0 hN))).mono (m389.le (tg0 hN))
       replace h5 := ((h5.mono m383.z).mono (m387.le (tg0 hN))).mono (m389.le (tg0 hN))
       replace h6 := ((h6.mono m383.z).mono (m387.le (tg0 hN))).mono (m389.le (tg0 hN))
       replace h7 := ((h7.mono m383.z).mono (m387.le (tg0 hN))).mono (m389.le (tg0 hN))
       replace h8 := ((h8.mono m383.z).mono (m387.le (tg0 hN))).mono (m389.le (tg0 hN))
       replace h9 := ((h9.mono m383.z).mono (m387.le (tg0 hN))).mono (m389.le (tg0 hN))
       replace h10 := ((h10.mono m383.z).mono (m387.le (tg0 hN))).mono (m389.le (tg0 hN))
       replace h11 := ((h11.mono m383.z).mono (m387.le (tg0 hN))).mono (m389.le (tg0 hN))
       replace h12 := ((h12.mono m383.z).mono (m387.le (tg0 hN))).mono (m389.le (tg0 hN))
       replace h13 := ((h13.mono m383.z).mono (m387.le (tg0 hN))).mono (m389.le (tg0 hN))
       replace h14 := ((h14.mono m383.z).mono (m387.le (tg0 hN))).mono (m389.le (tg0 hN))
       replace h15 := ((h15.mono m383.z).mono (m387.le (tg0 hN))).mono (m389.le (tg0 hN))
       replace h258 := ((h258.mv m383 no_No no_No).mv m387 (tq R) (tg0 hN)).mv m389 (tq R) (tg0 hN)
       replace h385 := h385.mv m389 (tq R) (tg0 hN)
       replace bx22 := ((bx22.mv m383 no_No).mv m387 (tq R)).mv m389 (tq R)
       exact L.nil (X.blkN (X.sub (Jj353 _ _ ⟨s388, l376, l378, x384, a377, c377, a385, c385, hm, m0, h28, h377, h34, h17, h1, h2, h3, h4, h5, h6, h7, h8, h9, h10, h11, h12, h13, h14, h15, h258, h385, bx16, bx22, bx29, R, R⟩) (Sub.rf R)))
      intro Jj380
      refine ER (L.mv Y R R (L.mv Y R R (L.mi2 (k := r368) md181 h34.any Y R R R (L.mv Y R R (L.ex Y R R R (L.ex Y R R R (L.as Y R R (L.as Y R R (LN (ER (L.mv Y R R (L.not Y R R (L.nil (X.seqN ?_))))))))))))))
      rcases ifS hm with ⟨hc, hm⟩ | ⟨hc, hm⟩
      ·refine E.cT R hc (ER (L.mv Y R R (L.mv Y R R (L.mv Y R R (L.len sl22 Y R R (L.mu (k := r368) (v := (st338.2.1.length : Int)) md181 h34 R (tpos hN) (fun _ _ => eqI) Y R R R fun s390 m391 h34 => ?_))))))
       refine LN (E.reg (L.mv Y R R (L.mv Y R R (L.bsE (k := 1) (cs := [.int .i64 r368]) 0 bs22 (nb R) Y R R R R fun b392 s393 m394 bx392 => ?_))))
       replace h268 := (h268.mv m391 (tq R) (tg0 hN)).mv m394 no_No no_No
       have h392 := Bx.rdL (r := qI) (xs := ([r368] : List Int)) bx392 ⟨[.int .i64 r368], _, R, R, R⟩ (nb R)
       obtain ⟨x395, ex395, hm⟩ := bindS hm
       refine L.ap (r := qI) Tryz.underlying22 el3 R (tgp hN) h268 h392.wk Y R R ex395 R fun a396 c396 s397 m398 h396 => ?_
       replace m0 := ((m0.trans (m391.one up)).trans m394.no).trans (m398.one up)
       replace h17 := ((h17.mono (m391.le (tg0 hN))).mono m394.z).mono (m398.le (tg0 hN))
       replace h28 := ((h28.mono (m391.le (tg0 hN))).mono m394.z).mono (m398.le (tg0 hN))
       replace h34 := (h34.mv m394 no_No no_No).mv m398 (tq R) (tg0 hN)
       replace bx16 := ((bx16.mv m391 (tg0 hN)).mv m394 no_No).mv m398 (tg0 hN)
       replace h1 := ((h1.mono (m391.le (tg0 hN))).mono m394.z).mono (m398.le (tg0 hN))
       replace h2 := ((h2.mono (m391.le (tg0 hN))).mono m394.z).mono (m398.le (tg0 hN))
       replace h3 := ((h3.mono (m391.le (tg0 hN))).mono m394.z).mono (m398.le (tg0 hN))
       replace h4 := ((h4.mono (m391.le (tg0 hN))).mono m394.z).mono (m398.le (tg0 hN))
       replace h5 := ((h5.mono (m391.le (tg0 hN))).mono m394.z).mono (m398.le (tg0 hN))
       replace h6 := ((h6.mono (m391.le (tg0 hN))).mono m394.z).mono (m398.le (tg0 hN))
       replace h7 := ((h7.mono (m391.le (tg0 hN))).mono m394.z).mono (m398.le (tg0 hN))
       replace h8 := ((h8.mono (m391.le (tg0 hN))).mono m394.z).mono (m398.le (tg0 hN))
       replace h9 := ((h9.mono (m391.le (tg0 hN))).mono m394.z).mono (m398.le (tg0 hN))
       replace h10 := ((h10.mono (m391.le (tg0 hN))).mono m394.z).mono (m398.le (tg0 hN))
       replace h11 := ((h11.mono (m391.le (tg0 hN))).mono m394.z).mono (m398.le (tg0 hN))
       replace h12 := ((h12.mono (m391.le (tg0 hN))).mono m394.z).mono (m398.le (tg0 hN))
       replace h13 := ((h13.mono (m391.le (tg0 hN))).mono m394.z).mono (m398.le (tg0 hN))
       replace h14 := ((h14.mono (m391.le (tg0 hN))).mono m394.z).mono (m398.le (tg0 hN))
       replace h15 := ((h15.mono (m391.le (tg0 hN))).mono m394.z).mono (m398.le (tg0 hN))
       replace bx29 := ((bx29.mv m391 (tq R)).mv m394 no_No).mv m398 (tq R)
       replace h258 := ((h258.mv m391 (tq R) (tg0 hN)).mv m394 no_No no_No).mv m398 (tq R) (tg0 hN)
       replace h271 := ((h271.mv m391 (tq R) (tg0 hN)).mv m394 no_No no_No).mv m398 (tq R) (tg0 hN)
       replace bx22 := ((bx22.mv m391 (tq R)).mv m394 no_No).mv m398 (tq R)
       exact L.as Y R R (L.nil (X.sub (Jj380 _ _ ⟨s397, x395, (kput st338.2.2.1 r368 (st338.2.1.length : Int)), a396, c396, hm, m0, h396, h28, h34, h17, h1, h2, h3, h4, h5, h6, h7, h8, h9, h10, h11, h12, h13, h14, h15, h258, h271, bx16, bx22, bx29, R, R⟩) (Sub.rf R)))
      exact E.cF R hc (E.skip (X.sub (Jj380 _ _ ⟨s375, st338.2.1, st338.2.2.1, a268, c268, hm, m0, h268, h28, h34, h17, h1, h2, h3, h4, h5, h6, h7, h8, h9, h10, h11, h12, h13, h14, h15, h258, h271, bx16, bx22, bx29, R, R⟩) (Sub.rf R)))
     intro J399
     rcases ifS eb373 with ⟨hc, hm⟩ | ⟨hc, hm⟩
     ·exact L.know (d := 84) R hc (L.skip R R R R (L.skip R R R R (L.skip R R R R (L.skip R R R R (L.skipU R R R (L.skipU R R R (L.skipU R R R (L.skipU R R R (L.skipU R R R (L.skipU R R R (L.skipU R R R (L.skip R R R R (L.pkT Y R R R R (L.sb (J399 _ _ ⟨s372, true, (oi hm).symm, m0, h28, h268, h34, h17, h1, h2, h3, h4, h5, h6, h7, h8, h9, h10, h11, h12, h13, h14, h15, h258, h271, bx16, bx22, bx29, R, R⟩) R))))))))))))))
     refine L.know (d := 84) R hc (L.mv (Wt.mk R R) R R (L.mv (Wt.mk R R) R R (L.bi (Wt.mk R R) R R R R (L.mv (Wt.mk R R) R R ?_))))
     obtain ⟨b400, eb400, hm⟩ := bindS hm
     refine L.cut 8 (fun e w => ∃ (s402 : Sig) (v401 : Bool), b400 = v401 ∧ Mv (Up N No) s s402 ∧ RdL qI s402 a28 c28 r25 ∧ RowT qI s402 (N + 3) 3 a268 c268 st338.2.1 ∧ MapO kvI qI s402 (N + 2) 0 y34 c34 st338.2.2.1 ∧ RdL qI s402 a17 c17 p1 ∧ RdL qI s402 a1 c1 p0.1.1.1 ∧ RdL qI s402 a2 c2 p0.1.1.2.2.1 ∧ RdL qT s402 a3 c3 p0.1.1.2.2.2 ∧ MapD kvP qI s402 y4 c4 p0.1.2 ∧ RdL qI s402 a5 c5 p0.2.1.1.1 ∧ RdL qI s402 a6 c6 p0.2.1.1.2.2.1 ∧ RdL qT s402 a7 c7 p0.2.1.1.2.2.2 ∧ MapD kvP qI s402 y8 c8 p0.2.1.2 ∧ RdL qI s402 a9 c9 p0.2.2.1.1.1 ∧ RdL qI s402 a10 c10 p0.2.2.1.1.2.2.1 ∧ RdL qT s402 a11 c11 p0.2.2.1.1.2.2.2 ∧ MapD kvP qI s402 y12 c12 p0.2.2.1.2 ∧ RdL (rL qI) s402 a13 c13 p0.2.2.2.1 ∧ RdL qI s402 a14 c14 p0.2.2.2.2.1 ∧ RdL qI s402 a15 c15 p0.2.2.2.2.2 ∧ RowT qI s402 (N + 4) 3 a258 c258 l257 ∧ RowT qT s402 (N + 5) 97 a271 c271 st338.2.2.2 ∧ Bx s402 0 b16 #[.slice a1 p0.1.1.1.length c1, .int .i64 p0.1.1.2.1, .slice a2 p0.1.1.2.2.1.length c2, .slice a3 p0.1.1.2.2.2.length c3, .map y4, .slice a5 p0.2.1.1.1.length c5, .int .i64 p0.2.1.1.2.1, .slice a6 p0.2.1.1.2.2.1.length c6, .slice a7 p0.2.1.1.2.2.2.length c7, .map y8, .slice a9 p0.2.2.1.1.1.length c9, .int .i64 p0.2.2.1.1.2.1, .slice a10 p0.2.2.1.1.2.2.1.length c10, .slice a11 p0.2.2.1.1.2.2.2.length c11, .map y12, .slice a13 p0.2.2.2.1.length c13, .slice a14 p0.2.2.2.2.1.length c14, .slice a15 p0.2.2.2.2.2.length c15] 110 ∧ Bx s402 (N + 0) b22 #[.slice none 0 0, .int .i64 0, .slice none 0 0, .slice none 0 0, .map none] 108 ∧ Bx s402 (N + 1) b29 #[.slice a28 r25.length c28, .int .i64 0, .slice a258 l257.length c258, .slice a271 st338.2.2.2.length c271] 25 ∧ e = (96, .bool v401) :: [(84, .bool false), (12, .int .i64 r368), (11, .int .i64 x354), (68, .int .i64 st338.1), (67, .int .i64 (r25.length : Int)), (66, .slice a28 r25.length c28), (9, .int .i64 r263), (8, .int .i64 st234.1), (6, .slice a268 st338.2.1.length c268), (7, .map y34), (5, .pointer (some ⟨b29, 0, none⟩)), (4, .pointer (some ⟨b22, 0, none⟩)), (0, .pointer (some ⟨b16, 0, none⟩)), (1, .slice a17 p1.length c17)] ∧ w = s402.w) ?_ ?_
     ·rintro _ _ ⟨s402, v401, rfl, m0, h28, h268, h34, h17, h1, h2, h3, h4, h5, h6, h7, h8, h9, h10, h11, h12, h13, h14, h15, h258, h271, bx16, bx22, bx29, rfl, rfl⟩
      exact L.pkF Y R R R R (L.sb (J399 _ _ ⟨s402, b400, (oi hm).symm, m0, h28, h268, h34, h17, h1, h2, h3, h4, h5, h6, h7, h8, h9, h10, h11, h12, h13, h14, h15, h258, h271, bx16, bx22, bx29, R, R⟩) R)
     intro J403
     rcases ifS eb400 with ⟨hc, hm⟩ | ⟨hc, hm⟩
     ·refine L.know (d := 88) R hc (L.mv (Wt.mk R R) R R (L.nc (Wt.mk R R) R R (L.fa fa110_4 (Wt.mk R R) R R (L.ld (j := 16) bx16.mem nag22 (Wt.mk R R) R R R R (L.mv (Wt.mk R R) R R ?_)))))
      obtain ⟨r404, er404, hm⟩ := bindS hm
      refine L.ca cf68 R R (Wt.mk R R) R (m_alphabet_Contains_c (s := s372) (p0 := p0.2.2.2.2.1) (p1 := x354) h14 er404) R ?_
      rintro _ s405 m406 rfl
      replace m0 := m0.trans m406.no
      replace h17 := h17.mono m406.z
      replace h28 := h28.mono m406.z
      replace h268 := h268.mv m406 no_No no_No
      replace h34 := h34.mv m406 no_No no_No
      replace bx16 := bx16.mv m406 no_No
      replace h1 := h1.mono m406.z
      replace h2 := h2.mono m406.z
      replace h3 := h3.mono m406.z
      replace h4 := h4.mono m406.z
      replace h5 := h5.mono m406.z
      replace h6 := h6.mono m406.z
      replace h7 := h7.mono m406.z
      replace h8 := h8.mono m406.z
      replace h9 := h9.mono m406.z
      replace h10 := h10.mono m406.z
      replace h11 := h11.mono m406.z
      replace h12 := h12.mono m406.z
      replace h13 := h13.mono m406.z
      replace h14 := h14.mono m406.z
      replace h15 := h15.mono m406.z
      replace bx29 := bx29.mv m406 no_No
      replace h258 := h258.mv m406 no_No no_No
      replace h271 := h271.mv m406 no_No no_No
      replace bx22 := bx22.mv m406 no_No
      exact L.not (Wt.mk R R) R R (L.pkT (Wt.mk R R) R R R R (L.sb (J403 _ _ ⟨s405, (!r404), (oi hm).symm, m0, h28, h268, h34, h17, h1, h2, h3, h4, h5, h6, h7, h8, h9, h10, h11, h12, h13, h14, h15, h258, h271, bx16, bx22, bx29, R, R⟩) R))
     exact L.know (d := 88) R hc (L.skip R R R R (L.skip R R R R (L.skip R R R R (L.skip R R R R (L.skip R R R R (L.skip R R R R (L.skip R R R R (L.pkF (Wt.mk R R) R R R R (L.sb (J403 _ _ ⟨s372, false, (oi hm).symm, m0, h28, h268, h34, h17, h1, h2, h3, h4, h5, h6, h7, h8, h9, h10, h11, h12, h13, h14, h15, h258, h271, bx16, bx22, bx29, R, R⟩) R)))))))))
    refine E.cF R hc (E.exit (X.seqX (X.seqX ?_)))
    have hx := ho338 _ (oi hm).symm
    subst hx
    exact X.sub (K346 _ _ ⟨s344, a268, c268, a271, c271, m0, h268, h34, h17, h1, h2, h3, h4, h5, h6, h7, h8, h9, h10, h11, h12, h13, h14, h15, h28, h258, h271, bx16, bx22, bx29, R, R⟩) (Sub.rf R)
   intro Jj260
   refine E.seq ?_
   obtain ⟨x416, ex416, hm⟩ := bindS hm
   obtain ⟨r420, er420, hm⟩ := bindS hm
   refine E.draw [[], [0], [0, 1], [0, 1, 2], [0, 1, 2, 3], [0, 1, 2, 3, 4], [], [], [6, 7], [6, 7, 8], [0, 1, 2, 3, 4, 5, 6, 7, 8, 9]] (fun D e sx => Mv No s241 sx ∧ Sub [(8, .int .i64 st234.1), (6, .slice a44 st234.2.1.length c44), (7, .map y34), (5, .pointer (some ⟨b29, 0, none⟩)), (4, .pointer (some ⟨b22, 0, none⟩)), (0, .pointer (some ⟨b16, 0, none⟩)), (1, .slice a17 p1.length c17)] e ∧ AllP [G D e 0 41 (.pointer (some ⟨b16, 0, none⟩)), G D e 1 42 (.pointer (some ⟨b16, 0, none⟩)), G D e 2 43 (.pointer (some ⟨b16, 10, none⟩)), G D e 3 44 (.pointer (some ⟨b16, 10, none⟩)), G D e 4 45 (.pointer (some ⟨b16, 12, none⟩)), G D e 5 46 (.slice a10 p0.2.2.1.1.2.2.1.length c10), G D e 6 47 (.slice a44 st234.2.1.length c44), G D e 7 48 (.int .i64 st234.1), D 8 = true → (∃ (b417 : Nat) (o417 : Nat), Env.get e 49 = some (.pointer (some ⟨b417, o417, none⟩)) ∧ Mem sx (N + 3) b417 o417 [.int .i64 x416] ∧ Spot a44 qI.sz (st234.1).toNat b417 o417), G D e 9 50 (.int .i64 x416), G D e 10 51 (.bool r420)]) (by kernel_rfl) (by kernel_rfl) (by kernel_rfl) ?_ ?_ ?_
   ·intro sz mz
    exact ⟨mz, (Sub.rf R), nofun, nofun, nofun, nofun, nofun, nofun, nofun, nofun, nofun, nofun, nofun, trivial⟩
   ·refine ⟨?_, ?_, ?_, ?_, ?_, ?_, ?_, ?_, ?_, ?_, ?_, trivial⟩
    ·rintro D e s407 ⟨im, ib, i⟩ hk hf ha
     have kn := K1 (ib 0 _ R)
     exact kn.g (L.mv Y R R (L.nil (X.dk kn ⟨im, Sub.fresh ib R, i.u 0 (fun _ => R)⟩)))
    ·rintro D e s408 ⟨im, ib, i⟩ hk hf ha
     have kn := K1 ((i.p 0) (ha.at 0 R))
     exact kn.g (L.nc Y R R (L.nil (X.dk kn ⟨im, Sub.fresh ib R, i.u 1 (fun _ => R)⟩)))
    ·rintro D e s409 ⟨im, ib, i⟩ hk hf ha
     have kn := K1 ((i.p 1) (ha.at 1 R))
     exact kn.g (L.fa fa110_2 Y R R (L.nil (X.dk kn ⟨im, Sub.fresh ib R, i.u 2 (fun _ => R)⟩)))
    ·rintro D e s410 ⟨im, ib, i⟩ hk hf ha
     have kn := K1 ((i.p 2) (ha.at 2 R))
     exact kn.g (L.fa fa108_0 Y R R (L.nil (X.dk kn ⟨im, Sub.fresh ib R, i.u 3 (fun _ => R)⟩)))
    ·rintro D e s411 ⟨im, ib, i⟩ hk hf ha
     have kn := K1 ((i.p 3) (ha.at 3 R))
     exact kn.g (L.fa fa25_2 Y R R (L.nil (X.dk kn ⟨im, Sub.fresh ib R, i.u 4 (fun _ => R)⟩)))
    ·rintro D e s412 ⟨im, ib, i⟩ hk hf ha
     have bx16 := bx16.mv im no_No
     have kn := K1 ((i.p 4) (ha.at 4 R))
     exact kn.g (L.ld (j := 12) bx16.mem nag22 Y R R R R (L.nil (X.dk kn ⟨im, Sub.fresh ib R, i.u 5 (fun _ => R)⟩)))
    ·rintro D e s413 ⟨im, ib, i⟩ hk hf ha
     have kn := K1 (ib 6 _ R)
     exact kn.g (L.mv Y R R (L.nil (X.dk kn ⟨im, Sub.fresh ib R, i.u 6 (fun _ => R)⟩)))
    ·rintro D e s414 ⟨im, ib, i⟩ hk hf ha
     have kn := K1 (ib 8 _ R)
     exact kn.g (L.mv Y R R (L.nil (X.dk kn ⟨im, Sub.fresh ib R, i.u 7 (fun _ => R)⟩)))
    ·rintro D e s415 ⟨im, ib, i⟩ hk hf ha
     have h44 := h44.mv im no_No no_No
     have kn := K2 ((i.p 6) (ha.at 6 R)) ((i.p 7) (ha.at 7 R))
     refine kn.g (L.ir (r := qI) sl22 h44 Y R R ex416 R fun b417 o417 cc417 me417 rd417 sp417 => ?_)
     obtain rfl := rd417
     exact L.nil (X.dk kn ⟨im, Sub.fresh ib R, i.u 8 (fun _ => ⟨b417, o417, R, me417, sp417⟩)⟩)
    ·rintro D e s418 ⟨im, ib, i⟩ hk hf ha
     obtain ⟨b417, o417, g8_, me417, sp417⟩ := (i.p 8) (ha.at 8 R)
     have kn := K1 g8_
     exact kn.g (L.ld (j := 0) me417 nag3 Y R R R R (L.nil (X.dk kn ⟨im, Sub.fresh ib R, i.u 9 (fun _ => R)⟩)))
    rintro D e s419 ⟨im, ib, i⟩ hk hf ha
    have h10 := h10.mono im.z
    have kn := K2 ((i.p 5) (ha.at 5 R)) ((i.p 9) (ha.at 9 R))
    refine kn.g (L.ca cf68 R R Y R (m_alphabet_Contains_c (s := s419) (p0 := p0.2.2.1.1.2.2.1) (p1 := x416) h10 er420) R ?_)
    rintro _ s421 m422 rfl
    exact L.nil (X.dk kn ⟨im.trans m422.no, Sub.fresh ib R, (i.u 8 (fun z => let ⟨b417, o417, q, me417, sp417⟩ := (i.p 8) z; ⟨b417, o417, q, (me417.mv m422 no_No), sp417⟩)).u 10 (fun _ => R)⟩)
   rintro D e s423 hD ⟨im, ib, i⟩
   have g10_ := (i.p 10) (hD 10 R)
   have h44 := h44.mv im no_No no_No
   have h34 := h34.mv im no_No no_No
   have bx29 := bx29.mv im no_No
   have h28 := h28.mono im.z
   have h47 := h47.mv im no_No no_No
   have h49 := h49.mv im no_No no_No
   have bx22 := bx22.mv im no_No
   have bx16 := bx16.mv im no_No
   have h1 := h1.mono im.z
   have h2 := h2.mono im.z
   have h3 := h3.mono im.z
   have h4 := h4.mono im.z
   have h5 := h5.mono im.z
   have h6 := h6.mono im.z
   have h7 := h7.mono im.z
   have h8 := h8.mono im.z
   have h9 := h9.mono im.z
   have h10 := h10.mono im.z
   have h11 := h11.mono im.z
   have h12 := h12.mono im.z
   have h13 := h13.mono im.z
   have h14 := h14.mono im.z
   have h15 := h15.mono im.z
   have h17 := h17.mono im.z
   have m0 := m0.trans im.no
   refine X.sub (e' := [(51, .bool r420), (8, .int .i64 st234.1), (6, .slice a44 st234.2.1.length c44), (7, .map y34), (5, .pointer (some ⟨b29, 0, none⟩)), (4, .pointer (some ⟨b22, 0, none⟩)), (0, .pointer (some ⟨b16, 0, none⟩)), (1, .slice a17 p1.length c17)]) ?_ (Sub.cons g10_ (Sub.cons (ib 8 _ R) (Sub.cons (ib 6 _ R) (Sub.cons (ib 7 _ R) (Sub.cons (ib 5 _ R) (Sub.cons (ib 4 _ R) (Sub.cons (ib 0 _ R) (Sub.cons (ib 1 _ R) Sub.nil))))))))
   refine X.seqN ?_
   rcases ifS hm with ⟨hc, hm⟩ | ⟨hc, hm⟩
   ·refine E.cT R hc (E.reg (L.fa fa25_2 Y R R (L.ld (j := 2) bx29.mem nag22 Y R R R R (L.mv Y R R (L.bsE (k := 1) (cs := [.int .i64 st234.1]) 0 bs22 (nb R) Y R R R R fun b424 s425 m426 bx424 => ?_)))))
    replace h47 := h47.mv m426 no_No no_No
    have h424 := Bx.rdL (r := qI) (xs := ([st234.1] : List Int)) bx424 ⟨[.int .i64 st234.1], _, R, R, R⟩ (nb R)
    obtain ⟨x427, ex427, hm⟩ := bindS hm
    refine L.ap (r := qI) Tryz.underlying22 el3 R (tgp hN) h47 h424.wk Y R R ex427 R fun a428 c428 s429 m430 h428 => ?_
    replace bx29 := (bx29.mv m426 no_No).mv m430 (tq R)
    refine L.fa fa25_2 Y R R (L.st (c := [.slice a428 x427.length c428]) (cs' := #[.slice a28 r25.length c28, .int .i64 0, .slice a428 x427.length c428, .slice a49 st234.2.2.2.2.length c49]) bx29 nag22.sz Y R R R R R (nb R) R fun s431 m432 bx29 => ?_)
    replace m0 := ((m0.trans m426.no).trans (m430.one up)).trans (m432.one up)
    replace h17 := ((h17.mono m426.z).mono (m430.le (tg0 hN))).mono (m432.le (tg0 hN))
    replace h44 := ((h44.mv m426 no_No no_No).mv m430 (tq R) (tg0 hN)).mv m432 (tq R) (tg0 hN)
    replace h34 := ((h34.mv m426 no_No no_No).mv m430 (tq R) (tg0 hN)).mv m432 (tq R) (tg0 hN)
    replace bx16 := ((bx16.mv m426 no_No).mv m430 (tg0 hN)).mv m432 (tg0 hN)
    replace h1 := ((h1.mono m426.z).mono (m430.le (tg0 hN))).mono (m432.le (tg0 hN))
    replace h2 := ((h2.mono m426.z).mono (m430.le (tg0 hN))).mono (m432.le (tg0 hN))
    replace h3 := ((h3.mono m426.z).mono (m430.le (tg0 hN))).mono (m432.le (tg0 hN))
    replace h4 := ((h4.mono m426.z).mono (m430.le (tg0 hN))).mono (m432.le (tg0 hN))
    replace h5 := ((h5.mono m426.z).mono (m430.le (tg0 hN))).mono (m432.le (tg0 hN))
    replace h6 := ((h6.mono m426.z).mono (m430.le (tg0 hN))).mono (m432.le (tg0 hN))
    replace h7 := ((h7.mono m426.z).mono (m430.le (tg0 hN))).mono (m432.le (tg0 hN))
    replace h8 := ((h8.mono m426.z).mono (m430.le (tg0 hN))).mono (m432.le (tg0 hN))
    replace h9 := ((h9.mono m426.z).mono (m430.le (tg0 hN))).mono (m432.le (tg0 hN))
    replace h10 := ((h10.mono m426.z).mono (m430.le (tg0 hN))).mono (m432.le (tg0 hN))
    replace h11 := ((h11.mono m426.z).mono (m430.le (tg0 hN))).mono (m432.le (tg0 hN))
    replace h12 := ((h12.mono m426.z).mono (m430.le (tg0 hN))).mono (m432.le (tg0 hN))
    replace h13 := ((h13.mono m426.z).mono (m430.le (tg0 hN))).mono (m432.le (tg0 hN))
    replace h14 := ((h14.mono m426.z).mono (m430.le (tg0 hN))).mono (m432.le (tg0 hN))
    replace h15 := ((h15.mono m426.z).mono (m430.le (tg0 hN))).mono (m432.le (tg0 hN))
    replace bx22 := ((bx22.mv m426 no_No).mv m430 (tq R)).mv m432 (tq R)
    replace h28 := ((h28.mono m426.z).mono (m430.le (tg0 hN))).mono (m432.le (tg0 hN))
    replace h428 := h428.mv m432 (tq R) (tg0 hN)
    replace h49 := ((h49.mv m426 no_No no_No).mv m430 (tq R) (tg0 hN)).mv m432 (tq R) (tg0 hN)
    exact L.nil (X.sub (Jj260 _ _ ⟨s431, x427, a428, c428, hm, m0, h44, h34, h17, h1, h2, h3, h4, h5, h6, h7, h8, h9, h10, h11, h12, h13, h14, h15, h28, h428, h49, bx16, bx22, bx29, R, R⟩) (Sub.rf R))
   exact E.cF R hc (E.skip (X.sub (Jj260 _ _ ⟨s423, st234.2.2.2.1, a47, c47, hm, m0, h44, h34, h17, h1, h2, h3, h4, h5, h6, h7, h8, h9, h10, h11, h12, h13, h14, h15, h28, h47, h49, bx16, bx22, bx29, R, R⟩) (Sub.rf R)))
  refine E.cF R hc (E.exit (X.seqX (X.seqX ?_)))
  have hx := ho234 _ (oi hm).symm
  subst hx
  exact X.sub (K256 _ _ ⟨s241, a44, c44, a47, c47, a49, c49, m0, h44, h28, h47, h49, bx22, bx29, R, R⟩) (Sub.rf R)
 intro Jj41
 refine ER (L.mv Y R R (L.nc Y R R (L.fa fa110_2 Y R R (L.fa fa108_0 Y R R (L.fa fa25_1 Y R R (L.ld (j := 11) bx16.mem nag3 Y R R R R (L.bi Y R R R R (L.nil (X.seqN ?_)))))))))
 rcases ifS hm with ⟨hc, hm⟩ | ⟨hc, hm⟩
 ·refine E.cT R hc (ER (L.mv Y R R (L.bsE (k := 1) (cs := [.int .i64 0]) 0 bs22 (nb R) Y R R R R fun b433 s434 m435 bx433 => ?_)))
  have h433 := Bx.rdL (r := qI) (xs := ([0] : List Int)) bx433 ⟨[.int .i64 0], _, R, R, R⟩ (nb R)
  obtain ⟨x436, ex436, hm⟩ := bindS hm
  refine L.ap (r := qI) Tryz.underlying22 el3 R (tgp hN) (RowT.nil (r := qI) (s := s434) (t := (N + 3)) (T := 3)) h433.wk Y R R ex436 R fun a437 c437 s438 m439 h437 => ?_
  replace h34 := (h34.mv m435 no_No no_No).mv m439 (tq R) (tg0 hN)
  refine L.as Y R R (LN (E.reg (L.mv Y R R (L.mu (k := 0) (v := 0) md181 h34 R (tpos hN) (fun _ _ => eqI) Y R R R fun s440 m441 h34 => ?_))))
  replace m0 := ((m0.trans m435.no).trans (m439.one up)).trans (m441.one up)
  replace h17 := ((h17.mono m435.z).mono (m439.le (tg0 hN))).mono (m441.le (tg0 hN))
  replace h437 := h437.mv m441 (tq R) (tg0 hN)
  replace bx16 := ((bx16.mv m435 no_No).mv m439 (tg0 hN)).mv m441 (tg0 hN)
  replace h1 := ((h1.mono m435.z).mono (m439.le (tg0 hN))).mono (m441.le (tg0 hN))
  replace h2 := ((h2.mono m435.z).mono (m439.le (tg0 hN))).mono (m441.le (tg0 hN))
  replace h3 := ((h3.mono m435.z).mono (m439.le (tg0 hN))).mono (m441.le (tg0 hN))
  replace h4 := ((h4.mono m435.z).mono (m439.le (tg0 hN))).mono (m441.le (tg0 hN))
  replace h5 := ((h5.mono m435.z).mono (m439.le (tg0 hN))).mono (m441.le (tg0 hN))
  replace h6 := ((h6.mono m435.z).mono (m439.le (tg0 hN))).mono (m441.le (tg0 hN))
  replace h7 := ((h7.mono m435.z).mono (m439.le (tg0 hN))).mono (m441.le (tg0 hN))
  replace h8 := ((h8.mono m435.z).mono (m439.le (tg0 hN))).mono (m441.le (tg0 hN))
  replace h9 := ((h9.mono m435.z).mono (m439.le (tg0 hN))).mono (m441.le (tg0 hN))
  replace h10 := ((h10.mono m435.z).mono (m439.le (tg0 hN))).mono (m441.le (tg0 hN))
  replace h11 := ((h11.mono m435.z).mono (m439.le (tg0 hN))).mono (m441.le (tg0 hN))
  replace h12 := ((h12.mono m435.z).mono (m439.le (tg0 hN))).mono (m441.le (tg0 hN))
  replace h13 := ((h13.mono m435.z).mono (m439.le (tg0 hN))).mono (m441.le (tg0 hN))
  replace h14 := ((h14.mono m435.z).mono (m439.le (tg0 hN))).mono (m441.le (tg0 hN))
  replace h15 := ((h15.mono m435.z).mono (m439.le (tg0 hN))).mono (m441.le (tg0 hN))
  replace bx22 := ((bx22.mv m435 no_No).mv m439 (tq R)).mv m441 (tq R)
  replace bx29 := ((bx29.mv m435 no_No).mv m439 (tq R)).mv m441 (tq R)
  replace h28 := ((h28.mono m435.z).mono (m439.le (tg0 hN))).mono (m441.le (tg0 hN))
  exact L.nil (X.sub (Jj41 _ _ ⟨s440, x436, (kput ([] : List (Int × Int)) 0 0), a437, c437, hm, m0, h437, h34, h17, h1, h2, h3, h4, h5, h6, h7, h8, h9, h10, h11, h12, h13, h14, h15, h28, bx16, bx22, bx29, R, R⟩) (Sub.rf R))
 exact E.cF R hc (E.skip (X.sub (Jj41 _ _ ⟨s35, ([] : List Int), ([] : List (Int × Int)), none, 0, hm, m0, RowT.nil, h34, h17, h1, h2, h3, h4, h5, h6, h7, h8, h9, h10, h11, h12, h13, h14, h15, h28, bx16, bx22, bx29, R, R⟩) (Sub.rf R)))

theorem nag4 : NAg Tryz.prog 4 := NAg.mk' Tryz.underlying4 rfl (by kernel_rfl)
theorem sl118 : Sl Tryz.prog 118 4 1 := Sl.mk' Tryz.underlying118 (by kernel_rfl)
theorem zr4 : Zr Tryz.prog rB 4 1 false := Zr.mk' (v := .bool false) (by kernel_rfl) (by kernel_rfl) (by kernel_rfl) (fun _ => rfl)
noncomputable def m_scan_graph_live_j1 (st124 : Int × Bool × List Bool) (b130 : Bool) (l131 : List Bool) : Option ((Int × Bool × List Bool) ⊕ (Bool × List Bool)) :=
 some (.inl (W (st124.1 + 1), b130, l131))
noncomputable def m_scan_graph_live_l3 (p0 : AutT × (List ((Int × Int) × Int))) (st124 : Int × Bool × List Bool) : Option ((Int × Bool × List Bool) ⊕ (Bool × List Bool)) :=
 if decide (st124.1 < (p0.1.2.2.2.length : Int)) then
  (idx p0.1.2.2.2 st124.1).bind fun x134 =>
  (idx st124.2.2 x134.2.2).bind fun x141 =>
  (if x141 then
   (idx st124.2.2 x134.1).bind fun x151 =>
   some (!x151)
  else
   some false).bind fun b143 =>
  if b143 then
   (idx st124.2.2 x134.1).bind fun x145 =>
   (upd st124.2.2 x134.1 true).bind fun x147 =>
   m_scan_graph_live_j1 st124 true x147
  else
   m_scan_graph_live_j1 st124 st124.2.1 st124.2.2
 else
  some (.inr st124.2)
noncomputable def m_scan_graph_live_l2 (p0 : AutT × (List ((Int × Int) × Int))) (st90 : Bool × List Bool) : Option ((Bool × List Bool) ⊕ (List Bool)) :=
 if st90.1 then
  (iter (m_scan_graph_live_l3 p0) (0, false, st90.2)).bind fun o124 =>
  some (.inl o124)
 else
  some (.inr st90.2)
noncomputable def m_scan_graph_live_l1 (p0 : AutT × (List ((Int × Int) × Int))) (st24 : Int × List Bool) : Option ((Int × List Bool) ⊕ (List Bool)) :=
 if decide (st24.1 < (p0.1.2.2.1.length : Int)) then
  (idx p0.1.2.2.1 st24.1).bind fun x154 =>
  (idx st24.2 x154).bind fun x156 =>
  (upd st24.2 x154 true).bind fun x158 =>
  some (.inl (W (st24.1 + 1), x158))
 else
  some (.inr st24.2)
noncomputable def m_scan_graph_live (p0 : AutT × (List ((Int × Int) × Int))) : Option (List Bool) :=
 (mkL p0.1.2.1 false).bind fun x9 =>
 (iter (m_scan_graph_live_l1 p0) (0, x9)).bind fun o24 =>
 (iter (m_scan_graph_live_l2 p0) (true, o24)).bind fun o90 =>
 some o90
theorem m_scan_graph_live_c {s : Sig} {p0 : AutT × (List ((Int × Int) × Int))} {a1 : Option Addr} {c1 : Nat} {a2 : Option Addr} {c2 : Nat} {a3 : Option Addr} {c3 : Nat} {y4 : Option Nat} {c4 : Nat} {u0 : Nat} {r : List Bool} (h1 : RdL qI s a1 c1 p0.1.1) (h2 : RdL qI s a2 c2 p0.1.2.2.1) (h3 : RdL qT s a3 c3 p0.1.2.2.2) (h4 : MapD kvP qI s y4 c4 p0.2) (hm : m_scan_graph_live p0 = some r) :
    Calls Tryz.prog 64 #[.agg #[.slice a1 p0.1.1.length c1, .int .i64 p0.1.2.1, .slice a2 p0.1.2.2.1.length c2, .slice a3 p0.1.2.2.2.length c3, .map y4]] s.w (RetS No s fun v s' => ∃ (a5 : Option Addr) (c5 : Nat), v = .slice a5 r.length c5 ∧ RowT rB s' u0 4 a5 c5 r) := by
 unfold m_scan_graph_live at hm
 obtain ⟨N, hN, hNb⟩ := s.fresh
 have m0 : Mv (Up N No) s s := Mv.refl _ _
 refine E.entry Tryz.func64 R Tryz.ntmps64 R R (ER (L.box (N + 0) Y R R R fun b6 s7 m8 bx6 => ?_))
 refine L.as Y R R (LN (ER (L.fa fa108_0 Y R R (L.fa fa25_1 Y R R (L.ld (j := 1) bx6.mem nag3 Y R R R R ?_)))))
 obtain ⟨x9, ex9, hm⟩ := bindS hm
 refine L.mk (z := false) (N + 1) Tryz.underlying118 zr4 R Y R R ex9 R fun b10 s11 m12 h10 => ?_
 replace m0 := (m0.trans m8.no).trans m12.no
 replace bx6 := bx6.mv m12 no_No
 replace h1 := (h1.mono m8.z).mono m12.z
 replace h2 := (h2.mono m8.z).mono m12.z
 replace h3 := (h3.mono m8.z).mono m12.z
 replace h4 := (h4.mono m8.z).mono m12.z
 refine L.as Y R R (LN (E.seq (ER (L.fa fa108_0 Y R R (L.fa fa25_2 Y R R (L.ld (j := 2) bx6.mem nag22 Y R R R R (L.len sl22 Y R R (L.mv Y R R (LN (E.block ?_))))))))))
 obtain ⟨o24, eo24, hm⟩ := bindS hm
 refine E.cut (x := .exit 0) (fun e w => ∃ (s27 : Sig), Mv (Up N No) s s27 ∧ RowT rB s27 (N + 1) 4 (some ⟨b10, 0, none⟩) x9.length o24 ∧ RdL qI s27 a1 c1 p0.1.1 ∧ RdL qI s27 a2 c2 p0.1.2.2.1 ∧ RdL qT s27 a3 c3 p0.1.2.2.2 ∧ MapD kvP qI s27 y4 c4 p0.2 ∧ Bx s27 (N + 0) b6 #[.slice a1 p0.1.1.length c1, .int .i64 p0.1.2.1, .slice a2 p0.1.2.2.1.length c2, .slice a3 p0.1.2.2.2.length c3, .map y4] 108 ∧ e = [(3, .slice (some ⟨b10, 0, none⟩) o24.length x9.length), (1, .pointer (some ⟨b6, 0, none⟩))] ∧ w = s27.w) ?_ ?_
 ·rintro _ _ ⟨s27, m0, h10, h1, h2, h3, h4, bx6, rfl, rfl⟩
  refine X.blkE (X.seqN (E.seq (ER (L.as Y R R (LN (E.block ?_))))))
  obtain ⟨o90, eo90, hm⟩ := bindS hm
  refine E.cut (x := .exit 2) (fun e w => ∃ (s93 : Sig), Mv (Up N No) s s93 ∧ RowT rB s93 (N + 1) 4 (some ⟨b10, 0, none⟩) x9.length o90 ∧ e = [(3, .slice (some ⟨b10, 0, none⟩) o90.length x9.length)] ∧ w = s93.w) ?_ ?_
  ·rintro _ _ ⟨s93, m0, h10, rfl, rfl⟩
   refine X.blkE (X.seqN (ER (L.mv Y R R (L.as Y R R (LN (E.ret ?_))))))
   obtain rfl := oi hm
   exact X.rt (.inl R) Tryz.results64 (Rs.tmp R Rs.nil) R ⟨_, (s93).ren N (fun k => cond (Nat.beq k 1) u0 (0)), R, R, m0.ren hNb, ⟨(some ⟨b10, 0, none⟩), x9.length, R, (h10.ren hN)⟩⟩
  intro K94
  refine E.iter (fun (st90 : Bool × List Bool) (e : List (Nat × Value)) (w : World) => ∃ (s92 : Sig), Mv (Up N No) s s92 ∧ RowT rB s92 (N + 1) 4 (some ⟨b10, 0, none⟩) x9.length st90.2 ∧ RdL qI s92 a1 c1 p0.1.1 ∧ RdL qI s92 a2 c2 p0.1.2.2.1 ∧ RdL qT s92 a3 c3 p0.1.2.2.2 ∧ MapD kvP qI s92 y4 c4 p0.2 ∧ Bx s92 (N + 0) b6 #[.slice a1 p0.1.1.length c1, .int .i64 p0.1.2.1, .slice a2 p0.1.2.2.1.length c2, .slice a3 p0.1.2.2.2.length c3, .map y4] 108 ∧ e = [(6, .bool st90.1), (3, .slice (some ⟨b10, 0, none⟩) st90.2.length x9.length), (1, .pointer (some ⟨b6, 0, none⟩))] ∧ w = s92.w) eo90 ⟨s27, m0, h10, h1, h2, h3, h4, bx6, R, R⟩ (Sub.rf R) ?_
  rintro st90 res90 hm ih90 ho90 _ _ ⟨s92, m0, h10, h1, h2, h3, h4, bx6, rfl, rfl⟩
  unfold m_scan_graph_live_l2 at hm
  refine E.seq (ER (L.mv Y R R (L.nil (X.seqN ?_))))
  rcases ifS hm with ⟨hc, hm⟩ | ⟨hc, hm⟩
  ·refine E.cT R hc (E.skip (X.seqN (E.block (ER (L.as Y R R (LN (ER (L.fa fa108_0 Y R R (L.fa fa25_3 Y R R (L.ld (j := 3) bx6.mem nag23 Y R R R R (L.len sl23 Y R R (L.mv Y R R (LN (E.block ?_))))))))))))))
   obtain ⟨o124, eo124, hm⟩ := bindS hm
   refine E.cut (x := .exit 4) (fun e w => ∃ (s128 : Sig), Mv (Up N No) s s128 ∧ RowT rB s128 (N + 1) 4 (some ⟨b10, 0, none⟩) x9.length o124.2 ∧ RdL qI s128 a1 c1 p0.1.1 ∧ RdL qI s128 a2 c2 p0.1.2.2.1 ∧ RdL qT s128 a3 c3 p0.1.2.2.2 ∧ MapD kvP qI s128 y4 c4 p0.2 ∧ Bx s128 (N + 0) b6 #[.slice a1 p0.1.1.length c1, .int .i64 p0.1.2.1, .slice a2 p0.1.2.2.1.length c2, .slice a3 p0.1.2.2.2.length c3, .map y4] 108 ∧ e = [(6, .bool o124.1), (3, .slice (some ⟨b10, 0, none⟩) o124.2.length x9.length), (1, .pointer (some ⟨b6, 0, none⟩))] ∧ w = s128.w) ?_ ?_
   ·rintro _ _ ⟨s128, m0, h10, h1, h2, h3, h4, bx6, rfl, rfl⟩
    exact X.blkE (X.blkN (X.sub (ih90 _ (oi hm).symm _ _ ⟨s128, m0, h10, h1, h2, h3, h4, bx6, R, R⟩) (Sub.rf R)))
   intro K129
   refine E.iter (fun (st124 : Int × Bool × List Bool) (e : List (Nat × Value)) (w : World) => ∃ (s127 : Sig), Mv (Up N No) s s127 ∧ RdL qT s127 a3 c3 p0.1.2.2.2 ∧ RowT rB s127 (N + 1) 4 (some ⟨b10, 0, none⟩) x9.length st124.2.2 ∧ RdL qI s127 a1 c1 p0.1.1 ∧ RdL qI s127 a2 c2 p0.1.2.2.1 ∧ MapD kvP qI s127 y4 c4 p0.2 ∧ Bx s127 (N + 0) b6 #[.slice a1 p0.1.1.length c1, .int .i64 p0.1.2.1, .slice a2 p0.1.2.2.1.length c2, .slice a3 p0.1.2.2.2.length c3, .map y4] 108 ∧ e = [(30, .int .i64 st124.1), (29, .int .i64 (p0.1.2.2.2.length : Int)), (28, .slice a3 p0.1.2.2.2.length c3), (6, .bool st124.2.1), (3, .slice (some ⟨b10, 0, none⟩) st124.2.2.length x9.length), (1, .pointer (some ⟨b6, 0, none⟩))] ∧ w = s127.w) eo124 ⟨s92, m0, h3, h10, h1, h2, h4, bx6, R, R⟩ (Sub.rf R) ?_
   rintro st124 res124 hm ih124 ho124 _ _ ⟨s127, m0, h3, h10, h1, h2, h4, bx6, rfl, rfl⟩
   unfold m_scan_graph_live_l3 at hm
   refine ER (L.bi Y R R R R (LN (E.seq ?_)))
   rcases ifS hm with ⟨hc, hm⟩ | ⟨hc, hm⟩
   ·refine E.cT R hc (E.skip (X.seqN (E.seqJ (fun e w => ∃ (s132 : Sig) (b130 : Bool) (l131 : List Bool), m_scan_graph_live_j1 st124 b130 l131 = some res124 ∧ Mv (Up N No) s s132 ∧ RowT rB s132 (N + 1) 4 (some ⟨b10, 0, none⟩) x9.length l131 ∧ RdL qT s132 a3 c3 p0.1.2.2.2 ∧ RdL qI s132 a1 c1 p0.1.1 ∧ RdL qI s132 a2 c2 p0.1.2.2.1 ∧ MapD kvP qI s132 y4 c4 p0.2 ∧ Bx s132 (N + 0) b6 #[.slice a1 p0.1.1.length c1, .int .i64 p0.1.2.1, .slice a2 p0.1.2.2.1.length c2, .slice a3 p0.1.2.2.2.length c3, .map y4] 108 ∧ e = [(6, .bool b130), (3, .slice (some ⟨b10, 0, none⟩) l131.length x9.length), (30, .int .i64 st124.1), (29, .int .i64 (p0.1.2.2.2.length : Int)), (28, .slice a3 p0.1.2.2.2.length c3), (1, .pointer (some ⟨b6, 0, none⟩))] ∧ w = s132.w) ?_ ?_)))
    ·rintro _ _ ⟨s132, b130, l131, hm, m0, h10, h3, h1, h2, h4, bx6, rfl, rfl⟩
     unfold m_scan_graph_live_j1 at hm
     exact E.reg (L.bi Y R R R R (L.mv Y R R (L.nil (X.sub (ih124 _ (oi hm).symm _ _ ⟨s132, m0, h3, h10, h1, h2, h4, bx6, R, R⟩) (Sub.rf R)))))
    intro Jj133
    refine E.block (E.seq (E.reg ?_))
    obtain ⟨x134, ex134, hm⟩ := bindS hm
    refine L.ix (r := qT) sl23 h3 Y R R ex134 R fun b135 o135 cc135 me135 rd135 => ?_
    obtain ⟨_, _, rfl, rfl, ⟨_, _, rfl, rfl, rfl⟩⟩ := rd135
    refine L.lg (j := 0) (cs := [.int .i64 x134.1, .int .i64 x134.2.1, .int .i64 x134.2.2]) me135 ag97 Y R R R R R (L.al (N + 2) zz97 R Y R fun b136 s137 m138 bx136 => ?_)
    refine L.st (c := [.int .i64 x134.1, .int .i64 x134.2.1, .int .i64 x134.2.2]) (cs' := #[.int .i64 x134.1, .int .i64 x134.2.1, .int .i64 x134.2.2]) bx136 ag97.sz Y R R R R R (nb R) R fun s139 m140 bx136 => ?_
    replace m0 := (m0.trans m138.no).trans (m140.one up)
    replace h10 := (h10.mv m138 no_No no_No).mv m140 (tq R) (tg0 hN)
    replace h3 := (h3.mono m138.z).mono (m140.le (tg0 hN))
    replace bx6 := (bx6.mv m138 no_No).mv m140 (tq R)
    replace h1 := (h1.mono m138.z).mono (m140.le (tg0 hN))
    replace h2 := (h2.mono m138.z).mono (m140.le (tg0 hN))
    replace h4 := (h4.mono m138.z).mono (m140.le (tg0 hN))
    refine LN (ER (L.mv Y R R (L.fa fa97_2 Y R R (L.ld (j := 2) bx136.mem nag3 Y R R R R ?_))))
    obtain ⟨x141, ex141, hm⟩ := bindS hm
    refine L.ir (r := rB) sl118 h10 Y R R ex141 R fun b142 o142 cc142 me142 rd142 sp142 => ?_
    obtain rfl := rd142
    refine L.ld (j := 0) me142 nag4 Y R R R R (L.mv Y R R ?_)
    obtain ⟨b143, eb143, hm⟩ := bindS hm
    refine L.cut 7 (fun e w => ∃ (v144 : Bool), b143 = v144 ∧ e = (46, .bool v144) :: [(8, .pointer (some ⟨b136, 0, none⟩)), (30, .int .i64 st124.1), (29, .int .i64 (p0.1.2.2.2.length : Int)), (28, .slice a3 p0.1.2.2.2.length c3), (6, .bool st124.2.1), (3, .slice (some ⟨b10, 0, none⟩) st124.2.2.length x9.length), (1, .pointer (some ⟨b6, 0, none⟩))] ∧ w = s139.w) ?_ ?_
    ·rintro _ _ ⟨v144, rfl, rfl, rfl⟩
     refine L.nil (X.seqN ?_)
     rcases ifS hm with ⟨hc, hm⟩ | ⟨hc, hm⟩
     ·refine E.cT R hc (E.reg (L.mv Y R R (L.fa fa97_0 Y R R (L.ld (j := 0) bx136.mem nag3 Y R R R R ?_))))
      obtain ⟨x145, ex145, hm⟩ := bindS hm
      refine L.ir (r := rB) sl118 h10 Y R R ex145 R fun b146 o146 cc146 me146 rd146 sp146 => ?_
      obtain rfl := rd146
      obtain ⟨x147, ex147, hm⟩ := bindS hm
      have elx147 := upd_len ex147
      refine L.su (fo := 0) (c := [.bool true]) (z := true) h10 sp146 ex145 ex147 (tgp hN) nag4.sz Y R R R R R R (fun c0 hc0 => by obtain rfl := hc0; exact R) fun s148 m149 h10 => ?_
      replace m0 := m0.trans (m149.one up)
      replace h3 := h3.mono (m149.le (tg0 hN))
      replace bx6 := bx6.mv m149 (tq R)
      replace h1 := h1.mono (m149.le (tg0 hN))
      replace h2 := h2.mono (m149.le (tg0 hN))
      replace h4 := h4.mono (m149.le (tg0 hN))
      exact L.reval (d := 3) R elx147 (L.as Y R R (L.nil (X.blkN (X.sub (Jj133 _ _ ⟨s148, true, x147, hm, m0, h10, h3, h1, h2, h4, bx6, R, R⟩) (Sub.rf R)))))
     exact E.cF R hc (E.skip (X.blkN (X.sub (Jj133 _ _ ⟨s139, st124.2.1, st124.2.2, hm, m0, h10, h3, h1, h2, h4, bx6, R, R⟩) (Sub.rf R))))
    intro J150
    rcases ifS eb143 with ⟨hc, hm⟩ | ⟨hc, hm⟩
    ·refine L.know (d := 39) R hc (L.mv (Wt.mk R R) R R (L.fa fa97_0 (Wt.mk R R) R R (L.ld (j := 0) bx136.mem nag3 (Wt.mk R R) R R R R ?_)))
     obtain ⟨x151, ex151, hm⟩ := bindS hm
     refine L.ir (r := rB) sl118 h10 (Wt.mk R R) R R ex151 R fun b152 o152 cc152 me152 rd152 sp152 => ?_
     obtain rfl := rd152
     exact L.ld (j := 0) me152 nag4 (Wt.mk R R) R R R R (L.not (Wt.mk R R) R R (L.pkT Y R R R R (L.sb (J150 _ _ ⟨(!x151), (oi hm).symm, R, R⟩) R)))
    exact L.know (d := 39) R hc (L.skip R R R R (L.skip R R R R (L.skip R R R R (L.skip R R R R (L.skip R R R R (L.skip R R R R (L.pkF Y R R R R (L.sb (J150 _ _ ⟨false, (oi hm).symm, R, R⟩) R))))))))
   refine E.cF R hc (E.exit (X.seqX (X.seqX ?_)))
   have hx := ho124 _ (oi hm).symm
   subst hx
   exact X.sub (K129 _ _ ⟨s127, m0, h10, h1, h2, h3, h4, bx6, R, R⟩) (Sub.rf R)
  refine E.cF R hc (E.exit (X.seqX (X.seqX ?_)))
  have hx := ho90 _ (oi hm).symm
  subst hx
  exact X.sub (K94 _ _ ⟨s92, m0, h10, R, R⟩) (Sub.rf R)
 intro K153
 refine E.iter (fun (st24 : Int × List Bool) (e : List (Nat × Value)) (w : World) => ∃ (s26 : Sig), Mv (Up N No) s s26 ∧ RdL qI s26 a2 c2 p0.1.2.2.1 ∧ RowT rB s26 (N + 1) 4 (some ⟨b10, 0, none⟩) x9.length st24.2 ∧ RdL qI s26 a1 c1 p0.1.1 ∧ RdL qT s26 a3 c3 p0.1.2.2.2 ∧ MapD kvP qI s26 y4 c4 p0.2 ∧ Bx s26 (N + 0) b6 #[.slice a1 p0.1.1.length c1, .int .i64 p0.1.2.1, .slice a2 p0.1.2.2.1.length c2, .slice a3 p0.1.2.2.2.length c3, .map y4] 108 ∧ e = [(17, .int .i64 st24.1), (16, .int .i64 (p0.1.2.2.1.length : Int)), (15, .slice a2 p0.1.2.2.1.length c2), (3, .slice (some ⟨b10, 0, none⟩) st24.2.length x9.length), (1, .pointer (some ⟨b6, 0, none⟩))] ∧ w = s26.w) eo24 ⟨s11, m0, h2, h10, h1, h3, h4, bx6, R, R⟩ (Sub.rf R) ?_
 rintro st24 res24 hm ih24 ho24 _ _ ⟨s26, m0, h2, h10, h1, h3, h4, bx6, rfl, rfl⟩
 unfold m_scan_graph_live_l1 at hm
 refine ER (L.bi Y R R R R (LN (E.seq ?_)))
 rcases ifS hm with ⟨hc, hm⟩ | ⟨hc, hm⟩
 ·refine E.cT R hc (E.skip (X.seqN (E.seq (E.block (E.seq (E.reg ?_))))))
  obtain ⟨x154, ex154, hm⟩ := bindS hm
  refine L.ix (r := qI) sl22 h2 Y R R ex154 R fun b155 o155 cc155 me155 rd155 => ?_
  obtain rfl := rd155
  refine L.ld (j := 0) me155 nag3 Y R R R R (L.as Y R R (LN (E.reg (L.mv Y R R (L.mv Y R R ?_)))))
  obtain ⟨x156, ex156, hm⟩ := bindS hm
  refine L.ir (r := rB) sl118 h10 Y R R ex156 R fun b157 o157 cc157 me157 rd157 sp157 => ?_
  obtain rfl := rd157
  obtain ⟨x158, ex158, hm⟩ := bindS hm
  have elx158 := upd_len ex158
  refine L.su (fo := 0) (c := [.bool true]) (z := true) h10 sp157 ex156 ex158 (tgp hN) nag4.sz Y R R R R R R (fun c0 hc0 => by obtain rfl := hc0; exact R) fun s159 m160 h10 => ?_
  replace m0 := m0.trans (m160.one up)
  replace h2 := h2.mono (m160.le (tg0 hN))
  replace bx6 := bx6.mv m160 (tq R)
  replace h1 := h1.mono (m160.le (tg0 hN))
  replace h3 := h3.mono (m160.le (tg0 hN))
  replace h4 := h4.mono (m160.le (tg0 hN))
  exact L.reval (d := 3) R elx158 (L.nil (X.blkN (X.seqN (E.reg (L.bi Y R R R R (L.mv Y R R (L.nil (X.sub (ih24 _ (oi hm).symm _ _ ⟨s159, m0, h2, h10, h1, h3, h4, bx6, R, R⟩) (Sub.rf R)))))))))
 refine E.cF R hc (E.exit (X.seqX (X.seqX ?_)))
 have hx := ho24 _ (oi hm).symm
 subst hx
 exact X.sub (K153 _ _ ⟨s26, m0, h10, h1, h2, h3, h4, bx6, R, R⟩) (Sub.rf R)

end Go.Proofs.YtidakgbibobbdaaGreatDoor

namespace Go.Proofs.YtidakgbibobbdaaGreatDoor
open Go Go.RowKit
noncomputable def m_slices_Index_bool_l1 (p0 : List Bool) (p1 : Bool) (st6 : Int) : Option (Int ⊕ (Unit ⊕ Int)) :=
 if decide (st6 < (p0.length : Int)) then
  (idx p0 st6).bind fun x15 =>
  if (p1 == x15) then
   some (.inr (.inr (st6)))
  else
   some (.inl (W (st6 + 1)))
 else
  some (.inr (.inl ()))
noncomputable def m_slices_Index_bool (p0 : List Bool) (p1 : Bool) : Option Int :=
 (iter (m_slices_Index_bool_l1 p0 p1) 0).bind fun o6 =>
 match o6 with
 | .inl u9 =>
  some (-1)
 | .inr (u12) =>
  some u12
theorem m_slices_Index_bool_c {s : Sig} {p0 : List Bool} {p1 : Bool} {a1 : Option Addr} {c1 : Nat} {r : Int} (h1 : RdL rB s a1 c1 p0) (hm : m_slices_Index_bool p0 p1 = some r) :
    Calls Tryz.prog 63 #[.slice a1 p0.length c1, .bool p1] s.w (RetS No s fun v s' => v = .int .i64 r) := by
 unfold m_slices_Index_bool at hm
 obtain ⟨N, hN, hNb⟩ := s.fresh
 have m0 : Mv (Up N No) s s := Mv.refl _ _
 refine E.entry Tryz.func63 R Tryz.ntmps63 R R (ER (L.as Y R R (LN (E.seq (ER (L.mv Y R R (L.len sl118 Y R R (L.mv Y R R (LN (E.block ?_))))))))))
 obtain ⟨o6, eo6, hm⟩ := bindS hm
 refine E.cut (x := .exit 0) (fun e w => ∃ (s10 : Sig) (u9 : Unit), o6 = .inl u9 ∧ Mv (Up N No) s s10 ∧ e = [] ∧ w = s10.w) ?_ ?_
 ·rintro _ _ ⟨s10, u9, rfl, m0, rfl, rfl⟩
  dsimp only at hm
  refine X.blkE (X.seqN (ER (L.as Y R R (LN (E.ret ?_)))))
  obtain rfl := oi hm
  exact X.rt (.inl R) Tryz.results63 (Rs.tmp R Rs.nil) R ⟨_, (s10).ren N (fun _ => 0), R, R, m0.ren hNb, R⟩
 intro K11
 refine E.cut (x := .ret) (fun e w => ∃ (s13 : Sig) (u12 : Int), o6 = .inr (u12) ∧ Mv (Up N No) s s13 ∧ e = [(4, .int .i64 u12)] ∧ w = s13.w) ?_ ?_
 ·rintro _ _ ⟨s13, u12, rfl, m0, rfl, rfl⟩
  dsimp only at hm
  refine X.blkR (X.seqR ?_)
  obtain rfl := oi hm
  exact X.rt (.inl R) Tryz.results63 (Rs.tmp R Rs.nil) R ⟨_, (s13).ren N (fun _ => 0), R, R, m0.ren hNb, R⟩
 intro K14
 refine E.iter (fun (st6 : Int) (e : List (Nat × Value)) (w : World) => ∃ (s8 : Sig), Mv (Up N No) s s8 ∧ RdL rB s8 a1 c1 p0 ∧ e = [(8, .int .i64 st6), (7, .int .i64 (p0.length : Int)), (0, .slice a1 p0.length c1), (1, .bool p1)] ∧ w = s8.w) eo6 ⟨s, m0, h1, R, R⟩ (Sub.rf R) ?_
 rintro st6 res6 hm ih6 ho6 _ _ ⟨s8, m0, h1, rfl, rfl⟩
 unfold m_slices_Index_bool_l1 at hm
 refine ER (L.bi Y R R R R (LN (E.seq ?_)))
 rcases ifS hm with ⟨hc, hm⟩ | ⟨hc, hm⟩
 ·refine E.cT R hc (E.skip (X.seqN (E.seq (E.block (ER (L.mv Y R R (L.as Y R R (LN (ER (L.mv Y R R (L.mv Y R R (L.mv Y R R ?_))))))))))))
  obtain ⟨x15, ex15, hm⟩ := bindS hm
  refine L.ix (r := rB) sl118 h1 Y R R ex15 R fun b16 o16 cc16 me16 rd16 => ?_
  obtain rfl := rd16
  refine L.ld (j := 0) me16 nag4 Y R R R R (L.beq Tryz.underlying4 Y R R R (L.nil (X.seqN ?_)))
  rcases ifS hm with ⟨hc, hm⟩ | ⟨hc, hm⟩
  ·refine E.cT R hc (ER (L.mv Y R R (L.as Y R R (LN (E.ret (X.blkR (X.seqR (X.seqR ?_))))))))
   have hx := ho6 _ (oi hm).symm
   exact X.sub (K14 _ _ ⟨s8, st6, hx.symm, m0, R, R⟩) (Sub.rf R)
  exact E.cF R hc (E.skip (X.blkN (X.seqN (E.reg (L.bi Y R R R R (L.mv Y R R (L.nil (X.sub (ih6 _ (oi hm).symm _ _ ⟨s8, m0, h1, R, R⟩) (Sub.rf R)))))))))
 refine E.cF R hc (E.exit (X.seqX (X.seqX ?_)))
 have hx := ho6 _ (oi hm).symm
 exact X.sub (K11 _ _ ⟨s8, (), hx.symm, m0, R, R⟩) Sub.nil

theorem cf61 : Cf Tryz.prog 61 := Cf.mk Tryz.func61 (by kernel_rfl) (by kernel_rfl)
theorem cf62 : Cf Tryz.prog 62 := Cf.mk Tryz.func62 (by kernel_rfl) (by kernel_rfl)
theorem cf63 : Cf Tryz.prog 63 := Cf.mk Tryz.func63 (by kernel_rfl) (by kernel_rfl)
theorem cf64 : Cf Tryz.prog 64 := Cf.mk Tryz.func64 (by kernel_rfl) (by kernel_rfl)
noncomputable def m_scan_Choices (p0 : AutT × AutT × List Int) (p1 : List Int) : Option ((Int × List Int × List Int) × Bool × Int) :=
 (m_scan_with p0 p1).bind fun r17 =>
 if (r17.2 != 0) then
  some ((0, ([] : List Int), ([] : List Int)), false, r17.2)
 else
  r17.1.bind fun x23 =>
  (m_scan_task_restricted x23 p1).bind fun r40 =>
  (m_scan_graph_live r40).bind fun r52 =>
  (m_slices_Index_bool r52 false).bind fun r56 =>
  if decide (r56 ≥ 0) then
   (m_scan_graph_word r40 r56).bind fun r59 =>
   some ((3, r59, ([] : List Int)), false, 0)
  else
   some ((0, ([] : List Int), ([] : List Int)), true, 0)
theorem m_scan_Choices_c {s : Sig} {p0 : AutT × AutT × List Int} {p1 : List Int} {a1 : Option Addr} {c1 : Nat} {a2 : Option Addr} {c2 : Nat} {a3 : Option Addr} {c3 : Nat} {a4 : Option Addr} {c4 : Nat} {a5 : Option Addr} {c5 : Nat} {a6 : Option Addr} {c6 : Nat} {a7 : Option Addr} {c7 : Nat} {a8 : Option Addr} {c8 : Nat} {u0 : Nat} {u1 : Nat} {r : (Int × List Int × List Int) × Bool × Int} (h1 : RdL qI s a1 c1 p0.1.1) (h2 : RdL qI s a2 c2 p0.1.2.2.1) (h3 : RdL qT s a3 c3 p0.1.2.2.2) (h4 : RdL qI s a4 c4 p0.2.1.1) (h5 : RdL qI s a5 c5 p0.2.1.2.2.1) (h6 : RdL qT s a6 c6 p0.2.1.2.2.2) (h7 : RdL qI s a7 c7 p0.2.2) (h8 : RdL qI s a8 c8 p1) (hm : m_scan_Choices p0 p1 = some r) :
    Calls Tryz.prog 18 #[.agg #[.slice a1 p0.1.1.length c1, .int .i64 p0.1.2.1, .slice a2 p0.1.2.2.1.length c2, .slice a3 p0.1.2.2.2.length c3, .slice a4 p0.2.1.1.length c4, .int .i64 p0.2.1.2.1, .slice a5 p0.2.1.2.2.1.length c5, .slice a6 p0.2.1.2.2.2.length c6, .slice a7 p0.2.2.length c7], .slice a8 p1.length c8] s.w (RetS No s fun v s' => ∃ (a9 : Option Addr) (c9 : Nat) (a10 : Option Addr) (c10 : Nat), v = .tuple #[.agg #[.int .i64 r.1.1, .slice a9 r.1.2.1.length c9, .slice a10 r.1.2.2.length c10], .bool r.2.1, .int .i64 r.2.2] ∧ RowT qI s' u0 3 a9 c9 r.1.2.1 ∧ RowT qI s' u1 3 a10 c10 r.1.2.2) := by
 unfold m_scan_Choices at hm
 obtain ⟨N, hN, hNb⟩ := s.fresh
 have m0 : Mv (Up N No) s s := Mv.refl _ _
 refine E.entry Tryz.func18 R Tryz.ntmps18 R R (ER (L.box (N + 0) Y R R R fun b11 s12 m13 bx11 => ?_))
 refine L.al (N + 1) zz38 R Y R fun b14 s15 m16 bx14 => ?_
 replace h8 := (h8.mono m13.z).mono m16.z
 replace bx11 := bx11.mv m16 no_No
 replace h1 := (h1.mono m13.z).mono m16.z
 replace h2 := (h2.mono m13.z).mono m16.z
 replace h3 := (h3.mono m13.z).mono m16.z
 replace h4 := (h4.mono m13.z).mono m16.z
 replace h5 := (h5.mono m13.z).mono m16.z
 replace h6 := (h6.mono m13.z).mono m16.z
 replace h7 := (h7.mono m13.z).mono m16.z
 refine L.as Y R R (L.as Y R R (LN (ER (L.lg (j := 0) (cs := [.slice a1 p0.1.1.length c1, .int .i64 p0.1.2.1, .slice a2 p0.1.2.2.1.length c2, .slice a3 p0.1.2.2.2.length c3, .slice a4 p0.2.1.1.length c4, .int .i64 p0.2.1.2.1, .slice a5 p0.2.1.2.2.1.length c5, .slice a6 p0.2.1.2.2.2.length c6, .slice a7 p0.2.2.length c7]) bx11.mem ag27 Y R R R R R (L.mv Y R R ?_)))))
 obtain ⟨r17, er17, hm⟩ := bindS hm
 refine L.ca cf61 R R Y R (m_scan_with_c (s := s15) (p0 := p0) (p1 := p1) h1 h2 h3 h4 h5 h6 h7 h8 er17) R ?_
 rintro _ s18 m19 ⟨v20, rfl, h20⟩
 replace m0 := ((m0.trans m13.no).trans m16.no).trans m19.no
 replace h8 := h8.mono m19.z
 replace bx14 := bx14.mv m19 no_No
 refine L.mv Y R R (L.ex Y R R R (L.ex Y R R R (L.as Y R R (L.as Y R R (LN (E.seq (ER (L.mv Y R R (L.bi Y R R R R (L.nil (X.seqN ?_)))))))))))
 rcases ifS hm with ⟨hc, hm⟩ | ⟨hc, hm⟩
 ·refine E.cT R hc (ER (L.bu (cs := [.int .i64 0, .slice none 0 0, .slice none 0 0]) pl38 Y R R R (L.mv Y R R (L.st (c := [.int .i64 0, .slice none 0 0, .slice none 0 0]) (cs' := #[.int .i64 0, .slice none 0 0, .slice none 0 0]) bx14 ag38.sz Y R R R R R (nb R) R fun s21 m22 bx14 => ?_))))
  replace m0 := m0.trans (m22.one up)
  refine L.as Y R R (L.as Y R R (LN (E.ret (X.seqR ?_))))
  obtain rfl := oi hm
  exact X.rt (.inl R) Tryz.results18 (Rs.cell R bx14 ag38 R (Rs.tmp R (Rs.tmp R Rs.nil))) R ⟨_, (s21).ren N (fun _ => 0), R, R, m0.ren hNb, ⟨none, 0, none, 0, R, RowT.nil, RowT.nil⟩⟩
 refine E.cF R hc (E.skip (X.seqN (ER (L.mv Y R R (L.mv Y R R ?_)))))
 obtain ⟨x23, ex23, hm⟩ := bindS hm
 obtain ⟨b24, ds24, rfl, bx24, rd24⟩ := h20.some ex23
 obtain ⟨_, _, rfl, ⟨_, _, rfl, ⟨_, _, rfl, ⟨a25, c25, rfl, h25⟩, ⟨_, _, rfl, rfl, ⟨_, _, rfl, ⟨a26, c26, rfl, h26⟩, ⟨a27, c27, rfl, h27⟩⟩⟩⟩, ⟨y28, c28, rfl, h28⟩⟩, ⟨_, _, rfl, ⟨_, _, rfl, ⟨_, _, rfl, ⟨a29, c29, rfl, h29⟩, ⟨_, _, rfl, rfl, ⟨_, _, rfl, ⟨a30, c30, rfl, h30⟩, ⟨a31, c31, rfl, h31⟩⟩⟩⟩, ⟨y32, c32, rfl, h32⟩⟩, ⟨_, _, rfl, ⟨_, _, rfl, ⟨_, _, rfl, ⟨a33, c33, rfl, h33⟩, ⟨_, _, rfl, rfl, ⟨_, _, rfl, ⟨a34, c34, rfl, h34⟩, ⟨a35, c35, rfl, h35⟩⟩⟩⟩, ⟨y36, c36, rfl, h36⟩⟩, ⟨_, _, rfl, ⟨a37, c37, rfl, h37⟩, ⟨_, _, rfl, ⟨a38, c38, rfl, h38⟩, ⟨a39, c39, rfl, h39⟩⟩⟩⟩⟩⟩ := rd24
 replace bx24 : Bx s18 0 b24 #[.slice a25 x23.1.1.1.length c25, .int .i64 x23.1.1.2.1, .slice a26 x23.1.1.2.2.1.length c26, .slice a27 x23.1.1.2.2.2.length c27, .map y28, .slice a29 x23.2.1.1.1.length c29, .int .i64 x23.2.1.1.2.1, .slice a30 x23.2.1.1.2.2.1.length c30, .slice a31 x23.2.1.1.2.2.2.length c31, .map y32, .slice a33 x23.2.2.1.1.1.length c33, .int .i64 x23.2.2.1.1.2.1, .slice a34 x23.2.2.1.1.2.2.1.length c34, .slice a35 x23.2.2.1.1.2.2.2.length c35, .map y36, .slice a37 x23.2.2.2.1.length c37, .slice a38 x23.2.2.2.2.1.length c38, .slice a39 x23.2.2.2.2.2.length c39] 110 := bx24
 obtain ⟨r40, er40, hm⟩ := bindS hm
 refine L.ca cf62 R R Y R (m_scan_task_restricted_c (s := s18) (p0 := x23) (p1 := p1) h25 h26 h27 h28 h29 h30 h31 h32 h33 h34 h35 h36 h37 h38 h39 bx24 h8 er40) R ?_
 rintro _ s41 m42 ⟨a43, c43, a44, c44, a45, c45, y46, c46, rfl, h43, h44, h45, h46⟩
 refine L.al (N + 2) zz108 R Y R fun b47 s48 m49 bx47 => ?_
 refine L.st (c := [.slice a43 r40.1.1.length c43, .int .i64 r40.1.2.1, .slice a44 r40.1.2.2.1.length c44, .slice a45 r40.1.2.2.2.length c45, .map y46]) (cs' := #[.slice a43 r40.1.1.length c43, .int .i64 r40.1.2.1, .slice a44 r40.1.2.2.1.length c44, .slice a45 r40.1.2.2.2.length c45, .map y46]) bx47 ag108.sz Y R R R R R (nb R) R fun s50 m51 bx47 => ?_
 replace h43 := (h43.mono m49.z).mono (m51.le (tg0 hN))
 replace h44 := (h44.mono m49.z).mono (m51.le (tg0 hN))
 replace h45 := (h45.mono m49.z).mono (m51.le (tg0 hN))
 replace h46 := (h46.mono m49.z).mono (m51.le (tg0 hN))
 refine LN (E.seq (ER (L.lg (j := 0) (cs := [.slice a43 r40.1.1.length c43, .int .i64 r40.1.2.1, .slice a44 r40.1.2.2.1.length c44, .slice a45 r40.1.2.2.2.length c45, .map y46]) bx47.mem ag108 Y R R R R R ?_)))
 obtain ⟨r52, er52, hm⟩ := bindS hm
 refine L.ca cf64 R R Y R (m_scan_graph_live_c (s := s50) (p0 := r40) (u0 := 0) h43 h44 h45 h46 er52) R ?_
 rintro _ s53 m54 ⟨a55, c55, rfl, h55⟩
 replace h55 := h55.p
 obtain ⟨r56, er56, hm⟩ := bindS hm
 refine L.ca cf63 R R Y R (m_slices_Index_bool_c (s := s53) (p0 := r52) (p1 := false) h55 er56) R ?_
 rintro _ s57 m58 rfl
 replace m0 := ((((m0.trans m42.no).trans m49.no).trans (m51.one up)).trans m54.no).trans m58.no
 replace bx47 := (bx47.mv m54 no_No).mv m58 no_No
 replace h43 := (h43.mono m54.z).mono m58.z
 replace h44 := (h44.mono m54.z).mono m58.z
 replace h45 := (h45.mono m54.z).mono m58.z
 replace h46 := (h46.mono m54.z).mono m58.z
 replace bx14 := ((((bx14.mv m42 no_No).mv m49 no_No).mv m51 (tq R)).mv m54 no_No).mv m58 no_No
 refine L.as Y R R (LN (ER (L.mv Y R R (L.bi Y R R R R (L.nil (X.seqN ?_))))))
 rcases ifS hm with ⟨hc, hm⟩ | ⟨hc, hm⟩
 ·refine E.cT R hc (ER (L.lg (j := 0) (cs := [.slice a43 r40.1.1.length c43, .int .i64 r40.1.2.1, .slice a44 r40.1.2.2.1.length c44, .slice a45 r40.1.2.2.2.length c45, .map y46]) bx47.mem ag108 Y R R R R R (L.mv Y R R ?_)))
  obtain ⟨r59, er59, hm⟩ := bindS hm
  refine L.ca cf59 R R Y R (m_scan_graph_word_c (s := s57) (p0 := r40) (p1 := r56) (u0 := (N + 3)) h43 h44 h45 h46 er59) R ?_
  rintro _ s60 m61 ⟨a62, c62, rfl, h62⟩
  replace bx14 := bx14.mv m61 no_No
  refine L.bu (cs := [.int .i64 3, .slice a62 r59.length c62, .slice none 0 0]) pl38 Y R R R (L.st (c := [.int .i64 3, .slice a62 r59.length c62, .slice none 0 0]) (cs' := #[.int .i64 3, .slice a62 r59.length c62, .slice none 0 0]) bx14 ag38.sz Y R R R R R (nb R) R fun s63 m64 bx14 => ?_)
  replace m0 := (m0.trans m61.no).trans (m64.one up)
  replace h62 := h62.mv m64 (tq R) (tg0 hN)
  refine L.as Y R R (L.as Y R R (LN (E.ret (X.seqR ?_))))
  obtain rfl := oi hm
  exact X.rt (.inl R) Tryz.results18 (Rs.cell R bx14 ag38 R (Rs.tmp R (Rs.tmp R Rs.nil))) R ⟨_, (s63).ren N (fun k => cond (Nat.beq k 3) u0 (0)), R, R, m0.ren hNb, ⟨a62, c62, none, 0, R, (h62.ren hN), RowT.nil⟩⟩
 refine E.cF R hc (E.skip (X.seqN (ER (L.bu (cs := [.int .i64 0, .slice none 0 0, .slice none 0 0]) pl38 Y R R R (L.st (c := [.int .i64 0, .slice none 0 0, .slice none 0 0]) (cs' := #[.int .i64 0, .slice none 0 0, .slice none 0 0]) bx14 ag38.sz Y R R R R R (nb R) R fun s65 m66 bx14 => ?_)))))
 replace m0 := m0.trans (m66.one up)
 refine L.as Y R R (L.as Y R R (LN (E.ret ?_)))
 obtain rfl := oi hm
 exact X.rt (.inl R) Tryz.results18 (Rs.cell R bx14 ag38 R (Rs.tmp R (Rs.tmp R Rs.nil))) R ⟨_, (s65).ren N (fun _ => 0), R, R, m0.ren hNb, ⟨none, 0, none, 0, R, RowT.nil, RowT.nil⟩⟩

noncomputable def m_slices_Equal_int_l1 (p0 : List Int) (p1 : List Int) (st19 : Int) : Option (Int ⊕ (Unit ⊕ Unit)) :=
 if decide (st19 < (p0.length : Int)) then
  (idx p0 st19).bind fun x30 =>
  (idx p1 st19).bind fun x36 =>
  if (x30 != x36) then
   some (.inr (.inr (())))
  else
   some (.inl (W (st19 + 1)))
 else
  some (.inr (.inl ()))
noncomputable def m_slices_Equal_int (p0 : List Int) (p1 : List Int) : Option Bool :=
 if ((p0.length : Int) != (p1.length : Int)) then
  some false
 else
  (iter (m_slices_Equal_int_l1 p0 p1) 0).bind fun o19 =>
  match o19 with
  | .inl u21 =>
   some true
  | .inr (u24) =>
   some false
theorem m_slices_Equal_int_c {s : Sig} {p0 : List Int} {p1 : List Int} {a1 : Option Addr} {c1 : Nat} {a2 : Option Addr} {c2 : Nat} {r : Bool} (h1 : RdL qI s a1 c1 p0) (h2 : RdL qI s a2 c2 p1) (hm : m_slices_Equal_int p0 p1 = some r) :
    Calls Tryz.prog 74 #[.slice a1 p0.length c1, .slice a2 p1.length c2] s.w (RetS No s fun v s' => v = .bool r) := by
 unfold m_slices_Equal_int at hm
 obtain ⟨N, hN, hNb⟩ := s.fresh
 have m0 : Mv (Up N No) s s := Mv.refl _ _
 refine E.entry Tryz.func74 R Tryz.ntmps74 R R (ER (L.as Y R R (LN (E.seq (ER (L.mv Y R R (L.len sl22 Y R R (L.mv Y R R (L.len sl22 Y R R (L.bi Y R R R R (L.nil (X.seqN ?_))))))))))))
 rcases ifS hm with ⟨hc, hm⟩ | ⟨hc, hm⟩
 ·refine E.cT R hc (ER (L.as Y R R (LN (E.ret (X.seqR ?_)))))
  obtain rfl := oi hm
  exact X.rt (.inl R) Tryz.results74 (Rs.tmp R Rs.nil) R ⟨_, (s).ren N (fun _ => 0), R, R, m0.ren hNb, R⟩
 refine E.cF R hc (E.skip (X.seqN (E.seq (ER (L.mv Y R R (L.len sl22 Y R R (L.mv Y R R (LN (E.block ?_)))))))))
 obtain ⟨o19, eo19, hm⟩ := bindS hm
 refine E.cut (x := .exit 0) (fun e w => ∃ (s22 : Sig) (u21 : Unit), o19 = .inl u21 ∧ Mv (Up N No) s s22 ∧ e = [] ∧ w = s22.w) ?_ ?_
 ·rintro _ _ ⟨s22, u21, rfl, m0, rfl, rfl⟩
  dsimp only at hm
  refine X.blkE (X.seqN (ER (L.as Y R R (LN (E.ret ?_)))))
  obtain rfl := oi hm
  exact X.rt (.inl R) Tryz.results74 (Rs.tmp R Rs.nil) R ⟨_, (s22).ren N (fun _ => 0), R, R, m0.ren hNb, R⟩
 intro K23
 refine E.cut (x := .ret) (fun e w => ∃ (s25 : Sig) (u24 : Unit), o19 = .inr (u24) ∧ Mv (Up N No) s s25 ∧ e = [(4, .bool false)] ∧ w = s25.w) ?_ ?_
 ·rintro _ _ ⟨s25, u24, rfl, m0, rfl, rfl⟩
  dsimp only at hm
  refine X.blkR (X.seqR ?_)
  obtain rfl := oi hm
  exact X.rt (.inl R) Tryz.results74 (Rs.tmp R Rs.nil) R ⟨_, (s25).ren N (fun _ => 0), R, R, m0.ren hNb, R⟩
 intro K26
 refine E.iter (fun (st19 : Int) (e : List (Nat × Value)) (w : World) => ∃ (s20 : Sig), Mv (Up N No) s s20 ∧ RdL qI s20 a1 c1 p0 ∧ RdL qI s20 a2 c2 p1 ∧ e = [(13, .int .i64 st19), (12, .int .i64 (p0.length : Int)), (0, .slice a1 p0.length c1), (1, .slice a2 p1.length c2)] ∧ w = s20.w) eo19 ⟨s, m0, h1, h2, R, R⟩ (Sub.rf R) ?_
 rintro st19 res19 hm ih19 ho19 _ _ ⟨s20, m0, h1, h2, rfl, rfl⟩
 unfold m_slices_Equal_int_l1 at hm
 refine ER (L.bi Y R R R R (LN (E.seq ?_)))
 rcases ifS hm with ⟨hc, hm⟩ | ⟨hc, hm⟩
 ·refine E.cT R hc (E.skip (X.seqN (E.seq (E.block (ER (L.mv Y R R (L.as Y R R (LN (E.seq ?_)))))))))
  obtain ⟨x30, ex30, hm⟩ := bindS hm
  obtain ⟨x36, ex36, hm⟩ := bindS hm
  refine E.draw [[], [], [0, 1], [0, 1, 2], [], [], [4, 5], [4, 5, 6], [0, 1, 2, 3, 4, 5, 6, 7]] (fun D e sx => Mv No s20 sx ∧ Sub [(5, .int .i64 st19), (13, .int .i64 st19), (12, .int .i64 (p0.length : Int)), (0, .slice a1 p0.length c1), (1, .slice a2 p1.length c2)] e ∧ AllP [G D e 0 16 (.slice a1 p0.length c1), G D e 1 17 (.int .i64 st19), D 2 = true → (∃ (b31 : Nat) (o31 : Nat), Env.get e 18 = some (.pointer (some ⟨b31, o31, none⟩)) ∧ Mem sx 0 b31 o31 [.int .i64 x30]), G D e 3 19 (.int .i64 x30), G D e 4 20 (.slice a2 p1.length c2), G D e 5 21 (.int .i64 st19), D 6 = true → (∃ (b37 : Nat) (o37 : Nat), Env.get e 22 = some (.pointer (some ⟨b37, o37, none⟩)) ∧ Mem sx 0 b37 o37 [.int .i64 x36]), G D e 7 23 (.int .i64 x36), G D e 8 24 (.bool (x30 != x36))]) (by kernel_rfl) (by kernel_rfl) (by kernel_rfl) ?_ ?_ ?_
  ·intro sz mz
   exact ⟨mz, (Sub.rf R), nofun, nofun, nofun, nofun, nofun, nofun, nofun, nofun, nofun, trivial⟩
  ·refine ⟨?_, ?_, ?_, ?_, ?_, ?_, ?_, ?_, ?_, trivial⟩
   ·rintro D e s27 ⟨im, ib, i⟩ hk hf ha
    have kn := K1 (ib 0 _ R)
    exact kn.g (L.mv Y R R (L.nil (X.dk kn ⟨im, Sub.fresh ib R, i.u 0 (fun _ => R)⟩)))
   ·rintro D e s28 ⟨im, ib, i⟩ hk hf ha
    have kn := K1 (ib 5 _ R)
    exact kn.g (L.mv Y R R (L.nil (X.dk kn ⟨im, Sub.fresh ib R, i.u 1 (fun _ => R)⟩)))
   ·rintro D e s29 ⟨im, ib, i⟩ hk hf ha
    have h1 := h1.mono im.z
    have kn := K2 ((i.p 0) (ha.at 0 R)) ((i.p 1) (ha.at 1 R))
    refine kn.g (L.ix (r := qI) sl22 h1 Y R R ex30 R fun b31 o31 cc31 me31 rd31 => ?_)
    obtain rfl := rd31
    exact L.nil (X.dk kn ⟨im, Sub.fresh ib R, i.u 2 (fun _ => ⟨b31, o31, R, me31⟩)⟩)
   ·rintro D e s32 ⟨im, ib, i⟩ hk hf ha
    obtain ⟨b31, o31, g2_, me31⟩ := (i.p 2) (ha.at 2 R)
    have kn := K1 g2_
    exact kn.g (L.ld (j := 0) me31 nag3 Y R R R R (L.nil (X.dk kn ⟨im, Sub.fresh ib R, i.u 3 (fun _ => R)⟩)))
   ·rintro D e s33 ⟨im, ib, i⟩ hk hf ha
    have kn := K1 (ib 1 _ R)
    exact kn.g (L.mv Y R R (L.nil (X.dk kn ⟨im, Sub.fresh ib R, i.u 4 (fun _ => R)⟩)))
   ·rintro D e s34 ⟨im, ib, i⟩ hk hf ha
    have kn := K1 (ib 5 _ R)
    exact kn.g (L.mv Y R R (L.nil (X.dk kn ⟨im, Sub.fresh ib R, i.u 5 (fun _ => R)⟩)))
   ·rintro D e s35 ⟨im, ib, i⟩ hk hf ha
    have h2 := h2.mono im.z
    have kn := K2 ((i.p 4) (ha.at 4 R)) ((i.p 5) (ha.at 5 R))
    refine kn.g (L.ix (r := qI) sl22 h2 Y R R ex36 R fun b37 o37 cc37 me37 rd37 => ?_)
    obtain rfl := rd37
    exact L.nil (X.dk kn ⟨im, Sub.fresh ib R, i.u 6 (fun _ => ⟨b37, o37, R, me37⟩)⟩)
   ·rintro D e s38 ⟨im, ib, i⟩ hk hf ha
    obtain ⟨b37, o37, g6_, me37⟩ := (i.p 6) (ha.at 6 R)
    have kn := K1 g6_
    exact kn.g (L.ld (j := 0) me37 nag3 Y R R R R (L.nil (X.dk kn ⟨im, Sub.fresh ib R, i.u 7 (fun _ => R)⟩)))
   rintro D e s39 ⟨im, ib, i⟩ hk hf ha
   have kn := K2 ((i.p 3) (ha.at 3 R)) ((i.p 7) (ha.at 7 R))
   exact kn.g (L.bi Y R R R R (L.nil (X.dk kn ⟨im, Sub.fresh ib R, i.u 8 (fun _ => R)⟩)))
  rintro D e s40 hD ⟨im, ib, i⟩
  have g8_ := (i.p 8) (hD 8 R)
  have h1 := h1.mono im.z
  have h2 := h2.mono im.z
  have m0 := m0.trans im.no
  refine X.sub (e' := [(24, .bool (x30 != x36)), (13, .int .i64 st19), (12, .int .i64 (p0.length : Int)), (0, .slice a1 p0.length c1), (1, .slice a2 p1.length c2)]) ?_ (Sub.cons g8_ (Sub.cons (ib 13 _ R) (Sub.cons (ib 12 _ R) (Sub.cons (ib 0 _ R) (Sub.cons (ib 1 _ R) Sub.nil)))))
  refine X.seqN ?_
  rcases ifS hm with ⟨hc, hm⟩ | ⟨hc, hm⟩
  ·refine E.cT R hc (ER (L.as Y R R (LN (E.ret (X.blkR (X.seqR (X.seqR ?_)))))))
   have hx := ho19 _ (oi hm).symm
   exact X.sub (K26 _ _ ⟨s40, (), hx.symm, m0, R, R⟩) (Sub.rf R)
  exact E.cF R hc (E.skip (X.blkN (X.seqN (E.reg (L.bi Y R R R R (L.mv Y R R (L.nil (X.sub (ih19 _ (oi hm).symm _ _ ⟨s40, m0, h1, h2, R, R⟩) (Sub.rf R)))))))))
 refine E.cF R hc (E.exit (X.seqX (X.seqX ?_)))
 have hx := ho19 _ (oi hm).symm
 exact X.sub (K23 _ _ ⟨s20, (), hx.symm, m0, R, R⟩) Sub.nil

theorem cf74 : Cf Tryz.prog 74 := Cf.mk Tryz.func74 (by kernel_rfl) (by kernel_rfl)
noncomputable def m_word_Equal (p0 : List Int) (p1 : List Int) : Option Bool :=
 (m_slices_Equal_int p0 p1).bind fun r3 =>
 some r3
theorem m_word_Equal_c {s : Sig} {p0 : List Int} {p1 : List Int} {a1 : Option Addr} {c1 : Nat} {a2 : Option Addr} {c2 : Nat} {r : Bool} (h1 : RdL qI s a1 c1 p0) (h2 : RdL qI s a2 c2 p1) (hm : m_word_Equal p0 p1 = some r) :
    Calls Tryz.prog 33 #[.slice a1 p0.length c1, .slice a2 p1.length c2] s.w (RetS No s fun v s' => v = .bool r) := by
 unfold m_word_Equal at hm
 obtain ⟨N, hN, hNb⟩ := s.fresh
 have m0 : Mv (Up N No) s s := Mv.refl _ _
 refine E.entry Tryz.func33 R Tryz.ntmps33 R R (ER (L.as Y R R (LN (ER (L.mv Y R R (L.mv Y R R ?_))))))
 obtain ⟨r3, er3, hm⟩ := bindS hm
 refine L.ca cf74 R R Y R (m_slices_Equal_int_c (s := s) (p0 := p0) (p1 := p1) h1 h2 er3) R ?_
 rintro _ s4 m5 rfl
 replace m0 := m0.trans m5.no
 refine L.as Y R R (LN (E.ret ?_))
 obtain rfl := oi hm
 exact X.rt (.inl R) Tryz.results33 (Rs.tmp R Rs.nil) R ⟨_, (s4).ren N (fun _ => 0), R, R, m0.ren hNb, R⟩

theorem cf16 : Cf Tryz.prog 16 := Cf.mk Tryz.func16 (by kernel_rfl) (by kernel_rfl)
theorem cf18 : Cf Tryz.prog 18 := Cf.mk Tryz.func18 (by kernel_rfl) (by kernel_rfl)
theorem cf33 : Cf Tryz.prog 33 := Cf.mk Tryz.func33 (by kernel_rfl) (by kernel_rfl)
theorem cf50 : Cf Tryz.prog 50 := Cf.mk Tryz.func50 (by kernel_rfl) (by kernel_rfl)
theorem fa38_0 : FA Tryz.prog 38 0 0 := FA.mk Tryz.underlying38 rfl rfl ⟨1, by decide, by kernel_rfl⟩
theorem fa38_1 : FA Tryz.prog 38 1 1 := FA.mk Tryz.underlying38 rfl rfl ⟨1, by decide, by kernel_rfl⟩
theorem fa38_2 : FA Tryz.prog 38 2 2 := FA.mk Tryz.underlying38 rfl rfl ⟨1, by decide, by kernel_rfl⟩
noncomputable def m_overseerlaw54_known : Option Bool :=
 (m_overseerlaw54_race).bind fun r1 =>
 (m_scan_Orders r1 2).bind fun r11 =>
 (m_scan_Choices ((([3, 4, 5] : List Int), 2, ([0] : List Int), ([(0, 3, 0), (0, 4, 1), (1, 5, 0)] : List (Int × Int × Int))), (([3] : List Int), 1, ([0] : List Int), ([(0, 3, 0)] : List (Int × Int × Int))), ([] : List Int)) ([4, 3] : List Int)).bind fun r57 =>
 (m_scan_Choices ((([3, 4, 5] : List Int), 2, ([0] : List Int), ([(0, 3, 0), (0, 4, 1), (1, 5, 0)] : List (Int × Int × Int))), (([3] : List Int), 1, ([0] : List Int), ([(0, 3, 0)] : List (Int × Int × Int))), ([] : List Int)) ([4, 5, 3] : List Int)).bind fun r70 =>
 (if ((((r11.2.2 == 0) && (!r11.2.1)) && (r11.1.1 == 1)) && ((r11.1.2.1.length : Int) == 0)) then
  (m_word_Equal r11.1.2.2 ([1, 0] : List Int)).bind fun r112 =>
  some r112
 else
  some false).bind fun b83 =>
 (if ((((b83 && ((r11.1.2.2.length : Int) == 2)) && (r57.2.2 == 0)) && (!r57.2.1)) && (r57.1.1 == 3)) then
  (m_word_Equal r57.1.2.1 ([4] : List Int)).bind fun r101 =>
  some r101
 else
  some false).bind fun b90 =>
 some ((b90 && (r70.2.2 == 0)) && r70.2.1)
theorem m_overseerlaw54_known_c {s : Sig} {r : Bool} (hm : m_overseerlaw54_known = some r) :
    Calls Tryz.prog 11 #[] s.w (RetS No s fun v s' => v = .bool r) := by
 unfold m_overseerlaw54_known at hm
 obtain ⟨N, hN, hNb⟩ := s.fresh
 have m0 : Mv (Up N No) s s := Mv.refl _ _
 refine E.entry Tryz.func11 R Tryz.ntmps11 R R (ER (L.as Y R R (LN (E.seq (E.reg ?_)))))
 obtain ⟨r1, er1, hm⟩ := bindS hm
 refine L.ca cf50 R R Y R (m_overseerlaw54_race_c (s := s) er1) R ?_
 rintro _ s2 m3 ⟨a4, c4, a5, c5, a6, c6, a7, c7, a8, c8, a9, c9, a10, c10, rfl, h4, h5, h6, h7, h8, h9, h10⟩
 obtain ⟨r11, er11, hm⟩ := bindS hm
 refine L.ca cf16 R R Y R (m_scan_Orders_c (s := s2) (p0 := r1) (p1 := 2) (u0 := 0) h4 h5 h6 h7 h8 h9 h10 er11) R ?_
 rintro _ s12 m13 ⟨a14, c14, a15, c15, rfl, h14, h15⟩
 refine L.mv Y R R (L.ex Y R R R (L.ex Y R R R (L.ex Y R R R (L.al (N + 0) zz38 R Y R fun b16 s17 m18 bx16 => ?_))))
 refine L.st (c := [.int .i64 r11.1.1, .slice a14 r11.1.2.1.length c14, .slice a15 r11.1.2.2.length c15]) (cs' := #[.int .i64 r11.1.1, .slice a14 r11.1.2.1.length c14, .slice a15 r11.1.2.2.length c15]) bx16 ag38.sz Y R R R R R (nb R) R fun s19 m20 bx16 => ?_
 refine L.as Y R R (L.as Y R R (LN (ER (L.bsE (k := 3) (cs := [.int .i64 3, .int .i64 4, .int .i64 5]) 0 bs22 (nb R) Y R R R R fun b21 s22 m23 bx21 => ?_))))
 have h21 := Bx.rdL (r := qI) (xs := ([3, 4, 5] : List Int)) bx21 ⟨[.int .i64 3], _, R, R, ⟨[.int .i64 4], _, R, R, ⟨[.int .i64 5], _, R, R, R⟩⟩⟩ (nb R)
 refine L.bsE (k := 1) (cs := [.int .i64 0]) 0 bs22 (nb R) Y R R R R fun b24 s25 m26 bx24 => ?_
 have h24 := Bx.rdL (r := qI) (xs := ([0] : List Int)) bx24 ⟨[.int .i64 0], _, R, R, R⟩ (nb R)
 refine L.bu (cs := [.int .i64 0, .int .i64 3, .int .i64 0]) pl97 Y R R R (L.bu (cs := [.int .i64 0, .int .i64 4, .int .i64 1]) pl97 Y R R R (L.bu (cs := [.int .i64 1, .int .i64 5, .int .i64 0]) pl97 Y R R R (L.bsE (k := 3) (cs := [.int .i64 0, .int .i64 3, .int .i64 0, .int .i64 0, .int .i64 4, .int .i64 1, .int .i64 1, .int .i64 5, .int .i64 0]) 0 bs23 (nb R) Y R R R R fun b27 s28 m29 bx27 => ?_)))
 have h27 := Bx.rdL (r := qT) (xs := ([(0, 3, 0), (0, 4, 1), (1, 5, 0)] : List (Int × Int × Int))) bx27 ⟨[.int .i64 0, .int .i64 3, .int .i64 0], _, R, ⟨[.int .i64 0], [.int .i64 3, .int .i64 0], R, R, ⟨[.int .i64 3], [.int .i64 0], R, R, R⟩⟩, ⟨[.int .i64 0, .int .i64 4, .int .i64 1], _, R, ⟨[.int .i64 0], [.int .i64 4, .int .i64 1], R, R, ⟨[.int .i64 4], [.int .i64 1], R, R, R⟩⟩, ⟨[.int .i64 1, .int .i64 5, .int .i64 0], _, R, ⟨[.int .i64 1], [.int .i64 5, .int .i64 0], R, R, ⟨[.int .i64 5], [.int .i64 0], R, R, R⟩⟩, R⟩⟩⟩ (nb R)
 refine L.bu (cs := [.slice (some ⟨b21, 0, none⟩) ([3, 4, 5] : List Int).length (([3, 4, 5] : List Int).length), .int .i64 2, .slice (some ⟨b24, 0, none⟩) ([0] : List Int).length (([0] : List Int).length), .slice (some ⟨b27, 0, none⟩) ([(0, 3, 0), (0, 4, 1), (1, 5, 0)] : List (Int × Int × Int)).length (([(0, 3, 0), (0, 4, 1), (1, 5, 0)] : List (Int × Int × Int)).length)]) pl25 Y R R R (L.al (N + 1) zz25 R Y R fun b30 s31 m32 bx30 => ?_)
 refine L.st (c := [.slice (some ⟨b21, 0, none⟩) ([3, 4, 5] : List Int).length (([3, 4, 5] : List Int).length), .int .i64 2, .slice (some ⟨b24, 0, none⟩) ([0] : List Int).length (([0] : List Int).length), .slice (some ⟨b27, 0, none⟩) ([(0, 3, 0), (0, 4, 1), (1, 5, 0)] : List (Int × Int × Int)).length (([(0, 3, 0), (0, 4, 1), (1, 5, 0)] : List (Int × Int × Int)).length)]) (cs' := #[.slice (some ⟨b21, 0, none⟩) ([3, 4, 5] : List Int).length (([3, 4, 5] : List Int).length), .int .i64 2, .slice (some ⟨b24, 0, none⟩) ([0] : List Int).length (([0] : List Int).length), .slice (some ⟨b27, 0, none⟩) ([(0, 3, 0), (0, 4, 1), (1, 5, 0)] : List (Int × Int × Int)).length (([(0, 3, 0), (0, 4, 1), (1, 5, 0)] : List (Int × Int × Int)).length)]) bx30 ag25.sz Y R R R R R (nb R) R fun s33 m34 bx30 => ?_
 refine LN (ER (L.bsE (k := 1) (cs := [.int .i64 3]) 0 bs22 (nb R) Y R R R R fun b35 s36 m37 bx35 => ?_))
 have h35 := Bx.rdL (r := qI) (xs := ([3] : List Int)) bx35 ⟨[.int .i64 3], _, R, R, R⟩ (nb R)
 refine L.bsE (k := 1) (cs := [.int .i64 0]) 0 bs22 (nb R) Y R R R R fun b38 s39 m40 bx38 => ?_
 have h38 := Bx.rdL (r := qI) (xs := ([0] : List Int)) bx38 ⟨[.int .i64 0], _, R, R, R⟩ (nb R)
 refine L.bu (cs := [.int .i64 0, .int .i64 3, .int .i64 0]) pl97 Y R R R (L.bsE (k := 1) (cs := [.int .i64 0, .int .i64 3, .int .i64 0]) 0 bs23 (nb R) Y R R R R fun b41 s42 m43 bx41 => ?_)
 have h41 := Bx.rdL (r := qT) (xs := ([(0, 3, 0)] : List (Int × Int × Int))) bx41 ⟨[.int .i64 0, .int .i64 3, .int .i64 0], _, R, ⟨[.int .i64 0], [.int .i64 3, .int .i64 0], R, R, ⟨[.int .i64 3], [.int .i64 0], R, R, R⟩⟩, R⟩ (nb R)
 refine L.bu (cs := [.slice (some ⟨b35, 0, none⟩) ([3] : List Int).length (([3] : List Int).length), .int .i64 1, .slice (some ⟨b38, 0, none⟩) ([0] : List Int).length (([0] : List Int).length), .slice (some ⟨b41, 0, none⟩) ([(0, 3, 0)] : List (Int × Int × Int)).length (([(0, 3, 0)] : List (Int × Int × Int)).length)]) pl25 Y R R R (L.al (N + 2) zz25 R Y R fun b44 s45 m46 bx44 => ?_)
 refine L.st (c := [.slice (some ⟨b35, 0, none⟩) ([3] : List Int).length (([3] : List Int).length), .int .i64 1, .slice (some ⟨b38, 0, none⟩) ([0] : List Int).length (([0] : List Int).length), .slice (some ⟨b41, 0, none⟩) ([(0, 3, 0)] : List (Int × Int × Int)).length (([(0, 3, 0)] : List (Int × Int × Int)).length)]) (cs' := #[.slice (some ⟨b35, 0, none⟩) ([3] : List Int).length (([3] : List Int).length), .int .i64 1, .slice (some ⟨b38, 0, none⟩) ([0] : List Int).length (([0] : List Int).length), .slice (some ⟨b41, 0, none⟩) ([(0, 3, 0)] : List (Int × Int × Int)).length (([(0, 3, 0)] : List (Int × Int × Int)).length)]) bx44 ag25.sz Y R R R R R (nb R) R fun s47 m48 bx44 => ?_
 replace bx30 := ((((bx30.mv m37 no_No).mv m40 no_No).mv m43 no_No).mv m46 no_No).mv m48 (tq R)
 refine LN (ER (L.lg (j := 0) (cs := [.slice (some ⟨b21, 0, none⟩) ([3, 4, 5] : List Int).length (([3, 4, 5] : List Int).length), .int .i64 2, .slice (some ⟨b24, 0, none⟩) ([0] : List Int).length (([0] : List Int).length), .slice (some ⟨b27, 0, none⟩) ([(0, 3, 0), (0, 4, 1), (1, 5, 0)] : List (Int × Int × Int)).length (([(0, 3, 0), (0, 4, 1), (1, 5, 0)] : List (Int × Int × Int)).length)]) bx30.mem ag25 Y R R R R R (L.lg (j := 0) (cs := [.slice (some ⟨b35, 0, none⟩) ([3] : List Int).length (([3] : List Int).length), .int .i64 1, .slice (some ⟨b38, 0, none⟩) ([0] : List Int).length (([0] : List Int).length), .slice (some ⟨b41, 0, none⟩) ([(0, 3, 0)] : List (Int × Int × Int)).length (([(0, 3, 0)] : List (Int × Int × Int)).length)]) bx44.mem ag25 Y R R R R R (L.bu (cs := [.slice (some ⟨b21, 0, none⟩) ([3, 4, 5] : List Int).length (([3, 4, 5] : List Int).length), .int .i64 2, .slice (some ⟨b24, 0, none⟩) ([0] : List Int).length (([0] : List Int).length), .slice (some ⟨b27, 0, none⟩) ([(0, 3, 0), (0, 4, 1), (1, 5, 0)] : List (Int × Int × Int)).length (([(0, 3, 0), (0, 4, 1), (1, 5, 0)] : List (Int × Int × Int)).length), .slice (some ⟨b35, 0, none⟩) ([3] : List Int).length (([3] : List Int).length), .int .i64 1, .slice (some ⟨b38, 0, none⟩) ([0] : List Int).length (([0] : List Int).length), .slice (some ⟨b41, 0, none⟩) ([(0, 3, 0)] : List (Int × Int × Int)).length (([(0, 3, 0)] : List (Int × Int × Int)).length), .slice none 0 0]) pl27 Y R R R (L.al (N + 3) zz27 R Y R fun b49 s50 m51 bx49 => ?_)))))
 refine L.st (c := [.slice (some ⟨b21, 0, none⟩) ([3, 4, 5] : List Int).length (([3, 4, 5] : List Int).length), .int .i64 2, .slice (some ⟨b24, 0, none⟩) ([0] : List Int).length (([0] : List Int).length), .slice (some ⟨b27, 0, none⟩) ([(0, 3, 0), (0, 4, 1), (1, 5, 0)] : List (Int × Int × Int)).length (([(0, 3, 0), (0, 4, 1), (1, 5, 0)] : List (Int × Int × Int)).length), .slice (some ⟨b35, 0, none⟩) ([3] : List Int).length (([3] : List Int).length), .int .i64 1, .slice (some ⟨b38, 0, none⟩) ([0] : List Int).length (([0] : List Int).length), .slice (some ⟨b41, 0, none⟩) ([(0, 3, 0)] : List (Int × Int × Int)).length (([(0, 3, 0)] : List (Int × Int × Int)).length), .slice none 0 0]) (cs' := #[.slice (some ⟨b21, 0, none⟩) ([3, 4, 5] : List Int).length (([3, 4, 5] : List Int).length), .int .i64 2, .slice (some ⟨b24, 0, none⟩) ([0] : List Int).length (([0] : List Int).length), .slice (some ⟨b27, 0, none⟩) ([(0, 3, 0), (0, 4, 1), (1, 5, 0)] : List (Int × Int × Int)).length (([(0, 3, 0), (0, 4, 1), (1, 5, 0)] : List (Int × Int × Int)).length), .slice (some ⟨b35, 0, none⟩) ([3] : List Int).length (([3] : List Int).length), .int .i64 1, .slice (some ⟨b38, 0, none⟩) ([0] : List Int).length (([0] : List Int).length), .slice (some ⟨b41, 0, none⟩) ([(0, 3, 0)] : List (Int × Int × Int)).length (([(0, 3, 0)] : List (Int × Int × Int)).length), .slice none 0 0]) bx49 ag27.sz Y R R R R R (nb R) R fun s52 m53 bx49 => ?_
 refine LN (ER (L.lg (j := 0) (cs := [.slice (some ⟨b21, 0, none⟩) ([3, 4, 5] : List Int).length (([3, 4, 5] : List Int).length), .int .i64 2, .slice (some ⟨b24, 0, none⟩) ([0] : List Int).length (([0] : List Int).length), .slice (some ⟨b27, 0, none⟩) ([(0, 3, 0), (0, 4, 1), (1, 5, 0)] : List (Int × Int × Int)).length (([(0, 3, 0), (0, 4, 1), (1, 5, 0)] : List (Int × Int × Int)).length), .slice (some ⟨b35, 0, none⟩) ([3] : List Int).length (([3] : List Int).length), .int .i64 1, .slice (some ⟨b38, 0, none⟩) ([0] : List Int).length (([0] : List Int).length), .slice (some ⟨b41, 0, none⟩) ([(0, 3, 0)] : List (Int × Int × Int)).length (([(0, 3, 0)] : List (Int × Int × Int)).length), .slice none 0 0]) bx49.mem ag27 Y R R R R R (L.bsE (k := 2) (cs := [.int .i64 4, .int .i64 3]) 0 bs22 (nb R) Y R R R R fun b54 s55 m56 bx54 => ?_)))
 replace h21 := (((((((((((h21.mono m26.z).mono m29.z).mono m32.z).mono (m34.le (tg0 hN))).mono m37.z).mono m40.z).mono m43.z).mono m46.z).mono (m48.le (tg0 hN))).mono m51.z).mono (m53.le (tg0 hN))).mono m56.z
 replace h24 := ((((((((((h24.mono m29.z).mono m32.z).mono (m34.le (tg0 hN))).mono m37.z).mono m40.z).mono m43.z).mono m46.z).mono (m48.le (tg0 hN))).mono m51.z).mono (m53.le (tg0 hN))).mono m56.z
 replace h27 := (((((((((h27.mono m32.z).mono (m34.le (tg0 hN))).mono m37.z).mono m40.z).mono m43.z).mono m46.z).mono (m48.le (tg0 hN))).mono m51.z).mono (m53.le (tg0 hN))).mono m56.z
 replace h35 := ((((((h35.mono m40.z).mono m43.z).mono m46.z).mono (m48.le (tg0 hN))).mono m51.z).mono (m53.le (tg0 hN))).mono m56.z
 replace h38 := (((((h38.mono m43.z).mono m46.z).mono (m48.le (tg0 hN))).mono m51.z).mono (m53.le (tg0 hN))).mono m56.z
 replace h41 := ((((h41.mono m46.z).mono (m48.le (tg0 hN))).mono m51.z).mono (m53.le (tg0 hN))).mono m56.z
 have h54 := Bx.rdL (r := qI) (xs := ([4, 3] : List Int)) bx54 ⟨[.int .i64 4], _, R, R, ⟨[.int .i64 3], _, R, R, R⟩⟩ (nb R)
 obtain ⟨r57, er57, hm⟩ := bindS hm
 refine L.ca cf18 R R Y R (m_scan_Choices_c (s := s55) (p0 := ((([3, 4, 5] : List Int), 2, ([0] : List Int), ([(0, 3, 0), (0, 4, 1), (1, 5, 0)] : List (Int × Int × Int))), (([3] : List Int), 1, ([0] : List Int), ([(0, 3, 0)] : List (Int × Int × Int))), ([] : List Int))) (p1 := ([4, 3] : List Int)) (u0 := 0) (u1 := 0) h21 h24 h27 h35 h38 h41 RdL.nil h54 er57) R ?_
 rintro _ s58 m59 ⟨a60, c60, a61, c61, rfl, h60, h61⟩
 refine L.mv Y R R (L.ex Y R R R (L.ex Y R R R (L.ex Y R R R (L.al (N + 4) zz38 R Y R fun b62 s63 m64 bx62 => ?_))))
 refine L.st (c := [.int .i64 r57.1.1, .slice a60 r57.1.2.1.length c60, .slice a61 r57.1.2.2.length c61]) (cs' := #[.int .i64 r57.1.1, .slice a60 r57.1.2.1.length c60, .slice a61 r57.1.2.2.length c61]) bx62 ag38.sz Y R R R R R (nb R) R fun s65 m66 bx62 => ?_
 replace bx49 := (((bx49.mv m56 no_No).mv m59 no_No).mv m64 no_No).mv m66 (tq R)
 refine L.as Y R R (L.as Y R R (LN (ER (L.lg (j := 0) (cs := [.slice (some ⟨b21, 0, none⟩) ([3, 4, 5] : List Int).length (([3, 4, 5] : List Int).length), .int .i64 2, .slice (some ⟨b24, 0, none⟩) ([0] : List Int).length (([0] : List Int).length), .slice (some ⟨b27, 0, none⟩) ([(0, 3, 0), (0, 4, 1), (1, 5, 0)] : List (Int × Int × Int)).length (([(0, 3, 0), (0, 4, 1), (1, 5, 0)] : List (Int × Int × Int)).length), .slice (some ⟨b35, 0, none⟩) ([3] : List Int).length (([3] : List Int).length), .int .i64 1, .slice (some ⟨b38, 0, none⟩) ([0] : List Int).length (([0] : List Int).length), .slice (some ⟨b41, 0, none⟩) ([(0, 3, 0)] : List (Int × Int × Int)).length (([(0, 3, 0)] : List (Int × Int × Int)).length), .slice none 0 0]) bx49.mem ag27 Y R R R R R (L.bsE (k := 3) (cs := [.int .i64 4, .int .i64 5, .int .i64 3]) 0 bs22 (nb R) Y R R R R fun b67 s68 m69 bx67 => ?_)))))
 replace h21 := (((h21.mono m59.z).mono m64.z).mono (m66.le (tg0 hN))).mono m69.z
 replace h24 := (((h24.mono m59.z).mono m64.z).mono (m66.le (tg0 hN))).mono m69.z
 replace h27 := (((h27.mono m59.z).mono m64.z).mono (m66.le (tg0 hN))).mono m69.z
 replace h35 := (((h35.mono m59.z).mono m64.z).mono (m66.le (tg0 hN))).mono m69.z
 replace h38 := (((h38.mono m59.z).mono m64.z).mono (m66.le (tg0 hN))).mono m69.z
 replace h41 := (((h41.mono m59.z).mono m64.z).mono (m66.le (tg0 hN))).mono m69.z
 have h67 := Bx.rdL (r := qI) (xs := ([4, 5, 3] : List Int)) bx67 ⟨[.int .i64 4], _, R, R, ⟨[.int .i64 5], _, R, R, ⟨[.int .i64 3], _, R, R, R⟩⟩⟩ (nb R)
 obtain ⟨r70, er70, hm⟩ := bindS hm
 refine L.ca cf18 R R Y R (m_scan_Choices_c (s := s68) (p0 := ((([3, 4, 5] : List Int), 2, ([0] : List Int), ([(0, 3, 0), (0, 4, 1), (1, 5, 0)] : List (Int × Int × Int))), (([3] : List Int), 1, ([0] : List Int), ([(0, 3, 0)] : List (Int × Int × Int))), ([] : List Int))) (p1 := ([4, 5, 3] : List Int)) (u0 := 0) (u1 := 0) h21 h24 h27 h35 h38 h41 RdL.nil h67 er70) R ?_
 rintro _ s71 m72 ⟨a73, c73, a74, c74, rfl, h73, h74⟩
 replace h73 := h73.p
 replace h74 := h74.p
 refine L.mv Y R R (L.ex Y R R R (L.ex Y R R R (L.ex Y R R R (L.al (N + 5) zz38 R Y R fun b75 s76 m77 bx75 => ?_))))
 refine L.st (c := [.int .i64 r70.1.1, .slice a73 r70.1.2.1.length c73, .slice a74 r70.1.2.2.length c74]) (cs' := #[.int .i64 r70.1.1, .slice a73 r70.1.2.1.length c73, .slice a74 r70.1.2.2.length c74]) bx75 ag38.sz Y R R R R R (nb R) R fun s78 m79 bx75 => ?_
 replace m0 := (((((((((((((((((((((((m0.trans m3.no).trans m13.no).trans m18.no).trans (m20.one up)).trans m23.no).trans m26.no).trans m29.no).trans m32.no).trans (m34.one up)).trans m37.no).trans m40.no).trans m43.no).trans m46.no).trans (m48.one up)).trans m51.no).trans (m53.one up)).trans m56.no).trans m59.no).trans m64.no).trans (m66.one up)).trans m69.no).trans m72.no).trans m77.no).trans (m79.one up)
 replace bx16 := (((((((((((((((((((bx16.mv m23 no_No).mv m26 no_No).mv m29 no_No).mv m32 no_No).mv m34 (tq R)).mv m37 no_No).mv m40 no_No).mv m43 no_No).mv m46 no_No).mv m48 (tq R)).mv m51 no_No).mv m53 (tq R)).mv m56 no_No).mv m59 no_No).mv m64 no_No).mv m66 (tq R)).mv m69 no_No).mv m72 no_No).mv m77 no_No).mv m79 (tq R)
 replace h14 := ((((((((((((((((((((((h14.p).mono m18.z).mono (m20.le (tg0 hN))).mono m23.z).mono m26.z).mono m29.z).mono m32.z).mono (m34.le (tg0 hN))).mono m37.z).mono m40.z).mono m43.z).mono m46.z).mono (m48.le (tg0 hN))).mono m51.z).mono (m53.le (tg0 hN))).mono m56.z).mono m59.z).mono m64.z).mono (m66.le (tg0 hN))).mono m69.z).mono m72.z).mono m77.z).mono (m79.le (tg0 hN))
 replace h15 := (((((((((((((((((((((h15.mono m18.z).mono (m20.le (tg0 hN))).mono m23.z).mono m26.z).mono m29.z).mono m32.z).mono (m34.le (tg0 hN))).mono m37.z).mono m40.z).mono m43.z).mono m46.z).mono (m48.le (tg0 hN))).mono m51.z).mono (m53.le (tg0 hN))).mono m56.z).mono m59.z).mono m64.z).mono (m66.le (tg0 hN))).mono m69.z).mono m72.z).mono m77.z).mono (m79.le (tg0 hN))
 replace bx62 := (((bx62.mv m69 no_No).mv m72 no_No).mv m77 no_No).mv m79 (tq R)
 replace h60 := ((((((h60.p).mono m64.z).mono (m66.le (tg0 hN))).mono m69.z).mono m72.z).mono m77.z).mono (m79.le (tg0 hN))
 replace h61 := ((((((h61.p).mono m64.z).mono (m66.le (tg0 hN))).mono m69.z).mono m72.z).mono m77.z).mono (m79.le (tg0 hN))
 refine L.as Y R R (L.as Y R R (LN (ER (L.mv Y R R (L.bi Y R R R R (L.mv Y R R (L.cut 3 (fun e w => ∃ (v80 : Bool), ((r11.2.2 == 0) && (!r11.2.1)) = v80 ∧ e = (53, .bool v80) :: [(12, .int .i64 r70.2.2), (11, .bool r70.2.1), (9, .int .i64 r57.2.2), (8, .bool r57.2.1), (7, .pointer (some ⟨b62, 0, none⟩)), (1, .pointer (some ⟨b16, 0, none⟩))] ∧ w = s78.w) ?_ ?_)))))))
 ·rintro _ _ ⟨v80, rfl, rfl, rfl⟩
  refine L.mv Y R R (L.cut 4 (fun e w => ∃ (v81 : Bool), (((r11.2.2 == 0) && (!r11.2.1)) && (r11.1.1 == 1)) = v81 ∧ e = (58, .bool v81) :: [(12, .int .i64 r70.2.2), (11, .bool r70.2.1), (9, .int .i64 r57.2.2), (8, .bool r57.2.1), (7, .pointer (some ⟨b62, 0, none⟩)), (1, .pointer (some ⟨b16, 0, none⟩))] ∧ w = s78.w) ?_ ?_)
  ·rintro _ _ ⟨v81, rfl, rfl, rfl⟩
   refine L.mv Y R R (L.cut 5 (fun e w => ∃ (v82 : Bool), ((((r11.2.2 == 0) && (!r11.2.1)) && (r11.1.1 == 1)) && ((r11.1.2.1.length : Int) == 0)) = v82 ∧ e = (64, .bool v82) :: [(12, .int .i64 r70.2.2), (11, .bool r70.2.1), (9, .int .i64 r57.2.2), (8, .bool r57.2.1), (7, .pointer (some ⟨b62, 0, none⟩)), (1, .pointer (some ⟨b16, 0, none⟩))] ∧ w = s78.w) ?_ ?_)
   ·rintro _ _ ⟨v82, rfl, rfl, rfl⟩
    refine L.mv Y R R ?_
    obtain ⟨b83, eb83, hm⟩ := bindS hm
    refine L.cut 5 (fun e w => ∃ (s85 : Sig) (v84 : Bool), b83 = v84 ∧ Mv (Up N No) s s85 ∧ RdL qI s85 a14 c14 r11.1.2.1 ∧ RdL qI s85 a15 c15 r11.1.2.2 ∧ RdL qI s85 a60 c60 r57.1.2.1 ∧ RdL qI s85 a61 c61 r57.1.2.2 ∧ Bx s85 (N + 0) b16 #[.int .i64 r11.1.1, .slice a14 r11.1.2.1.length c14, .slice a15 r11.1.2.2.length c15] 38 ∧ Bx s85 (N + 4) b62 #[.int .i64 r57.1.1, .slice a60 r57.1.2.1.length c60, .slice a61 r57.1.2.2.length c61] 38 ∧ e = (70, .bool v84) :: [(12, .int .i64 r70.2.2), (11, .bool r70.2.1), (9, .int .i64 r57.2.2), (8, .bool r57.2.1), (7, .pointer (some ⟨b62, 0, none⟩)), (1, .pointer (some ⟨b16, 0, none⟩))] ∧ w = s85.w) ?_ ?_
    ·rintro _ _ ⟨s85, v84, rfl, m0, h14, h15, h60, h61, bx16, bx62, rfl, rfl⟩
     refine L.mv Y R R (L.cut 5 (fun e w => ∃ (v86 : Bool), (b83 && ((r11.1.2.2.length : Int) == 2)) = v86 ∧ e = (76, .bool v86) :: [(12, .int .i64 r70.2.2), (11, .bool r70.2.1), (9, .int .i64 r57.2.2), (8, .bool r57.2.1), (7, .pointer (some ⟨b62, 0, none⟩))] ∧ w = s85.w) ?_ ?_)
     ·rintro _ _ ⟨v86, rfl, rfl, rfl⟩
      refine L.mv Y R R (L.cut 3 (fun e w => ∃ (v87 : Bool), ((b83 && ((r11.1.2.2.length : Int) == 2)) && (r57.2.2 == 0)) = v87 ∧ e = (80, .bool v87) :: [(12, .int .i64 r70.2.2), (11, .bool r70.2.1), (8, .bool r57.2.1), (7, .pointer (some ⟨b62, 0, none⟩))] ∧ w = s85.w) ?_ ?_)
      ·rintro _ _ ⟨v87, rfl, rfl, rfl⟩
       refine L.mv Y R R (L.cut 3 (fun e w => ∃ (v88 : Bool), (((b83 && ((r11.1.2.2.length : Int) == 2)) && (r57.2.2 == 0)) && (!r57.2.1)) = v88 ∧ e = (84, .bool v88) :: [(12, .int .i64 r70.2.2), (11, .bool r70.2.1), (7, .pointer (some ⟨b62, 0, none⟩))] ∧ w = s85.w) ?_ ?_)
       ·rintro _ _ ⟨v88, rfl, rfl, rfl⟩
        refine L.mv Y R R (L.cut 4 (fun e w => ∃ (v89 : Bool), ((((b83 && ((r11.1.2.2.length : Int) == 2)) && (r57.2.2 == 0)) && (!r57.2.1)) && (r57.1.1 == 3)) = v89 ∧ e = (89, .bool v89) :: [(12, .int .i64 r70.2.2), (11, .bool r70.2.1), (7, .pointer (some ⟨b62, 0, none⟩))] ∧ w = s85.w) ?_ ?_)
        ·rintro _ _ ⟨v89, rfl, rfl, rfl⟩
         refine L.mv Y R R ?_
         obtain ⟨b90, eb90, hm⟩ := bindS hm
         refine L.cut 5 (fun e w => ∃ (s92 : Sig) (v91 : Bool), b90 = v91 ∧ Mv (Up N No) s s92 ∧ e = (95, .bool v91) :: [(12, .int .i64 r70.2.2), (11, .bool r70.2.1)] ∧ w = s92.w) ?_ ?_
         ·rintro _ _ ⟨s92, v91, rfl, m0, rfl, rfl⟩
          refine L.mv Y R R (L.cut 3 (fun e w => ∃ (v93 : Bool), (b90 && (r70.2.2 == 0)) = v93 ∧ e = (99, .bool v93) :: [(11, .bool r70.2.1)] ∧ w = s92.w) ?_ ?_)
          ·rintro _ _ ⟨v93, rfl, rfl, rfl⟩
           refine L.mv Y R R (L.cut 2 (fun e w => ∃ (v94 : Bool), ((b90 && (r70.2.2 == 0)) && r70.2.1) = v94 ∧ e = (102, .bool v94) :: [] ∧ w = s92.w) ?_ ?_)
           ·rintro _ _ ⟨v94, rfl, rfl, rfl⟩
            refine L.as Y R R (LN (E.ret ?_))
            obtain rfl := oi hm
            exact X.rt (.inl R) Tryz.results11 (Rs.tmp R Rs.nil) R ⟨_, (s92).ren N (fun _ => 0), R, R, m0.ren hNb, R⟩
           intro J95
           rcases Bool.eq_false_or_eq_true (b90 && (r70.2.2 == 0)) with hc | hc
           ·exact L.know (d := 100) R hc (L.mv (Wt.mk R R) R R (L.pkT Y R R R R (L.sb (J95 _ _ ⟨r70.2.1, (andT hc).symm, R, R⟩) R)))
           exact L.know (d := 100) R hc (L.skip R R R R (L.pkF Y R R R R (L.sb (J95 _ _ ⟨false, (andF hc).symm, R, R⟩) R)))
          intro J96
          rcases Bool.eq_false_or_eq_true b90 with hc | hc
          ·exact L.know (d := 96) R hc (L.mv (Wt.mk R R) R R (L.bi (Wt.mk R R) R R R R (L.pkT Y R R R R (L.sb (J96 _ _ ⟨(r70.2.2 == 0), (andT hc).symm, R, R⟩) R))))
          exact L.know (d := 96) R hc (L.skip R R R R (L.skip R R R R (L.pkF Y R R R R (L.sb (J96 _ _ ⟨false, (andF hc).symm, R, R⟩) R))))
         intro J97
         rcases ifS eb90 with ⟨hc, hm⟩ | ⟨hc, hm⟩
         ·refine L.know (d := 90) R hc (L.fa fa38_1 (Wt.mk R R) R R (L.ld (j := 1) bx62.mem nag22 (Wt.mk R R) R R R R (L.bsE (k := 1) (cs := [.int .i64 4]) 0 bs22 (nb R) (Wt.mk R R) R R R R fun b98 s99 m100 bx98 => ?_)))
          replace h60 := h60.mono m100.z
          have h98 := Bx.rdL (r := qI) (xs := ([4] : List Int)) bx98 ⟨[.int .i64 4], _, R, R, R⟩ (nb R)
          obtain ⟨r101, er101, hm⟩ := bindS hm
          refine L.ca cf33 R R (Wt.mk R R) R (m_word_Equal_c (s := s99) (p0 := r57.1.2.1) (p1 := ([4] : List Int)) h60 h98 er101) R ?_
          rintro _ s102 m103 rfl
          replace m0 := (m0.trans m100.no).trans m103.no
          exact L.pkT Y R R R R (L.sb (J97 _ _ ⟨s102, r101, (oi hm).symm, m0, R, R⟩) R)
         exact L.know (d := 90) R hc (L.skip R R R R (L.skip R R R R (L.skip R R R R (L.skip R R R R (L.pkF Y R R R R (L.sb (J97 _ _ ⟨s85, false, (oi hm).symm, m0, R, R⟩) R))))))
        intro J104
        rcases Bool.eq_false_or_eq_true (((b83 && ((r11.1.2.2.length : Int) == 2)) && (r57.2.2 == 0)) && (!r57.2.1)) with hc | hc
        ·exact L.know (d := 85) R hc (L.fa fa38_0 (Wt.mk R R) R R (L.ld (j := 0) bx62.mem nag3 (Wt.mk R R) R R R R (L.bi (Wt.mk R R) R R R R (L.pkT Y R R R R (L.sb (J104 _ _ ⟨(r57.1.1 == 3), (andT hc).symm, R, R⟩) R)))))
        exact L.know (d := 85) R hc (L.skip R R R R (L.skip R R R R (L.skip R R R R (L.pkF Y R R R R (L.sb (J104 _ _ ⟨false, (andF hc).symm, R, R⟩) R)))))
       intro J105
       rcases Bool.eq_false_or_eq_true ((b83 && ((r11.1.2.2.length : Int) == 2)) && (r57.2.2 == 0)) with hc | hc
       ·exact L.know (d := 81) R hc (L.mv (Wt.mk R R) R R (L.not (Wt.mk R R) R R (L.pkT Y R R R R (L.sb (J105 _ _ ⟨(!r57.2.1), (andT hc).symm, R, R⟩) R))))
       exact L.know (d := 81) R hc (L.skip R R R R (L.skip R R R R (L.pkF Y R R R R (L.sb (J105 _ _ ⟨false, (andF hc).symm, R, R⟩) R))))
      intro J106
      rcases Bool.eq_false_or_eq_true (b83 && ((r11.1.2.2.length : Int) == 2)) with hc | hc
      ·exact L.know (d := 77) R hc (L.mv (Wt.mk R R) R R (L.bi (Wt.mk R R) R R R R (L.pkT Y R R R R (L.sb (J106 _ _ ⟨(r57.2.2 == 0), (andT hc).symm, R, R⟩) R))))
      exact L.know (d := 77) R hc (L.skip R R R R (L.skip R R R R (L.pkF Y R R R R (L.sb (J106 _ _ ⟨false, (andF hc).symm, R, R⟩) R))))
     intro J107
     rcases Bool.eq_false_or_eq_true b83 with hc | hc
     ·exact L.know (d := 71) R hc (L.fa fa38_2 (Wt.mk R R) R R (L.ld (j := 2) bx16.mem nag22 (Wt.mk R R) R R R R (L.len sl22 (Wt.mk R R) R R (L.bi (Wt.mk R R) R R R R (L.pkT Y R R R R (L.sb (J107 _ _ ⟨((r11.1.2.2.length : Int) == 2), (andT hc).symm, R, R⟩) R))))))
     exact L.know (d := 71) R hc (L.skip R R R R (L.skip R R R R (L.skip R R R R (L.skip R R R R (L.pkF Y R R R R (L.sb (J107 _ _ ⟨false, (andF hc).symm, R, R⟩) R))))))
    intro J108
    rcases ifS eb83 with ⟨hc, hm⟩ | ⟨hc, hm⟩
    ·refine L.know (d := 65) R hc (L.fa fa38_2 (Wt.mk R R) R R (L.ld (j := 2) bx16.mem nag22 (Wt.mk R R) R R R R (L.bsE (k := 2) (cs := [.int .i64 1, .int .i64 0]) 0 bs22 (nb R) (Wt.mk R R) R R R R fun b109 s110 m111 bx109 => ?_)))
     replace h15 := h15.mono m111.z
     have h109 := Bx.rdL (r := qI) (xs := ([1, 0] : List Int)) bx109 ⟨[.int .i64 1], _, R, R, ⟨[.int .i64 0], _, R, R, R⟩⟩ (nb R)
     obtain ⟨r112, er112, hm⟩ := bindS hm
     refine L.ca cf33 R R (Wt.mk R R) R (m_word_Equal_c (s := s110) (p0 := r11.1.2.2) (p1 := ([1, 0] : List Int)) h15 h109 er112) R ?_
     rintro _ s113 m114 rfl
     replace m0 := (m0.trans m111.no).trans m114.no
     replace bx16 := (bx16.mv m111 no_No).mv m114 no_No
     replace h14 := (h14.mono m111.z).mono m114.z
     replace h15 := h15.mono m114.z
     replace bx62 := (bx62.mv m111 no_No).mv m114 no_No
     replace h60 := (h60.mono m111.z).mono m114.z
     replace h61 := (h61.mono m111.z).mono m114.z
     exact L.pkT Y R R R R (L.sb (J108 _ _ ⟨s113, r112, (oi hm).symm, m0, h14, h15, h60, h61, bx16, bx62, R, R⟩) R)
    exact L.know (d := 65) R hc (L.skip R R R R (L.skip R R R R (L.skip R R R R (L.skip R R R R (L.pkF Y R R R R (L.sb (J108 _ _ ⟨s78, false, (oi hm).symm, m0, h14, h15, h60, h61, bx16, bx62, R, R⟩) R))))))
   intro J115
   rcases Bool.eq_false_or_eq_true (((r11.2.2 == 0) && (!r11.2.1)) && (r11.1.1 == 1)) with hc | hc
   ·exact L.know (d := 59) R hc (L.fa fa38_1 (Wt.mk R R) R R (L.ld (j := 1) bx16.mem nag22 (Wt.mk R R) R R R R (L.len sl22 (Wt.mk R R) R R (L.bi (Wt.mk R R) R R R R (L.pkT Y R R R R (L.sb (J115 _ _ ⟨((r11.1.2.1.length : Int) == 0), (andT hc).symm, R, R⟩) R))))))
   exact L.know (d := 59) R hc (L.skip R R R R (L.skip R R R R (L.skip R R R R (L.skip R R R R (L.pkF Y R R R R (L.sb (J115 _ _ ⟨false, (andF hc).symm, R, R⟩) R))))))
  intro J116
  rcases Bool.eq_false_or_eq_true ((r11.2.2 == 0) && (!r11.2.1)) with hc | hc
  ·exact L.know (d := 54) R hc (L.fa fa38_0 (Wt.mk R R) R R (L.ld (j := 0) bx16.mem nag3 (Wt.mk R R) R R R R (L.bi (Wt.mk R R) R R R R (L.pkT Y R R R R (L.sb (J116 _ _ ⟨(r11.1.1 == 1), (andT hc).symm, R, R⟩) R)))))
  exact L.know (d := 54) R hc (L.skip R R R R (L.skip R R R R (L.skip R R R R (L.pkF Y R R R R (L.sb (J116 _ _ ⟨false, (andF hc).symm, R, R⟩) R)))))
 intro J117
 rcases Bool.eq_false_or_eq_true (r11.2.2 == 0) with hc | hc
 ·exact L.know (d := 50) R hc (L.mv (Wt.mk R R) R R (L.not (Wt.mk R R) R R (L.pkT Y R R R R (L.sb (J117 _ _ ⟨(!r11.2.1), (andT hc).symm, R, R⟩) R))))
 exact L.know (d := 50) R hc (L.skip R R R R (L.skip R R R R (L.pkF Y R R R R (L.sb (J117 _ _ ⟨false, (andF hc).symm, R, R⟩) R))))

noncomputable def m_overseerlaw54_few (p0 : AutT) : Option Bool :=
 (if (((decide ((p0.1.length : Int) ≤ 10)) && (decide ((p0.2.2.1.length : Int) ≤ 10))) && (decide ((p0.2.2.2.length : Int) ≤ 10))) then
  (if decide (p0.2.1 ≤ 40) then
   some true
  else
   (m_automaton_Check p0).bind fun r17 =>
   some (r17 != 0)).bind fun b13 =>
  some b13
 else
  some false).bind fun b9 =>
 some b9
theorem m_overseerlaw54_few_c {s : Sig} {p0 : AutT} {a1 : Option Addr} {c1 : Nat} {a2 : Option Addr} {c2 : Nat} {a3 : Option Addr} {c3 : Nat} {r : Bool} (h1 : RdL qI s a1 c1 p0.1) (h2 : RdL qI s a2 c2 p0.2.2.1) (h3 : RdL qT s a3 c3 p0.2.2.2) (hm : m_overseerlaw54_few p0 = some r) :
    Calls Tryz.prog 12 #[.agg #[.slice a1 p0.1.length c1, .int .i64 p0.2.1, .slice a2 p0.2.2.1.length c2, .slice a3 p0.2.2.2.length c3]] s.w (RetS No s fun v s' => v = .bool r) := by
 unfold m_overseerlaw54_few at hm
 obtain ⟨N, hN, hNb⟩ := s.fresh
 have m0 : Mv (Up N No) s s := Mv.refl _ _
 refine E.entry Tryz.func12 R Tryz.ntmps12 R R (ER (L.box (N + 0) Y R R R fun b4 s5 m6 bx4 => ?_))
 replace m0 := m0.trans m6.no
 replace h1 := h1.mono m6.z
 replace h2 := h2.mono m6.z
 replace h3 := h3.mono m6.z
 refine L.as Y R R (LN (ER (L.fa fa25_0 Y R R (L.ld (j := 0) bx4.mem nag22 Y R R R R (L.len sl22 Y R R (L.bi Y R R R R (L.mv Y R R (L.cut 5 (fun e w => ∃ (v7 : Bool), ((decide ((p0.1.length : Int) ≤ 10)) && (decide ((p0.2.2.1.length : Int) ≤ 10))) = v7 ∧ e = (12, .bool v7) :: [(1, .pointer (some ⟨b4, 0, none⟩))] ∧ w = s5.w) ?_ ?_))))))))
 ·rintro _ _ ⟨v7, rfl, rfl, rfl⟩
  refine L.mv Y R R (L.cut 5 (fun e w => ∃ (v8 : Bool), (((decide ((p0.1.length : Int) ≤ 10)) && (decide ((p0.2.2.1.length : Int) ≤ 10))) && (decide ((p0.2.2.2.length : Int) ≤ 10))) = v8 ∧ e = (18, .bool v8) :: [(1, .pointer (some ⟨b4, 0, none⟩))] ∧ w = s5.w) ?_ ?_)
  ·rintro _ _ ⟨v8, rfl, rfl, rfl⟩
   refine L.mv Y R R ?_
   obtain ⟨b9, eb9, hm⟩ := bindS hm
   refine L.cut 9 (fun e w => ∃ (s11 : Sig) (v10 : Bool), b9 = v10 ∧ Mv (Up N No) s s11 ∧ e = (28, .bool v10) :: [] ∧ w = s11.w) ?_ ?_
   ·rintro _ _ ⟨s11, v10, rfl, m0, rfl, rfl⟩
    refine L.as Y R R (LN (E.ret ?_))
    obtain rfl := oi hm
    exact X.rt (.inl R) Tryz.results12 (Rs.tmp R Rs.nil) R ⟨_, (s11).ren N (fun _ => 0), R, R, m0.ren hNb, R⟩
   intro J12
   rcases ifS eb9 with ⟨hc, hm⟩ | ⟨hc, hm⟩
   ·refine L.know (d := 19) R hc (L.fa fa25_1 (Wt.mk R R) R R (L.ld (j := 1) bx4.mem nag3 (Wt.mk R R) R R R R (L.bi (Wt.mk R R) R R R R (L.mv (Wt.mk R R) R R ?_))))
    obtain ⟨b13, eb13, hm⟩ := bindS hm
    refine L.cut 4 (fun e w => ∃ (s15 : Sig) (v14 : Bool), b13 = v14 ∧ Mv (Up N No) s s15 ∧ e = (27, .bool v14) :: [(19, .bool true)] ∧ w = s15.w) ?_ ?_
    ·rintro _ _ ⟨s15, v14, rfl, m0, rfl, rfl⟩
     exact L.pkT Y R R R R (L.sb (J12 _ _ ⟨s15, b13, (oi hm).symm, m0, R, R⟩) R)
    intro J16
    rcases ifS eb13 with ⟨hc, hm⟩ | ⟨hc, hm⟩
    ·exact L.know (d := 23) R hc (L.skip R R R R (L.skip R R R R (L.skip R R R R (L.pkT (Wt.mk R R) R R R R (L.sb (J16 _ _ ⟨s5, true, (oi hm).symm, m0, R, R⟩) R)))))
    refine L.know (d := 23) R hc (L.lg (j := 0) (cs := [.slice a1 p0.1.length c1, .int .i64 p0.2.1, .slice a2 p0.2.2.1.length c2, .slice a3 p0.2.2.2.length c3]) bx4.mem ag25 (Wt.mk R R) R R R R R ?_)
    obtain ⟨r17, er17, hm⟩ := bindS hm
    refine L.ca cf51 R R (Wt.mk R R) R (m_automaton_Check_c (s := s5) (p0 := p0) h1 h2 h3 er17) R ?_
    rintro _ s18 m19 rfl
    replace m0 := m0.trans m19.no
    exact L.bi (Wt.mk R R) R R R R (L.pkF (Wt.mk R R) R R R R (L.sb (J16 _ _ ⟨s18, (r17 != 0), (oi hm).symm, m0, R, R⟩) R))
   exact L.know (d := 19) R hc (L.skip R R R R (L.skip R R R R (L.skip R R R R (L.skip R R R R (L.skipU R R R (L.skipU R R R (L.skipU R R R (L.skip R R R R (L.pkF Y R R R R (L.sb (J12 _ _ ⟨s5, false, (oi hm).symm, m0, R, R⟩) R))))))))))
  intro J20
  rcases Bool.eq_false_or_eq_true ((decide ((p0.1.length : Int) ≤ 10)) && (decide ((p0.2.2.1.length : Int) ≤ 10))) with hc | hc
  ·exact L.know (d := 13) R hc (L.fa fa25_3 (Wt.mk R R) R R (L.ld (j := 3) bx4.mem nag23 (Wt.mk R R) R R R R (L.len sl23 (Wt.mk R R) R R (L.bi (Wt.mk R R) R R R R (L.pkT Y R R R R (L.sb (J20 _ _ ⟨(decide ((p0.2.2.2.length : Int) ≤ 10)), (andT hc).symm, R, R⟩) R))))))
  exact L.know (d := 13) R hc (L.skip R R R R (L.skip R R R R (L.skip R R R R (L.skip R R R R (L.pkF Y R R R R (L.sb (J20 _ _ ⟨false, (andF hc).symm, R, R⟩) R))))))
 intro J21
 rcases Bool.eq_false_or_eq_true (decide ((p0.1.length : Int) ≤ 10)) with hc | hc
 ·exact L.know (d := 7) R hc (L.fa fa25_2 (Wt.mk R R) R R (L.ld (j := 2) bx4.mem nag22 (Wt.mk R R) R R R R (L.len sl22 (Wt.mk R R) R R (L.bi (Wt.mk R R) R R R R (L.pkT Y R R R R (L.sb (J21 _ _ ⟨(decide ((p0.2.2.1.length : Int) ≤ 10)), (andT hc).symm, R, R⟩) R))))))
 exact L.know (d := 7) R hc (L.skip R R R R (L.skip R R R R (L.skip R R R R (L.skip R R R R (L.pkF Y R R R R (L.sb (J21 _ _ ⟨false, (andF hc).symm, R, R⟩) R))))))

noncomputable def m_overseerlaw54_check (p0 : AutT × AutT × List Int) : Option Int :=
 (m_automaton_Check p0.1).bind fun r11 =>
 if (r11 != 0) then
  some r11
 else
  (m_automaton_Check p0.2.1).bind fun r14 =>
  if (r14 != 0) then
   some r14
  else
   (m_alphabet_Subset p0.2.1.1 p0.1.1).bind fun r17 =>
   if (!r17) then
    some 9
   else
    (m_alphabet_CheckSet p0.2.2 32).bind fun r20 =>
    some r20
theorem m_overseerlaw54_check_c {s : Sig} {p0 : AutT × AutT × List Int} {a1 : Option Addr} {c1 : Nat} {a2 : Option Addr} {c2 : Nat} {a3 : Option Addr} {c3 : Nat} {a4 : Option Addr} {c4 : Nat} {a5 : Option Addr} {c5 : Nat} {a6 : Option Addr} {c6 : Nat} {a7 : Option Addr} {c7 : Nat} {r : Int} (h1 : RdL qI s a1 c1 p0.1.1) (h2 : RdL qI s a2 c2 p0.1.2.2.1) (h3 : RdL qT s a3 c3 p0.1.2.2.2) (h4 : RdL qI s a4 c4 p0.2.1.1) (h5 : RdL qI s a5 c5 p0.2.1.2.2.1) (h6 : RdL qT s a6 c6 p0.2.1.2.2.2) (h7 : RdL qI s a7 c7 p0.2.2) (hm : m_overseerlaw54_check p0 = some r) :
    Calls Tryz.prog 13 #[.agg #[.slice a1 p0.1.1.length c1, .int .i64 p0.1.2.1, .slice a2 p0.1.2.2.1.length c2, .slice a3 p0.1.2.2.2.length c3, .slice a4 p0.2.1.1.length c4, .int .i64 p0.2.1.2.1, .slice a5 p0.2.1.2.2.1.length c5, .slice a6 p0.2.1.2.2.2.length c6, .slice a7 p0.2.2.length c7]] s.w (RetS No s fun v s' => v = .int .i64 r) := by
 unfold m_overseerlaw54_check at hm
 obtain ⟨N, hN, hNb⟩ := s.fresh
 have m0 : Mv (Up N No) s s := Mv.refl _ _
 refine E.entry Tryz.func13 R Tryz.ntmps13 R R (ER (L.box (N + 0) Y R R R fun b8 s9 m10 bx8 => ?_))
 replace h1 := h1.mono m10.z
 replace h2 := h2.mono m10.z
 replace h3 := h3.mono m10.z
 refine L.as Y R R (LN (E.seq (ER (L.fa fa27_0 Y R R (L.lg (j := 0) (cs := [.slice a1 p0.1.1.length c1, .int .i64 p0.1.2.1, .slice a2 p0.1.2.2.1.length c2, .slice a3 p0.1.2.2.2.length c3]) bx8.mem ag25 Y R R R R R ?_)))))
 obtain ⟨r11, er11, hm⟩ := bindS hm
 refine L.ca cf51 R R Y R (m_automaton_Check_c (s := s9) (p0 := p0.1) h1 h2 h3 er11) R ?_
 rintro _ s12 m13 rfl
 replace m0 := (m0.trans m10.no).trans m13.no
 replace bx8 := bx8.mv m13 no_No
 replace h4 := (h4.mono m10.z).mono m13.z
 replace h5 := (h5.mono m10.z).mono m13.z
 replace h6 := (h6.mono m10.z).mono m13.z
 refine L.as Y R R (LN (ER (L.mv Y R R (L.bi Y R R R R (L.nil (X.seqN ?_))))))
 rcases ifS hm with ⟨hc, hm⟩ | ⟨hc, hm⟩
 ·refine E.cT R hc (ER (L.mv Y R R (L.as Y R R (LN (E.ret (X.seqR ?_))))))
  obtain rfl := oi hm
  exact X.rt (.inl R) Tryz.results13 (Rs.tmp R Rs.nil) R ⟨_, (s12).ren N (fun _ => 0), R, R, m0.ren hNb, R⟩
 refine E.cF R hc (E.skip (X.seqN (E.seq (ER (L.fa fa27_1 Y R R (L.lg (j := 4) (cs := [.slice a4 p0.2.1.1.length c4, .int .i64 p0.2.1.2.1, .slice a5 p0.2.1.2.2.1.length c5, .slice a6 p0.2.1.2.2.2.length c6]) bx8.mem ag25 Y R R R R R ?_))))))
 obtain ⟨r14, er14, hm⟩ := bindS hm
 refine L.ca cf51 R R Y R (m_automaton_Check_c (s := s12) (p0 := p0.2.1) h4 h5 h6 er14) R ?_
 rintro _ s15 m16 rfl
 replace m0 := m0.trans m16.no
 replace bx8 := bx8.mv m16 no_No
 replace h1 := (h1.mono m13.z).mono m16.z
 replace h4 := h4.mono m16.z
 refine L.as Y R R (LN (ER (L.mv Y R R (L.bi Y R R R R (L.nil (X.seqN ?_))))))
 rcases ifS hm with ⟨hc, hm⟩ | ⟨hc, hm⟩
 ·refine E.cT R hc (ER (L.mv Y R R (L.as Y R R (LN (E.ret (X.seqR ?_))))))
  obtain rfl := oi hm
  exact X.rt (.inl R) Tryz.results13 (Rs.tmp R Rs.nil) R ⟨_, (s15).ren N (fun _ => 0), R, R, m0.ren hNb, R⟩
 refine E.cF R hc (E.skip (X.seqN (E.seq (ER (L.fa fa27_1 Y R R (L.fa fa25_0 Y R R (L.ld (j := 4) bx8.mem nag22 Y R R R R (L.fa fa27_0 Y R R (L.fa fa25_0 Y R R (L.ld (j := 0) bx8.mem nag22 Y R R R R ?_))))))))))
 obtain ⟨r17, er17, hm⟩ := bindS hm
 refine L.ca cf30 R R Y R (m_alphabet_Subset_c (s := s15) (p0 := p0.2.1.1) (p1 := p0.1.1) h4 h1 er17) R ?_
 rintro _ s18 m19 rfl
 replace m0 := m0.trans m19.no
 replace bx8 := bx8.mv m19 no_No
 replace h7 := (((h7.mono m10.z).mono m13.z).mono m16.z).mono m19.z
 refine L.not Y R R (L.nil (X.seqN ?_))
 rcases ifS hm with ⟨hc, hm⟩ | ⟨hc, hm⟩
 ·refine E.cT R hc (ER (L.as Y R R (LN (E.ret (X.seqR ?_)))))
  obtain rfl := oi hm
  exact X.rt (.inl R) Tryz.results13 (Rs.tmp R Rs.nil) R ⟨_, (s18).ren N (fun _ => 0), R, R, m0.ren hNb, R⟩
 refine E.cF R hc (E.skip (X.seqN (ER (L.fa fa27_2 Y R R (L.ld (j := 8) bx8.mem nag22 Y R R R R ?_)))))
 obtain ⟨r20, er20, hm⟩ := bindS hm
 refine L.ca cf29 R R Y R (m_alphabet_CheckSet_c (s := s18) (p0 := p0.2.2) (p1 := 32) h7 er20) R ?_
 rintro _ s21 m22 rfl
 replace m0 := m0.trans m22.no
 refine L.as Y R R (LN (E.ret ?_))
 obtain rfl := oi hm
 exact X.rt (.inl R) Tryz.results13 (Rs.tmp R Rs.nil) R ⟨_, (s21).ren N (fun _ => 0), R, R, m0.ren hNb, R⟩

noncomputable def m_scan_task_checkImage (p0 : (AutT × (List ((Int × Int) × Int))) × (AutT × (List ((Int × Int) × Int))) × (AutT × (List ((Int × Int) × Int))) × List (List Int) × List Int × List Int) (p1 : Int) (p2 : List Int) : Option Int :=
 if ((decide (p1 < 0)) || (decide (p1 ≥ p0.2.1.1.2.1))) then
  some 2
 else
  (m_alphabet_CheckSet p2 32).bind fun r19 =>
  if (r19 != 0) then
   some r19
  else
   if decide ((p2.length : Int) > 3) then
    some 3
   else
    (m_alphabet_Subset p2 p0.1.1.1).bind fun r22 =>
    if (!r22) then
     some 9
    else
     some 0
theorem m_scan_task_checkImage_c {s : Sig} {p0 : (AutT × (List ((Int × Int) × Int))) × (AutT × (List ((Int × Int) × Int))) × (AutT × (List ((Int × Int) × Int))) × List (List Int) × List Int × List Int} {p1 : Int} {p2 : List Int} {t0 : Nat} {a1 : Option Addr} {c1 : Nat} {a2 : Option Addr} {c2 : Nat} {a3 : Option Addr} {c3 : Nat} {y4 : Option Nat} {c4 : Nat} {a5 : Option Addr} {c5 : Nat} {a6 : Option Addr} {c6 : Nat} {a7 : Option Addr} {c7 : Nat} {y8 : Option Nat} {c8 : Nat} {a9 : Option Addr} {c9 : Nat} {a10 : Option Addr} {c10 : Nat} {a11 : Option Addr} {c11 : Nat} {y12 : Option Nat} {c12 : Nat} {a13 : Option Addr} {c13 : Nat} {a14 : Option Addr} {c14 : Nat} {a15 : Option Addr} {c15 : Nat} {b16 : Nat} {a17 : Option Addr} {c17 : Nat} {r : Int} (h1 : RdL qI s a1 c1 p0.1.1.1) (h2 : RdL qI s a2 c2 p0.1.1.2.2.1) (h3 : RdL qT s a3 c3 p0.1.1.2.2.2) (h4 : MapD kvP qI s y4 c4 p0.1.2) (h5 : RdL qI s a5 c5 p0.2.1.1.1) (h6 : RdL qI s a6 c6 p0.2.1.1.2.2.1) (h7 : RdL qT s a7 c7 p0.2.1.1.2.2.2) (h8 : MapD kvP qI s y8 c8 p0.2.1.2) (h9 : RdL qI s a9 c9 p0.2.2.1.1.1) (h10 : RdL qI s a10 c10 p0.2.2.1.1.2.2.1) (h11 : RdL qT s a11 c11 p0.2.2.1.1.2.2.2) (h12 : MapD kvP qI s y12 c12 p0.2.2.1.2) (h13 : RdL (rL qI) s a13 c13 p0.2.2.2.1) (h14 : RdL qI s a14 c14 p0.2.2.2.2.1) (h15 : RdL qI s a15 c15 p0.2.2.2.2.2) (bx16 : Bx s t0 b16 #[.slice a1 p0.1.1.1.length c1, .int .i64 p0.1.1.2.1, .slice a2 p0.1.1.2.2.1.length c2, .slice a3 p0.1.1.2.2.2.length c3, .map y4, .slice a5 p0.2.1.1.1.length c5, .int .i64 p0.2.1.1.2.1, .slice a6 p0.2.1.1.2.2.1.length c6, .slice a7 p0.2.1.1.2.2.2.length c7, .map y8, .slice a9 p0.2.2.1.1.1.length c9, .int .i64 p0.2.2.1.1.2.1, .slice a10 p0.2.2.1.1.2.2.1.length c10, .slice a11 p0.2.2.1.1.2.2.2.length c11, .map y12, .slice a13 p0.2.2.2.1.length c13, .slice a14 p0.2.2.2.2.1.length c14, .slice a15 p0.2.2.2.2.2.length c15] 110) (h17 : RdL qI s a17 c17 p2) (hm : m_scan_task_checkImage p0 p1 p2 = some r) :
    Calls Tryz.prog 53 #[.pointer (some ⟨b16, 0, none⟩), .int .i64 p1, .slice a17 p2.length c17] s.w (RetS No s fun v s' => v = .int .i64 r) := by
 unfold m_scan_task_checkImage at hm
 obtain ⟨N, hN, hNb, lt0, -⟩ := s.freshL [t0]
 have m0 : Mv (Up N No) s s := Mv.refl _ _
 refine E.entry Tryz.func53 R Tryz.ntmps53 R R (ER (L.as Y R R (LN (E.seq (ER (L.mv Y R R (L.bi Y R R R R (L.mv Y R R (L.cut 9 (fun e w => ∃ (v18 : Bool), ((decide (p1 < 0)) || (decide (p1 ≥ p0.2.1.1.2.1))) = v18 ∧ e = (19, .bool v18) :: [(0, .pointer (some ⟨b16, 0, none⟩)), (2, .slice a17 p2.length c17)] ∧ w = s.w) ?_ ?_)))))))))
 ·rintro _ _ ⟨v18, rfl, rfl, rfl⟩
  refine L.nil (X.seqN ?_)
  rcases ifS hm with ⟨hc, hm⟩ | ⟨hc, hm⟩
  ·refine E.cT R hc (ER (L.as Y R R (LN (E.ret (X.seqR ?_)))))
   obtain rfl := oi hm
   exact X.rt (.inl R) Tryz.results53 (Rs.tmp R Rs.nil) R ⟨_, (s).ren N (fun _ => 0), R, R, m0.ren hNb, R⟩
  refine E.cF R hc (E.skip (X.seqN (E.seq (ER (L.mv Y R R ?_)))))
  obtain ⟨r19, er19, hm⟩ := bindS hm
  refine L.ca cf29 R R Y R (m_alphabet_CheckSet_c (s := s) (p0 := p2) (p1 := 32) h17 er19) R ?_
  rintro _ s20 m21 rfl
  replace m0 := m0.trans m21.no
  replace h17 := h17.mono m21.z
  replace bx16 := bx16.mv m21 no_No
  replace h1 := h1.mono m21.z
  refine L.as Y R R (LN (ER (L.mv Y R R (L.bi Y R R R R (L.nil (X.seqN ?_))))))
  rcases ifS hm with ⟨hc, hm⟩ | ⟨hc, hm⟩
  ·refine E.cT R hc (ER (L.mv Y R R (L.as Y R R (LN (E.ret (X.seqR ?_))))))
   obtain rfl := oi hm
   exact X.rt (.inl R) Tryz.results53 (Rs.tmp R Rs.nil) R ⟨_, (s20).ren N (fun _ => 0), R, R, m0.ren hNb, R⟩
  refine E.cF R hc (E.skip (X.seqN (E.seq (E.block (ER (L.mv Y R R (L.len sl22 Y R R (L.bi Y R R R R (L.as Y R R (L.nil (X.seqN ?_)))))))))))
  rcases ifS hm with ⟨hc, hm⟩ | ⟨hc, hm⟩
  ·refine E.cT R hc (ER (L.as Y R R (LN (E.ret (X.blkR (X.seqR ?_))))))
   obtain rfl := oi hm
   exact X.rt (.inl R) Tryz.results53 (Rs.tmp R Rs.nil) R ⟨_, (s20).ren N (fun _ => 0), R, R, m0.ren hNb, R⟩
  refine E.cF R hc (ER (L.mv Y R R (L.mv Y R R (L.nc Y R R (L.fa fa110_0 Y R R (L.fa fa108_0 Y R R (L.fa fa25_0 Y R R (L.ld (j := 0) bx16.mem nag22 Y R R R R ?_))))))))
  obtain ⟨r22, er22, hm⟩ := bindS hm
  refine L.ca cf30 R R Y R (m_alphabet_Subset_c (s := s20) (p0 := p2) (p1 := p0.1.1.1) h17 h1 er22) R ?_
  rintro _ s23 m24 rfl
  replace m0 := m0.trans m24.no
  refine L.not Y R R (L.as Y R R (L.nil (X.seqN ?_)))
  rcases ifS hm with ⟨hc, hm⟩ | ⟨hc, hm⟩
  ·refine E.cT R hc (ER (L.as Y R R (LN (E.ret (X.blkR (X.seqR ?_))))))
   obtain rfl := oi hm
   exact X.rt (.inl R) Tryz.results53 (Rs.tmp R Rs.nil) R ⟨_, (s23).ren N (fun _ => 0), R, R, m0.ren hNb, R⟩
  refine E.cF R hc (E.skip (X.blkN (X.seqN (ER (L.as Y R R (LN (E.ret ?_)))))))
  obtain rfl := oi hm
  exact X.rt (.inl R) Tryz.results53 (Rs.tmp R Rs.nil) R ⟨_, (s23).ren N (fun _ => 0), R, R, m0.ren hNb, R⟩
 intro J25
 rcases Bool.eq_false_or_eq_true (decide (p1 < 0)) with hc | hc
 ·exact L.know (d := 10) R hc (L.skip R R R R (L.skip R R R R (L.skip R R R R (L.skip R R R R (L.skip R R R R (L.skip R R R R (L.skip R R R R (L.skip R R R R (L.pkT Y R R R R (L.sb (J25 _ _ ⟨true, (orT hc).symm, R, R⟩) R))))))))))
 exact L.know (d := 10) R hc (L.mv (Wt.mk R R) R R (L.mv (Wt.mk R R) R R (L.nc (Wt.mk R R) R R (L.fa fa110_1 (Wt.mk R R) R R (L.fa fa108_0 (Wt.mk R R) R R (L.fa fa25_1 (Wt.mk R R) R R (L.ld (j := 6) bx16.mem nag3 (Wt.mk R R) R R R R (L.bi (Wt.mk R R) R R R R (L.pkF Y R R R R (L.sb (J25 _ _ ⟨(decide (p1 ≥ p0.2.1.1.2.1)), (orF hc).symm, R, R⟩) R))))))))))

end Go.Proofs.YtidakgbibobbdaaGreatDoor

