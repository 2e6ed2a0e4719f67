/- Parts of the proof, without what nothing here names. -/
import Derived.Test.YtfbapajcheammaaDoorProg
import Derived.Test.YtfbapajcheammaaDoorQE3
namespace Go.Proofs.YtfbapajcheammaaDoor
open Go Go.RowKit
theorem ag109 : Ag Tryd.prog 109 2 := Ag.mk' Tryd.underlying109 rfl (by kernel_rfl)
theorem sl110 : Sl Tryd.prog 110 109 2 := Sl.mk' Tryd.underlying110 (by kernel_rfl)
noncomputable def m_slices_IndexFunc_blocking_test_blocking_test_l1 (p0 : List (Int × (Option (Int → Option Bool)))) (p1 : (Int × (Option (Int → Option Bool))) → Option Bool) (st10 : Int) : Option (Int ⊕ (Unit ⊕ Int)) :=
  if decide (st10 < (p0.length : Int)) then
    (idx p0 st10).bind fun x19 =>
    (p1 x19).bind fun r22 =>
    if r22 then
      some (.inr (.inr (st10)))
    else
      some (.inl (W (st10 + 1)))
  else
    some (.inr (.inl ()))
/-- What blocking.test> computes. -/
noncomputable def m_slices_IndexFunc_blocking_test_blocking_test (p0 : List (Int × (Option (Int → Option Bool)))) (p1 : (Int × (Option (Int → Option Bool))) → Option Bool) : Option Int :=
  (iter (m_slices_IndexFunc_blocking_test_blocking_test_l1 p0 p1) 0).bind fun o10 =>
  match o10 with
  | .inl u13 =>
    some (-1)
  | .inr (u16) =>
    some u16
set_option maxRecDepth 100000 in
set_option maxHeartbeats 8000000 in
theorem m_slices_IndexFunc_blocking_test_blocking_test_c {s : Sig} {p0 : List (Int × (Option (Int → Option Bool)))} {p1 : (Int × (Option (Int → Option Bool))) → Option Bool} {a1 : Option Addr} {c1 : Nat} {vp1 : Value} {r : Int} (h1 : RdL (rP (rK .i64) (rF1 Tryd.prog (fun (x0 : Int) => [.int .i64 x0]) (fun (r : Bool) => .bool r))) s a1 c1 p0) (hp1 : FW1 Tryd.prog s vp1 (rP (rK .i64) (rF1 Tryd.prog (fun (x0 : Int) => [.int .i64 x0]) (fun (r : Bool) => .bool r))) (fun (r : Bool) => .bool r) p1) (hm : m_slices_IndexFunc_blocking_test_blocking_test p0 p1 = some r) :
    Calls Tryd.prog 69 #[.slice a1 p0.length c1, vp1] s.w (RetS No s fun v s' => v = .int .i64 r) := by
 unfold m_slices_IndexFunc_blocking_test_blocking_test at hm
 obtain ⟨N, hN, hNb⟩ := s.fresh
 have m0 : Mv (Up N No) s s := Mv.refl _ _
 refine E.entry Tryd.func69 rfl Tryd.ntmps69 rfl rfl (E.seq (E.reg (L.as Wt.no rfl rfl (L.nil (X.seqN (E.seq (E.seq (E.reg (L.mv Wt.no rfl rfl (L.len sl110 Wt.no rfl rfl (L.mv Wt.no rfl rfl (L.nil (X.seqN (E.block ?_))))))))))))))
 obtain ⟨o10, eo10, hm⟩ := bindS hm
 refine E.cut (x := .exit 0) (fun e w => ∃ (s14 : Sig) (u13 : Unit), o10 = .inl u13 ∧ Mv (Up N No) s s14 ∧ e = [] ∧ w = s14.w) ?_ ?_
 ·rintro _ _ ⟨s14, u13, rfl, m0, rfl, rfl⟩
  dsimp only at hm
  refine X.blkE (X.seqN (E.seq (E.reg (L.as Wt.no rfl rfl (L.nil (X.seqN (E.ret ?_)))))))
  obtain rfl := Option.some.inj hm
  exact X.rt (.inl rfl) Tryd.results69 (Rs.tmp rfl Rs.nil) rfl ⟨_, (s14).ren N (fun _ => 0), rfl, rfl, m0.ren hNb, rfl⟩
 intro K15
 refine E.cut (x := .ret) (fun e w => ∃ (s17 : Sig) (u16 : Int), o10 = .inr (u16) ∧ Mv (Up N No) s s17 ∧ e = [(4, .int .i64 u16)] ∧ w = s17.w) ?_ ?_
 ·rintro _ _ ⟨s17, u16, rfl, m0, rfl, rfl⟩
  dsimp only at hm
  refine X.blkR (X.seqR ?_)
  obtain rfl := Option.some.inj hm
  exact X.rt (.inl rfl) Tryd.results69 (Rs.tmp rfl Rs.nil) rfl ⟨_, (s17).ren N (fun _ => 0), rfl, rfl, m0.ren hNb, rfl⟩
 intro K18
 refine E.iter (fun (st10 : Int) (e : List (Nat × Value)) (w : World) => ∃ (s12 : Sig), Mv (Up N No) s s12 ∧ RdL (rP (rK .i64) (rF1 Tryd.prog (fun (x0 : Int) => [.int .i64 x0]) (fun (r : Bool) => .bool r))) s12 a1 c1 p0 ∧ FW1 Tryd.prog s12 vp1 (rP (rK .i64) (rF1 Tryd.prog (fun (x0 : Int) => [.int .i64 x0]) (fun (r : Bool) => .bool r))) (fun (r : Bool) => .bool r) p1 ∧ e = [(8, .int .i64 st10), (7, .int .i64 (p0.length : Int)), (0, .slice a1 p0.length c1), (1, vp1)] ∧ w = s12.w) eo10 ⟨s, m0, h1, hp1, rfl, rfl⟩ (Sub.rf rfl) ?_
 rintro st10 res10 hm ih10 ho10 _ _ ⟨s12, m0, h1, hp1, rfl, rfl⟩
 unfold m_slices_IndexFunc_blocking_test_blocking_test_l1 at hm
 refine E.seq (E.reg (L.bi Wt.no rfl rfl rfl rfl (L.nil (X.seqN (E.seq ?_)))))
 rcases ifS hm with ⟨hc, hm⟩ | ⟨hc, hm⟩
 ·refine E.cT rfl hc (E.skip (X.seqN (E.seq (E.block (E.seq (E.reg (L.mv Wt.no rfl rfl (L.as Wt.no rfl rfl (L.nil (X.seqN (E.seq (E.reg (L.mv Wt.no rfl rfl (L.mv Wt.no rfl rfl (L.mv Wt.no rfl rfl ?_)))))))))))))))
  obtain ⟨x19, ex19, hm⟩ := bindS hm
  refine L.ix (r := (rP (rK .i64) (rF1 Tryd.prog (fun (x0 : Int) => [.int .i64 x0]) (fun (r : Bool) => .bool r)))) sl110 h1 Wt.no rfl rfl ex19 rfl fun b20 o20 cc20 me20 rd20 => ?_
  obtain ⟨_, _, rfl, rfl, ⟨v21, rfl, h21⟩⟩ := rd20
  refine L.lg (j := 0) (cs := [.int .i64 x19.1, v21]) me20 ag109 Wt.no rfl rfl rfl rfl rfl ?_
  obtain ⟨r22, er22, hm⟩ := bindS hm
  refine L.fw1 (cs := [.int .i64 x19.1, v21]) (y := x19) hp1 ⟨[.int .i64 x19.1], [v21], rfl, rfl, ⟨_, rfl, h21⟩⟩ rfl rfl Wt.no rfl rfl er22 rfl fun s23 m24 => ?_
  replace m0 := m0.trans m24.no
  replace h1 := h1.mono (m24.le no_No)
  replace hp1 := hp1.mono (m24.le no_No)
  refine L.nil (X.seqN ?_)
  rcases ifS hm with ⟨hc, hm⟩ | ⟨hc, hm⟩
  ·refine E.cT rfl hc (E.seq (E.reg (L.mv Wt.no rfl rfl (L.as Wt.no rfl rfl (L.nil (X.seqN (E.ret (X.blkR (X.seqR (X.seqR ?_))))))))))
   have hx := ho10 _ (Option.some.inj hm).symm
   exact X.sub (K18 _ _ ⟨s23, st10, hx.symm, m0, rfl, rfl⟩) (Sub.rf rfl)
  exact E.cF rfl hc (E.skip (X.blkN (X.seqN (E.reg (L.bi Wt.no rfl rfl rfl rfl (L.mv Wt.no rfl rfl (L.nil (X.sub (ih10 _ (Option.some.inj hm).symm _ _ ⟨s23, m0, h1, hp1, rfl, rfl⟩) (Sub.rf rfl)))))))))
 refine E.cF rfl hc (E.exit (X.seqX (X.seqX ?_)))
 have hx := ho10 _ (Option.some.inj hm).symm
 exact X.sub (K15 _ _ ⟨s12, (), hx.symm, m0, rfl, rfl⟩) Sub.nil

theorem bs110 : Bs Tryd.prog 110 109 2 [.int .i64 0, .nilFunc] := Bs.mk' Tryd.underlying110 (by kernel_rfl) (by kernel_rfl) rfl
theorem cf35 : Cf Tryd.prog 35 := Cf.mk Tryd.func35 (by kernel_rfl) (by kernel_rfl)
theorem cf64 : Cf Tryd.prog 64 := Cf.mk Tryd.func64 (by kernel_rfl) (by kernel_rfl)
theorem cf65 : Cf Tryd.prog 65 := Cf.mk Tryd.func65 (by kernel_rfl) (by kernel_rfl)
theorem cf66 : Cf Tryd.prog 66 := Cf.mk Tryd.func66 (by kernel_rfl) (by kernel_rfl)
theorem cf67 : Cf Tryd.prog 67 := Cf.mk Tryd.func67 (by kernel_rfl) (by kernel_rfl)
theorem cf68 : Cf Tryd.prog 68 := Cf.mk Tryd.func68 (by kernel_rfl) (by kernel_rfl)
theorem cf69 : Cf Tryd.prog 69 := Cf.mk Tryd.func69 (by kernel_rfl) (by kernel_rfl)
theorem cf70 : Cf Tryd.prog 70 := Cf.mk Tryd.func70 (by kernel_rfl) (by kernel_rfl)
theorem fa109_0 : FA Tryd.prog 109 0 0 := FA.mk Tryd.underlying109 rfl rfl ⟨1, by decide, by kernel_rfl⟩
theorem nag4 : NAg Tryd.prog 4 := NAg.mk' Tryd.underlying4 rfl (by kernel_rfl)
theorem pl109 : Pl Tryd.prog 109 [(0, 1), (1, 1)] [.int .i64 0, .nilFunc] := Pl.str Tryd.underlying109 (by kernel_rfl) (by kernel_rfl)
theorem sl77 : Sl Tryd.prog 77 4 1 := Sl.mk' Tryd.underlying77 (by kernel_rfl)
theorem zr4 : Zr Tryd.prog rB 4 1 false := Zr.mk' (v := .bool false) (by kernel_rfl) (by kernel_rfl) (by kernel_rfl) (fun _ => rfl)
theorem zz3 : (Tryd.prog.info? 3).bind (·.zero) = some (.int .i64 0) := by kernel_rfl
theorem zz31 : (Tryd.prog.info? 31).bind (·.zero) = some (.slice none 0 0) := by kernel_rfl
theorem fv68 {s : Sig} : FV1 Tryd.prog s (.func (.func 68) #[] #[]) (fun (x0 : Int) => [.int .i64 x0]) (fun r => .bool r) m_blocking_kinds_5 := ⟨68, #[], #[], rfl, cf68, fun x0 r hm s' hl => by have hh := m_blocking_kinds_5_c (s := s') hm; simpa using hh⟩
noncomputable def m_blocking_kinds_l3 (r8 : List Int) (r71 : List Int) (x89 : List Int) (st125 : Int × List Int) : Option ((Int × List Int) ⊕ (List Int)) :=
  if decide (st125.1 < (x89.length : Int)) then
    (m_slices_IndexFunc_blocking_test_blocking_test ([(1, (some (m_blocking_kinds_1 r8))), (2, (some (m_blocking_kinds_2 r8))), (3, (some (m_blocking_kinds_3 r71))), (5, (some (m_blocking_kinds_4 r71))), (4, (some m_blocking_kinds_5))] : List (Int × (Option (Int → Option Bool)))) (m_blocking_kinds_6 st125.1)).bind fun r137 =>
    (idx ([(1, (some (m_blocking_kinds_1 r8))), (2, (some (m_blocking_kinds_2 r8))), (3, (some (m_blocking_kinds_3 r71))), (5, (some (m_blocking_kinds_4 r71))), (4, (some m_blocking_kinds_5))] : List (Int × (Option (Int → Option Bool)))) r137).bind fun x145 =>
    (idx st125.2 st125.1).bind fun x151 =>
    (upd st125.2 st125.1 x145.1).bind fun x154 =>
    some (.inl (W (st125.1 + 1), x154))
  else
    some (.inr st125.2)
noncomputable def m_blocking_kinds_j1 (st65 : Int × List Int) (l159 : List Int) : Option ((Int × List Int) ⊕ (List Int)) :=
  some (.inl (W (st65.1 + 1), l159))
noncomputable def m_blocking_kinds_l2 (r8 : List Int) (o37 : List Bool) (st65 : Int × List Int) : Option ((Int × List Int) ⊕ (List Int)) :=
  if decide (st65.1 < (r8.length : Int)) then
    (idx r8 st65.1).bind fun x163 =>
    (if decide (x163 < 0) then
      (idx o37 st65.1).bind fun x175 =>
      some (!x175)
    else
      some false).bind fun b165 =>
    if b165 then
      (app st65.2 ([st65.1] : List Int)).bind fun x170 =>
      m_blocking_kinds_j1 st65 x170
    else
      m_blocking_kinds_j1 st65 st65.2
  else
    some (.inr st65.2)
noncomputable def m_blocking_kinds_l1 (p0 : List Int × Int × List Int × (List (Int × Int × Int))) (st37 : Int × List Bool) : Option ((Int × List Bool) ⊕ (List Bool)) :=
  if decide (st37.1 < (p0.2.2.2.length : Int)) then
    (idx p0.2.2.2 st37.1).bind fun x178 =>
    (idx st37.2 x178.1).bind fun x185 =>
    (upd st37.2 x178.1 true).bind fun x187 =>
    some (.inl (W (st37.1 + 1), x187))
  else
    some (.inr st37.2)
/-- What blocking.kinds computes. -/
noncomputable def m_blocking_kinds (p0 : List Int × Int × List Int × (List (Int × Int × Int))) : Option (List Int) :=
  (m_blocking_spread p0 p0.2.2.1).bind fun r8 =>
  (mkL p0.2.1 false).bind fun x17 =>
  (iter (m_blocking_kinds_l1 p0) (0, x17)).bind fun o37 =>
  (iter (m_blocking_kinds_l2 r8 o37) (0, ([] : List Int))).bind fun o65 =>
  (m_blocking_spread p0 o65).bind fun r71 =>
  (mkL p0.2.1 (0 : Int)).bind fun x89 =>
  (iter (m_blocking_kinds_l3 r8 r71 x89) (0, x89)).bind fun o125 =>
  some o125
set_option maxRecDepth 100000 in
set_option maxHeartbeats 8000000 in
theorem m_blocking_kinds_c {s : Sig} {p0 : List Int × Int × List Int × (List (Int × Int × Int))} {a1 : Option Addr} {c1 : Nat} {a2 : Option Addr} {c2 : Nat} {a3 : Option Addr} {c3 : Nat} {u0 : Nat} {r : List Int} (h1 : RdL (rK .i64) s a1 c1 p0.1) (h2 : RdL (rK .i64) s a2 c2 p0.2.2.1) (h3 : RdL (rP (rK .i64) (rP (rK .i64) (rK .i64))) s a3 c3 p0.2.2.2) (hm : m_blocking_kinds p0 = some r) :
    Calls Tryd.prog 40 #[.agg #[.slice a1 p0.1.length c1, .int .i64 p0.2.1, .slice a2 p0.2.2.1.length c2, .slice a3 p0.2.2.2.length c3]] s.w (RetS No s fun v s' => ∃ (a4 : Option Addr) (c4 : Nat), v = .slice a4 r.length c4 ∧ RowT (rK .i64) s' u0 3 a4 c4 r) := by
 unfold m_blocking_kinds at hm
 obtain ⟨N, hN, hNb⟩ := s.fresh
 have m0 : Mv (Up N No) s s := Mv.refl _ _
 refine E.entry Tryd.func40 rfl Tryd.ntmps40 rfl rfl (E.seq (E.reg (L.box (N + 0) Wt.no rfl rfl rfl fun b5 s6 m7 bx5 => ?_)))
 replace m0 := m0.trans m7.no
 replace h1 := h1.mono (m7.le no_No)
 replace h2 := h2.mono (m7.le no_No)
 replace h3 := h3.mono (m7.le no_No)
 refine L.as Wt.no rfl rfl (L.nil (X.seqN (E.seq (E.reg (L.lg (j := 0) (cs := [.slice a1 p0.1.length c1, .int .i64 p0.2.1, .slice a2 p0.2.2.1.length c2, .slice a3 p0.2.2.2.length c3]) bx5.mem ag34 Wt.no rfl rfl rfl rfl rfl (L.fa fa34_2 Wt.no rfl rfl (L.ld (j := 2) bx5.mem nag31 Wt.no rfl rfl rfl rfl ?_)))))))
 obtain ⟨r8, er8, hm⟩ := bindS hm
 refine L.ca cf35 rfl rfl Wt.no rfl (m_blocking_spread_c (s := s6) (p0 := p0) (p1 := p0.2.2.1) (u0 := 0) h1 h2 h3 h2 er8) rfl ?_
 rintro _ s9 m10 ⟨a11, c11, rfl, h11⟩
 replace h11 := h11.p
 replace m0 := m0.trans m10.no
 replace bx5 := bx5.mv m10 no_No
 replace h1 := h1.mono (m10.le no_No)
 replace h2 := h2.mono (m10.le no_No)
 replace h3 := h3.mono (m10.le no_No)
 refine L.al (N + 1) zz31 rfl Wt.no rfl fun b12 s13 m14 bx12 => ?_
 replace m0 := m0.trans m14.no
 replace h11 := h11.mono (m14.le no_No)
 replace bx5 := bx5.mv m14 no_No
 replace h1 := h1.mono (m14.le no_No)
 replace h2 := h2.mono (m14.le no_No)
 replace h3 := h3.mono (m14.le no_No)
 refine L.st (c := [.slice a11 r8.length c11]) (cs' := #[.slice a11 r8.length c11]) bx12 nag31.sz Wt.no rfl rfl rfl rfl rfl (Nat.le_of_ble_eq_true rfl) rfl fun s15 m16 bx12 => ?_
 replace m0 := m0.trans (m16.one up)
 replace bx5 := bx5.mv m16 (tgN (by decide))
 replace h1 := h1.mono (m16.le (tg0 hN))
 replace h2 := h2.mono (m16.le (tg0 hN))
 replace h3 := h3.mono (m16.le (tg0 hN))
 replace h11 := h11.mono (m16.le (tg0 hN))
 refine L.nil (X.seqN (E.seq (E.reg (L.fa fa34_1 Wt.no rfl rfl (L.ld (j := 1) bx5.mem nag3 Wt.no rfl rfl rfl rfl ?_)))))
 obtain ⟨x17, ex17, hm⟩ := bindS hm
 refine L.mk (z := false) (N + 2) Tryd.underlying77 zr4 rfl Wt.no rfl rfl ex17 rfl fun b18 s19 m20 h18 => ?_
 replace m0 := m0.trans m20.no
 replace bx5 := bx5.mv m20 no_No
 replace h1 := h1.mono (m20.le no_No)
 replace h2 := h2.mono (m20.le no_No)
 replace h3 := h3.mono (m20.le no_No)
 replace bx12 := bx12.mv m20 no_No
 replace h11 := h11.mono (m20.le no_No)
 refine L.as Wt.no rfl rfl (L.nil (X.seqN (E.seq (E.seq (E.reg (L.fa fa34_3 Wt.no rfl rfl (L.ld (j := 3) bx5.mem nag32 Wt.no rfl rfl rfl rfl (L.len sl32 Wt.no rfl rfl (L.mv Wt.no rfl rfl (L.nil (X.seqN (E.block ?_))))))))))))
 obtain ⟨o37, eo37, hm⟩ := bindS hm
 refine E.cut (x := .exit 0) (fun e w => ∃ (s40 : Sig), Mv (Up N No) s s40 ∧ RowT rB s40 (N + 2) 4 (some ⟨b18, 0, none⟩) x17.length o37 ∧ RdL (rK .i64) s40 a1 c1 p0.1 ∧ RdL (rK .i64) s40 a2 c2 p0.2.2.1 ∧ RdL (rP (rK .i64) (rP (rK .i64) (rK .i64))) s40 a3 c3 p0.2.2.2 ∧ RdL (rK .i64) s40 a11 c11 r8 ∧ Bx s40 (N + 0) b5 #[.slice a1 p0.1.length c1, .int .i64 p0.2.1, .slice a2 p0.2.2.1.length c2, .slice a3 p0.2.2.2.length c3] 34 ∧ Bx s40 (N + 1) b12 #[.slice a11 r8.length c11] 31 ∧ e = [(4, .slice (some ⟨b18, 0, none⟩) o37.length x17.length), (3, .pointer (some ⟨b12, 0, none⟩)), (1, .pointer (some ⟨b5, 0, none⟩))] ∧ w = s40.w) ?_ ?_
 ·rintro _ _ ⟨s40, m0, h18, h1, h2, h3, h11, bx5, bx12, rfl, rfl⟩
  refine X.blkE (X.seqN (E.seq (E.reg (L.as Wt.no rfl rfl (L.nil (X.seqN (E.seq (E.seq (E.reg (L.ld (j := 0) bx12.mem nag31 Wt.no rfl rfl rfl rfl (L.len sl31 Wt.no rfl rfl (L.mv Wt.no rfl rfl (L.nil (X.seqN (E.block ?_)))))))))))))))
  obtain ⟨o65, eo65, hm⟩ := bindS hm
  refine E.cut (x := .exit 2) (fun e w => ∃ (s69 : Sig) (a67 : Option Addr) (c67 : Nat), Mv (Up N No) s s69 ∧ RowT (rK .i64) s69 (N + 4) 3 a67 c67 o65 ∧ RdL (rK .i64) s69 a1 c1 p0.1 ∧ RdL (rK .i64) s69 a2 c2 p0.2.2.1 ∧ RdL (rP (rK .i64) (rP (rK .i64) (rK .i64))) s69 a3 c3 p0.2.2.2 ∧ RdL (rK .i64) s69 a11 c11 r8 ∧ Bx s69 (N + 0) b5 #[.slice a1 p0.1.length c1, .int .i64 p0.2.1, .slice a2 p0.2.2.1.length c2, .slice a3 p0.2.2.2.length c3] 34 ∧ Bx s69 (N + 1) b12 #[.slice a11 r8.length c11] 31 ∧ e = [(7, .slice a67 o65.length c67), (3, .pointer (some ⟨b12, 0, none⟩)), (1, .pointer (some ⟨b5, 0, none⟩))] ∧ w = s69.w) ?_ ?_
  ·rintro _ _ ⟨s69, a67, c67, m0, h67, h1, h2, h3, h11, bx5, bx12, rfl, rfl⟩
   refine X.blkE (X.seqN (E.seq (E.reg (L.lg (j := 0) (cs := [.slice a1 p0.1.length c1, .int .i64 p0.2.1, .slice a2 p0.2.2.1.length c2, .slice a3 p0.2.2.2.length c3]) bx5.mem ag34 Wt.no rfl rfl rfl rfl rfl (L.mv Wt.no rfl rfl ?_)))))
   have m70 := Sig.fz_mv (N + 4) s69
   replace h67 := h67.fz (tgn hN)
   replace m0 := m0.trans (m70.one up)
   replace h1 := h1.mono (m70.le (tg0 hN))
   replace h2 := h2.mono (m70.le (tg0 hN))
   replace h3 := h3.mono (m70.le (tg0 hN))
   replace bx5 := bx5.mv m70 (tgN (by decide))
   replace bx12 := bx12.mv m70 (tgN (by decide))
   replace h11 := h11.mono (m70.le (tg0 hN))
   refine L.toR (s' := (Sig.fz (N + 4) s69)) rfl ?_
   obtain ⟨r71, er71, hm⟩ := bindS hm
   refine L.ca cf35 rfl rfl Wt.no rfl (m_blocking_spread_c (s := (Sig.fz (N + 4) s69)) (p0 := p0) (p1 := o65) (u0 := 0) h1 h2 h3 h67 er71) rfl ?_
   rintro _ s72 m73 ⟨a74, c74, rfl, h74⟩
   replace h74 := h74.p
   replace m0 := m0.trans m73.no
   replace bx5 := bx5.mv m73 no_No
   replace bx12 := bx12.mv m73 no_No
   replace h11 := h11.mono (m73.le no_No)
   refine L.al (N + 5) zz31 rfl Wt.no rfl fun b75 s76 m77 bx75 => ?_
   replace m0 := m0.trans m77.no
   replace h74 := h74.mono (m77.le no_No)
   replace bx5 := bx5.mv m77 no_No
   replace bx12 := bx12.mv m77 no_No
   replace h11 := h11.mono (m77.le no_No)
   refine L.st (c := [.slice a74 r71.length c74]) (cs' := #[.slice a74 r71.length c74]) bx75 nag31.sz Wt.no rfl rfl rfl rfl rfl (Nat.le_of_ble_eq_true rfl) rfl fun s78 m79 bx75 => ?_
   replace m0 := m0.trans (m79.one up)
   replace bx5 := bx5.mv m79 (tgN (by decide))
   replace h74 := h74.mono (m79.le (tg0 hN))
   replace bx12 := bx12.mv m79 (tgN (by decide))
   replace h11 := h11.mono (m79.le (tg0 hN))
   refine L.nil (X.seqN (E.seq (E.reg ?_)))
   have m80 := Sig.fz_mv (N + 1) s78
   replace bx12 := bx12.fz (tgn hN)
   replace m0 := m0.trans (m80.one up)
   replace bx5 := bx5.mv m80 (tgN (by decide))
   replace h11 := h11.mono (m80.le (tg0 hN))
   replace bx75 := bx75.mv m80 (tgN (by decide))
   replace h74 := h74.mono (m80.le (tg0 hN))
   refine L.toR (s' := (Sig.fz (N + 1) s78)) rfl ?_
   have h81 : FV1 Tryd.prog (Sig.fz (N + 1) s78) (.func (.func 64) #[] #[.pointer (some ⟨b12, 0, none⟩)]) (fun (x0 : Int) => [.int .i64 x0]) (fun (r : Bool) => .bool r) (m_blocking_kinds_1 r8) := ⟨64, #[], #[.pointer (some ⟨b12, 0, none⟩)], rfl, cf64, fun x0 r hm s' hl => by have hh := m_blocking_kinds_1_c (s := s') (h11.mono hl) (bx12.le hl) hm; simpa using hh⟩
   refine L.mf Wt.no rfl rfl rfl (L.bu (cs := [.int .i64 1, (.func (.func 64) #[] #[.pointer (some ⟨b12, 0, none⟩)])]) pl109 Wt.no rfl rfl rfl ?_)
   have h82 : FV1 Tryd.prog (Sig.fz (N + 1) s78) (.func (.func 65) #[] #[.pointer (some ⟨b12, 0, none⟩)]) (fun (x0 : Int) => [.int .i64 x0]) (fun (r : Bool) => .bool r) (m_blocking_kinds_2 r8) := ⟨65, #[], #[.pointer (some ⟨b12, 0, none⟩)], rfl, cf65, fun x0 r hm s' hl => by have hh := m_blocking_kinds_2_c (s := s') (h11.mono hl) (bx12.le hl) hm; simpa using hh⟩
   refine L.mf Wt.no rfl rfl rfl (L.bu (cs := [.int .i64 2, (.func (.func 65) #[] #[.pointer (some ⟨b12, 0, none⟩)])]) pl109 Wt.no rfl rfl rfl ?_)
   have m83 := Sig.fz_mv (N + 5) (Sig.fz (N + 1) s78)
   replace bx75 := bx75.fz (tgn hN)
   replace m0 := m0.trans (m83.one up)
   replace h81 := h81.mono (m83.le (tg0 hN))
   replace h82 := h82.mono (m83.le (tg0 hN))
   replace bx5 := bx5.mv m83 (tgN (by decide))
   replace h74 := h74.mono (m83.le (tg0 hN))
   refine L.toR (s' := (Sig.fz (N + 5) (Sig.fz (N + 1) s78))) rfl ?_
   have h84 : FV1 Tryd.prog (Sig.fz (N + 5) (Sig.fz (N + 1) s78)) (.func (.func 66) #[] #[.pointer (some ⟨b75, 0, none⟩)]) (fun (x0 : Int) => [.int .i64 x0]) (fun (r : Bool) => .bool r) (m_blocking_kinds_3 r71) := ⟨66, #[], #[.pointer (some ⟨b75, 0, none⟩)], rfl, cf66, fun x0 r hm s' hl => by have hh := m_blocking_kinds_3_c (s := s') (h74.mono hl) (bx75.le hl) hm; simpa using hh⟩
   refine L.mf Wt.no rfl rfl rfl (L.bu (cs := [.int .i64 3, (.func (.func 66) #[] #[.pointer (some ⟨b75, 0, none⟩)])]) pl109 Wt.no rfl rfl rfl ?_)
   have h85 : FV1 Tryd.prog (Sig.fz (N + 5) (Sig.fz (N + 1) s78)) (.func (.func 67) #[] #[.pointer (some ⟨b75, 0, none⟩)]) (fun (x0 : Int) => [.int .i64 x0]) (fun (r : Bool) => .bool r) (m_blocking_kinds_4 r71) := ⟨67, #[], #[.pointer (some ⟨b75, 0, none⟩)], rfl, cf67, fun x0 r hm s' hl => by have hh := m_blocking_kinds_4_c (s := s') (h74.mono hl) (bx75.le hl) hm; simpa using hh⟩
   refine L.mf Wt.no rfl rfl rfl (L.bu (cs := [.int .i64 5, (.func (.func 67) #[] #[.pointer (some ⟨b75, 0, none⟩)])]) pl109 Wt.no rfl rfl rfl (L.bu (cs := [.int .i64 4, (.func (.func 68) #[] #[])]) pl109 Wt.no rfl rfl rfl (L.bsE (k := 5) (cs := [.int .i64 1, (.func (.func 64) #[] #[.pointer (some ⟨b12, 0, none⟩)]), .int .i64 2, (.func (.func 65) #[] #[.pointer (some ⟨b12, 0, none⟩)]), .int .i64 3, (.func (.func 66) #[] #[.pointer (some ⟨b75, 0, none⟩)]), .int .i64 5, (.func (.func 67) #[] #[.pointer (some ⟨b75, 0, none⟩)]), .int .i64 4, (.func (.func 68) #[] #[])]) 0 bs110 (Nat.le_of_ble_eq_true rfl) Wt.no rfl rfl rfl rfl fun b86 s87 m88 bx86 => ?_)))
   replace m0 := m0.trans m88.no
   replace bx5 := bx5.mv m88 no_No
   replace h81 := h81.mono (m88.le no_No)
   replace h82 := h82.mono (m88.le no_No)
   replace h84 := h84.mono (m88.le no_No)
   replace h85 := h85.mono (m88.le no_No)
   have h86 := Bx.rdL (r := (rP (rK .i64) (rF1 Tryd.prog (fun (x0 : Int) => [.int .i64 x0]) (fun (r : Bool) => .bool r)))) (xs := ([(1, (some (m_blocking_kinds_1 r8))), (2, (some (m_blocking_kinds_2 r8))), (3, (some (m_blocking_kinds_3 r71))), (5, (some (m_blocking_kinds_4 r71))), (4, (some m_blocking_kinds_5))] : List (Int × (Option (Int → Option Bool))))) bx86 ⟨[.int .i64 1, (.func (.func 64) #[] #[.pointer (some ⟨b12, 0, none⟩)])], _, rfl, ⟨[.int .i64 1], [(.func (.func 64) #[] #[.pointer (some ⟨b12, 0, none⟩)])], rfl, rfl, ⟨_, rfl, h81⟩⟩, ⟨[.int .i64 2, (.func (.func 65) #[] #[.pointer (some ⟨b12, 0, none⟩)])], _, rfl, ⟨[.int .i64 2], [(.func (.func 65) #[] #[.pointer (some ⟨b12, 0, none⟩)])], rfl, rfl, ⟨_, rfl, h82⟩⟩, ⟨[.int .i64 3, (.func (.func 66) #[] #[.pointer (some ⟨b75, 0, none⟩)])], _, rfl, ⟨[.int .i64 3], [(.func (.func 66) #[] #[.pointer (some ⟨b75, 0, none⟩)])], rfl, rfl, ⟨_, rfl, h84⟩⟩, ⟨[.int .i64 5, (.func (.func 67) #[] #[.pointer (some ⟨b75, 0, none⟩)])], _, rfl, ⟨[.int .i64 5], [(.func (.func 67) #[] #[.pointer (some ⟨b75, 0, none⟩)])], rfl, rfl, ⟨_, rfl, h85⟩⟩, ⟨[.int .i64 4, (.func (.func 68) #[] #[])], _, rfl, ⟨[.int .i64 4], [(.func (.func 68) #[] #[])], rfl, rfl, ⟨_, rfl, fv68⟩⟩, rfl⟩⟩⟩⟩⟩ (Nat.le_of_ble_eq_true rfl)
   refine L.as Wt.no rfl rfl (L.nil (X.seqN (E.seq (E.reg (L.fa fa34_1 Wt.no rfl rfl (L.ld (j := 1) bx5.mem nag3 Wt.no rfl rfl rfl rfl ?_))))))
   obtain ⟨x89, ex89, hm⟩ := bindS hm
   refine L.mk (z := (0 : Int)) (N + 6) Tryd.underlying31 zr3 rfl Wt.no rfl rfl ex89 rfl fun b90 s91 m92 h90 => ?_
   replace m0 := m0.trans m92.no
   replace h86 := h86.mono (m92.le no_No)
   refine L.as Wt.no rfl rfl (L.nil (X.seqN (E.seq (E.seq (E.reg (L.mv Wt.no rfl rfl (L.len sl31 Wt.no rfl rfl (L.mv Wt.no rfl rfl (L.nil (X.seqN (E.block ?_)))))))))))
   obtain ⟨o125, eo125, hm⟩ := bindS hm
   refine E.cut (x := .exit 4) (fun e w => ∃ (s128 : Sig), Mv (Up N No) s s128 ∧ RowT (rK .i64) s128 (N + 6) 3 (some ⟨b90, 0, none⟩) x89.length o125 ∧ e = [(12, .slice (some ⟨b90, 0, none⟩) o125.length x89.length)] ∧ w = s128.w) ?_ ?_
   ·rintro _ _ ⟨s128, m0, h90, rfl, rfl⟩
    refine X.blkE (X.seqN (E.seq (E.reg (L.mv Wt.no rfl rfl (L.as Wt.no rfl rfl (L.nil (X.seqN (E.ret ?_))))))))
    obtain rfl := Option.some.inj hm
    exact X.rt (.inl rfl) Tryd.results40 (Rs.tmp rfl Rs.nil) rfl ⟨_, (s128).ren N (fun k => cond (Nat.beq k 6) u0 (0)), rfl, rfl, m0.ren hNb, ⟨(some ⟨b90, 0, none⟩), x89.length, rfl, (h90.ren hN)⟩⟩
   intro K129
   refine E.iter (fun (st125 : Int × List Int) (e : List (Nat × Value)) (w : World) => ∃ (s127 : Sig), Mv (Up N No) s s127 ∧ RowT (rK .i64) s127 (N + 6) 3 (some ⟨b90, 0, none⟩) x89.length st125.2 ∧ RdL (rP (rK .i64) (rF1 Tryd.prog (fun (x0 : Int) => [.int .i64 x0]) (fun (r : Bool) => .bool r))) s127 (some ⟨b86, 0, none⟩) (([(1, (some (m_blocking_kinds_1 r8))), (2, (some (m_blocking_kinds_2 r8))), (3, (some (m_blocking_kinds_3 r71))), (5, (some (m_blocking_kinds_4 r71))), (4, (some m_blocking_kinds_5))] : List (Int × (Option (Int → Option Bool)))).length) ([(1, (some (m_blocking_kinds_1 r8))), (2, (some (m_blocking_kinds_2 r8))), (3, (some (m_blocking_kinds_3 r71))), (5, (some (m_blocking_kinds_4 r71))), (4, (some m_blocking_kinds_5))] : List (Int × (Option (Int → Option Bool)))) ∧ e = [(73, .int .i64 st125.1), (72, .int .i64 (x89.length : Int)), (12, .slice (some ⟨b90, 0, none⟩) st125.2.length x89.length), (11, .slice (some ⟨b86, 0, none⟩) ([(1, (some (m_blocking_kinds_1 r8))), (2, (some (m_blocking_kinds_2 r8))), (3, (some (m_blocking_kinds_3 r71))), (5, (some (m_blocking_kinds_4 r71))), (4, (some m_blocking_kinds_5))] : List (Int × (Option (Int → Option Bool)))).length (([(1, (some (m_blocking_kinds_1 r8))), (2, (some (m_blocking_kinds_2 r8))), (3, (some (m_blocking_kinds_3 r71))), (5, (some (m_blocking_kinds_4 r71))), (4, (some m_blocking_kinds_5))] : List (Int × (Option (Int → Option Bool)))).length))] ∧ w = s127.w) eo125 ⟨s91, m0, h90, h86, rfl, rfl⟩ (Sub.rf rfl) ?_
   rintro st125 res125 hm ih125 ho125 _ _ ⟨s127, m0, h90, h86, rfl, rfl⟩
   unfold m_blocking_kinds_l3 at hm
   refine E.seq (E.reg (L.bi Wt.no rfl rfl rfl rfl (L.nil (X.seqN (E.seq ?_)))))
   rcases ifS hm with ⟨hc, hm⟩ | ⟨hc, hm⟩
   ·refine E.cT rfl hc (E.skip (X.seqN (E.seq (E.block (E.seq (E.reg (L.mv Wt.no rfl rfl (L.al (N + 7) zz3 rfl Wt.no rfl fun b130 s131 m132 bx130 => ?_))))))))
    replace m0 := m0.trans m132.no
    replace h86 := h86.mono (m132.le no_No)
    replace h90 := h90.mv m132 no_No no_No
    refine L.st (c := [.int .i64 st125.1]) (cs' := #[.int .i64 st125.1]) bx130 nag3.sz Wt.no rfl rfl rfl rfl rfl (Nat.le_of_ble_eq_true rfl) rfl fun s133 m134 bx130 => ?_
    replace m0 := m0.trans (m134.one up)
    replace h86 := h86.mono (m134.le (tg0 hN))
    replace h90 := h90.mv m134 (tgN (by decide)) (tg0 hN)
    refine L.nil (X.seqN (E.seq (E.reg (L.mv Wt.no rfl rfl ?_))))
    have m135 := Sig.fz_mv (N + 7) s133
    replace bx130 := bx130.fz (tgn hN)
    replace m0 := m0.trans (m135.one up)
    replace h86 := h86.mono (m135.le (tg0 hN))
    replace h90 := h90.mv m135 (tgN (by decide)) (tg0 hN)
    refine L.toR (s' := (Sig.fz (N + 7) s133)) rfl ?_
    have h136 : FW1 Tryd.prog (Sig.fz (N + 7) s133) (.func (.func 70) #[] #[.pointer (some ⟨b130, 0, none⟩)]) (rP (rK .i64) (rF1 Tryd.prog (fun (x0 : Int) => [.int .i64 x0]) (fun (r : Bool) => .bool r))) (fun (r : Bool) => .bool r) (m_blocking_kinds_6 st125.1) := ⟨70, #[], #[.pointer (some ⟨b130, 0, none⟩)], rfl, cf70, fun x0 r hm s' hl cs hrd => by obtain ⟨_, _, rfl, rfl, ⟨v0, rfl, hv0⟩⟩ := hrd; have hh := m_blocking_kinds_6_c (s := s') hv0 (bx130.le hl) hm; simpa using hh⟩
    refine L.mf Wt.no rfl rfl rfl ?_
    obtain ⟨r137, er137, hm⟩ := bindS hm
    refine L.ca cf69 rfl rfl Wt.no rfl (m_slices_IndexFunc_blocking_test_blocking_test_c (s := (Sig.fz (N + 7) s133)) (p0 := ([(1, (some (m_blocking_kinds_1 r8))), (2, (some (m_blocking_kinds_2 r8))), (3, (some (m_blocking_kinds_3 r71))), (5, (some (m_blocking_kinds_4 r71))), (4, (some m_blocking_kinds_5))] : List (Int × (Option (Int → Option Bool))))) (p1 := (m_blocking_kinds_6 st125.1)) h86 h136 er137) rfl ?_
    rintro _ s138 m139 rfl
    replace m0 := m0.trans m139.no
    replace h86 := h86.mono (m139.le no_No)
    replace h90 := h90.mv m139 no_No no_No
    replace bx130 := bx130.mv m139 no_No
    refine L.as Wt.no rfl rfl (L.nil (X.seqN ?_))
    obtain ⟨x145, ex145, hm⟩ := bindS hm
    obtain ⟨x151, ex151, hm⟩ := bindS hm
    obtain ⟨x154, ex154, hm⟩ := bindS hm
    have elx154 := upd_len ex154
    refine E.draw [[], [], [], [], [2, 3], [2, 3, 4], [2, 3, 4, 5], [0, 1, 2, 3, 4, 5, 6], [0, 1, 2, 3, 4, 5, 6, 7]] (fun D e sx => Mv (One (N + 6)) s138 sx ∧ Sub [(14, .int .i64 r137), (13, .pointer (some ⟨b130, 0, none⟩)), (73, .int .i64 st125.1), (72, .int .i64 (x89.length : Int)), (12, .slice (some ⟨b90, 0, none⟩) st125.2.length x89.length), (11, .slice (some ⟨b86, 0, none⟩) ([(1, (some (m_blocking_kinds_1 r8))), (2, (some (m_blocking_kinds_2 r8))), (3, (some (m_blocking_kinds_3 r71))), (5, (some (m_blocking_kinds_4 r71))), (4, (some m_blocking_kinds_5))] : List (Int × (Option (Int → Option Bool)))).length (([(1, (some (m_blocking_kinds_1 r8))), (2, (some (m_blocking_kinds_2 r8))), (3, (some (m_blocking_kinds_3 r71))), (5, (some (m_blocking_kinds_4 r71))), (4, (some m_blocking_kinds_5))] : List (Int × (Option (Int → Option Bool)))).length))] e ∧ AllP [D 0 = true → (Env.get e 79 = some (.slice (some ⟨b90, 0, none⟩) st125.2.length x89.length)), D 1 = true → (Env.get e 80 = some (.int .i64 st125.1)), D 2 = true → (Env.get e 81 = some (.slice (some ⟨b86, 0, none⟩) ([(1, (some (m_blocking_kinds_1 r8))), (2, (some (m_blocking_kinds_2 r8))), (3, (some (m_blocking_kinds_3 r71))), (5, (some (m_blocking_kinds_4 r71))), (4, (some m_blocking_kinds_5))] : List (Int × (Option (Int → Option Bool)))).length (([(1, (some (m_blocking_kinds_1 r8))), (2, (some (m_blocking_kinds_2 r8))), (3, (some (m_blocking_kinds_3 r71))), (5, (some (m_blocking_kinds_4 r71))), (4, (some m_blocking_kinds_5))] : List (Int × (Option (Int → Option Bool)))).length))), D 3 = true → (Env.get e 82 = some (.int .i64 r137)), D 4 = true → (∃ (b146 : Nat) (o146 : Nat) (v147 : Value), Env.get e 83 = some (.pointer (some ⟨b146, o146, none⟩)) ∧ Mem sx 0 b146 o146 [.int .i64 x145.1, v147] ∧ FO1 Tryd.prog sx v147 (fun (x0 : Int) => [.int .i64 x0]) (fun (r : Bool) => .bool r) x145.2), D 5 = true → ∀ (b146 : Nat) (o146 : Nat) (v147 : Value), Env.get e 83 = some (.pointer (some ⟨b146, o146, none⟩)) → (Env.get e 84 = some (.pointer (some ⟨b146, o146 + 0, none⟩))), D 6 = true → (Env.get e 85 = some (.int .i64 x145.1)), D 7 = true → (∃ (b152 : Nat) (o152 : Nat), Env.get e 86 = some (.pointer (some ⟨b152, o152, none⟩)) ∧ Spot (some ⟨b90, 0, none⟩) (rK .i64).sz (st125.1).toNat b152 o152), D 8 = false → RowT (rK .i64) sx (N + 6) 3 (some ⟨b90, 0, none⟩) x89.length st125.2, D 8 = true → RowT (rK .i64) sx (N + 6) 3 (some ⟨b90, 0, none⟩) x89.length x154, D 7 = true → D 8 = false → ∀ (b152 : Nat) (o152 : Nat), Env.get e 86 = some (.pointer (some ⟨b152, o152, none⟩)) → Mem sx (N + 6) b152 o152 [.int .i64 x151]]) (by kernel_rfl) (by kernel_rfl) (by kernel_rfl) ?_ ?_ ?_
    ·intro sz mz
     exact ⟨mz.no, (Sub.rf rfl), nofun, nofun, nofun, nofun, nofun, nofun, nofun, nofun, fun _ => h90.mv mz no_No no_No, nofun, nofun, trivial⟩
    ·refine ⟨?_, ?_, ?_, ?_, ?_, ?_, ?_, ?_, ?_, trivial⟩
     ·rintro D e s140 ⟨im, ib, i⟩ hk hf ha
      have kn : Kn e [(12, .slice (some ⟨b90, 0, none⟩) st125.2.length x89.length)] := ⟨(ib 12 _ rfl), trivial⟩
      exact L.kns _ kn (L.mv Wt.no rfl rfl (L.nil (X.dk kn ⟨im, Sub.fresh ib rfl, i.u 0 (fun _ => rfl)⟩)))
     ·rintro D e s141 ⟨im, ib, i⟩ hk hf ha
      have bx130 := bx130.mv im (tg0 hN)
      have kn : Kn e [(13, .pointer (some ⟨b130, 0, none⟩))] := ⟨(ib 13 _ rfl), trivial⟩
      exact L.kns _ kn (L.ld (j := 0) bx130.mem nag3 Wt.no rfl rfl rfl rfl (L.nil (X.dk kn ⟨im, Sub.fresh ib rfl, i.u 1 (fun _ => rfl)⟩)))
     ·rintro D e s142 ⟨im, ib, i⟩ hk hf ha
      have kn : Kn e [(11, .slice (some ⟨b86, 0, none⟩) ([(1, (some (m_blocking_kinds_1 r8))), (2, (some (m_blocking_kinds_2 r8))), (3, (some (m_blocking_kinds_3 r71))), (5, (some (m_blocking_kinds_4 r71))), (4, (some m_blocking_kinds_5))] : List (Int × (Option (Int → Option Bool)))).length (([(1, (some (m_blocking_kinds_1 r8))), (2, (some (m_blocking_kinds_2 r8))), (3, (some (m_blocking_kinds_3 r71))), (5, (some (m_blocking_kinds_4 r71))), (4, (some m_blocking_kinds_5))] : List (Int × (Option (Int → Option Bool)))).length))] := ⟨(ib 11 _ rfl), trivial⟩
      exact L.kns _ kn (L.mv Wt.no rfl rfl (L.nil (X.dk kn ⟨im, Sub.fresh ib rfl, i.u 2 (fun _ => rfl)⟩)))
     ·rintro D e s143 ⟨im, ib, i⟩ hk hf ha
      have kn : Kn e [(14, .int .i64 r137)] := ⟨(ib 14 _ rfl), trivial⟩
      exact L.kns _ kn (L.mv Wt.no rfl rfl (L.nil (X.dk kn ⟨im, Sub.fresh ib rfl, i.u 3 (fun _ => rfl)⟩)))
     ·rintro D e s144 ⟨im, ib, i⟩ hk hf ha
      have h86 := h86.mono (im.le (tg0 hN))
      have kn : Kn e [(81, .slice (some ⟨b86, 0, none⟩) ([(1, (some (m_blocking_kinds_1 r8))), (2, (some (m_blocking_kinds_2 r8))), (3, (some (m_blocking_kinds_3 r71))), (5, (some (m_blocking_kinds_4 r71))), (4, (some m_blocking_kinds_5))] : List (Int × (Option (Int → Option Bool)))).length (([(1, (some (m_blocking_kinds_1 r8))), (2, (some (m_blocking_kinds_2 r8))), (3, (some (m_blocking_kinds_3 r71))), (5, (some (m_blocking_kinds_4 r71))), (4, (some m_blocking_kinds_5))] : List (Int × (Option (Int → Option Bool)))).length)), (82, .int .i64 r137)] := ⟨((i.p 2) (ha.at 2 rfl)), ((i.p 3) (ha.at 3 rfl)), trivial⟩
      refine L.kns _ kn (L.ix (r := (rP (rK .i64) (rF1 Tryd.prog (fun (x0 : Int) => [.int .i64 x0]) (fun (r : Bool) => .bool r)))) sl110 h86 Wt.no rfl rfl ex145 rfl fun b146 o146 cc146 me146 rd146 => ?_)
      obtain ⟨_, _, rfl, rfl, ⟨v147, rfl, h147⟩⟩ := rd146
      exact L.nil (X.dk kn ⟨im, Sub.fresh ib rfl, (i.u 4 (fun _ => ⟨b146, o146, v147, rfl, me146, h147⟩)).u 5 (fun z => Bool.noConfusion ((hf 5 (Nat.le_of_ble_eq_true rfl) rfl).symm.trans z))⟩)
     ·rintro D e s148 ⟨im, ib, i⟩ hk hf ha
      obtain ⟨b146, o146, v147, g4_, me146, h147⟩ := (i.p 4) (ha.at 4 rfl)
      have kn : Kn e [(83, .pointer (some ⟨b146, o146, none⟩))] := ⟨g4_, trivial⟩
      exact L.kns _ kn (L.fa fa109_0 Wt.no rfl rfl (L.nil (X.dk kn ⟨im, Sub.fresh ib rfl, i.u 5 (fun _ _ _ _ q4 => by cases g4_.symm.trans q4; exact rfl)⟩)))
     ·rintro D e s149 ⟨im, ib, i⟩ hk hf ha
      obtain ⟨b146, o146, v147, g4_, me146, h147⟩ := (i.p 4) (ha.at 4 rfl)
      have g5_ := (i.p 5) (ha.at 5 rfl) b146 o146 v147 g4_
      have kn : Kn e [(84, .pointer (some ⟨b146, o146 + 0, none⟩))] := ⟨g5_, trivial⟩
      exact L.kns _ kn (L.ld (j := 0) me146 nag3 Wt.no rfl rfl rfl rfl (L.nil (X.dk kn ⟨im, Sub.fresh ib rfl, i.u 6 (fun _ => rfl)⟩)))
     ·rintro D e s150 ⟨im, ib, i⟩ hk hf ha
      obtain h90 := (i.p 8) (hf 8 (Nat.le_of_ble_eq_true rfl) rfl)
      have kn : Kn e [(79, .slice (some ⟨b90, 0, none⟩) st125.2.length x89.length), (80, .int .i64 st125.1)] := ⟨((i.p 0) (ha.at 0 rfl)), ((i.p 1) (ha.at 1 rfl)), trivial⟩
      refine L.kns _ kn (L.ir (r := (rK .i64)) sl31 h90 Wt.no rfl rfl ex151 rfl fun b152 o152 cc152 me152 rd152 sp152 => ?_)
      obtain rfl := rd152
      exact L.nil (X.dk kn ⟨im, Sub.fresh ib rfl, (i.u 7 (fun _ => ⟨b152, o152, rfl, sp152⟩)).u 10 (fun _ _ _ _ q7 => by cases (show some (.pointer (some ⟨b152, o152, none⟩) : Value) = some _ from q7); exact me152)⟩)
     rintro D e s153 ⟨im, ib, i⟩ hk hf ha
     obtain ⟨b152, o152, g7_, sp152⟩ := (i.p 7) (ha.at 7 rfl)
     obtain h90 := (i.p 8) hk
     have kn : Kn e [(86, .pointer (some ⟨b152, o152, none⟩)), (85, .int .i64 x145.1)] := ⟨g7_, ((i.p 6) (ha.at 6 rfl)), trivial⟩
     exact L.kns _ kn (L.su (fo := 0) (c := [.int .i64 x145.1]) (z := x145.1) h90 sp152 ex151 ex154 (tgp hN) nag3.sz Wt.no rfl rfl rfl rfl rfl rfl (fun c0 hc0 => by obtain rfl := hc0; exact rfl) fun s155 m156 h90 => L.nil (X.dn kn ⟨im.trans (m156.one rfl), ib, ((((i.u 4 (fun z => let ⟨b146, o146, v147, q, me146, h147⟩ := (i.p 4) z; ⟨b146, o146, v147, q, (me146.mv m156 (tg0 hN)), (h147.mono (m156.le (tg0 hN)))⟩)).u 7 (fun z => let ⟨b152, o152, q, sp152⟩ := (i.p 7) z; ⟨b152, o152, q, sp152⟩)).u 8 (fun z => Bool.noConfusion (show true = false from z))).u 9 (fun _ => by exact h90)).u 10 (fun _ y8 => Bool.noConfusion (show true = false from y8))⟩))
    rintro D e s157 hD ⟨im, ib, i⟩
    obtain h90 := (i.p 9) (hD 8 rfl)
    have h86 := h86.mono (im.le (tg0 hN))
    have m0 := m0.trans (im.one up)
    refine X.sub (e' := [(73, .int .i64 st125.1), (72, .int .i64 (x89.length : Int)), (12, .slice (some ⟨b90, 0, none⟩) st125.2.length x89.length), (11, .slice (some ⟨b86, 0, none⟩) ([(1, (some (m_blocking_kinds_1 r8))), (2, (some (m_blocking_kinds_2 r8))), (3, (some (m_blocking_kinds_3 r71))), (5, (some (m_blocking_kinds_4 r71))), (4, (some m_blocking_kinds_5))] : List (Int × (Option (Int → Option Bool)))).length (([(1, (some (m_blocking_kinds_1 r8))), (2, (some (m_blocking_kinds_2 r8))), (3, (some (m_blocking_kinds_3 r71))), (5, (some (m_blocking_kinds_4 r71))), (4, (some m_blocking_kinds_5))] : List (Int × (Option (Int → Option Bool)))).length))]) ?_ (Sub.cons (ib 73 _ rfl) (Sub.cons (ib 72 _ rfl) (Sub.cons (ib 12 _ rfl) (Sub.cons (ib 11 _ rfl) Sub.nil))))
    exact X.reval (d := 12) rfl elx154 (X.blkN (X.seqN (E.reg (L.bi Wt.no rfl rfl rfl rfl (L.mv Wt.no rfl rfl (L.nil (X.sub (ih125 _ (Option.some.inj hm).symm _ _ ⟨s157, m0, h90, h86, rfl, rfl⟩) (Sub.rf rfl))))))))
   refine E.cF rfl hc (E.exit (X.seqX (X.seqX ?_)))
   have hx := ho125 _ (Option.some.inj hm).symm
   subst hx
   exact X.sub (K129 _ _ ⟨s127, m0, h90, rfl, rfl⟩) (Sub.rf rfl)
  intro K158
  refine E.iter (fun (st65 : Int × List Int) (e : List (Nat × Value)) (w : World) => ∃ (s68 : Sig) (a43 : Option Addr) (c43 : Nat), Mv (Up N No) s s68 ∧ RdL (rK .i64) s68 a11 c11 r8 ∧ RowT (rK .i64) s68 (N + 4) 3 a43 c43 st65.2 ∧ RowT rB s68 (N + 2) 4 (some ⟨b18, 0, none⟩) x17.length o37 ∧ RdL (rK .i64) s68 a1 c1 p0.1 ∧ RdL (rK .i64) s68 a2 c2 p0.2.2.1 ∧ RdL (rP (rK .i64) (rP (rK .i64) (rK .i64))) s68 a3 c3 p0.2.2.2 ∧ Bx s68 (N + 0) b5 #[.slice a1 p0.1.length c1, .int .i64 p0.2.1, .slice a2 p0.2.2.1.length c2, .slice a3 p0.2.2.2.length c3] 34 ∧ Bx s68 (N + 1) b12 #[.slice a11 r8.length c11] 31 ∧ e = [(36, .int .i64 st65.1), (35, .int .i64 (r8.length : Int)), (34, .slice a11 r8.length c11), (7, .slice a43 st65.2.length c43), (4, .slice (some ⟨b18, 0, none⟩) o37.length x17.length), (3, .pointer (some ⟨b12, 0, none⟩)), (1, .pointer (some ⟨b5, 0, none⟩))] ∧ w = s68.w) eo65 ⟨s40, none, 0, m0, h11, RowT.nil, h18, h1, h2, h3, bx5, bx12, rfl, rfl⟩ (Sub.rf rfl) ?_
  rintro st65 res65 hm ih65 ho65 _ _ ⟨s68, a43, c43, m0, h11, h43, h18, h1, h2, h3, bx5, bx12, rfl, rfl⟩
  unfold m_blocking_kinds_l2 at hm
  refine E.seq (E.reg (L.bi Wt.no rfl rfl rfl rfl (L.nil (X.seqN (E.seq ?_)))))
  rcases ifS hm with ⟨hc, hm⟩ | ⟨hc, hm⟩
  ·refine E.cT rfl hc (E.skip (X.seqN (E.seqJ (fun e w => ∃ (s161 : Sig) (l159 : List Int) (a160 : Option Addr) (c160 : Nat), m_blocking_kinds_j1 st65 l159 = some res65 ∧ Mv (Up N No) s s161 ∧ RowT (rK .i64) s161 (N + 4) 3 a160 c160 l159 ∧ RdL (rK .i64) s161 a11 c11 r8 ∧ RowT rB s161 (N + 2) 4 (some ⟨b18, 0, none⟩) x17.length o37 ∧ RdL (rK .i64) s161 a1 c1 p0.1 ∧ RdL (rK .i64) s161 a2 c2 p0.2.2.1 ∧ RdL (rP (rK .i64) (rP (rK .i64) (rK .i64))) s161 a3 c3 p0.2.2.2 ∧ Bx s161 (N + 0) b5 #[.slice a1 p0.1.length c1, .int .i64 p0.2.1, .slice a2 p0.2.2.1.length c2, .slice a3 p0.2.2.2.length c3] 34 ∧ Bx s161 (N + 1) b12 #[.slice a11 r8.length c11] 31 ∧ e = [(7, .slice a160 l159.length c160), (36, .int .i64 st65.1), (35, .int .i64 (r8.length : Int)), (34, .slice a11 r8.length c11), (4, .slice (some ⟨b18, 0, none⟩) o37.length x17.length), (3, .pointer (some ⟨b12, 0, none⟩)), (1, .pointer (some ⟨b5, 0, none⟩))] ∧ w = s161.w) ?_ ?_)))
   ·rintro _ _ ⟨s161, l159, a160, c160, hm, m0, h160, h11, h18, h1, h2, h3, bx5, bx12, rfl, rfl⟩
    unfold m_blocking_kinds_j1 at hm
    exact E.reg (L.bi Wt.no rfl rfl rfl rfl (L.mv Wt.no rfl rfl (L.nil (X.sub (ih65 _ (Option.some.inj hm).symm _ _ ⟨s161, a160, c160, m0, h11, h160, h18, h1, h2, h3, bx5, bx12, rfl, rfl⟩) (Sub.rf rfl)))))
   intro Jj162
   refine E.block (E.seq (E.reg (L.mv Wt.no rfl rfl ?_)))
   obtain ⟨x163, ex163, hm⟩ := bindS hm
   refine L.ix (r := (rK .i64)) sl31 h11 Wt.no rfl rfl ex163 rfl fun b164 o164 cc164 me164 rd164 => ?_
   obtain rfl := rd164
   refine L.ld (j := 0) me164 nag3 Wt.no rfl rfl rfl rfl (L.as Wt.no rfl rfl (L.as Wt.no rfl rfl (L.nil (X.seqN (E.seq (E.reg (L.mv Wt.no rfl rfl (L.bi Wt.no rfl rfl rfl rfl (L.mv Wt.no rfl rfl ?_)))))))))
   obtain ⟨b165, eb165, hm⟩ := bindS hm
   refine L.cut 6 (fun e w => ∃ (v166 : Bool), b165 = v166 ∧ e = (49, .bool v166) :: [(8, .int .i64 st65.1), (36, .int .i64 st65.1), (35, .int .i64 (r8.length : Int)), (34, .slice a11 r8.length c11), (7, .slice a43 st65.2.length c43), (4, .slice (some ⟨b18, 0, none⟩) o37.length x17.length), (3, .pointer (some ⟨b12, 0, none⟩)), (1, .pointer (some ⟨b5, 0, none⟩))] ∧ w = s68.w) ?_ ?_
   ·rintro _ _ ⟨v166, rfl, rfl, rfl⟩
    refine L.nil (X.seqN ?_)
    rcases ifS hm with ⟨hc, hm⟩ | ⟨hc, hm⟩
    ·refine E.cT rfl hc (E.reg (L.mv Wt.no rfl rfl (L.mv Wt.no rfl rfl (L.bsE (k := 1) (cs := [.int .i64 st65.1]) 0 bs31 (Nat.le_of_ble_eq_true rfl) Wt.no rfl rfl rfl rfl fun b167 s168 m169 bx167 => ?_))))
     replace m0 := m0.trans m169.no
     replace h11 := h11.mono (m169.le no_No)
     replace h18 := h18.mv m169 no_No no_No
     replace h43 := h43.mv m169 no_No no_No
     replace bx5 := bx5.mv m169 no_No
     replace h1 := h1.mono (m169.le no_No)
     replace h2 := h2.mono (m169.le no_No)
     replace h3 := h3.mono (m169.le no_No)
     replace bx12 := bx12.mv m169 no_No
     have h167 := Bx.rdL (r := (rK .i64)) (xs := ([st65.1] : List Int)) bx167 ⟨[.int .i64 st65.1], _, rfl, rfl, rfl⟩ (Nat.le_of_ble_eq_true rfl)
     obtain ⟨x170, ex170, hm⟩ := bindS hm
     refine L.ap (r := (rK .i64)) Tryd.underlying31 el3 rfl (tgp hN) h43 h167.wk Wt.no rfl rfl ex170 rfl fun a171 c171 s172 m173 h171 => ?_
     replace m0 := m0.trans (m173.one up)
     replace h11 := h11.mono (m173.le (tg0 hN))
     replace h18 := h18.mv m173 (tgN (by decide)) (tg0 hN)
     replace bx5 := bx5.mv m173 (tgN (by decide))
     replace h1 := h1.mono (m173.le (tg0 hN))
     replace h2 := h2.mono (m173.le (tg0 hN))
     replace h3 := h3.mono (m173.le (tg0 hN))
     replace bx12 := bx12.mv m173 (tgN (by decide))
     exact L.as Wt.no rfl rfl (L.nil (X.blkN (X.sub (Jj162 _ _ ⟨s172, x170, a171, c171, hm, m0, h171, h11, h18, h1, h2, h3, bx5, bx12, rfl, rfl⟩) (Sub.rf rfl))))
    exact E.cF rfl hc (E.skip (X.blkN (X.sub (Jj162 _ _ ⟨s68, st65.2, a43, c43, hm, m0, h43, h11, h18, h1, h2, h3, bx5, bx12, rfl, rfl⟩) (Sub.rf rfl))))
   intro J174
   rcases ifS eb165 with ⟨hc, hm⟩ | ⟨hc, hm⟩
   ·refine L.know (d := 43) rfl hc (L.mv (Wt.mk rfl rfl) rfl rfl (L.mv (Wt.mk rfl rfl) rfl rfl ?_))
    obtain ⟨x175, ex175, hm⟩ := bindS hm
    refine L.ir (r := rB) sl77 h18 (Wt.mk rfl rfl) rfl rfl ex175 rfl fun b176 o176 cc176 me176 rd176 sp176 => ?_
    obtain rfl := rd176
    exact L.ld (j := 0) me176 nag4 (Wt.mk rfl rfl) rfl rfl rfl rfl (L.not (Wt.mk rfl rfl) rfl rfl (L.pkT Wt.no rfl rfl rfl rfl (L.sb (J174 _ _ ⟨(!x175), (Option.some.inj hm).symm, rfl, rfl⟩) rfl)))
   exact L.know (d := 43) rfl hc (L.skip rfl rfl rfl rfl (L.skip rfl rfl rfl rfl (L.skip rfl rfl rfl rfl (L.skip rfl rfl rfl rfl (L.skip rfl rfl rfl rfl (L.pkF Wt.no rfl rfl rfl rfl (L.sb (J174 _ _ ⟨false, (Option.some.inj hm).symm, rfl, rfl⟩) rfl)))))))
  refine E.cF rfl hc (E.exit (X.seqX (X.seqX ?_)))
  have hx := ho65 _ (Option.some.inj hm).symm
  subst hx
  exact X.sub (K158 _ _ ⟨s68, a43, c43, m0, h43, h1, h2, h3, h11, bx5, bx12, rfl, rfl⟩) (Sub.rf rfl)
 intro K177
 refine E.iter (fun (st37 : Int × List Bool) (e : List (Nat × Value)) (w : World) => ∃ (s39 : Sig), Mv (Up N No) s s39 ∧ RdL (rP (rK .i64) (rP (rK .i64) (rK .i64))) s39 a3 c3 p0.2.2.2 ∧ RowT rB s39 (N + 2) 4 (some ⟨b18, 0, none⟩) x17.length st37.2 ∧ RdL (rK .i64) s39 a1 c1 p0.1 ∧ RdL (rK .i64) s39 a2 c2 p0.2.2.1 ∧ RdL (rK .i64) s39 a11 c11 r8 ∧ Bx s39 (N + 0) b5 #[.slice a1 p0.1.length c1, .int .i64 p0.2.1, .slice a2 p0.2.2.1.length c2, .slice a3 p0.2.2.2.length c3] 34 ∧ Bx s39 (N + 1) b12 #[.slice a11 r8.length c11] 31 ∧ e = [(25, .int .i64 st37.1), (24, .int .i64 (p0.2.2.2.length : Int)), (23, .slice a3 p0.2.2.2.length c3), (4, .slice (some ⟨b18, 0, none⟩) st37.2.length x17.length), (3, .pointer (some ⟨b12, 0, none⟩)), (1, .pointer (some ⟨b5, 0, none⟩))] ∧ w = s39.w) eo37 ⟨s19, m0, h3, h18, h1, h2, h11, bx5, bx12, rfl, rfl⟩ (Sub.rf rfl) ?_
 rintro st37 res37 hm ih37 ho37 _ _ ⟨s39, m0, h3, h18, h1, h2, h11, bx5, bx12, rfl, rfl⟩
 unfold m_blocking_kinds_l1 at hm
 refine E.seq (E.reg (L.bi Wt.no rfl rfl rfl rfl (L.nil (X.seqN (E.seq ?_)))))
 rcases ifS hm with ⟨hc, hm⟩ | ⟨hc, hm⟩
 ·refine E.cT rfl hc (E.skip (X.seqN (E.seq (E.block (E.seq (E.reg ?_))))))
  obtain ⟨x178, ex178, hm⟩ := bindS hm
  refine L.ix (r := (rP (rK .i64) (rP (rK .i64) (rK .i64)))) sl32 h3 Wt.no rfl rfl ex178 rfl fun b179 o179 cc179 me179 rd179 => ?_
  obtain ⟨_, _, rfl, rfl, ⟨_, _, rfl, rfl, rfl⟩⟩ := rd179
  refine L.lg (j := 0) (cs := [.int .i64 x178.1, .int .i64 x178.2.1, .int .i64 x178.2.2]) me179 ag58 Wt.no rfl rfl rfl rfl rfl (L.al (N + 3) zz58 rfl Wt.no rfl fun b180 s181 m182 bx180 => ?_)
  replace m0 := m0.trans m182.no
  replace h18 := h18.mv m182 no_No no_No
  replace h3 := h3.mono (m182.le no_No)
  replace bx5 := bx5.mv m182 no_No
  replace h1 := h1.mono (m182.le no_No)
  replace h2 := h2.mono (m182.le no_No)
  replace bx12 := bx12.mv m182 no_No
  replace h11 := h11.mono (m182.le no_No)
  refine L.st (c := [.int .i64 x178.1, .int .i64 x178.2.1, .int .i64 x178.2.2]) (cs' := #[.int .i64 x178.1, .int .i64 x178.2.1, .int .i64 x178.2.2]) bx180 ag58.sz Wt.no rfl rfl rfl rfl rfl (Nat.le_of_ble_eq_true rfl) rfl fun s183 m184 bx180 => ?_
  replace m0 := m0.trans (m184.one up)
  replace h18 := h18.mv m184 (tgN (by decide)) (tg0 hN)
  replace h3 := h3.mono (m184.le (tg0 hN))
  replace bx5 := bx5.mv m184 (tgN (by decide))
  replace h1 := h1.mono (m184.le (tg0 hN))
  replace h2 := h2.mono (m184.le (tg0 hN))
  replace bx12 := bx12.mv m184 (tgN (by decide))
  replace h11 := h11.mono (m184.le (tg0 hN))
  refine L.nil (X.seqN (E.reg (L.mv Wt.no rfl rfl (L.fa fa58_0 Wt.no rfl rfl (L.ld (j := 0) bx180.mem nag3 Wt.no rfl rfl rfl rfl ?_)))))
  obtain ⟨x185, ex185, hm⟩ := bindS hm
  refine L.ir (r := rB) sl77 h18 Wt.no rfl rfl ex185 rfl fun b186 o186 cc186 me186 rd186 sp186 => ?_
  obtain rfl := rd186
  obtain ⟨x187, ex187, hm⟩ := bindS hm
  have elx187 := upd_len ex187
  refine L.su (fo := 0) (c := [.bool true]) (z := true) h18 sp186 ex185 ex187 (tgp hN) nag4.sz Wt.no rfl rfl rfl rfl rfl rfl (fun c0 hc0 => by obtain rfl := hc0; exact rfl) fun s188 m189 h18 => ?_
  replace m0 := m0.trans (m189.one up)
  replace h3 := h3.mono (m189.le (tg0 hN))
  replace bx5 := bx5.mv m189 (tgN (by decide))
  replace h1 := h1.mono (m189.le (tg0 hN))
  replace h2 := h2.mono (m189.le (tg0 hN))
  replace bx12 := bx12.mv m189 (tgN (by decide))
  replace h11 := h11.mono (m189.le (tg0 hN))
  exact L.reval (d := 4) rfl elx187 (L.nil (X.blkN (X.seqN (E.reg (L.bi Wt.no rfl rfl rfl rfl (L.mv Wt.no rfl rfl (L.nil (X.sub (ih37 _ (Option.some.inj hm).symm _ _ ⟨s188, m0, h3, h18, h1, h2, h11, bx5, bx12, rfl, rfl⟩) (Sub.rf rfl)))))))))
 refine E.cF rfl hc (E.exit (X.seqX (X.seqX ?_)))
 have hx := ho37 _ (Option.some.inj hm).symm
 subst hx
 exact X.sub (K177 _ _ ⟨s39, m0, h18, h1, h2, h3, h11, bx5, bx12, rfl, rfl⟩) (Sub.rf rfl)

theorem cf39 : Cf Tryd.prog 39 := Cf.mk Tryd.func39 (by kernel_rfl) (by kernel_rfl)
theorem cf40 : Cf Tryd.prog 40 := Cf.mk Tryd.func40 (by kernel_rfl) (by kernel_rfl)
/-- What blocking.Kinds computes. -/
noncomputable def m_blocking_Kinds (p0 : List Int × Int × List Int × (List (Int × Int × Int))) : Option (List Int × Int) :=
  (m_automaton_Check p0).bind fun r8 =>
  if (r8 != 0) then
    some (([] : List Int), r8)
  else
    (m_blocking_kinds p0).bind fun r11 =>
    some (r11, 0)
set_option maxRecDepth 100000 in
set_option maxHeartbeats 8000000 in
theorem m_blocking_Kinds_c {s : Sig} {p0 : List Int × Int × List Int × (List (Int × Int × Int))} {a1 : Option Addr} {c1 : Nat} {a2 : Option Addr} {c2 : Nat} {a3 : Option Addr} {c3 : Nat} {u0 : Nat} {r : List Int × Int} (h1 : RdL (rK .i64) s a1 c1 p0.1) (h2 : RdL (rK .i64) s a2 c2 p0.2.2.1) (h3 : RdL (rP (rK .i64) (rP (rK .i64) (rK .i64))) s a3 c3 p0.2.2.2) (hm : m_blocking_Kinds p0 = some r) :
    Calls Tryd.prog 18 #[.agg #[.slice a1 p0.1.length c1, .int .i64 p0.2.1, .slice a2 p0.2.2.1.length c2, .slice a3 p0.2.2.2.length c3]] s.w (RetS No s fun v s' => ∃ (a4 : Option Addr) (c4 : Nat), v = .tuple #[.slice a4 r.1.length c4, .int .i64 r.2] ∧ RowT (rK .i64) s' u0 3 a4 c4 r.1) := by
 unfold m_blocking_Kinds at hm
 obtain ⟨N, hN, hNb⟩ := s.fresh
 have m0 : Mv (Up N No) s s := Mv.refl _ _
 refine E.entry Tryd.func18 rfl Tryd.ntmps18 rfl rfl (E.seq (E.reg (L.box (N + 0) Wt.no rfl rfl rfl fun b5 s6 m7 bx5 => ?_)))
 replace m0 := m0.trans m7.no
 replace h1 := h1.mono (m7.le no_No)
 replace h2 := h2.mono (m7.le no_No)
 replace h3 := h3.mono (m7.le no_No)
 refine L.as Wt.no rfl rfl (L.as Wt.no rfl rfl (L.nil (X.seqN (E.seq (E.seq (E.reg (L.lg (j := 0) (cs := [.slice a1 p0.1.length c1, .int .i64 p0.2.1, .slice a2 p0.2.2.1.length c2, .slice a3 p0.2.2.2.length c3]) bx5.mem ag34 Wt.no rfl rfl rfl rfl rfl ?_)))))))
 obtain ⟨r8, er8, hm⟩ := bindS hm
 refine L.ca cf39 rfl rfl Wt.no rfl (m_automaton_Check_c (s := s6) (p0 := p0) h1 h2 h3 er8) rfl ?_
 rintro _ s9 m10 rfl
 replace m0 := m0.trans m10.no
 replace bx5 := bx5.mv m10 no_No
 replace h1 := h1.mono (m10.le no_No)
 replace h2 := h2.mono (m10.le no_No)
 replace h3 := h3.mono (m10.le no_No)
 refine L.as Wt.no rfl rfl (L.nil (X.seqN (E.seq (E.reg (L.mv Wt.no rfl rfl (L.bi Wt.no rfl rfl rfl rfl (L.nil (X.seqN ?_))))))))
 rcases ifS hm with ⟨hc, hm⟩ | ⟨hc, hm⟩
 ·refine E.cT rfl hc (E.seq (E.reg (L.mv Wt.no rfl rfl (L.as Wt.no rfl rfl (L.as Wt.no rfl rfl (L.nil (X.seqN (E.ret (X.seqR ?_)))))))))
  obtain rfl := Option.some.inj hm
  exact X.rt (.inl rfl) Tryd.results18 (Rs.tmp rfl (Rs.tmp rfl Rs.nil)) rfl ⟨_, (s9).ren N (fun _ => 0), rfl, rfl, m0.ren hNb, ⟨none, 0, rfl, RowT.nil⟩⟩
 refine E.cF rfl hc (E.skip (X.seqN (E.seq (E.reg (L.lg (j := 0) (cs := [.slice a1 p0.1.length c1, .int .i64 p0.2.1, .slice a2 p0.2.2.1.length c2, .slice a3 p0.2.2.2.length c3]) bx5.mem ag34 Wt.no rfl rfl rfl rfl rfl ?_)))))
 obtain ⟨r11, er11, hm⟩ := bindS hm
 refine L.ca cf40 rfl rfl Wt.no rfl (m_blocking_kinds_c (s := s9) (p0 := p0) (u0 := (N + 1)) h1 h2 h3 er11) rfl ?_
 rintro _ s12 m13 ⟨a14, c14, rfl, h14⟩
 replace m0 := m0.trans m13.no
 refine L.as Wt.no rfl rfl (L.as Wt.no rfl rfl (L.nil (X.seqN (E.ret ?_))))
 obtain rfl := Option.some.inj hm
 exact X.rt (.inl rfl) Tryd.results18 (Rs.tmp rfl (Rs.tmp rfl Rs.nil)) rfl ⟨_, (s12).ren N (fun k => cond (Nat.beq k 1) u0 (0)), rfl, rfl, m0.ren hNb, ⟨a14, c14, rfl, (h14.ren hN)⟩⟩

theorem sl29 : Sl Tryd.prog 29 34 4 := Sl.mk' Tryd.underlying29 (by kernel_rfl)
noncomputable def m_product_Check_l1 (p0 : List (List Int × Int × List Int × (List (Int × Int × Int)))) (st17 : Int) : Option (Int ⊕ (Unit ⊕ Int)) :=
  if decide (st17 < (p0.length : Int)) then
    (idx p0 st17).bind fun x26 =>
    (m_automaton_Check x26).bind fun r36 =>
    if (r36 != 0) then
      some (.inr (.inr (r36)))
    else
      some (.inl (W (st17 + 1)))
  else
    some (.inr (.inl ()))
/-- What product.Check computes. -/
noncomputable def m_product_Check (p0 : List (List Int × Int × List Int × (List (Int × Int × Int)))) : Option Int :=
  if decide ((p0.length : Int) > 12) then
    some 3
  else
    (iter (m_product_Check_l1 p0) 0).bind fun o17 =>
    match o17 with
    | .inl u20 =>
      some 0
    | .inr (u23) =>
      some u23
set_option maxRecDepth 100000 in
set_option maxHeartbeats 8000000 in
theorem m_product_Check_c {s : Sig} {p0 : List (List Int × Int × List Int × (List (Int × Int × Int)))} {a1 : Option Addr} {c1 : Nat} {r : Int} (h1 : RdL (rP (rL (rK .i64)) (rP (rK .i64) (rP (rL (rK .i64)) (rL (rP (rK .i64) (rP (rK .i64) (rK .i64))))))) s a1 c1 p0) (hm : m_product_Check p0 = some r) :
    Calls Tryd.prog 27 #[.slice a1 p0.length c1] s.w (RetS No s fun v s' => v = .int .i64 r) := by
 unfold m_product_Check at hm
 obtain ⟨N, hN, hNb⟩ := s.fresh
 have m0 : Mv (Up N No) s s := Mv.refl _ _
 refine E.entry Tryd.func27 rfl Tryd.ntmps27 rfl rfl (E.seq (E.reg (L.as Wt.no rfl rfl (L.nil (X.seqN (E.seq (E.seq (E.reg (L.mv Wt.no rfl rfl (L.len sl29 Wt.no rfl rfl (L.bi Wt.no rfl rfl rfl rfl (L.nil (X.seqN ?_)))))))))))))
 rcases ifS hm with ⟨hc, hm⟩ | ⟨hc, hm⟩
 ·refine E.cT rfl hc (E.seq (E.reg (L.as Wt.no rfl rfl (L.nil (X.seqN (E.ret (X.seqR ?_)))))))
  obtain rfl := Option.some.inj hm
  exact X.rt (.inl rfl) Tryd.results27 (Rs.tmp rfl Rs.nil) rfl ⟨_, (s).ren N (fun _ => 0), rfl, rfl, m0.ren hNb, rfl⟩
 refine E.cF rfl hc (E.skip (X.seqN (E.seq (E.seq (E.reg (L.mv Wt.no rfl rfl (L.len sl29 Wt.no rfl rfl (L.mv Wt.no rfl rfl (L.nil (X.seqN (E.block ?_)))))))))))
 obtain ⟨o17, eo17, hm⟩ := bindS hm
 refine E.cut (x := .exit 0) (fun e w => ∃ (s21 : Sig) (u20 : Unit), o17 = .inl u20 ∧ Mv (Up N No) s s21 ∧ e = [] ∧ w = s21.w) ?_ ?_
 ·rintro _ _ ⟨s21, u20, rfl, m0, rfl, rfl⟩
  dsimp only at hm
  refine X.blkE (X.seqN (E.seq (E.reg (L.as Wt.no rfl rfl (L.nil (X.seqN (E.ret ?_)))))))
  obtain rfl := Option.some.inj hm
  exact X.rt (.inl rfl) Tryd.results27 (Rs.tmp rfl Rs.nil) rfl ⟨_, (s21).ren N (fun _ => 0), rfl, rfl, m0.ren hNb, rfl⟩
 intro K22
 refine E.cut (x := .ret) (fun e w => ∃ (s24 : Sig) (u23 : Int), o17 = .inr (u23) ∧ Mv (Up N No) s s24 ∧ e = [(2, .int .i64 u23)] ∧ w = s24.w) ?_ ?_
 ·rintro _ _ ⟨s24, u23, rfl, m0, rfl, rfl⟩
  dsimp only at hm
  refine X.blkR (X.seqR ?_)
  obtain rfl := Option.some.inj hm
  exact X.rt (.inl rfl) Tryd.results27 (Rs.tmp rfl Rs.nil) rfl ⟨_, (s24).ren N (fun _ => 0), rfl, rfl, m0.ren hNb, rfl⟩
 intro K25
 refine E.iter (fun (st17 : Int) (e : List (Nat × Value)) (w : World) => ∃ (s19 : Sig), Mv (Up N No) s s19 ∧ RdL (rP (rL (rK .i64)) (rP (rK .i64) (rP (rL (rK .i64)) (rL (rP (rK .i64) (rP (rK .i64) (rK .i64))))))) s19 a1 c1 p0 ∧ e = [(11, .int .i64 st17), (10, .int .i64 (p0.length : Int)), (9, .slice a1 p0.length c1)] ∧ w = s19.w) eo17 ⟨s, m0, h1, rfl, rfl⟩ (Sub.rf rfl) ?_
 rintro st17 res17 hm ih17 ho17 _ _ ⟨s19, m0, h1, rfl, rfl⟩
 unfold m_product_Check_l1 at hm
 refine E.seq (E.reg (L.bi Wt.no rfl rfl rfl rfl (L.nil (X.seqN (E.seq ?_)))))
 rcases ifS hm with ⟨hc, hm⟩ | ⟨hc, hm⟩
 ·refine E.cT rfl hc (E.skip (X.seqN (E.seq (E.block (E.seq (E.reg ?_))))))
  obtain ⟨x26, ex26, hm⟩ := bindS hm
  refine L.ix (r := (rP (rL (rK .i64)) (rP (rK .i64) (rP (rL (rK .i64)) (rL (rP (rK .i64) (rP (rK .i64) (rK .i64)))))))) sl29 h1 Wt.no rfl rfl ex26 rfl fun b27 o27 cc27 me27 rd27 => ?_
  obtain ⟨_, _, rfl, ⟨a28, c28, rfl, h28⟩, ⟨_, _, rfl, rfl, ⟨_, _, rfl, ⟨a29, c29, rfl, h29⟩, ⟨a30, c30, rfl, h30⟩⟩⟩⟩ := rd27
  refine L.lg (j := 0) (cs := [.slice a28 x26.1.length c28, .int .i64 x26.2.1, .slice a29 x26.2.2.1.length c29, .slice a30 x26.2.2.2.length c30]) me27 ag34 Wt.no rfl rfl rfl rfl rfl (L.al (N + 0) zz34 rfl Wt.no rfl fun b31 s32 m33 bx31 => ?_)
  replace m0 := m0.trans m33.no
  replace h1 := h1.mono (m33.le no_No)
  replace h28 := h28.mono (m33.le no_No)
  replace h29 := h29.mono (m33.le no_No)
  replace h30 := h30.mono (m33.le no_No)
  refine L.st (c := [.slice a28 x26.1.length c28, .int .i64 x26.2.1, .slice a29 x26.2.2.1.length c29, .slice a30 x26.2.2.2.length c30]) (cs' := #[.slice a28 x26.1.length c28, .int .i64 x26.2.1, .slice a29 x26.2.2.1.length c29, .slice a30 x26.2.2.2.length c30]) bx31 ag34.sz Wt.no rfl rfl rfl rfl rfl (Nat.le_of_ble_eq_true rfl) rfl fun s34 m35 bx31 => ?_
  replace m0 := m0.trans (m35.one up)
  replace h1 := h1.mono (m35.le (tg0 hN))
  replace h28 := h28.mono (m35.le (tg0 hN))
  replace h29 := h29.mono (m35.le (tg0 hN))
  replace h30 := h30.mono (m35.le (tg0 hN))
  refine L.nil (X.seqN (E.seq (E.reg (L.lg (j := 0) (cs := [.slice a28 x26.1.length c28, .int .i64 x26.2.1, .slice a29 x26.2.2.1.length c29, .slice a30 x26.2.2.2.length c30]) bx31.mem ag34 Wt.no rfl rfl rfl rfl rfl ?_))))
  obtain ⟨r36, er36, hm⟩ := bindS hm
  refine L.ca cf39 rfl rfl Wt.no rfl (m_automaton_Check_c (s := s34) (p0 := x26) h28 h29 h30 er36) rfl ?_
  rintro _ s37 m38 rfl
  replace m0 := m0.trans m38.no
  replace h1 := h1.mono (m38.le no_No)
  refine L.as Wt.no rfl rfl (L.nil (X.seqN (E.seq (E.reg (L.mv Wt.no rfl rfl (L.bi Wt.no rfl rfl rfl rfl (L.nil (X.seqN ?_))))))))
  rcases ifS hm with ⟨hc, hm⟩ | ⟨hc, hm⟩
  ·refine E.cT rfl hc (E.seq (E.reg (L.mv Wt.no rfl rfl (L.as Wt.no rfl rfl (L.nil (X.seqN (E.ret (X.blkR (X.seqR (X.seqR ?_))))))))))
   have hx := ho17 _ (Option.some.inj hm).symm
   exact X.sub (K25 _ _ ⟨s37, r36, hx.symm, m0, rfl, rfl⟩) (Sub.rf rfl)
  exact E.cF rfl hc (E.skip (X.blkN (X.seqN (E.reg (L.bi Wt.no rfl rfl rfl rfl (L.mv Wt.no rfl rfl (L.nil (X.sub (ih17 _ (Option.some.inj hm).symm _ _ ⟨s37, m0, h1, rfl, rfl⟩) (Sub.rf rfl)))))))))
 refine E.cF rfl hc (E.exit (X.seqX (X.seqX ?_)))
 have hx := ho17 _ (Option.some.inj hm).symm
 exact X.sub (K22 _ _ ⟨s19, (), hx.symm, m0, rfl, rfl⟩) Sub.nil

noncomputable def m_alphabet_merge_j4 (p2 : Bool → Bool → Option Bool) (st170 : List Int × List Int × List Int) (b177 : Bool) (b180 : Bool) (l183 : List Int) (l188 : List Int) (n190 : Int) : Option ((List Int × List Int × List Int) ⊕ (List Int)) :=
  (p2 b177 b180).bind fun r193 =>
  if r193 then
    (app st170.1 ([n190] : List Int)).bind fun x199 =>
    some (.inl (x199, l183, l188))
  else
    some (.inl (st170.1, l183, l188))
noncomputable def m_alphabet_merge_j3 (p2 : Bool → Bool → Option Bool) (st170 : List Int × List Int × List Int) (b177 : Bool) (b180 : Bool) (l183 : List Int) (n185 : Int) : Option ((List Int × List Int × List Int) ⊕ (List Int)) :=
  if b180 then
    (idx st170.2.2 0).bind fun x205 =>
    (slc st170.2.2 1 (st170.2.2.length : Int)).bind fun x210 =>
    m_alphabet_merge_j4 p2 st170 b177 b180 l183 x210 x205
  else
    m_alphabet_merge_j4 p2 st170 b177 b180 l183 st170.2.2 n185
noncomputable def m_alphabet_merge_j2 (p2 : Bool → Bool → Option Bool) (st170 : List Int × List Int × List Int) (b177 : Bool) (b180 : Bool) : Option ((List Int × List Int × List Int) ⊕ (List Int)) :=
  if b177 then
    (idx st170.2.1 0).bind fun x217 =>
    (slc st170.2.1 1 (st170.2.1.length : Int)).bind fun x222 =>
    m_alphabet_merge_j3 p2 st170 b177 b180 x222 x217
  else
    m_alphabet_merge_j3 p2 st170 b177 b180 st170.2.1 0
noncomputable def m_alphabet_merge_j1 (p2 : Bool → Bool → Option Bool) (st170 : List Int × List Int × List Int) (b177 : Bool) : Option ((List Int × List Int × List Int) ⊕ (List Int)) :=
  if decide ((st170.2.2.length : Int) > 0) then
    if ((st170.2.1.length : Int) == 0) then
      m_alphabet_merge_j2 p2 st170 b177 true
    else
      (idx st170.2.2 0).bind fun x250 =>
      (idx st170.2.1 0).bind fun x255 =>
      m_alphabet_merge_j2 p2 st170 b177 (decide (x250 ≤ x255))
  else
    m_alphabet_merge_j2 p2 st170 b177 false
noncomputable def m_alphabet_merge_l1 (p2 : Bool → Bool → Option Bool) (st170 : List Int × List Int × List Int) : Option ((List Int × List Int × List Int) ⊕ (List Int)) :=
  if ((decide ((st170.2.1.length : Int) > 0)) || (decide ((st170.2.2.length : Int) > 0))) then
    if decide ((st170.2.1.length : Int) > 0) then
      if ((st170.2.2.length : Int) == 0) then
        m_alphabet_merge_j1 p2 st170 true
      else
        (idx st170.2.1 0).bind fun x301 =>
        (idx st170.2.2 0).bind fun x306 =>
        m_alphabet_merge_j1 p2 st170 (decide (x301 ≤ x306))
    else
      m_alphabet_merge_j1 p2 st170 false
  else
    some (.inr st170.1)
/-- What alphabet.merge computes. -/
noncomputable def m_alphabet_merge (p0 : List Int) (p1 : List Int) (p2 : Bool → Bool → Option Bool) : Option (List Int) :=
  (iter (m_alphabet_merge_l1 p2) (([] : List Int), p0, p1)).bind fun o170 =>
  some o170
set_option maxRecDepth 100000 in
set_option maxHeartbeats 8000000 in
theorem m_alphabet_merge_c {s : Sig} {p0 : List Int} {p1 : List Int} {p2 : Bool → Bool → Option Bool} {a1 : Option Addr} {c1 : Nat} {a2 : Option Addr} {c2 : Nat} {vp2 : Value} {u0 : Nat} {r : List Int} (h1 : RdL (rK .i64) s a1 c1 p0) (h2 : RdL (rK .i64) s a2 c2 p1) (hp2 : FV2 Tryd.prog s vp2 (fun (x0 : Bool) (x1 : Bool) => [.bool x0, .bool x1]) (fun (r : Bool) => .bool r) p2) (hm : m_alphabet_merge p0 p1 p2 = some r) :
    Calls Tryd.prog 87 #[.slice a1 p0.length c1, .slice a2 p1.length c2, vp2] s.w (RetS No s fun v s' => ∃ (a3 : Option Addr) (c3 : Nat), v = .slice a3 r.length c3 ∧ RowT (rK .i64) s' u0 3 a3 c3 r) := by
 unfold m_alphabet_merge at hm
 obtain ⟨N, hN, hNb⟩ := s.fresh
 have m0 : Mv (Up N No) s s := Mv.refl _ _
 refine E.entry Tryd.func87 rfl Tryd.ntmps87 rfl rfl (E.seq (E.reg (L.as Wt.no rfl rfl (L.nil (X.seqN (E.seq (E.reg (L.as Wt.no rfl rfl (L.nil (X.seqN (E.seq (E.block ?_))))))))))))
 obtain ⟨o170, eo170, hm⟩ := bindS hm
 refine E.cut (x := .exit 0) (fun e w => ∃ (s174 : Sig) (a172 : Option Addr) (c172 : Nat), Mv (Up N No) s s174 ∧ RowT (rK .i64) s174 (N + 0) 3 a172 c172 o170 ∧ e = [(7, .slice a172 o170.length c172)] ∧ w = s174.w) ?_ ?_
 ·rintro _ _ ⟨s174, a172, c172, m0, h172, rfl, rfl⟩
  refine X.blkE (X.seqN (E.seq (E.reg (L.mv Wt.no rfl rfl (L.as Wt.no rfl rfl (L.nil (X.seqN (E.ret ?_))))))))
  obtain rfl := Option.some.inj hm
  exact X.rt (.inl rfl) Tryd.results87 (Rs.tmp rfl Rs.nil) rfl ⟨_, (s174).ren N (fun k => cond (Nat.beq k 0) u0 (0)), rfl, rfl, m0.ren hNb, ⟨a172, c172, rfl, (h172.ren hN)⟩⟩
 intro K175
 refine E.iter (fun (st170 : List Int × List Int × List Int) (e : List (Nat × Value)) (w : World) => ∃ (s173 : Sig) (a5 : Option Addr) (c5 : Nat) (a7 : Option Addr) (c7 : Nat) (a9 : Option Addr) (c9 : Nat), Mv (Up N No) s s173 ∧ RowT (rK .i64) s173 (N + 0) 3 a5 c5 st170.1 ∧ RdL (rK .i64) s173 a7 c7 st170.2.1 ∧ RdL (rK .i64) s173 a9 c9 st170.2.2 ∧ FV2 Tryd.prog s173 vp2 (fun (x0 : Bool) (x1 : Bool) => [.bool x0, .bool x1]) (fun (r : Bool) => .bool r) p2 ∧ e = [(7, .slice a5 st170.1.length c5), (0, .slice a7 st170.2.1.length c7), (1, .slice a9 st170.2.2.length c9), (2, vp2)] ∧ w = s173.w) eo170 ⟨s, none, 0, a1, c1, a2, c2, m0, RowT.nil, h1, h2, hp2, rfl, rfl⟩ (Sub.rf rfl) ?_
 rintro st170 res170 hm ih170 ho170 _ _ ⟨s173, a5, c5, a7, c7, a9, c9, m0, h5, h7, h9, hp2, rfl, rfl⟩
 unfold m_alphabet_merge_l1 at hm
 refine E.seq (E.seq (E.reg (L.mv Wt.no rfl rfl (L.len sl31 Wt.no rfl rfl (L.bi Wt.no rfl rfl rfl rfl (L.mv Wt.no rfl rfl (L.cut 4 (fun e w => ∃ (v176 : Bool), ((decide ((st170.2.1.length : Int) > 0)) || (decide ((st170.2.2.length : Int) > 0))) = v176 ∧ e = (18, .bool v176) :: [(7, .slice a5 st170.1.length c5), (0, .slice a7 st170.2.1.length c7), (1, .slice a9 st170.2.2.length c9), (2, vp2)] ∧ w = s173.w) ?_ ?_)))))))
 ·rintro _ _ ⟨v176, rfl, rfl, rfl⟩
  refine L.nil (X.seqN ?_)
  rcases ifS hm with ⟨hc, hm⟩ | ⟨hc, hm⟩
  ·refine E.cT rfl hc (E.skip (X.seqN (E.block (E.seqJ (fun e w => ∃ (s178 : Sig) (b177 : Bool), m_alphabet_merge_j1 p2 st170 b177 = some res170 ∧ Mv (Up N No) s s178 ∧ RowT (rK .i64) s178 (N + 0) 3 a5 c5 st170.1 ∧ RdL (rK .i64) s178 a7 c7 st170.2.1 ∧ RdL (rK .i64) s178 a9 c9 st170.2.2 ∧ FV2 Tryd.prog s178 vp2 (fun (x0 : Bool) (x1 : Bool) => [.bool x0, .bool x1]) (fun (r : Bool) => .bool r) p2 ∧ e = [(8, .bool b177), (7, .slice a5 st170.1.length c5), (0, .slice a7 st170.2.1.length c7), (1, .slice a9 st170.2.2.length c9), (2, vp2)] ∧ w = s178.w) ?_ ?_))))
   ·rintro _ _ ⟨s178, b177, hm, m0, h5, h7, h9, hp2, rfl, rfl⟩
    unfold m_alphabet_merge_j1 at hm
    refine E.seqJ (fun e w => ∃ (s181 : Sig) (b180 : Bool), m_alphabet_merge_j2 p2 st170 b177 b180 = some res170 ∧ Mv (Up N No) s s181 ∧ RowT (rK .i64) s181 (N + 0) 3 a5 c5 st170.1 ∧ RdL (rK .i64) s181 a7 c7 st170.2.1 ∧ RdL (rK .i64) s181 a9 c9 st170.2.2 ∧ FV2 Tryd.prog s181 vp2 (fun (x0 : Bool) (x1 : Bool) => [.bool x0, .bool x1]) (fun (r : Bool) => .bool r) p2 ∧ e = [(9, .bool b180), (8, .bool b177), (7, .slice a5 st170.1.length c5), (0, .slice a7 st170.2.1.length c7), (1, .slice a9 st170.2.2.length c9), (2, vp2)] ∧ w = s181.w) ?_ ?_
    ·rintro _ _ ⟨s181, b180, hm, m0, h5, h7, h9, hp2, rfl, rfl⟩
     unfold m_alphabet_merge_j2 at hm
     refine E.seq (E.reg (L.as Wt.no rfl rfl (L.nil (X.seqN (E.seqJ (fun e w => ∃ (s186 : Sig) (l183 : List Int) (n185 : Int) (a184 : Option Addr) (c184 : Nat), m_alphabet_merge_j3 p2 st170 b177 b180 l183 n185 = some res170 ∧ Mv (Up N No) s s186 ∧ RdL (rK .i64) s186 a184 c184 l183 ∧ RowT (rK .i64) s186 (N + 0) 3 a5 c5 st170.1 ∧ RdL (rK .i64) s186 a9 c9 st170.2.2 ∧ FV2 Tryd.prog s186 vp2 (fun (x0 : Bool) (x1 : Bool) => [.bool x0, .bool x1]) (fun (r : Bool) => .bool r) p2 ∧ e = [(0, .slice a184 l183.length c184), (10, .int .i64 n185), (9, .bool b180), (8, .bool b177), (7, .slice a5 st170.1.length c5), (1, .slice a9 st170.2.2.length c9), (2, vp2)] ∧ w = s186.w) ?_ ?_)))))
     ·rintro _ _ ⟨s186, l183, n185, a184, c184, hm, m0, h184, h5, h9, hp2, rfl, rfl⟩
      unfold m_alphabet_merge_j3 at hm
      refine E.seqJ (fun e w => ∃ (s191 : Sig) (l188 : List Int) (n190 : Int) (a189 : Option Addr) (c189 : Nat), m_alphabet_merge_j4 p2 st170 b177 b180 l183 l188 n190 = some res170 ∧ Mv (Up N No) s s191 ∧ RdL (rK .i64) s191 a189 c189 l188 ∧ RdL (rK .i64) s191 a184 c184 l183 ∧ RowT (rK .i64) s191 (N + 0) 3 a5 c5 st170.1 ∧ FV2 Tryd.prog s191 vp2 (fun (x0 : Bool) (x1 : Bool) => [.bool x0, .bool x1]) (fun (r : Bool) => .bool r) p2 ∧ e = [(1, .slice a189 l188.length c189), (10, .int .i64 n190), (0, .slice a184 l183.length c184), (9, .bool b180), (8, .bool b177), (7, .slice a5 st170.1.length c5), (2, vp2)] ∧ w = s191.w) ?_ ?_
      ·rintro _ _ ⟨s191, l188, n190, a189, c189, hm, m0, h189, h184, h5, hp2, rfl, rfl⟩
       unfold m_alphabet_merge_j4 at hm
       refine E.seq (E.reg (L.mv Wt.no rfl rfl (L.mv Wt.no rfl rfl (L.mv Wt.no rfl rfl ?_))))
       obtain ⟨r193, er193, hm⟩ := bindS hm
       refine L.fv2 (y := b177) (z := b180) hp2 rfl rfl Wt.no rfl rfl er193 rfl fun s194 m195 => ?_
       replace m0 := m0.trans m195.no
       replace h184 := h184.mono (m195.le no_No)
       replace h189 := h189.mono (m195.le no_No)
       replace hp2 := hp2.mono (m195.le no_No)
       replace h5 := h5.mv m195 no_No no_No
       refine L.nil (X.seqN ?_)
       rcases ifS hm with ⟨hc, hm⟩ | ⟨hc, hm⟩
       ·refine E.cT rfl hc (E.reg (L.mv Wt.no rfl rfl (L.mv Wt.no rfl rfl (L.bsE (k := 1) (cs := [.int .i64 n190]) 0 bs31 (Nat.le_of_ble_eq_true rfl) Wt.no rfl rfl rfl rfl fun b196 s197 m198 bx196 => ?_))))
        replace m0 := m0.trans m198.no
        replace h184 := h184.mono (m198.le no_No)
        replace h189 := h189.mono (m198.le no_No)
        replace hp2 := hp2.mono (m198.le no_No)
        replace h5 := h5.mv m198 no_No no_No
        have h196 := Bx.rdL (r := (rK .i64)) (xs := ([n190] : List Int)) bx196 ⟨[.int .i64 n190], _, rfl, rfl, rfl⟩ (Nat.le_of_ble_eq_true rfl)
        obtain ⟨x199, ex199, hm⟩ := bindS hm
        refine L.ap (r := (rK .i64)) Tryd.underlying31 el3 rfl (tgp hN) h5 h196.wk Wt.no rfl rfl ex199 rfl fun a200 c200 s201 m202 h200 => ?_
        replace m0 := m0.trans (m202.one up)
        replace h184 := h184.mono (m202.le (tg0 hN))
        replace h189 := h189.mono (m202.le (tg0 hN))
        replace hp2 := hp2.mono (m202.le (tg0 hN))
        exact L.as Wt.no rfl rfl (L.nil (X.blkN (X.sub (ih170 _ (Option.some.inj hm).symm _ _ ⟨s201, a200, c200, a184, c184, a189, c189, m0, h200, h184, h189, hp2, rfl, rfl⟩) (Sub.rf rfl))))
       exact E.cF rfl hc (E.skip (X.blkN (X.sub (ih170 _ (Option.some.inj hm).symm _ _ ⟨s194, a5, c5, a184, c184, a189, c189, m0, h5, h184, h189, hp2, rfl, rfl⟩) (Sub.rf rfl))))
      intro Jj192
      refine E.seq (E.reg (L.mv Wt.no rfl rfl (L.nil (X.seqN ?_))))
      rcases ifS hm with ⟨hc, hm⟩ | ⟨hc, hm⟩
      ·refine E.cT rfl hc ?_
       obtain ⟨x205, ex205, hm⟩ := bindS hm
       obtain ⟨x210, ex210, hm⟩ := bindS hm
       refine E.draw [[], [0], [0, 1], [], [3], [0, 1, 2], [0, 1, 2, 3, 4, 5]] (fun D e sx => Mv No s186 sx ∧ Sub [(0, .slice a184 l183.length c184), (9, .bool b180), (8, .bool b177), (7, .slice a5 st170.1.length c5), (2, vp2)] e ∧ AllP [D 6 = false → Env.get e 1 = some (.slice a9 st170.2.2.length c9), D 0 = true → (Env.get e 60 = some (.slice a9 st170.2.2.length c9)), D 1 = true → (∃ (b206 : Nat) (o206 : Nat), Env.get e 61 = some (.pointer (some ⟨b206, o206, none⟩)) ∧ Mem sx 0 b206 o206 [.int .i64 x205]), D 2 = true → (Env.get e 62 = some (.int .i64 x205)), D 3 = true → (Env.get e 63 = some (.slice a9 st170.2.2.length c9)), D 4 = true → (∃ (a211 : Option Addr) (c211 : Nat), Env.get e 64 = some (.slice a211 x210.length c211) ∧ RdL (rK .i64) sx a211 c211 x210), D 5 = true → (Env.get e 10 = some (.int .i64 x205)), D 6 = true → ∀ (a211 : Option Addr) (c211 : Nat), Env.get e 64 = some (.slice a211 x210.length c211) → (Env.get e 1 = some (.slice a211 x210.length c211))]) (by kernel_rfl) (by kernel_rfl) (by kernel_rfl) ?_ ?_ ?_
       ·intro sz mz
        exact ⟨mz, (Sub.rf rfl), fun _ => rfl, nofun, nofun, nofun, nofun, nofun, nofun, nofun, trivial⟩
       ·refine ⟨?_, ?_, ?_, ?_, ?_, ?_, ?_, trivial⟩
        ·rintro D e s203 ⟨im, ib, i⟩ hk hf ha
         have kn : Kn e [(1, .slice a9 st170.2.2.length c9)] := ⟨((i.p 0) (hf 6 (Nat.le_of_ble_eq_true rfl) rfl)), trivial⟩
         exact L.kns _ kn (L.mv Wt.no rfl rfl (L.nil (X.dk kn ⟨im, Sub.fresh ib rfl, i.u 1 (fun _ => rfl)⟩)))
        ·rintro D e s204 ⟨im, ib, i⟩ hk hf ha
         have h9 := h9.mono (im.le no_No)
         have kn : Kn e [(60, .slice a9 st170.2.2.length c9)] := ⟨((i.p 1) (ha.at 0 rfl)), trivial⟩
         refine L.kns _ kn (L.ix (r := (rK .i64)) sl31 h9 Wt.no rfl rfl ex205 rfl fun b206 o206 cc206 me206 rd206 => ?_)
         obtain rfl := rd206
         exact L.nil (X.dk kn ⟨im, Sub.fresh ib rfl, i.u 2 (fun _ => ⟨b206, o206, rfl, me206⟩)⟩)
        ·rintro D e s207 ⟨im, ib, i⟩ hk hf ha
         obtain ⟨b206, o206, g1_, me206⟩ := (i.p 2) (ha.at 1 rfl)
         have kn : Kn e [(61, .pointer (some ⟨b206, o206, none⟩))] := ⟨g1_, trivial⟩
         exact L.kns _ kn (L.ld (j := 0) me206 nag3 Wt.no rfl rfl rfl rfl (L.nil (X.dk kn ⟨im, Sub.fresh ib rfl, i.u 3 (fun _ => rfl)⟩)))
        ·rintro D e s208 ⟨im, ib, i⟩ hk hf ha
         have kn : Kn e [(1, .slice a9 st170.2.2.length c9)] := ⟨((i.p 0) (hf 6 (Nat.le_of_ble_eq_true rfl) rfl)), trivial⟩
         exact L.kns _ kn (L.mv Wt.no rfl rfl (L.nil (X.dk kn ⟨im, Sub.fresh ib rfl, i.u 4 (fun _ => rfl)⟩)))
        ·rintro D e s209 ⟨im, ib, i⟩ hk hf ha
         have h9 := h9.mono (im.le no_No)
         have kn : Kn e [(63, .slice a9 st170.2.2.length c9)] := ⟨((i.p 4) (ha.at 3 rfl)), trivial⟩
         exact L.kns _ kn (L.sf (r := (rK .i64)) sl31 h9 Wt.no rfl rfl ex210 rfl fun a211 c211 h211 => L.nil (X.dk kn ⟨im, Sub.fresh ib rfl, (i.u 5 (fun _ => ⟨a211, c211, rfl, h211⟩)).u 7 (fun z => Bool.noConfusion ((hf 6 (Nat.le_of_ble_eq_true rfl) rfl).symm.trans z))⟩))
        ·rintro D e s212 ⟨im, ib, i⟩ hk hf ha
         have kn : Kn e [(62, .int .i64 x205)] := ⟨((i.p 3) (ha.at 2 rfl)), trivial⟩
         exact L.kns _ kn (L.as Wt.no rfl rfl (L.nil (X.dk kn ⟨im, Sub.fresh ib rfl, i.u 6 (fun _ => rfl)⟩)))
        rintro D e s213 ⟨im, ib, i⟩ hk hf ha
        obtain ⟨a211, c211, g4_, h211⟩ := (i.p 5) (ha.at 4 rfl)
        have kn : Kn e [(64, .slice a211 x210.length c211)] := ⟨g4_, trivial⟩
        exact L.kns _ kn (L.as Wt.no rfl rfl (L.nil (X.dk kn ⟨im, Sub.fresh ib rfl, (i.u 0 (fun z => Bool.noConfusion (show true = false from z))).u 7 (fun _ _ _ q4 => by cases g4_.symm.trans q4; exact rfl)⟩)))
       rintro D e s214 hD ⟨im, ib, i⟩
       obtain ⟨a211, c211, g4_, h211⟩ := (i.p 5) (hD 4 rfl)
       have g5_ := (i.p 6) (hD 5 rfl)
       have g6_ := (i.p 7) (hD 6 rfl) a211 c211 g4_
       have h184 := h184.mono (im.le no_No)
       have h5 := h5.mv im no_No no_No
       have hp2 := hp2.mono (im.le no_No)
       have m0 := m0.trans im.no
       refine X.sub (e' := [(1, .slice a211 x210.length c211), (10, .int .i64 x205), (0, .slice a184 l183.length c184), (9, .bool b180), (8, .bool b177), (7, .slice a5 st170.1.length c5), (2, vp2)]) ?_ (Sub.cons g6_ (Sub.cons g5_ (Sub.cons (ib 0 _ rfl) (Sub.cons (ib 9 _ rfl) (Sub.cons (ib 8 _ rfl) (Sub.cons (ib 7 _ rfl) (Sub.cons (ib 2 _ rfl) Sub.nil)))))))
       exact X.sub (Jj192 _ _ ⟨s214, x210, x205, a211, c211, hm, m0, h211, h184, h5, hp2, rfl, rfl⟩) (Sub.rf rfl)
      exact E.cF rfl hc (E.skip (X.sub (Jj192 _ _ ⟨s186, st170.2.2, n185, a9, c9, hm, m0, h9, h184, h5, hp2, rfl, rfl⟩) (Sub.rf rfl)))
     intro Jj187
     refine E.seq (E.reg (L.mv Wt.no rfl rfl (L.nil (X.seqN ?_))))
     rcases ifS hm with ⟨hc, hm⟩ | ⟨hc, hm⟩
     ·refine E.cT rfl hc ?_
      obtain ⟨x217, ex217, hm⟩ := bindS hm
      obtain ⟨x222, ex222, hm⟩ := bindS hm
      refine E.draw [[], [0], [0, 1], [], [3], [0, 1, 2], [0, 1, 2, 3, 4, 5]] (fun D e sx => Mv No s181 sx ∧ Sub [(9, .bool b180), (8, .bool b177), (7, .slice a5 st170.1.length c5), (1, .slice a9 st170.2.2.length c9), (2, vp2)] e ∧ AllP [D 6 = false → Env.get e 0 = some (.slice a7 st170.2.1.length c7), D 0 = true → (Env.get e 54 = some (.slice a7 st170.2.1.length c7)), D 1 = true → (∃ (b218 : Nat) (o218 : Nat), Env.get e 55 = some (.pointer (some ⟨b218, o218, none⟩)) ∧ Mem sx 0 b218 o218 [.int .i64 x217]), D 2 = true → (Env.get e 56 = some (.int .i64 x217)), D 3 = true → (Env.get e 57 = some (.slice a7 st170.2.1.length c7)), D 4 = true → (∃ (a223 : Option Addr) (c223 : Nat), Env.get e 58 = some (.slice a223 x222.length c223) ∧ RdL (rK .i64) sx a223 c223 x222), D 5 = true → (Env.get e 10 = some (.int .i64 x217)), D 6 = true → ∀ (a223 : Option Addr) (c223 : Nat), Env.get e 58 = some (.slice a223 x222.length c223) → (Env.get e 0 = some (.slice a223 x222.length c223))]) (by kernel_rfl) (by kernel_rfl) (by kernel_rfl) ?_ ?_ ?_
      ·intro sz mz
       exact ⟨mz, (Sub.rf rfl), fun _ => rfl, nofun, nofun, nofun, nofun, nofun, nofun, nofun, trivial⟩
      ·refine ⟨?_, ?_, ?_, ?_, ?_, ?_, ?_, trivial⟩
       ·rintro D e s215 ⟨im, ib, i⟩ hk hf ha
        have kn : Kn e [(0, .slice a7 st170.2.1.length c7)] := ⟨((i.p 0) (hf 6 (Nat.le_of_ble_eq_true rfl) rfl)), trivial⟩
        exact L.kns _ kn (L.mv Wt.no rfl rfl (L.nil (X.dk kn ⟨im, Sub.fresh ib rfl, i.u 1 (fun _ => rfl)⟩)))
       ·rintro D e s216 ⟨im, ib, i⟩ hk hf ha
        have h7 := h7.mono (im.le no_No)
        have kn : Kn e [(54, .slice a7 st170.2.1.length c7)] := ⟨((i.p 1) (ha.at 0 rfl)), trivial⟩
        refine L.kns _ kn (L.ix (r := (rK .i64)) sl31 h7 Wt.no rfl rfl ex217 rfl fun b218 o218 cc218 me218 rd218 => ?_)
        obtain rfl := rd218
        exact L.nil (X.dk kn ⟨im, Sub.fresh ib rfl, i.u 2 (fun _ => ⟨b218, o218, rfl, me218⟩)⟩)
       ·rintro D e s219 ⟨im, ib, i⟩ hk hf ha
        obtain ⟨b218, o218, g1_, me218⟩ := (i.p 2) (ha.at 1 rfl)
        have kn : Kn e [(55, .pointer (some ⟨b218, o218, none⟩))] := ⟨g1_, trivial⟩
        exact L.kns _ kn (L.ld (j := 0) me218 nag3 Wt.no rfl rfl rfl rfl (L.nil (X.dk kn ⟨im, Sub.fresh ib rfl, i.u 3 (fun _ => rfl)⟩)))
       ·rintro D e s220 ⟨im, ib, i⟩ hk hf ha
        have kn : Kn e [(0, .slice a7 st170.2.1.length c7)] := ⟨((i.p 0) (hf 6 (Nat.le_of_ble_eq_true rfl) rfl)), trivial⟩
        exact L.kns _ kn (L.mv Wt.no rfl rfl (L.nil (X.dk kn ⟨im, Sub.fresh ib rfl, i.u 4 (fun _ => rfl)⟩)))
       ·rintro D e s221 ⟨im, ib, i⟩ hk hf ha
        have h7 := h7.mono (im.le no_No)
        have kn : Kn e [(57, .slice a7 st170.2.1.length c7)] := ⟨((i.p 4) (ha.at 3 rfl)), trivial⟩
        exact L.kns _ kn (L.sf (r := (rK .i64)) sl31 h7 Wt.no rfl rfl ex222 rfl fun a223 c223 h223 => L.nil (X.dk kn ⟨im, Sub.fresh ib rfl, (i.u 5 (fun _ => ⟨a223, c223, rfl, h223⟩)).u 7 (fun z => Bool.noConfusion ((hf 6 (Nat.le_of_ble_eq_true rfl) rfl).symm.trans z))⟩))
       ·rintro D e s224 ⟨im, ib, i⟩ hk hf ha
        have kn : Kn e [(56, .int .i64 x217)] := ⟨((i.p 3) (ha.at 2 rfl)), trivial⟩
        exact L.kns _ kn (L.as Wt.no rfl rfl (L.nil (X.dk kn ⟨im, Sub.fresh ib rfl, i.u 6 (fun _ => rfl)⟩)))
       rintro D e s225 ⟨im, ib, i⟩ hk hf ha
       obtain ⟨a223, c223, g4_, h223⟩ := (i.p 5) (ha.at 4 rfl)
       have kn : Kn e [(58, .slice a223 x222.length c223)] := ⟨g4_, trivial⟩
       exact L.kns _ kn (L.as Wt.no rfl rfl (L.nil (X.dk kn ⟨im, Sub.fresh ib rfl, (i.u 0 (fun z => Bool.noConfusion (show true = false from z))).u 7 (fun _ _ _ q4 => by cases g4_.symm.trans q4; exact rfl)⟩)))
      rintro D e s226 hD ⟨im, ib, i⟩
      obtain ⟨a223, c223, g4_, h223⟩ := (i.p 5) (hD 4 rfl)
      have g5_ := (i.p 6) (hD 5 rfl)
      have g6_ := (i.p 7) (hD 6 rfl) a223 c223 g4_
      have h5 := h5.mv im no_No no_No
      have h9 := h9.mono (im.le no_No)
      have hp2 := hp2.mono (im.le no_No)
      have m0 := m0.trans im.no
      refine X.sub (e' := [(0, .slice a223 x222.length c223), (10, .int .i64 x217), (9, .bool b180), (8, .bool b177), (7, .slice a5 st170.1.length c5), (1, .slice a9 st170.2.2.length c9), (2, vp2)]) ?_ (Sub.cons g6_ (Sub.cons g5_ (Sub.cons (ib 9 _ rfl) (Sub.cons (ib 8 _ rfl) (Sub.cons (ib 7 _ rfl) (Sub.cons (ib 1 _ rfl) (Sub.cons (ib 2 _ rfl) Sub.nil)))))))
      exact X.sub (Jj187 _ _ ⟨s226, x222, x217, a223, c223, hm, m0, h223, h5, h9, hp2, rfl, rfl⟩) (Sub.rf rfl)
     exact E.cF rfl hc (E.skip (X.sub (Jj187 _ _ ⟨s181, st170.2.1, 0, a7, c7, hm, m0, h7, h5, h9, hp2, rfl, rfl⟩) (Sub.rf rfl)))
    intro Jj182
    rcases ifS hm with ⟨hc231, hm⟩ | ⟨hc231, hm⟩
    ·have _ := hN
     rcases ifS hm with ⟨hc236, hm⟩ | ⟨hc236, hm⟩
     ·have _ := hN
      refine E.draw [[], [0], [0, 1], [0, 1, 2], [0, 1, 2, 3], [0, 1, 2, 3, 4], [0, 1, 2, 3, 4, 5], [0, 1, 2, 3, 4, 5, 6], [0, 1, 2, 3, 4, 5, 6, 7], [0, 1, 2, 3, 4, 5, 6, 7, 8], [0, 1, 2, 3, 4, 5, 6, 7, 8, 9], [0, 1, 2, 3, 4, 5, 6, 7], [0, 1, 2, 3, 4, 5, 6, 7, 11], [0, 1, 2, 3, 4, 5, 6, 7, 11, 12], [0, 1, 2, 3, 4, 5, 6, 7, 8, 9, 10, 11, 12, 13], [0, 1, 2, 3, 4, 5, 6, 7, 8, 9, 10, 11, 12, 13, 14], [0, 1, 2, 3, 4, 5, 6, 7, 8, 9, 10, 11, 12, 13, 14, 15], [0, 1, 2, 3, 4, 5, 6, 7, 8, 9, 10, 11, 12, 13, 14, 15, 16]] (fun D e sx => Mv No s178 sx ∧ Sub [(8, .bool b177), (7, .slice a5 st170.1.length c5), (0, .slice a7 st170.2.1.length c7), (1, .slice a9 st170.2.2.length c9), (2, vp2)] e ∧ AllP [D 0 = true → (Env.get e 36 = some (.slice a9 st170.2.2.length c9)), D 1 = true → (Env.get e 37 = some (.int .i64 (st170.2.2.length : Int))), D 2 = true → (Env.get e 38 = some (.bool (decide ((st170.2.2.length : Int) > 0)))), D 3 = true → (Env.get e 39 = some (.bool (decide ((st170.2.2.length : Int) > 0)))), D 4 = true → (Env.get e 40 = some (.slice a7 st170.2.1.length c7)), D 5 = true → (Env.get e 41 = some (.int .i64 (st170.2.1.length : Int))), D 6 = true → (Env.get e 42 = some (.bool ((st170.2.1.length : Int) == 0))), D 7 = true → (Env.get e 43 = some (.bool ((st170.2.1.length : Int) == 0))), D 8 = true → (Env.get e 44 = some undef), D 9 = true → (Env.get e 45 = some undef), D 10 = true → (Env.get e 46 = some undef), D 11 = true → (Env.get e 47 = some undef), D 12 = true → (Env.get e 48 = some undef), D 13 = true → (Env.get e 49 = some undef), D 14 = true → (Env.get e 50 = some undef), D 15 = true → (Env.get e 51 = some (.bool true)), D 16 = true → (Env.get e 52 = some (.bool true)), D 17 = true → (Env.get e 9 = some (.bool true))]) (by kernel_rfl) (by kernel_rfl) (by kernel_rfl) ?_ ?_ ?_
      ·intro sz mz
       exact ⟨mz, (Sub.rf rfl), nofun, nofun, nofun, nofun, nofun, nofun, nofun, nofun, nofun, nofun, nofun, nofun, nofun, nofun, nofun, nofun, nofun, nofun, trivial⟩
      ·refine ⟨?_, ?_, ?_, ?_, ?_, ?_, ?_, ?_, ?_, ?_, ?_, ?_, ?_, ?_, ?_, ?_, ?_, ?_, trivial⟩
       ·rintro D e s227 ⟨im, ib, i⟩ hk hf ha
        have kn : Kn e [(1, .slice a9 st170.2.2.length c9)] := ⟨(ib 1 _ rfl), trivial⟩
        exact L.kns _ kn (L.mv Wt.no rfl rfl (L.nil (X.dk kn ⟨im, Sub.fresh ib rfl, i.u 0 (fun _ => rfl)⟩)))
       ·rintro D e s228 ⟨im, ib, i⟩ hk hf ha
        have kn : Kn e [(36, .slice a9 st170.2.2.length c9)] := ⟨((i.p 0) (ha.at 0 rfl)), trivial⟩
        exact L.kns _ kn (L.len sl31 Wt.no rfl rfl (L.nil (X.dk kn ⟨im, Sub.fresh ib rfl, i.u 1 (fun _ => rfl)⟩)))
       ·rintro D e s229 ⟨im, ib, i⟩ hk hf ha
        have kn : Kn e [(37, .int .i64 (st170.2.2.length : Int))] := ⟨((i.p 1) (ha.at 1 rfl)), trivial⟩
        exact L.kns _ kn (L.bi Wt.no rfl rfl rfl rfl (L.nil (X.dk kn ⟨im, Sub.fresh ib rfl, i.u 2 (fun _ => rfl)⟩)))
       ·rintro D e s230 ⟨im, ib, i⟩ hk hf ha
        have kn : Kn e [(38, .bool (decide ((st170.2.2.length : Int) > 0)))] := ⟨((i.p 2) (ha.at 2 rfl)), trivial⟩
        exact L.kns _ kn (L.mv Wt.no rfl rfl (L.nil (X.dk kn ⟨im, Sub.fresh ib rfl, i.u 3 (fun _ => rfl)⟩)))
       ·rintro D e s232 ⟨im, ib, i⟩ hk hf ha
        have g3_ := (i.p 3) (ha.at 3 rfl)
        rw [hc231] at g3_
        have kn : Kn e [(0, .slice a7 st170.2.1.length c7), (39, .bool true)] := ⟨(ib 0 _ rfl), g3_, trivial⟩
        exact L.kns _ kn (L.mv (Wt.mk rfl rfl) rfl rfl (L.nil (X.dk kn ⟨im, Sub.fresh ib rfl, i.u 4 (fun _ => rfl)⟩)))
       ·rintro D e s233 ⟨im, ib, i⟩ hk hf ha
        have g3_ := (i.p 3) (ha.at 3 rfl)
        rw [hc231] at g3_
        have kn : Kn e [(40, .slice a7 st170.2.1.length c7), (39, .bool true)] := ⟨((i.p 4) (ha.at 4 rfl)), g3_, trivial⟩
        exact L.kns _ kn (L.len sl31 (Wt.mk rfl rfl) rfl rfl (L.nil (X.dk kn ⟨im, Sub.fresh ib rfl, i.u 5 (fun _ => rfl)⟩)))
       ·rintro D e s234 ⟨im, ib, i⟩ hk hf ha
        have g3_ := (i.p 3) (ha.at 3 rfl)
        rw [hc231] at g3_
        have kn : Kn e [(41, .int .i64 (st170.2.1.length : Int)), (39, .bool true)] := ⟨((i.p 5) (ha.at 5 rfl)), g3_, trivial⟩
        exact L.kns _ kn (L.bi (Wt.mk rfl rfl) rfl rfl rfl rfl (L.nil (X.dk kn ⟨im, Sub.fresh ib rfl, i.u 6 (fun _ => rfl)⟩)))
       ·rintro D e s235 ⟨im, ib, i⟩ hk hf ha
        have g3_ := (i.p 3) (ha.at 3 rfl)
        rw [hc231] at g3_
        have kn : Kn e [(42, .bool ((st170.2.1.length : Int) == 0)), (39, .bool true)] := ⟨((i.p 6) (ha.at 6 rfl)), g3_, trivial⟩
        exact L.kns _ kn (L.mv (Wt.mk rfl rfl) rfl rfl (L.nil (X.dk kn ⟨im, Sub.fresh ib rfl, i.u 7 (fun _ => rfl)⟩)))
       ·rintro D e s237 ⟨im, ib, i⟩ hk hf ha
        have g7_ := (i.p 7) (ha.at 7 rfl)
        rw [hc236] at g7_
        have kn : Kn e [(1, .slice a9 st170.2.2.length c9), (43, .bool true)] := ⟨(ib 1 _ rfl), g7_, trivial⟩
        exact L.kns _ kn (L.skip rfl rfl rfl rfl (L.nil (X.dk kn ⟨im, Sub.fresh ib rfl, i.u 8 (fun _ => rfl)⟩)))
       ·rintro D e s238 ⟨im, ib, i⟩ hk hf ha
        have g7_ := (i.p 7) (ha.at 7 rfl)
        rw [hc236] at g7_
        have kn : Kn e [(44, undef), (43, .bool true)] := ⟨((i.p 8) (ha.at 8 rfl)), g7_, trivial⟩
        exact L.kns _ kn (L.skip rfl rfl rfl rfl (L.nil (X.dk kn ⟨im, Sub.fresh ib rfl, i.u 9 (fun _ => rfl)⟩)))
       ·rintro D e s239 ⟨im, ib, i⟩ hk hf ha
        have g7_ := (i.p 7) (ha.at 7 rfl)
        rw [hc236] at g7_
        have kn : Kn e [(45, undef), (43, .bool true)] := ⟨((i.p 9) (ha.at 9 rfl)), g7_, trivial⟩
        exact L.kns _ kn (L.skip rfl rfl rfl rfl (L.nil (X.dk kn ⟨im, Sub.fresh ib rfl, i.u 10 (fun _ => rfl)⟩)))
       ·rintro D e s240 ⟨im, ib, i⟩ hk hf ha
        have g7_ := (i.p 7) (ha.at 7 rfl)
        rw [hc236] at g7_
        have kn : Kn e [(0, .slice a7 st170.2.1.length c7), (43, .bool true)] := ⟨(ib 0 _ rfl), g7_, trivial⟩
        exact L.kns _ kn (L.skip rfl rfl rfl rfl (L.nil (X.dk kn ⟨im, Sub.fresh ib rfl, i.u 11 (fun _ => rfl)⟩)))
       ·rintro D e s241 ⟨im, ib, i⟩ hk hf ha
        have g7_ := (i.p 7) (ha.at 7 rfl)
        rw [hc236] at g7_
        have kn : Kn e [(47, undef), (43, .bool true)] := ⟨((i.p 11) (ha.at 11 rfl)), g7_, trivial⟩
        exact L.kns _ kn (L.skip rfl rfl rfl rfl (L.nil (X.dk kn ⟨im, Sub.fresh ib rfl, i.u 12 (fun _ => rfl)⟩)))
       ·rintro D e s242 ⟨im, ib, i⟩ hk hf ha
        have g7_ := (i.p 7) (ha.at 7 rfl)
        rw [hc236] at g7_
        have kn : Kn e [(48, undef), (43, .bool true)] := ⟨((i.p 12) (ha.at 12 rfl)), g7_, trivial⟩
        exact L.kns _ kn (L.skip rfl rfl rfl rfl (L.nil (X.dk kn ⟨im, Sub.fresh ib rfl, i.u 13 (fun _ => rfl)⟩)))
       ·rintro D e s243 ⟨im, ib, i⟩ hk hf ha
        have g7_ := (i.p 7) (ha.at 7 rfl)
        rw [hc236] at g7_
        have kn : Kn e [(46, undef), (49, undef), (43, .bool true)] := ⟨((i.p 10) (ha.at 10 rfl)), ((i.p 13) (ha.at 13 rfl)), g7_, trivial⟩
        exact L.kns _ kn (L.skip rfl rfl rfl rfl (L.nil (X.dk kn ⟨im, Sub.fresh ib rfl, i.u 14 (fun _ => rfl)⟩)))
       ·rintro D e s244 ⟨im, ib, i⟩ hk hf ha
        have g3_ := (i.p 3) (ha.at 3 rfl)
        have g7_ := (i.p 7) (ha.at 7 rfl)
        rw [hc236] at g7_
        rw [hc231] at g3_
        have kn : Kn e [(43, .bool true), (50, undef), (39, .bool true)] := ⟨g7_, ((i.p 14) (ha.at 14 rfl)), g3_, trivial⟩
        exact L.kns _ kn (L.pkT (Wt.mk rfl rfl) rfl rfl rfl rfl (L.nil (X.dk kn ⟨im, Sub.fresh ib rfl, i.u 15 (fun _ => rfl)⟩)))
       ·rintro D e s245 ⟨im, ib, i⟩ hk hf ha
        have g3_ := (i.p 3) (ha.at 3 rfl)
        rw [hc231] at g3_
        have kn : Kn e [(39, .bool true), (51, .bool true)] := ⟨g3_, ((i.p 15) (ha.at 15 rfl)), trivial⟩
        exact L.kns _ kn (L.pkT Wt.no rfl rfl rfl rfl (L.nil (X.dk kn ⟨im, Sub.fresh ib rfl, i.u 16 (fun _ => rfl)⟩)))
       rintro D e s246 ⟨im, ib, i⟩ hk hf ha
       have kn : Kn e [(52, .bool true)] := ⟨((i.p 16) (ha.at 16 rfl)), trivial⟩
       exact L.kns _ kn (L.as Wt.no rfl rfl (L.nil (X.dk kn ⟨im, Sub.fresh ib rfl, i.u 17 (fun _ => rfl)⟩)))
      rintro D e s247 hD ⟨im, ib, i⟩
      have g17_ := (i.p 17) (hD 17 rfl)
      have h5 := h5.mv im no_No no_No
      have h7 := h7.mono (im.le no_No)
      have h9 := h9.mono (im.le no_No)
      have hp2 := hp2.mono (im.le no_No)
      have m0 := m0.trans im.no
      refine X.sub (e' := [(9, .bool true), (8, .bool b177), (7, .slice a5 st170.1.length c5), (0, .slice a7 st170.2.1.length c7), (1, .slice a9 st170.2.2.length c9), (2, vp2)]) ?_ (Sub.cons g17_ (Sub.cons (ib 8 _ rfl) (Sub.cons (ib 7 _ rfl) (Sub.cons (ib 0 _ rfl) (Sub.cons (ib 1 _ rfl) (Sub.cons (ib 2 _ rfl) Sub.nil))))))
      exact X.sub (Jj182 _ _ ⟨s247, true, hm, m0, h5, h7, h9, hp2, rfl, rfl⟩) (Sub.rf rfl)
     have _ := hN
     obtain ⟨x250, ex250, hm⟩ := bindS hm
     obtain ⟨x255, ex255, hm⟩ := bindS hm
     refine E.draw [[], [0], [0, 1], [0, 1, 2], [0, 1, 2, 3], [0, 1, 2, 3, 4], [0, 1, 2, 3, 4, 5], [0, 1, 2, 3, 4, 5, 6], [0, 1, 2, 3, 4, 5, 6, 7], [0, 1, 2, 3, 4, 5, 6, 7, 8], [0, 1, 2, 3, 4, 5, 6, 7, 8, 9], [0, 1, 2, 3, 4, 5, 6, 7], [0, 1, 2, 3, 4, 5, 6, 7, 11], [0, 1, 2, 3, 4, 5, 6, 7, 11, 12], [0, 1, 2, 3, 4, 5, 6, 7, 8, 9, 10, 11, 12, 13], [0, 1, 2, 3, 4, 5, 6, 7, 8, 9, 10, 11, 12, 13, 14], [0, 1, 2, 3, 4, 5, 6, 7, 8, 9, 10, 11, 12, 13, 14, 15], [0, 1, 2, 3, 4, 5, 6, 7, 8, 9, 10, 11, 12, 13, 14, 15, 16]] (fun D e sx => Mv No s178 sx ∧ Sub [(8, .bool b177), (7, .slice a5 st170.1.length c5), (0, .slice a7 st170.2.1.length c7), (1, .slice a9 st170.2.2.length c9), (2, vp2)] e ∧ AllP [D 0 = true → (Env.get e 36 = some (.slice a9 st170.2.2.length c9)), D 1 = true → (Env.get e 37 = some (.int .i64 (st170.2.2.length : Int))), D 2 = true → (Env.get e 38 = some (.bool (decide ((st170.2.2.length : Int) > 0)))), D 3 = true → (Env.get e 39 = some (.bool (decide ((st170.2.2.length : Int) > 0)))), D 4 = true → (Env.get e 40 = some (.slice a7 st170.2.1.length c7)), D 5 = true → (Env.get e 41 = some (.int .i64 (st170.2.1.length : Int))), D 6 = true → (Env.get e 42 = some (.bool ((st170.2.1.length : Int) == 0))), D 7 = true → (Env.get e 43 = some (.bool ((st170.2.1.length : Int) == 0))), D 8 = true → (Env.get e 44 = some (.slice a9 st170.2.2.length c9)), D 9 = true → (∃ (b251 : Nat) (o251 : Nat), Env.get e 45 = some (.pointer (some ⟨b251, o251, none⟩)) ∧ Mem sx 0 b251 o251 [.int .i64 x250]), D 10 = true → (Env.get e 46 = some (.int .i64 x250)), D 11 = true → (Env.get e 47 = some (.slice a7 st170.2.1.length c7)), D 12 = true → (∃ (b256 : Nat) (o256 : Nat), Env.get e 48 = some (.pointer (some ⟨b256, o256, none⟩)) ∧ Mem sx 0 b256 o256 [.int .i64 x255]), D 13 = true → (Env.get e 49 = some (.int .i64 x255)), D 14 = true → (Env.get e 50 = some (.bool (decide (x250 ≤ x255)))), D 15 = true → (Env.get e 51 = some (.bool (decide (x250 ≤ x255)))), D 16 = true → (Env.get e 52 = some (.bool (decide (x250 ≤ x255)))), D 17 = true → (Env.get e 9 = some (.bool (decide (x250 ≤ x255))))]) (by kernel_rfl) (by kernel_rfl) (by kernel_rfl) ?_ ?_ ?_
     ·intro sz mz
      exact ⟨mz, (Sub.rf rfl), nofun, nofun, nofun, nofun, nofun, nofun, nofun, nofun, nofun, nofun, nofun, nofun, nofun, nofun, nofun, nofun, nofun, nofun, trivial⟩
     ·refine ⟨?_, ?_, ?_, ?_, ?_, ?_, ?_, ?_, ?_, ?_, ?_, ?_, ?_, ?_, ?_, ?_, ?_, ?_, trivial⟩
      ·rintro D e s227 ⟨im, ib, i⟩ hk hf ha
       have kn : Kn e [(1, .slice a9 st170.2.2.length c9)] := ⟨(ib 1 _ rfl), trivial⟩
       exact L.kns _ kn (L.mv Wt.no rfl rfl (L.nil (X.dk kn ⟨im, Sub.fresh ib rfl, i.u 0 (fun _ => rfl)⟩)))
      ·rintro D e s228 ⟨im, ib, i⟩ hk hf ha
       have kn : Kn e [(36, .slice a9 st170.2.2.length c9)] := ⟨((i.p 0) (ha.at 0 rfl)), trivial⟩
       exact L.kns _ kn (L.len sl31 Wt.no rfl rfl (L.nil (X.dk kn ⟨im, Sub.fresh ib rfl, i.u 1 (fun _ => rfl)⟩)))
      ·rintro D e s229 ⟨im, ib, i⟩ hk hf ha
       have kn : Kn e [(37, .int .i64 (st170.2.2.length : Int))] := ⟨((i.p 1) (ha.at 1 rfl)), trivial⟩
       exact L.kns _ kn (L.bi Wt.no rfl rfl rfl rfl (L.nil (X.dk kn ⟨im, Sub.fresh ib rfl, i.u 2 (fun _ => rfl)⟩)))
      ·rintro D e s230 ⟨im, ib, i⟩ hk hf ha
       have kn : Kn e [(38, .bool (decide ((st170.2.2.length : Int) > 0)))] := ⟨((i.p 2) (ha.at 2 rfl)), trivial⟩
       exact L.kns _ kn (L.mv Wt.no rfl rfl (L.nil (X.dk kn ⟨im, Sub.fresh ib rfl, i.u 3 (fun _ => rfl)⟩)))
      ·rintro D e s232 ⟨im, ib, i⟩ hk hf ha
       have g3_ := (i.p 3) (ha.at 3 rfl)
       rw [hc231] at g3_
       have kn : Kn e [(0, .slice a7 st170.2.1.length c7), (39, .bool true)] := ⟨(ib 0 _ rfl), g3_, trivial⟩
       exact L.kns _ kn (L.mv (Wt.mk rfl rfl) rfl rfl (L.nil (X.dk kn ⟨im, Sub.fresh ib rfl, i.u 4 (fun _ => rfl)⟩)))
      ·rintro D e s233 ⟨im, ib, i⟩ hk hf ha
       have g3_ := (i.p 3) (ha.at 3 rfl)
       rw [hc231] at g3_
       have kn : Kn e [(40, .slice a7 st170.2.1.length c7), (39, .bool true)] := ⟨((i.p 4) (ha.at 4 rfl)), g3_, trivial⟩
       exact L.kns _ kn (L.len sl31 (Wt.mk rfl rfl) rfl rfl (L.nil (X.dk kn ⟨im, Sub.fresh ib rfl, i.u 5 (fun _ => rfl)⟩)))
      ·rintro D e s234 ⟨im, ib, i⟩ hk hf ha
       have g3_ := (i.p 3) (ha.at 3 rfl)
       rw [hc231] at g3_
       have kn : Kn e [(41, .int .i64 (st170.2.1.length : Int)), (39, .bool true)] := ⟨((i.p 5) (ha.at 5 rfl)), g3_, trivial⟩
       exact L.kns _ kn (L.bi (Wt.mk rfl rfl) rfl rfl rfl rfl (L.nil (X.dk kn ⟨im, Sub.fresh ib rfl, i.u 6 (fun _ => rfl)⟩)))
      ·rintro D e s235 ⟨im, ib, i⟩ hk hf ha
       have g3_ := (i.p 3) (ha.at 3 rfl)
       rw [hc231] at g3_
       have kn : Kn e [(42, .bool ((st170.2.1.length : Int) == 0)), (39, .bool true)] := ⟨((i.p 6) (ha.at 6 rfl)), g3_, trivial⟩
       exact L.kns _ kn (L.mv (Wt.mk rfl rfl) rfl rfl (L.nil (X.dk kn ⟨im, Sub.fresh ib rfl, i.u 7 (fun _ => rfl)⟩)))
      ·rintro D e s248 ⟨im, ib, i⟩ hk hf ha
       have g7_ := (i.p 7) (ha.at 7 rfl)
       rw [hc236] at g7_
       have kn : Kn e [(1, .slice a9 st170.2.2.length c9), (43, .bool false)] := ⟨(ib 1 _ rfl), g7_, trivial⟩
       exact L.kns _ kn (L.mv (Wt.mk rfl rfl) rfl rfl (L.nil (X.dk kn ⟨im, Sub.fresh ib rfl, i.u 8 (fun _ => rfl)⟩)))
      ·rintro D e s249 ⟨im, ib, i⟩ hk hf ha
       have g7_ := (i.p 7) (ha.at 7 rfl)
       have h9 := h9.mono (im.le no_No)
       rw [hc236] at g7_
       have kn : Kn e [(44, .slice a9 st170.2.2.length c9), (43, .bool false)] := ⟨((i.p 8) (ha.at 8 rfl)), g7_, trivial⟩
       refine L.kns _ kn (L.ix (r := (rK .i64)) sl31 h9 (Wt.mk rfl rfl) rfl rfl ex250 rfl fun b251 o251 cc251 me251 rd251 => ?_)
       obtain rfl := rd251
       exact L.nil (X.dk kn ⟨im, Sub.fresh ib rfl, i.u 9 (fun _ => ⟨b251, o251, rfl, me251⟩)⟩)
      ·rintro D e s252 ⟨im, ib, i⟩ hk hf ha
       have g7_ := (i.p 7) (ha.at 7 rfl)
       obtain ⟨b251, o251, g9_, me251⟩ := (i.p 9) (ha.at 9 rfl)
       rw [hc236] at g7_
       have kn : Kn e [(45, .pointer (some ⟨b251, o251, none⟩)), (43, .bool false)] := ⟨g9_, g7_, trivial⟩
       exact L.kns _ kn (L.ld (j := 0) me251 nag3 (Wt.mk rfl rfl) rfl rfl rfl rfl (L.nil (X.dk kn ⟨im, Sub.fresh ib rfl, i.u 10 (fun _ => rfl)⟩)))
      ·rintro D e s253 ⟨im, ib, i⟩ hk hf ha
       have g7_ := (i.p 7) (ha.at 7 rfl)
       rw [hc236] at g7_
       have kn : Kn e [(0, .slice a7 st170.2.1.length c7), (43, .bool false)] := ⟨(ib 0 _ rfl), g7_, trivial⟩
       exact L.kns _ kn (L.mv (Wt.mk rfl rfl) rfl rfl (L.nil (X.dk kn ⟨im, Sub.fresh ib rfl, i.u 11 (fun _ => rfl)⟩)))
      ·rintro D e s254 ⟨im, ib, i⟩ hk hf ha
       have g7_ := (i.p 7) (ha.at 7 rfl)
       have h7 := h7.mono (im.le no_No)
       rw [hc236] at g7_
       have kn : Kn e [(47, .slice a7 st170.2.1.length c7), (43, .bool false)] := ⟨((i.p 11) (ha.at 11 rfl)), g7_, trivial⟩
       refine L.kns _ kn (L.ix (r := (rK .i64)) sl31 h7 (Wt.mk rfl rfl) rfl rfl ex255 rfl fun b256 o256 cc256 me256 rd256 => ?_)
       obtain rfl := rd256
       exact L.nil (X.dk kn ⟨im, Sub.fresh ib rfl, i.u 12 (fun _ => ⟨b256, o256, rfl, me256⟩)⟩)
      ·rintro D e s257 ⟨im, ib, i⟩ hk hf ha
       have g7_ := (i.p 7) (ha.at 7 rfl)
       obtain ⟨b256, o256, g12_, me256⟩ := (i.p 12) (ha.at 12 rfl)
       rw [hc236] at g7_
       have kn : Kn e [(48, .pointer (some ⟨b256, o256, none⟩)), (43, .bool false)] := ⟨g12_, g7_, trivial⟩
       exact L.kns _ kn (L.ld (j := 0) me256 nag3 (Wt.mk rfl rfl) rfl rfl rfl rfl (L.nil (X.dk kn ⟨im, Sub.fresh ib rfl, i.u 13 (fun _ => rfl)⟩)))
      ·rintro D e s258 ⟨im, ib, i⟩ hk hf ha
       have g7_ := (i.p 7) (ha.at 7 rfl)
       rw [hc236] at g7_
       have kn : Kn e [(46, .int .i64 x250), (49, .int .i64 x255), (43, .bool false)] := ⟨((i.p 10) (ha.at 10 rfl)), ((i.p 13) (ha.at 13 rfl)), g7_, trivial⟩
       exact L.kns _ kn (L.bi (Wt.mk rfl rfl) rfl rfl rfl rfl (L.nil (X.dk kn ⟨im, Sub.fresh ib rfl, i.u 14 (fun _ => rfl)⟩)))
      ·rintro D e s259 ⟨im, ib, i⟩ hk hf ha
       have g3_ := (i.p 3) (ha.at 3 rfl)
       have g7_ := (i.p 7) (ha.at 7 rfl)
       rw [hc236] at g7_
       rw [hc231] at g3_
       have kn : Kn e [(43, .bool false), (50, .bool (decide (x250 ≤ x255))), (39, .bool true)] := ⟨g7_, ((i.p 14) (ha.at 14 rfl)), g3_, trivial⟩
       exact L.kns _ kn (L.pkF (Wt.mk rfl rfl) rfl rfl rfl rfl (L.nil (X.dk kn ⟨im, Sub.fresh ib rfl, i.u 15 (fun _ => rfl)⟩)))
      ·rintro D e s260 ⟨im, ib, i⟩ hk hf ha
       have g3_ := (i.p 3) (ha.at 3 rfl)
       rw [hc231] at g3_
       have kn : Kn e [(39, .bool true), (51, .bool (decide (x250 ≤ x255)))] := ⟨g3_, ((i.p 15) (ha.at 15 rfl)), trivial⟩
       exact L.kns _ kn (L.pkT Wt.no rfl rfl rfl rfl (L.nil (X.dk kn ⟨im, Sub.fresh ib rfl, i.u 16 (fun _ => rfl)⟩)))
      rintro D e s261 ⟨im, ib, i⟩ hk hf ha
      have kn : Kn e [(52, .bool (decide (x250 ≤ x255)))] := ⟨((i.p 16) (ha.at 16 rfl)), trivial⟩
      exact L.kns _ kn (L.as Wt.no rfl rfl (L.nil (X.dk kn ⟨im, Sub.fresh ib rfl, i.u 17 (fun _ => rfl)⟩)))
     rintro D e s262 hD ⟨im, ib, i⟩
     have g17_ := (i.p 17) (hD 17 rfl)
     have h5 := h5.mv im no_No no_No
     have h7 := h7.mono (im.le no_No)
     have h9 := h9.mono (im.le no_No)
     have hp2 := hp2.mono (im.le no_No)
     have m0 := m0.trans im.no
     refine X.sub (e' := [(9, .bool (decide (x250 ≤ x255))), (8, .bool b177), (7, .slice a5 st170.1.length c5), (0, .slice a7 st170.2.1.length c7), (1, .slice a9 st170.2.2.length c9), (2, vp2)]) ?_ (Sub.cons g17_ (Sub.cons (ib 8 _ rfl) (Sub.cons (ib 7 _ rfl) (Sub.cons (ib 0 _ rfl) (Sub.cons (ib 1 _ rfl) (Sub.cons (ib 2 _ rfl) Sub.nil))))))
     exact X.sub (Jj182 _ _ ⟨s262, (decide (x250 ≤ x255)), hm, m0, h5, h7, h9, hp2, rfl, rfl⟩) (Sub.rf rfl)
    have _ := hN
    refine E.draw [[], [0], [0, 1], [0, 1, 2], [0, 1, 2, 3], [0, 1, 2, 3, 4], [0, 1, 2, 3, 4, 5], [0, 1, 2, 3, 4, 5, 6], [0, 1, 2, 3, 4, 5, 6, 7], [0, 1, 2, 3, 4, 5, 6, 7, 8], [0, 1, 2, 3, 4, 5, 6, 7, 8, 9], [0, 1, 2, 3, 4, 5, 6, 7], [0, 1, 2, 3, 4, 5, 6, 7, 11], [0, 1, 2, 3, 4, 5, 6, 7, 11, 12], [0, 1, 2, 3, 4, 5, 6, 7, 8, 9, 10, 11, 12, 13], [0, 1, 2, 3, 4, 5, 6, 7, 8, 9, 10, 11, 12, 13, 14], [0, 1, 2, 3, 4, 5, 6, 7, 8, 9, 10, 11, 12, 13, 14, 15], [0, 1, 2, 3, 4, 5, 6, 7, 8, 9, 10, 11, 12, 13, 14, 15, 16]] (fun D e sx => Mv No s178 sx ∧ Sub [(8, .bool b177), (7, .slice a5 st170.1.length c5), (0, .slice a7 st170.2.1.length c7), (1, .slice a9 st170.2.2.length c9), (2, vp2)] e ∧ AllP [D 0 = true → (Env.get e 36 = some (.slice a9 st170.2.2.length c9)), D 1 = true → (Env.get e 37 = some (.int .i64 (st170.2.2.length : Int))), D 2 = true → (Env.get e 38 = some (.bool (decide ((st170.2.2.length : Int) > 0)))), D 3 = true → (Env.get e 39 = some (.bool (decide ((st170.2.2.length : Int) > 0)))), D 4 = true → (Env.get e 40 = some undef), D 5 = true → (Env.get e 41 = some undef), D 6 = true → (Env.get e 42 = some undef), D 7 = true → (Env.get e 43 = some undef), D 8 = true → (Env.get e 44 = some undef), D 9 = true → (Env.get e 45 = some undef), D 10 = true → (Env.get e 46 = some undef), D 11 = true → (Env.get e 47 = some undef), D 12 = true → (Env.get e 48 = some undef), D 13 = true → (Env.get e 49 = some undef), D 14 = true → (Env.get e 50 = some undef), D 15 = true → (Env.get e 51 = some undef), D 16 = true → (Env.get e 52 = some (.bool false)), D 17 = true → (Env.get e 9 = some (.bool false))]) (by kernel_rfl) (by kernel_rfl) (by kernel_rfl) ?_ ?_ ?_
    ·intro sz mz
     exact ⟨mz, (Sub.rf rfl), nofun, nofun, nofun, nofun, nofun, nofun, nofun, nofun, nofun, nofun, nofun, nofun, nofun, nofun, nofun, nofun, nofun, nofun, trivial⟩
    ·refine ⟨?_, ?_, ?_, ?_, ?_, ?_, ?_, ?_, ?_, ?_, ?_, ?_, ?_, ?_, ?_, ?_, ?_, ?_, trivial⟩
     ·rintro D e s227 ⟨im, ib, i⟩ hk hf ha
      have kn : Kn e [(1, .slice a9 st170.2.2.length c9)] := ⟨(ib 1 _ rfl), trivial⟩
      exact L.kns _ kn (L.mv Wt.no rfl rfl (L.nil (X.dk kn ⟨im, Sub.fresh ib rfl, i.u 0 (fun _ => rfl)⟩)))
     ·rintro D e s228 ⟨im, ib, i⟩ hk hf ha
      have kn : Kn e [(36, .slice a9 st170.2.2.length c9)] := ⟨((i.p 0) (ha.at 0 rfl)), trivial⟩
      exact L.kns _ kn (L.len sl31 Wt.no rfl rfl (L.nil (X.dk kn ⟨im, Sub.fresh ib rfl, i.u 1 (fun _ => rfl)⟩)))
     ·rintro D e s229 ⟨im, ib, i⟩ hk hf ha
      have kn : Kn e [(37, .int .i64 (st170.2.2.length : Int))] := ⟨((i.p 1) (ha.at 1 rfl)), trivial⟩
      exact L.kns _ kn (L.bi Wt.no rfl rfl rfl rfl (L.nil (X.dk kn ⟨im, Sub.fresh ib rfl, i.u 2 (fun _ => rfl)⟩)))
     ·rintro D e s230 ⟨im, ib, i⟩ hk hf ha
      have kn : Kn e [(38, .bool (decide ((st170.2.2.length : Int) > 0)))] := ⟨((i.p 2) (ha.at 2 rfl)), trivial⟩
      exact L.kns _ kn (L.mv Wt.no rfl rfl (L.nil (X.dk kn ⟨im, Sub.fresh ib rfl, i.u 3 (fun _ => rfl)⟩)))
     ·rintro D e s263 ⟨im, ib, i⟩ hk hf ha
      have g3_ := (i.p 3) (ha.at 3 rfl)
      rw [hc231] at g3_
      have kn : Kn e [(0, .slice a7 st170.2.1.length c7), (39, .bool false)] := ⟨(ib 0 _ rfl), g3_, trivial⟩
      exact L.kns _ kn (L.skip rfl rfl rfl rfl (L.nil (X.dk kn ⟨im, Sub.fresh ib rfl, i.u 4 (fun _ => rfl)⟩)))
     ·rintro D e s264 ⟨im, ib, i⟩ hk hf ha
      have g3_ := (i.p 3) (ha.at 3 rfl)
      rw [hc231] at g3_
      have kn : Kn e [(40, undef), (39, .bool false)] := ⟨((i.p 4) (ha.at 4 rfl)), g3_, trivial⟩
      exact L.kns _ kn (L.skip rfl rfl rfl rfl (L.nil (X.dk kn ⟨im, Sub.fresh ib rfl, i.u 5 (fun _ => rfl)⟩)))
     ·rintro D e s265 ⟨im, ib, i⟩ hk hf ha
      have g3_ := (i.p 3) (ha.at 3 rfl)
      rw [hc231] at g3_
      have kn : Kn e [(41, undef), (39, .bool false)] := ⟨((i.p 5) (ha.at 5 rfl)), g3_, trivial⟩
      exact L.kns _ kn (L.skip rfl rfl rfl rfl (L.nil (X.dk kn ⟨im, Sub.fresh ib rfl, i.u 6 (fun _ => rfl)⟩)))
     ·rintro D e s266 ⟨im, ib, i⟩ hk hf ha
      have g3_ := (i.p 3) (ha.at 3 rfl)
      rw [hc231] at g3_
      have kn : Kn e [(42, undef), (39, .bool false)] := ⟨((i.p 6) (ha.at 6 rfl)), g3_, trivial⟩
      exact L.kns _ kn (L.skip rfl rfl rfl rfl (L.nil (X.dk kn ⟨im, Sub.fresh ib rfl, i.u 7 (fun _ => rfl)⟩)))
     ·rintro D e s267 ⟨im, ib, i⟩ hk hf ha
      have kn : Kn e [(1, .slice a9 st170.2.2.length c9), (43, undef)] := ⟨(ib 1 _ rfl), ((i.p 7) (ha.at 7 rfl)), trivial⟩
      exact L.kns _ kn (L.skipU rfl rfl rfl (L.nil (X.dk kn ⟨im, Sub.fresh ib rfl, i.u 8 (fun _ => rfl)⟩)))
     ·rintro D e s268 ⟨im, ib, i⟩ hk hf ha
      have kn : Kn e [(44, undef), (43, undef)] := ⟨((i.p 8) (ha.at 8 rfl)), ((i.p 7) (ha.at 7 rfl)), trivial⟩
      exact L.kns _ kn (L.skipU rfl rfl rfl (L.nil (X.dk kn ⟨im, Sub.fresh ib rfl, i.u 9 (fun _ => rfl)⟩)))
     ·rintro D e s269 ⟨im, ib, i⟩ hk hf ha
      have kn : Kn e [(45, undef), (43, undef)] := ⟨((i.p 9) (ha.at 9 rfl)), ((i.p 7) (ha.at 7 rfl)), trivial⟩
      exact L.kns _ kn (L.skipU rfl rfl rfl (L.nil (X.dk kn ⟨im, Sub.fresh ib rfl, i.u 10 (fun _ => rfl)⟩)))
     ·rintro D e s270 ⟨im, ib, i⟩ hk hf ha
      have kn : Kn e [(0, .slice a7 st170.2.1.length c7), (43, undef)] := ⟨(ib 0 _ rfl), ((i.p 7) (ha.at 7 rfl)), trivial⟩
      exact L.kns _ kn (L.skipU rfl rfl rfl (L.nil (X.dk kn ⟨im, Sub.fresh ib rfl, i.u 11 (fun _ => rfl)⟩)))
     ·rintro D e s271 ⟨im, ib, i⟩ hk hf ha
      have kn : Kn e [(47, undef), (43, undef)] := ⟨((i.p 11) (ha.at 11 rfl)), ((i.p 7) (ha.at 7 rfl)), trivial⟩
      exact L.kns _ kn (L.skipU rfl rfl rfl (L.nil (X.dk kn ⟨im, Sub.fresh ib rfl, i.u 12 (fun _ => rfl)⟩)))
     ·rintro D e s272 ⟨im, ib, i⟩ hk hf ha
      have kn : Kn e [(48, undef), (43, undef)] := ⟨((i.p 12) (ha.at 12 rfl)), ((i.p 7) (ha.at 7 rfl)), trivial⟩
      exact L.kns _ kn (L.skipU rfl rfl rfl (L.nil (X.dk kn ⟨im, Sub.fresh ib rfl, i.u 13 (fun _ => rfl)⟩)))
     ·rintro D e s273 ⟨im, ib, i⟩ hk hf ha
      have kn : Kn e [(46, undef), (49, undef), (43, undef)] := ⟨((i.p 10) (ha.at 10 rfl)), ((i.p 13) (ha.at 13 rfl)), ((i.p 7) (ha.at 7 rfl)), trivial⟩
      exact L.kns _ kn (L.skipU rfl rfl rfl (L.nil (X.dk kn ⟨im, Sub.fresh ib rfl, i.u 14 (fun _ => rfl)⟩)))
     ·rintro D e s274 ⟨im, ib, i⟩ hk hf ha
      have g3_ := (i.p 3) (ha.at 3 rfl)
      rw [hc231] at g3_
      have kn : Kn e [(43, undef), (50, undef), (39, .bool false)] := ⟨((i.p 7) (ha.at 7 rfl)), ((i.p 14) (ha.at 14 rfl)), g3_, trivial⟩
      exact L.kns _ kn (L.skip rfl rfl rfl rfl (L.nil (X.dk kn ⟨im, Sub.fresh ib rfl, i.u 15 (fun _ => rfl)⟩)))
     ·rintro D e s275 ⟨im, ib, i⟩ hk hf ha
      have g3_ := (i.p 3) (ha.at 3 rfl)
      rw [hc231] at g3_
      have kn : Kn e [(39, .bool false), (51, undef)] := ⟨g3_, ((i.p 15) (ha.at 15 rfl)), trivial⟩
      exact L.kns _ kn (L.pkF Wt.no rfl rfl rfl rfl (L.nil (X.dk kn ⟨im, Sub.fresh ib rfl, i.u 16 (fun _ => rfl)⟩)))
     rintro D e s276 ⟨im, ib, i⟩ hk hf ha
     have kn : Kn e [(52, .bool false)] := ⟨((i.p 16) (ha.at 16 rfl)), trivial⟩
     exact L.kns _ kn (L.as Wt.no rfl rfl (L.nil (X.dk kn ⟨im, Sub.fresh ib rfl, i.u 17 (fun _ => rfl)⟩)))
    rintro D e s277 hD ⟨im, ib, i⟩
    have g17_ := (i.p 17) (hD 17 rfl)
    have h5 := h5.mv im no_No no_No
    have h7 := h7.mono (im.le no_No)
    have h9 := h9.mono (im.le no_No)
    have hp2 := hp2.mono (im.le no_No)
    have m0 := m0.trans im.no
    refine X.sub (e' := [(9, .bool false), (8, .bool b177), (7, .slice a5 st170.1.length c5), (0, .slice a7 st170.2.1.length c7), (1, .slice a9 st170.2.2.length c9), (2, vp2)]) ?_ (Sub.cons g17_ (Sub.cons (ib 8 _ rfl) (Sub.cons (ib 7 _ rfl) (Sub.cons (ib 0 _ rfl) (Sub.cons (ib 1 _ rfl) (Sub.cons (ib 2 _ rfl) Sub.nil))))))
    exact X.sub (Jj182 _ _ ⟨s277, false, hm, m0, h5, h7, h9, hp2, rfl, rfl⟩) (Sub.rf rfl)
   intro Jj179
   rcases ifS hm with ⟨hc282, hm⟩ | ⟨hc282, hm⟩
   ·have _ := hN
    rcases ifS hm with ⟨hc287, hm⟩ | ⟨hc287, hm⟩
    ·have _ := hN
     refine E.draw [[], [0], [0, 1], [0, 1, 2], [0, 1, 2, 3], [0, 1, 2, 3, 4], [0, 1, 2, 3, 4, 5], [0, 1, 2, 3, 4, 5, 6], [0, 1, 2, 3, 4, 5, 6, 7], [0, 1, 2, 3, 4, 5, 6, 7, 8], [0, 1, 2, 3, 4, 5, 6, 7, 8, 9], [0, 1, 2, 3, 4, 5, 6, 7], [0, 1, 2, 3, 4, 5, 6, 7, 11], [0, 1, 2, 3, 4, 5, 6, 7, 11, 12], [0, 1, 2, 3, 4, 5, 6, 7, 8, 9, 10, 11, 12, 13], [0, 1, 2, 3, 4, 5, 6, 7, 8, 9, 10, 11, 12, 13, 14], [0, 1, 2, 3, 4, 5, 6, 7, 8, 9, 10, 11, 12, 13, 14, 15], [0, 1, 2, 3, 4, 5, 6, 7, 8, 9, 10, 11, 12, 13, 14, 15, 16]] (fun D e sx => Mv No s173 sx ∧ Sub [(7, .slice a5 st170.1.length c5), (0, .slice a7 st170.2.1.length c7), (1, .slice a9 st170.2.2.length c9), (2, vp2)] e ∧ AllP [D 0 = true → (Env.get e 19 = some (.slice a7 st170.2.1.length c7)), D 1 = true → (Env.get e 20 = some (.int .i64 (st170.2.1.length : Int))), D 2 = true → (Env.get e 21 = some (.bool (decide ((st170.2.1.length : Int) > 0)))), D 3 = true → (Env.get e 22 = some (.bool (decide ((st170.2.1.length : Int) > 0)))), D 4 = true → (Env.get e 23 = some (.slice a9 st170.2.2.length c9)), D 5 = true → (Env.get e 24 = some (.int .i64 (st170.2.2.length : Int))), D 6 = true → (Env.get e 25 = some (.bool ((st170.2.2.length : Int) == 0))), D 7 = true → (Env.get e 26 = some (.bool ((st170.2.2.length : Int) == 0))), D 8 = true → (Env.get e 27 = some undef), D 9 = true → (Env.get e 28 = some undef), D 10 = true → (Env.get e 29 = some undef), D 11 = true → (Env.get e 30 = some undef), D 12 = true → (Env.get e 31 = some undef), D 13 = true → (Env.get e 32 = some undef), D 14 = true → (Env.get e 33 = some undef), D 15 = true → (Env.get e 34 = some (.bool true)), D 16 = true → (Env.get e 35 = some (.bool true)), D 17 = true → (Env.get e 8 = some (.bool true))]) (by kernel_rfl) (by kernel_rfl) (by kernel_rfl) ?_ ?_ ?_
     ·intro sz mz
      exact ⟨mz, (Sub.rf rfl), nofun, nofun, nofun, nofun, nofun, nofun, nofun, nofun, nofun, nofun, nofun, nofun, nofun, nofun, nofun, nofun, nofun, nofun, trivial⟩
     ·refine ⟨?_, ?_, ?_, ?_, ?_, ?_, ?_, ?_, ?_, ?_, ?_, ?_, ?_, ?_, ?_, ?_, ?_, ?_, trivial⟩
      ·rintro D e s278 ⟨im, ib, i⟩ hk hf ha
       have kn : Kn e [(0, .slice a7 st170.2.1.length c7)] := ⟨(ib 0 _ rfl), trivial⟩
       exact L.kns _ kn (L.mv Wt.no rfl rfl (L.nil (X.dk kn ⟨im, Sub.fresh ib rfl, i.u 0 (fun _ => rfl)⟩)))
      ·rintro D e s279 ⟨im, ib, i⟩ hk hf ha
       have kn : Kn e [(19, .slice a7 st170.2.1.length c7)] := ⟨((i.p 0) (ha.at 0 rfl)), trivial⟩
       exact L.kns _ kn (L.len sl31 Wt.no rfl rfl (L.nil (X.dk kn ⟨im, Sub.fresh ib rfl, i.u 1 (fun _ => rfl)⟩)))
      ·rintro D e s280 ⟨im, ib, i⟩ hk hf ha
       have kn : Kn e [(20, .int .i64 (st170.2.1.length : Int))] := ⟨((i.p 1) (ha.at 1 rfl)), trivial⟩
       exact L.kns _ kn (L.bi Wt.no rfl rfl rfl rfl (L.nil (X.dk kn ⟨im, Sub.fresh ib rfl, i.u 2 (fun _ => rfl)⟩)))
      ·rintro D e s281 ⟨im, ib, i⟩ hk hf ha
       have kn : Kn e [(21, .bool (decide ((st170.2.1.length : Int) > 0)))] := ⟨((i.p 2) (ha.at 2 rfl)), trivial⟩
       exact L.kns _ kn (L.mv Wt.no rfl rfl (L.nil (X.dk kn ⟨im, Sub.fresh ib rfl, i.u 3 (fun _ => rfl)⟩)))
      ·rintro D e s283 ⟨im, ib, i⟩ hk hf ha
       have g3_ := (i.p 3) (ha.at 3 rfl)
       rw [hc282] at g3_
       have kn : Kn e [(1, .slice a9 st170.2.2.length c9), (22, .bool true)] := ⟨(ib 1 _ rfl), g3_, trivial⟩
       exact L.kns _ kn (L.mv (Wt.mk rfl rfl) rfl rfl (L.nil (X.dk kn ⟨im, Sub.fresh ib rfl, i.u 4 (fun _ => rfl)⟩)))
      ·rintro D e s284 ⟨im, ib, i⟩ hk hf ha
       have g3_ := (i.p 3) (ha.at 3 rfl)
       rw [hc282] at g3_
       have kn : Kn e [(23, .slice a9 st170.2.2.length c9), (22, .bool true)] := ⟨((i.p 4) (ha.at 4 rfl)), g3_, trivial⟩
       exact L.kns _ kn (L.len sl31 (Wt.mk rfl rfl) rfl rfl (L.nil (X.dk kn ⟨im, Sub.fresh ib rfl, i.u 5 (fun _ => rfl)⟩)))
      ·rintro D e s285 ⟨im, ib, i⟩ hk hf ha
       have g3_ := (i.p 3) (ha.at 3 rfl)
       rw [hc282] at g3_
       have kn : Kn e [(24, .int .i64 (st170.2.2.length : Int)), (22, .bool true)] := ⟨((i.p 5) (ha.at 5 rfl)), g3_, trivial⟩
       exact L.kns _ kn (L.bi (Wt.mk rfl rfl) rfl rfl rfl rfl (L.nil (X.dk kn ⟨im, Sub.fresh ib rfl, i.u 6 (fun _ => rfl)⟩)))
      ·rintro D e s286 ⟨im, ib, i⟩ hk hf ha
       have g3_ := (i.p 3) (ha.at 3 rfl)
       rw [hc282] at g3_
       have kn : Kn e [(25, .bool ((st170.2.2.length : Int) == 0)), (22, .bool true)] := ⟨((i.p 6) (ha.at 6 rfl)), g3_, trivial⟩
       exact L.kns _ kn (L.mv (Wt.mk rfl rfl) rfl rfl (L.nil (X.dk kn ⟨im, Sub.fresh ib rfl, i.u 7 (fun _ => rfl)⟩)))
      ·rintro D e s288 ⟨im, ib, i⟩ hk hf ha
       have g7_ := (i.p 7) (ha.at 7 rfl)
       rw [hc287] at g7_
       have kn : Kn e [(0, .slice a7 st170.2.1.length c7), (26, .bool true)] := ⟨(ib 0 _ rfl), g7_, trivial⟩
       exact L.kns _ kn (L.skip rfl rfl rfl rfl (L.nil (X.dk kn ⟨im, Sub.fresh ib rfl, i.u 8 (fun _ => rfl)⟩)))
      ·rintro D e s289 ⟨im, ib, i⟩ hk hf ha
       have g7_ := (i.p 7) (ha.at 7 rfl)
       rw [hc287] at g7_
       have kn : Kn e [(27, undef), (26, .bool true)] := ⟨((i.p 8) (ha.at 8 rfl)), g7_, trivial⟩
       exact L.kns _ kn (L.skip rfl rfl rfl rfl (L.nil (X.dk kn ⟨im, Sub.fresh ib rfl, i.u 9 (fun _ => rfl)⟩)))
      ·rintro D e s290 ⟨im, ib, i⟩ hk hf ha
       have g7_ := (i.p 7) (ha.at 7 rfl)
       rw [hc287] at g7_
       have kn : Kn e [(28, undef), (26, .bool true)] := ⟨((i.p 9) (ha.at 9 rfl)), g7_, trivial⟩
       exact L.kns _ kn (L.skip rfl rfl rfl rfl (L.nil (X.dk kn ⟨im, Sub.fresh ib rfl, i.u 10 (fun _ => rfl)⟩)))
      ·rintro D e s291 ⟨im, ib, i⟩ hk hf ha
       have g7_ := (i.p 7) (ha.at 7 rfl)
       rw [hc287] at g7_
       have kn : Kn e [(1, .slice a9 st170.2.2.length c9), (26, .bool true)] := ⟨(ib 1 _ rfl), g7_, trivial⟩
       exact L.kns _ kn (L.skip rfl rfl rfl rfl (L.nil (X.dk kn ⟨im, Sub.fresh ib rfl, i.u 11 (fun _ => rfl)⟩)))
      ·rintro D e s292 ⟨im, ib, i⟩ hk hf ha
       have g7_ := (i.p 7) (ha.at 7 rfl)
       rw [hc287] at g7_
       have kn : Kn e [(30, undef), (26, .bool true)] := ⟨((i.p 11) (ha.at 11 rfl)), g7_, trivial⟩
       exact L.kns _ kn (L.skip rfl rfl rfl rfl (L.nil (X.dk kn ⟨im, Sub.fresh ib rfl, i.u 12 (fun _ => rfl)⟩)))
      ·rintro D e s293 ⟨im, ib, i⟩ hk hf ha
       have g7_ := (i.p 7) (ha.at 7 rfl)
       rw [hc287] at g7_
       have kn : Kn e [(31, undef), (26, .bool true)] := ⟨((i.p 12) (ha.at 12 rfl)), g7_, trivial⟩
       exact L.kns _ kn (L.skip rfl rfl rfl rfl (L.nil (X.dk kn ⟨im, Sub.fresh ib rfl, i.u 13 (fun _ => rfl)⟩)))
      ·rintro D e s294 ⟨im, ib, i⟩ hk hf ha
       have g7_ := (i.p 7) (ha.at 7 rfl)
       rw [hc287] at g7_
       have kn : Kn e [(29, undef), (32, undef), (26, .bool true)] := ⟨((i.p 10) (ha.at 10 rfl)), ((i.p 13) (ha.at 13 rfl)), g7_, trivial⟩
       exact L.kns _ kn (L.skip rfl rfl rfl rfl (L.nil (X.dk kn ⟨im, Sub.fresh ib rfl, i.u 14 (fun _ => rfl)⟩)))
      ·rintro D e s295 ⟨im, ib, i⟩ hk hf ha
       have g3_ := (i.p 3) (ha.at 3 rfl)
       have g7_ := (i.p 7) (ha.at 7 rfl)
       rw [hc287] at g7_
       rw [hc282] at g3_
       have kn : Kn e [(26, .bool true), (33, undef), (22, .bool true)] := ⟨g7_, ((i.p 14) (ha.at 14 rfl)), g3_, trivial⟩
       exact L.kns _ kn (L.pkT (Wt.mk rfl rfl) rfl rfl rfl rfl (L.nil (X.dk kn ⟨im, Sub.fresh ib rfl, i.u 15 (fun _ => rfl)⟩)))
      ·rintro D e s296 ⟨im, ib, i⟩ hk hf ha
       have g3_ := (i.p 3) (ha.at 3 rfl)
       rw [hc282] at g3_
       have kn : Kn e [(22, .bool true), (34, .bool true)] := ⟨g3_, ((i.p 15) (ha.at 15 rfl)), trivial⟩
       exact L.kns _ kn (L.pkT Wt.no rfl rfl rfl rfl (L.nil (X.dk kn ⟨im, Sub.fresh ib rfl, i.u 16 (fun _ => rfl)⟩)))
      rintro D e s297 ⟨im, ib, i⟩ hk hf ha
      have kn : Kn e [(35, .bool true)] := ⟨((i.p 16) (ha.at 16 rfl)), trivial⟩
      exact L.kns _ kn (L.as Wt.no rfl rfl (L.nil (X.dk kn ⟨im, Sub.fresh ib rfl, i.u 17 (fun _ => rfl)⟩)))
     rintro D e s298 hD ⟨im, ib, i⟩
     have g17_ := (i.p 17) (hD 17 rfl)
     have h5 := h5.mv im no_No no_No
     have h7 := h7.mono (im.le no_No)
     have h9 := h9.mono (im.le no_No)
     have hp2 := hp2.mono (im.le no_No)
     have m0 := m0.trans im.no
     refine X.sub (e' := [(8, .bool true), (7, .slice a5 st170.1.length c5), (0, .slice a7 st170.2.1.length c7), (1, .slice a9 st170.2.2.length c9), (2, vp2)]) ?_ (Sub.cons g17_ (Sub.cons (ib 7 _ rfl) (Sub.cons (ib 0 _ rfl) (Sub.cons (ib 1 _ rfl) (Sub.cons (ib 2 _ rfl) Sub.nil)))))
     exact X.sub (Jj179 _ _ ⟨s298, true, hm, m0, h5, h7, h9, hp2, rfl, rfl⟩) (Sub.rf rfl)
    have _ := hN
    obtain ⟨x301, ex301, hm⟩ := bindS hm
    obtain ⟨x306, ex306, hm⟩ := bindS hm
    refine E.draw [[], [0], [0, 1], [0, 1, 2], [0, 1, 2, 3], [0, 1, 2, 3, 4], [0, 1, 2, 3, 4, 5], [0, 1, 2, 3, 4, 5, 6], [0, 1, 2, 3, 4, 5, 6, 7], [0, 1, 2, 3, 4, 5, 6, 7, 8], [0, 1, 2, 3, 4, 5, 6, 7, 8, 9], [0, 1, 2, 3, 4, 5, 6, 7], [0, 1, 2, 3, 4, 5, 6, 7, 11], [0, 1, 2, 3, 4, 5, 6, 7, 11, 12], [0, 1, 2, 3, 4, 5, 6, 7, 8, 9, 10, 11, 12, 13], [0, 1, 2, 3, 4, 5, 6, 7, 8, 9, 10, 11, 12, 13, 14], [0, 1, 2, 3, 4, 5, 6, 7, 8, 9, 10, 11, 12, 13, 14, 15], [0, 1, 2, 3, 4, 5, 6, 7, 8, 9, 10, 11, 12, 13, 14, 15, 16]] (fun D e sx => Mv No s173 sx ∧ Sub [(7, .slice a5 st170.1.length c5), (0, .slice a7 st170.2.1.length c7), (1, .slice a9 st170.2.2.length c9), (2, vp2)] e ∧ AllP [D 0 = true → (Env.get e 19 = some (.slice a7 st170.2.1.length c7)), D 1 = true → (Env.get e 20 = some (.int .i64 (st170.2.1.length : Int))), D 2 = true → (Env.get e 21 = some (.bool (decide ((st170.2.1.length : Int) > 0)))), D 3 = true → (Env.get e 22 = some (.bool (decide ((st170.2.1.length : Int) > 0)))), D 4 = true → (Env.get e 23 = some (.slice a9 st170.2.2.length c9)), D 5 = true → (Env.get e 24 = some (.int .i64 (st170.2.2.length : Int))), D 6 = true → (Env.get e 25 = some (.bool ((st170.2.2.length : Int) == 0))), D 7 = true → (Env.get e 26 = some (.bool ((st170.2.2.length : Int) == 0))), D 8 = true → (Env.get e 27 = some (.slice a7 st170.2.1.length c7)), D 9 = true → (∃ (b302 : Nat) (o302 : Nat), Env.get e 28 = some (.pointer (some ⟨b302, o302, none⟩)) ∧ Mem sx 0 b302 o302 [.int .i64 x301]), D 10 = true → (Env.get e 29 = some (.int .i64 x301)), D 11 = true → (Env.get e 30 = some (.slice a9 st170.2.2.length c9)), D 12 = true → (∃ (b307 : Nat) (o307 : Nat), Env.get e 31 = some (.pointer (some ⟨b307, o307, none⟩)) ∧ Mem sx 0 b307 o307 [.int .i64 x306]), D 13 = true → (Env.get e 32 = some (.int .i64 x306)), D 14 = true → (Env.get e 33 = some (.bool (decide (x301 ≤ x306)))), D 15 = true → (Env.get e 34 = some (.bool (decide (x301 ≤ x306)))), D 16 = true → (Env.get e 35 = some (.bool (decide (x301 ≤ x306)))), D 17 = true → (Env.get e 8 = some (.bool (decide (x301 ≤ x306))))]) (by kernel_rfl) (by kernel_rfl) (by kernel_rfl) ?_ ?_ ?_
    ·intro sz mz
     exact ⟨mz, (Sub.rf rfl), nofun, nofun, nofun, nofun, nofun, nofun, nofun, nofun, nofun, nofun, nofun, nofun, nofun, nofun, nofun, nofun, nofun, nofun, trivial⟩
    ·refine ⟨?_, ?_, ?_, ?_, ?_, ?_, ?_, ?_, ?_, ?_, ?_, ?_, ?_, ?_, ?_, ?_, ?_, ?_, trivial⟩
     ·rintro D e s278 ⟨im, ib, i⟩ hk hf ha
      have kn : Kn e [(0, .slice a7 st170.2.1.length c7)] := ⟨(ib 0 _ rfl), trivial⟩
      exact L.kns _ kn (L.mv Wt.no rfl rfl (L.nil (X.dk kn ⟨im, Sub.fresh ib rfl, i.u 0 (fun _ => rfl)⟩)))
     ·rintro D e s279 ⟨im, ib, i⟩ hk hf ha
      have kn : Kn e [(19, .slice a7 st170.2.1.length c7)] := ⟨((i.p 0) (ha.at 0 rfl)), trivial⟩
      exact L.kns _ kn (L.len sl31 Wt.no rfl rfl (L.nil (X.dk kn ⟨im, Sub.fresh ib rfl, i.u 1 (fun _ => rfl)⟩)))
     ·rintro D e s280 ⟨im, ib, i⟩ hk hf ha
      have kn : Kn e [(20, .int .i64 (st170.2.1.length : Int))] := ⟨((i.p 1) (ha.at 1 rfl)), trivial⟩
      exact L.kns _ kn (L.bi Wt.no rfl rfl rfl rfl (L.nil (X.dk kn ⟨im, Sub.fresh ib rfl, i.u 2 (fun _ => rfl)⟩)))
     ·rintro D e s281 ⟨im, ib, i⟩ hk hf ha
      have kn : Kn e [(21, .bool (decide ((st170.2.1.length : Int) > 0)))] := ⟨((i.p 2) (ha.at 2 rfl)), trivial⟩
      exact L.kns _ kn (L.mv Wt.no rfl rfl (L.nil (X.dk kn ⟨im, Sub.fresh ib rfl, i.u 3 (fun _ => rfl)⟩)))
     ·rintro D e s283 ⟨im, ib, i⟩ hk hf ha
      have g3_ := (i.p 3) (ha.at 3 rfl)
      rw [hc282] at g3_
      have kn : Kn e [(1, .slice a9 st170.2.2.length c9), (22, .bool true)] := ⟨(ib 1 _ rfl), g3_, trivial⟩
      exact L.kns _ kn (L.mv (Wt.mk rfl rfl) rfl rfl (L.nil (X.dk kn ⟨im, Sub.fresh ib rfl, i.u 4 (fun _ => rfl)⟩)))
     ·rintro D e s284 ⟨im, ib, i⟩ hk hf ha
      have g3_ := (i.p 3) (ha.at 3 rfl)
      rw [hc282] at g3_
      have kn : Kn e [(23, .slice a9 st170.2.2.length c9), (22, .bool true)] := ⟨((i.p 4) (ha.at 4 rfl)), g3_, trivial⟩
      exact L.kns _ kn (L.len sl31 (Wt.mk rfl rfl) rfl rfl (L.nil (X.dk kn ⟨im, Sub.fresh ib rfl, i.u 5 (fun _ => rfl)⟩)))
     ·rintro D e s285 ⟨im, ib, i⟩ hk hf ha
      have g3_ := (i.p 3) (ha.at 3 rfl)
      rw [hc282] at g3_
      have kn : Kn e [(24, .int .i64 (st170.2.2.length : Int)), (22, .bool true)] := ⟨((i.p 5) (ha.at 5 rfl)), g3_, trivial⟩
      exact L.kns _ kn (L.bi (Wt.mk rfl rfl) rfl rfl rfl rfl (L.nil (X.dk kn ⟨im, Sub.fresh ib rfl, i.u 6 (fun _ => rfl)⟩)))
     ·rintro D e s286 ⟨im, ib, i⟩ hk hf ha
      have g3_ := (i.p 3) (ha.at 3 rfl)
      rw [hc282] at g3_
      have kn : Kn e [(25, .bool ((st170.2.2.length : Int) == 0)), (22, .bool true)] := ⟨((i.p 6) (ha.at 6 rfl)), g3_, trivial⟩
      exact L.kns _ kn (L.mv (Wt.mk rfl rfl) rfl rfl (L.nil (X.dk kn ⟨im, Sub.fresh ib rfl, i.u 7 (fun _ => rfl)⟩)))
     ·rintro D e s299 ⟨im, ib, i⟩ hk hf ha
      have g7_ := (i.p 7) (ha.at 7 rfl)
      rw [hc287] at g7_
      have kn : Kn e [(0, .slice a7 st170.2.1.length c7), (26, .bool false)] := ⟨(ib 0 _ rfl), g7_, trivial⟩
      exact L.kns _ kn (L.mv (Wt.mk rfl rfl) rfl rfl (L.nil (X.dk kn ⟨im, Sub.fresh ib rfl, i.u 8 (fun _ => rfl)⟩)))
     ·rintro D e s300 ⟨im, ib, i⟩ hk hf ha
      have g7_ := (i.p 7) (ha.at 7 rfl)
      have h7 := h7.mono (im.le no_No)
      rw [hc287] at g7_
      have kn : Kn e [(27, .slice a7 st170.2.1.length c7), (26, .bool false)] := ⟨((i.p 8) (ha.at 8 rfl)), g7_, trivial⟩
      refine L.kns _ kn (L.ix (r := (rK .i64)) sl31 h7 (Wt.mk rfl rfl) rfl rfl ex301 rfl fun b302 o302 cc302 me302 rd302 => ?_)
      obtain rfl := rd302
      exact L.nil (X.dk kn ⟨im, Sub.fresh ib rfl, i.u 9 (fun _ => ⟨b302, o302, rfl, me302⟩)⟩)
     ·rintro D e s303 ⟨im, ib, i⟩ hk hf ha
      have g7_ := (i.p 7) (ha.at 7 rfl)
      obtain ⟨b302, o302, g9_, me302⟩ := (i.p 9) (ha.at 9 rfl)
      rw [hc287] at g7_
      have kn : Kn e [(28, .pointer (some ⟨b302, o302, none⟩)), (26, .bool false)] := ⟨g9_, g7_, trivial⟩
      exact L.kns _ kn (L.ld (j := 0) me302 nag3 (Wt.mk rfl rfl) rfl rfl rfl rfl (L.nil (X.dk kn ⟨im, Sub.fresh ib rfl, i.u 10 (fun _ => rfl)⟩)))
     ·rintro D e s304 ⟨im, ib, i⟩ hk hf ha
      have g7_ := (i.p 7) (ha.at 7 rfl)
      rw [hc287] at g7_
      have kn : Kn e [(1, .slice a9 st170.2.2.length c9), (26, .bool false)] := ⟨(ib 1 _ rfl), g7_, trivial⟩
      exact L.kns _ kn (L.mv (Wt.mk rfl rfl) rfl rfl (L.nil (X.dk kn ⟨im, Sub.fresh ib rfl, i.u 11 (fun _ => rfl)⟩)))
     ·rintro D e s305 ⟨im, ib, i⟩ hk hf ha
      have g7_ := (i.p 7) (ha.at 7 rfl)
      have h9 := h9.mono (im.le no_No)
      rw [hc287] at g7_
      have kn : Kn e [(30, .slice a9 st170.2.2.length c9), (26, .bool false)] := ⟨((i.p 11) (ha.at 11 rfl)), g7_, trivial⟩
      refine L.kns _ kn (L.ix (r := (rK .i64)) sl31 h9 (Wt.mk rfl rfl) rfl rfl ex306 rfl fun b307 o307 cc307 me307 rd307 => ?_)
      obtain rfl := rd307
      exact L.nil (X.dk kn ⟨im, Sub.fresh ib rfl, i.u 12 (fun _ => ⟨b307, o307, rfl, me307⟩)⟩)
     ·rintro D e s308 ⟨im, ib, i⟩ hk hf ha
      have g7_ := (i.p 7) (ha.at 7 rfl)
      obtain ⟨b307, o307, g12_, me307⟩ := (i.p 12) (ha.at 12 rfl)
      rw [hc287] at g7_
      have kn : Kn e [(31, .pointer (some ⟨b307, o307, none⟩)), (26, .bool false)] := ⟨g12_, g7_, trivial⟩
      exact L.kns _ kn (L.ld (j := 0) me307 nag3 (Wt.mk rfl rfl) rfl rfl rfl rfl (L.nil (X.dk kn ⟨im, Sub.fresh ib rfl, i.u 13 (fun _ => rfl)⟩)))
     ·rintro D e s309 ⟨im, ib, i⟩ hk hf ha
      have g7_ := (i.p 7) (ha.at 7 rfl)
      rw [hc287] at g7_
      have kn : Kn e [(29, .int .i64 x301), (32, .int .i64 x306), (26, .bool false)] := ⟨((i.p 10) (ha.at 10 rfl)), ((i.p 13) (ha.at 13 rfl)), g7_, trivial⟩
      exact L.kns _ kn (L.bi (Wt.mk rfl rfl) rfl rfl rfl rfl (L.nil (X.dk kn ⟨im, Sub.fresh ib rfl, i.u 14 (fun _ => rfl)⟩)))
     ·rintro D e s310 ⟨im, ib, i⟩ hk hf ha
      have g3_ := (i.p 3) (ha.at 3 rfl)
      have g7_ := (i.p 7) (ha.at 7 rfl)
      rw [hc287] at g7_
      rw [hc282] at g3_
      have kn : Kn e [(26, .bool false), (33, .bool (decide (x301 ≤ x306))), (22, .bool true)] := ⟨g7_, ((i.p 14) (ha.at 14 rfl)), g3_, trivial⟩
      exact L.kns _ kn (L.pkF (Wt.mk rfl rfl) rfl rfl rfl rfl (L.nil (X.dk kn ⟨im, Sub.fresh ib rfl, i.u 15 (fun _ => rfl)⟩)))
     ·rintro D e s311 ⟨im, ib, i⟩ hk hf ha
      have g3_ := (i.p 3) (ha.at 3 rfl)
      rw [hc282] at g3_
      have kn : Kn e [(22, .bool true), (34, .bool (decide (x301 ≤ x306)))] := ⟨g3_, ((i.p 15) (ha.at 15 rfl)), trivial⟩
      exact L.kns _ kn (L.pkT Wt.no rfl rfl rfl rfl (L.nil (X.dk kn ⟨im, Sub.fresh ib rfl, i.u 16 (fun _ => rfl)⟩)))
     rintro D e s312 ⟨im, ib, i⟩ hk hf ha
     have kn : Kn e [(35, .bool (decide (x301 ≤ x306)))] := ⟨((i.p 16) (ha.at 16 rfl)), trivial⟩
     exact L.kns _ kn (L.as Wt.no rfl rfl (L.nil (X.dk kn ⟨im, Sub.fresh ib rfl, i.u 17 (fun _ => rfl)⟩)))
    rintro D e s313 hD ⟨im, ib, i⟩
    have g17_ := (i.p 17) (hD 17 rfl)
    have h5 := h5.mv im no_No no_No
    have h7 := h7.mono (im.le no_No)
    have h9 := h9.mono (im.le no_No)
    have hp2 := hp2.mono (im.le no_No)
    have m0 := m0.trans im.no
    refine X.sub (e' := [(8, .bool (decide (x301 ≤ x306))), (7, .slice a5 st170.1.length c5), (0, .slice a7 st170.2.1.length c7), (1, .slice a9 st170.2.2.length c9), (2, vp2)]) ?_ (Sub.cons g17_ (Sub.cons (ib 7 _ rfl) (Sub.cons (ib 0 _ rfl) (Sub.cons (ib 1 _ rfl) (Sub.cons (ib 2 _ rfl) Sub.nil)))))
    exact X.sub (Jj179 _ _ ⟨s313, (decide (x301 ≤ x306)), hm, m0, h5, h7, h9, hp2, rfl, rfl⟩) (Sub.rf rfl)
   have _ := hN
   refine E.draw [[], [0], [0, 1], [0, 1, 2], [0, 1, 2, 3], [0, 1, 2, 3, 4], [0, 1, 2, 3, 4, 5], [0, 1, 2, 3, 4, 5, 6], [0, 1, 2, 3, 4, 5, 6, 7], [0, 1, 2, 3, 4, 5, 6, 7, 8], [0, 1, 2, 3, 4, 5, 6, 7, 8, 9], [0, 1, 2, 3, 4, 5, 6, 7], [0, 1, 2, 3, 4, 5, 6, 7, 11], [0, 1, 2, 3, 4, 5, 6, 7, 11, 12], [0, 1, 2, 3, 4, 5, 6, 7, 8, 9, 10, 11, 12, 13], [0, 1, 2, 3, 4, 5, 6, 7, 8, 9, 10, 11, 12, 13, 14], [0, 1, 2, 3, 4, 5, 6, 7, 8, 9, 10, 11, 12, 13, 14, 15], [0, 1, 2, 3, 4, 5, 6, 7, 8, 9, 10, 11, 12, 13, 14, 15, 16]] (fun D e sx => Mv No s173 sx ∧ Sub [(7, .slice a5 st170.1.length c5), (0, .slice a7 st170.2.1.length c7), (1, .slice a9 st170.2.2.length c9), (2, vp2)] e ∧ AllP [D 0 = true → (Env.get e 19 = some (.slice a7 st170.2.1.length c7)), D 1 = true → (Env.get e 20 = some (.int .i64 (st170.2.1.length : Int))), D 2 = true → (Env.get e 21 = some (.bool (decide ((st170.2.1.length : Int) > 0)))), D 3 = true → (Env.get e 22 = some (.bool (decide ((st170.2.1.length : Int) > 0)))), D 4 = true → (Env.get e 23 = some undef), D 5 = true → (Env.get e 24 = some undef), D 6 = true → (Env.get e 25 = some undef), D 7 = true → (Env.get e 26 = some undef), D 8 = true → (Env.get e 27 = some undef), D 9 = true → (Env.get e 28 = some undef), D 10 = true → (Env.get e 29 = some undef), D 11 = true → (Env.get e 30 = some undef), D 12 = true → (Env.get e 31 = some undef), D 13 = true → (Env.get e 32 = some undef), D 14 = true → (Env.get e 33 = some undef), D 15 = true → (Env.get e 34 = some undef), D 16 = true → (Env.get e 35 = some (.bool false)), D 17 = true → (Env.get e 8 = some (.bool false))]) (by kernel_rfl) (by kernel_rfl) (by kernel_rfl) ?_ ?_ ?_
   ·intro sz mz
    exact ⟨mz, (Sub.rf rfl), nofun, nofun, nofun, nofun, nofun, nofun, nofun, nofun, nofun, nofun, nofun, nofun, nofun, nofun, nofun, nofun, nofun, nofun, trivial⟩
   ·refine ⟨?_, ?_, ?_, ?_, ?_, ?_, ?_, ?_, ?_, ?_, ?_, ?_, ?_, ?_, ?_, ?_, ?_, ?_, trivial⟩
    ·rintro D e s278 ⟨im, ib, i⟩ hk hf ha
     have kn : Kn e [(0, .slice a7 st170.2.1.length c7)] := ⟨(ib 0 _ rfl), trivial⟩
     exact L.kns _ kn (L.mv Wt.no rfl rfl (L.nil (X.dk kn ⟨im, Sub.fresh ib rfl, i.u 0 (fun _ => rfl)⟩)))
    ·rintro D e s279 ⟨im, ib, i⟩ hk hf ha
     have kn : Kn e [(19, .slice a7 st170.2.1.length c7)] := ⟨((i.p 0) (ha.at 0 rfl)), trivial⟩
     exact L.kns _ kn (L.len sl31 Wt.no rfl rfl (L.nil (X.dk kn ⟨im, Sub.fresh ib rfl, i.u 1 (fun _ => rfl)⟩)))
    ·rintro D e s280 ⟨im, ib, i⟩ hk hf ha
     have kn : Kn e [(20, .int .i64 (st170.2.1.length : Int))] := ⟨((i.p 1) (ha.at 1 rfl)), trivial⟩
     exact L.kns _ kn (L.bi Wt.no rfl rfl rfl rfl (L.nil (X.dk kn ⟨im, Sub.fresh ib rfl, i.u 2 (fun _ => rfl)⟩)))
    ·rintro D e s281 ⟨im, ib, i⟩ hk hf ha
     have kn : Kn e [(21, .bool (decide ((st170.2.1.length : Int) > 0)))] := ⟨((i.p 2) (ha.at 2 rfl)), trivial⟩
     exact L.kns _ kn (L.mv Wt.no rfl rfl (L.nil (X.dk kn ⟨im, Sub.fresh ib rfl, i.u 3 (fun _ => rfl)⟩)))
    ·rintro D e s314 ⟨im, ib, i⟩ hk hf ha
     have g3_ := (i.p 3) (ha.at 3 rfl)
     rw [hc282] at g3_
     have kn : Kn e [(1, .slice a9 st170.2.2.length c9), (22, .bool false)] := ⟨(ib 1 _ rfl), g3_, trivial⟩
     exact L.kns _ kn (L.skip rfl rfl rfl rfl (L.nil (X.dk kn ⟨im, Sub.fresh ib rfl, i.u 4 (fun _ => rfl)⟩)))
    ·rintro D e s315 ⟨im, ib, i⟩ hk hf ha
     have g3_ := (i.p 3) (ha.at 3 rfl)
     rw [hc282] at g3_
     have kn : Kn e [(23, undef), (22, .bool false)] := ⟨((i.p 4) (ha.at 4 rfl)), g3_, trivial⟩
     exact L.kns _ kn (L.skip rfl rfl rfl rfl (L.nil (X.dk kn ⟨im, Sub.fresh ib rfl, i.u 5 (fun _ => rfl)⟩)))
    ·rintro D e s316 ⟨im, ib, i⟩ hk hf ha
     have g3_ := (i.p 3) (ha.at 3 rfl)
     rw [hc282] at g3_
     have kn : Kn e [(24, undef), (22, .bool false)] := ⟨((i.p 5) (ha.at 5 rfl)), g3_, trivial⟩
     exact L.kns _ kn (L.skip rfl rfl rfl rfl (L.nil (X.dk kn ⟨im, Sub.fresh ib rfl, i.u 6 (fun _ => rfl)⟩)))
    ·rintro D e s317 ⟨im, ib, i⟩ hk hf ha
     have g3_ := (i.p 3) (ha.at 3 rfl)
     rw [hc282] at g3_
     have kn : Kn e [(25, undef), (22, .bool false)] := ⟨((i.p 6) (ha.at 6 rfl)), g3_, trivial⟩
     exact L.kns _ kn (L.skip rfl rfl rfl rfl (L.nil (X.dk kn ⟨im, Sub.fresh ib rfl, i.u 7 (fun _ => rfl)⟩)))
    ·rintro D e s318 ⟨im, ib, i⟩ hk hf ha
     have kn : Kn e [(0, .slice a7 st170.2.1.length c7), (26, undef)] := ⟨(ib 0 _ rfl), ((i.p 7) (ha.at 7 rfl)), trivial⟩
     exact L.kns _ kn (L.skipU rfl rfl rfl (L.nil (X.dk kn ⟨im, Sub.fresh ib rfl, i.u 8 (fun _ => rfl)⟩)))
    ·rintro D e s319 ⟨im, ib, i⟩ hk hf ha
     have kn : Kn e [(27, undef), (26, undef)] := ⟨((i.p 8) (ha.at 8 rfl)), ((i.p 7) (ha.at 7 rfl)), trivial⟩
     exact L.kns _ kn (L.skipU rfl rfl rfl (L.nil (X.dk kn ⟨im, Sub.fresh ib rfl, i.u 9 (fun _ => rfl)⟩)))
    ·rintro D e s320 ⟨im, ib, i⟩ hk hf ha
     have kn : Kn e [(28, undef), (26, undef)] := ⟨((i.p 9) (ha.at 9 rfl)), ((i.p 7) (ha.at 7 rfl)), trivial⟩
     exact L.kns _ kn (L.skipU rfl rfl rfl (L.nil (X.dk kn ⟨im, Sub.fresh ib rfl, i.u 10 (fun _ => rfl)⟩)))
    ·rintro D e s321 ⟨im, ib, i⟩ hk hf ha
     have kn : Kn e [(1, .slice a9 st170.2.2.length c9), (26, undef)] := ⟨(ib 1 _ rfl), ((i.p 7) (ha.at 7 rfl)), trivial⟩
     exact L.kns _ kn (L.skipU rfl rfl rfl (L.nil (X.dk kn ⟨im, Sub.fresh ib rfl, i.u 11 (fun _ => rfl)⟩)))
    ·rintro D e s322 ⟨im, ib, i⟩ hk hf ha
     have kn : Kn e [(30, undef), (26, undef)] := ⟨((i.p 11) (ha.at 11 rfl)), ((i.p 7) (ha.at 7 rfl)), trivial⟩
     exact L.kns _ kn (L.skipU rfl rfl rfl (L.nil (X.dk kn ⟨im, Sub.fresh ib rfl, i.u 12 (fun _ => rfl)⟩)))
    ·rintro D e s323 ⟨im, ib, i⟩ hk hf ha
     have kn : Kn e [(31, undef), (26, undef)] := ⟨((i.p 12) (ha.at 12 rfl)), ((i.p 7) (ha.at 7 rfl)), trivial⟩
     exact L.kns _ kn (L.skipU rfl rfl rfl (L.nil (X.dk kn ⟨im, Sub.fresh ib rfl, i.u 13 (fun _ => rfl)⟩)))
    ·rintro D e s324 ⟨im, ib, i⟩ hk hf ha
     have kn : Kn e [(29, undef), (32, undef), (26, undef)] := ⟨((i.p 10) (ha.at 10 rfl)), ((i.p 13) (ha.at 13 rfl)), ((i.p 7) (ha.at 7 rfl)), trivial⟩
     exact L.kns _ kn (L.skipU rfl rfl rfl (L.nil (X.dk kn ⟨im, Sub.fresh ib rfl, i.u 14 (fun _ => rfl)⟩)))
    ·rintro D e s325 ⟨im, ib, i⟩ hk hf ha
     have g3_ := (i.p 3) (ha.at 3 rfl)
     rw [hc282] at g3_
     have kn : Kn e [(26, undef), (33, undef), (22, .bool false)] := ⟨((i.p 7) (ha.at 7 rfl)), ((i.p 14) (ha.at 14 rfl)), g3_, trivial⟩
     exact L.kns _ kn (L.skip rfl rfl rfl rfl (L.nil (X.dk kn ⟨im, Sub.fresh ib rfl, i.u 15 (fun _ => rfl)⟩)))
    ·rintro D e s326 ⟨im, ib, i⟩ hk hf ha
     have g3_ := (i.p 3) (ha.at 3 rfl)
     rw [hc282] at g3_
     have kn : Kn e [(22, .bool false), (34, undef)] := ⟨g3_, ((i.p 15) (ha.at 15 rfl)), trivial⟩
     exact L.kns _ kn (L.pkF Wt.no rfl rfl rfl rfl (L.nil (X.dk kn ⟨im, Sub.fresh ib rfl, i.u 16 (fun _ => rfl)⟩)))
    rintro D e s327 ⟨im, ib, i⟩ hk hf ha
    have kn : Kn e [(35, .bool false)] := ⟨((i.p 16) (ha.at 16 rfl)), trivial⟩
    exact L.kns _ kn (L.as Wt.no rfl rfl (L.nil (X.dk kn ⟨im, Sub.fresh ib rfl, i.u 17 (fun _ => rfl)⟩)))
   rintro D e s328 hD ⟨im, ib, i⟩
   have g17_ := (i.p 17) (hD 17 rfl)
   have h5 := h5.mv im no_No no_No
   have h7 := h7.mono (im.le no_No)
   have h9 := h9.mono (im.le no_No)
   have hp2 := hp2.mono (im.le no_No)
   have m0 := m0.trans im.no
   refine X.sub (e' := [(8, .bool false), (7, .slice a5 st170.1.length c5), (0, .slice a7 st170.2.1.length c7), (1, .slice a9 st170.2.2.length c9), (2, vp2)]) ?_ (Sub.cons g17_ (Sub.cons (ib 7 _ rfl) (Sub.cons (ib 0 _ rfl) (Sub.cons (ib 1 _ rfl) (Sub.cons (ib 2 _ rfl) Sub.nil)))))
   exact X.sub (Jj179 _ _ ⟨s328, false, hm, m0, h5, h7, h9, hp2, rfl, rfl⟩) (Sub.rf rfl)
  refine E.cF rfl hc (E.exit (X.seqX (X.seqX ?_)))
  have hx := ho170 _ (Option.some.inj hm).symm
  subst hx
  exact X.sub (K175 _ _ ⟨s173, a5, c5, m0, h5, rfl, rfl⟩) (Sub.rf rfl)
 intro J329
 rcases Bool.eq_false_or_eq_true (decide ((st170.2.1.length : Int) > 0)) with hc | hc
 ·exact L.know (d := 14) rfl hc (L.skip rfl rfl rfl rfl (L.skip rfl rfl rfl rfl (L.skip rfl rfl rfl rfl (L.pkT Wt.no rfl rfl rfl rfl (L.sb (J329 _ _ ⟨true, (orT hc).symm, rfl, rfl⟩) rfl)))))
 exact L.know (d := 14) rfl hc (L.mv (Wt.mk rfl rfl) rfl rfl (L.len sl31 (Wt.mk rfl rfl) rfl rfl (L.bi (Wt.mk rfl rfl) rfl rfl rfl rfl (L.pkF Wt.no rfl rfl rfl rfl (L.sb (J329 _ _ ⟨(decide ((st170.2.2.length : Int) > 0)), (orF hc).symm, rfl, rfl⟩) rfl)))))

/-- What alphabet.Union$1 computes. -/
noncomputable def m_alphabet_Union_1 (p0 : Bool) (p1 : Bool) : Option Bool :=
  some (p0 || p1)
set_option maxRecDepth 100000 in
set_option maxHeartbeats 8000000 in
theorem m_alphabet_Union_1_c {s : Sig} {p0 : Bool} {p1 : Bool} {r : Bool} (hm : m_alphabet_Union_1 p0 p1 = some r) :
    Calls Tryd.prog 88 #[.bool p0, .bool p1] s.w (RetS No s fun v s' => v = .bool r) := by
 unfold m_alphabet_Union_1 at hm
 obtain ⟨N, hN, hNb⟩ := s.fresh
 have m0 : Mv (Up N No) s s := Mv.refl _ _
 refine E.entry Tryd.func88 rfl Tryd.ntmps88 rfl rfl (E.seq (E.reg (L.as Wt.no rfl rfl (L.nil (X.seqN (E.seq (E.reg (L.mv Wt.no rfl rfl (L.mv Wt.no rfl rfl (L.cut 2 (fun e w => ∃ (v1 : Bool), (p0 || p1) = v1 ∧ e = (8, .bool v1) :: [] ∧ w = s.w) ?_ ?_))))))))))
 ·rintro _ _ ⟨v1, rfl, rfl, rfl⟩
  refine L.as Wt.no rfl rfl (L.nil (X.seqN (E.ret ?_)))
  obtain rfl := Option.some.inj hm
  exact X.rt (.inl rfl) Tryd.results88 (Rs.tmp rfl Rs.nil) rfl ⟨_, (s).ren N (fun _ => 0), rfl, rfl, m0.ren hNb, rfl⟩
 intro J2
 rcases Bool.eq_false_or_eq_true p0 with hc | hc
 ·exact L.know (d := 6) rfl hc (L.skip rfl rfl rfl rfl (L.pkT Wt.no rfl rfl rfl rfl (L.sb (J2 _ _ ⟨true, (orT hc).symm, rfl, rfl⟩) rfl)))
 exact L.know (d := 6) rfl hc (L.mv (Wt.mk rfl rfl) rfl rfl (L.pkF Wt.no rfl rfl rfl rfl (L.sb (J2 _ _ ⟨p1, (orF hc).symm, rfl, rfl⟩) rfl)))

theorem cf87 : Cf Tryd.prog 87 := Cf.mk Tryd.func87 (by kernel_rfl) (by kernel_rfl)
theorem cf88 : Cf Tryd.prog 88 := Cf.mk Tryd.func88 (by kernel_rfl) (by kernel_rfl)
theorem fv88 {s : Sig} : FV2 Tryd.prog s (.func (.func 88) #[] #[]) (fun (x0 : Bool) (x1 : Bool) => [.bool x0, .bool x1]) (fun r => .bool r) m_alphabet_Union_1 := ⟨88, #[], #[], rfl, cf88, fun x0 x1 r hm s' hl => by have hh := m_alphabet_Union_1_c (s := s') hm; simpa using hh⟩
/-- What alphabet.Union computes. -/
noncomputable def m_alphabet_Union (p0 : List Int) (p1 : List Int) : Option (List Int) :=
  (m_alphabet_merge p0 p1 m_alphabet_Union_1).bind fun r4 =>
  some r4
set_option maxRecDepth 100000 in
set_option maxHeartbeats 8000000 in
theorem m_alphabet_Union_c {s : Sig} {p0 : List Int} {p1 : List Int} {a1 : Option Addr} {c1 : Nat} {a2 : Option Addr} {c2 : Nat} {u0 : Nat} {r : List Int} (h1 : RdL (rK .i64) s a1 c1 p0) (h2 : RdL (rK .i64) s a2 c2 p1) (hm : m_alphabet_Union p0 p1 = some r) :
    Calls Tryd.prog 76 #[.slice a1 p0.length c1, .slice a2 p1.length c2] s.w (RetS No s fun v s' => ∃ (a3 : Option Addr) (c3 : Nat), v = .slice a3 r.length c3 ∧ RowT (rK .i64) s' u0 3 a3 c3 r) := by
 unfold m_alphabet_Union at hm
 obtain ⟨N, hN, hNb⟩ := s.fresh
 have m0 : Mv (Up N No) s s := Mv.refl _ _
 refine E.entry Tryd.func76 rfl Tryd.ntmps76 rfl rfl (E.seq (E.reg (L.as Wt.no rfl rfl (L.nil (X.seqN (E.seq (E.reg (L.mv Wt.no rfl rfl (L.mv Wt.no rfl rfl ?_)))))))))
 obtain ⟨r4, er4, hm⟩ := bindS hm
 refine L.ca cf87 rfl rfl Wt.no rfl (m_alphabet_merge_c (s := s) (p0 := p0) (p1 := p1) (p2 := m_alphabet_Union_1) (u0 := (N + 0)) h1 h2 fv88 er4) rfl ?_
 rintro _ s5 m6 ⟨a7, c7, rfl, h7⟩
 replace m0 := m0.trans m6.no
 refine L.as Wt.no rfl rfl (L.nil (X.seqN (E.ret ?_)))
 obtain rfl := Option.some.inj hm
 exact X.rt (.inl rfl) Tryd.results76 (Rs.tmp rfl Rs.nil) rfl ⟨_, (s5).ren N (fun k => cond (Nat.beq k 0) u0 (0)), rfl, rfl, m0.ren hNb, ⟨a7, c7, rfl, (h7.ren hN)⟩⟩

end Go.Proofs.YtfbapajcheammaaDoor

namespace Go.Proofs.YtfbapajcheammaaDoor
open Go Go.RowKit
theorem cf76 : Cf Tryd.prog 76 := Cf.mk Tryd.func76 (by kernel_rfl) (by kernel_rfl)
noncomputable def m_product_events_l1 (p0 : List (List Int × Int × List Int × (List (Int × Int × Int)))) (st24 : Int × List Int) : Option ((Int × List Int) ⊕ (List Int)) :=
  if decide (st24.1 < (p0.length : Int)) then
    (idx p0 st24.1).bind fun x30 =>
    (m_alphabet_Union st24.2 x30.1).bind fun r41 =>
    some (.inl (W (st24.1 + 1), r41))
  else
    some (.inr st24.2)
/-- What product.events computes. -/
noncomputable def m_product_events (p0 : List (List Int × Int × List Int × (List (Int × Int × Int)))) : Option (List Int) :=
  (iter (m_product_events_l1 p0) (0, ([] : List Int))).bind fun o24 =>
  some o24
set_option maxRecDepth 100000 in
set_option maxHeartbeats 8000000 in
theorem m_product_events_c {s : Sig} {p0 : List (List Int × Int × List Int × (List (Int × Int × Int)))} {a1 : Option Addr} {c1 : Nat} {u0 : Nat} {r : List Int} (h1 : RdL (rP (rL (rK .i64)) (rP (rK .i64) (rP (rL (rK .i64)) (rL (rP (rK .i64) (rP (rK .i64) (rK .i64))))))) s a1 c1 p0) (hm : m_product_events p0 = some r) :
    Calls Tryd.prog 44 #[.slice a1 p0.length c1] s.w (RetS No s fun v s' => ∃ (a2 : Option Addr) (c2 : Nat), v = .slice a2 r.length c2 ∧ RowT (rK .i64) s' u0 3 a2 c2 r) := by
 unfold m_product_events at hm
 obtain ⟨N, hN, hNb⟩ := s.fresh
 have m0 : Mv (Up N No) s s := Mv.refl _ _
 refine E.entry Tryd.func44 rfl Tryd.ntmps44 rfl rfl (E.seq (E.reg (L.as Wt.no rfl rfl (L.nil (X.seqN (E.seq (E.reg (L.as Wt.no rfl rfl (L.nil (X.seqN (E.seq (E.seq (E.reg (L.mv Wt.no rfl rfl (L.len sl29 Wt.no rfl rfl (L.mv Wt.no rfl rfl (L.nil (X.seqN (E.block ?_)))))))))))))))))))
 obtain ⟨o24, eo24, hm⟩ := bindS hm
 refine E.cut (x := .exit 0) (fun e w => ∃ (s28 : Sig) (a26 : Option Addr) (c26 : Nat), Mv (Up N No) s s28 ∧ RowT (rK .i64) s28 (N + 1) 3 a26 c26 o24 ∧ e = [(3, .slice a26 o24.length c26)] ∧ w = s28.w) ?_ ?_
 ·rintro _ _ ⟨s28, a26, c26, m0, h26, rfl, rfl⟩
  refine X.blkE (X.seqN (E.seq (E.reg (L.mv Wt.no rfl rfl (L.as Wt.no rfl rfl (L.nil (X.seqN (E.ret ?_))))))))
  obtain rfl := Option.some.inj hm
  exact X.rt (.inl rfl) Tryd.results44 (Rs.tmp rfl Rs.nil) rfl ⟨_, (s28).ren N (fun k => cond (Nat.beq k 1) u0 (0)), rfl, rfl, m0.ren hNb, ⟨a26, c26, rfl, (h26.ren hN)⟩⟩
 intro K29
 refine E.iter (fun (st24 : Int × List Int) (e : List (Nat × Value)) (w : World) => ∃ (s27 : Sig) (a5 : Option Addr) (c5 : Nat), Mv (Up N No) s s27 ∧ RdL (rP (rL (rK .i64)) (rP (rK .i64) (rP (rL (rK .i64)) (rL (rP (rK .i64) (rP (rK .i64) (rK .i64))))))) s27 a1 c1 p0 ∧ RowT (rK .i64) s27 (N + 1) 3 a5 c5 st24.2 ∧ e = [(8, .int .i64 st24.1), (7, .int .i64 (p0.length : Int)), (6, .slice a1 p0.length c1), (3, .slice a5 st24.2.length c5)] ∧ w = s27.w) eo24 ⟨s, none, 0, m0, h1, RowT.nil, rfl, rfl⟩ (Sub.rf rfl) ?_
 rintro st24 res24 hm ih24 ho24 _ _ ⟨s27, a5, c5, m0, h1, h5, rfl, rfl⟩
 unfold m_product_events_l1 at hm
 refine E.seq (E.reg (L.bi Wt.no rfl rfl rfl rfl (L.nil (X.seqN (E.seq ?_)))))
 rcases ifS hm with ⟨hc, hm⟩ | ⟨hc, hm⟩
 ·refine E.cT rfl hc (E.skip (X.seqN (E.seq (E.block (E.seq (E.reg ?_))))))
  obtain ⟨x30, ex30, hm⟩ := bindS hm
  refine L.ix (r := (rP (rL (rK .i64)) (rP (rK .i64) (rP (rL (rK .i64)) (rL (rP (rK .i64) (rP (rK .i64) (rK .i64)))))))) sl29 h1 Wt.no rfl rfl ex30 rfl fun b31 o31 cc31 me31 rd31 => ?_
  obtain ⟨_, _, rfl, ⟨a32, c32, rfl, h32⟩, ⟨_, _, rfl, rfl, ⟨_, _, rfl, ⟨a33, c33, rfl, h33⟩, ⟨a34, c34, rfl, h34⟩⟩⟩⟩ := rd31
  refine L.lg (j := 0) (cs := [.slice a32 x30.1.length c32, .int .i64 x30.2.1, .slice a33 x30.2.2.1.length c33, .slice a34 x30.2.2.2.length c34]) me31 ag34 Wt.no rfl rfl rfl rfl rfl (L.al (N + 0) zz34 rfl Wt.no rfl fun b35 s36 m37 bx35 => ?_)
  replace m0 := m0.trans m37.no
  replace h5 := h5.mv m37 no_No no_No
  replace h1 := h1.mono (m37.le no_No)
  replace h32 := h32.mono (m37.le no_No)
  refine L.st (c := [.slice a32 x30.1.length c32, .int .i64 x30.2.1, .slice a33 x30.2.2.1.length c33, .slice a34 x30.2.2.2.length c34]) (cs' := #[.slice a32 x30.1.length c32, .int .i64 x30.2.1, .slice a33 x30.2.2.1.length c33, .slice a34 x30.2.2.2.length c34]) bx35 ag34.sz Wt.no rfl rfl rfl rfl rfl (Nat.le_of_ble_eq_true rfl) rfl fun s38 m39 bx35 => ?_
  replace m0 := m0.trans (m39.one up)
  replace h5 := h5.mv m39 (tgN (by decide)) (tg0 hN)
  replace h1 := h1.mono (m39.le (tg0 hN))
  replace h32 := h32.mono (m39.le (tg0 hN))
  refine L.nil (X.seqN (E.reg (L.mv Wt.no rfl rfl (L.fa fa34_0 Wt.no rfl rfl (L.ld (j := 0) bx35.mem nag31 Wt.no rfl rfl rfl rfl ?_)))))
  have m40 := Sig.fz_mv (N + 1) s38
  replace h5 := h5.fz (tgn hN)
  replace m0 := m0.trans (m40.one up)
  replace h1 := h1.mono (m40.le (tg0 hN))
  replace h32 := h32.mono (m40.le (tg0 hN))
  refine L.toR (s' := (Sig.fz (N + 1) s38)) rfl ?_
  obtain ⟨r41, er41, hm⟩ := bindS hm
  refine L.ca cf76 rfl rfl Wt.no rfl (m_alphabet_Union_c (s := (Sig.fz (N + 1) s38)) (p0 := st24.2) (p1 := x30.1) (u0 := (N + 1)) h5 h32 er41) rfl ?_
  rintro _ s42 m43 ⟨a44, c44, rfl, h44⟩
  replace m0 := m0.trans m43.no
  replace h1 := h1.mono (m43.le no_No)
  exact L.as Wt.no rfl rfl (L.nil (X.blkN (X.seqN (E.reg (L.bi Wt.no rfl rfl rfl rfl (L.mv Wt.no rfl rfl (L.nil (X.sub (ih24 _ (Option.some.inj hm).symm _ _ ⟨s42, a44, c44, m0, h1, h44, rfl, rfl⟩) (Sub.rf rfl)))))))))
 refine E.cF rfl hc (E.exit (X.seqX (X.seqX ?_)))
 have hx := ho24 _ (Option.some.inj hm).symm
 subst hx
 exact X.sub (K29 _ _ ⟨s27, a5, c5, m0, h5, rfl, rfl⟩) (Sub.rf rfl)

theorem ag63 : Ag Tryd.prog 63 3 := Ag.mk' Tryd.underlying63 rfl (by kernel_rfl)
theorem bs61 : Bs Tryd.prog 61 81 1 [.map none] := Bs.mk' Tryd.underlying61 (by kernel_rfl) (by kernel_rfl) rfl
theorem cf44 : Cf Tryd.prog 44 := Cf.mk Tryd.func44 (by kernel_rfl) (by kernel_rfl)
theorem el81 : El Tryd.prog 81 1 8 := El.mk' (z := .map none) (by kernel_rfl) (by kernel_rfl) (by kernel_rfl) rfl
theorem fa63_2 : FA Tryd.prog 63 2 2 := FA.mk Tryd.underlying63 rfl rfl ⟨1, by decide, by kernel_rfl⟩
theorem md81 : Md Tryd.prog 81 82 3 kvP (rK .i64) 0 (.int .i64 0) := Md.mk' Tryd.underlying81 (KE.pair' Tryd.underlying82 (by kernel_rfl) Tryd.underlying3 (by kernel_rfl) (NAg.mk' Tryd.underlying3 rfl (by kernel_rfl)).agg) (by kernel_rfl) (fun _ => rfl)
theorem nag61 : NAg Tryd.prog 61 := NAg.mk' Tryd.underlying61 rfl (by kernel_rfl)
theorem pl63 : Pl Tryd.prog 63 [(0, 1), (1, 1), (2, 1)] [.slice none 0 0, .slice none 0 0, .slice none 0 0] := Pl.str Tryd.underlying63 (by kernel_rfl) (by kernel_rfl)
theorem pl82 : Pl Tryd.prog 82 (plK 1 2 0) [.int .i64 0, .int .i64 0] := Pl.arr Tryd.underlying82 (by kernel_rfl) (by kernel_rfl)
theorem zz63 : (Tryd.prog.info? 63).bind (·.zero) = some (.agg #[.slice none 0 0, .slice none 0 0, .slice none 0 0]) := by kernel_rfl
noncomputable def m_product_open_l2 (x81 : List Int × Int × List Int × (List (Int × Int × Int))) (st107 : Int × (List ((Int × Int) × Int))) : Option ((Int × (List ((Int × Int) × Int))) ⊕ (List ((Int × Int) × Int))) :=
  if decide (st107.1 < (x81.2.2.2.length : Int)) then
    (idx x81.2.2.2 st107.1).bind fun x122 =>
    some (.inl (W (st107.1 + 1), (kput st107.2 (x122.1, x122.2.1) x122.2.2)))
  else
    some (.inr st107.2)
noncomputable def m_product_open_l1 (p0 : List (List Int × Int × List Int × (List (Int × Int × Int)))) (st73 : Int × (List (List ((Int × Int) × Int)))) : Option ((Int × (List (List ((Int × Int) × Int)))) ⊕ (List (List ((Int × Int) × Int)))) :=
  if decide (st73.1 < (p0.length : Int)) then
    (idx p0 st73.1).bind fun x81 =>
    (iter (m_product_open_l2 x81) (0, ([] : List ((Int × Int) × Int)))).bind fun o107 =>
    (app st73.2 ([o107] : List (List ((Int × Int) × Int)))).bind fun x115 =>
    some (.inl (W (st73.1 + 1), x115))
  else
    some (.inr st73.2)
/-- What product.open computes. -/
noncomputable def m_product_open (p0 : List (List Int × Int × List Int × (List (Int × Int × Int)))) : Option ((List (List Int × Int × List Int × (List (Int × Int × Int)))) × List Int × (List (List ((Int × Int) × Int)))) :=
  (m_product_events p0).bind fun r8 =>
  (iter (m_product_open_l1 p0) (0, ([] : List (List ((Int × Int) × Int))))).bind fun o73 =>
  some (p0, r8, o73)
set_option maxRecDepth 100000 in
set_option maxHeartbeats 8000000 in
theorem m_product_open_c {s : Sig} {p0 : List (List Int × Int × List Int × (List (Int × Int × Int)))} {a1 : Option Addr} {c1 : Nat} {u1 : Nat} {u2 : Nat} {r : ((List (List Int × Int × List Int × (List (Int × Int × Int)))) × List Int × (List (List ((Int × Int) × Int))))} (h1 : RdL (rP (rL (rK .i64)) (rP (rK .i64) (rP (rL (rK .i64)) (rL (rP (rK .i64) (rP (rK .i64) (rK .i64))))))) s a1 c1 p0) (hm : m_product_open p0 = some r) :
    Calls Tryd.prog 28 #[.slice a1 p0.length c1] s.w (RetS No s fun v s' => ∃ (a2 : Option Addr) (c2 : Nat) (a3 : Option Addr) (c3 : Nat) (a4 : Option Addr) (c4 : Nat), v = .agg #[.slice a2 r.1.length c2, .slice a3 r.2.1.length c3, .slice a4 r.2.2.length c4] ∧ RdL (rP (rL (rK .i64)) (rP (rK .i64) (rP (rL (rK .i64)) (rL (rP (rK .i64) (rP (rK .i64) (rK .i64))))))) s' a2 c2 r.1 ∧ RowT (rK .i64) s' u1 3 a3 c3 r.2.1 ∧ RowT (rM kvP (rK .i64)) s' u2 81 a4 c4 r.2.2) := by
 unfold m_product_open at hm
 obtain ⟨N, hN, hNb⟩ := s.fresh
 have m0 : Mv (Up N No) s s := Mv.refl _ _
 refine E.entry Tryd.func28 rfl Tryd.ntmps28 rfl rfl (E.seq (E.reg (L.al (N + 0) zz63 rfl Wt.no rfl fun b5 s6 m7 bx5 => ?_)))
 replace m0 := m0.trans m7.no
 replace h1 := h1.mono (m7.le no_No)
 refine L.nil (X.seqN (E.seq (E.reg (L.mv Wt.no rfl rfl (L.mv Wt.no rfl rfl ?_)))))
 obtain ⟨r8, er8, hm⟩ := bindS hm
 refine L.ca cf44 rfl rfl Wt.no rfl (m_product_events_c (s := s6) (p0 := p0) (u0 := (N + 6)) h1 er8) rfl ?_
 rintro _ s9 m10 ⟨a11, c11, rfl, h11⟩
 replace m0 := m0.trans m10.no
 replace h1 := h1.mono (m10.le no_No)
 replace bx5 := bx5.mv m10 no_No
 refine L.bu (cs := [.slice a1 p0.length c1, .slice a11 r8.length c11, .slice none 0 0]) pl63 Wt.no rfl rfl rfl (L.al (N + 1) zz63 rfl Wt.no rfl fun b12 s13 m14 bx12 => ?_)
 replace m0 := m0.trans m14.no
 replace h1 := h1.mono (m14.le no_No)
 replace h11 := h11.mv m14 no_No no_No
 replace bx5 := bx5.mv m14 no_No
 refine L.st (c := [.slice a1 p0.length c1, .slice a11 r8.length c11, .slice none 0 0]) (cs' := #[.slice a1 p0.length c1, .slice a11 r8.length c11, .slice none 0 0]) bx12 ag63.sz Wt.no rfl rfl rfl rfl rfl (Nat.le_of_ble_eq_true rfl) rfl fun s15 m16 bx12 => ?_
 replace m0 := m0.trans (m16.one up)
 replace h1 := h1.mono (m16.le (tg0 hN))
 replace bx5 := bx5.mv m16 (tgN (by decide))
 replace h11 := h11.mv m16 (tgN (by decide)) (tg0 hN)
 refine L.nil (X.seqN (E.seq (E.seq (E.reg (L.mv Wt.no rfl rfl (L.len sl29 Wt.no rfl rfl (L.mv Wt.no rfl rfl (L.nil (X.seqN (E.block ?_))))))))))
 obtain ⟨o73, eo73, hm⟩ := bindS hm
 refine E.cut (x := .exit 0) (fun e w => ∃ (s77 : Sig) (a75 : Option Addr) (c75 : Nat), Mv (Up N No) s s77 ∧ RdL (rP (rL (rK .i64)) (rP (rK .i64) (rP (rL (rK .i64)) (rL (rP (rK .i64) (rP (rK .i64) (rK .i64))))))) s77 a1 c1 p0 ∧ RowT (rK .i64) s77 (N + 6) 3 a11 c11 r8 ∧ RowT (rM kvP (rK .i64)) s77 (N + 5) 81 a75 c75 o73 ∧ Bx s77 (N + 0) b5 #[.slice none 0 0, .slice none 0 0, .slice none 0 0] 63 ∧ Bx s77 (N + 1) b12 #[.slice a1 p0.length c1, .slice a11 r8.length c11, .slice a75 o73.length c75] 63 ∧ e = [(3, .pointer (some ⟨b12, 0, none⟩)), (2, .pointer (some ⟨b5, 0, none⟩))] ∧ w = s77.w) ?_ ?_
 ·rintro _ _ ⟨s77, a75, c75, m0, h1, h11, h75, bx5, bx12, rfl, rfl⟩
  refine X.blkE (X.seqN (E.seq (E.reg (L.lg (j := 0) (cs := [.slice a1 p0.length c1, .slice a11 r8.length c11, .slice a75 o73.length c75]) bx12.mem ag63 Wt.no rfl rfl rfl rfl rfl (L.st (c := [.slice a1 p0.length c1, .slice a11 r8.length c11, .slice a75 o73.length c75]) (cs' := #[.slice a1 p0.length c1, .slice a11 r8.length c11, .slice a75 o73.length c75]) bx5 ag63.sz Wt.no rfl rfl rfl rfl rfl (Nat.le_of_ble_eq_true rfl) rfl fun s78 m79 bx5 => ?_)))))
  replace m0 := m0.trans (m79.one up)
  replace h1 := h1.mono (m79.le (tg0 hN))
  replace h11 := h11.mv m79 (tgN (by decide)) (tg0 hN)
  replace h75 := h75.mv m79 (tgN (by decide)) (tg0 hN)
  refine L.nil (X.seqN (E.ret ?_))
  obtain rfl := Option.some.inj hm
  exact X.rt (.inl rfl) Tryd.results28 (Rs.cell rfl bx5 ag63 rfl Rs.nil) rfl ⟨_, (s78).ren N (fun k => cond (Nat.beq k 6) u1 (cond (Nat.beq k 5) u2 (0))), rfl, rfl, m0.ren hNb, ⟨a1, c1, a11, c11, a75, c75, rfl, (h1.ren hN), (h11.ren hN), (h75.ren hN)⟩⟩
 intro K80
 refine E.iter (fun (st73 : Int × (List (List ((Int × Int) × Int)))) (e : List (Nat × Value)) (w : World) => ∃ (s76 : Sig) (a19 : Option Addr) (c19 : Nat), Mv (Up N No) s s76 ∧ RdL (rP (rL (rK .i64)) (rP (rK .i64) (rP (rL (rK .i64)) (rL (rP (rK .i64) (rP (rK .i64) (rK .i64))))))) s76 a1 c1 p0 ∧ RowT (rK .i64) s76 (N + 6) 3 a11 c11 r8 ∧ RowT (rM kvP (rK .i64)) s76 (N + 5) 81 a19 c19 st73.2 ∧ Bx s76 (N + 0) b5 #[.slice none 0 0, .slice none 0 0, .slice none 0 0] 63 ∧ Bx s76 (N + 1) b12 #[.slice a1 p0.length c1, .slice a11 r8.length c11, .slice a19 st73.2.length c19] 63 ∧ e = [(15, .int .i64 st73.1), (14, .int .i64 (p0.length : Int)), (13, .slice a1 p0.length c1), (3, .pointer (some ⟨b12, 0, none⟩)), (2, .pointer (some ⟨b5, 0, none⟩))] ∧ w = s76.w) eo73 ⟨s15, none, 0, m0, h1, h11, RowT.nil, bx5, bx12, rfl, rfl⟩ (Sub.rf rfl) ?_
 rintro st73 res73 hm ih73 ho73 _ _ ⟨s76, a19, c19, m0, h1, h11, h19, bx5, bx12, rfl, rfl⟩
 unfold m_product_open_l1 at hm
 refine E.seq (E.reg (L.bi Wt.no rfl rfl rfl rfl (L.nil (X.seqN (E.seq ?_)))))
 rcases ifS hm with ⟨hc, hm⟩ | ⟨hc, hm⟩
 ·refine E.cT rfl hc (E.skip (X.seqN (E.seq (E.block (E.seq (E.reg ?_))))))
  obtain ⟨x81, ex81, hm⟩ := bindS hm
  refine L.ix (r := (rP (rL (rK .i64)) (rP (rK .i64) (rP (rL (rK .i64)) (rL (rP (rK .i64) (rP (rK .i64) (rK .i64)))))))) sl29 h1 Wt.no rfl rfl ex81 rfl fun b82 o82 cc82 me82 rd82 => ?_
  obtain ⟨_, _, rfl, ⟨a83, c83, rfl, h83⟩, ⟨_, _, rfl, rfl, ⟨_, _, rfl, ⟨a84, c84, rfl, h84⟩, ⟨a85, c85, rfl, h85⟩⟩⟩⟩ := rd82
  refine L.lg (j := 0) (cs := [.slice a83 x81.1.length c83, .int .i64 x81.2.1, .slice a84 x81.2.2.1.length c84, .slice a85 x81.2.2.2.length c85]) me82 ag34 Wt.no rfl rfl rfl rfl rfl (L.al (N + 2) zz34 rfl Wt.no rfl fun b86 s87 m88 bx86 => ?_)
  replace m0 := m0.trans m88.no
  replace h85 := h85.mono (m88.le no_No)
  replace h1 := h1.mono (m88.le no_No)
  replace bx5 := bx5.mv m88 no_No
  replace bx12 := bx12.mv m88 no_No
  replace h11 := h11.mv m88 no_No no_No
  replace h19 := h19.mv m88 no_No no_No
  refine L.st (c := [.slice a83 x81.1.length c83, .int .i64 x81.2.1, .slice a84 x81.2.2.1.length c84, .slice a85 x81.2.2.2.length c85]) (cs' := #[.slice a83 x81.1.length c83, .int .i64 x81.2.1, .slice a84 x81.2.2.1.length c84, .slice a85 x81.2.2.2.length c85]) bx86 ag34.sz Wt.no rfl rfl rfl rfl rfl (Nat.le_of_ble_eq_true rfl) rfl fun s89 m90 bx86 => ?_
  replace m0 := m0.trans (m90.one up)
  replace h1 := h1.mono (m90.le (tg0 hN))
  replace bx5 := bx5.mv m90 (tgN (by decide))
  replace bx12 := bx12.mv m90 (tgN (by decide))
  replace h11 := h11.mv m90 (tgN (by decide)) (tg0 hN)
  replace h19 := h19.mv m90 (tgN (by decide)) (tg0 hN)
  replace h85 := h85.mono (m90.le (tg0 hN))
  refine L.nil (X.seqN (E.seq (E.reg (L.mk2 (kv := kvP) (r := (rK .i64)) (T := 81) (N + 3) rfl Wt.no fun y91 c91 s92 m93 h91 => ?_))))
  replace h91 := h91.as (T' := 0) (Le.refl _) rfl (fun _ e => e)
  replace m0 := m0.trans m93.no
  replace h1 := h1.mono (m93.le no_No)
  replace bx5 := bx5.mv m93 no_No
  replace bx12 := bx12.mv m93 no_No
  replace h11 := h11.mv m93 no_No no_No
  replace h19 := h19.mv m93 no_No no_No
  replace bx86 := bx86.mv m93 no_No
  replace h85 := h85.mono (m93.le no_No)
  refine L.as Wt.no rfl rfl (L.nil (X.seqN (E.seq (E.seq (E.reg (L.fa fa34_3 Wt.no rfl rfl (L.ld (j := 3) bx86.mem nag32 Wt.no rfl rfl rfl rfl (L.len sl32 Wt.no rfl rfl (L.mv Wt.no rfl rfl (L.nil (X.seqN (E.block ?_))))))))))))
  obtain ⟨o107, eo107, hm⟩ := bindS hm
  refine E.cut (x := .exit 2) (fun e w => ∃ (s110 : Sig), Mv (Up N No) s s110 ∧ MapO kvP (rK .i64) s110 (N + 3) 0 y91 c91 o107 ∧ RdL (rP (rL (rK .i64)) (rP (rK .i64) (rP (rL (rK .i64)) (rL (rP (rK .i64) (rP (rK .i64) (rK .i64))))))) s110 a1 c1 p0 ∧ RowT (rK .i64) s110 (N + 6) 3 a11 c11 r8 ∧ RowT (rM kvP (rK .i64)) s110 (N + 5) 81 a19 c19 st73.2 ∧ Bx s110 (N + 0) b5 #[.slice none 0 0, .slice none 0 0, .slice none 0 0] 63 ∧ Bx s110 (N + 1) b12 #[.slice a1 p0.length c1, .slice a11 r8.length c11, .slice a19 st73.2.length c19] 63 ∧ e = [(6, .map y91), (15, .int .i64 st73.1), (14, .int .i64 (p0.length : Int)), (13, .slice a1 p0.length c1), (3, .pointer (some ⟨b12, 0, none⟩)), (2, .pointer (some ⟨b5, 0, none⟩))] ∧ w = s110.w) ?_ ?_
  ·rintro _ _ ⟨s110, m0, h91, h1, h11, h19, bx5, bx12, rfl, rfl⟩
   refine X.blkE (X.seqN (E.reg (L.fa fa63_2 Wt.no rfl rfl (L.ld (j := 2) bx12.mem nag61 Wt.no rfl rfl rfl rfl (L.mv Wt.no rfl rfl ?_)))))
   have m111 := Sig.fz_mv (N + 3) s110
   replace h91 := h91.fz (tgn hN)
   replace m0 := m0.trans (m111.one up)
   replace h19 := h19.mv m111 (tgN (by decide)) (tg0 hN)
   replace h1 := h1.mono (m111.le (tg0 hN))
   replace bx5 := bx5.mv m111 (tgN (by decide))
   replace bx12 := bx12.mv m111 (tgN (by decide))
   replace h11 := h11.mv m111 (tgN (by decide)) (tg0 hN)
   refine L.toR (s' := (Sig.fz (N + 3) s110)) rfl (L.bsE (k := 1) (cs := [.map y91]) 0 bs61 (Nat.le_of_ble_eq_true rfl) Wt.no rfl rfl rfl rfl fun b112 s113 m114 bx112 => ?_)
   replace m0 := m0.trans m114.no
   replace h19 := h19.mv m114 no_No no_No
   replace h1 := h1.mono (m114.le no_No)
   replace bx5 := bx5.mv m114 no_No
   replace bx12 := bx12.mv m114 no_No
   replace h11 := h11.mv m114 no_No no_No
   replace h91 := h91.mono (m114.le no_No)
   have h112 := Bx.rdL (r := (rM kvP (rK .i64))) (xs := ([o107] : List (List ((Int × Int) × Int)))) bx112 ⟨[.map y91], _, rfl, ⟨_, _, rfl, h91⟩, rfl⟩ (Nat.le_of_ble_eq_true rfl)
   obtain ⟨x115, ex115, hm⟩ := bindS hm
   refine L.ap (r := (rM kvP (rK .i64))) Tryd.underlying61 el81 rfl (tgp hN) h19 h112.wk Wt.no rfl rfl ex115 rfl fun a116 c116 s117 m118 h116 => ?_
   replace m0 := m0.trans (m118.one up)
   replace h1 := h1.mono (m118.le (tg0 hN))
   replace bx5 := bx5.mv m118 (tgN (by decide))
   replace bx12 := bx12.mv m118 (tgN (by decide))
   replace h11 := h11.mv m118 (tgN (by decide)) (tg0 hN)
   refine L.fa fa63_2 Wt.no rfl rfl (L.st (c := [.slice a116 x115.length c116]) (cs' := #[.slice a1 p0.length c1, .slice a11 r8.length c11, .slice a116 x115.length c116]) bx12 nag61.sz Wt.no rfl rfl rfl rfl rfl (Nat.le_of_ble_eq_true rfl) rfl fun s119 m120 bx12 => ?_)
   replace m0 := m0.trans (m120.one up)
   replace h1 := h1.mono (m120.le (tg0 hN))
   replace bx5 := bx5.mv m120 (tgN (by decide))
   replace h11 := h11.mv m120 (tgN (by decide)) (tg0 hN)
   replace h116 := h116.mv m120 (tgN (by decide)) (tg0 hN)
   exact L.nil (X.blkN (X.seqN (E.reg (L.bi Wt.no rfl rfl rfl rfl (L.mv Wt.no rfl rfl (L.nil (X.sub (ih73 _ (Option.some.inj hm).symm _ _ ⟨s119, a116, c116, m0, h1, h11, h116, bx5, bx12, rfl, rfl⟩) (Sub.rf rfl))))))))
  intro K121
  refine E.iter (fun (st107 : Int × (List ((Int × Int) × Int))) (e : List (Nat × Value)) (w : World) => ∃ (s109 : Sig), Mv (Up N No) s s109 ∧ RdL (rP (rK .i64) (rP (rK .i64) (rK .i64))) s109 a85 c85 x81.2.2.2 ∧ MapO kvP (rK .i64) s109 (N + 3) 0 y91 c91 st107.2 ∧ RdL (rP (rL (rK .i64)) (rP (rK .i64) (rP (rL (rK .i64)) (rL (rP (rK .i64) (rP (rK .i64) (rK .i64))))))) s109 a1 c1 p0 ∧ RowT (rK .i64) s109 (N + 6) 3 a11 c11 r8 ∧ RowT (rM kvP (rK .i64)) s109 (N + 5) 81 a19 c19 st73.2 ∧ Bx s109 (N + 0) b5 #[.slice none 0 0, .slice none 0 0, .slice none 0 0] 63 ∧ Bx s109 (N + 1) b12 #[.slice a1 p0.length c1, .slice a11 r8.length c11, .slice a19 st73.2.length c19] 63 ∧ e = [(23, .int .i64 st107.1), (22, .int .i64 (x81.2.2.2.length : Int)), (21, .slice a85 x81.2.2.2.length c85), (6, .map y91), (15, .int .i64 st73.1), (14, .int .i64 (p0.length : Int)), (13, .slice a1 p0.length c1), (3, .pointer (some ⟨b12, 0, none⟩)), (2, .pointer (some ⟨b5, 0, none⟩))] ∧ w = s109.w) eo107 ⟨s92, m0, h85, h91, h1, h11, h19, bx5, bx12, rfl, rfl⟩ (Sub.rf rfl) ?_
  rintro st107 res107 hm ih107 ho107 _ _ ⟨s109, m0, h85, h91, h1, h11, h19, bx5, bx12, rfl, rfl⟩
  unfold m_product_open_l2 at hm
  refine E.seq (E.reg (L.bi Wt.no rfl rfl rfl rfl (L.nil (X.seqN (E.seq ?_)))))
  rcases ifS hm with ⟨hc, hm⟩ | ⟨hc, hm⟩
  ·refine E.cT rfl hc (E.skip (X.seqN (E.seq (E.block (E.seq (E.reg ?_))))))
   obtain ⟨x122, ex122, hm⟩ := bindS hm
   refine L.ix (r := (rP (rK .i64) (rP (rK .i64) (rK .i64)))) sl32 h85 Wt.no rfl rfl ex122 rfl fun b123 o123 cc123 me123 rd123 => ?_
   obtain ⟨_, _, rfl, rfl, ⟨_, _, rfl, rfl, rfl⟩⟩ := rd123
   refine L.lg (j := 0) (cs := [.int .i64 x122.1, .int .i64 x122.2.1, .int .i64 x122.2.2]) me123 ag58 Wt.no rfl rfl rfl rfl rfl (L.al (N + 4) zz58 rfl Wt.no rfl fun b124 s125 m126 bx124 => ?_)
   replace m0 := m0.trans m126.no
   replace h91 := h91.mv m126 no_No no_No
   replace h1 := h1.mono (m126.le no_No)
   replace h85 := h85.mono (m126.le no_No)
   replace bx5 := bx5.mv m126 no_No
   replace bx12 := bx12.mv m126 no_No
   replace h11 := h11.mv m126 no_No no_No
   replace h19 := h19.mv m126 no_No no_No
   refine L.st (c := [.int .i64 x122.1, .int .i64 x122.2.1, .int .i64 x122.2.2]) (cs' := #[.int .i64 x122.1, .int .i64 x122.2.1, .int .i64 x122.2.2]) bx124 ag58.sz Wt.no rfl rfl rfl rfl rfl (Nat.le_of_ble_eq_true rfl) rfl fun s127 m128 bx124 => ?_
   replace m0 := m0.trans (m128.one up)
   replace h91 := h91.mv m128 (tgN (by decide)) (tg0 hN)
   replace h1 := h1.mono (m128.le (tg0 hN))
   replace h85 := h85.mono (m128.le (tg0 hN))
   replace bx5 := bx5.mv m128 (tgN (by decide))
   replace bx12 := bx12.mv m128 (tgN (by decide))
   replace h11 := h11.mv m128 (tgN (by decide)) (tg0 hN)
   replace h19 := h19.mv m128 (tgN (by decide)) (tg0 hN)
   refine L.nil (X.seqN (E.reg (L.mv Wt.no rfl rfl (L.fa fa58_0 Wt.no rfl rfl (L.ld (j := 0) bx124.mem nag3 Wt.no rfl rfl rfl rfl (L.fa fa58_1 Wt.no rfl rfl (L.ld (j := 1) bx124.mem nag3 Wt.no rfl rfl rfl rfl (L.bu (cs := [.int .i64 x122.1, .int .i64 x122.2.1]) pl82 Wt.no rfl rfl rfl (L.fa fa58_2 Wt.no rfl rfl (L.ld (j := 2) bx124.mem nag3 Wt.no rfl rfl rfl rfl (L.mu (k := (x122.1, x122.2.1)) (v := x122.2.2) md81 h91 rfl (tpos hN) (fun _ _ => eqP) Wt.no rfl rfl rfl fun s129 m130 h91 => ?_)))))))))))
   replace m0 := m0.trans (m130.one up)
   replace h1 := h1.mono (m130.le (tg0 hN))
   replace h85 := h85.mono (m130.le (tg0 hN))
   replace bx5 := bx5.mv m130 (tgN (by decide))
   replace bx12 := bx12.mv m130 (tgN (by decide))
   replace h11 := h11.mv m130 (tgN (by decide)) (tg0 hN)
   replace h19 := h19.mv m130 (tgN (by decide)) (tg0 hN)
   exact L.nil (X.blkN (X.seqN (E.reg (L.bi Wt.no rfl rfl rfl rfl (L.mv Wt.no rfl rfl (L.nil (X.sub (ih107 _ (Option.some.inj hm).symm _ _ ⟨s129, m0, h85, h91, h1, h11, h19, bx5, bx12, rfl, rfl⟩) (Sub.rf rfl))))))))
  refine E.cF rfl hc (E.exit (X.seqX (X.seqX ?_)))
  have hx := ho107 _ (Option.some.inj hm).symm
  subst hx
  exact X.sub (K121 _ _ ⟨s109, m0, h91, h1, h11, h19, bx5, bx12, rfl, rfl⟩) (Sub.rf rfl)
 refine E.cF rfl hc (E.exit (X.seqX (X.seqX ?_)))
 have hx := ho73 _ (Option.some.inj hm).symm
 subst hx
 exact X.sub (K80 _ _ ⟨s76, a19, c19, m0, h1, h11, h19, bx5, bx12, rfl, rfl⟩) (Sub.rf rfl)

theorem fa63_0 : FA Tryd.prog 63 0 0 := FA.mk Tryd.underlying63 rfl rfl ⟨1, by decide, by kernel_rfl⟩
theorem nag29 : NAg Tryd.prog 29 := NAg.mk' Tryd.underlying29 rfl (by kernel_rfl)
noncomputable def m_product_machine_initial_l1 (p0 : (List (List Int × Int × List Int × (List (Int × Int × Int)))) × List Int × (List (List ((Int × Int) × Int)))) (st20 : Int) : Option (Int ⊕ (Unit ⊕ Unit)) :=
  if decide (st20 < (p0.1.length : Int)) then
    (idx p0.1 st20).bind fun x32 =>
    if (x32.2.1 == 0) then
      some (.inr (.inr (())))
    else
      some (.inl (W (st20 + 1)))
  else
    some (.inr (.inl ()))
/-- What product.machine).initial computes. -/
noncomputable def m_product_machine_initial (p0 : (List (List Int × Int × List Int × (List (Int × Int × Int)))) × List Int × (List (List ((Int × Int) × Int)))) : Option (List Int × Bool) :=
  (iter (m_product_machine_initial_l1 p0) 0).bind fun o20 =>
  match o20 with
  | .inl u22 =>
    (mkL (p0.1.length : Int) (0 : Int)).bind fun x24 =>
    some (x24, true)
  | .inr (u29) =>
    some (([] : List Int), false)
set_option maxRecDepth 100000 in
set_option maxHeartbeats 8000000 in
theorem m_product_machine_initial_c {s : Sig} {p0 : (List (List Int × Int × List Int × (List (Int × Int × Int)))) × List Int × (List (List ((Int × Int) × Int)))} {a1 : Option Addr} {c1 : Nat} {a2 : Option Addr} {c2 : Nat} {a3 : Option Addr} {c3 : Nat} {u0 : Nat} {r : List Int × Bool} (h1 : RdL (rP (rL (rK .i64)) (rP (rK .i64) (rP (rL (rK .i64)) (rL (rP (rK .i64) (rP (rK .i64) (rK .i64))))))) s a1 c1 p0.1) (h2 : RdL (rK .i64) s a2 c2 p0.2.1) (h3 : RdL (rM kvP (rK .i64)) s a3 c3 p0.2.2) (hm : m_product_machine_initial p0 = some r) :
    Calls Tryd.prog 29 #[.agg #[.slice a1 p0.1.length c1, .slice a2 p0.2.1.length c2, .slice a3 p0.2.2.length c3]] s.w (RetS No s fun v s' => ∃ (a4 : Option Addr) (c4 : Nat), v = .tuple #[.slice a4 r.1.length c4, .bool r.2] ∧ RowT (rK .i64) s' u0 3 a4 c4 r.1) := by
 unfold m_product_machine_initial at hm
 obtain ⟨N, hN, hNb⟩ := s.fresh
 have m0 : Mv (Up N No) s s := Mv.refl _ _
 refine E.entry Tryd.func29 rfl Tryd.ntmps29 rfl rfl (E.seq (E.reg (L.box (N + 0) Wt.no rfl rfl rfl fun b5 s6 m7 bx5 => ?_)))
 replace m0 := m0.trans m7.no
 replace h1 := h1.mono (m7.le no_No)
 replace h2 := h2.mono (m7.le no_No)
 replace h3 := h3.mono (m7.le no_No)
 refine L.as Wt.no rfl rfl (L.as Wt.no rfl rfl (L.nil (X.seqN (E.seq (E.seq (E.reg (L.fa fa63_0 Wt.no rfl rfl (L.ld (j := 0) bx5.mem nag29 Wt.no rfl rfl rfl rfl (L.len sl29 Wt.no rfl rfl (L.mv Wt.no rfl rfl (L.nil (X.seqN (E.block ?_)))))))))))))
 obtain ⟨o20, eo20, hm⟩ := bindS hm
 refine E.cut (x := .exit 0) (fun e w => ∃ (s23 : Sig) (u22 : Unit), o20 = .inl u22 ∧ Mv (Up N No) s s23 ∧ RdL (rP (rL (rK .i64)) (rP (rK .i64) (rP (rL (rK .i64)) (rL (rP (rK .i64) (rP (rK .i64) (rK .i64))))))) s23 a1 c1 p0.1 ∧ RdL (rK .i64) s23 a2 c2 p0.2.1 ∧ RdL (rM kvP (rK .i64)) s23 a3 c3 p0.2.2 ∧ Bx s23 (N + 0) b5 #[.slice a1 p0.1.length c1, .slice a2 p0.2.1.length c2, .slice a3 p0.2.2.length c3] 63 ∧ e = [(1, .pointer (some ⟨b5, 0, none⟩))] ∧ w = s23.w) ?_ ?_
 ·rintro _ _ ⟨s23, u22, rfl, m0, h1, h2, h3, bx5, rfl, rfl⟩
  dsimp only at hm
  refine X.blkE (X.seqN (E.seq (E.reg (L.fa fa63_0 Wt.no rfl rfl (L.ld (j := 0) bx5.mem nag29 Wt.no rfl rfl rfl rfl (L.len sl29 Wt.no rfl rfl ?_))))))
  obtain ⟨x24, ex24, hm⟩ := bindS hm
  refine L.mk (z := (0 : Int)) (N + 2) Tryd.underlying31 zr3 rfl Wt.no rfl rfl ex24 rfl fun b25 s26 m27 h25 => ?_
  replace m0 := m0.trans m27.no
  refine L.as Wt.no rfl rfl (L.as Wt.no rfl rfl (L.nil (X.seqN (E.ret ?_))))
  obtain rfl := Option.some.inj hm
  exact X.rt (.inl rfl) Tryd.results29 (Rs.tmp rfl (Rs.tmp rfl Rs.nil)) rfl ⟨_, (s26).ren N (fun k => cond (Nat.beq k 2) u0 (0)), rfl, rfl, m0.ren hNb, ⟨(some ⟨b25, 0, none⟩), x24.length, rfl, (h25.ren hN)⟩⟩
 intro K28
 refine E.cut (x := .ret) (fun e w => ∃ (s30 : Sig) (u29 : Unit), o20 = .inr (u29) ∧ Mv (Up N No) s s30 ∧ e = [(3, .bool false), (2, .slice none 0 0)] ∧ w = s30.w) ?_ ?_
 ·rintro _ _ ⟨s30, u29, rfl, m0, rfl, rfl⟩
  dsimp only at hm
  refine X.blkR (X.seqR ?_)
  obtain rfl := Option.some.inj hm
  exact X.rt (.inl rfl) Tryd.results29 (Rs.tmp rfl (Rs.tmp rfl Rs.nil)) rfl ⟨_, (s30).ren N (fun _ => 0), rfl, rfl, m0.ren hNb, ⟨none, 0, rfl, RowT.nil⟩⟩
 intro K31
 refine E.iter (fun (st20 : Int) (e : List (Nat × Value)) (w : World) => ∃ (s21 : Sig), Mv (Up N No) s s21 ∧ RdL (rP (rL (rK .i64)) (rP (rK .i64) (rP (rL (rK .i64)) (rL (rP (rK .i64) (rP (rK .i64) (rK .i64))))))) s21 a1 c1 p0.1 ∧ RdL (rK .i64) s21 a2 c2 p0.2.1 ∧ RdL (rM kvP (rK .i64)) s21 a3 c3 p0.2.2 ∧ Bx s21 (N + 0) b5 #[.slice a1 p0.1.length c1, .slice a2 p0.2.1.length c2, .slice a3 p0.2.2.length c3] 63 ∧ e = [(9, .int .i64 st20), (8, .int .i64 (p0.1.length : Int)), (7, .slice a1 p0.1.length c1), (1, .pointer (some ⟨b5, 0, none⟩))] ∧ w = s21.w) eo20 ⟨s6, m0, h1, h2, h3, bx5, rfl, rfl⟩ (Sub.rf rfl) ?_
 rintro st20 res20 hm ih20 ho20 _ _ ⟨s21, m0, h1, h2, h3, bx5, rfl, rfl⟩
 unfold m_product_machine_initial_l1 at hm
 refine E.seq (E.reg (L.bi Wt.no rfl rfl rfl rfl (L.nil (X.seqN (E.seq ?_)))))
 rcases ifS hm with ⟨hc, hm⟩ | ⟨hc, hm⟩
 ·refine E.cT rfl hc (E.skip (X.seqN (E.seq (E.block (E.seq (E.reg ?_))))))
  obtain ⟨x32, ex32, hm⟩ := bindS hm
  refine L.ix (r := (rP (rL (rK .i64)) (rP (rK .i64) (rP (rL (rK .i64)) (rL (rP (rK .i64) (rP (rK .i64) (rK .i64)))))))) sl29 h1 Wt.no rfl rfl ex32 rfl fun b33 o33 cc33 me33 rd33 => ?_
  obtain ⟨_, _, rfl, ⟨a34, c34, rfl, h34⟩, ⟨_, _, rfl, rfl, ⟨_, _, rfl, ⟨a35, c35, rfl, h35⟩, ⟨a36, c36, rfl, h36⟩⟩⟩⟩ := rd33
  refine L.lg (j := 0) (cs := [.slice a34 x32.1.length c34, .int .i64 x32.2.1, .slice a35 x32.2.2.1.length c35, .slice a36 x32.2.2.2.length c36]) me33 ag34 Wt.no rfl rfl rfl rfl rfl (L.al (N + 1) zz34 rfl Wt.no rfl fun b37 s38 m39 bx37 => ?_)
  replace m0 := m0.trans m39.no
  replace h1 := h1.mono (m39.le no_No)
  replace bx5 := bx5.mv m39 no_No
  replace h2 := h2.mono (m39.le no_No)
  replace h3 := h3.mono (m39.le no_No)
  refine L.st (c := [.slice a34 x32.1.length c34, .int .i64 x32.2.1, .slice a35 x32.2.2.1.length c35, .slice a36 x32.2.2.2.length c36]) (cs' := #[.slice a34 x32.1.length c34, .int .i64 x32.2.1, .slice a35 x32.2.2.1.length c35, .slice a36 x32.2.2.2.length c36]) bx37 ag34.sz Wt.no rfl rfl rfl rfl rfl (Nat.le_of_ble_eq_true rfl) rfl fun s40 m41 bx37 => ?_
  replace m0 := m0.trans (m41.one up)
  replace h1 := h1.mono (m41.le (tg0 hN))
  replace bx5 := bx5.mv m41 (tgN (by decide))
  replace h2 := h2.mono (m41.le (tg0 hN))
  replace h3 := h3.mono (m41.le (tg0 hN))
  refine L.nil (X.seqN (E.seq (E.reg (L.fa fa34_1 Wt.no rfl rfl (L.ld (j := 1) bx37.mem nag3 Wt.no rfl rfl rfl rfl (L.bi Wt.no rfl rfl rfl rfl (L.nil (X.seqN ?_))))))))
  rcases ifS hm with ⟨hc, hm⟩ | ⟨hc, hm⟩
  ·refine E.cT rfl hc (E.seq (E.reg (L.as Wt.no rfl rfl (L.as Wt.no rfl rfl (L.nil (X.seqN (E.ret (X.blkR (X.seqR (X.seqR ?_))))))))))
   have hx := ho20 _ (Option.some.inj hm).symm
   exact X.sub (K31 _ _ ⟨s40, (), hx.symm, m0, rfl, rfl⟩) (Sub.rf rfl)
  exact E.cF rfl hc (E.skip (X.blkN (X.seqN (E.reg (L.bi Wt.no rfl rfl rfl rfl (L.mv Wt.no rfl rfl (L.nil (X.sub (ih20 _ (Option.some.inj hm).symm _ _ ⟨s40, m0, h1, h2, h3, bx5, rfl, rfl⟩) (Sub.rf rfl)))))))))
 refine E.cF rfl hc (E.exit (X.seqX (X.seqX ?_)))
 have hx := ho20 _ (Option.some.inj hm).symm
 exact X.sub (K28 _ _ ⟨s21, (), hx.symm, m0, h1, h2, h3, bx5, rfl, rfl⟩) (Sub.rf rfl)

/-- What cmp.isNaN<int> computes. -/
noncomputable def m_cmp_isNaN_int (p0 : Int) : Option Bool :=
  some (p0 != p0)
set_option maxRecDepth 100000 in
set_option maxHeartbeats 8000000 in
theorem m_cmp_isNaN_int_c {s : Sig} {p0 : Int} {r : Bool} (hm : m_cmp_isNaN_int p0 = some r) :
    Calls Tryd.prog 99 #[.int .i64 p0] s.w (RetS No s fun v s' => v = .bool r) := by
 unfold m_cmp_isNaN_int at hm
 obtain ⟨N, hN, hNb⟩ := s.fresh
 have m0 : Mv (Up N No) s s := Mv.refl _ _
 refine E.entry Tryd.func99 rfl Tryd.ntmps99 rfl rfl (E.seq (E.reg (L.as Wt.no rfl rfl (L.nil (X.seqN (E.seq (E.reg (L.mv Wt.no rfl rfl (L.mv Wt.no rfl rfl (L.bi Wt.no rfl rfl rfl rfl (L.as Wt.no rfl rfl (L.nil (X.seqN (E.ret ?_))))))))))))))
 obtain rfl := Option.some.inj hm
 exact X.rt (.inl rfl) Tryd.results99 (Rs.tmp rfl Rs.nil) rfl ⟨_, (s).ren N (fun _ => 0), rfl, rfl, m0.ren hNb, rfl⟩

end Go.Proofs.YtfbapajcheammaaDoor

