/- Parts of the proof, without what nothing here names. -/
import Derived.Test.YtfbapajcheammaaGreatDoorProg
import Derived.Test.YtfbapajcheammaaGreatDoorQcy3
set_option maxRecDepth 100000
set_option maxHeartbeats 8000000
namespace Go.Proofs.YtfbapajcheammaaGreatDoor
open Go Go.RowKit
theorem cf107 : Cf Tryz.prog 107 := Cf.mk Tryz.func107 (by kernel_rfl) (by kernel_rfl)
noncomputable def m_product_events_l1 (p0 : List AutT) (st24 : Int × List Int) : Option ((Int × List Int) ⊕ (List Int)) :=
 if decide (st24.1 < (p0.length : Int)) then
  (idx p0 st24.1).bind fun x30 =>
  (m_alphabet_Union st24.2 x30.1).bind fun r41 =>
  some (.inl (W (st24.1 + 1), r41))
 else
  some (.inr st24.2)
noncomputable def m_product_events (p0 : List AutT) : Option (List Int) :=
 (iter (m_product_events_l1 p0) (0, ([] : List Int))).bind fun o24 =>
 some o24
theorem m_product_events_c {s : Sig} {p0 : List AutT} {a1 : Option Addr} {c1 : Nat} {u0 : Nat} {r : List Int} (h1 : RdL (rP (rL qI) (rP qI (rP (rL qI) (rL qT)))) s a1 c1 p0) (hm : m_product_events p0 = some r) :
    Calls Tryz.prog 81 #[.slice a1 p0.length c1] s.w (RetS No s fun v s' => ∃ (a2 : Option Addr) (c2 : Nat), v = .slice a2 r.length c2 ∧ RowT qI s' u0 3 a2 c2 r) := by
 unfold m_product_events at hm
 obtain ⟨N, hN, hNb⟩ := s.fresh
 have m0 : Mv (Up N No) s s := Mv.refl _ _
 refine E.entry Tryz.func81 R Tryz.ntmps81 R R (ER (L.as Y R R (LN (ER (L.as Y R R (LN (E.seq (ER (L.mv Y R R (L.len sl37 Y R R (L.mv Y R R (LN (E.block ?_)))))))))))))
 obtain ⟨o24, eo24, hm⟩ := bindS hm
 refine E.cut (x := .exit 0) (fun e w => ∃ (s28 : Sig) (a26 : Option Addr) (c26 : Nat), Mv (Up N No) s s28 ∧ RowT qI s28 (N + 1) 3 a26 c26 o24 ∧ e = [(3, .slice a26 o24.length c26)] ∧ w = s28.w) ?_ ?_
 ·rintro _ _ ⟨s28, a26, c26, m0, h26, rfl, rfl⟩
  refine X.blkE (X.seqN (ER (L.mv Y R R (L.as Y R R (LN (E.ret ?_))))))
  obtain rfl := oi hm
  exact X.rt (.inl R) Tryz.results81 (Rs.tmp R Rs.nil) R ⟨_, (s28).ren N (fun k => cond (Nat.beq k 1) u0 (0)), R, R, m0.ren hNb, ⟨a26, c26, R, (h26.ren hN)⟩⟩
 intro K29
 refine E.iter (fun (st24 : Int × List Int) (e : List (Nat × Value)) (w : World) => ∃ (s27 : Sig) (a5 : Option Addr) (c5 : Nat), Mv (Up N No) s s27 ∧ RdL (rP (rL qI) (rP qI (rP (rL qI) (rL qT)))) s27 a1 c1 p0 ∧ RowT qI s27 (N + 1) 3 a5 c5 st24.2 ∧ e = [(8, .int .i64 st24.1), (7, .int .i64 (p0.length : Int)), (6, .slice a1 p0.length c1), (3, .slice a5 st24.2.length c5)] ∧ w = s27.w) eo24 ⟨s, none, 0, m0, h1, RowT.nil, R, R⟩ (Sub.rf R) ?_
 rintro st24 res24 hm ih24 ho24 _ _ ⟨s27, a5, c5, m0, h1, h5, rfl, rfl⟩
 unfold m_product_events_l1 at hm
 refine ER (L.bi Y R R R R (LN (E.seq ?_)))
 rcases ifS hm with ⟨hc, hm⟩ | ⟨hc, hm⟩
 ·refine E.cT R hc (E.skip (X.seqN (E.seq (E.block (E.seq (E.reg ?_))))))
  obtain ⟨x30, ex30, hm⟩ := bindS hm
  refine L.ix (r := (rP (rL qI) (rP qI (rP (rL qI) (rL qT))))) sl37 h1 Y R R ex30 R fun b31 o31 cc31 me31 rd31 => ?_
  obtain ⟨_, _, rfl, ⟨a32, c32, rfl, h32⟩, ⟨_, _, rfl, rfl, ⟨_, _, rfl, ⟨a33, c33, rfl, h33⟩, ⟨a34, c34, rfl, h34⟩⟩⟩⟩ := rd31
  refine L.lg (j := 0) (cs := [.slice a32 x30.1.length c32, .int .i64 x30.2.1, .slice a33 x30.2.2.1.length c33, .slice a34 x30.2.2.2.length c34]) me31 ag30 Y R R R R R (L.al (N + 0) zz30 R Y R fun b35 s36 m37 bx35 => ?_)
  refine L.st (c := [.slice a32 x30.1.length c32, .int .i64 x30.2.1, .slice a33 x30.2.2.1.length c33, .slice a34 x30.2.2.2.length c34]) (cs' := #[.slice a32 x30.1.length c32, .int .i64 x30.2.1, .slice a33 x30.2.2.1.length c33, .slice a34 x30.2.2.2.length c34]) bx35 ag30.sz Y R R R R R (nb R) R fun s38 m39 bx35 => ?_
  refine LN (E.reg (L.mv Y R R (L.fa fa30_0 Y R R (L.ld (j := 0) bx35.mem nag27 Y R R R R ?_))))
  have m40 := Sig.fz_mv (N + 1) s38
  replace h5 := ((h5.mv m37 no_No no_No).mv m39 (tq R) (tg0 hN)).fz (tgn hN)
  replace h32 := ((h32.mono m37.z).mono (m39.le (tg0 hN))).mono (m40.le (tg0 hN))
  refine L.toR (s' := (Sig.fz (N + 1) s38)) R ?_
  obtain ⟨r41, er41, hm⟩ := bindS hm
  refine L.ca cf107 R R Y R (m_alphabet_Union_c (s := (Sig.fz (N + 1) s38)) (p0 := st24.2) (p1 := x30.1) (u0 := (N + 1)) h5 h32 er41) R ?_
  rintro _ s42 m43 ⟨a44, c44, rfl, h44⟩
  replace m0 := (((m0.trans m37.no).trans (m39.one up)).trans (m40.one up)).trans m43.no
  replace h1 := (((h1.mono m37.z).mono (m39.le (tg0 hN))).mono (m40.le (tg0 hN))).mono m43.z
  exact L.as Y R R (L.nil (X.blkN (X.seqN (E.reg (L.bi Y R R R R (L.mv Y R R (L.nil (X.sub (ih24 _ (oi hm).symm _ _ ⟨s42, a44, c44, m0, h1, h44, R, R⟩) (Sub.rf R)))))))))
 refine E.cF R hc (E.exit (X.seqX (X.seqX ?_)))
 have hx := ho24 _ (oi hm).symm
 subst hx
 exact X.sub (K29 _ _ ⟨s27, a5, c5, m0, h5, R, R⟩) (Sub.rf R)

theorem ag82 : Ag Tryz.prog 82 3 := Ag.mk' Tryz.underlying82 rfl (by kernel_rfl)
theorem bs80 : Bs Tryz.prog 80 119 1 [.map none] := Bs.mk' Tryz.underlying80 (by kernel_rfl) (by kernel_rfl) rfl
theorem cf81 : Cf Tryz.prog 81 := Cf.mk Tryz.func81 (by kernel_rfl) (by kernel_rfl)
theorem el119 : El Tryz.prog 119 1 8 := El.mk' (z := .map none) (by kernel_rfl) (by kernel_rfl) (by kernel_rfl) rfl
theorem fa82_2 : FA Tryz.prog 82 2 2 := FA.mk Tryz.underlying82 rfl rfl ⟨1, by decide, by kernel_rfl⟩
theorem md119 : Md Tryz.prog 119 120 3 kvP qI 0 (.int .i64 0) := Md.mk' Tryz.underlying119 (KE.pair' Tryz.underlying120 (by kernel_rfl) Tryz.underlying3 (by kernel_rfl) (NAg.mk' Tryz.underlying3 rfl (by kernel_rfl)).agg) (by kernel_rfl) (fun _ => rfl)
theorem nag80 : NAg Tryz.prog 80 := NAg.mk' Tryz.underlying80 rfl (by kernel_rfl)
theorem pl120 : Pl Tryz.prog 120 (plK 1 2 0) [.int .i64 0, .int .i64 0] := Pl.arr Tryz.underlying120 (by kernel_rfl) (by kernel_rfl)
theorem pl82 : Pl Tryz.prog 82 [(0, 1), (1, 1), (2, 1)] [.slice none 0 0, .slice none 0 0, .slice none 0 0] := Pl.str Tryz.underlying82 (by kernel_rfl) (by kernel_rfl)
theorem zz82 : (Tryz.prog.info? 82).bind (·.zero) = some (.agg #[.slice none 0 0, .slice none 0 0, .slice none 0 0]) := by kernel_rfl
noncomputable def m_product_open_l2 (x81 : AutT) (st107 : Int × (List ((Int × Int) × Int))) : Option ((Int × (List ((Int × Int) × Int))) ⊕ (List ((Int × Int) × Int))) :=
 if decide (st107.1 < (x81.2.2.2.length : Int)) then
  (idx x81.2.2.2 st107.1).bind fun x122 =>
  some (.inl (W (st107.1 + 1), (kput st107.2 (x122.1, x122.2.1) x122.2.2)))
 else
  some (.inr st107.2)
noncomputable def m_product_open_l1 (p0 : List AutT) (st73 : Int × (List (List ((Int × Int) × Int)))) : Option ((Int × (List (List ((Int × Int) × Int)))) ⊕ (List (List ((Int × Int) × Int)))) :=
 if decide (st73.1 < (p0.length : Int)) then
  (idx p0 st73.1).bind fun x81 =>
  (iter (m_product_open_l2 x81) (0, ([] : List ((Int × Int) × Int)))).bind fun o107 =>
  (app st73.2 ([o107] : List (List ((Int × Int) × Int)))).bind fun x115 =>
  some (.inl (W (st73.1 + 1), x115))
 else
  some (.inr st73.2)
noncomputable def m_product_open (p0 : List AutT) : Option ((List AutT) × List Int × (List (List ((Int × Int) × Int)))) :=
 (m_product_events p0).bind fun r8 =>
 (iter (m_product_open_l1 p0) (0, ([] : List (List ((Int × Int) × Int))))).bind fun o73 =>
 some (p0, r8, o73)
theorem m_product_open_c {s : Sig} {p0 : List AutT} {a1 : Option Addr} {c1 : Nat} {u1 : Nat} {u2 : Nat} {r : ((List AutT) × List Int × (List (List ((Int × Int) × Int))))} (h1 : RdL (rP (rL qI) (rP qI (rP (rL qI) (rL qT)))) s a1 c1 p0) (hm : m_product_open p0 = some r) :
    Calls Tryz.prog 48 #[.slice a1 p0.length c1] s.w (RetS No s fun v s' => ∃ (a2 : Option Addr) (c2 : Nat) (a3 : Option Addr) (c3 : Nat) (a4 : Option Addr) (c4 : Nat), v = .agg #[.slice a2 r.1.length c2, .slice a3 r.2.1.length c3, .slice a4 r.2.2.length c4] ∧ RdL (rP (rL qI) (rP qI (rP (rL qI) (rL qT)))) s' a2 c2 r.1 ∧ RowT qI s' u1 3 a3 c3 r.2.1 ∧ RowT (rM kvP qI) s' u2 119 a4 c4 r.2.2) := by
 unfold m_product_open at hm
 obtain ⟨N, hN, hNb⟩ := s.fresh
 have m0 : Mv (Up N No) s s := Mv.refl _ _
 refine E.entry Tryz.func48 R Tryz.ntmps48 R R (ER (L.al (N + 0) zz82 R Y R fun b5 s6 m7 bx5 => ?_))
 replace h1 := h1.mono m7.z
 refine LN (ER (L.mv Y R R (L.mv Y R R ?_)))
 obtain ⟨r8, er8, hm⟩ := bindS hm
 refine L.ca cf81 R R Y R (m_product_events_c (s := s6) (p0 := p0) (u0 := (N + 6)) h1 er8) R ?_
 rintro _ s9 m10 ⟨a11, c11, rfl, h11⟩
 refine L.bu (cs := [.slice a1 p0.length c1, .slice a11 r8.length c11, .slice none 0 0]) pl82 Y R R R (L.al (N + 1) zz82 R Y R fun b12 s13 m14 bx12 => ?_)
 refine L.st (c := [.slice a1 p0.length c1, .slice a11 r8.length c11, .slice none 0 0]) (cs' := #[.slice a1 p0.length c1, .slice a11 r8.length c11, .slice none 0 0]) bx12 ag82.sz Y R R R R R (nb R) R fun s15 m16 bx12 => ?_
 replace m0 := (((m0.trans m7.no).trans m10.no).trans m14.no).trans (m16.one up)
 replace h1 := ((h1.mono m10.z).mono m14.z).mono (m16.le (tg0 hN))
 replace bx5 := ((bx5.mv m10 no_No).mv m14 no_No).mv m16 (tq R)
 replace h11 := (h11.mv m14 no_No no_No).mv m16 (tq R) (tg0 hN)
 refine LN (E.seq (ER (L.mv Y R R (L.len sl37 Y R R (L.mv Y R R (LN (E.block ?_)))))))
 obtain ⟨o73, eo73, hm⟩ := bindS hm
 refine E.cut (x := .exit 0) (fun e w => ∃ (s77 : Sig) (a75 : Option Addr) (c75 : Nat), Mv (Up N No) s s77 ∧ RdL (rP (rL qI) (rP qI (rP (rL qI) (rL qT)))) s77 a1 c1 p0 ∧ RowT qI s77 (N + 6) 3 a11 c11 r8 ∧ RowT (rM kvP qI) s77 (N + 5) 119 a75 c75 o73 ∧ Bx s77 (N + 0) b5 #[.slice none 0 0, .slice none 0 0, .slice none 0 0] 82 ∧ Bx s77 (N + 1) b12 #[.slice a1 p0.length c1, .slice a11 r8.length c11, .slice a75 o73.length c75] 82 ∧ e = [(3, .pointer (some ⟨b12, 0, none⟩)), (2, .pointer (some ⟨b5, 0, none⟩))] ∧ w = s77.w) ?_ ?_
 ·rintro _ _ ⟨s77, a75, c75, m0, h1, h11, h75, bx5, bx12, rfl, rfl⟩
  refine X.blkE (X.seqN (ER (L.lg (j := 0) (cs := [.slice a1 p0.length c1, .slice a11 r8.length c11, .slice a75 o73.length c75]) bx12.mem ag82 Y R R R R R (L.st (c := [.slice a1 p0.length c1, .slice a11 r8.length c11, .slice a75 o73.length c75]) (cs' := #[.slice a1 p0.length c1, .slice a11 r8.length c11, .slice a75 o73.length c75]) bx5 ag82.sz Y R R R R R (nb R) R fun s78 m79 bx5 => ?_))))
  replace m0 := m0.trans (m79.one up)
  replace h1 := h1.mono (m79.le (tg0 hN))
  replace h11 := h11.mv m79 (tq R) (tg0 hN)
  replace h75 := h75.mv m79 (tq R) (tg0 hN)
  refine LN (E.ret ?_)
  obtain rfl := oi hm
  exact X.rt (.inl R) Tryz.results48 (Rs.cell R bx5 ag82 R Rs.nil) R ⟨_, (s78).ren N (fun k => cond (Nat.beq k 6) u1 (cond (Nat.beq k 5) u2 (0))), R, R, m0.ren hNb, ⟨a1, c1, a11, c11, a75, c75, R, (h1.ren hN), (h11.ren hN), (h75.ren hN)⟩⟩
 intro K80
 refine E.iter (fun (st73 : Int × (List (List ((Int × Int) × Int)))) (e : List (Nat × Value)) (w : World) => ∃ (s76 : Sig) (a19 : Option Addr) (c19 : Nat), Mv (Up N No) s s76 ∧ RdL (rP (rL qI) (rP qI (rP (rL qI) (rL qT)))) s76 a1 c1 p0 ∧ RowT qI s76 (N + 6) 3 a11 c11 r8 ∧ RowT (rM kvP qI) s76 (N + 5) 119 a19 c19 st73.2 ∧ Bx s76 (N + 0) b5 #[.slice none 0 0, .slice none 0 0, .slice none 0 0] 82 ∧ Bx s76 (N + 1) b12 #[.slice a1 p0.length c1, .slice a11 r8.length c11, .slice a19 st73.2.length c19] 82 ∧ e = [(15, .int .i64 st73.1), (14, .int .i64 (p0.length : Int)), (13, .slice a1 p0.length c1), (3, .pointer (some ⟨b12, 0, none⟩)), (2, .pointer (some ⟨b5, 0, none⟩))] ∧ w = s76.w) eo73 ⟨s15, none, 0, m0, h1, h11, RowT.nil, bx5, bx12, R, R⟩ (Sub.rf R) ?_
 rintro st73 res73 hm ih73 ho73 _ _ ⟨s76, a19, c19, m0, h1, h11, h19, bx5, bx12, rfl, rfl⟩
 unfold m_product_open_l1 at hm
 refine ER (L.bi Y R R R R (LN (E.seq ?_)))
 rcases ifS hm with ⟨hc, hm⟩ | ⟨hc, hm⟩
 ·refine E.cT R hc (E.skip (X.seqN (E.seq (E.block (E.seq (E.reg ?_))))))
  obtain ⟨x81, ex81, hm⟩ := bindS hm
  refine L.ix (r := (rP (rL qI) (rP qI (rP (rL qI) (rL qT))))) sl37 h1 Y R R ex81 R fun b82 o82 cc82 me82 rd82 => ?_
  obtain ⟨_, _, rfl, ⟨a83, c83, rfl, h83⟩, ⟨_, _, rfl, rfl, ⟨_, _, rfl, ⟨a84, c84, rfl, h84⟩, ⟨a85, c85, rfl, h85⟩⟩⟩⟩ := rd82
  refine L.lg (j := 0) (cs := [.slice a83 x81.1.length c83, .int .i64 x81.2.1, .slice a84 x81.2.2.1.length c84, .slice a85 x81.2.2.2.length c85]) me82 ag30 Y R R R R R (L.al (N + 2) zz30 R Y R fun b86 s87 m88 bx86 => ?_)
  refine L.st (c := [.slice a83 x81.1.length c83, .int .i64 x81.2.1, .slice a84 x81.2.2.1.length c84, .slice a85 x81.2.2.2.length c85]) (cs' := #[.slice a83 x81.1.length c83, .int .i64 x81.2.1, .slice a84 x81.2.2.1.length c84, .slice a85 x81.2.2.2.length c85]) bx86 ag30.sz Y R R R R R (nb R) R fun s89 m90 bx86 => ?_
  refine LN (ER (L.mk2 (kv := kvP) (r := qI) (T := 119) (N + 3) R Y fun y91 c91 s92 m93 h91 => ?_))
  replace h91 := h91.as (T' := 0) (Le.refl _) R (fun _ e => e)
  replace m0 := ((m0.trans m88.no).trans (m90.one up)).trans m93.no
  replace h1 := ((h1.mono m88.z).mono (m90.le (tg0 hN))).mono m93.z
  replace bx5 := ((bx5.mv m88 no_No).mv m90 (tq R)).mv m93 no_No
  replace bx12 := ((bx12.mv m88 no_No).mv m90 (tq R)).mv m93 no_No
  replace h11 := ((h11.mv m88 no_No no_No).mv m90 (tq R) (tg0 hN)).mv m93 no_No no_No
  replace h19 := ((h19.mv m88 no_No no_No).mv m90 (tq R) (tg0 hN)).mv m93 no_No no_No
  replace bx86 := bx86.mv m93 no_No
  replace h85 := ((h85.mono m88.z).mono (m90.le (tg0 hN))).mono m93.z
  refine L.as Y R R (LN (E.seq (ER (L.fa fa30_3 Y R R (L.ld (j := 3) bx86.mem nag28 Y R R R R (L.len sl28 Y R R (L.mv Y R R (LN (E.block ?_)))))))))
  obtain ⟨o107, eo107, hm⟩ := bindS hm
  refine E.cut (x := .exit 2) (fun e w => ∃ (s110 : Sig), Mv (Up N No) s s110 ∧ MapO kvP qI s110 (N + 3) 0 y91 c91 o107 ∧ RdL (rP (rL qI) (rP qI (rP (rL qI) (rL qT)))) s110 a1 c1 p0 ∧ RowT qI s110 (N + 6) 3 a11 c11 r8 ∧ RowT (rM kvP qI) s110 (N + 5) 119 a19 c19 st73.2 ∧ Bx s110 (N + 0) b5 #[.slice none 0 0, .slice none 0 0, .slice none 0 0] 82 ∧ Bx s110 (N + 1) b12 #[.slice a1 p0.length c1, .slice a11 r8.length c11, .slice a19 st73.2.length c19] 82 ∧ e = [(6, .map y91), (15, .int .i64 st73.1), (14, .int .i64 (p0.length : Int)), (13, .slice a1 p0.length c1), (3, .pointer (some ⟨b12, 0, none⟩)), (2, .pointer (some ⟨b5, 0, none⟩))] ∧ w = s110.w) ?_ ?_
  ·rintro _ _ ⟨s110, m0, h91, h1, h11, h19, bx5, bx12, rfl, rfl⟩
   refine X.blkE (X.seqN (E.reg (L.fa fa82_2 Y R R (L.ld (j := 2) bx12.mem nag80 Y R R R R (L.mv Y R R ?_)))))
   have m111 := Sig.fz_mv (N + 3) s110
   refine L.toR (s' := (Sig.fz (N + 3) s110)) R (L.bsE (k := 1) (cs := [.map y91]) 0 bs80 (nb R) Y R R R R fun b112 s113 m114 bx112 => ?_)
   replace h19 := (h19.mv m111 (tq R) (tg0 hN)).mv m114 no_No no_No
   replace h91 := (h91.fz (tgn hN)).mono m114.z
   have h112 := Bx.rdL (r := (rM kvP qI)) (xs := ([o107] : List (List ((Int × Int) × Int)))) bx112 ⟨[.map y91], _, R, ⟨_, _, R, h91⟩, R⟩ (nb R)
   obtain ⟨x115, ex115, hm⟩ := bindS hm
   refine L.ap (r := (rM kvP qI)) Tryz.underlying80 el119 R (tgp hN) h19 h112.wk Y R R ex115 R fun a116 c116 s117 m118 h116 => ?_
   replace bx12 := ((bx12.mv m111 (tq R)).mv m114 no_No).mv m118 (tq R)
   refine L.fa fa82_2 Y R R (L.st (c := [.slice a116 x115.length c116]) (cs' := #[.slice a1 p0.length c1, .slice a11 r8.length c11, .slice a116 x115.length c116]) bx12 nag80.sz Y R R R R R (nb R) R fun s119 m120 bx12 => ?_)
   replace m0 := (((m0.trans (m111.one up)).trans m114.no).trans (m118.one up)).trans (m120.one up)
   replace h1 := (((h1.mono (m111.le (tg0 hN))).mono m114.z).mono (m118.le (tg0 hN))).mono (m120.le (tg0 hN))
   replace bx5 := (((bx5.mv m111 (tq R)).mv m114 no_No).mv m118 (tq R)).mv m120 (tq R)
   replace h11 := (((h11.mv m111 (tq R) (tg0 hN)).mv m114 no_No no_No).mv m118 (tq R) (tg0 hN)).mv m120 (tq R) (tg0 hN)
   replace h116 := h116.mv m120 (tq R) (tg0 hN)
   exact L.nil (X.blkN (X.seqN (E.reg (L.bi Y R R R R (L.mv Y R R (L.nil (X.sub (ih73 _ (oi hm).symm _ _ ⟨s119, a116, c116, m0, h1, h11, h116, bx5, bx12, R, R⟩) (Sub.rf R))))))))
  intro K121
  refine E.iter (fun (st107 : Int × (List ((Int × Int) × Int))) (e : List (Nat × Value)) (w : World) => ∃ (s109 : Sig), Mv (Up N No) s s109 ∧ RdL qT s109 a85 c85 x81.2.2.2 ∧ MapO kvP qI s109 (N + 3) 0 y91 c91 st107.2 ∧ RdL (rP (rL qI) (rP qI (rP (rL qI) (rL qT)))) s109 a1 c1 p0 ∧ RowT qI s109 (N + 6) 3 a11 c11 r8 ∧ RowT (rM kvP qI) s109 (N + 5) 119 a19 c19 st73.2 ∧ Bx s109 (N + 0) b5 #[.slice none 0 0, .slice none 0 0, .slice none 0 0] 82 ∧ Bx s109 (N + 1) b12 #[.slice a1 p0.length c1, .slice a11 r8.length c11, .slice a19 st73.2.length c19] 82 ∧ e = [(23, .int .i64 st107.1), (22, .int .i64 (x81.2.2.2.length : Int)), (21, .slice a85 x81.2.2.2.length c85), (6, .map y91), (15, .int .i64 st73.1), (14, .int .i64 (p0.length : Int)), (13, .slice a1 p0.length c1), (3, .pointer (some ⟨b12, 0, none⟩)), (2, .pointer (some ⟨b5, 0, none⟩))] ∧ w = s109.w) eo107 ⟨s92, m0, h85, h91, h1, h11, h19, bx5, bx12, R, R⟩ (Sub.rf R) ?_
  rintro st107 res107 hm ih107 ho107 _ _ ⟨s109, m0, h85, h91, h1, h11, h19, bx5, bx12, rfl, rfl⟩
  unfold m_product_open_l2 at hm
  refine ER (L.bi Y R R R R (LN (E.seq ?_)))
  rcases ifS hm with ⟨hc, hm⟩ | ⟨hc, hm⟩
  ·refine E.cT R hc (E.skip (X.seqN (E.seq (E.block (E.seq (E.reg ?_))))))
   obtain ⟨x122, ex122, hm⟩ := bindS hm
   refine L.ix (r := qT) sl28 h85 Y R R ex122 R fun b123 o123 cc123 me123 rd123 => ?_
   obtain ⟨_, _, rfl, rfl, ⟨_, _, rfl, rfl, rfl⟩⟩ := rd123
   refine L.lg (j := 0) (cs := [.int .i64 x122.1, .int .i64 x122.2.1, .int .i64 x122.2.2]) me123 ag62 Y R R R R R (L.al (N + 4) zz62 R Y R fun b124 s125 m126 bx124 => ?_)
   refine L.st (c := [.int .i64 x122.1, .int .i64 x122.2.1, .int .i64 x122.2.2]) (cs' := #[.int .i64 x122.1, .int .i64 x122.2.1, .int .i64 x122.2.2]) bx124 ag62.sz Y R R R R R (nb R) R fun s127 m128 bx124 => ?_
   replace h91 := (h91.mv m126 no_No no_No).mv m128 (tq R) (tg0 hN)
   refine LN (E.reg (L.mv Y R R (L.fa fa62_0 Y R R (L.ld (j := 0) bx124.mem nag3 Y R R R R (L.fa fa62_1 Y R R (L.ld (j := 1) bx124.mem nag3 Y R R R R (L.bu (cs := [.int .i64 x122.1, .int .i64 x122.2.1]) pl120 Y R R R (L.fa fa62_2 Y R R (L.ld (j := 2) bx124.mem nag3 Y R R R R (L.mu (k := (x122.1, x122.2.1)) (v := x122.2.2) md119 h91 R (tpos hN) (fun _ _ => eqP) Y R R R fun s129 m130 h91 => ?_))))))))))
   replace m0 := ((m0.trans m126.no).trans (m128.one up)).trans (m130.one up)
   replace h1 := ((h1.mono m126.z).mono (m128.le (tg0 hN))).mono (m130.le (tg0 hN))
   replace h85 := ((h85.mono m126.z).mono (m128.le (tg0 hN))).mono (m130.le (tg0 hN))
   replace bx5 := ((bx5.mv m126 no_No).mv m128 (tq R)).mv m130 (tq R)
   replace bx12 := ((bx12.mv m126 no_No).mv m128 (tq R)).mv m130 (tq R)
   replace h11 := ((h11.mv m126 no_No no_No).mv m128 (tq R) (tg0 hN)).mv m130 (tq R) (tg0 hN)
   replace h19 := ((h19.mv m126 no_No no_No).mv m128 (tq R) (tg0 hN)).mv m130 (tq R) (tg0 hN)
   exact L.nil (X.blkN (X.seqN (E.reg (L.bi Y R R R R (L.mv Y R R (L.nil (X.sub (ih107 _ (oi hm).symm _ _ ⟨s129, m0, h85, h91, h1, h11, h19, bx5, bx12, R, R⟩) (Sub.rf R))))))))
  refine E.cF R hc (E.exit (X.seqX (X.seqX ?_)))
  have hx := ho107 _ (oi hm).symm
  subst hx
  exact X.sub (K121 _ _ ⟨s109, m0, h91, h1, h11, h19, bx5, bx12, R, R⟩) (Sub.rf R)
 refine E.cF R hc (E.exit (X.seqX (X.seqX ?_)))
 have hx := ho73 _ (oi hm).symm
 subst hx
 exact X.sub (K80 _ _ ⟨s76, a19, c19, m0, h1, h11, h19, bx5, bx12, R, R⟩) (Sub.rf R)

theorem fa82_0 : FA Tryz.prog 82 0 0 := FA.mk Tryz.underlying82 rfl rfl ⟨1, by decide, by kernel_rfl⟩
theorem nag37 : NAg Tryz.prog 37 := NAg.mk' Tryz.underlying37 rfl (by kernel_rfl)
noncomputable def m_product_machine_initial_l1 (p0 : (List AutT) × List Int × (List (List ((Int × Int) × Int)))) (st20 : Int) : Option (Int ⊕ (Unit ⊕ Unit)) :=
 if decide (st20 < (p0.1.length : Int)) then
  (idx p0.1 st20).bind fun x32 =>
  if (x32.2.1 == 0) then
   some (.inr (.inr (())))
  else
   some (.inl (W (st20 + 1)))
 else
  some (.inr (.inl ()))
noncomputable def m_product_machine_initial (p0 : (List AutT) × List Int × (List (List ((Int × Int) × Int)))) : Option (List Int × Bool) :=
 (iter (m_product_machine_initial_l1 p0) 0).bind fun o20 =>
 match o20 with
 | .inl u22 =>
  (mkL (p0.1.length : Int) (0 : Int)).bind fun x24 =>
  some (x24, true)
 | .inr (u29) =>
  some (([] : List Int), false)
theorem m_product_machine_initial_c {s : Sig} {p0 : (List AutT) × List Int × (List (List ((Int × Int) × Int)))} {a1 : Option Addr} {c1 : Nat} {a2 : Option Addr} {c2 : Nat} {a3 : Option Addr} {c3 : Nat} {u0 : Nat} {r : List Int × Bool} (h1 : RdL (rP (rL qI) (rP qI (rP (rL qI) (rL qT)))) s a1 c1 p0.1) (h2 : RdL qI s a2 c2 p0.2.1) (h3 : RdL (rM kvP qI) s a3 c3 p0.2.2) (hm : m_product_machine_initial p0 = some r) :
    Calls Tryz.prog 49 #[.agg #[.slice a1 p0.1.length c1, .slice a2 p0.2.1.length c2, .slice a3 p0.2.2.length c3]] s.w (RetS No s fun v s' => ∃ (a4 : Option Addr) (c4 : Nat), v = .tuple #[.slice a4 r.1.length c4, .bool r.2] ∧ RowT qI s' u0 3 a4 c4 r.1) := by
 unfold m_product_machine_initial at hm
 obtain ⟨N, hN, hNb⟩ := s.fresh
 have m0 : Mv (Up N No) s s := Mv.refl _ _
 refine E.entry Tryz.func49 R Tryz.ntmps49 R R (ER (L.box (N + 0) Y R R R fun b5 s6 m7 bx5 => ?_))
 replace m0 := m0.trans m7.no
 replace h1 := h1.mono m7.z
 replace h2 := h2.mono m7.z
 replace h3 := h3.mono m7.z
 refine L.as Y R R (L.as Y R R (LN (E.seq (ER (L.fa fa82_0 Y R R (L.ld (j := 0) bx5.mem nag37 Y R R R R (L.len sl37 Y R R (L.mv Y R R (LN (E.block ?_))))))))))
 obtain ⟨o20, eo20, hm⟩ := bindS hm
 refine E.cut (x := .exit 0) (fun e w => ∃ (s23 : Sig) (u22 : Unit), o20 = .inl u22 ∧ Mv (Up N No) s s23 ∧ RdL (rP (rL qI) (rP qI (rP (rL qI) (rL qT)))) s23 a1 c1 p0.1 ∧ RdL qI s23 a2 c2 p0.2.1 ∧ RdL (rM kvP qI) s23 a3 c3 p0.2.2 ∧ Bx s23 (N + 0) b5 #[.slice a1 p0.1.length c1, .slice a2 p0.2.1.length c2, .slice a3 p0.2.2.length c3] 82 ∧ e = [(1, .pointer (some ⟨b5, 0, none⟩))] ∧ w = s23.w) ?_ ?_
 ·rintro _ _ ⟨s23, u22, rfl, m0, h1, h2, h3, bx5, rfl, rfl⟩
  dsimp only at hm
  refine X.blkE (X.seqN (ER (L.fa fa82_0 Y R R (L.ld (j := 0) bx5.mem nag37 Y R R R R (L.len sl37 Y R R ?_)))))
  obtain ⟨x24, ex24, hm⟩ := bindS hm
  refine L.mk (z := (0 : Int)) (N + 2) Tryz.underlying27 zr3 R Y R R ex24 R fun b25 s26 m27 h25 => ?_
  replace m0 := m0.trans m27.no
  refine L.as Y R R (L.as Y R R (LN (E.ret ?_)))
  obtain rfl := oi hm
  exact X.rt (.inl R) Tryz.results49 (Rs.tmp R (Rs.tmp R Rs.nil)) R ⟨_, (s26).ren N (fun k => cond (Nat.beq k 2) u0 (0)), R, R, m0.ren hNb, ⟨(some ⟨b25, 0, none⟩), x24.length, R, (h25.ren hN)⟩⟩
 intro K28
 refine E.cut (x := .ret) (fun e w => ∃ (s30 : Sig) (u29 : Unit), o20 = .inr (u29) ∧ Mv (Up N No) s s30 ∧ e = [(3, .bool false), (2, .slice none 0 0)] ∧ w = s30.w) ?_ ?_
 ·rintro _ _ ⟨s30, u29, rfl, m0, rfl, rfl⟩
  dsimp only at hm
  refine X.blkR (X.seqR ?_)
  obtain rfl := oi hm
  exact X.rt (.inl R) Tryz.results49 (Rs.tmp R (Rs.tmp R Rs.nil)) R ⟨_, (s30).ren N (fun _ => 0), R, R, m0.ren hNb, ⟨none, 0, R, RowT.nil⟩⟩
 intro K31
 refine E.iter (fun (st20 : Int) (e : List (Nat × Value)) (w : World) => ∃ (s21 : Sig), Mv (Up N No) s s21 ∧ RdL (rP (rL qI) (rP qI (rP (rL qI) (rL qT)))) s21 a1 c1 p0.1 ∧ RdL qI s21 a2 c2 p0.2.1 ∧ RdL (rM kvP qI) s21 a3 c3 p0.2.2 ∧ Bx s21 (N + 0) b5 #[.slice a1 p0.1.length c1, .slice a2 p0.2.1.length c2, .slice a3 p0.2.2.length c3] 82 ∧ e = [(9, .int .i64 st20), (8, .int .i64 (p0.1.length : Int)), (7, .slice a1 p0.1.length c1), (1, .pointer (some ⟨b5, 0, none⟩))] ∧ w = s21.w) eo20 ⟨s6, m0, h1, h2, h3, bx5, R, R⟩ (Sub.rf R) ?_
 rintro st20 res20 hm ih20 ho20 _ _ ⟨s21, m0, h1, h2, h3, bx5, rfl, rfl⟩
 unfold m_product_machine_initial_l1 at hm
 refine ER (L.bi Y R R R R (LN (E.seq ?_)))
 rcases ifS hm with ⟨hc, hm⟩ | ⟨hc, hm⟩
 ·refine E.cT R hc (E.skip (X.seqN (E.seq (E.block (E.seq (E.reg ?_))))))
  obtain ⟨x32, ex32, hm⟩ := bindS hm
  refine L.ix (r := (rP (rL qI) (rP qI (rP (rL qI) (rL qT))))) sl37 h1 Y R R ex32 R fun b33 o33 cc33 me33 rd33 => ?_
  obtain ⟨_, _, rfl, ⟨a34, c34, rfl, h34⟩, ⟨_, _, rfl, rfl, ⟨_, _, rfl, ⟨a35, c35, rfl, h35⟩, ⟨a36, c36, rfl, h36⟩⟩⟩⟩ := rd33
  refine L.lg (j := 0) (cs := [.slice a34 x32.1.length c34, .int .i64 x32.2.1, .slice a35 x32.2.2.1.length c35, .slice a36 x32.2.2.2.length c36]) me33 ag30 Y R R R R R (L.al (N + 1) zz30 R Y R fun b37 s38 m39 bx37 => ?_)
  refine L.st (c := [.slice a34 x32.1.length c34, .int .i64 x32.2.1, .slice a35 x32.2.2.1.length c35, .slice a36 x32.2.2.2.length c36]) (cs' := #[.slice a34 x32.1.length c34, .int .i64 x32.2.1, .slice a35 x32.2.2.1.length c35, .slice a36 x32.2.2.2.length c36]) bx37 ag30.sz Y R R R R R (nb R) R fun s40 m41 bx37 => ?_
  replace m0 := (m0.trans m39.no).trans (m41.one up)
  replace h1 := (h1.mono m39.z).mono (m41.le (tg0 hN))
  replace bx5 := (bx5.mv m39 no_No).mv m41 (tq R)
  replace h2 := (h2.mono m39.z).mono (m41.le (tg0 hN))
  replace h3 := (h3.mono m39.z).mono (m41.le (tg0 hN))
  refine LN (ER (L.fa fa30_1 Y R R (L.ld (j := 1) bx37.mem nag3 Y R R R R (L.bi Y R R R R (L.nil (X.seqN ?_))))))
  rcases ifS hm with ⟨hc, hm⟩ | ⟨hc, hm⟩
  ·refine E.cT R hc (ER (L.as Y R R (L.as Y R R (LN (E.ret (X.blkR (X.seqR (X.seqR ?_))))))))
   have hx := ho20 _ (oi hm).symm
   exact X.sub (K31 _ _ ⟨s40, (), hx.symm, m0, R, R⟩) (Sub.rf R)
  exact E.cF R hc (E.skip (X.blkN (X.seqN (E.reg (L.bi Y R R R R (L.mv Y R R (L.nil (X.sub (ih20 _ (oi hm).symm _ _ ⟨s40, m0, h1, h2, h3, bx5, R, R⟩) (Sub.rf R)))))))))
 refine E.cF R hc (E.exit (X.seqX (X.seqX ?_)))
 have hx := ho20 _ (oi hm).symm
 exact X.sub (K28 _ _ ⟨s21, (), hx.symm, m0, h1, h2, h3, bx5, R, R⟩) (Sub.rf R)

noncomputable def m_cmp_isNaN_int (p0 : Int) : Option Bool :=
 some (p0 != p0)
theorem m_cmp_isNaN_int_c {s : Sig} {p0 : Int} {r : Bool} (hm : m_cmp_isNaN_int p0 = some r) :
    Calls Tryz.prog 130 #[.int .i64 p0] s.w (RetS No s fun v s' => v = .bool r) := by
 unfold m_cmp_isNaN_int at hm
 obtain ⟨N, hN, hNb⟩ := s.fresh
 have m0 : Mv (Up N No) s s := Mv.refl _ _
 refine E.entry Tryz.func130 R Tryz.ntmps130 R R (ER (L.as Y R R (LN (ER (L.mv Y R R (L.mv Y R R (L.bi Y R R R R (L.as Y R R (LN (E.ret ?_))))))))))
 obtain rfl := oi hm
 exact X.rt (.inl R) Tryz.results130 (Rs.tmp R Rs.nil) R ⟨_, (s).ren N (fun _ => 0), R, R, m0.ren hNb, R⟩

theorem cf130 : Cf Tryz.prog 130 := Cf.mk Tryz.func130 (by kernel_rfl) (by kernel_rfl)
noncomputable def m_cmp_Less_int (p0 : Int) (p1 : Int) : Option Bool :=
 (m_cmp_isNaN_int p0).bind fun r1 =>
 (if r1 then
  (m_cmp_isNaN_int p1).bind fun r10 =>
  some (!r10)
 else
  some false).bind fun b4 =>
 some (b4 || (decide (p0 < p1)))
theorem m_cmp_Less_int_c {s : Sig} {p0 : Int} {p1 : Int} {r : Bool} (hm : m_cmp_Less_int p0 p1 = some r) :
    Calls Tryz.prog 97 #[.int .i64 p0, .int .i64 p1] s.w (RetS No s fun v s' => v = .bool r) := by
 unfold m_cmp_Less_int at hm
 obtain ⟨N, hN, hNb⟩ := s.fresh
 have m0 : Mv (Up N No) s s := Mv.refl _ _
 refine E.entry Tryz.func97 R Tryz.ntmps97 R R (ER (L.as Y R R (LN (ER (L.mv Y R R ?_)))))
 obtain ⟨r1, er1, hm⟩ := bindS hm
 refine L.ca cf130 R R Y R (m_cmp_isNaN_int_c (s := s) (p0 := p0) er1) R ?_
 rintro _ s2 m3 rfl
 replace m0 := m0.trans m3.no
 refine L.mv Y R R ?_
 obtain ⟨b4, eb4, hm⟩ := bindS hm
 refine L.cut 4 (fun e w => ∃ (s6 : Sig) (v5 : Bool), b4 = v5 ∧ Mv (Up N No) s s6 ∧ e = (11, .bool v5) :: [(0, .int .i64 p0), (1, .int .i64 p1)] ∧ w = s6.w) ?_ ?_
 ·rintro _ _ ⟨s6, v5, rfl, m0, rfl, rfl⟩
  refine L.mv Y R R (L.cut 4 (fun e w => ∃ (v7 : Bool), (b4 || (decide (p0 < p1))) = v7 ∧ e = (16, .bool v7) :: [] ∧ w = s6.w) ?_ ?_)
  ·rintro _ _ ⟨v7, rfl, rfl, rfl⟩
   refine L.as Y R R (LN (E.ret ?_))
   obtain rfl := oi hm
   exact X.rt (.inl R) Tryz.results97 (Rs.tmp R Rs.nil) R ⟨_, (s6).ren N (fun _ => 0), R, R, m0.ren hNb, R⟩
  intro J8
  rcases Bool.eq_false_or_eq_true b4 with hc | hc
  ·exact L.know (d := 12) R hc (L.skip R R R R (L.skip R R R R (L.skip R R R R (L.pkT Y R R R R (L.sb (J8 _ _ ⟨true, (orT hc).symm, R, R⟩) R)))))
  exact L.know (d := 12) R hc (L.mv (Wt.mk R R) R R (L.mv (Wt.mk R R) R R (L.bi (Wt.mk R R) R R R R (L.pkF Y R R R R (L.sb (J8 _ _ ⟨(decide (p0 < p1)), (orF hc).symm, R, R⟩) R)))))
 intro J9
 rcases ifS eb4 with ⟨hc, hm⟩ | ⟨hc, hm⟩
 ·refine L.know (d := 7) R hc (L.mv (Wt.mk R R) R R ?_)
  obtain ⟨r10, er10, hm⟩ := bindS hm
  refine L.ca cf130 R R (Wt.mk R R) R (m_cmp_isNaN_int_c (s := s2) (p0 := p1) er10) R ?_
  rintro _ s11 m12 rfl
  replace m0 := m0.trans m12.no
  exact L.not (Wt.mk R R) R R (L.pkT Y R R R R (L.sb (J9 _ _ ⟨s11, (!r10), (oi hm).symm, m0, R, R⟩) R))
 exact L.know (d := 7) R hc (L.skip R R R R (L.skip R R R R (L.skip R R R R (L.pkF Y R R R R (L.sb (J9 _ _ ⟨s2, false, (oi hm).symm, m0, R, R⟩) R)))))

noncomputable def m_slices_isNaN_int (p0 : Int) : Option Bool :=
 some (p0 != p0)
theorem m_slices_isNaN_int_c {s : Sig} {p0 : Int} {r : Bool} (hm : m_slices_isNaN_int p0 = some r) :
    Calls Tryz.prog 98 #[.int .i64 p0] s.w (RetS No s fun v s' => v = .bool r) := by
 unfold m_slices_isNaN_int at hm
 obtain ⟨N, hN, hNb⟩ := s.fresh
 have m0 : Mv (Up N No) s s := Mv.refl _ _
 refine E.entry Tryz.func98 R Tryz.ntmps98 R R (ER (L.as Y R R (LN (ER (L.mv Y R R (L.mv Y R R (L.bi Y R R R R (L.as Y R R (LN (E.ret ?_))))))))))
 obtain rfl := oi hm
 exact X.rt (.inl R) Tryz.results98 (Rs.tmp R Rs.nil) R ⟨_, (s).ren N (fun _ => 0), R, R, m0.ren hNb, R⟩

theorem cf97 : Cf Tryz.prog 97 := Cf.mk Tryz.func97 (by kernel_rfl) (by kernel_rfl)
theorem cf98 : Cf Tryz.prog 98 := Cf.mk Tryz.func98 (by kernel_rfl) (by kernel_rfl)
noncomputable def m_slices_BinarySearch_int_l1 (p0 : List Int) (p1 : Int) (st11 : Int × Int) : Option ((Int × Int) ⊕ Int) :=
 if decide (st11.2 < st11.1) then
  (idx p0 (W ((IntKind.u64.wrap (W (st11.2 + st11.1))).fdiv (2 ^ (min (1 : Int).toNat 64))))).bind fun x38 =>
  (m_cmp_Less_int x38 p1).bind fun r40 =>
  if r40 then
   some (.inl (st11.1, W ((W ((IntKind.u64.wrap (W (st11.2 + st11.1))).fdiv (2 ^ (min (1 : Int).toNat 64)))) + 1)))
  else
   some (.inl (W ((IntKind.u64.wrap (W (st11.2 + st11.1))).fdiv (2 ^ (min (1 : Int).toNat 64))), st11.2))
 else
  some (.inr st11.2)
noncomputable def m_slices_BinarySearch_int (p0 : List Int) (p1 : Int) : Option (Int × Bool) :=
 (iter (m_slices_BinarySearch_int_l1 p0 p1) ((p0.length : Int), 0)).bind fun o11 =>
 (if decide (o11 < (p0.length : Int)) then
  (idx p0 o11).bind fun x19 =>
  (if (x19 == p1) then
   some true
  else
   (idx p0 o11).bind fun x25 =>
   (m_slices_isNaN_int x25).bind fun r27 =>
   (if r27 then
    (m_slices_isNaN_int p1).bind fun r34 =>
    some r34
   else
    some false).bind fun b30 =>
   some b30).bind fun b21 =>
  some b21
 else
  some false).bind fun b15 =>
 some (o11, b15)
theorem m_slices_BinarySearch_int_c {s : Sig} {p0 : List Int} {p1 : Int} {a1 : Option Addr} {c1 : Nat} {r : Int × Bool} (h1 : RdL qI s a1 c1 p0) (hm : m_slices_BinarySearch_int p0 p1 = some r) :
    Calls Tryz.prog 66 #[.slice a1 p0.length c1, .int .i64 p1] s.w (RetS No s fun v s' => v = .tuple #[.int .i64 r.1, .bool r.2]) := by
 unfold m_slices_BinarySearch_int at hm
 obtain ⟨N, hN, hNb⟩ := s.fresh
 have m0 : Mv (Up N No) s s := Mv.refl _ _
 refine E.entry Tryz.func66 R Tryz.ntmps66 R R (ER (L.as Y R R (L.as Y R R (LN (ER (L.mv Y R R (L.len sl27 Y R R (L.as Y R R (LN (ER (L.mv Y R R (L.as Y R R (L.as Y R R (LN (E.seq (E.block ?_))))))))))))))))
 obtain ⟨o11, eo11, hm⟩ := bindS hm
 refine E.cut (x := .exit 0) (fun e w => ∃ (s14 : Sig), Mv (Up N No) s s14 ∧ RdL qI s14 a1 c1 p0 ∧ e = [(7, .int .i64 o11), (6, .int .i64 (p0.length : Int)), (0, .slice a1 p0.length c1), (1, .int .i64 p1)] ∧ w = s14.w) ?_ ?_
 ·rintro _ _ ⟨s14, m0, h1, rfl, rfl⟩
  refine X.blkE (X.seqN (ER (L.mv Y R R (L.mv Y R R (L.mv Y R R (L.bi Y R R R R (L.mv Y R R ?_)))))))
  obtain ⟨b15, eb15, hm⟩ := bindS hm
  refine L.cut 18 (fun e w => ∃ (s17 : Sig) (v16 : Bool), b15 = v16 ∧ Mv (Up N No) s s17 ∧ e = (53, .bool v16) :: [(31, .int .i64 o11)] ∧ w = s17.w) ?_ ?_
  ·rintro _ _ ⟨s17, v16, rfl, m0, rfl, rfl⟩
   refine L.as Y R R (L.as Y R R (LN (E.ret ?_)))
   obtain rfl := oi hm
   exact X.rt (.inl R) Tryz.results66 (Rs.tmp R (Rs.tmp R Rs.nil)) R ⟨_, (s17).ren N (fun _ => 0), R, R, m0.ren hNb, R⟩
  intro J18
  rcases ifS eb15 with ⟨hc, hm⟩ | ⟨hc, hm⟩
  ·refine L.know (d := 35) R hc (L.mv (Wt.mk R R) R R (L.mv (Wt.mk R R) R R ?_))
   obtain ⟨x19, ex19, hm⟩ := bindS hm
   refine L.ix (r := qI) sl27 h1 (Wt.mk R R) R R ex19 R fun b20 o20 cc20 me20 rd20 => ?_
   obtain rfl := rd20
   refine L.ld (j := 0) me20 nag3 (Wt.mk R R) R R R R (L.mv (Wt.mk R R) R R (L.bi (Wt.mk R R) R R R R (L.mv (Wt.mk R R) R R ?_)))
   obtain ⟨b21, eb21, hm⟩ := bindS hm
   refine L.cut 10 (fun e w => ∃ (s23 : Sig) (v22 : Bool), b21 = v22 ∧ Mv (Up N No) s s23 ∧ e = (52, .bool v22) :: [(35, .bool true), (31, .int .i64 o11)] ∧ w = s23.w) ?_ ?_
   ·rintro _ _ ⟨s23, v22, rfl, m0, rfl, rfl⟩
    exact L.pkT Y R R R R (L.sb (J18 _ _ ⟨s23, b21, (oi hm).symm, m0, R, R⟩) R)
   intro J24
   rcases ifS eb21 with ⟨hc, hm⟩ | ⟨hc, hm⟩
   ·exact L.know (d := 42) R hc (L.skip R R R R (L.skip R R R R (L.skip R R R R (L.skip R R R R (L.skip R R R R (L.skip R R R R (L.skipU R R R (L.skipU R R R (L.skip R R R R (L.pkT (Wt.mk R R) R R R R (L.sb (J24 _ _ ⟨s14, true, (oi hm).symm, m0, R, R⟩) R)))))))))))
   refine L.know (d := 42) R hc (L.mv (Wt.mk R R) R R (L.mv (Wt.mk R R) R R ?_))
   obtain ⟨x25, ex25, hm⟩ := bindS hm
   refine L.ix (r := qI) sl27 h1 (Wt.mk R R) R R ex25 R fun b26 o26 cc26 me26 rd26 => ?_
   obtain rfl := rd26
   refine L.ld (j := 0) me26 nag3 (Wt.mk R R) R R R R ?_
   obtain ⟨r27, er27, hm⟩ := bindS hm
   refine L.ca cf98 R R (Wt.mk R R) R (m_slices_isNaN_int_c (s := s14) (p0 := x25) er27) R ?_
   rintro _ s28 m29 rfl
   replace m0 := m0.trans m29.no
   refine L.mv (Wt.mk R R) R R ?_
   obtain ⟨b30, eb30, hm⟩ := bindS hm
   refine L.cut 3 (fun e w => ∃ (s32 : Sig) (v31 : Bool), b30 = v31 ∧ Mv (Up N No) s s32 ∧ e = (51, .bool v31) :: [(42, .bool false), (35, .bool true), (31, .int .i64 o11)] ∧ w = s32.w) ?_ ?_
   ·rintro _ _ ⟨s32, v31, rfl, m0, rfl, rfl⟩
    exact L.pkF (Wt.mk R R) R R R R (L.sb (J24 _ _ ⟨s32, b30, (oi hm).symm, m0, R, R⟩) R)
   intro J33
   rcases ifS eb30 with ⟨hc, hm⟩ | ⟨hc, hm⟩
   ·refine L.know (d := 48) R hc (L.mv (Wt.mk R R) R R ?_)
    obtain ⟨r34, er34, hm⟩ := bindS hm
    refine L.ca cf98 R R (Wt.mk R R) R (m_slices_isNaN_int_c (s := s28) (p0 := p1) er34) R ?_
    rintro _ s35 m36 rfl
    replace m0 := m0.trans m36.no
    exact L.pkT (Wt.mk R R) R R R R (L.sb (J33 _ _ ⟨s35, r34, (oi hm).symm, m0, R, R⟩) R)
   exact L.know (d := 48) R hc (L.skip R R R R (L.skip R R R R (L.pkF (Wt.mk R R) R R R R (L.sb (J33 _ _ ⟨s28, false, (oi hm).symm, m0, R, R⟩) R))))
  exact L.know (d := 35) R hc (L.skip R R R R (L.skip R R R R (L.skip R R R R (L.skip R R R R (L.skip R R R R (L.skip R R R R (L.skip R R R R (L.skipU R R R (L.skipU R R R (L.skipU R R R (L.skipU R R R (L.skipU R R R (L.skipU R R R (L.skipU R R R (L.skipU R R R (L.skipU R R R (L.skip R R R R (L.pkF Y R R R R (L.sb (J18 _ _ ⟨s14, false, (oi hm).symm, m0, R, R⟩) R)))))))))))))))))))
 intro K37
 refine E.iter (fun (st11 : Int × Int) (e : List (Nat × Value)) (w : World) => ∃ (s13 : Sig), Mv (Up N No) s s13 ∧ RdL qI s13 a1 c1 p0 ∧ e = [(8, .int .i64 st11.1), (7, .int .i64 st11.2), (6, .int .i64 (p0.length : Int)), (0, .slice a1 p0.length c1), (1, .int .i64 p1)] ∧ w = s13.w) eo11 ⟨s, m0, h1, R, R⟩ (Sub.rf R) ?_
 rintro st11 res11 hm ih11 ho11 _ _ ⟨s13, m0, h1, rfl, rfl⟩
 unfold m_slices_BinarySearch_int_l1 at hm
 refine E.seq (ER (L.mv Y R R (L.mv Y R R (L.bi Y R R R R (L.nil (X.seqN ?_))))))
 rcases ifS hm with ⟨hc, hm⟩ | ⟨hc, hm⟩
 ·refine E.cT R hc (E.skip (X.seqN (E.block (ER (L.mv Y R R (L.mv Y R R (L.bi Y R R R R (L.cv Tryz.underlying3 Tryz.underlying139 Y R R (L.shr Y R R (by decide) R (L.cv Tryz.underlying139 Tryz.underlying3 Y R R (L.as Y R R (LN (ER (L.mv Y R R (L.mv Y R R ?_)))))))))))))))
  obtain ⟨x38, ex38, hm⟩ := bindS hm
  refine L.ix (r := qI) sl27 h1 Y R R ex38 R fun b39 o39 cc39 me39 rd39 => ?_
  obtain rfl := rd39
  refine L.ld (j := 0) me39 nag3 Y R R R R (L.mv Y R R ?_)
  obtain ⟨r40, er40, hm⟩ := bindS hm
  refine L.ca cf97 R R Y R (m_cmp_Less_int_c (s := s13) (p0 := x38) (p1 := p1) er40) R ?_
  rintro _ s41 m42 rfl
  replace m0 := m0.trans m42.no
  replace h1 := h1.mono m42.z
  refine L.nil (X.seqN ?_)
  rcases ifS hm with ⟨hc, hm⟩ | ⟨hc, hm⟩
  ·exact E.cT R hc (E.reg (L.mv Y R R (L.bi Y R R R R (L.as Y R R (L.nil (X.blkN (X.sub (ih11 _ (oi hm).symm _ _ ⟨s41, m0, h1, R, R⟩) (Sub.rf R))))))))
  exact E.cF R hc (E.reg (L.mv Y R R (L.as Y R R (L.nil (X.blkN (X.sub (ih11 _ (oi hm).symm _ _ ⟨s41, m0, h1, R, R⟩) (Sub.rf R)))))))
 refine E.cF R hc (E.exit (X.seqX (X.seqX ?_)))
 have hx := ho11 _ (oi hm).symm
 subst hx
 exact X.sub (K37 _ _ ⟨s13, m0, h1, R, R⟩) (Sub.rf R)

end Go.Proofs.YtfbapajcheammaaGreatDoor

namespace Go.Proofs.YtfbapajcheammaaGreatDoor
open Go Go.RowKit
theorem cf66 : Cf Tryz.prog 66 := Cf.mk Tryz.func66 (by kernel_rfl) (by kernel_rfl)
noncomputable def m_alphabet_Contains (p0 : List Int) (p1 : Int) : Option Bool :=
 (m_slices_BinarySearch_int p0 p1).bind fun r2 =>
 some r2.2
theorem m_alphabet_Contains_c {s : Sig} {p0 : List Int} {p1 : Int} {a1 : Option Addr} {c1 : Nat} {r : Bool} (h1 : RdL qI s a1 c1 p0) (hm : m_alphabet_Contains p0 p1 = some r) :
    Calls Tryz.prog 86 #[.slice a1 p0.length c1, .int .i64 p1] s.w (RetS No s fun v s' => v = .bool r) := by
 unfold m_alphabet_Contains at hm
 obtain ⟨N, hN, hNb⟩ := s.fresh
 have m0 : Mv (Up N No) s s := Mv.refl _ _
 refine E.entry Tryz.func86 R Tryz.ntmps86 R R (ER (L.as Y R R (LN (ER (L.mv Y R R (L.mv Y R R ?_))))))
 obtain ⟨r2, er2, hm⟩ := bindS hm
 refine L.ca cf66 R R Y R (m_slices_BinarySearch_int_c (s := s) (p0 := p0) (p1 := p1) h1 er2) R ?_
 rintro _ s3 m4 rfl
 replace m0 := m0.trans m4.no
 refine L.mv Y R R (L.ex Y R R R (L.ex Y R R R (L.as Y R R (L.as Y R R (LN (ER (L.mv Y R R (L.as Y R R (LN (E.ret ?_))))))))))
 obtain rfl := oi hm
 exact X.rt (.inl R) Tryz.results86 (Rs.tmp R Rs.nil) R ⟨_, (s3).ren N (fun _ => 0), R, R, m0.ren hNb, R⟩

theorem cf86 : Cf Tryz.prog 86 := Cf.mk Tryz.func86 (by kernel_rfl) (by kernel_rfl)
noncomputable def m_product_machine_marked_l1 (p0 : (List AutT) × List Int × (List (List ((Int × Int) × Int)))) (p1 : List Int) (st34 : Int) : Option (Int ⊕ (Unit ⊕ Unit)) :=
 if decide (st34 < (p0.1.length : Int)) then
  (idx p0.1 st34).bind fun x42 =>
  (idx p1 st34).bind fun x57 =>
  (m_alphabet_Contains x42.2.2.1 x57).bind fun r61 =>
  if (!r61) then
   some (.inr (.inr (())))
  else
   some (.inl (W (st34 + 1)))
 else
  some (.inr (.inl ()))
noncomputable def m_product_machine_marked (p0 : (List AutT) × List Int × (List (List ((Int × Int) × Int)))) (p1 : List Int) : Option Bool :=
 (iter (m_product_machine_marked_l1 p0 p1) 0).bind fun o34 =>
 match o34 with
 | .inl u36 =>
  some true
 | .inr (u39) =>
  some false
theorem m_product_machine_marked_c {s : Sig} {p0 : (List AutT) × List Int × (List (List ((Int × Int) × Int)))} {p1 : List Int} {a1 : Option Addr} {c1 : Nat} {a2 : Option Addr} {c2 : Nat} {a3 : Option Addr} {c3 : Nat} {a4 : Option Addr} {c4 : Nat} {r : Bool} (h1 : RdL (rP (rL qI) (rP qI (rP (rL qI) (rL qT)))) s a1 c1 p0.1) (h2 : RdL qI s a2 c2 p0.2.1) (h3 : RdL (rM kvP qI) s a3 c3 p0.2.2) (h4 : RdL qI s a4 c4 p1) (hm : m_product_machine_marked p0 p1 = some r) :
    Calls Tryz.prog 51 #[.agg #[.slice a1 p0.1.length c1, .slice a2 p0.2.1.length c2, .slice a3 p0.2.2.length c3], .slice a4 p1.length c4] s.w (RetS No s fun v s' => v = .bool r) := by
 unfold m_product_machine_marked at hm
 obtain ⟨N, hN, hNb⟩ := s.fresh
 have m0 : Mv (Up N No) s s := Mv.refl _ _
 refine E.entry Tryz.func51 R Tryz.ntmps51 R R (ER (L.box (N + 0) Y R R R fun b5 s6 m7 bx5 => ?_))
 replace m0 := m0.trans m7.no
 replace h4 := h4.mono m7.z
 replace h1 := h1.mono m7.z
 refine L.as Y R R (LN (E.seq (ER (L.fa fa82_0 Y R R (L.ld (j := 0) bx5.mem nag37 Y R R R R (L.len sl37 Y R R (L.mv Y R R (LN (E.block ?_)))))))))
 obtain ⟨o34, eo34, hm⟩ := bindS hm
 refine E.cut (x := .exit 0) (fun e w => ∃ (s37 : Sig) (u36 : Unit), o34 = .inl u36 ∧ Mv (Up N No) s s37 ∧ e = [] ∧ w = s37.w) ?_ ?_
 ·rintro _ _ ⟨s37, u36, rfl, m0, rfl, rfl⟩
  dsimp only at hm
  refine X.blkE (X.seqN (ER (L.as Y R R (LN (E.ret ?_)))))
  obtain rfl := oi hm
  exact X.rt (.inl R) Tryz.results51 (Rs.tmp R Rs.nil) R ⟨_, (s37).ren N (fun _ => 0), R, R, m0.ren hNb, R⟩
 intro K38
 refine E.cut (x := .ret) (fun e w => ∃ (s40 : Sig) (u39 : Unit), o34 = .inr (u39) ∧ Mv (Up N No) s s40 ∧ e = [(4, .bool false)] ∧ w = s40.w) ?_ ?_
 ·rintro _ _ ⟨s40, u39, rfl, m0, rfl, rfl⟩
  dsimp only at hm
  refine X.blkR (X.seqR ?_)
  obtain rfl := oi hm
  exact X.rt (.inl R) Tryz.results51 (Rs.tmp R Rs.nil) R ⟨_, (s40).ren N (fun _ => 0), R, R, m0.ren hNb, R⟩
 intro K41
 refine E.iter (fun (st34 : Int) (e : List (Nat × Value)) (w : World) => ∃ (s35 : Sig), Mv (Up N No) s s35 ∧ RdL (rP (rL qI) (rP qI (rP (rL qI) (rL qT)))) s35 a1 c1 p0.1 ∧ RdL qI s35 a4 c4 p1 ∧ e = [(10, .int .i64 st34), (9, .int .i64 (p0.1.length : Int)), (8, .slice a1 p0.1.length c1), (1, .slice a4 p1.length c4)] ∧ w = s35.w) eo34 ⟨s6, m0, h1, h4, R, R⟩ (Sub.rf R) ?_
 rintro st34 res34 hm ih34 ho34 _ _ ⟨s35, m0, h1, h4, rfl, rfl⟩
 unfold m_product_machine_marked_l1 at hm
 refine ER (L.bi Y R R R R (LN (E.seq ?_)))
 rcases ifS hm with ⟨hc, hm⟩ | ⟨hc, hm⟩
 ·refine E.cT R hc (E.skip (X.seqN (E.seq (E.block (ER (L.mv Y R R ?_))))))
  obtain ⟨x42, ex42, hm⟩ := bindS hm
  refine L.ix (r := (rP (rL qI) (rP qI (rP (rL qI) (rL qT))))) sl37 h1 Y R R ex42 R fun b43 o43 cc43 me43 rd43 => ?_
  obtain ⟨_, _, rfl, ⟨a44, c44, rfl, h44⟩, ⟨_, _, rfl, rfl, ⟨_, _, rfl, ⟨a45, c45, rfl, h45⟩, ⟨a46, c46, rfl, h46⟩⟩⟩⟩ := rd43
  refine L.lg (j := 0) (cs := [.slice a44 x42.1.length c44, .int .i64 x42.2.1, .slice a45 x42.2.2.1.length c45, .slice a46 x42.2.2.2.length c46]) me43 ag30 Y R R R R R (L.al (N + 1) zz30 R Y R fun b47 s48 m49 bx47 => ?_)
  refine L.as Y R R (L.st (c := [.slice a44 x42.1.length c44, .int .i64 x42.2.1, .slice a45 x42.2.2.1.length c45, .slice a46 x42.2.2.2.length c46]) (cs' := #[.slice a44 x42.1.length c44, .int .i64 x42.2.1, .slice a45 x42.2.2.1.length c45, .slice a46 x42.2.2.2.length c46]) bx47 ag30.sz Y R R R R R (nb R) R fun s50 m51 bx47 => ?_)
  replace m0 := (m0.trans m49.no).trans (m51.one up)
  replace h4 := (h4.mono m49.z).mono (m51.le (tg0 hN))
  replace h1 := (h1.mono m49.z).mono (m51.le (tg0 hN))
  replace h45 := (h45.mono m49.z).mono (m51.le (tg0 hN))
  refine LN (E.seq ?_)
  obtain ⟨x57, ex57, hm⟩ := bindS hm
  obtain ⟨r61, er61, hm⟩ := bindS hm
  refine E.draw [[], [0], [], [], [2, 3], [2, 3, 4], [0, 1, 2, 3, 4, 5], [0, 1, 2, 3, 4, 5, 6]] (fun D e sx => Mv No s50 sx ∧ Sub [(5, .int .i64 st34), (6, .pointer (some ⟨b47, 0, none⟩)), (10, .int .i64 st34), (9, .int .i64 (p0.1.length : Int)), (8, .slice a1 p0.1.length c1), (1, .slice a4 p1.length c4)] e ∧ AllP [G D e 0 15 (.pointer (some ⟨b47, 2, none⟩)), G D e 1 16 (.slice a45 x42.2.2.1.length c45), G D e 2 17 (.slice a4 p1.length c4), G D e 3 18 (.int .i64 st34), D 4 = true → (∃ (b58 : Nat) (o58 : Nat), Env.get e 19 = some (.pointer (some ⟨b58, o58, none⟩)) ∧ Mem sx 0 b58 o58 [.int .i64 x57]), G D e 5 20 (.int .i64 x57), G D e 6 21 (.bool r61), G D e 7 22 (.bool (!r61))]) (by kernel_rfl) (by kernel_rfl) (by kernel_rfl) ?_ ?_ ?_
  ·intro sz mz
   exact ⟨mz, (Sub.rf R), nofun, nofun, nofun, nofun, nofun, nofun, nofun, nofun, trivial⟩
  ·refine ⟨?_, ?_, ?_, ?_, ?_, ?_, ?_, ?_, trivial⟩
   ·rintro D e s52 ⟨im, ib, i⟩ hk hf ha
    have kn := K1 (ib 6 _ R)
    exact kn.g (L.fa fa30_2 Y R R (L.nil (X.dk kn ⟨im, Sub.fresh ib R, i.u 0 (fun _ => R)⟩)))
   ·rintro D e s53 ⟨im, ib, i⟩ hk hf ha
    have bx47 := bx47.mv im no_No
    have kn := K1 ((i.p 0) (ha.at 0 R))
    exact kn.g (L.ld (j := 2) bx47.mem nag27 Y R R R R (L.nil (X.dk kn ⟨im, Sub.fresh ib R, i.u 1 (fun _ => R)⟩)))
   ·rintro D e s54 ⟨im, ib, i⟩ hk hf ha
    have kn := K1 (ib 1 _ R)
    exact kn.g (L.mv Y R R (L.nil (X.dk kn ⟨im, Sub.fresh ib R, i.u 2 (fun _ => R)⟩)))
   ·rintro D e s55 ⟨im, ib, i⟩ hk hf ha
    have kn := K1 (ib 5 _ R)
    exact kn.g (L.mv Y R R (L.nil (X.dk kn ⟨im, Sub.fresh ib R, i.u 3 (fun _ => R)⟩)))
   ·rintro D e s56 ⟨im, ib, i⟩ hk hf ha
    have h4 := h4.mono im.z
    have kn := K2 ((i.p 2) (ha.at 2 R)) ((i.p 3) (ha.at 3 R))
    refine kn.g (L.ix (r := qI) sl27 h4 Y R R ex57 R fun b58 o58 cc58 me58 rd58 => ?_)
    obtain rfl := rd58
    exact L.nil (X.dk kn ⟨im, Sub.fresh ib R, i.u 4 (fun _ => ⟨b58, o58, R, me58⟩)⟩)
   ·rintro D e s59 ⟨im, ib, i⟩ hk hf ha
    obtain ⟨b58, o58, g4_, me58⟩ := (i.p 4) (ha.at 4 R)
    have kn := K1 g4_
    exact kn.g (L.ld (j := 0) me58 nag3 Y R R R R (L.nil (X.dk kn ⟨im, Sub.fresh ib R, i.u 5 (fun _ => R)⟩)))
   ·rintro D e s60 ⟨im, ib, i⟩ hk hf ha
    have h45 := h45.mono im.z
    have kn := K2 ((i.p 1) (ha.at 1 R)) ((i.p 5) (ha.at 5 R))
    refine kn.g (L.ca cf86 R R Y R (m_alphabet_Contains_c (s := s60) (p0 := x42.2.2.1) (p1 := x57) h45 er61) R ?_)
    rintro _ s62 m63 rfl
    exact L.nil (X.dk kn ⟨im.trans m63.no, Sub.fresh ib R, (i.u 4 (fun z => let ⟨b58, o58, q, me58⟩ := (i.p 4) z; ⟨b58, o58, q, (me58.mv m63 no_No)⟩)).u 6 (fun _ => R)⟩)
   rintro D e s64 ⟨im, ib, i⟩ hk hf ha
   have kn := K1 ((i.p 6) (ha.at 6 R))
   exact kn.g (L.not Y R R (L.nil (X.dk kn ⟨im, Sub.fresh ib R, i.u 7 (fun _ => R)⟩)))
  rintro D e s65 hD ⟨im, ib, i⟩
  have g7_ := (i.p 7) (hD 7 R)
  have h1 := h1.mono im.z
  have h4 := h4.mono im.z
  have m0 := m0.trans im.no
  refine X.sub (e' := [(22, .bool (!r61)), (10, .int .i64 st34), (9, .int .i64 (p0.1.length : Int)), (8, .slice a1 p0.1.length c1), (1, .slice a4 p1.length c4)]) ?_ (Sub.cons g7_ (Sub.cons (ib 10 _ R) (Sub.cons (ib 9 _ R) (Sub.cons (ib 8 _ R) (Sub.cons (ib 1 _ R) Sub.nil)))))
  refine X.seqN ?_
  rcases ifS hm with ⟨hc, hm⟩ | ⟨hc, hm⟩
  ·refine E.cT R hc (ER (L.as Y R R (LN (E.ret (X.blkR (X.seqR (X.seqR ?_)))))))
   have hx := ho34 _ (oi hm).symm
   exact X.sub (K41 _ _ ⟨s65, (), hx.symm, m0, R, R⟩) (Sub.rf R)
  exact E.cF R hc (E.skip (X.blkN (X.seqN (E.reg (L.bi Y R R R R (L.mv Y R R (L.nil (X.sub (ih34 _ (oi hm).symm _ _ ⟨s65, m0, h1, h4, R, R⟩) (Sub.rf R)))))))))
 refine E.cF R hc (E.exit (X.seqX (X.seqX ?_)))
 have hx := ho34 _ (oi hm).symm
 exact X.sub (K38 _ _ ⟨s35, (), hx.symm, m0, R, R⟩) Sub.nil

theorem nag119 : NAg Tryz.prog 119 := NAg.mk' Tryz.underlying119 rfl (by kernel_rfl)
theorem sl80 : Sl Tryz.prog 80 119 1 := Sl.mk' Tryz.underlying80 (by kernel_rfl)
noncomputable def m_product_machine_step_j1 (st62 : Int × List Int) (l71 : List Int) : Option ((Int × List Int) ⊕ ((List Int) ⊕ Unit)) :=
 some (.inl (W (st62.1 + 1), l71))
noncomputable def m_product_machine_step_l1 (p0 : (List AutT) × List Int × (List (List ((Int × Int) × Int)))) (p1 : List Int) (p2 : Int) (st62 : Int × List Int) : Option ((Int × List Int) ⊕ ((List Int) ⊕ Unit)) :=
 if decide (st62.1 < (p0.1.length : Int)) then
  (idx p0.1 st62.1).bind fun x74 =>
  (m_alphabet_Contains x74.1 p2).bind fun r84 =>
  if (!r84) then
   m_product_machine_step_j1 st62 st62.2
  else
   (idx p0.2.2 st62.1).bind fun x91 =>
   (idx p1 st62.1).bind fun x99 =>
   if (!((kget x91 (x99, p2)).isSome)) then
    some (.inr (.inr (())))
   else
    (idx st62.2 st62.1).bind fun x111 =>
    (upd st62.2 st62.1 ((kget x91 (x99, p2)).getD 0)).bind fun x113 =>
    m_product_machine_step_j1 st62 x113
 else
  some (.inr (.inl st62.2))
noncomputable def m_product_machine_step (p0 : (List AutT) × List Int × (List (List ((Int × Int) × Int)))) (p1 : List Int) (p2 : Int) : Option (List Int × Bool) :=
 (m_slices_Clone_int p1).bind fun r9 =>
 (iter (m_product_machine_step_l1 p0 p1 p2) (0, r9)).bind fun o62 =>
 match o62 with
 | .inl u65 =>
  some (u65, true)
 | .inr (u68) =>
  some (([] : List Int), false)
theorem m_product_machine_step_c {s : Sig} {p0 : (List AutT) × List Int × (List (List ((Int × Int) × Int)))} {p1 : List Int} {p2 : Int} {a1 : Option Addr} {c1 : Nat} {a2 : Option Addr} {c2 : Nat} {a3 : Option Addr} {c3 : Nat} {a4 : Option Addr} {c4 : Nat} {u0 : Nat} {r : List Int × Bool} (h1 : RdL (rP (rL qI) (rP qI (rP (rL qI) (rL qT)))) s a1 c1 p0.1) (h2 : RdL qI s a2 c2 p0.2.1) (h3 : RdL (rM kvP qI) s a3 c3 p0.2.2) (h4 : RdL qI s a4 c4 p1) (hm : m_product_machine_step p0 p1 p2 = some r) :
    Calls Tryz.prog 52 #[.agg #[.slice a1 p0.1.length c1, .slice a2 p0.2.1.length c2, .slice a3 p0.2.2.length c3], .slice a4 p1.length c4, .int .i64 p2] s.w (RetS No s fun v s' => ∃ (a5 : Option Addr) (c5 : Nat), v = .tuple #[.slice a5 r.1.length c5, .bool r.2] ∧ RowT qI s' u0 3 a5 c5 r.1) := by
 unfold m_product_machine_step at hm
 obtain ⟨N, hN, hNb⟩ := s.fresh
 have m0 : Mv (Up N No) s s := Mv.refl _ _
 refine E.entry Tryz.func52 R Tryz.ntmps52 R R (ER (L.box (N + 0) Y R R R fun b6 s7 m8 bx6 => ?_))
 replace h4 := h4.mono m8.z
 refine L.as Y R R (L.as Y R R (LN (ER (L.mv Y R R ?_))))
 obtain ⟨r9, er9, hm⟩ := bindS hm
 refine L.ca cf63 R R Y R (m_slices_Clone_int_c (s := s7) (p0 := p1) (u0 := (N + 2)) h4 er9) R ?_
 rintro _ s10 m11 ⟨a12, c12, rfl, h12⟩
 replace m0 := (m0.trans m8.no).trans m11.no
 replace h4 := h4.mono m11.z
 replace bx6 := bx6.mv m11 no_No
 replace h1 := (h1.mono m8.z).mono m11.z
 replace h2 := (h2.mono m8.z).mono m11.z
 replace h3 := (h3.mono m8.z).mono m11.z
 refine L.as Y R R (LN (E.seq (ER (L.fa fa82_0 Y R R (L.ld (j := 0) bx6.mem nag37 Y R R R R (L.len sl37 Y R R (L.mv Y R R (LN (E.block ?_)))))))))
 obtain ⟨o62, eo62, hm⟩ := bindS hm
 refine E.cut (x := .exit 0) (fun e w => ∃ (s66 : Sig) (u65 : List Int), o62 = .inl u65 ∧ Mv (Up N No) s s66 ∧ RowT qI s66 (N + 2) 3 a12 c12 u65 ∧ e = [(8, .slice a12 u65.length c12)] ∧ w = s66.w) ?_ ?_
 ·rintro _ _ ⟨s66, u65, rfl, m0, h12, rfl, rfl⟩
  dsimp only at hm
  refine X.blkE (X.seqN (ER (L.mv Y R R (L.as Y R R (L.as Y R R (LN (E.ret ?_)))))))
  obtain rfl := oi hm
  exact X.rt (.inl R) Tryz.results52 (Rs.tmp R (Rs.tmp R Rs.nil)) R ⟨_, (s66).ren N (fun k => cond (Nat.beq k 2) u0 (0)), R, R, m0.ren hNb, ⟨a12, c12, R, (h12.ren hN)⟩⟩
 intro K67
 refine E.cut (x := .ret) (fun e w => ∃ (s69 : Sig) (u68 : Unit), o62 = .inr (u68) ∧ Mv (Up N No) s s69 ∧ e = [(7, .bool false), (6, .slice none 0 0)] ∧ w = s69.w) ?_ ?_
 ·rintro _ _ ⟨s69, u68, rfl, m0, rfl, rfl⟩
  dsimp only at hm
  refine X.blkR (X.seqR ?_)
  obtain rfl := oi hm
  exact X.rt (.inl R) Tryz.results52 (Rs.tmp R (Rs.tmp R Rs.nil)) R ⟨_, (s69).ren N (fun _ => 0), R, R, m0.ren hNb, ⟨none, 0, R, RowT.nil⟩⟩
 intro K70
 refine E.iter (fun (st62 : Int × List Int) (e : List (Nat × Value)) (w : World) => ∃ (s64 : Sig), Mv (Up N No) s s64 ∧ RdL (rP (rL qI) (rP qI (rP (rL qI) (rL qT)))) s64 a1 c1 p0.1 ∧ RowT qI s64 (N + 2) 3 a12 c12 st62.2 ∧ RdL qI s64 a4 c4 p1 ∧ RdL qI s64 a2 c2 p0.2.1 ∧ RdL (rM kvP qI) s64 a3 c3 p0.2.2 ∧ Bx s64 (N + 0) b6 #[.slice a1 p0.1.length c1, .slice a2 p0.2.1.length c2, .slice a3 p0.2.2.length c3] 82 ∧ e = [(18, .int .i64 st62.1), (17, .int .i64 (p0.1.length : Int)), (16, .slice a1 p0.1.length c1), (8, .slice a12 st62.2.length c12), (3, .pointer (some ⟨b6, 0, none⟩)), (1, .slice a4 p1.length c4), (2, .int .i64 p2)] ∧ w = s64.w) eo62 ⟨s10, m0, h1, h12, h4, h2, h3, bx6, R, R⟩ (Sub.rf R) ?_
 rintro st62 res62 hm ih62 ho62 _ _ ⟨s64, m0, h1, h12, h4, h2, h3, bx6, rfl, rfl⟩
 unfold m_product_machine_step_l1 at hm
 refine ER (L.bi Y R R R R (LN (E.seq ?_)))
 rcases ifS hm with ⟨hc, hm⟩ | ⟨hc, hm⟩
 ·refine E.cT R hc (E.skip (X.seqN (E.seqJ (fun e w => ∃ (s72 : Sig) (l71 : List Int), m_product_machine_step_j1 st62 l71 = some res62 ∧ Mv (Up N No) s s72 ∧ RdL (rP (rL qI) (rP qI (rP (rL qI) (rL qT)))) s72 a1 c1 p0.1 ∧ RowT qI s72 (N + 2) 3 a12 c12 l71 ∧ RdL qI s72 a4 c4 p1 ∧ RdL qI s72 a2 c2 p0.2.1 ∧ RdL (rM kvP qI) s72 a3 c3 p0.2.2 ∧ Bx s72 (N + 0) b6 #[.slice a1 p0.1.length c1, .slice a2 p0.2.1.length c2, .slice a3 p0.2.2.length c3] 82 ∧ e = [(18, .int .i64 st62.1), (17, .int .i64 (p0.1.length : Int)), (16, .slice a1 p0.1.length c1), (8, .slice a12 l71.length c12), (3, .pointer (some ⟨b6, 0, none⟩)), (1, .slice a4 p1.length c4), (2, .int .i64 p2)] ∧ w = s72.w) ?_ ?_)))
  ·rintro _ _ ⟨s72, l71, hm, m0, h1, h12, h4, h2, h3, bx6, rfl, rfl⟩
   unfold m_product_machine_step_j1 at hm
   exact E.reg (L.bi Y R R R R (L.mv Y R R (L.nil (X.sub (ih62 _ (oi hm).symm _ _ ⟨s72, m0, h1, h12, h4, h2, h3, bx6, R, R⟩) (Sub.rf R)))))
  intro Jj73
  refine E.block (ER (L.mv Y R R ?_))
  obtain ⟨x74, ex74, hm⟩ := bindS hm
  refine L.ix (r := (rP (rL qI) (rP qI (rP (rL qI) (rL qT))))) sl37 h1 Y R R ex74 R fun b75 o75 cc75 me75 rd75 => ?_
  obtain ⟨_, _, rfl, ⟨a76, c76, rfl, h76⟩, ⟨_, _, rfl, rfl, ⟨_, _, rfl, ⟨a77, c77, rfl, h77⟩, ⟨a78, c78, rfl, h78⟩⟩⟩⟩ := rd75
  refine L.lg (j := 0) (cs := [.slice a76 x74.1.length c76, .int .i64 x74.2.1, .slice a77 x74.2.2.1.length c77, .slice a78 x74.2.2.2.length c78]) me75 ag30 Y R R R R R (L.al (N + 1) zz30 R Y R fun b79 s80 m81 bx79 => ?_)
  refine L.as Y R R (L.st (c := [.slice a76 x74.1.length c76, .int .i64 x74.2.1, .slice a77 x74.2.2.1.length c77, .slice a78 x74.2.2.2.length c78]) (cs' := #[.slice a76 x74.1.length c76, .int .i64 x74.2.1, .slice a77 x74.2.2.1.length c77, .slice a78 x74.2.2.2.length c78]) bx79 ag30.sz Y R R R R R (nb R) R fun s82 m83 bx79 => ?_)
  replace h76 := (h76.mono m81.z).mono (m83.le (tg0 hN))
  refine LN (E.seq (ER (L.fa fa30_0 Y R R (L.ld (j := 0) bx79.mem nag27 Y R R R R (L.mv Y R R ?_)))))
  obtain ⟨r84, er84, hm⟩ := bindS hm
  refine L.ca cf86 R R Y R (m_alphabet_Contains_c (s := s82) (p0 := x74.1) (p1 := p2) h76 er84) R ?_
  rintro _ s85 m86 rfl
  replace m0 := ((m0.trans m81.no).trans (m83.one up)).trans m86.no
  replace h4 := ((h4.mono m81.z).mono (m83.le (tg0 hN))).mono m86.z
  replace h12 := ((h12.mv m81 no_No no_No).mv m83 (tq R) (tg0 hN)).mv m86 no_No no_No
  replace h1 := ((h1.mono m81.z).mono (m83.le (tg0 hN))).mono m86.z
  replace bx6 := ((bx6.mv m81 no_No).mv m83 (tq R)).mv m86 no_No
  replace h2 := ((h2.mono m81.z).mono (m83.le (tg0 hN))).mono m86.z
  replace h3 := ((h3.mono m81.z).mono (m83.le (tg0 hN))).mono m86.z
  refine L.not Y R R (L.nil (X.seqN ?_))
  rcases ifS hm with ⟨hc, hm⟩ | ⟨hc, hm⟩
  ·exact E.cT R hc (E.exit (X.seqX (X.blkE (X.sub (Jj73 _ _ ⟨s85, st62.2, hm, m0, h1, h12, h4, h2, h3, bx6, R, R⟩) (Sub.rf R)))))
  refine E.cF R hc (E.skip (X.seqN (E.seq ?_)))
  obtain ⟨x91, ex91, hm⟩ := bindS hm
  obtain ⟨x99, ex99, hm⟩ := bindS hm
  refine E.draw [[], [0], [], [0, 1, 2], [0, 1, 2, 3], [], [], [5, 6], [5, 6, 7], [], [5, 6, 7, 8, 9], [0, 1, 2, 3, 4, 5, 6, 7, 8, 9, 10], [0, 1, 2, 3, 4, 5, 6, 7, 8, 9, 10, 11], [0, 1, 2, 3, 4, 5, 6, 7, 8, 9, 10, 11, 12], [0, 1, 2, 3, 4, 5, 6, 7, 8, 9, 10, 11, 12], [0, 1, 2, 3, 4, 5, 6, 7, 8, 9, 10, 11, 12, 13], [0, 1, 2, 3, 4, 5, 6, 7, 8, 9, 10, 11, 12, 13, 14, 15]] (fun D e sx => Mv No s85 sx ∧ Sub [(9, .int .i64 st62.1), (18, .int .i64 st62.1), (17, .int .i64 (p0.1.length : Int)), (16, .slice a1 p0.1.length c1), (8, .slice a12 st62.2.length c12), (3, .pointer (some ⟨b6, 0, none⟩)), (1, .slice a4 p1.length c4), (2, .int .i64 p2)] e ∧ AllP [G D e 0 29 (.pointer (some ⟨b6, 2, none⟩)), G D e 1 30 (.slice a3 p0.2.2.length c3), G D e 2 31 (.int .i64 st62.1), D 3 = true → (∃ (b92 : Nat) (o92 : Nat) (y93 : Option Nat) (c93 : Nat), Env.get e 32 = some (.pointer (some ⟨b92, o92, none⟩)) ∧ Mem sx 0 b92 o92 [.map y93] ∧ MapD kvP qI sx y93 c93 x91), D 4 = true → (∃ (y95 : Option Nat) (c95 : Nat), Env.get e 33 = some (.map y95) ∧ MapD kvP qI sx y95 c95 x91), G D e 5 34 (.slice a4 p1.length c4), G D e 6 35 (.int .i64 st62.1), D 7 = true → (∃ (b100 : Nat) (o100 : Nat), Env.get e 36 = some (.pointer (some ⟨b100, o100, none⟩)) ∧ Mem sx 0 b100 o100 [.int .i64 x99]), G D e 8 37 (.int .i64 x99), G D e 9 38 (.int .i64 p2), G D e 10 39 (.agg #[.int .i64 x99, .int .i64 p2]), G D e 11 40 (.tuple #[.int .i64 ((kget x91 (x99, p2)).getD 0), .bool ((kget x91 (x99, p2)).isSome)]), G D e 12 28 (.tuple #[.int .i64 ((kget x91 (x99, p2)).getD 0), .bool ((kget x91 (x99, p2)).isSome)]), G D e 13 41 (.int .i64 ((kget x91 (x99, p2)).getD 0)), G D e 14 42 (.bool ((kget x91 (x99, p2)).isSome)), G D e 15 11 (.int .i64 ((kget x91 (x99, p2)).getD 0)), G D e 16 12 (.bool ((kget x91 (x99, p2)).isSome))]) (by kernel_rfl) (by kernel_rfl) (by kernel_rfl) ?_ ?_ ?_
  ·intro sz mz
   exact ⟨mz, (Sub.rf R), nofun, nofun, nofun, nofun, nofun, nofun, nofun, nofun, nofun, nofun, nofun, nofun, nofun, nofun, nofun, nofun, nofun, trivial⟩
  ·refine ⟨?_, ?_, ?_, ?_, ?_, ?_, ?_, ?_, ?_, ?_, ?_, ?_, ?_, ?_, ?_, ?_, ?_, trivial⟩
   ·rintro D e s87 ⟨im, ib, i⟩ hk hf ha
    have kn := K1 (ib 3 _ R)
    exact kn.g (L.fa fa82_2 Y R R (L.nil (X.dk kn ⟨im, Sub.fresh ib R, i.u 0 (fun _ => R)⟩)))
   ·rintro D e s88 ⟨im, ib, i⟩ hk hf ha
    have bx6 := bx6.mv im no_No
    have kn := K1 ((i.p 0) (ha.at 0 R))
    exact kn.g (L.ld (j := 2) bx6.mem nag80 Y R R R R (L.nil (X.dk kn ⟨im, Sub.fresh ib R, i.u 1 (fun _ => R)⟩)))
   ·rintro D e s89 ⟨im, ib, i⟩ hk hf ha
    have kn := K1 (ib 9 _ R)
    exact kn.g (L.mv Y R R (L.nil (X.dk kn ⟨im, Sub.fresh ib R, i.u 2 (fun _ => R)⟩)))
   ·rintro D e s90 ⟨im, ib, i⟩ hk hf ha
    have h3 := h3.mono im.z
    have kn := K2 ((i.p 1) (ha.at 1 R)) ((i.p 2) (ha.at 2 R))
    refine kn.g (L.ix (r := (rM kvP qI)) sl80 h3 Y R R ex91 R fun b92 o92 cc92 me92 rd92 => ?_)
    obtain ⟨y93, c93, rfl, h93⟩ := rd92
    exact L.nil (X.dk kn ⟨im, Sub.fresh ib R, i.u 3 (fun _ => ⟨b92, o92, y93, c93, R, me92, h93⟩)⟩)
   ·rintro D e s94 ⟨im, ib, i⟩ hk hf ha
    obtain ⟨b92, o92, y93, c93, g3_, me92, h93⟩ := (i.p 3) (ha.at 3 R)
    have kn := K1 g3_
    refine kn.g (L.ld (j := 0) me92 nag119 Y R R R R ?_)
    obtain ⟨y95, c95, ea95, ec95, h95⟩ : ∃ a c, a = y93 ∧ c = c93 ∧ MapD kvP qI s94 a c x91 := ⟨_, _, rfl, rfl, h93⟩
    subst ea95 ec95
    exact L.nil (X.dk kn ⟨im, Sub.fresh ib R, i.u 4 (fun _ => ⟨y95, c95, R, h95⟩)⟩)
   ·rintro D e s96 ⟨im, ib, i⟩ hk hf ha
    have kn := K1 (ib 1 _ R)
    exact kn.g (L.mv Y R R (L.nil (X.dk kn ⟨im, Sub.fresh ib R, i.u 5 (fun _ => R)⟩)))
   ·rintro D e s97 ⟨im, ib, i⟩ hk hf ha
    have kn := K1 (ib 9 _ R)
    exact kn.g (L.mv Y R R (L.nil (X.dk kn ⟨im, Sub.fresh ib R, i.u 6 (fun _ => R)⟩)))
   ·rintro D e s98 ⟨im, ib, i⟩ hk hf ha
    have h4 := h4.mono im.z
    have kn := K2 ((i.p 5) (ha.at 5 R)) ((i.p 6) (ha.at 6 R))
    refine kn.g (L.ix (r := qI) sl27 h4 Y R R ex99 R fun b100 o100 cc100 me100 rd100 => ?_)
    obtain rfl := rd100
    exact L.nil (X.dk kn ⟨im, Sub.fresh ib R, i.u 7 (fun _ => ⟨b100, o100, R, me100⟩)⟩)
   ·rintro D e s101 ⟨im, ib, i⟩ hk hf ha
    obtain ⟨b100, o100, g7_, me100⟩ := (i.p 7) (ha.at 7 R)
    have kn := K1 g7_
    exact kn.g (L.ld (j := 0) me100 nag3 Y R R R R (L.nil (X.dk kn ⟨im, Sub.fresh ib R, i.u 8 (fun _ => R)⟩)))
   ·rintro D e s102 ⟨im, ib, i⟩ hk hf ha
    have kn := K1 (ib 2 _ R)
    exact kn.g (L.mv Y R R (L.nil (X.dk kn ⟨im, Sub.fresh ib R, i.u 9 (fun _ => R)⟩)))
   ·rintro D e s103 ⟨im, ib, i⟩ hk hf ha
    have kn := K2 ((i.p 8) (ha.at 8 R)) ((i.p 9) (ha.at 9 R))
    exact kn.g (L.bu (cs := [.int .i64 x99, .int .i64 p2]) pl120 Y R R R (L.nil (X.dk kn ⟨im, Sub.fresh ib R, i.u 10 (fun _ => R)⟩)))
   ·rintro D e s104 ⟨im, ib, i⟩ hk hf ha
    obtain ⟨y95, c95, g4_, h95⟩ := (i.p 4) (ha.at 4 R)
    have kn := K2 g4_ ((i.p 10) (ha.at 10 R))
    exact kn.g (L.mi2 (k := (x99, p2)) md119 h95.any Y R R R (L.nil (X.dk kn ⟨im, Sub.fresh ib R, i.u 11 (fun _ => R)⟩)))
   ·rintro D e s105 ⟨im, ib, i⟩ hk hf ha
    have kn := K1 ((i.p 11) (ha.at 11 R))
    exact kn.g (L.mv Y R R (L.nil (X.dk kn ⟨im, Sub.fresh ib R, i.u 12 (fun _ => R)⟩)))
   ·rintro D e s106 ⟨im, ib, i⟩ hk hf ha
    have kn := K1 ((i.p 12) (ha.at 12 R))
    exact kn.g (L.ex Y R R R (L.nil (X.dk kn ⟨im, Sub.fresh ib R, i.u 13 (fun _ => R)⟩)))
   ·rintro D e s107 ⟨im, ib, i⟩ hk hf ha
    have kn := K1 ((i.p 12) (ha.at 12 R))
    exact kn.g (L.ex Y R R R (L.nil (X.dk kn ⟨im, Sub.fresh ib R, i.u 14 (fun _ => R)⟩)))
   ·rintro D e s108 ⟨im, ib, i⟩ hk hf ha
    have kn := K1 ((i.p 13) (ha.at 13 R))
    exact kn.g (L.as Y R R (L.nil (X.dk kn ⟨im, Sub.fresh ib R, i.u 15 (fun _ => R)⟩)))
   rintro D e s109 ⟨im, ib, i⟩ hk hf ha
   have kn := K1 ((i.p 14) (ha.at 14 R))
   exact kn.g (L.as Y R R (L.nil (X.dk kn ⟨im, Sub.fresh ib R, i.u 16 (fun _ => R)⟩)))
  rintro D e s110 hD ⟨im, ib, i⟩
  have g15_ := (i.p 15) (hD 15 R)
  have g16_ := (i.p 16) (hD 16 R)
  have h1 := h1.mono im.z
  have h12 := h12.mv im no_No no_No
  have bx6 := bx6.mv im no_No
  have h2 := h2.mono im.z
  have h3 := h3.mono im.z
  have h4 := h4.mono im.z
  have m0 := m0.trans im.no
  refine X.sub (e' := [(12, .bool ((kget x91 (x99, p2)).isSome)), (11, .int .i64 ((kget x91 (x99, p2)).getD 0)), (9, .int .i64 st62.1), (18, .int .i64 st62.1), (17, .int .i64 (p0.1.length : Int)), (16, .slice a1 p0.1.length c1), (8, .slice a12 st62.2.length c12), (3, .pointer (some ⟨b6, 0, none⟩)), (1, .slice a4 p1.length c4), (2, .int .i64 p2)]) ?_ (Sub.cons g16_ (Sub.cons g15_ (Sub.cons (ib 9 _ R) (Sub.cons (ib 18 _ R) (Sub.cons (ib 17 _ R) (Sub.cons (ib 16 _ R) (Sub.cons (ib 8 _ R) (Sub.cons (ib 3 _ R) (Sub.cons (ib 1 _ R) (Sub.cons (ib 2 _ R) Sub.nil))))))))))
  refine X.seqN (E.seq (ER (L.mv Y R R (L.not Y R R (L.nil (X.seqN ?_))))))
  rcases ifS hm with ⟨hc, hm⟩ | ⟨hc, hm⟩
  ·refine E.cT R hc (ER (L.as Y R R (L.as Y R R (LN (E.ret (X.seqR (X.blkR (X.seqR (X.seqR ?_)))))))))
   have hx := ho62 _ (oi hm).symm
   exact X.sub (K70 _ _ ⟨s110, (), hx.symm, m0, R, R⟩) (Sub.rf R)
  refine E.cF R hc (E.skip (X.seqN (E.reg (L.mv Y R R (L.mv Y R R (L.mv Y R R ?_))))))
  obtain ⟨x111, ex111, hm⟩ := bindS hm
  refine L.ir (r := qI) sl27 h12 Y R R ex111 R fun b112 o112 cc112 me112 rd112 sp112 => ?_
  obtain rfl := rd112
  obtain ⟨x113, ex113, hm⟩ := bindS hm
  have elx113 := upd_len ex113
  refine L.su (fo := 0) (c := [.int .i64 ((kget x91 (x99, p2)).getD 0)]) (z := ((kget x91 (x99, p2)).getD 0)) h12 sp112 ex111 ex113 (tgp hN) nag3.sz Y R R R R R R (fun c0 hc0 => by obtain rfl := hc0; exact R) fun s114 m115 h12 => ?_
  replace m0 := m0.trans (m115.one up)
  replace h1 := h1.mono (m115.le (tg0 hN))
  replace h4 := h4.mono (m115.le (tg0 hN))
  replace bx6 := bx6.mv m115 (tq R)
  replace h2 := h2.mono (m115.le (tg0 hN))
  replace h3 := h3.mono (m115.le (tg0 hN))
  exact L.reval (d := 8) R elx113 (L.nil (X.blkN (X.sub (Jj73 _ _ ⟨s114, x113, hm, m0, h1, h12, h4, h2, h3, bx6, R, R⟩) (Sub.rf R))))
 refine E.cF R hc (E.exit (X.seqX (X.seqX ?_)))
 have hx := ho62 _ (oi hm).symm
 exact X.sub (K67 _ _ ⟨s64, st62.2, hx.symm, m0, h12, R, R⟩) (Sub.rf R)

theorem bs46 : Bs Tryz.prog 46 27 1 [.slice none 0 0] := Bs.mk' Tryz.underlying46 (by kernel_rfl) (by kernel_rfl) rfl
theorem cf47 : Cf Tryz.prog 47 := Cf.mk Tryz.func47 (by kernel_rfl) (by kernel_rfl)
theorem cf48 : Cf Tryz.prog 48 := Cf.mk Tryz.func48 (by kernel_rfl) (by kernel_rfl)
theorem cf49 : Cf Tryz.prog 49 := Cf.mk Tryz.func49 (by kernel_rfl) (by kernel_rfl)
theorem cf50 : Cf Tryz.prog 50 := Cf.mk Tryz.func50 (by kernel_rfl) (by kernel_rfl)
theorem cf51 : Cf Tryz.prog 51 := Cf.mk Tryz.func51 (by kernel_rfl) (by kernel_rfl)
theorem cf52 : Cf Tryz.prog 52 := Cf.mk Tryz.func52 (by kernel_rfl) (by kernel_rfl)
theorem el27 : El Tryz.prog 27 1 24 := El.mk' (z := .slice none 0 0) (by kernel_rfl) (by kernel_rfl) (by kernel_rfl) rfl
theorem fa82_1 : FA Tryz.prog 82 1 1 := FA.mk Tryz.underlying82 rfl rfl ⟨1, by decide, by kernel_rfl⟩
theorem md86 : Md Tryz.prog 86 9 3 kvS qI 0 (.int .i64 0) := Md.mk' Tryz.underlying86 (KE.string Tryz.underlying9) (by kernel_rfl) (fun _ => rfl)
noncomputable def m_product_Synchronous_j2 (st333 : Int × (List (ByteArray × Int)) × List (List Int) × (List (Int × Int × Int))) (l346 : List (ByteArray × Int)) (l347 : List (List Int)) (l349 : List (Int × Int × Int)) : Option ((Int × (List (ByteArray × Int)) × List (List Int) × (List (Int × Int × Int))) ⊕ (((List (ByteArray × Int)) × List (List Int) × (List (Int × Int × Int))) ⊕ Unit)) :=
 some (.inl (W (st333.1 + 1), l346, l347, l349))
noncomputable def m_product_Synchronous_j3 (st237 : Int × (List (ByteArray × Int)) × List (List Int) × List Int × (List (Int × Int × Int))) (st333 : Int × (List (ByteArray × Int)) × List (List Int) × (List (Int × Int × Int))) (x353 : Int) (l379 : List (List Int)) (n381 : Int) (l382 : List (ByteArray × Int)) : Option ((Int × (List (ByteArray × Int)) × List (List Int) × (List (Int × Int × Int))) ⊕ (((List (ByteArray × Int)) × List (List Int) × (List (Int × Int × Int))) ⊕ Unit)) :=
 (app st333.2.2.2 ([(st237.1, x353, n381)] : List (Int × Int × Int))).bind fun x388 =>
 m_product_Synchronous_j2 st333 l382 l379 x388
noncomputable def m_product_Synchronous_l2 (r14 : ((List AutT) × List Int × (List (List ((Int × Int) × Int))))) (st237 : Int × (List (ByteArray × Int)) × List (List Int) × List Int × (List (Int × Int × Int))) (st333 : Int × (List (ByteArray × Int)) × List (List Int) × (List (Int × Int × Int))) : Option ((Int × (List (ByteArray × Int)) × List (List Int) × (List (Int × Int × Int))) ⊕ (((List (ByteArray × Int)) × List (List Int) × (List (Int × Int × Int))) ⊕ Unit)) :=
 if decide (st333.1 < (r14.2.1.length : Int)) then
  (idx r14.2.1 st333.1).bind fun x353 =>
  (idx st333.2.2.1 st237.1).bind fun x359 =>
  (m_product_machine_step r14 x359 x353).bind fun r366 =>
  if (!r366.2) then
   m_product_Synchronous_j2 st333 st333.2.1 st333.2.2.1 st333.2.2.2
  else
   (m_product_key r366.1).bind fun r376 =>
   if (!((kget st333.2.1 r376).isSome)) then
    if ((st333.2.2.1.length : Int) == 4096) then
     some (.inr (.inr (())))
    else
     (m_product_key r366.1).bind fun r396 =>
     (app st333.2.2.1 ([r366.1] : List (List Int))).bind fun x404 =>
     m_product_Synchronous_j3 st237 st333 x353 x404 (st333.2.2.1.length : Int) (kput st333.2.1 r396 (st333.2.2.1.length : Int))
   else
    m_product_Synchronous_j3 st237 st333 x353 st333.2.2.1 ((kget st333.2.1 r376).getD 0) st333.2.1
 else
  some (.inr (.inl st333.2))
noncomputable def m_product_Synchronous_j1 (r14 : ((List AutT) × List Int × (List (List ((Int × Int) × Int))))) (st237 : Int × (List (ByteArray × Int)) × List (List Int) × List Int × (List (Int × Int × Int))) (l255 : List Int) : Option ((Int × (List (ByteArray × Int)) × List (List Int) × List Int × (List (Int × Int × Int))) ⊕ ((List (List Int) × List Int × (List (Int × Int × Int))) ⊕ Unit)) :=
 (iter (m_product_Synchronous_l2 r14 st237) (0, st237.2.1, st237.2.2.1, st237.2.2.2.2)).bind fun o333 =>
 match o333 with
 | .inl u340 =>
  some (.inl (W (st237.1 + 1), u340.1, u340.2.1, l255, u340.2.2))
 | .inr (u343) =>
  some (.inr (.inr (())))
noncomputable def m_product_Synchronous_l1 (r14 : ((List AutT) × List Int × (List (List ((Int × Int) × Int))))) (st237 : Int × (List (ByteArray × Int)) × List (List Int) × List Int × (List (Int × Int × Int))) : Option ((Int × (List (ByteArray × Int)) × List (List Int) × List Int × (List (Int × Int × Int))) ⊕ ((List (List Int) × List Int × (List (Int × Int × Int))) ⊕ Unit)) :=
 if decide (st237.1 < (st237.2.2.1.length : Int)) then
  (idx st237.2.2.1 st237.1).bind fun x412 =>
  (m_product_machine_marked r14 x412).bind fun r418 =>
  if r418 then
   (app st237.2.2.2.1 ([st237.1] : List Int)).bind fun x425 =>
   m_product_Synchronous_j1 r14 st237 x425
  else
   m_product_Synchronous_j1 r14 st237 st237.2.2.2.1
 else
  some (.inr (.inl st237.2.2))
noncomputable def m_product_Synchronous (p0 : List AutT) : Option (AutT × List (List Int) × Int) :=
 (m_product_Check p0).bind fun r9 =>
 if (r9 != 0) then
  some ((([] : List Int), 0, ([] : List Int), ([] : List (Int × Int × Int))), ([] : List (List Int)), r9)
 else
  (m_product_open p0).bind fun r14 =>
  (m_product_machine_initial r14).bind fun r28 =>
  if (!r28.2) then
   some ((r14.2.1, 0, ([] : List Int), ([] : List (Int × Int × Int))), ([] : List (List Int)), 0)
  else
   (m_product_key r28.1).bind fun r40 =>
   (iter (m_product_Synchronous_l1 r14) (0, (kput ([] : List (ByteArray × Int)) r40 0), ([r28.1] : List (List Int)), ([] : List Int), ([] : List (Int × Int × Int)))).bind fun o237 =>
   match o237 with
   | .inl u245 =>
    some ((r14.2.1, (u245.1.length : Int), u245.2), u245.1, 0)
   | .inr (u252) =>
    some ((([] : List Int), 0, ([] : List Int), ([] : List (Int × Int × Int))), ([] : List (List Int)), 3)
theorem m_product_Synchronous_c {s : Sig} {p0 : List AutT} {a1 : Option Addr} {c1 : Nat} {u1 : Nat} {u2 : Nat} {u3 : Nat} {r : AutT × List (List Int) × Int} (h1 : RdL (rP (rL qI) (rP qI (rP (rL qI) (rL qT)))) s a1 c1 p0) (hm : m_product_Synchronous p0 = some r) :
    Calls Tryz.prog 21 #[.slice a1 p0.length c1] s.w (RetS No s fun v s' => ∃ (a2 : Option Addr) (c2 : Nat) (a3 : Option Addr) (c3 : Nat) (a4 : Option Addr) (c4 : Nat) (a5 : Option Addr) (c5 : Nat), v = .tuple #[.agg #[.slice a2 r.1.1.length c2, .int .i64 r.1.2.1, .slice a3 r.1.2.2.1.length c3, .slice a4 r.1.2.2.2.length c4], .slice a5 r.2.1.length c5, .int .i64 r.2.2] ∧ RdL qI s' a2 c2 r.1.1 ∧ RowT qI s' u1 3 a3 c3 r.1.2.2.1 ∧ RowT qT s' u2 62 a4 c4 r.1.2.2.2 ∧ RowT (rL qI) s' u3 27 a5 c5 r.2.1) := by
 unfold m_product_Synchronous at hm
 obtain ⟨N, hN, hNb⟩ := s.fresh
 have m0 : Mv (Up N No) s s := Mv.refl _ _
 refine E.entry Tryz.func21 R Tryz.ntmps21 R R (ER (L.al (N + 0) zz30 R Y R fun b6 s7 m8 bx6 => ?_))
 replace h1 := h1.mono m8.z
 refine L.as Y R R (L.as Y R R (LN (E.seq (ER (L.mv Y R R ?_)))))
 obtain ⟨r9, er9, hm⟩ := bindS hm
 refine L.ca cf47 R R Y R (m_product_Check_c (s := s7) (p0 := p0) h1 er9) R ?_
 rintro _ s10 m11 rfl
 replace m0 := (m0.trans m8.no).trans m11.no
 replace h1 := h1.mono m11.z
 replace bx6 := bx6.mv m11 no_No
 refine L.as Y R R (LN (ER (L.mv Y R R (L.bi Y R R R R (L.nil (X.seqN ?_))))))
 rcases ifS hm with ⟨hc, hm⟩ | ⟨hc, hm⟩
 ·refine E.cT R hc (ER (L.bu (cs := [.slice none 0 0, .int .i64 0, .slice none 0 0, .slice none 0 0]) pl30 Y R R R (L.mv Y R R (L.st (c := [.slice none 0 0, .int .i64 0, .slice none 0 0, .slice none 0 0]) (cs' := #[.slice none 0 0, .int .i64 0, .slice none 0 0, .slice none 0 0]) bx6 ag30.sz Y R R R R R (nb R) R fun s12 m13 bx6 => ?_))))
  replace m0 := m0.trans (m13.one up)
  refine L.as Y R R (L.as Y R R (LN (E.ret (X.seqR ?_))))
  obtain rfl := oi hm
  exact X.rt (.inl R) Tryz.results21 (Rs.cell R bx6 ag30 R (Rs.tmp R (Rs.tmp R Rs.nil))) R ⟨_, (s12).ren N (fun _ => 0), R, R, m0.ren hNb, ⟨none, 0, none, 0, none, 0, none, 0, R, RdL.nil, RowT.nil, RowT.nil, RowT.nil⟩⟩
 refine E.cF R hc (E.skip (X.seqN (ER (L.mv Y R R ?_))))
 obtain ⟨r14, er14, hm⟩ := bindS hm
 refine L.ca cf48 R R Y R (m_product_open_c (s := s10) (p0 := p0) (u1 := (N + 2)) (u2 := 0) h1 er14) R ?_
 rintro _ s15 m16 ⟨a17, c17, a18, c18, a19, c19, rfl, h17, h18, h19⟩
 refine L.al (N + 1) zz82 R Y R fun b20 s21 m22 bx20 => ?_
 refine L.st (c := [.slice a17 r14.1.length c17, .slice a18 r14.2.1.length c18, .slice a19 r14.2.2.length c19]) (cs' := #[.slice a17 r14.1.length c17, .slice a18 r14.2.1.length c18, .slice a19 r14.2.2.length c19]) bx20 ag82.sz Y R R R R R (nb R) R fun s23 m24 bx20 => ?_
 replace bx6 := ((bx6.mv m16 no_No).mv m22 no_No).mv m24 (tq R)
 refine LN (ER (L.fa fa82_1 Y R R (L.ld (j := 1) bx20.mem nag27 Y R R R R (L.fa fa30_0 Y R R (L.st (c := [.slice a18 r14.2.1.length c18]) (cs' := #[.slice a18 r14.2.1.length c18, .int .i64 0, .slice none 0 0, .slice none 0 0]) bx6 nag27.sz Y R R R R R (nb R) R fun s25 m26 bx6 => ?_)))))
 replace bx20 := bx20.mv m26 (tq R)
 refine LN (ER (L.lg (j := 0) (cs := [.slice a17 r14.1.length c17, .slice a18 r14.2.1.length c18, .slice a19 r14.2.2.length c19]) bx20.mem ag82 Y R R R R R ?_))
 have m27 := Sig.fz_mv (N + 2) s25
 replace h18 := (((h18.mv m22 no_No no_No).mv m24 (tq R) (tg0 hN)).mv m26 (tq R) (tg0 hN)).fz (tgn hN)
 replace h17 := (((h17.mono m22.z).mono (m24.le (tg0 hN))).mono (m26.le (tg0 hN))).mono (m27.le (tg0 hN))
 replace h19 := ((((h19.p).mono m22.z).mono (m24.le (tg0 hN))).mono (m26.le (tg0 hN))).mono (m27.le (tg0 hN))
 refine L.toR (s' := (Sig.fz (N + 2) s25)) R ?_
 obtain ⟨r28, er28, hm⟩ := bindS hm
 refine L.ca cf49 R R Y R (m_product_machine_initial_c (s := (Sig.fz (N + 2) s25)) (p0 := r14) (u0 := 0) h17 h18 h19 er28) R ?_
 rintro _ s29 m30 ⟨a31, c31, rfl, h31⟩
 replace m0 := (((((m0.trans m16.no).trans m22.no).trans (m24.one up)).trans (m26.one up)).trans (m27.one up)).trans m30.no
 replace bx6 := (bx6.mv m27 (tq R)).mv m30 no_No
 replace h18 := h18.mono m30.z
 refine L.mv Y R R (L.ex Y R R R (L.ex Y R R R (L.as Y R R (L.as Y R R (LN (E.seq (ER (L.mv Y R R (L.not Y R R (L.nil (X.seqN ?_)))))))))))
 rcases ifS hm with ⟨hc, hm⟩ | ⟨hc, hm⟩
 ·refine E.cT R hc (ER (L.lg (j := 0) (cs := [.slice a18 r14.2.1.length c18, .int .i64 0, .slice none 0 0, .slice none 0 0]) bx6.mem ag30 Y R R R R R (L.st (c := [.slice a18 r14.2.1.length c18, .int .i64 0, .slice none 0 0, .slice none 0 0]) (cs' := #[.slice a18 r14.2.1.length c18, .int .i64 0, .slice none 0 0, .slice none 0 0]) bx6 ag30.sz Y R R R R R (nb R) R fun s32 m33 bx6 => ?_)))
  replace m0 := m0.trans (m33.one up)
  replace h18 := h18.mono (m33.le (tg0 hN))
  refine L.as Y R R (L.as Y R R (LN (E.ret (X.seqR ?_))))
  obtain rfl := oi hm
  exact X.rt (.inl R) Tryz.results21 (Rs.cell R bx6 ag30 R (Rs.tmp R (Rs.tmp R Rs.nil))) R ⟨_, (s32).ren N (fun _ => 0), R, R, m0.ren hNb, ⟨a18, c18, none, 0, none, 0, none, 0, R, (h18.ren hN), RowT.nil, RowT.nil, RowT.nil⟩⟩
 refine E.cF R hc (E.skip (X.seqN (ER (L.mv Y R R (L.bsE (k := 1) (cs := [.slice a31 r28.1.length c31]) (N + 5) bs46 (nb R) Y R R R R fun b34 s35 m36 bx34 => ?_)))))
 replace h31 := (h31.p).mono m36.z
 have h34 := Bx.row (r := (rL qI)) (xs := ([r28.1] : List (List Int))) bx34 ⟨[.slice a31 r28.1.length c31], _, R, ⟨_, _, R, h31⟩, R⟩ (nb R)
 refine L.as Y R R (LN (ER (L.mk2 (kv := kvS) (r := qI) (T := 86) (N + 3) R Y fun y37 c37 s38 m39 h37 => ?_)))
 replace h31 := h31.mono m39.z
 refine L.mv Y R R ?_
 obtain ⟨r40, er40, hm⟩ := bindS hm
 refine L.ca cf50 R R Y R (m_product_key_c (s := s38) (p0 := r28.1) h31 er40) R ?_
 rintro _ s41 m42 rfl
 replace h37 := (h37.as (T' := 0) (Le.refl _) R (fun _ e => e)).mv m42 no_No no_No
 refine L.ins (k := r40) (v := 0) md86 h37 R (tpos hN) (fun _ _ => eqS) Y R R R fun s43 m44 h37 => ?_
 replace m0 := (((m0.trans m36.no).trans m39.no).trans m42.no).trans (m44.one up)
 replace h34 := ((h34.mv m39 no_No no_No).mv m42 no_No no_No).mv m44 (tq R) (tg0 hN)
 replace bx6 := (((bx6.mv m36 no_No).mv m39 no_No).mv m42 no_No).mv m44 (tq R)
 replace h18 := (((h18.mono m36.z).mono m39.z).mono m42.z).mono (m44.le (tg0 hN))
 replace bx20 := (((((bx20.mv m27 (tq R)).mv m30 no_No).mv m36 no_No).mv m39 no_No).mv m42 no_No).mv m44 (tq R)
 replace h17 := ((((h17.mono m30.z).mono m36.z).mono m39.z).mono m42.z).mono (m44.le (tg0 hN))
 replace h19 := ((((h19.mono m30.z).mono m36.z).mono m39.z).mono m42.z).mono (m44.le (tg0 hN))
 refine L.mv Y R R (L.as Y R R (LN (E.seq (ER (L.as Y R R (LN (E.block ?_)))))))
 obtain ⟨o237, eo237, hm⟩ := bindS hm
 refine E.cut (x := .exit 0) (fun e w => ∃ (s246 : Sig) (u245 : List (List Int) × List Int × (List (Int × Int × Int))) (a239 : Option Addr) (c239 : Nat) (a241 : Option Addr) (c241 : Nat) (a243 : Option Addr) (c243 : Nat), o237 = .inl u245 ∧ Mv (Up N No) s s246 ∧ RowT (rL qI) s246 (N + 5) 27 a239 c239 u245.1 ∧ RdL qI s246 a18 c18 r14.2.1 ∧ RowT qI s246 (N + 4) 3 a241 c241 u245.2.1 ∧ RowT qT s246 (N + 6) 62 a243 c243 u245.2.2 ∧ Bx s246 (N + 0) b6 #[.slice a18 r14.2.1.length c18, .int .i64 0, .slice a241 u245.2.1.length c241, .slice a243 u245.2.2.length c243] 30 ∧ e = [(3, .slice a239 u245.1.length c239), (2, .pointer (some ⟨b6, 0, none⟩))] ∧ w = s246.w) ?_ ?_
 ·rintro _ _ ⟨s246, u245, a239, c239, a241, c241, a243, c243, rfl, m0, h239, h18, h241, h243, bx6, rfl, rfl⟩
  dsimp only at hm
  refine X.blkE (X.seqN (ER (L.mv Y R R (L.len sl46 Y R R (L.fa fa30_1 Y R R (L.st (c := [.int .i64 (u245.1.length : Int)]) (cs' := #[.slice a18 r14.2.1.length c18, .int .i64 (u245.1.length : Int), .slice a241 u245.2.1.length c241, .slice a243 u245.2.2.length c243]) bx6 nag3.sz Y R R R R R (nb R) R fun s247 m248 bx6 => ?_))))))
  refine LN (ER (L.lg (j := 0) (cs := [.slice a18 r14.2.1.length c18, .int .i64 (u245.1.length : Int), .slice a241 u245.2.1.length c241, .slice a243 u245.2.2.length c243]) bx6.mem ag30 Y R R R R R (L.mv Y R R (L.st (c := [.slice a18 r14.2.1.length c18, .int .i64 (u245.1.length : Int), .slice a241 u245.2.1.length c241, .slice a243 u245.2.2.length c243]) (cs' := #[.slice a18 r14.2.1.length c18, .int .i64 (u245.1.length : Int), .slice a241 u245.2.1.length c241, .slice a243 u245.2.2.length c243]) bx6 ag30.sz Y R R R R R (nb R) R fun s249 m250 bx6 => ?_))))
  replace m0 := (m0.trans (m248.one up)).trans (m250.one up)
  replace h239 := (h239.mv m248 (tq R) (tg0 hN)).mv m250 (tq R) (tg0 hN)
  replace h18 := (h18.mono (m248.le (tg0 hN))).mono (m250.le (tg0 hN))
  replace h241 := (h241.mv m248 (tq R) (tg0 hN)).mv m250 (tq R) (tg0 hN)
  replace h243 := (h243.mv m248 (tq R) (tg0 hN)).mv m250 (tq R) (tg0 hN)
  refine L.as Y R R (L.as Y R R (LN (E.ret ?_)))
  obtain rfl := oi hm
  exact X.rt (.inl R) Tryz.results21 (Rs.cell R bx6 ag30 R (Rs.tmp R (Rs.tmp R Rs.nil))) R ⟨_, (s249).ren N (fun k => cond (Nat.beq k 6) u2 (cond (Nat.beq k 5) u3 (cond (Nat.beq k 4) u1 (0)))), R, R, m0.ren hNb, ⟨a18, c18, a241, c241, a243, c243, a239, c239, R, (h18.ren hN), (h241.ren hN), (h243.ren hN), (h239.ren hN)⟩⟩
 intro K251
 refine E.cut (x := .ret) (fun e w => ∃ (s253 : Sig) (u252 : Unit), o237 = .inr (u252) ∧ Mv (Up N No) s s253 ∧ Bx s253 (N + 0) b6 #[.slice none 0 0, .int .i64 0, .slice none 0 0, .slice none 0 0] 30 ∧ e = [(4, .int .i64 3), (3, .slice none 0 0), (2, .pointer (some ⟨b6, 0, none⟩))] ∧ w = s253.w) ?_ ?_
 ·rintro _ _ ⟨s253, u252, rfl, m0, bx6, rfl, rfl⟩
  dsimp only at hm
  refine X.blkR (X.seqR ?_)
  obtain rfl := oi hm
  exact X.rt (.inl R) Tryz.results21 (Rs.cell R bx6 ag30 R (Rs.tmp R (Rs.tmp R Rs.nil))) R ⟨_, (s253).ren N (fun _ => 0), R, R, m0.ren hNb, ⟨none, 0, none, 0, none, 0, none, 0, R, RdL.nil, RowT.nil, RowT.nil, RowT.nil⟩⟩
 intro K254
 refine E.iter (fun (st237 : Int × (List (ByteArray × Int)) × List (List Int) × List Int × (List (Int × Int × Int))) (e : List (Nat × Value)) (w : World) => ∃ (s244 : Sig) (a48 : Option Addr) (c48 : Nat) (a50 : Option Addr) (c50 : Nat) (a52 : Option Addr) (c52 : Nat), Mv (Up N No) s s244 ∧ MapO kvS qI s244 (N + 3) 0 y37 c37 st237.2.1 ∧ RowT (rL qI) s244 (N + 5) 27 a48 c48 st237.2.2.1 ∧ RdL qI s244 a18 c18 r14.2.1 ∧ RowT qI s244 (N + 4) 3 a50 c50 st237.2.2.2.1 ∧ RowT qT s244 (N + 6) 62 a52 c52 st237.2.2.2.2 ∧ RdL (rP (rL qI) (rP qI (rP (rL qI) (rL qT)))) s244 a17 c17 r14.1 ∧ RdL (rM kvP qI) s244 a19 c19 r14.2.2 ∧ Bx s244 (N + 0) b6 #[.slice a18 r14.2.1.length c18, .int .i64 0, .slice a50 st237.2.2.2.1.length c50, .slice a52 st237.2.2.2.2.length c52] 30 ∧ Bx s244 (N + 1) b20 #[.slice a17 r14.1.length c17, .slice a18 r14.2.1.length c18, .slice a19 r14.2.2.length c19] 82 ∧ e = [(10, .int .i64 st237.1), (9, .map y37), (3, .slice a48 st237.2.2.1.length c48), (6, .pointer (some ⟨b20, 0, none⟩)), (2, .pointer (some ⟨b6, 0, none⟩))] ∧ w = s244.w) eo237 ⟨s43, (some ⟨b34, 0, none⟩), ([r28.1] : List (List Int)).length, none, 0, none, 0, m0, h37, h34, h18, RowT.nil, RowT.nil, h17, h19, bx6, bx20, R, R⟩ (Sub.rf R) ?_
 rintro st237 res237 hm ih237 ho237 _ _ ⟨s244, a48, c48, a50, c50, a52, c52, m0, h37, h48, h18, h50, h52, h17, h19, bx6, bx20, rfl, rfl⟩
 unfold m_product_Synchronous_l1 at hm
 refine E.seq (ER (L.mv Y R R (L.mv Y R R (L.len sl46 Y R R (L.bi Y R R R R (L.nil (X.seqN ?_)))))))
 rcases ifS hm with ⟨hc, hm⟩ | ⟨hc, hm⟩
 ·refine E.cT R hc (E.skip (X.seqN (E.seq (E.block (E.seqJ (fun e w => ∃ (s257 : Sig) (l255 : List Int) (a256 : Option Addr) (c256 : Nat), m_product_Synchronous_j1 r14 st237 l255 = some res237 ∧ Mv (Up N No) s s257 ∧ MapO kvS qI s257 (N + 3) 0 y37 c37 st237.2.1 ∧ RowT (rL qI) s257 (N + 5) 27 a48 c48 st237.2.2.1 ∧ RdL qI s257 a18 c18 r14.2.1 ∧ RowT qI s257 (N + 4) 3 a256 c256 l255 ∧ RowT qT s257 (N + 6) 62 a52 c52 st237.2.2.2.2 ∧ RdL (rP (rL qI) (rP qI (rP (rL qI) (rL qT)))) s257 a17 c17 r14.1 ∧ RdL (rM kvP qI) s257 a19 c19 r14.2.2 ∧ Bx s257 (N + 0) b6 #[.slice a18 r14.2.1.length c18, .int .i64 0, .slice a256 l255.length c256, .slice a52 st237.2.2.2.2.length c52] 30 ∧ Bx s257 (N + 1) b20 #[.slice a17 r14.1.length c17, .slice a18 r14.2.1.length c18, .slice a19 r14.2.2.length c19] 82 ∧ e = [(10, .int .i64 st237.1), (9, .map y37), (3, .slice a48 st237.2.2.1.length c48), (6, .pointer (some ⟨b20, 0, none⟩)), (2, .pointer (some ⟨b6, 0, none⟩))] ∧ w = s257.w) ?_ ?_)))))
  ·rintro _ _ ⟨s257, l255, a256, c256, hm, m0, h37, h48, h18, h256, h52, h17, h19, bx6, bx20, rfl, rfl⟩
   unfold m_product_Synchronous_j1 at hm
   refine ER (L.fa fa82_1 Y R R (L.ld (j := 1) bx20.mem nag27 Y R R R R (L.len sl27 Y R R (L.mv Y R R (LN (E.block ?_))))))
   obtain ⟨o333, eo333, hm⟩ := bindS hm
   refine E.cut (x := .exit 2) (fun e w => ∃ (s341 : Sig) (u340 : (List (ByteArray × Int)) × List (List Int) × (List (Int × Int × Int))) (a336 : Option Addr) (c336 : Nat) (a338 : Option Addr) (c338 : Nat), o333 = .inl u340 ∧ Mv (Up N No) s s341 ∧ MapO kvS qI s341 (N + 3) 0 y37 c37 u340.1 ∧ RowT (rL qI) s341 (N + 5) 27 a336 c336 u340.2.1 ∧ RdL qI s341 a18 c18 r14.2.1 ∧ RowT qI s341 (N + 4) 3 a256 c256 l255 ∧ RowT qT s341 (N + 6) 62 a338 c338 u340.2.2 ∧ RdL (rP (rL qI) (rP qI (rP (rL qI) (rL qT)))) s341 a17 c17 r14.1 ∧ RdL (rM kvP qI) s341 a19 c19 r14.2.2 ∧ Bx s341 (N + 0) b6 #[.slice a18 r14.2.1.length c18, .int .i64 0, .slice a256 l255.length c256, .slice a338 u340.2.2.length c338] 30 ∧ Bx s341 (N + 1) b20 #[.slice a17 r14.1.length c17, .slice a18 r14.2.1.length c18, .slice a19 r14.2.2.length c19] 82 ∧ e = [(10, .int .i64 st237.1), (9, .map y37), (3, .slice a336 u340.2.1.length c336), (6, .pointer (some ⟨b20, 0, none⟩)), (2, .pointer (some ⟨b6, 0, none⟩))] ∧ w = s341.w) ?_ ?_
   ·rintro _ _ ⟨s341, u340, a336, c336, a338, c338, rfl, m0, h37, h336, h18, h256, h338, h17, h19, bx6, bx20, rfl, rfl⟩
    dsimp only at hm
    exact X.blkE (X.blkN (X.seqN (E.reg (L.mv Y R R (L.bi Y R R R R (L.as Y R R (L.nil (X.sub (ih237 _ (oi hm).symm _ _ ⟨s341, a336, c336, a256, c256, a338, c338, m0, h37, h336, h18, h256, h338, h17, h19, bx6, bx20, R, R⟩) (Sub.rf R)))))))))
   intro K342
   refine E.cut (x := .ret) (fun e w => ∃ (s344 : Sig) (u343 : Unit), o333 = .inr (u343) ∧ Mv (Up N No) s s344 ∧ Bx s344 (N + 0) b6 #[.slice none 0 0, .int .i64 0, .slice none 0 0, .slice none 0 0] 30 ∧ e = [(4, .int .i64 3), (3, .slice none 0 0), (2, .pointer (some ⟨b6, 0, none⟩))] ∧ w = s344.w) ?_ ?_
   ·rintro _ _ ⟨s344, u343, rfl, m0, bx6, rfl, rfl⟩
    dsimp only at hm
    refine X.blkR (X.blkR (X.seqR (X.seqR ?_)))
    have hx := ho237 _ (oi hm).symm
    exact X.sub (K254 _ _ ⟨s344, (), hx.symm, m0, bx6, R, R⟩) (Sub.rf R)
   intro K345
   refine E.iter (fun (st333 : Int × (List (ByteArray × Int)) × List (List Int) × (List (Int × Int × Int))) (e : List (Nat × Value)) (w : World) => ∃ (s339 : Sig) (a262 : Option Addr) (c262 : Nat) (a264 : Option Addr) (c264 : Nat), Mv (Up N No) s s339 ∧ RdL qI s339 a18 c18 r14.2.1 ∧ MapO kvS qI s339 (N + 3) 0 y37 c37 st333.2.1 ∧ RowT (rL qI) s339 (N + 5) 27 a262 c262 st333.2.2.1 ∧ RowT qI s339 (N + 4) 3 a256 c256 l255 ∧ RowT qT s339 (N + 6) 62 a264 c264 st333.2.2.2 ∧ RdL (rP (rL qI) (rP qI (rP (rL qI) (rL qT)))) s339 a17 c17 r14.1 ∧ RdL (rM kvP qI) s339 a19 c19 r14.2.2 ∧ Bx s339 (N + 0) b6 #[.slice a18 r14.2.1.length c18, .int .i64 0, .slice a256 l255.length c256, .slice a264 st333.2.2.2.length c264] 30 ∧ Bx s339 (N + 1) b20 #[.slice a17 r14.1.length c17, .slice a18 r14.2.1.length c18, .slice a19 r14.2.2.length c19] 82 ∧ e = [(63, .int .i64 st333.1), (62, .int .i64 (r14.2.1.length : Int)), (61, .slice a18 r14.2.1.length c18), (10, .int .i64 st237.1), (9, .map y37), (3, .slice a262 st333.2.2.1.length c262), (6, .pointer (some ⟨b20, 0, none⟩)), (2, .pointer (some ⟨b6, 0, none⟩))] ∧ w = s339.w) eo333 ⟨s257, a48, c48, a52, c52, m0, h18, h37, h48, h256, h52, h17, h19, bx6, bx20, R, R⟩ (Sub.rf R) ?_
   rintro st333 res333 hm ih333 ho333 _ _ ⟨s339, a262, c262, a264, c264, m0, h18, h37, h262, h256, h264, h17, h19, bx6, bx20, rfl, rfl⟩
   unfold m_product_Synchronous_l2 at hm
   refine ER (L.bi Y R R R R (LN (E.seq ?_)))
   rcases ifS hm with ⟨hc, hm⟩ | ⟨hc, hm⟩
   ·refine E.cT R hc (E.skip (X.seqN (E.seqJ (fun e w => ∃ (s351 : Sig) (l346 : List (ByteArray × Int)) (l347 : List (List Int)) (l349 : List (Int × Int × Int)) (a348 : Option Addr) (c348 : Nat) (a350 : Option Addr) (c350 : Nat), m_product_Synchronous_j2 st333 l346 l347 l349 = some res333 ∧ Mv (Up N No) s s351 ∧ RdL qI s351 a18 c18 r14.2.1 ∧ MapO kvS qI s351 (N + 3) 0 y37 c37 l346 ∧ RowT (rL qI) s351 (N + 5) 27 a348 c348 l347 ∧ RowT qI s351 (N + 4) 3 a256 c256 l255 ∧ RowT qT s351 (N + 6) 62 a350 c350 l349 ∧ RdL (rP (rL qI) (rP qI (rP (rL qI) (rL qT)))) s351 a17 c17 r14.1 ∧ RdL (rM kvP qI) s351 a19 c19 r14.2.2 ∧ Bx s351 (N + 0) b6 #[.slice a18 r14.2.1.length c18, .int .i64 0, .slice a256 l255.length c256, .slice a350 l349.length c350] 30 ∧ Bx s351 (N + 1) b20 #[.slice a17 r14.1.length c17, .slice a18 r14.2.1.length c18, .slice a19 r14.2.2.length c19] 82 ∧ e = [(63, .int .i64 st333.1), (62, .int .i64 (r14.2.1.length : Int)), (61, .slice a18 r14.2.1.length c18), (10, .int .i64 st237.1), (9, .map y37), (3, .slice a348 l347.length c348), (6, .pointer (some ⟨b20, 0, none⟩)), (2, .pointer (some ⟨b6, 0, none⟩))] ∧ w = s351.w) ?_ ?_)))
    ·rintro _ _ ⟨s351, l346, l347, l349, a348, c348, a350, c350, hm, m0, h18, h37, h348, h256, h350, h17, h19, bx6, bx20, rfl, rfl⟩
     unfold m_product_Synchronous_j2 at hm
     exact E.reg (L.bi Y R R R R (L.mv Y R R (L.nil (X.sub (ih333 _ (oi hm).symm _ _ ⟨s351, a348, c348, a350, c350, m0, h18, h37, h348, h256, h350, h17, h19, bx6, bx20, R, R⟩) (Sub.rf R)))))
    intro Jj352
    refine E.block (E.seq (E.reg ?_))
    obtain ⟨x353, ex353, hm⟩ := bindS hm
    refine L.ix (r := qI) sl27 h18 Y R R ex353 R fun b354 o354 cc354 me354 rd354 => ?_
    obtain rfl := rd354
    refine L.ld (j := 0) me354 nag3 Y R R R R (L.as Y R R (LN (E.seq ?_)))
    obtain ⟨x359, ex359, hm⟩ := bindS hm
    obtain ⟨r366, er366, hm⟩ := bindS hm
    refine E.draw [[], [], [], [1, 2], [1, 2, 3], [], [0, 1, 2, 3, 4, 5], [0, 1, 2, 3, 4, 5, 6], [0, 1, 2, 3, 4, 5, 6, 7], [0, 1, 2, 3, 4, 5, 6, 7], [0, 1, 2, 3, 4, 5, 6, 7, 8], [0, 1, 2, 3, 4, 5, 6, 7, 8, 9, 10]] (fun D e sx => Mv No s339 sx ∧ Sub [(12, .int .i64 x353), (63, .int .i64 st333.1), (62, .int .i64 (r14.2.1.length : Int)), (61, .slice a18 r14.2.1.length c18), (10, .int .i64 st237.1), (9, .map y37), (3, .slice a262 st333.2.2.1.length c262), (6, .pointer (some ⟨b20, 0, none⟩)), (2, .pointer (some ⟨b6, 0, none⟩))] e ∧ AllP [G D e 0 68 (.agg #[.slice a17 r14.1.length c17, .slice a18 r14.2.1.length c18, .slice a19 r14.2.2.length c19]), G D e 1 69 (.slice a262 st333.2.2.1.length c262), G D e 2 70 (.int .i64 st237.1), D 3 = true → (∃ (b360 : Nat) (o360 : Nat) (a361 : Option Addr) (c361 : Nat), Env.get e 71 = some (.pointer (some ⟨b360, o360, none⟩)) ∧ Mem sx (N + 5) b360 o360 [.slice a361 x359.length c361] ∧ RdL qI sx a361 c361 x359 ∧ Spot a262 (rL qI).sz (st237.1).toNat b360 o360), D 4 = true → (∃ (a363 : Option Addr) (c363 : Nat), Env.get e 72 = some (.slice a363 x359.length c363) ∧ RdL qI sx a363 c363 x359), G D e 5 73 (.int .i64 x353), D 6 = true → (∃ (a369 : Option Addr) (c369 : Nat), Env.get e 74 = some (.tuple #[.slice a369 r366.1.length c369, .bool r366.2]) ∧ RdL qI sx a369 c369 r366.1), D 7 = true → ∀ (a369 : Option Addr) (c369 : Nat), Env.get e 74 = some (.tuple #[.slice a369 r366.1.length c369, .bool r366.2]) → (Env.get e 67 = some (.tuple #[.slice a369 r366.1.length c369, .bool r366.2])), D 8 = true → ∀ (a369 : Option Addr) (c369 : Nat), Env.get e 74 = some (.tuple #[.slice a369 r366.1.length c369, .bool r366.2]) → (Env.get e 75 = some (.slice a369 r366.1.length c369)), G D e 9 76 (.bool r366.2), D 10 = true → ∀ (a369 : Option Addr) (c369 : Nat), Env.get e 74 = some (.tuple #[.slice a369 r366.1.length c369, .bool r366.2]) → (Env.get e 13 = some (.slice a369 r366.1.length c369)), G D e 11 14 (.bool r366.2)]) (by kernel_rfl) (by kernel_rfl) (by kernel_rfl) ?_ ?_ ?_
    ·intro sz mz
     exact ⟨mz, (Sub.rf R), nofun, nofun, nofun, nofun, nofun, nofun, nofun, nofun, nofun, nofun, nofun, nofun, trivial⟩
    ·refine ⟨?_, ?_, ?_, ?_, ?_, ?_, ?_, ?_, ?_, ?_, ?_, ?_, trivial⟩
     ·rintro D e s355 ⟨im, ib, i⟩ hk hf ha
      have bx20 := bx20.mv im no_No
      have kn := K1 (ib 6 _ R)
      exact kn.g (L.lg (j := 0) (cs := [.slice a17 r14.1.length c17, .slice a18 r14.2.1.length c18, .slice a19 r14.2.2.length c19]) bx20.mem ag82 Y R R R R R (L.nil (X.dk kn ⟨im, Sub.fresh ib R, i.u 0 (fun _ => R)⟩)))
     ·rintro D e s356 ⟨im, ib, i⟩ hk hf ha
      have kn := K1 (ib 3 _ R)
      exact kn.g (L.mv Y R R (L.nil (X.dk kn ⟨im, Sub.fresh ib R, i.u 1 (fun _ => R)⟩)))
     ·rintro D e s357 ⟨im, ib, i⟩ hk hf ha
      have kn := K1 (ib 10 _ R)
      exact kn.g (L.mv Y R R (L.nil (X.dk kn ⟨im, Sub.fresh ib R, i.u 2 (fun _ => R)⟩)))
     ·rintro D e s358 ⟨im, ib, i⟩ hk hf ha
      have h262 := h262.mv im no_No no_No
      have kn := K2 ((i.p 1) (ha.at 1 R)) ((i.p 2) (ha.at 2 R))
      refine kn.g (L.ir (r := (rL qI)) sl46 h262 Y R R ex359 R fun b360 o360 cc360 me360 rd360 sp360 => ?_)
      obtain ⟨a361, c361, rfl, h361⟩ := rd360
      exact L.nil (X.dk kn ⟨im, Sub.fresh ib R, i.u 3 (fun _ => ⟨b360, o360, a361, c361, R, me360, h361, sp360⟩)⟩)
     ·rintro D e s362 ⟨im, ib, i⟩ hk hf ha
      obtain ⟨b360, o360, a361, c361, g3_, me360, h361, sp360⟩ := (i.p 3) (ha.at 3 R)
      have kn := K1 g3_
      refine kn.g (L.ld (j := 0) me360 nag27 Y R R R R ?_)
      obtain ⟨a363, c363, ea363, ec363, h363⟩ : ∃ a c, a = a361 ∧ c = c361 ∧ RdL qI s362 a c x359 := ⟨_, _, rfl, rfl, h361⟩
      subst ea363 ec363
      exact L.nil (X.dk kn ⟨im, Sub.fresh ib R, i.u 4 (fun _ => ⟨a363, c363, R, h363⟩)⟩)
     ·rintro D e s364 ⟨im, ib, i⟩ hk hf ha
      have kn := K1 (ib 12 _ R)
      exact kn.g (L.mv Y R R (L.nil (X.dk kn ⟨im, Sub.fresh ib R, i.u 5 (fun _ => R)⟩)))
     ·rintro D e s365 ⟨im, ib, i⟩ hk hf ha
      obtain ⟨a363, c363, g4_, h363⟩ := (i.p 4) (ha.at 4 R)
      have h18 := h18.mono im.z
      have h17 := h17.mono im.z
      have h19 := h19.mono im.z
      have kn := K3 ((i.p 0) (ha.at 0 R)) g4_ ((i.p 5) (ha.at 5 R))
      refine kn.g (L.ca cf52 R R Y R (m_product_machine_step_c (s := s365) (p0 := r14) (p1 := x359) (p2 := x353) (u0 := 0) h17 h18 h19 h363 er366) R ?_)
      rintro _ s367 m368 ⟨a369, c369, rfl, h369⟩
      replace h369 := h369.p
      exact L.nil (X.dk kn ⟨im.trans m368.no, Sub.fresh ib R, (((((i.u 3 (fun z => let ⟨b360, o360, a361, c361, q, me360, h361, sp360⟩ := (i.p 3) z; ⟨b360, o360, a361, c361, q, (me360.mv m368 no_No), (h361.mono m368.z), sp360⟩)).u 4 (fun z => let ⟨a363, c363, q, h363⟩ := (i.p 4) z; ⟨a363, c363, q, (h363.mono m368.z)⟩)).u 6 (fun _ => ⟨a369, c369, R, h369⟩)).u 7 (fun z => Bool.noConfusion ((hf 7 (nb R) R).symm.trans z))).u 8 (fun z => Bool.noConfusion ((hf 8 (nb R) R).symm.trans z))).u 10 (fun z => Bool.noConfusion ((hf 10 (nb R) R).symm.trans z))⟩)
     ·rintro D e s370 ⟨im, ib, i⟩ hk hf ha
      obtain ⟨a369, c369, g6_, h369⟩ := (i.p 6) (ha.at 6 R)
      have kn := K1 g6_
      exact kn.g (L.mv Y R R (L.nil (X.dk kn ⟨im, Sub.fresh ib R, i.u 7 (fun _ _ _ q6 => by cases g6_.symm.trans q6; exact R)⟩)))
     ·rintro D e s371 ⟨im, ib, i⟩ hk hf ha
      obtain ⟨a369, c369, g6_, h369⟩ := (i.p 6) (ha.at 6 R)
      have g7_ := (i.p 7) (ha.at 7 R) a369 c369 g6_
      have kn := K1 g7_
      exact kn.g (L.ex Y R R R (L.nil (X.dk kn ⟨im, Sub.fresh ib R, i.u 8 (fun _ _ _ q6 => by cases g6_.symm.trans q6; exact R)⟩)))
     ·rintro D e s372 ⟨im, ib, i⟩ hk hf ha
      obtain ⟨a369, c369, g6_, h369⟩ := (i.p 6) (ha.at 6 R)
      have g7_ := (i.p 7) (ha.at 7 R) a369 c369 g6_
      have kn := K1 g7_
      exact kn.g (L.ex Y R R R (L.nil (X.dk kn ⟨im, Sub.fresh ib R, i.u 9 (fun _ => R)⟩)))
     ·rintro D e s373 ⟨im, ib, i⟩ hk hf ha
      obtain ⟨a369, c369, g6_, h369⟩ := (i.p 6) (ha.at 6 R)
      have g8_ := (i.p 8) (ha.at 8 R) a369 c369 g6_
      have kn := K1 g8_
      exact kn.g (L.as Y R R (L.nil (X.dk kn ⟨im, Sub.fresh ib R, i.u 10 (fun _ _ _ q6 => by cases g6_.symm.trans q6; exact R)⟩)))
     rintro D e s374 ⟨im, ib, i⟩ hk hf ha
     have kn := K1 ((i.p 9) (ha.at 9 R))
     exact kn.g (L.as Y R R (L.nil (X.dk kn ⟨im, Sub.fresh ib R, i.u 11 (fun _ => R)⟩)))
    rintro D e s375 hD ⟨im, ib, i⟩
    obtain ⟨a369, c369, g6_, h369⟩ := (i.p 6) (hD 6 R)
    have g10_ := (i.p 10) (hD 10 R) a369 c369 g6_
    have g11_ := (i.p 11) (hD 11 R)
    have h18 := h18.mono im.z
    have h37 := h37.mv im no_No no_No
    have h262 := h262.mv im no_No no_No
    have bx20 := bx20.mv im no_No
    have h17 := h17.mono im.z
    have h19 := h19.mono im.z
    have bx6 := bx6.mv im no_No
    have h256 := h256.mv im no_No no_No
    have h264 := h264.mv im no_No no_No
    have m0 := m0.trans im.no
    refine X.sub (e' := [(14, .bool r366.2), (13, .slice a369 r366.1.length c369), (12, .int .i64 x353), (63, .int .i64 st333.1), (62, .int .i64 (r14.2.1.length : Int)), (61, .slice a18 r14.2.1.length c18), (10, .int .i64 st237.1), (9, .map y37), (3, .slice a262 st333.2.2.1.length c262), (6, .pointer (some ⟨b20, 0, none⟩)), (2, .pointer (some ⟨b6, 0, none⟩))]) ?_ (Sub.cons g11_ (Sub.cons g10_ (Sub.cons (ib 12 _ R) (Sub.cons (ib 63 _ R) (Sub.cons (ib 62 _ R) (Sub.cons (ib 61 _ R) (Sub.cons (ib 10 _ R) (Sub.cons (ib 9 _ R) (Sub.cons (ib 3 _ R) (Sub.cons (ib 6 _ R) (Sub.cons (ib 2 _ R) Sub.nil)))))))))))
    refine X.seqN (E.seq (ER (L.mv Y R R (L.not Y R R (L.nil (X.seqN ?_))))))
    rcases ifS hm with ⟨hc, hm⟩ | ⟨hc, hm⟩
    ·exact E.cT R hc (E.exit (X.seqX (X.blkE (X.sub (Jj352 _ _ ⟨s375, st333.2.1, st333.2.2.1, st333.2.2.2, a262, c262, a264, c264, hm, m0, h18, h37, h262, h256, h264, h17, h19, bx6, bx20, R, R⟩) (Sub.rf R)))))
    refine E.cF R hc (E.skip (X.seqN (ER (L.mv Y R R (L.mv Y R R ?_)))))
    obtain ⟨r376, er376, hm⟩ := bindS hm
    refine L.ca cf50 R R Y R (m_product_key_c (s := s375) (p0 := r366.1) h369 er376) R ?_
    rintro _ s377 m378 rfl
    replace m0 := m0.trans m378.no
    replace h262 := h262.mv m378 no_No no_No
    replace h37 := h37.mv m378 no_No no_No
    replace h369 := h369.mono m378.z
    replace h18 := h18.mono m378.z
    replace bx6 := bx6.mv m378 no_No
    replace h256 := h256.mv m378 no_No no_No
    replace h264 := h264.mv m378 no_No no_No
    replace bx20 := bx20.mv m378 no_No
    replace h17 := h17.mono m378.z
    replace h19 := h19.mono m378.z
    refine L.mi2 (k := r376) md86 h37.any Y R R R (L.mv Y R R (L.ex Y R R R (L.ex Y R R R (L.as Y R R (L.as Y R R (LN (E.seqJ (fun e w => ∃ (s383 : Sig) (l379 : List (List Int)) (n381 : Int) (l382 : List (ByteArray × Int)) (a380 : Option Addr) (c380 : Nat), m_product_Synchronous_j3 st237 st333 x353 l379 n381 l382 = some res333 ∧ Mv (Up N No) s s383 ∧ RowT (rL qI) s383 (N + 5) 27 a380 c380 l379 ∧ RdL qI s383 a18 c18 r14.2.1 ∧ MapO kvS qI s383 (N + 3) 0 y37 c37 l382 ∧ RowT qI s383 (N + 4) 3 a256 c256 l255 ∧ RowT qT s383 (N + 6) 62 a264 c264 st333.2.2.2 ∧ RdL (rP (rL qI) (rP qI (rP (rL qI) (rL qT)))) s383 a17 c17 r14.1 ∧ RdL (rM kvP qI) s383 a19 c19 r14.2.2 ∧ Bx s383 (N + 0) b6 #[.slice a18 r14.2.1.length c18, .int .i64 0, .slice a256 l255.length c256, .slice a264 st333.2.2.2.length c264] 30 ∧ Bx s383 (N + 1) b20 #[.slice a17 r14.1.length c17, .slice a18 r14.2.1.length c18, .slice a19 r14.2.2.length c19] 82 ∧ e = [(3, .slice a380 l379.length c380), (15, .int .i64 n381), (12, .int .i64 x353), (63, .int .i64 st333.1), (62, .int .i64 (r14.2.1.length : Int)), (61, .slice a18 r14.2.1.length c18), (10, .int .i64 st237.1), (9, .map y37), (6, .pointer (some ⟨b20, 0, none⟩)), (2, .pointer (some ⟨b6, 0, none⟩))] ∧ w = s383.w) ?_ ?_)))))))
    ·rintro _ _ ⟨s383, l379, n381, l382, a380, c380, hm, m0, h380, h18, h37, h256, h264, h17, h19, bx6, bx20, rfl, rfl⟩
     unfold m_product_Synchronous_j3 at hm
     refine E.reg (L.fa fa30_3 Y R R (L.ld (j := 3) bx6.mem nag28 Y R R R R (L.mv Y R R (L.mv Y R R (L.mv Y R R (L.bu (cs := [.int .i64 st237.1, .int .i64 x353, .int .i64 n381]) pl62 Y R R R (L.bsE (k := 1) (cs := [.int .i64 st237.1, .int .i64 x353, .int .i64 n381]) 0 bs28 (nb R) Y R R R R fun b385 s386 m387 bx385 => ?_)))))))
     replace h264 := h264.mv m387 no_No no_No
     have h385 := Bx.rdL (r := qT) (xs := ([(st237.1, x353, n381)] : List (Int × Int × Int))) bx385 ⟨[.int .i64 st237.1, .int .i64 x353, .int .i64 n381], _, R, ⟨[.int .i64 st237.1], [.int .i64 x353, .int .i64 n381], R, R, ⟨[.int .i64 x353], [.int .i64 n381], R, R, R⟩⟩, R⟩ (nb R)
     obtain ⟨x388, ex388, hm⟩ := bindS hm
     refine L.ap (r := qT) Tryz.underlying28 el62 R (tgp hN) h264 h385.wk Y R R ex388 R fun a389 c389 s390 m391 h389 => ?_
     replace bx6 := (bx6.mv m387 no_No).mv m391 (tq R)
     refine L.fa fa30_3 Y R R (L.st (c := [.slice a389 x388.length c389]) (cs' := #[.slice a18 r14.2.1.length c18, .int .i64 0, .slice a256 l255.length c256, .slice a389 x388.length c389]) bx6 nag28.sz Y R R R R R (nb R) R fun s392 m393 bx6 => ?_)
     replace m0 := ((m0.trans m387.no).trans (m391.one up)).trans (m393.one up)
     replace h380 := ((h380.mv m387 no_No no_No).mv m391 (tq R) (tg0 hN)).mv m393 (tq R) (tg0 hN)
     replace h37 := ((h37.mv m387 no_No no_No).mv m391 (tq R) (tg0 hN)).mv m393 (tq R) (tg0 hN)
     replace h18 := ((h18.mono m387.z).mono (m391.le (tg0 hN))).mono (m393.le (tg0 hN))
     replace h256 := ((h256.mv m387 no_No no_No).mv m391 (tq R) (tg0 hN)).mv m393 (tq R) (tg0 hN)
     replace h389 := h389.mv m393 (tq R) (tg0 hN)
     replace bx20 := ((bx20.mv m387 no_No).mv m391 (tq R)).mv m393 (tq R)
     replace h17 := ((h17.mono m387.z).mono (m391.le (tg0 hN))).mono (m393.le (tg0 hN))
     replace h19 := ((h19.mono m387.z).mono (m391.le (tg0 hN))).mono (m393.le (tg0 hN))
     exact L.nil (X.blkN (X.sub (Jj352 _ _ ⟨s392, l382, l379, x388, a380, c380, a389, c389, hm, m0, h18, h37, h380, h256, h389, h17, h19, bx6, bx20, R, R⟩) (Sub.rf R)))
    intro Jj384
    refine ER (L.mv Y R R (L.not Y R R (L.nil (X.seqN ?_))))
    rcases ifS hm with ⟨hc, hm⟩ | ⟨hc, hm⟩
    ·refine E.cT R hc (E.seq (ER (L.mv Y R R (L.len sl46 Y R R (L.bi Y R R R R (L.nil (X.seqN ?_)))))))
     rcases ifS hm with ⟨hc, hm⟩ | ⟨hc, hm⟩
     ·refine E.cT R hc (ER (L.bu (cs := [.slice none 0 0, .int .i64 0, .slice none 0 0, .slice none 0 0]) pl30 Y R R R (L.st (c := [.slice none 0 0, .int .i64 0, .slice none 0 0, .slice none 0 0]) (cs' := #[.slice none 0 0, .int .i64 0, .slice none 0 0, .slice none 0 0]) bx6 ag30.sz Y R R R R R (nb R) R fun s394 m395 bx6 => ?_)))
      replace m0 := m0.trans (m395.one up)
      refine L.as Y R R (L.as Y R R (LN (E.ret (X.seqR (X.seqR (X.blkR (X.seqR (X.seqR ?_))))))))
      have hx := ho333 _ (oi hm).symm
      exact X.sub (K345 _ _ ⟨s394, (), hx.symm, m0, bx6, R, R⟩) (Sub.rf R)
     refine E.cF R hc (E.skip (X.seqN (ER (L.mv Y R R (L.len sl46 Y R R (L.as Y R R (LN (ER (L.mv Y R R (L.mv Y R R ?_))))))))))
     obtain ⟨r396, er396, hm⟩ := bindS hm
     refine L.ca cf50 R R Y R (m_product_key_c (s := s377) (p0 := r366.1) h369 er396) R ?_
     rintro _ s397 m398 rfl
     replace h37 := h37.mv m398 no_No no_No
     refine L.mv Y R R (L.mu (k := r396) (v := (st333.2.2.1.length : Int)) md86 h37 R (tpos hN) (fun _ _ => eqS) Y R R R fun s399 m400 h37 => ?_)
     refine LN (E.reg (L.mv Y R R (L.mv Y R R (L.bsE (k := 1) (cs := [.slice a369 r366.1.length c369]) 0 bs46 (nb R) Y R R R R fun b401 s402 m403 bx401 => ?_))))
     replace h262 := ((h262.mv m398 no_No no_No).mv m400 (tq R) (tg0 hN)).mv m403 no_No no_No
     replace h369 := ((h369.mono m398.z).mono (m400.le (tg0 hN))).mono m403.z
     have h401 := Bx.rdL (r := (rL qI)) (xs := ([r366.1] : List (List Int))) bx401 ⟨[.slice a369 r366.1.length c369], _, R, ⟨_, _, R, h369⟩, R⟩ (nb R)
     obtain ⟨x404, ex404, hm⟩ := bindS hm
     refine L.ap (r := (rL qI)) Tryz.underlying46 el27 R (tgp hN) h262 h401.wk Y R R ex404 R fun a405 c405 s406 m407 h405 => ?_
     replace m0 := (((m0.trans m398.no).trans (m400.one up)).trans m403.no).trans (m407.one up)
     replace h37 := (h37.mv m403 no_No no_No).mv m407 (tq R) (tg0 hN)
     replace h18 := (((h18.mono m398.z).mono (m400.le (tg0 hN))).mono m403.z).mono (m407.le (tg0 hN))
     replace bx6 := (((bx6.mv m398 no_No).mv m400 (tq R)).mv m403 no_No).mv m407 (tq R)
     replace h256 := (((h256.mv m398 no_No no_No).mv m400 (tq R) (tg0 hN)).mv m403 no_No no_No).mv m407 (tq R) (tg0 hN)
     replace h264 := (((h264.mv m398 no_No no_No).mv m400 (tq R) (tg0 hN)).mv m403 no_No no_No).mv m407 (tq R) (tg0 hN)
     replace bx20 := (((bx20.mv m398 no_No).mv m400 (tq R)).mv m403 no_No).mv m407 (tq R)
     replace h17 := (((h17.mono m398.z).mono (m400.le (tg0 hN))).mono m403.z).mono (m407.le (tg0 hN))
     replace h19 := (((h19.mono m398.z).mono (m400.le (tg0 hN))).mono m403.z).mono (m407.le (tg0 hN))
     exact L.as Y R R (L.nil (X.sub (Jj384 _ _ ⟨s406, x404, (st333.2.2.1.length : Int), (kput st333.2.1 r396 (st333.2.2.1.length : Int)), a405, c405, hm, m0, h405, h18, h37, h256, h264, h17, h19, bx6, bx20, R, R⟩) (Sub.rf R)))
    exact E.cF R hc (E.skip (X.sub (Jj384 _ _ ⟨s377, st333.2.2.1, ((kget st333.2.1 r376).getD 0), st333.2.1, a262, c262, hm, m0, h262, h18, h37, h256, h264, h17, h19, bx6, bx20, R, R⟩) (Sub.rf R)))
   refine E.cF R hc (E.exit (X.seqX (X.seqX ?_)))
   have hx := ho333 _ (oi hm).symm
   exact X.sub (K342 _ _ ⟨s339, st333.2, a262, c262, a264, c264, hx.symm, m0, h37, h262, h18, h256, h264, h17, h19, bx6, bx20, R, R⟩) (Sub.rf R)
  intro Jj258
  refine E.seq ?_
  obtain ⟨x412, ex412, hm⟩ := bindS hm
  obtain ⟨r418, er418, hm⟩ := bindS hm
  refine E.draw [[], [], [], [1, 2], [1, 2, 3], [0, 1, 2, 3, 4]] (fun D e sx => Mv No s244 sx ∧ Sub [(10, .int .i64 st237.1), (9, .map y37), (3, .slice a48 st237.2.2.1.length c48), (6, .pointer (some ⟨b20, 0, none⟩)), (2, .pointer (some ⟨b6, 0, none⟩))] e ∧ AllP [G D e 0 48 (.agg #[.slice a17 r14.1.length c17, .slice a18 r14.2.1.length c18, .slice a19 r14.2.2.length c19]), G D e 1 49 (.slice a48 st237.2.2.1.length c48), G D e 2 50 (.int .i64 st237.1), D 3 = true → (∃ (b413 : Nat) (o413 : Nat) (a414 : Option Addr) (c414 : Nat), Env.get e 51 = some (.pointer (some ⟨b413, o413, none⟩)) ∧ Mem sx (N + 5) b413 o413 [.slice a414 x412.length c414] ∧ RdL qI sx a414 c414 x412 ∧ Spot a48 (rL qI).sz (st237.1).toNat b413 o413), D 4 = true → (∃ (a416 : Option Addr) (c416 : Nat), Env.get e 52 = some (.slice a416 x412.length c416) ∧ RdL qI sx a416 c416 x412), G D e 5 53 (.bool r418)]) (by kernel_rfl) (by kernel_rfl) (by kernel_rfl) ?_ ?_ ?_
  ·intro sz mz
   exact ⟨mz, (Sub.rf R), nofun, nofun, nofun, nofun, nofun, nofun, trivial⟩
  ·refine ⟨?_, ?_, ?_, ?_, ?_, ?_, trivial⟩
   ·rintro D e s408 ⟨im, ib, i⟩ hk hf ha
    have bx20 := bx20.mv im no_No
    have kn := K1 (ib 6 _ R)
    exact kn.g (L.lg (j := 0) (cs := [.slice a17 r14.1.length c17, .slice a18 r14.2.1.length c18, .slice a19 r14.2.2.length c19]) bx20.mem ag82 Y R R R R R (L.nil (X.dk kn ⟨im, Sub.fresh ib R, i.u 0 (fun _ => R)⟩)))
   ·rintro D e s409 ⟨im, ib, i⟩ hk hf ha
    have kn := K1 (ib 3 _ R)
    exact kn.g (L.mv Y R R (L.nil (X.dk kn ⟨im, Sub.fresh ib R, i.u 1 (fun _ => R)⟩)))
   ·rintro D e s410 ⟨im, ib, i⟩ hk hf ha
    have kn := K1 (ib 10 _ R)
    exact kn.g (L.mv Y R R (L.nil (X.dk kn ⟨im, Sub.fresh ib R, i.u 2 (fun _ => R)⟩)))
   ·rintro D e s411 ⟨im, ib, i⟩ hk hf ha
    have h48 := h48.mv im no_No no_No
    have kn := K2 ((i.p 1) (ha.at 1 R)) ((i.p 2) (ha.at 2 R))
    refine kn.g (L.ir (r := (rL qI)) sl46 h48 Y R R ex412 R fun b413 o413 cc413 me413 rd413 sp413 => ?_)
    obtain ⟨a414, c414, rfl, h414⟩ := rd413
    exact L.nil (X.dk kn ⟨im, Sub.fresh ib R, i.u 3 (fun _ => ⟨b413, o413, a414, c414, R, me413, h414, sp413⟩)⟩)
   ·rintro D e s415 ⟨im, ib, i⟩ hk hf ha
    obtain ⟨b413, o413, a414, c414, g3_, me413, h414, sp413⟩ := (i.p 3) (ha.at 3 R)
    have kn := K1 g3_
    refine kn.g (L.ld (j := 0) me413 nag27 Y R R R R ?_)
    obtain ⟨a416, c416, ea416, ec416, h416⟩ : ∃ a c, a = a414 ∧ c = c414 ∧ RdL qI s415 a c x412 := ⟨_, _, rfl, rfl, h414⟩
    subst ea416 ec416
    exact L.nil (X.dk kn ⟨im, Sub.fresh ib R, i.u 4 (fun _ => ⟨a416, c416, R, h416⟩)⟩)
   rintro D e s417 ⟨im, ib, i⟩ hk hf ha
   obtain ⟨a416, c416, g4_, h416⟩ := (i.p 4) (ha.at 4 R)
   have h17 := h17.mono im.z
   have h18 := h18.mono im.z
   have h19 := h19.mono im.z
   have kn := K2 ((i.p 0) (ha.at 0 R)) g4_
   refine kn.g (L.ca cf51 R R Y R (m_product_machine_marked_c (s := s417) (p0 := r14) (p1 := x412) h17 h18 h19 h416 er418) R ?_)
   rintro _ s419 m420 rfl
   exact L.nil (X.dk kn ⟨im.trans m420.no, Sub.fresh ib R, ((i.u 3 (fun z => let ⟨b413, o413, a414, c414, q, me413, h414, sp413⟩ := (i.p 3) z; ⟨b413, o413, a414, c414, q, (me413.mv m420 no_No), (h414.mono m420.z), sp413⟩)).u 4 (fun z => let ⟨a416, c416, q, h416⟩ := (i.p 4) z; ⟨a416, c416, q, (h416.mono m420.z)⟩)).u 5 (fun _ => R)⟩)
  rintro D e s421 hD ⟨im, ib, i⟩
  have g5_ := (i.p 5) (hD 5 R)
  have h37 := h37.mv im no_No no_No
  have h48 := h48.mv im no_No no_No
  have bx20 := bx20.mv im no_No
  have h17 := h17.mono im.z
  have h18 := h18.mono im.z
  have h19 := h19.mono im.z
  have bx6 := bx6.mv im no_No
  have h50 := h50.mv im no_No no_No
  have h52 := h52.mv im no_No no_No
  have m0 := m0.trans im.no
  refine X.sub (e' := [(53, .bool r418), (10, .int .i64 st237.1), (9, .map y37), (3, .slice a48 st237.2.2.1.length c48), (6, .pointer (some ⟨b20, 0, none⟩)), (2, .pointer (some ⟨b6, 0, none⟩))]) ?_ (Sub.cons g5_ (Sub.cons (ib 10 _ R) (Sub.cons (ib 9 _ R) (Sub.cons (ib 3 _ R) (Sub.cons (ib 6 _ R) (Sub.cons (ib 2 _ R) Sub.nil))))))
  refine X.seqN ?_
  rcases ifS hm with ⟨hc, hm⟩ | ⟨hc, hm⟩
  ·refine E.cT R hc (E.reg (L.fa fa30_2 Y R R (L.ld (j := 2) bx6.mem nag27 Y R R R R (L.mv Y R R (L.bsE (k := 1) (cs := [.int .i64 st237.1]) 0 bs27 (nb R) Y R R R R fun b422 s423 m424 bx422 => ?_)))))
   replace h50 := h50.mv m424 no_No no_No
   have h422 := Bx.rdL (r := qI) (xs := ([st237.1] : List Int)) bx422 ⟨[.int .i64 st237.1], _, R, R, R⟩ (nb R)
   obtain ⟨x425, ex425, hm⟩ := bindS hm
   refine L.ap (r := qI) Tryz.underlying27 el3 R (tgp hN) h50 h422.wk Y R R ex425 R fun a426 c426 s427 m428 h426 => ?_
   replace bx6 := (bx6.mv m424 no_No).mv m428 (tq R)
   refine L.fa fa30_2 Y R R (L.st (c := [.slice a426 x425.length c426]) (cs' := #[.slice a18 r14.2.1.length c18, .int .i64 0, .slice a426 x425.length c426, .slice a52 st237.2.2.2.2.length c52]) bx6 nag27.sz Y R R R R R (nb R) R fun s429 m430 bx6 => ?_)
   replace m0 := ((m0.trans m424.no).trans (m428.one up)).trans (m430.one up)
   replace h48 := ((h48.mv m424 no_No no_No).mv m428 (tq R) (tg0 hN)).mv m430 (tq R) (tg0 hN)
   replace h37 := ((h37.mv m424 no_No no_No).mv m428 (tq R) (tg0 hN)).mv m430 (tq R) (tg0 hN)
   replace h18 := ((h18.mono m424.z).mono (m428.le (tg0 hN))).mono (m430.le (tg0 hN))
   replace h426 := h426.mv m430 (tq R) (tg0 hN)
   replace h52 := ((h52.mv m424 no_No no_No).mv m428 (tq R) (tg0 hN)).mv m430 (tq R) (tg0 hN)
   replace bx20 := ((bx20.mv m424 no_No).mv m428 (tq R)).mv m430 (tq R)
   replace h17 := ((h17.mono m424.z).mono (m428.le (tg0 hN))).mono (m430.le (tg0 hN))
   replace h19 := ((h19.mono m424.z).mono (m428.le (tg0 hN))).mono (m430.le (tg0 hN))
   exact L.nil (X.sub (Jj258 _ _ ⟨s429, x425, a426, c426, hm, m0, h37, h48, h18, h426, h52, h17, h19, bx6, bx20, R, R⟩) (Sub.rf R))
  exact E.cF R hc (E.skip (X.sub (Jj258 _ _ ⟨s421, st237.2.2.2.1, a50, c50, hm, m0, h37, h48, h18, h50, h52, h17, h19, bx6, bx20, R, R⟩) (Sub.rf R)))
 refine E.cF R hc (E.exit (X.seqX (X.seqX ?_)))
 have hx := ho237 _ (oi hm).symm
 exact X.sub (K251 _ _ ⟨s244, st237.2.2, a48, c48, a50, c50, a52, c52, hx.symm, m0, h48, h18, h50, h52, bx6, R, R⟩) (Sub.rf R)

noncomputable def m_blocking_blocked_j1 (st22 : Int × List Int) (l28 : List Int) : Option ((Int × List Int) ⊕ (List Int)) :=
 some (.inl (W (st22.1 + 1), l28))
noncomputable def m_blocking_blocked_l1 (p0 : List Int) (st22 : Int × List Int) : Option ((Int × List Int) ⊕ (List Int)) :=
 if decide (st22.1 < (p0.length : Int)) then
  (idx p0 st22.1).bind fun x32 =>
  if decide (x32 < 0) then
   (app st22.2 ([st22.1] : List Int)).bind fun x37 =>
   m_blocking_blocked_j1 st22 x37
  else
   m_blocking_blocked_j1 st22 st22.2
 else
  some (.inr st22.2)
noncomputable def m_blocking_blocked (p0 : List Int) : Option (List Int) :=
 (iter (m_blocking_blocked_l1 p0) (0, ([] : List Int))).bind fun o22 =>
 some o22
theorem m_blocking_blocked_c {s : Sig} {p0 : List Int} {a1 : Option Addr} {c1 : Nat} {u0 : Nat} {r : List Int} (h1 : RdL qI s a1 c1 p0) (hm : m_blocking_blocked p0 = some r) :
    Calls Tryz.prog 34 #[.slice a1 p0.length c1] s.w (RetS No s fun v s' => ∃ (a2 : Option Addr) (c2 : Nat), v = .slice a2 r.length c2 ∧ RowT qI s' u0 3 a2 c2 r) := by
 unfold m_blocking_blocked at hm
 obtain ⟨N, hN, hNb⟩ := s.fresh
 have m0 : Mv (Up N No) s s := Mv.refl _ _
 refine E.entry Tryz.func34 R Tryz.ntmps34 R R (ER (L.as Y R R (LN (ER (L.as Y R R (LN (E.seq (ER (L.mv Y R R (L.len sl27 Y R R (L.mv Y R R (LN (E.block ?_)))))))))))))
 obtain ⟨o22, eo22, hm⟩ := bindS hm
 refine E.cut (x := .exit 0) (fun e w => ∃ (s26 : Sig) (a24 : Option Addr) (c24 : Nat), Mv (Up N No) s s26 ∧ RowT qI s26 (N + 0) 3 a24 c24 o22 ∧ e = [(3, .slice a24 o22.length c24)] ∧ w = s26.w) ?_ ?_
 ·rintro _ _ ⟨s26, a24, c24, m0, h24, rfl, rfl⟩
  refine X.blkE (X.seqN (ER (L.mv Y R R (L.as Y R R (LN (E.ret ?_))))))
  obtain rfl := oi hm
  exact X.rt (.inl R) Tryz.results34 (Rs.tmp R Rs.nil) R ⟨_, (s26).ren N (fun k => cond (Nat.beq k 0) u0 (0)), R, R, m0.ren hNb, ⟨a24, c24, R, (h24.ren hN)⟩⟩
 intro K27
 refine E.iter (fun (st22 : Int × List Int) (e : List (Nat × Value)) (w : World) => ∃ (s25 : Sig) (a5 : Option Addr) (c5 : Nat), Mv (Up N No) s s25 ∧ RdL qI s25 a1 c1 p0 ∧ RowT qI s25 (N + 0) 3 a5 c5 st22.2 ∧ e = [(8, .int .i64 st22.1), (7, .int .i64 (p0.length : Int)), (6, .slice a1 p0.length c1), (3, .slice a5 st22.2.length c5)] ∧ w = s25.w) eo22 ⟨s, none, 0, m0, h1, RowT.nil, R, R⟩ (Sub.rf R) ?_
 rintro st22 res22 hm ih22 ho22 _ _ ⟨s25, a5, c5, m0, h1, h5, rfl, rfl⟩
 unfold m_blocking_blocked_l1 at hm
 refine ER (L.bi Y R R R R (LN (E.seq ?_)))
 rcases ifS hm with ⟨hc, hm⟩ | ⟨hc, hm⟩
 ·refine E.cT R hc (E.skip (X.seqN (E.seqJ (fun e w => ∃ (s30 : Sig) (l28 : List Int) (a29 : Option Addr) (c29 : Nat), m_blocking_blocked_j1 st22 l28 = some res22 ∧ Mv (Up N No) s s30 ∧ RowT qI s30 (N + 0) 3 a29 c29 l28 ∧ RdL qI s30 a1 c1 p0 ∧ e = [(3, .slice a29 l28.length c29), (8, .int .i64 st22.1), (7, .int .i64 (p0.length : Int)), (6, .slice a1 p0.length c1)] ∧ w = s30.w) ?_ ?_)))
  ·rintro _ _ ⟨s30, l28, a29, c29, hm, m0, h29, h1, rfl, rfl⟩
   unfold m_blocking_blocked_j1 at hm
   exact E.reg (L.bi Y R R R R (L.mv Y R R (L.nil (X.sub (ih22 _ (oi hm).symm _ _ ⟨s30, a29, c29, m0, h1, h29, R, R⟩) (Sub.rf R)))))
  intro Jj31
  refine E.block (ER (L.mv Y R R ?_))
  obtain ⟨x32, ex32, hm⟩ := bindS hm
  refine L.ix (r := qI) sl27 h1 Y R R ex32 R fun b33 o33 cc33 me33 rd33 => ?_
  obtain rfl := rd33
  refine L.ld (j := 0) me33 nag3 Y R R R R (L.as Y R R (L.as Y R R (LN (ER (L.mv Y R R (L.bi Y R R R R (L.nil (X.seqN ?_))))))))
  rcases ifS hm with ⟨hc, hm⟩ | ⟨hc, hm⟩
  ·refine E.cT R hc (E.reg (L.mv Y R R (L.mv Y R R (L.bsE (k := 1) (cs := [.int .i64 st22.1]) 0 bs27 (nb R) Y R R R R fun b34 s35 m36 bx34 => ?_))))
   replace h5 := h5.mv m36 no_No no_No
   have h34 := Bx.rdL (r := qI) (xs := ([st22.1] : List Int)) bx34 ⟨[.int .i64 st22.1], _, R, R, R⟩ (nb R)
   obtain ⟨x37, ex37, hm⟩ := bindS hm
   refine L.ap (r := qI) Tryz.underlying27 el3 R (tgp hN) h5 h34.wk Y R R ex37 R fun a38 c38 s39 m40 h38 => ?_
   replace m0 := (m0.trans m36.no).trans (m40.one up)
   replace h1 := (h1.mono m36.z).mono (m40.le (tg0 hN))
   exact L.as Y R R (L.nil (X.blkN (X.sub (Jj31 _ _ ⟨s39, x37, a38, c38, hm, m0, h38, h1, R, R⟩) (Sub.rf R))))
  exact E.cF R hc (E.skip (X.blkN (X.sub (Jj31 _ _ ⟨s25, st22.2, a5, c5, hm, m0, h5, h1, R, R⟩) (Sub.rf R))))
 refine E.cF R hc (E.exit (X.seqX (X.seqX ?_)))
 have hx := ho22 _ (oi hm).symm
 subst hx
 exact X.sub (K27 _ _ ⟨s25, a5, c5, m0, h5, R, R⟩) (Sub.rf R)

noncomputable def m_blocking_all_l1 (x8 : List Int) (st21 : Int × List Int) : Option ((Int × List Int) ⊕ (List Int)) :=
 if decide (st21.1 < (x8.length : Int)) then
  (idx st21.2 st21.1).bind fun x26 =>
  (upd st21.2 st21.1 st21.1).bind fun x28 =>
  some (.inl (W (st21.1 + 1), x28))
 else
  some (.inr st21.2)
noncomputable def m_blocking_all (p0 : AutT) : Option (List Int) :=
 (mkL p0.2.1 (0 : Int)).bind fun x8 =>
 (iter (m_blocking_all_l1 x8) (0, x8)).bind fun o21 =>
 some o21
theorem m_blocking_all_c {s : Sig} {p0 : AutT} {a1 : Option Addr} {c1 : Nat} {a2 : Option Addr} {c2 : Nat} {a3 : Option Addr} {c3 : Nat} {u0 : Nat} {r : List Int} (h1 : RdL qI s a1 c1 p0.1) (h2 : RdL qI s a2 c2 p0.2.2.1) (h3 : RdL qT s a3 c3 p0.2.2.2) (hm : m_blocking_all p0 = some r) :
    Calls Tryz.prog 69 #[.agg #[.slice a1 p0.1.length c1, .int .i64 p0.2.1, .slice a2 p0.2.2.1.length c2, .slice a3 p0.2.2.2.length c3]] s.w (RetS No s fun v s' => ∃ (a4 : Option Addr) (c4 : Nat), v = .slice a4 r.length c4 ∧ RowT qI s' u0 3 a4 c4 r) := by
 unfold m_blocking_all at hm
 obtain ⟨N, hN, hNb⟩ := s.fresh
 have m0 : Mv (Up N No) s s := Mv.refl _ _
 refine E.entry Tryz.func69 R Tryz.ntmps69 R R (ER (L.box (N + 0) Y R R R fun b5 s6 m7 bx5 => ?_))
 refine L.as Y R R (LN (ER (L.fa fa30_1 Y R R (L.ld (j := 1) bx5.mem nag3 Y R R R R ?_))))
 obtain ⟨x8, ex8, hm⟩ := bindS hm
 refine L.mk (z := (0 : Int)) (N + 1) Tryz.underlying27 zr3 R Y R R ex8 R fun b9 s10 m11 h9 => ?_
 replace m0 := (m0.trans m7.no).trans m11.no
 refine L.as Y R R (LN (E.seq (ER (L.mv Y R R (L.len sl27 Y R R (L.mv Y R R (LN (E.block ?_))))))))
 obtain ⟨o21, eo21, hm⟩ := bindS hm
 refine E.cut (x := .exit 0) (fun e w => ∃ (s24 : Sig), Mv (Up N No) s s24 ∧ RowT qI s24 (N + 1) 3 (some ⟨b9, 0, none⟩) x8.length o21 ∧ e = [(3, .slice (some ⟨b9, 0, none⟩) o21.length x8.length)] ∧ w = s24.w) ?_ ?_
 ·rintro _ _ ⟨s24, m0, h9, rfl, rfl⟩
  refine X.blkE (X.seqN (ER (L.mv Y R R (L.as Y R R (LN (E.ret ?_))))))
  obtain rfl := oi hm
  exact X.rt (.inl R) Tryz.results69 (Rs.tmp R Rs.nil) R ⟨_, (s24).ren N (fun k => cond (Nat.beq k 1) u0 (0)), R, R, m0.ren hNb, ⟨(some ⟨b9, 0, none⟩), x8.length, R, (h9.ren hN)⟩⟩
 intro K25
 refine E.iter (fun (st21 : Int × List Int) (e : List (Nat × Value)) (w : World) => ∃ (s23 : Sig), Mv (Up N No) s s23 ∧ RowT qI s23 (N + 1) 3 (some ⟨b9, 0, none⟩) x8.length st21.2 ∧ e = [(10, .int .i64 st21.1), (9, .int .i64 (x8.length : Int)), (3, .slice (some ⟨b9, 0, none⟩) st21.2.length x8.length)] ∧ w = s23.w) eo21 ⟨s10, m0, h9, R, R⟩ (Sub.rf R) ?_
 rintro st21 res21 hm ih21 ho21 _ _ ⟨s23, m0, h9, rfl, rfl⟩
 unfold m_blocking_all_l1 at hm
 refine ER (L.bi Y R R R R (LN (E.seq ?_)))
 rcases ifS hm with ⟨hc, hm⟩ | ⟨hc, hm⟩
 ·refine E.cT R hc (E.skip (X.seqN (E.seq (E.block (ER (L.mv Y R R (L.as Y R R (LN (E.reg (L.mv Y R R (L.mv Y R R (L.mv Y R R ?_))))))))))))
  obtain ⟨x26, ex26, hm⟩ := bindS hm
  refine L.ir (r := qI) sl27 h9 Y R R ex26 R fun b27 o27 cc27 me27 rd27 sp27 => ?_
  obtain rfl := rd27
  obtain ⟨x28, ex28, hm⟩ := bindS hm
  have elx28 := upd_len ex28
  refine L.su (fo := 0) (c := [.int .i64 st21.1]) (z := st21.1) h9 sp27 ex26 ex28 (tgp hN) nag3.sz Y R R R R R R (fun c0 hc0 => by obtain rfl := hc0; exact R) fun s29 m30 h9 => ?_
  replace m0 := m0.trans (m30.one up)
  exact L.reval (d := 3) R elx28 (L.nil (X.blkN (X.seqN (E.reg (L.bi Y R R R R (L.mv Y R R (L.nil (X.sub (ih21 _ (oi hm).symm _ _ ⟨s29, m0, h9, R, R⟩) (Sub.rf R)))))))))
 refine E.cF R hc (E.exit (X.seqX (X.seqX ?_)))
 have hx := ho21 _ (oi hm).symm
 subst hx
 exact X.sub (K25 _ _ ⟨s23, m0, h9, R, R⟩) (Sub.rf R)

theorem cf68 : Cf Tryz.prog 68 := Cf.mk Tryz.func68 (by kernel_rfl) (by kernel_rfl)
theorem cf69 : Cf Tryz.prog 69 := Cf.mk Tryz.func69 (by kernel_rfl) (by kernel_rfl)
noncomputable def m_blocking_path (p0 : AutT) (p1 : Int) (p2 : List Int) : Option (List Int × Bool) :=
 if decide (p1 ≥ p0.2.1) then
  some (([] : List Int), false)
 else
  (m_blocking_all p0).bind fun r14 =>
  (m_reach_Path p0 p1 p2 r14).bind fun r19 =>
  some (r19.1, r19.2.1)
theorem m_blocking_path_c {s : Sig} {p0 : AutT} {p1 : Int} {p2 : List Int} {a1 : Option Addr} {c1 : Nat} {a2 : Option Addr} {c2 : Nat} {a3 : Option Addr} {c3 : Nat} {a4 : Option Addr} {c4 : Nat} {r : List Int × Bool} (h1 : RdL qI s a1 c1 p0.1) (h2 : RdL qI s a2 c2 p0.2.2.1) (h3 : RdL qT s a3 c3 p0.2.2.2) (h4 : RdL qI s a4 c4 p2) (hm : m_blocking_path p0 p1 p2 = some r) :
    Calls Tryz.prog 33 #[.agg #[.slice a1 p0.1.length c1, .int .i64 p0.2.1, .slice a2 p0.2.2.1.length c2, .slice a3 p0.2.2.2.length c3], .int .i64 p1, .slice a4 p2.length c4] s.w (RetS No s fun v s' => ∃ (a5 : Option Addr) (c5 : Nat), v = .tuple #[.slice a5 r.1.length c5, .bool r.2] ∧ RdL qI s' a5 c5 r.1) := by
 unfold m_blocking_path at hm
 obtain ⟨N, hN, hNb⟩ := s.fresh
 have m0 : Mv (Up N No) s s := Mv.refl _ _
 refine E.entry Tryz.func33 R Tryz.ntmps33 R R (ER (L.box (N + 0) Y R R R fun b6 s7 m8 bx6 => ?_))
 replace m0 := m0.trans m8.no
 replace h4 := h4.mono m8.z
 replace h1 := h1.mono m8.z
 replace h2 := h2.mono m8.z
 replace h3 := h3.mono m8.z
 refine L.as Y R R (L.as Y R R (LN (E.seq (ER (L.mv Y R R (L.fa fa30_1 Y R R (L.ld (j := 1) bx6.mem nag3 Y R R R R (L.bi Y R R R R (L.nil (X.seqN ?_))))))))))
 rcases ifS hm with ⟨hc, hm⟩ | ⟨hc, hm⟩
 ·refine E.cT R hc (ER (L.as Y R R (L.as Y R R (LN (E.ret (X.seqR ?_))))))
  obtain rfl := oi hm
  exact X.rt (.inl R) Tryz.results33 (Rs.tmp R (Rs.tmp R Rs.nil)) R ⟨_, (s7).ren N (fun _ => 0), R, R, m0.ren hNb, ⟨none, 0, R, RdL.nil⟩⟩
 refine E.cF R hc (E.skip (X.seqN (E.seq ?_)))
 obtain ⟨r14, er14, hm⟩ := bindS hm
 obtain ⟨r19, er19, hm⟩ := bindS hm
 refine E.draw [[], [], [], [], [3], [0, 1, 2, 3, 4], [0, 1, 2, 3, 4, 5], [0, 1, 2, 3, 4, 5, 6], [0, 1, 2, 3, 4, 5, 6], [0, 1, 2, 3, 4, 5, 6], [0, 1, 2, 3, 4, 5, 6, 7], [0, 1, 2, 3, 4, 5, 6, 7, 8, 10], [0, 1, 2, 3, 4, 5, 6, 7, 8, 9, 10, 11]] (fun D e sx => Mv No s7 sx ∧ Sub [(3, .pointer (some ⟨b6, 0, none⟩)), (1, .int .i64 p1), (2, .slice a4 p2.length c4)] e ∧ AllP [G D e 0 16 (.agg #[.slice a1 p0.1.length c1, .int .i64 p0.2.1, .slice a2 p0.2.2.1.length c2, .slice a3 p0.2.2.2.length c3]), G D e 1 17 (.int .i64 p1), G D e 2 18 (.slice a4 p2.length c4), G D e 3 19 (.agg #[.slice a1 p0.1.length c1, .int .i64 p0.2.1, .slice a2 p0.2.2.1.length c2, .slice a3 p0.2.2.2.length c3]), D 4 = true → (∃ (a17 : Option Addr) (c17 : Nat), Env.get e 20 = some (.slice a17 r14.length c17) ∧ RdL qI sx a17 c17 r14), D 5 = true → (∃ (a22 : Option Addr) (c22 : Nat), Env.get e 21 = some (.tuple #[.slice a22 r19.1.length c22, .bool r19.2.1, .int .i64 r19.2.2]) ∧ RdL qI sx a22 c22 r19.1), D 6 = true → ∀ (a22 : Option Addr) (c22 : Nat), Env.get e 21 = some (.tuple #[.slice a22 r19.1.length c22, .bool r19.2.1, .int .i64 r19.2.2]) → (Env.get e 15 = some (.tuple #[.slice a22 r19.1.length c22, .bool r19.2.1, .int .i64 r19.2.2])), D 7 = true → ∀ (a22 : Option Addr) (c22 : Nat), Env.get e 21 = some (.tuple #[.slice a22 r19.1.length c22, .bool r19.2.1, .int .i64 r19.2.2]) → (Env.get e 22 = some (.slice a22 r19.1.length c22)), G D e 8 23 (.bool r19.2.1), G D e 9 24 (.int .i64 r19.2.2), D 10 = true → ∀ (a22 : Option Addr) (c22 : Nat), Env.get e 21 = some (.tuple #[.slice a22 r19.1.length c22, .bool r19.2.1, .int .i64 r19.2.2]) → (Env.get e 8 = some (.slice a22 r19.1.length c22)), G D e 11 9 (.bool r19.2.1), G D e 12 10 (.int .i64 r19.2.2)]) (by kernel_rfl) (by kernel_rfl) (by kernel_rfl) ?_ ?_ ?_
 ·intro sz mz
  exact ⟨mz, (Sub.rf R), nofun, nofun, nofun, nofun, nofun, nofun, nofun, nofun, nofun, nofun, nofun, nofun, nofun, trivial⟩
 ·refine ⟨?_, ?_, ?_, ?_, ?_, ?_, ?_, ?_, ?_, ?_, ?_, ?_, ?_, trivial⟩
  ·rintro D e s9 ⟨im, ib, i⟩ hk hf ha
   have bx6 := bx6.mv im no_No
   have kn := K1 (ib 3 _ R)
   exact kn.g (L.lg (j := 0) (cs := [.slice a1 p0.1.length c1, .int .i64 p0.2.1, .slice a2 p0.2.2.1.length c2, .slice a3 p0.2.2.2.length c3]) bx6.mem ag30 Y R R R R R (L.nil (X.dk kn ⟨im, Sub.fresh ib R, i.u 0 (fun _ => R)⟩)))
  ·rintro D e s10 ⟨im, ib, i⟩ hk hf ha
   have kn := K1 (ib 1 _ R)
   exact kn.g (L.mv Y R R (L.nil (X.dk kn ⟨im, Sub.fresh ib R, i.u 1 (fun _ => R)⟩)))
  ·rintro D e s11 ⟨im, ib, i⟩ hk hf ha
   have kn := K1 (ib 2 _ R)
   exact kn.g (L.mv Y R R (L.nil (X.dk kn ⟨im, Sub.fresh ib R, i.u 2 (fun _ => R)⟩)))
  ·rintro D e s12 ⟨im, ib, i⟩ hk hf ha
   have bx6 := bx6.mv im no_No
   have kn := K1 (ib 3 _ R)
   exact kn.g (L.lg (j := 0) (cs := [.slice a1 p0.1.length c1, .int .i64 p0.2.1, .slice a2 p0.2.2.1.length c2, .slice a3 p0.2.2.2.length c3]) bx6.mem ag30 Y R R R R R (L.nil (X.dk kn ⟨im, Sub.fresh ib R, i.u 3 (fun _ => R)⟩)))
  ·rintro D e s13 ⟨im, ib, i⟩ hk hf ha
   have h1 := h1.mono im.z
   have h2 := h2.mono im.z
   have h3 := h3.mono im.z
   have kn := K1 ((i.p 3) (ha.at 3 R))
   refine kn.g (L.ca cf69 R R Y R (m_blocking_all_c (s := s13) (p0 := p0) (u0 := 0) h1 h2 h3 er14) R ?_)
   rintro _ s15 m16 ⟨a17, c17, rfl, h17⟩
   replace h17 := h17.p
   exact L.nil (X.dk kn ⟨im.trans m16.no, Sub.fresh ib R, (i.u 4 (fun _ => ⟨a17, c17, R, h17⟩)).u 5 (fun z => let ⟨a22, c22, q, h22⟩ := (i.p 5) z; ⟨a22, c22, q, (h22.mono m16.z)⟩)⟩)
  ·rintro D e s18 ⟨im, ib, i⟩ hk hf ha
   obtain ⟨a17, c17, g4_, h17⟩ := (i.p 4) (ha.at 4 R)
   have h1 := h1.mono im.z
   have h2 := h2.mono im.z
   have h3 := h3.mono im.z
   have h4 := h4.mono im.z
   have kn := K4 ((i.p 0) (ha.at 0 R)) ((i.p 1) (ha.at 1 R)) ((i.p 2) (ha.at 2 R)) g4_
   refine kn.g (L.ca cf68 R R Y R (m_reach_Path_c (s := s18) (p0 := p0) (p1 := p1) (p2 := p2) (p3 := r14) h1 h2 h3 h4 h17 er19) R ?_)
   rintro _ s20 m21 ⟨a22, c22, rfl, h22⟩
   exact L.nil (X.dk kn ⟨im.trans m21.no, Sub.fresh ib R, ((((i.u 4 (fun z => let ⟨a17, c17, q, h17⟩ := (i.p 4) z; ⟨a17, c17, q, (h17.mono m21.z)⟩)).u 5 (fun _ => ⟨a22, c22, R, h22⟩)).u 6 (fun z => Bool.noConfusion ((hf 6 (nb R) R).symm.trans z))).u 7 (fun z => Bool.noConfusion ((hf 7 (nb R) R).symm.trans z))).u 10 (fun z => Bool.noConfusion ((hf 10 (nb R) R).symm.trans z))⟩)
  ·rintro D e s23 ⟨im, ib, i⟩ hk hf ha
   obtain ⟨a22, c22, g5_, h22⟩ := (i.p 5) (ha.at 5 R)
   have kn := K1 g5_
   exact kn.g (L.mv Y R R (L.nil (X.dk kn ⟨im, Sub.fresh ib R, i.u 6 (fun _ _ _ q5 => by cases g5_.symm.trans q5; exact R)⟩)))
  ·rintro D e s24 ⟨im, ib, i⟩ hk hf ha
   obtain ⟨a22, c22, g5_, h22⟩ := (i.p 5) (ha.at 5 R)
   have g6_ := (i.p 6) (ha.at 6 R) a22 c22 g5_
   have kn := K1 g6_
   exact kn.g (L.ex Y R R R (L.nil (X.dk kn ⟨im, Sub.fresh ib R, i.u 7 (fun _ _ _ q5 => by cases g5_.symm.trans q5; exact R)⟩)))
  ·rintro D e s25 ⟨im, ib, i⟩ hk hf ha
   obtain ⟨a22, c22, g5_, h22⟩ := (i.p 5) (ha.at 5 R)
   have g6_ := (i.p 6) (ha.at 6 R) a22 c22 g5_
   have kn := K1 g6_
   exact kn.g (L.ex Y R R R (L.nil (X.dk kn ⟨im, Sub.fresh ib R, i.u 8 (fun _ => R)⟩)))
  ·rintro D e s26 ⟨im, ib, i⟩ hk hf ha
   obtain ⟨a22, c22, g5_, h22⟩ := (i.p 5) (ha.at 5 R)
   have g6_ := (i.p 6) (ha.at 6 R) a22 c22 g5_
   have kn := K1 g6_
   exact kn.g (L.ex Y R R R (L.nil (X.dk kn ⟨im, Sub.fresh ib R, i.u 9 (fun _ => R)⟩)))
  ·rintro D e s27 ⟨im, ib, i⟩ hk hf ha
   obtain ⟨a22, c22, g5_, h22⟩ := (i.p 5) (ha.at 5 R)
   have g7_ := (i.p 7) (ha.at 7 R) a22 c22 g5_
   have kn := K1 g7_
   exact kn.g (L.as Y R R (L.nil (X.dk kn ⟨im, Sub.fresh ib R, i.u 10 (fun _ _ _ q5 => by cases g5_.symm.trans q5; exact R)⟩)))
  ·rintro D e s28 ⟨im, ib, i⟩ hk hf ha
   have kn := K1 ((i.p 8) (ha.at 8 R))
   exact kn.g (L.as Y R R (L.nil (X.dk kn ⟨im, Sub.fresh ib R, i.u 11 (fun _ => R)⟩)))
  rintro D e s29 ⟨im, ib, i⟩ hk hf ha
  have kn := K1 ((i.p 9) (ha.at 9 R))
  exact kn.g (L.as Y R R (L.nil (X.dk kn ⟨im, Sub.fresh ib R, i.u 12 (fun _ => R)⟩)))
 rintro D e s30 hD ⟨im, ib, i⟩
 obtain ⟨a22, c22, g5_, h22⟩ := (i.p 5) (hD 5 R)
 have g10_ := (i.p 10) (hD 10 R) a22 c22 g5_
 have g11_ := (i.p 11) (hD 11 R)
 have m0 := m0.trans im.no
 refine X.sub (e' := [(9, .bool r19.2.1), (8, .slice a22 r19.1.length c22)]) ?_ (Sub.cons g11_ (Sub.cons g10_ Sub.nil))
 refine X.seqN (ER (L.mv Y R R (L.mv Y R R (L.as Y R R (L.as Y R R (LN (E.ret ?_)))))))
 obtain rfl := oi hm
 exact X.rt (.inl R) Tryz.results33 (Rs.tmp R (Rs.tmp R Rs.nil)) R ⟨_, (s30).ren N (fun _ => 0), R, R, m0.ren hNb, ⟨a22, c22, R, (h22.ren hN)⟩⟩

end Go.Proofs.YtfbapajcheammaaGreatDoor

namespace Go.Proofs.YtfbapajcheammaaGreatDoor
open Go Go.RowKit
theorem cf21 : Cf Tryz.prog 21 := Cf.mk Tryz.func21 (by kernel_rfl) (by kernel_rfl)
theorem cf33 : Cf Tryz.prog 33 := Cf.mk Tryz.func33 (by kernel_rfl) (by kernel_rfl)
theorem cf34 : Cf Tryz.prog 34 := Cf.mk Tryz.func34 (by kernel_rfl) (by kernel_rfl)
noncomputable def m_blocking_Nonblocking (p0 : List AutT) : Option (List Int × Bool × Int) :=
 (m_product_Synchronous p0).bind fun r3 =>
 if (r3.2.2 != 0) then
  some (([] : List Int), false, r3.2.2)
 else
  (m_blocking_spread r3.1 r3.1.2.2.1).bind fun r20 =>
  (m_blocking_blocked r20).bind fun r25 =>
  (m_blocking_path r3.1 0 r25).bind fun r30 =>
  some (r30.1, (!r30.2), 0)
theorem m_blocking_Nonblocking_c {s : Sig} {p0 : List AutT} {a1 : Option Addr} {c1 : Nat} {r : List Int × Bool × Int} (h1 : RdL (rP (rL qI) (rP qI (rP (rL qI) (rL qT)))) s a1 c1 p0) (hm : m_blocking_Nonblocking p0 = some r) :
    Calls Tryz.prog 10 #[.slice a1 p0.length c1] s.w (RetS No s fun v s' => ∃ (a2 : Option Addr) (c2 : Nat), v = .tuple #[.slice a2 r.1.length c2, .bool r.2.1, .int .i64 r.2.2] ∧ RdL qI s' a2 c2 r.1) := by
 unfold m_blocking_Nonblocking at hm
 obtain ⟨N, hN, hNb⟩ := s.fresh
 have m0 : Mv (Up N No) s s := Mv.refl _ _
 refine E.entry Tryz.func10 R Tryz.ntmps10 R R (ER (L.as Y R R (L.as Y R R (L.as Y R R (LN (ER (L.mv Y R R ?_)))))))
 obtain ⟨r3, er3, hm⟩ := bindS hm
 refine L.ca cf21 R R Y R (m_product_Synchronous_c (s := s) (p0 := p0) (u1 := 0) (u2 := 0) (u3 := 0) h1 er3) R ?_
 rintro _ s4 m5 ⟨a6, c6, a7, c7, a8, c8, a9, c9, rfl, h6, h7, h8, h9⟩
 replace h9 := h9.p
 refine L.mv Y R R (L.ex Y R R R (L.ex Y R R R (L.ex Y R R R (L.al (N + 0) zz30 R Y R fun b10 s11 m12 bx10 => ?_))))
 refine L.st (c := [.slice a6 r3.1.1.length c6, .int .i64 r3.1.2.1, .slice a7 r3.1.2.2.1.length c7, .slice a8 r3.1.2.2.2.length c8]) (cs' := #[.slice a6 r3.1.1.length c6, .int .i64 r3.1.2.1, .slice a7 r3.1.2.2.1.length c7, .slice a8 r3.1.2.2.2.length c8]) bx10 ag30.sz Y R R R R R (nb R) R fun s13 m14 bx10 => ?_
 replace m0 := ((m0.trans m5.no).trans m12.no).trans (m14.one up)
 replace h6 := (h6.mono m12.z).mono (m14.le (tg0 hN))
 replace h7 := ((h7.p).mono m12.z).mono (m14.le (tg0 hN))
 replace h8 := ((h8.p).mono m12.z).mono (m14.le (tg0 hN))
 refine L.as Y R R (L.as Y R R (LN (E.seq (ER (L.mv Y R R (L.bi Y R R R R (L.nil (X.seqN ?_))))))))
 rcases ifS hm with ⟨hc, hm⟩ | ⟨hc, hm⟩
 ·refine E.cT R hc (ER (L.mv Y R R (L.as Y R R (L.as Y R R (L.as Y R R (LN (E.ret (X.seqR ?_))))))))
  obtain rfl := oi hm
  exact X.rt (.inl R) Tryz.results10 (Rs.tmp R (Rs.tmp R (Rs.tmp R Rs.nil))) R ⟨_, (s13).ren N (fun _ => 0), R, R, m0.ren hNb, ⟨none, 0, R, RdL.nil⟩⟩
 refine E.cF R hc (E.skip (X.seqN (E.seq ?_)))
 obtain ⟨r20, er20, hm⟩ := bindS hm
 obtain ⟨r25, er25, hm⟩ := bindS hm
 obtain ⟨r30, er30, hm⟩ := bindS hm
 refine E.draw [[], [], [], [2], [1, 2, 3], [1, 2, 3, 4], [0, 1, 2, 3, 4, 5], [0, 1, 2, 3, 4, 5, 6], [0, 1, 2, 3, 4, 5, 6, 7], [0, 1, 2, 3, 4, 5, 6, 7], [0, 1, 2, 3, 4, 5, 6, 7, 8], [0, 1, 2, 3, 4, 5, 6, 7, 8, 9, 10]] (fun D e sx => Mv No s13 sx ∧ Sub [(5, .pointer (some ⟨b10, 0, none⟩))] e ∧ AllP [G D e 0 18 (.agg #[.slice a6 r3.1.1.length c6, .int .i64 r3.1.2.1, .slice a7 r3.1.2.2.1.length c7, .slice a8 r3.1.2.2.2.length c8]), G D e 1 19 (.agg #[.slice a6 r3.1.1.length c6, .int .i64 r3.1.2.1, .slice a7 r3.1.2.2.1.length c7, .slice a8 r3.1.2.2.2.length c8]), G D e 2 20 (.pointer (some ⟨b10, 2, none⟩)), G D e 3 21 (.slice a7 r3.1.2.2.1.length c7), D 4 = true → (∃ (a23 : Option Addr) (c23 : Nat), Env.get e 22 = some (.slice a23 r20.length c23) ∧ RdL qI sx a23 c23 r20), D 5 = true → (∃ (a28 : Option Addr) (c28 : Nat), Env.get e 23 = some (.slice a28 r25.length c28) ∧ RdL qI sx a28 c28 r25), D 6 = true → (∃ (a33 : Option Addr) (c33 : Nat), Env.get e 24 = some (.tuple #[.slice a33 r30.1.length c33, .bool r30.2]) ∧ RdL qI sx a33 c33 r30.1), D 7 = true → ∀ (a33 : Option Addr) (c33 : Nat), Env.get e 24 = some (.tuple #[.slice a33 r30.1.length c33, .bool r30.2]) → (Env.get e 17 = some (.tuple #[.slice a33 r30.1.length c33, .bool r30.2])), D 8 = true → ∀ (a33 : Option Addr) (c33 : Nat), Env.get e 24 = some (.tuple #[.slice a33 r30.1.length c33, .bool r30.2]) → (Env.get e 25 = some (.slice a33 r30.1.length c33)), G D e 9 26 (.bool r30.2), D 10 = true → ∀ (a33 : Option Addr) (c33 : Nat), Env.get e 24 = some (.tuple #[.slice a33 r30.1.length c33, .bool r30.2]) → (Env.get e 2 = some (.slice a33 r30.1.length c33)), G D e 11 7 (.bool r30.2)]) (by kernel_rfl) (by kernel_rfl) (by kernel_rfl) ?_ ?_ ?_
 ·intro sz mz
  exact ⟨mz, (Sub.rf R), nofun, nofun, nofun, nofun, nofun, nofun, nofun, nofun, nofun, nofun, nofun, nofun, trivial⟩
 ·refine ⟨?_, ?_, ?_, ?_, ?_, ?_, ?_, ?_, ?_, ?_, ?_, ?_, trivial⟩
  ·rintro D e s15 ⟨im, ib, i⟩ hk hf ha
   have bx10 := bx10.mv im no_No
   have kn := K1 (ib 5 _ R)
   exact kn.g (L.lg (j := 0) (cs := [.slice a6 r3.1.1.length c6, .int .i64 r3.1.2.1, .slice a7 r3.1.2.2.1.length c7, .slice a8 r3.1.2.2.2.length c8]) bx10.mem ag30 Y R R R R R (L.nil (X.dk kn ⟨im, Sub.fresh ib R, i.u 0 (fun _ => R)⟩)))
  ·rintro D e s16 ⟨im, ib, i⟩ hk hf ha
   have bx10 := bx10.mv im no_No
   have kn := K1 (ib 5 _ R)
   exact kn.g (L.lg (j := 0) (cs := [.slice a6 r3.1.1.length c6, .int .i64 r3.1.2.1, .slice a7 r3.1.2.2.1.length c7, .slice a8 r3.1.2.2.2.length c8]) bx10.mem ag30 Y R R R R R (L.nil (X.dk kn ⟨im, Sub.fresh ib R, i.u 1 (fun _ => R)⟩)))
  ·rintro D e s17 ⟨im, ib, i⟩ hk hf ha
   have kn := K1 (ib 5 _ R)
   exact kn.g (L.fa fa30_2 Y R R (L.nil (X.dk kn ⟨im, Sub.fresh ib R, i.u 2 (fun _ => R)⟩)))
  ·rintro D e s18 ⟨im, ib, i⟩ hk hf ha
   have bx10 := bx10.mv im no_No
   have kn := K1 ((i.p 2) (ha.at 2 R))
   exact kn.g (L.ld (j := 2) bx10.mem nag27 Y R R R R (L.nil (X.dk kn ⟨im, Sub.fresh ib R, i.u 3 (fun _ => R)⟩)))
  ·rintro D e s19 ⟨im, ib, i⟩ hk hf ha
   have h6 := h6.mono im.z
   have h7 := h7.mono im.z
   have h8 := h8.mono im.z
   have kn := K2 ((i.p 1) (ha.at 1 R)) ((i.p 3) (ha.at 3 R))
   refine kn.g (L.ca cf35 R R Y R (m_blocking_spread_c (s := s19) (p0 := r3.1) (p1 := r3.1.2.2.1) (u0 := 0) h6 h7 h8 h7 er20) R ?_)
   rintro _ s21 m22 ⟨a23, c23, rfl, h23⟩
   replace h23 := h23.p
   exact L.nil (X.dk kn ⟨im.trans m22.no, Sub.fresh ib R, ((i.u 4 (fun _ => ⟨a23, c23, R, h23⟩)).u 5 (fun z => let ⟨a28, c28, q, h28⟩ := (i.p 5) z; ⟨a28, c28, q, (h28.mono m22.z)⟩)).u 6 (fun z => let ⟨a33, c33, q, h33⟩ := (i.p 6) z; ⟨a33, c33, q, (h33.mono m22.z)⟩)⟩)
  ·rintro D e s24 ⟨im, ib, i⟩ hk hf ha
   obtain ⟨a23, c23, g4_, h23⟩ := (i.p 4) (ha.at 4 R)
   have kn := K1 g4_
   refine kn.g (L.ca cf34 R R Y R (m_blocking_blocked_c (s := s24) (p0 := r20) (u0 := 0) h23 er25) R ?_)
   rintro _ s26 m27 ⟨a28, c28, rfl, h28⟩
   replace h28 := h28.p
   exact L.nil (X.dk kn ⟨im.trans m27.no, Sub.fresh ib R, ((i.u 4 (fun z => let ⟨a23, c23, q, h23⟩ := (i.p 4) z; ⟨a23, c23, q, (h23.mono m27.z)⟩)).u 5 (fun _ => ⟨a28, c28, R, h28⟩)).u 6 (fun z => let ⟨a33, c33, q, h33⟩ := (i.p 6) z; ⟨a33, c33, q, (h33.mono m27.z)⟩)⟩)
  ·rintro D e s29 ⟨im, ib, i⟩ hk hf ha
   obtain ⟨a28, c28, g5_, h28⟩ := (i.p 5) (ha.at 5 R)
   have h6 := h6.mono im.z
   have h7 := h7.mono im.z
   have h8 := h8.mono im.z
   have kn := K2 ((i.p 0) (ha.at 0 R)) g5_
   refine kn.g (L.ca cf33 R R Y R (m_blocking_path_c (s := s29) (p0 := r3.1) (p1 := 0) (p2 := r25) h6 h7 h8 h28 er30) R ?_)
   rintro _ s31 m32 ⟨a33, c33, rfl, h33⟩
   exact L.nil (X.dk kn ⟨im.trans m32.no, Sub.fresh ib R, (((((i.u 4 (fun z => let ⟨a23, c23, q, h23⟩ := (i.p 4) z; ⟨a23, c23, q, (h23.mono m32.z)⟩)).u 5 (fun z => let ⟨a28, c28, q, h28⟩ := (i.p 5) z; ⟨a28, c28, q, (h28.mono m32.z)⟩)).u 6 (fun _ => ⟨a33, c33, R, h33⟩)).u 7 (fun z => Bool.noConfusion ((hf 7 (nb R) R).symm.trans z))).u 8 (fun z => Bool.noConfusion ((hf 8 (nb R) R).symm.trans z))).u 10 (fun z => Bool.noConfusion ((hf 10 (nb R) R).symm.trans z))⟩)
  ·rintro D e s34 ⟨im, ib, i⟩ hk hf ha
   obtain ⟨a33, c33, g6_, h33⟩ := (i.p 6) (ha.at 6 R)
   have kn := K1 g6_
   exact kn.g (L.mv Y R R (L.nil (X.dk kn ⟨im, Sub.fresh ib R, i.u 7 (fun _ _ _ q6 => by cases g6_.symm.trans q6; exact R)⟩)))
  ·rintro D e s35 ⟨im, ib, i⟩ hk hf ha
   obtain ⟨a33, c33, g6_, h33⟩ := (i.p 6) (ha.at 6 R)
   have g7_ := (i.p 7) (ha.at 7 R) a33 c33 g6_
   have kn := K1 g7_
   exact kn.g (L.ex Y R R R (L.nil (X.dk kn ⟨im, Sub.fresh ib R, i.u 8 (fun _ _ _ q6 => by cases g6_.symm.trans q6; exact R)⟩)))
  ·rintro D e s36 ⟨im, ib, i⟩ hk hf ha
   obtain ⟨a33, c33, g6_, h33⟩ := (i.p 6) (ha.at 6 R)
   have g7_ := (i.p 7) (ha.at 7 R) a33 c33 g6_
   have kn := K1 g7_
   exact kn.g (L.ex Y R R R (L.nil (X.dk kn ⟨im, Sub.fresh ib R, i.u 9 (fun _ => R)⟩)))
  ·rintro D e s37 ⟨im, ib, i⟩ hk hf ha
   obtain ⟨a33, c33, g6_, h33⟩ := (i.p 6) (ha.at 6 R)
   have g8_ := (i.p 8) (ha.at 8 R) a33 c33 g6_
   have kn := K1 g8_
   exact kn.g (L.as Y R R (L.nil (X.dk kn ⟨im, Sub.fresh ib R, i.u 10 (fun _ _ _ q6 => by cases g6_.symm.trans q6; exact R)⟩)))
  rintro D e s38 ⟨im, ib, i⟩ hk hf ha
  have kn := K1 ((i.p 9) (ha.at 9 R))
  exact kn.g (L.as Y R R (L.nil (X.dk kn ⟨im, Sub.fresh ib R, i.u 11 (fun _ => R)⟩)))
 rintro D e s39 hD ⟨im, ib, i⟩
 obtain ⟨a33, c33, g6_, h33⟩ := (i.p 6) (hD 6 R)
 have g10_ := (i.p 10) (hD 10 R) a33 c33 g6_
 have g11_ := (i.p 11) (hD 11 R)
 have m0 := m0.trans im.no
 refine X.sub (e' := [(7, .bool r30.2), (2, .slice a33 r30.1.length c33)]) ?_ (Sub.cons g11_ (Sub.cons g10_ Sub.nil))
 refine X.seqN (ER (L.mv Y R R (L.mv Y R R (L.not Y R R (L.as Y R R (L.as Y R R (L.as Y R R (LN (E.ret ?_)))))))))
 obtain rfl := oi hm
 exact X.rt (.inl R) Tryz.results10 (Rs.tmp R (Rs.tmp R (Rs.tmp R Rs.nil))) R ⟨_, (s39).ren N (fun _ => 0), R, R, m0.ren hNb, ⟨a33, c33, R, (h33.ren hN)⟩⟩

theorem bs37 : Bs Tryz.prog 37 30 4 [.slice none 0 0, .int .i64 0, .slice none 0 0, .slice none 0 0] := Bs.mk' Tryz.underlying37 (by kernel_rfl) (by kernel_rfl) rfl
theorem el30 : El Tryz.prog 30 4 80 := El.mk' (z := .agg #[.slice none 0 0, .int .i64 0, .slice none 0 0, .slice none 0 0]) (by kernel_rfl) (by kernel_rfl) (by kernel_rfl) rfl
noncomputable def m_overseerlaw24_waits (p0 : Int) : Option (List AutT) :=
 some ([(([0, 1] : List Int), 2, ([0] : List Int), ([(0, 0, 1), (1, 1, 0)] : List (Int × Int × Int))), (([0, 1] : List Int), 2, ([p0] : List Int), ([(0, 1, 1), (1, 0, 0)] : List (Int × Int × Int)))] : List AutT)
theorem m_overseerlaw24_waits_c {s : Sig} {p0 : Int} {r : (List AutT)} (hm : m_overseerlaw24_waits p0 = some r) :
    Calls Tryz.prog 43 #[.int .i64 p0] s.w (RetS No s fun v s' => ∃ (a1 : Option Addr) (c1 : Nat), v = .slice a1 r.length c1 ∧ RdL (rP (rL qI) (rP qI (rP (rL qI) (rL qT)))) s' a1 c1 r) := by
 unfold m_overseerlaw24_waits at hm
 obtain ⟨N, hN, hNb⟩ := s.fresh
 have m0 : Mv (Up N No) s s := Mv.refl _ _
 refine E.entry Tryz.func43 R Tryz.ntmps43 R R (ER (L.as Y R R (LN (ER (L.bsE (k := 2) (cs := [.int .i64 0, .int .i64 1]) 0 bs27 (nb R) Y R R R R fun b2 s3 m4 bx2 => ?_)))))
 have h2 := Bx.rdL (r := qI) (xs := ([0, 1] : List Int)) bx2 ⟨[.int .i64 0], _, R, R, ⟨[.int .i64 1], _, R, R, R⟩⟩ (nb R)
 refine L.bsE (k := 1) (cs := [.int .i64 0]) 0 bs27 (nb R) Y R R R R fun b5 s6 m7 bx5 => ?_
 have h5 := Bx.rdL (r := qI) (xs := ([0] : List Int)) bx5 ⟨[.int .i64 0], _, R, R, R⟩ (nb R)
 refine L.bu (cs := [.int .i64 0, .int .i64 0, .int .i64 1]) pl62 Y R R R (L.bu (cs := [.int .i64 1, .int .i64 1, .int .i64 0]) pl62 Y R R R (L.bsE (k := 2) (cs := [.int .i64 0, .int .i64 0, .int .i64 1, .int .i64 1, .int .i64 1, .int .i64 0]) 0 bs28 (nb R) Y R R R R fun b8 s9 m10 bx8 => ?_))
 have h8 := Bx.rdL (r := qT) (xs := ([(0, 0, 1), (1, 1, 0)] : List (Int × Int × Int))) bx8 ⟨[.int .i64 0, .int .i64 0, .int .i64 1], _, R, ⟨[.int .i64 0], [.int .i64 0, .int .i64 1], R, R, ⟨[.int .i64 0], [.int .i64 1], R, R, R⟩⟩, ⟨[.int .i64 1, .int .i64 1, .int .i64 0], _, R, ⟨[.int .i64 1], [.int .i64 1, .int .i64 0], R, R, ⟨[.int .i64 1], [.int .i64 0], R, R, R⟩⟩, R⟩⟩ (nb R)
 refine L.bu (cs := [.slice (some ⟨b2, 0, none⟩) ([0, 1] : List Int).length (([0, 1] : List Int).length), .int .i64 2, .slice (some ⟨b5, 0, none⟩) ([0] : List Int).length (([0] : List Int).length), .slice (some ⟨b8, 0, none⟩) ([(0, 0, 1), (1, 1, 0)] : List (Int × Int × Int)).length (([(0, 0, 1), (1, 1, 0)] : List (Int × Int × Int)).length)]) pl30 Y R R R (L.al (N + 0) zz30 R Y R fun b11 s12 m13 bx11 => ?_)
 refine L.st (c := [.slice (some ⟨b2, 0, none⟩) ([0, 1] : List Int).length (([0, 1] : List Int).length), .int .i64 2, .slice (some ⟨b5, 0, none⟩) ([0] : List Int).length (([0] : List Int).length), .slice (some ⟨b8, 0, none⟩) ([(0, 0, 1), (1, 1, 0)] : List (Int × Int × Int)).length (([(0, 0, 1), (1, 1, 0)] : List (Int × Int × Int)).length)]) (cs' := #[.slice (some ⟨b2, 0, none⟩) ([0, 1] : List Int).length (([0, 1] : List Int).length), .int .i64 2, .slice (some ⟨b5, 0, none⟩) ([0] : List Int).length (([0] : List Int).length), .slice (some ⟨b8, 0, none⟩) ([(0, 0, 1), (1, 1, 0)] : List (Int × Int × Int)).length (([(0, 0, 1), (1, 1, 0)] : List (Int × Int × Int)).length)]) bx11 ag30.sz Y R R R R R (nb R) R fun s14 m15 bx11 => ?_
 refine LN (ER (L.bsE (k := 2) (cs := [.int .i64 0, .int .i64 1]) 0 bs27 (nb R) Y R R R R fun b16 s17 m18 bx16 => ?_))
 have h16 := Bx.rdL (r := qI) (xs := ([0, 1] : List Int)) bx16 ⟨[.int .i64 0], _, R, R, ⟨[.int .i64 1], _, R, R, R⟩⟩ (nb R)
 refine L.mv Y R R (L.bsE (k := 1) (cs := [.int .i64 p0]) 0 bs27 (nb R) Y R R R R fun b19 s20 m21 bx19 => ?_)
 have h19 := Bx.rdL (r := qI) (xs := ([p0] : List Int)) bx19 ⟨[.int .i64 p0], _, R, R, R⟩ (nb R)
 refine L.bu (cs := [.int .i64 0, .int .i64 1, .int .i64 1]) pl62 Y R R R (L.bu (cs := [.int .i64 1, .int .i64 0, .int .i64 0]) pl62 Y R R R (L.bsE (k := 2) (cs := [.int .i64 0, .int .i64 1, .int .i64 1, .int .i64 1, .int .i64 0, .int .i64 0]) 0 bs28 (nb R) Y R R R R fun b22 s23 m24 bx22 => ?_))
 have h22 := Bx.rdL (r := qT) (xs := ([(0, 1, 1), (1, 0, 0)] : List (Int × Int × Int))) bx22 ⟨[.int .i64 0, .int .i64 1, .int .i64 1], _, R, ⟨[.int .i64 0], [.int .i64 1, .int .i64 1], R, R, ⟨[.int .i64 1], [.int .i64 1], R, R, R⟩⟩, ⟨[.int .i64 1, .int .i64 0, .int .i64 0], _, R, ⟨[.int .i64 1], [.int .i64 0, .int .i64 0], R, R, ⟨[.int .i64 0], [.int .i64 0], R, R, R⟩⟩, R⟩⟩ (nb R)
 refine L.bu (cs := [.slice (some ⟨b16, 0, none⟩) ([0, 1] : List Int).length (([0, 1] : List Int).length), .int .i64 2, .slice (some ⟨b19, 0, none⟩) ([p0] : List Int).length (([p0] : List Int).length), .slice (some ⟨b22, 0, none⟩) ([(0, 1, 1), (1, 0, 0)] : List (Int × Int × Int)).length (([(0, 1, 1), (1, 0, 0)] : List (Int × Int × Int)).length)]) pl30 Y R R R (L.al (N + 1) zz30 R Y R fun b25 s26 m27 bx25 => ?_)
 refine L.st (c := [.slice (some ⟨b16, 0, none⟩) ([0, 1] : List Int).length (([0, 1] : List Int).length), .int .i64 2, .slice (some ⟨b19, 0, none⟩) ([p0] : List Int).length (([p0] : List Int).length), .slice (some ⟨b22, 0, none⟩) ([(0, 1, 1), (1, 0, 0)] : List (Int × Int × Int)).length (([(0, 1, 1), (1, 0, 0)] : List (Int × Int × Int)).length)]) (cs' := #[.slice (some ⟨b16, 0, none⟩) ([0, 1] : List Int).length (([0, 1] : List Int).length), .int .i64 2, .slice (some ⟨b19, 0, none⟩) ([p0] : List Int).length (([p0] : List Int).length), .slice (some ⟨b22, 0, none⟩) ([(0, 1, 1), (1, 0, 0)] : List (Int × Int × Int)).length (([(0, 1, 1), (1, 0, 0)] : List (Int × Int × Int)).length)]) bx25 ag30.sz Y R R R R R (nb R) R fun s28 m29 bx25 => ?_
 replace bx11 := ((((bx11.mv m18 no_No).mv m21 no_No).mv m24 no_No).mv m27 no_No).mv m29 (tq R)
 refine LN (ER (L.lg (j := 0) (cs := [.slice (some ⟨b2, 0, none⟩) ([0, 1] : List Int).length (([0, 1] : List Int).length), .int .i64 2, .slice (some ⟨b5, 0, none⟩) ([0] : List Int).length (([0] : List Int).length), .slice (some ⟨b8, 0, none⟩) ([(0, 0, 1), (1, 1, 0)] : List (Int × Int × Int)).length (([(0, 0, 1), (1, 1, 0)] : List (Int × Int × Int)).length)]) bx11.mem ag30 Y R R R R R (L.lg (j := 0) (cs := [.slice (some ⟨b16, 0, none⟩) ([0, 1] : List Int).length (([0, 1] : List Int).length), .int .i64 2, .slice (some ⟨b19, 0, none⟩) ([p0] : List Int).length (([p0] : List Int).length), .slice (some ⟨b22, 0, none⟩) ([(0, 1, 1), (1, 0, 0)] : List (Int × Int × Int)).length (([(0, 1, 1), (1, 0, 0)] : List (Int × Int × Int)).length)]) bx25.mem ag30 Y R R R R R (L.bsE (k := 2) (cs := [.slice (some ⟨b2, 0, none⟩) ([0, 1] : List Int).length (([0, 1] : List Int).length), .int .i64 2, .slice (some ⟨b5, 0, none⟩) ([0] : List Int).length (([0] : List Int).length), .slice (some ⟨b8, 0, none⟩) ([(0, 0, 1), (1, 1, 0)] : List (Int × Int × Int)).length (([(0, 0, 1), (1, 1, 0)] : List (Int × Int × Int)).length), .slice (some ⟨b16, 0, none⟩) ([0, 1] : List Int).length (([0, 1] : List Int).length), .int .i64 2, .slice (some ⟨b19, 0, none⟩) ([p0] : List Int).length (([p0] : List Int).length), .slice (some ⟨b22, 0, none⟩) ([(0, 1, 1), (1, 0, 0)] : List (Int × Int × Int)).length (([(0, 1, 1), (1, 0, 0)] : List (Int × Int × Int)).length)]) 0 bs37 (nb R) Y R R R R fun b30 s31 m32 bx30 => ?_))))
 replace m0 := ((((((((((m0.trans m4.no).trans m7.no).trans m10.no).trans m13.no).trans (m15.one up)).trans m18.no).trans m21.no).trans m24.no).trans m27.no).trans (m29.one up)).trans m32.no
 replace h2 := (((((((((h2.mono m7.z).mono m10.z).mono m13.z).mono (m15.le (tg0 hN))).mono m18.z).mono m21.z).mono m24.z).mono m27.z).mono (m29.le (tg0 hN))).mono m32.z
 replace h5 := ((((((((h5.mono m10.z).mono m13.z).mono (m15.le (tg0 hN))).mono m18.z).mono m21.z).mono m24.z).mono m27.z).mono (m29.le (tg0 hN))).mono m32.z
 replace h8 := (((((((h8.mono m13.z).mono (m15.le (tg0 hN))).mono m18.z).mono m21.z).mono m24.z).mono m27.z).mono (m29.le (tg0 hN))).mono m32.z
 replace h16 := ((((h16.mono m21.z).mono m24.z).mono m27.z).mono (m29.le (tg0 hN))).mono m32.z
 replace h19 := (((h19.mono m24.z).mono m27.z).mono (m29.le (tg0 hN))).mono m32.z
 replace h22 := ((h22.mono m27.z).mono (m29.le (tg0 hN))).mono m32.z
 have h30 := Bx.rdL (r := (rP (rL qI) (rP qI (rP (rL qI) (rL qT))))) (xs := ([(([0, 1] : List Int), 2, ([0] : List Int), ([(0, 0, 1), (1, 1, 0)] : List (Int × Int × Int))), (([0, 1] : List Int), 2, ([p0] : List Int), ([(0, 1, 1), (1, 0, 0)] : List (Int × Int × Int)))] : List AutT)) bx30 ⟨[.slice (some ⟨b2, 0, none⟩) ([0, 1] : List Int).length (([0, 1] : List Int).length), .int .i64 2, .slice (some ⟨b5, 0, none⟩) ([0] : List Int).length (([0] : List Int).length), .slice (some ⟨b8, 0, none⟩) ([(0, 0, 1), (1, 1, 0)] : List (Int × Int × Int)).length (([(0, 0, 1), (1, 1, 0)] : List (Int × Int × Int)).length)], _, R, ⟨[.slice (some ⟨b2, 0, none⟩) ([0, 1] : List Int).length (([0, 1] : List Int).length)], [.int .i64 2, .slice (some ⟨b5, 0, none⟩) ([0] : List Int).length (([0] : List Int).length), .slice (some ⟨b8, 0, none⟩) ([(0, 0, 1), (1, 1, 0)] : List (Int × Int × Int)).length (([(0, 0, 1), (1, 1, 0)] : List (Int × Int × Int)).length)], R, ⟨_, _, R, h2⟩, ⟨[.int .i64 2], [.slice (some ⟨b5, 0, none⟩) ([0] : List Int).length (([0] : List Int).length), .slice (some ⟨b8, 0, none⟩) ([(0, 0, 1), (1, 1, 0)] : List (Int × Int × Int)).length (([(0, 0, 1), (1, 1, 0)] : List (Int × Int × Int)).length)], R, R, ⟨[.slice (some ⟨b5, 0, none⟩) ([0] : List Int).length (([0] : List Int).length)], [.slice (some ⟨b8, 0, none⟩) ([(0, 0, 1), (1, 1, 0)] : List (Int × Int × Int)).length (([(0, 0, 1), (1, 1, 0)] : List (Int × Int × Int)).length)], R, ⟨_, _, R, h5⟩, ⟨_, _, R, h8⟩⟩⟩⟩, ⟨[.slice (some ⟨b16, 0, none⟩) ([0, 1] : List Int).length (([0, 1] : List Int).length), .int .i64 2, .slice (some ⟨b19, 0, none⟩) ([p0] : List Int).length (([p0] : List Int).length), .slice (some ⟨b22, 0, none⟩) ([(0, 1, 1), (1, 0, 0)] : List (Int × Int × Int)).length (([(0, 1, 1), (1, 0, 0)] : List (Int × Int × Int)).length)], _, R, ⟨[.slice (some ⟨b16, 0, none⟩) ([0, 1] : List Int).length (([0, 1] : List Int).length)], [.int .i64 2, .slice (some ⟨b19, 0, none⟩) ([p0] : List Int).length (([p0] : List Int).length), .slice (some ⟨b22, 0, none⟩) ([(0, 1, 1), (1, 0, 0)] : List (Int × Int × Int)).length (([(0, 1, 1), (1, 0, 0)] : List (Int × Int × Int)).length)], R, ⟨_, _, R, h16⟩, ⟨[.int .i64 2], [.slice (some ⟨b19, 0, none⟩) ([p0] : List Int).length (([p0] : List Int).length), .slice (some ⟨b22, 0, none⟩) ([(0, 1, 1), (1, 0, 0)] : List (Int × Int × Int)).length (([(0, 1, 1), (1, 0, 0)] : List (Int × Int × Int)).length)], R, R, ⟨[.slice (some ⟨b19, 0, none⟩) ([p0] : List Int).length (([p0] : List Int).length)], [.slice (some ⟨b22, 0, none⟩) ([(0, 1, 1), (1, 0, 0)] : List (Int × Int × Int)).length (([(0, 1, 1), (1, 0, 0)] : List (Int × Int × Int)).length)], R, ⟨_, _, R, h19⟩, ⟨_, _, R, h22⟩⟩⟩⟩, R⟩⟩ (nb R)
 refine L.as Y R R (LN (E.ret ?_))
 obtain rfl := oi hm
 exact X.rt (.inl R) Tryz.results43 (Rs.tmp R Rs.nil) R ⟨_, (s31).ren N (fun _ => 0), R, R, m0.ren hNb, ⟨(some ⟨b30, 0, none⟩), ([(([0, 1] : List Int), 2, ([0] : List Int), ([(0, 0, 1), (1, 1, 0)] : List (Int × Int × Int))), (([0, 1] : List Int), 2, ([p0] : List Int), ([(0, 1, 1), (1, 0, 0)] : List (Int × Int × Int)))] : List AutT).length, R, (h30.ren hN)⟩⟩

theorem cf10 : Cf Tryz.prog 10 := Cf.mk Tryz.func10 (by kernel_rfl) (by kernel_rfl)
noncomputable def m_blocking_Culprits_j1 (st47 : Int × List Int) (l58 : List Int) : Option ((Int × List Int) ⊕ ((List Int) ⊕ Int)) :=
 some (.inl (W (st47.1 + 1), l58))
noncomputable def m_blocking_Culprits_l1 (p0 : List AutT) (st47 : Int × List Int) : Option ((Int × List Int) ⊕ ((List Int) ⊕ Int)) :=
 if decide (st47.1 < (p0.length : Int)) then
  (slc3 p0 0 st47.1 st47.1).bind fun x66 =>
  (slc p0 (W (st47.1 + 1)) (p0.length : Int)).bind fun x72 =>
  (app x66 x72).bind fun x75 =>
  (m_blocking_Nonblocking x75).bind fun r81 =>
  if (r81.2.2 != 0) then
   some (.inr (.inr (r81.2.2)))
  else
   if r81.2.1 then
    (app st47.2 ([st47.1] : List Int)).bind fun x88 =>
    m_blocking_Culprits_j1 st47 x88
   else
    m_blocking_Culprits_j1 st47 st47.2
 else
  some (.inr (.inl st47.2))
noncomputable def m_blocking_Culprits (p0 : List AutT) : Option (List Int × Int) :=
 (m_blocking_Nonblocking p0).bind fun r3 =>
 if (r3.2.2 != 0) then
  some (([] : List Int), r3.2.2)
 else
  if r3.2.1 then
   some (([] : List Int), 22)
  else
   (iter (m_blocking_Culprits_l1 p0) (0, ([] : List Int))).bind fun o47 =>
   match o47 with
   | .inl u52 =>
    some (u52, 0)
   | .inr (u55) =>
    some (([] : List Int), u55)
theorem m_blocking_Culprits_c {s : Sig} {p0 : List AutT} {a1 : Option Addr} {c1 : Nat} {u0 : Nat} {r : List Int × Int} (h1 : RdL (rP (rL qI) (rP qI (rP (rL qI) (rL qT)))) s a1 c1 p0) (hm : m_blocking_Culprits p0 = some r) :
    Calls Tryz.prog 44 #[.slice a1 p0.length c1] s.w (RetS No s fun v s' => ∃ (a2 : Option Addr) (c2 : Nat), v = .tuple #[.slice a2 r.1.length c2, .int .i64 r.2] ∧ RowT qI s' u0 3 a2 c2 r.1) := by
 unfold m_blocking_Culprits at hm
 obtain ⟨N, hN, hNb⟩ := s.fresh
 have m0 : Mv (Up N No) s s := Mv.refl _ _
 refine E.entry Tryz.func44 R Tryz.ntmps44 R R (ER (L.as Y R R (L.as Y R R (LN (ER (L.mv Y R R ?_))))))
 obtain ⟨r3, er3, hm⟩ := bindS hm
 refine L.ca cf10 R R Y R (m_blocking_Nonblocking_c (s := s) (p0 := p0) h1 er3) R ?_
 rintro _ s4 m5 ⟨a6, c6, rfl, h6⟩
 replace m0 := m0.trans m5.no
 replace h1 := h1.mono m5.z
 refine L.mv Y R R (L.ex Y R R R (L.ex Y R R R (L.ex Y R R R (L.as Y R R (L.as Y R R (L.as Y R R (LN (E.seq (ER (L.mv Y R R (L.bi Y R R R R (L.nil (X.seqN ?_)))))))))))))
 rcases ifS hm with ⟨hc, hm⟩ | ⟨hc, hm⟩
 ·refine E.cT R hc (ER (L.mv Y R R (L.as Y R R (L.as Y R R (LN (E.ret (X.seqR ?_)))))))
  obtain rfl := oi hm
  exact X.rt (.inl R) Tryz.results44 (Rs.tmp R (Rs.tmp R Rs.nil)) R ⟨_, (s4).ren N (fun _ => 0), R, R, m0.ren hNb, ⟨none, 0, R, RowT.nil⟩⟩
 refine E.cF R hc (E.skip (X.seqN (E.seq (ER (L.mv Y R R (L.nil (X.seqN ?_)))))))
 rcases ifS hm with ⟨hc, hm⟩ | ⟨hc, hm⟩
 ·refine E.cT R hc (ER (L.as Y R R (L.as Y R R (LN (E.ret (X.seqR ?_))))))
  obtain rfl := oi hm
  exact X.rt (.inl R) Tryz.results44 (Rs.tmp R (Rs.tmp R Rs.nil)) R ⟨_, (s4).ren N (fun _ => 0), R, R, m0.ren hNb, ⟨none, 0, R, RowT.nil⟩⟩
 refine E.cF R hc (E.skip (X.seqN (ER (L.as Y R R (LN (E.seq (ER (L.mv Y R R (L.len sl37 Y R R (L.mv Y R R (LN (E.block ?_))))))))))))
 obtain ⟨o47, eo47, hm⟩ := bindS hm
 refine E.cut (x := .exit 0) (fun e w => ∃ (s53 : Sig) (u52 : List Int) (a49 : Option Addr) (c49 : Nat), o47 = .inl u52 ∧ Mv (Up N No) s s53 ∧ RowT qI s53 (N + 0) 3 a49 c49 u52 ∧ e = [(7, .slice a49 u52.length c49)] ∧ w = s53.w) ?_ ?_
 ·rintro _ _ ⟨s53, u52, a49, c49, rfl, m0, h49, rfl, rfl⟩
  dsimp only at hm
  refine X.blkE (X.seqN (ER (L.mv Y R R (L.as Y R R (L.as Y R R (LN (E.ret ?_)))))))
  obtain rfl := oi hm
  exact X.rt (.inl R) Tryz.results44 (Rs.tmp R (Rs.tmp R Rs.nil)) R ⟨_, (s53).ren N (fun k => cond (Nat.beq k 0) u0 (0)), R, R, m0.ren hNb, ⟨a49, c49, R, (h49.ren hN)⟩⟩
 intro K54
 refine E.cut (x := .ret) (fun e w => ∃ (s56 : Sig) (u55 : Int), o47 = .inr (u55) ∧ Mv (Up N No) s s56 ∧ e = [(3, .int .i64 u55), (2, .slice none 0 0)] ∧ w = s56.w) ?_ ?_
 ·rintro _ _ ⟨s56, u55, rfl, m0, rfl, rfl⟩
  dsimp only at hm
  refine X.blkR (X.seqR ?_)
  obtain rfl := oi hm
  exact X.rt (.inl R) Tryz.results44 (Rs.tmp R (Rs.tmp R Rs.nil)) R ⟨_, (s56).ren N (fun _ => 0), R, R, m0.ren hNb, ⟨none, 0, R, RowT.nil⟩⟩
 intro K57
 refine E.iter (fun (st47 : Int × List Int) (e : List (Nat × Value)) (w : World) => ∃ (s51 : Sig) (a9 : Option Addr) (c9 : Nat), Mv (Up N No) s s51 ∧ RowT qI s51 (N + 0) 3 a9 c9 st47.2 ∧ RdL (rP (rL qI) (rP qI (rP (rL qI) (rL qT)))) s51 a1 c1 p0 ∧ e = [(25, .int .i64 st47.1), (24, .int .i64 (p0.length : Int)), (7, .slice a9 st47.2.length c9), (0, .slice a1 p0.length c1)] ∧ w = s51.w) eo47 ⟨s4, none, 0, m0, RowT.nil, h1, R, R⟩ (Sub.rf R) ?_
 rintro st47 res47 hm ih47 ho47 _ _ ⟨s51, a9, c9, m0, h9, h1, rfl, rfl⟩
 unfold m_blocking_Culprits_l1 at hm
 refine ER (L.bi Y R R R R (LN (E.seq ?_)))
 rcases ifS hm with ⟨hc, hm⟩ | ⟨hc, hm⟩
 ·refine E.cT R hc (E.skip (X.seqN (E.seqJ (fun e w => ∃ (s60 : Sig) (l58 : List Int) (a59 : Option Addr) (c59 : Nat), m_blocking_Culprits_j1 st47 l58 = some res47 ∧ Mv (Up N No) s s60 ∧ RowT qI s60 (N + 0) 3 a59 c59 l58 ∧ RdL (rP (rL qI) (rP qI (rP (rL qI) (rL qT)))) s60 a1 c1 p0 ∧ e = [(7, .slice a59 l58.length c59), (25, .int .i64 st47.1), (24, .int .i64 (p0.length : Int)), (0, .slice a1 p0.length c1)] ∧ w = s60.w) ?_ ?_)))
  ·rintro _ _ ⟨s60, l58, a59, c59, hm, m0, h59, h1, rfl, rfl⟩
   unfold m_blocking_Culprits_j1 at hm
   exact E.reg (L.bi Y R R R R (L.mv Y R R (L.nil (X.sub (ih47 _ (oi hm).symm _ _ ⟨s60, a59, c59, m0, h59, h1, R, R⟩) (Sub.rf R)))))
  intro Jj61
  refine E.block (ER (L.mv Y R R (L.as Y R R (LN (E.seq ?_)))))
  obtain ⟨x66, ex66, hm⟩ := bindS hm
  obtain ⟨x72, ex72, hm⟩ := bindS hm
  obtain ⟨x75, ex75, hm⟩ := bindS hm
  refine E.draw [[], [], [], [0, 1, 2], [], [], [5], [4, 5, 6], [0, 1, 2, 3, 4, 5, 6, 7], [0, 1, 2, 3, 4, 5, 6, 7, 8]] (fun D e sx => Mv No s51 sx ∧ Sub [(8, .int .i64 st47.1), (25, .int .i64 st47.1), (24, .int .i64 (p0.length : Int)), (7, .slice a9 st47.2.length c9), (0, .slice a1 p0.length c1)] e ∧ AllP [G D e 0 28 (.slice a1 p0.length c1), G D e 1 29 (.int .i64 st47.1), G D e 2 30 (.int .i64 st47.1), D 3 = true → (∃ (a67 : Option Addr), Env.get e 31 = some (.slice a67 x66.length x66.length) ∧ RdL (rP (rL qI) (rP qI (rP (rL qI) (rL qT)))) sx a67 x66.length x66), G D e 4 32 (.slice a1 p0.length c1), G D e 5 33 (.int .i64 st47.1), G D e 6 34 (.int .i64 (W (st47.1 + 1))), D 7 = true → (∃ (a73 : Option Addr) (c73 : Nat), Env.get e 35 = some (.slice a73 x72.length c73) ∧ RdL (rP (rL qI) (rP qI (rP (rL qI) (rL qT)))) sx a73 c73 x72), D 8 = true → (∃ (a76 : Option Addr) (c76 : Nat), Env.get e 36 = some (.slice a76 x75.length c76) ∧ RdL (rP (rL qI) (rP qI (rP (rL qI) (rL qT)))) sx a76 c76 x75), D 9 = true → ∀ (a76 : Option Addr) (c76 : Nat), Env.get e 36 = some (.slice a76 x75.length c76) → (Env.get e 9 = some (.slice a76 x75.length c76))]) (by kernel_rfl) (by kernel_rfl) (by kernel_rfl) ?_ ?_ ?_
  ·intro sz mz
   exact ⟨mz, (Sub.rf R), nofun, nofun, nofun, nofun, nofun, nofun, nofun, nofun, nofun, nofun, trivial⟩
  ·refine ⟨?_, ?_, ?_, ?_, ?_, ?_, ?_, ?_, ?_, ?_, trivial⟩
   ·rintro D e s62 ⟨im, ib, i⟩ hk hf ha
    have kn := K1 (ib 0 _ R)
    exact kn.g (L.mv Y R R (L.nil (X.dk kn ⟨im, Sub.fresh ib R, i.u 0 (fun _ => R)⟩)))
   ·rintro D e s63 ⟨im, ib, i⟩ hk hf ha
    have kn := K1 (ib 8 _ R)
    exact kn.g (L.mv Y R R (L.nil (X.dk kn ⟨im, Sub.fresh ib R, i.u 1 (fun _ => R)⟩)))
   ·rintro D e s64 ⟨im, ib, i⟩ hk hf ha
    have kn := K1 (ib 8 _ R)
    exact kn.g (L.mv Y R R (L.nil (X.dk kn ⟨im, Sub.fresh ib R, i.u 2 (fun _ => R)⟩)))
   ·rintro D e s65 ⟨im, ib, i⟩ hk hf ha
    have h1 := h1.mono im.z
    have kn := K3 ((i.p 0) (ha.at 0 R)) ((i.p 1) (ha.at 1 R)) ((i.p 2) (ha.at 2 R))
    exact kn.g (L.s30f (r := (rP (rL qI) (rP qI (rP (rL qI) (rL qT))))) sl37 h1 Y R R R R ex66 R fun a67 h67 => L.nil (X.dk kn ⟨im, Sub.fresh ib R, i.u 3 (fun _ => ⟨a67, R, h67⟩)⟩))
   ·rintro D e s68 ⟨im, ib, i⟩ hk hf ha
    have kn := K1 (ib 0 _ R)
    exact kn.g (L.mv Y R R (L.nil (X.dk kn ⟨im, Sub.fresh ib R, i.u 4 (fun _ => R)⟩)))
   ·rintro D e s69 ⟨im, ib, i⟩ hk hf ha
    have kn := K1 (ib 8 _ R)
    exact kn.g (L.mv Y R R (L.nil (X.dk kn ⟨im, Sub.fresh ib R, i.u 5 (fun _ => R)⟩)))
   ·rintro D e s70 ⟨im, ib, i⟩ hk hf ha
    have kn := K1 ((i.p 5) (ha.at 5 R))
    exact kn.g (L.bi Y R R R R (L.nil (X.dk kn ⟨im, Sub.fresh ib R, i.u 6 (fun _ => R)⟩)))
   ·rintro D e s71 ⟨im, ib, i⟩ hk hf ha
    have h1 := h1.mono im.z
    have kn := K2 ((i.p 4) (ha.at 4 R)) ((i.p 6) (ha.at 6 R))
    exact kn.g (L.sf (r := (rP (rL qI) (rP qI (rP (rL qI) (rL qT))))) sl37 h1 Y R R ex72 R fun a73 c73 h73 => L.nil (X.dk kn ⟨im, Sub.fresh ib R, i.u 7 (fun _ => ⟨a73, c73, R, h73⟩)⟩))
   ·rintro D e s74 ⟨im, ib, i⟩ hk hf ha
    obtain ⟨a67, g3_, h67⟩ := (i.p 3) (ha.at 3 R)
    obtain ⟨a73, c73, g7_, h73⟩ := (i.p 7) (ha.at 7 R)
    have kn := K2 g3_ g7_
    exact kn.g (L.apf (r := (rP (rL qI) (rP qI (rP (rL qI) (rL qT))))) Tryz.underlying37 el30 R h67 h73.wk Y R R ex75 R fun a76 c76 s77 m78 h76 => L.nil (X.dk kn ⟨im.trans m78.no, Sub.fresh ib R, (((i.u 3 (fun z => let ⟨a67, q, h67⟩ := (i.p 3) z; ⟨a67, q, (h67.mono m78.z)⟩)).u 7 (fun z => let ⟨a73, c73, q, h73⟩ := (i.p 7) z; ⟨a73, c73, q, (h73.mono m78.z)⟩)).u 8 (fun _ => ⟨a76, c76, R, h76⟩)).u 9 (fun z => Bool.noConfusion ((hf 9 (nb R) R).symm.trans z))⟩))
   rintro D e s79 ⟨im, ib, i⟩ hk hf ha
   obtain ⟨a76, c76, g8_, h76⟩ := (i.p 8) (ha.at 8 R)
   have kn := K1 g8_
   exact kn.g (L.as Y R R (L.nil (X.dk kn ⟨im, Sub.fresh ib R, i.u 9 (fun _ _ _ q8 => by cases g8_.symm.trans q8; exact R)⟩)))
  rintro D e s80 hD ⟨im, ib, i⟩
  obtain ⟨a76, c76, g8_, h76⟩ := (i.p 8) (hD 8 R)
  have g9_ := (i.p 9) (hD 9 R) a76 c76 g8_
  have h9 := h9.mv im no_No no_No
  have h1 := h1.mono im.z
  have m0 := m0.trans im.no
  refine X.sub (e' := [(9, .slice a76 x75.length c76), (8, .int .i64 st47.1), (25, .int .i64 st47.1), (24, .int .i64 (p0.length : Int)), (7, .slice a9 st47.2.length c9), (0, .slice a1 p0.length c1)]) ?_ (Sub.cons g9_ (Sub.cons (ib 8 _ R) (Sub.cons (ib 25 _ R) (Sub.cons (ib 24 _ R) (Sub.cons (ib 7 _ R) (Sub.cons (ib 0 _ R) Sub.nil))))))
  refine X.seqN (ER (L.mv Y R R ?_))
  obtain ⟨r81, er81, hm⟩ := bindS hm
  refine L.ca cf10 R R Y R (m_blocking_Nonblocking_c (s := s80) (p0 := x75) h76 er81) R ?_
  rintro _ s82 m83 ⟨a84, c84, rfl, h84⟩
  replace m0 := m0.trans m83.no
  replace h1 := h1.mono m83.z
  replace h9 := h9.mv m83 no_No no_No
  refine L.mv Y R R (L.ex Y R R R (L.ex Y R R R (L.ex Y R R R (L.as Y R R (L.as Y R R (L.as Y R R (LN (E.seq (ER (L.mv Y R R (L.bi Y R R R R (L.nil (X.seqN ?_)))))))))))))
  rcases ifS hm with ⟨hc, hm⟩ | ⟨hc, hm⟩
  ·refine E.cT R hc (ER (L.mv Y R R (L.as Y R R (L.as Y R R (LN (E.ret (X.seqR (X.blkR (X.seqR (X.seqR ?_))))))))))
   have hx := ho47 _ (oi hm).symm
   exact X.sub (K57 _ _ ⟨s82, r81.2.2, hx.symm, m0, R, R⟩) (Sub.rf R)
  refine E.cF R hc (E.skip (X.seqN (ER (L.mv Y R R (L.nil (X.seqN ?_))))))
  rcases ifS hm with ⟨hc, hm⟩ | ⟨hc, hm⟩
  ·refine E.cT R hc (E.reg (L.mv Y R R (L.mv Y R R (L.bsE (k := 1) (cs := [.int .i64 st47.1]) 0 bs27 (nb R) Y R R R R fun b85 s86 m87 bx85 => ?_))))
   replace h9 := h9.mv m87 no_No no_No
   have h85 := Bx.rdL (r := qI) (xs := ([st47.1] : List Int)) bx85 ⟨[.int .i64 st47.1], _, R, R, R⟩ (nb R)
   obtain ⟨x88, ex88, hm⟩ := bindS hm
   refine L.ap (r := qI) Tryz.underlying27 el3 R (tgp hN) h9 h85.wk Y R R ex88 R fun a89 c89 s90 m91 h89 => ?_
   replace m0 := (m0.trans m87.no).trans (m91.one up)
   replace h1 := (h1.mono m87.z).mono (m91.le (tg0 hN))
   exact L.as Y R R (L.nil (X.blkN (X.sub (Jj61 _ _ ⟨s90, x88, a89, c89, hm, m0, h89, h1, R, R⟩) (Sub.rf R))))
  exact E.cF R hc (E.skip (X.blkN (X.sub (Jj61 _ _ ⟨s82, st47.2, a9, c9, hm, m0, h9, h1, R, R⟩) (Sub.rf R))))
 refine E.cF R hc (E.exit (X.seqX (X.seqX ?_)))
 have hx := ho47 _ (oi hm).symm
 exact X.sub (K54 _ _ ⟨s51, st47.2, a9, c9, hx.symm, m0, h9, R, R⟩) (Sub.rf R)

noncomputable def m_overseerlaw24_same_l1 (p0 : List Int) (p1 : List Int) (st19 : Int) : Option (Int ⊕ (Unit ⊕ Unit)) :=
 if decide (st19 < (p0.length : Int)) then
  (idx p0 st19).bind fun x30 =>
  (idx p1 st19).bind fun x36 =>
  if (x30 != x36) then
   some (.inr (.inr (())))
  else
   some (.inl (W (st19 + 1)))
 else
  some (.inr (.inl ()))
noncomputable def m_overseerlaw24_same (p0 : List Int) (p1 : List Int) : Option Bool :=
 if ((p0.length : Int) != (p1.length : Int)) then
  some false
 else
  (iter (m_overseerlaw24_same_l1 p0 p1) 0).bind fun o19 =>
  match o19 with
  | .inl u21 =>
   some true
  | .inr (u24) =>
   some false
theorem m_overseerlaw24_same_c {s : Sig} {p0 : List Int} {p1 : List Int} {a1 : Option Addr} {c1 : Nat} {a2 : Option Addr} {c2 : Nat} {r : Bool} (h1 : RdL qI s a1 c1 p0) (h2 : RdL qI s a2 c2 p1) (hm : m_overseerlaw24_same p0 p1 = some r) :
    Calls Tryz.prog 26 #[.slice a1 p0.length c1, .slice a2 p1.length c2] s.w (RetS No s fun v s' => v = .bool r) := by
 unfold m_overseerlaw24_same at hm
 obtain ⟨N, hN, hNb⟩ := s.fresh
 have m0 : Mv (Up N No) s s := Mv.refl _ _
 refine E.entry Tryz.func26 R Tryz.ntmps26 R R (ER (L.as Y R R (LN (E.seq (ER (L.mv Y R R (L.len sl27 Y R R (L.mv Y R R (L.len sl27 Y R R (L.bi Y R R R R (L.nil (X.seqN ?_))))))))))))
 rcases ifS hm with ⟨hc, hm⟩ | ⟨hc, hm⟩
 ·refine E.cT R hc (ER (L.as Y R R (LN (E.ret (X.seqR ?_)))))
  obtain rfl := oi hm
  exact X.rt (.inl R) Tryz.results26 (Rs.tmp R Rs.nil) R ⟨_, (s).ren N (fun _ => 0), R, R, m0.ren hNb, R⟩
 refine E.cF R hc (E.skip (X.seqN (E.seq (ER (L.as Y R R (LN (E.block ?_)))))))
 obtain ⟨o19, eo19, hm⟩ := bindS hm
 refine E.cut (x := .exit 0) (fun e w => ∃ (s22 : Sig) (u21 : Unit), o19 = .inl u21 ∧ Mv (Up N No) s s22 ∧ e = [] ∧ w = s22.w) ?_ ?_
 ·rintro _ _ ⟨s22, u21, rfl, m0, rfl, rfl⟩
  dsimp only at hm
  refine X.blkE (X.seqN (ER (L.as Y R R (LN (E.ret ?_)))))
  obtain rfl := oi hm
  exact X.rt (.inl R) Tryz.results26 (Rs.tmp R Rs.nil) R ⟨_, (s22).ren N (fun _ => 0), R, R, m0.ren hNb, R⟩
 intro K23
 refine E.cut (x := .ret) (fun e w => ∃ (s25 : Sig) (u24 : Unit), o19 = .inr (u24) ∧ Mv (Up N No) s s25 ∧ e = [(4, .bool false)] ∧ w = s25.w) ?_ ?_
 ·rintro _ _ ⟨s25, u24, rfl, m0, rfl, rfl⟩
  dsimp only at hm
  refine X.blkR (X.seqR ?_)
  obtain rfl := oi hm
  exact X.rt (.inl R) Tryz.results26 (Rs.tmp R Rs.nil) R ⟨_, (s25).ren N (fun _ => 0), R, R, m0.ren hNb, R⟩
 intro K26
 refine E.iter (fun (st19 : Int) (e : List (Nat × Value)) (w : World) => ∃ (s20 : Sig), Mv (Up N No) s s20 ∧ RdL qI s20 a1 c1 p0 ∧ RdL qI s20 a2 c2 p1 ∧ e = [(5, .int .i64 st19), (0, .slice a1 p0.length c1), (1, .slice a2 p1.length c2)] ∧ w = s20.w) eo19 ⟨s, m0, h1, h2, R, R⟩ (Sub.rf R) ?_
 rintro st19 res19 hm ih19 ho19 _ _ ⟨s20, m0, h1, h2, rfl, rfl⟩
 unfold m_overseerlaw24_same_l1 at hm
 refine E.seq (ER (L.mv Y R R (L.mv Y R R (L.len sl27 Y R R (L.bi Y R R R R (L.nil (X.seqN ?_)))))))
 rcases ifS hm with ⟨hc, hm⟩ | ⟨hc, hm⟩
 ·refine E.cT R hc (E.skip (X.seqN (E.seq (E.block (E.seq ?_)))))
  obtain ⟨x30, ex30, hm⟩ := bindS hm
  obtain ⟨x36, ex36, hm⟩ := bindS hm
  refine E.draw [[], [], [0, 1], [0, 1, 2], [], [], [4, 5], [4, 5, 6], [0, 1, 2, 3, 4, 5, 6, 7]] (fun D e sx => Mv No s20 sx ∧ Sub [(5, .int .i64 st19), (0, .slice a1 p0.length c1), (1, .slice a2 p1.length c2)] e ∧ AllP [G D e 0 17 (.slice a1 p0.length c1), G D e 1 18 (.int .i64 st19), D 2 = true → (∃ (b31 : Nat) (o31 : Nat), Env.get e 19 = some (.pointer (some ⟨b31, o31, none⟩)) ∧ Mem sx 0 b31 o31 [.int .i64 x30]), G D e 3 20 (.int .i64 x30), G D e 4 21 (.slice a2 p1.length c2), G D e 5 22 (.int .i64 st19), D 6 = true → (∃ (b37 : Nat) (o37 : Nat), Env.get e 23 = some (.pointer (some ⟨b37, o37, none⟩)) ∧ Mem sx 0 b37 o37 [.int .i64 x36]), G D e 7 24 (.int .i64 x36), G D e 8 25 (.bool (x30 != x36))]) (by kernel_rfl) (by kernel_rfl) (by kernel_rfl) ?_ ?_ ?_
  ·intro sz mz
   exact ⟨mz, (Sub.rf R), nofun, nofun, nofun, nofun, nofun, nofun, nofun, nofun, nofun, trivial⟩
  ·refine ⟨?_, ?_, ?_, ?_, ?_, ?_, ?_, ?_, ?_, trivial⟩
   ·rintro D e s27 ⟨im, ib, i⟩ hk hf ha
    have kn := K1 (ib 0 _ R)
    exact kn.g (L.mv Y R R (L.nil (X.dk kn ⟨im, Sub.fresh ib R, i.u 0 (fun _ => R)⟩)))
   ·rintro D e s28 ⟨im, ib, i⟩ hk hf ha
    have kn := K1 (ib 5 _ R)
    exact kn.g (L.mv Y R R (L.nil (X.dk kn ⟨im, Sub.fresh ib R, i.u 1 (fun _ => R)⟩)))
   ·rintro D e s29 ⟨im, ib, i⟩ hk hf ha
    have h1 := h1.mono im.z
    have kn := K2 ((i.p 0) (ha.at 0 R)) ((i.p 1) (ha.at 1 R))
    refine kn.g (L.ix (r := qI) sl27 h1 Y R R ex30 R fun b31 o31 cc31 me31 rd31 => ?_)
    obtain rfl := rd31
    exact L.nil (X.dk kn ⟨im, Sub.fresh ib R, i.u 2 (fun _ => ⟨b31, o31, R, me31⟩)⟩)
   ·rintro D e s32 ⟨im, ib, i⟩ hk hf ha
    obtain ⟨b31, o31, g2_, me31⟩ := (i.p 2) (ha.at 2 R)
    have kn := K1 g2_
    exact kn.g (L.ld (j := 0) me31 nag3 Y R R R R (L.nil (X.dk kn ⟨im, Sub.fresh ib R, i.u 3 (fun _ => R)⟩)))
   ·rintro D e s33 ⟨im, ib, i⟩ hk hf ha
    have kn := K1 (ib 1 _ R)
    exact kn.g (L.mv Y R R (L.nil (X.dk kn ⟨im, Sub.fresh ib R, i.u 4 (fun _ => R)⟩)))
   ·rintro D e s34 ⟨im, ib, i⟩ hk hf ha
    have kn := K1 (ib 5 _ R)
    exact kn.g (L.mv Y R R (L.nil (X.dk kn ⟨im, Sub.fresh ib R, i.u 5 (fun _ => R)⟩)))
   ·rintro D e s35 ⟨im, ib, i⟩ hk hf ha
    have h2 := h2.mono im.z
    have kn := K2 ((i.p 4) (ha.at 4 R)) ((i.p 5) (ha.at 5 R))
    refine kn.g (L.ix (r := qI) sl27 h2 Y R R ex36 R fun b37 o37 cc37 me37 rd37 => ?_)
    obtain rfl := rd37
    exact L.nil (X.dk kn ⟨im, Sub.fresh ib R, i.u 6 (fun _ => ⟨b37, o37, R, me37⟩)⟩)
   ·rintro D e s38 ⟨im, ib, i⟩ hk hf ha
    obtain ⟨b37, o37, g6_, me37⟩ := (i.p 6) (ha.at 6 R)
    have kn := K1 g6_
    exact kn.g (L.ld (j := 0) me37 nag3 Y R R R R (L.nil (X.dk kn ⟨im, Sub.fresh ib R, i.u 7 (fun _ => R)⟩)))
   rintro D e s39 ⟨im, ib, i⟩ hk hf ha
   have kn := K2 ((i.p 3) (ha.at 3 R)) ((i.p 7) (ha.at 7 R))
   exact kn.g (L.bi Y R R R R (L.nil (X.dk kn ⟨im, Sub.fresh ib R, i.u 8 (fun _ => R)⟩)))
  rintro D e s40 hD ⟨im, ib, i⟩
  have g8_ := (i.p 8) (hD 8 R)
  have h1 := h1.mono im.z
  have h2 := h2.mono im.z
  have m0 := m0.trans im.no
  refine X.sub (e' := [(25, .bool (x30 != x36)), (5, .int .i64 st19), (0, .slice a1 p0.length c1), (1, .slice a2 p1.length c2)]) ?_ (Sub.cons g8_ (Sub.cons (ib 5 _ R) (Sub.cons (ib 0 _ R) (Sub.cons (ib 1 _ R) Sub.nil))))
  refine X.seqN ?_
  rcases ifS hm with ⟨hc, hm⟩ | ⟨hc, hm⟩
  ·refine E.cT R hc (ER (L.as Y R R (LN (E.ret (X.blkR (X.seqR (X.seqR ?_)))))))
   have hx := ho19 _ (oi hm).symm
   exact X.sub (K26 _ _ ⟨s40, (), hx.symm, m0, R, R⟩) (Sub.rf R)
  exact E.cF R hc (E.skip (X.blkN (X.seqN (E.reg (L.mv Y R R (L.bi Y R R R R (L.as Y R R (L.nil (X.sub (ih19 _ (oi hm).symm _ _ ⟨s40, m0, h1, h2, R, R⟩) (Sub.rf R))))))))))
 refine E.cF R hc (E.exit (X.seqX (X.seqX ?_)))
 have hx := ho19 _ (oi hm).symm
 exact X.sub (K23 _ _ ⟨s20, (), hx.symm, m0, R, R⟩) Sub.nil

theorem cf17 : Cf Tryz.prog 17 := Cf.mk Tryz.func17 (by kernel_rfl) (by kernel_rfl)
theorem cf26 : Cf Tryz.prog 26 := Cf.mk Tryz.func26 (by kernel_rfl) (by kernel_rfl)
theorem cf42 : Cf Tryz.prog 42 := Cf.mk Tryz.func42 (by kernel_rfl) (by kernel_rfl)
theorem cf43 : Cf Tryz.prog 43 := Cf.mk Tryz.func43 (by kernel_rfl) (by kernel_rfl)
theorem cf44 : Cf Tryz.prog 44 := Cf.mk Tryz.func44 (by kernel_rfl) (by kernel_rfl)
noncomputable def m_overseerlaw24_known : Option Bool :=
 (m_overseerlaw24_example).bind fun r1 =>
 (m_blocking_Kinds r1).bind fun r7 =>
 (m_overseerlaw24_example).bind fun r11 =>
 (m_blocking_Nonblocking ([r11] : List AutT)).bind fun r20 =>
 (m_overseerlaw24_waits 1).bind fun r24 =>
 (m_blocking_Nonblocking r24).bind fun r28 =>
 (m_overseerlaw24_waits 1).bind fun r32 =>
 (m_blocking_Culprits r32).bind fun r36 =>
 (m_overseerlaw24_waits 0).bind fun r40 =>
 (m_blocking_Nonblocking r40).bind fun r44 =>
 (if (r7.2 == 0) then
  (m_overseerlaw24_same r7.1 ([2, 1, 4, 4, 3] : List Int)).bind fun r89 =>
  some r89
 else
  some false).bind fun b48 =>
 (if ((b48 && (r20.2.2 == 0)) && (!r20.2.1)) then
  (m_overseerlaw24_same r20.1 ([1] : List Int)).bind fun r80 =>
  some r80
 else
  some false).bind fun b53 =>
 (if (((b53 && (r28.2.2 == 0)) && (!r28.2.1)) && (r36.2 == 0)) then
  (m_overseerlaw24_same r36.1 ([0, 1] : List Int)).bind fun r70 =>
  some r70
 else
  some false).bind fun b59 =>
 some ((b59 && (r44.2.2 == 0)) && r44.2.1)
theorem m_overseerlaw24_known_c {s : Sig} {r : Bool} (hm : m_overseerlaw24_known = some r) :
    Calls Tryz.prog 14 #[] s.w (RetS No s fun v s' => v = .bool r) := by
 unfold m_overseerlaw24_known at hm
 obtain ⟨N, hN, hNb⟩ := s.fresh
 have m0 : Mv (Up N No) s s := Mv.refl _ _
 refine E.entry Tryz.func14 R Tryz.ntmps14 R R (ER (L.as Y R R (LN (E.seq (E.reg ?_)))))
 obtain ⟨r1, er1, hm⟩ := bindS hm
 refine L.ca cf42 R R Y R (m_overseerlaw24_example_c (s := s) er1) R ?_
 rintro _ s2 m3 ⟨a4, c4, a5, c5, a6, c6, rfl, h4, h5, h6⟩
 obtain ⟨r7, er7, hm⟩ := bindS hm
 refine L.ca cf17 R R Y R (m_blocking_Kinds_c (s := s2) (p0 := r1) (u0 := 0) h4 h5 h6 er7) R ?_
 rintro _ s8 m9 ⟨a10, c10, rfl, h10⟩
 refine L.mv Y R R (L.ex Y R R R (L.ex Y R R R (L.as Y R R (L.as Y R R (LN (E.seq (E.reg ?_)))))))
 obtain ⟨r11, er11, hm⟩ := bindS hm
 refine L.ca cf42 R R Y R (m_overseerlaw24_example_c (s := s8) er11) R ?_
 rintro _ s12 m13 ⟨a14, c14, a15, c15, a16, c16, rfl, h14, h15, h16⟩
 refine L.bsE (k := 1) (cs := [.slice a14 r11.1.length c14, .int .i64 r11.2.1, .slice a15 r11.2.2.1.length c15, .slice a16 r11.2.2.2.length c16]) 0 bs37 (nb R) Y R R R R fun b17 s18 m19 bx17 => ?_
 replace h14 := h14.mono m19.z
 replace h15 := h15.mono m19.z
 replace h16 := h16.mono m19.z
 have h17 := Bx.rdL (r := (rP (rL qI) (rP qI (rP (rL qI) (rL qT))))) (xs := ([r11] : List AutT)) bx17 ⟨[.slice a14 r11.1.length c14, .int .i64 r11.2.1, .slice a15 r11.2.2.1.length c15, .slice a16 r11.2.2.2.length c16], _, R, ⟨[.slice a14 r11.1.length c14], [.int .i64 r11.2.1, .slice a15 r11.2.2.1.length c15, .slice a16 r11.2.2.2.length c16], R, ⟨_, _, R, h14⟩, ⟨[.int .i64 r11.2.1], [.slice a15 r11.2.2.1.length c15, .slice a16 r11.2.2.2.length c16], R, R, ⟨[.slice a15 r11.2.2.1.length c15], [.slice a16 r11.2.2.2.length c16], R, ⟨_, _, R, h15⟩, ⟨_, _, R, h16⟩⟩⟩⟩, R⟩ (nb R)
 obtain ⟨r20, er20, hm⟩ := bindS hm
 refine L.ca cf10 R R Y R (m_blocking_Nonblocking_c (s := s18) (p0 := ([r11] : List AutT)) h17 er20) R ?_
 rintro _ s21 m22 ⟨a23, c23, rfl, h23⟩
 refine L.mv Y R R (L.ex Y R R R (L.ex Y R R R (L.ex Y R R R (L.as Y R R (L.as Y R R (L.as Y R R (LN (E.seq (E.reg ?_)))))))))
 obtain ⟨r24, er24, hm⟩ := bindS hm
 refine L.ca cf43 R R Y R (m_overseerlaw24_waits_c (s := s21) (p0 := 1) er24) R ?_
 rintro _ s25 m26 ⟨a27, c27, rfl, h27⟩
 obtain ⟨r28, er28, hm⟩ := bindS hm
 refine L.ca cf10 R R Y R (m_blocking_Nonblocking_c (s := s25) (p0 := r24) h27 er28) R ?_
 rintro _ s29 m30 ⟨a31, c31, rfl, h31⟩
 refine L.mv Y R R (L.ex Y R R R (L.ex Y R R R (L.ex Y R R R (L.as Y R R (L.as Y R R (L.as Y R R (LN (E.seq (E.reg ?_)))))))))
 obtain ⟨r32, er32, hm⟩ := bindS hm
 refine L.ca cf43 R R Y R (m_overseerlaw24_waits_c (s := s29) (p0 := 1) er32) R ?_
 rintro _ s33 m34 ⟨a35, c35, rfl, h35⟩
 obtain ⟨r36, er36, hm⟩ := bindS hm
 refine L.ca cf44 R R Y R (m_blocking_Culprits_c (s := s33) (p0 := r32) (u0 := 0) h35 er36) R ?_
 rintro _ s37 m38 ⟨a39, c39, rfl, h39⟩
 refine L.mv Y R R (L.ex Y R R R (L.ex Y R R R (L.as Y R R (L.as Y R R (LN (E.seq (E.reg ?_)))))))
 obtain ⟨r40, er40, hm⟩ := bindS hm
 refine L.ca cf43 R R Y R (m_overseerlaw24_waits_c (s := s37) (p0 := 0) er40) R ?_
 rintro _ s41 m42 ⟨a43, c43, rfl, h43⟩
 obtain ⟨r44, er44, hm⟩ := bindS hm
 refine L.ca cf10 R R Y R (m_blocking_Nonblocking_c (s := s41) (p0 := r40) h43 er44) R ?_
 rintro _ s45 m46 ⟨a47, c47, rfl, h47⟩
 replace m0 := ((((((((((m0.trans m3.no).trans m9.no).trans m13.no).trans m19.no).trans m22.no).trans m26.no).trans m30.no).trans m34.no).trans m38.no).trans m42.no).trans m46.no
 replace h10 := (((((((((h10.p).mono m13.z).mono m19.z).mono m22.z).mono m26.z).mono m30.z).mono m34.z).mono m38.z).mono m42.z).mono m46.z
 replace h23 := (((((h23.mono m26.z).mono m30.z).mono m34.z).mono m38.z).mono m42.z).mono m46.z
 replace h39 := ((h39.p).mono m42.z).mono m46.z
 refine L.mv Y R R (L.ex Y R R R (L.ex Y R R R (L.ex Y R R R (L.as Y R R (L.as Y R R (L.as Y R R (LN (ER (L.mv Y R R (L.bi Y R R R R (L.mv Y R R ?_)))))))))))
 obtain ⟨b48, eb48, hm⟩ := bindS hm
 refine L.cut 4 (fun e w => ∃ (s50 : Sig) (v49 : Bool), b48 = v49 ∧ Mv (Up N No) s s50 ∧ RdL qI s50 a39 c39 r36.1 ∧ RdL qI s50 a23 c23 r20.1 ∧ e = (49, .bool v49) :: [(13, .int .i64 r44.2.2), (12, .bool r44.2.1), (10, .int .i64 r36.2), (9, .slice a39 r36.1.length c39), (8, .int .i64 r28.2.2), (7, .bool r28.2.1), (5, .int .i64 r20.2.2), (4, .bool r20.2.1), (3, .slice a23 r20.1.length c23)] ∧ w = s50.w) ?_ ?_
 ·rintro _ _ ⟨s50, v49, rfl, m0, h39, h23, rfl, rfl⟩
  refine L.mv Y R R (L.cut 3 (fun e w => ∃ (v51 : Bool), (b48 && (r20.2.2 == 0)) = v51 ∧ e = (53, .bool v51) :: [(13, .int .i64 r44.2.2), (12, .bool r44.2.1), (10, .int .i64 r36.2), (9, .slice a39 r36.1.length c39), (8, .int .i64 r28.2.2), (7, .bool r28.2.1), (4, .bool r20.2.1), (3, .slice a23 r20.1.length c23)] ∧ w = s50.w) ?_ ?_)
  ·rintro _ _ ⟨v51, rfl, rfl, rfl⟩
   refine L.mv Y R R (L.cut 3 (fun e w => ∃ (v52 : Bool), ((b48 && (r20.2.2 == 0)) && (!r20.2.1)) = v52 ∧ e = (57, .bool v52) :: [(13, .int .i64 r44.2.2), (12, .bool r44.2.1), (10, .int .i64 r36.2), (9, .slice a39 r36.1.length c39), (8, .int .i64 r28.2.2), (7, .bool r28.2.1), (3, .slice a23 r20.1.length c23)] ∧ w = s50.w) ?_ ?_)
   ·rintro _ _ ⟨v52, rfl, rfl, rfl⟩
    refine L.mv Y R R ?_
    obtain ⟨b53, eb53, hm⟩ := bindS hm
    refine L.cut 4 (fun e w => ∃ (s55 : Sig) (v54 : Bool), b53 = v54 ∧ Mv (Up N No) s s55 ∧ RdL qI s55 a39 c39 r36.1 ∧ e = (62, .bool v54) :: [(13, .int .i64 r44.2.2), (12, .bool r44.2.1), (10, .int .i64 r36.2), (9, .slice a39 r36.1.length c39), (8, .int .i64 r28.2.2), (7, .bool r28.2.1)] ∧ w = s55.w) ?_ ?_
    ·rintro _ _ ⟨s55, v54, rfl, m0, h39, rfl, rfl⟩
     refine L.mv Y R R (L.cut 3 (fun e w => ∃ (v56 : Bool), (b53 && (r28.2.2 == 0)) = v56 ∧ e = (66, .bool v56) :: [(13, .int .i64 r44.2.2), (12, .bool r44.2.1), (10, .int .i64 r36.2), (9, .slice a39 r36.1.length c39), (7, .bool r28.2.1)] ∧ w = s55.w) ?_ ?_)
     ·rintro _ _ ⟨v56, rfl, rfl, rfl⟩
      refine L.mv Y R R (L.cut 3 (fun e w => ∃ (v57 : Bool), ((b53 && (r28.2.2 == 0)) && (!r28.2.1)) = v57 ∧ e = (70, .bool v57) :: [(13, .int .i64 r44.2.2), (12, .bool r44.2.1), (10, .int .i64 r36.2), (9, .slice a39 r36.1.length c39)] ∧ w = s55.w) ?_ ?_)
      ·rintro _ _ ⟨v57, rfl, rfl, rfl⟩
       refine L.mv Y R R (L.cut 3 (fun e w => ∃ (v58 : Bool), (((b53 && (r28.2.2 == 0)) && (!r28.2.1)) && (r36.2 == 0)) = v58 ∧ e = (74, .bool v58) :: [(13, .int .i64 r44.2.2), (12, .bool r44.2.1), (9, .slice a39 r36.1.length c39)] ∧ w = s55.w) ?_ ?_)
       ·rintro _ _ ⟨v58, rfl, rfl, rfl⟩
        refine L.mv Y R R ?_
        obtain ⟨b59, eb59, hm⟩ := bindS hm
        refine L.cut 4 (fun e w => ∃ (s61 : Sig) (v60 : Bool), b59 = v60 ∧ Mv (Up N No) s s61 ∧ e = (79, .bool v60) :: [(13, .int .i64 r44.2.2), (12, .bool r44.2.1)] ∧ w = s61.w) ?_ ?_
        ·rintro _ _ ⟨s61, v60, rfl, m0, rfl, rfl⟩
         refine L.mv Y R R (L.cut 3 (fun e w => ∃ (v62 : Bool), (b59 && (r44.2.2 == 0)) = v62 ∧ e = (83, .bool v62) :: [(12, .bool r44.2.1)] ∧ w = s61.w) ?_ ?_)
         ·rintro _ _ ⟨v62, rfl, rfl, rfl⟩
          refine L.mv Y R R (L.cut 2 (fun e w => ∃ (v63 : Bool), ((b59 && (r44.2.2 == 0)) && r44.2.1) = v63 ∧ e = (86, .bool v63) :: [] ∧ w = s61.w) ?_ ?_)
          ·rintro _ _ ⟨v63, rfl, rfl, rfl⟩
           refine L.as Y R R (LN (E.ret ?_))
           obtain rfl := oi hm
           exact X.rt (.inl R) Tryz.results14 (Rs.tmp R Rs.nil) R ⟨_, (s61).ren N (fun _ => 0), R, R, m0.ren hNb, R⟩
          intro J64
          rcases Bool.eq_false_or_eq_true (b59 && (r44.2.2 == 0)) with hc | hc
          ·exact L.know (d := 84) R hc (L.mv (Wt.mk R R) R R (L.pkT Y R R R R (L.sb (J64 _ _ ⟨r44.2.1, (andT hc).symm, R, R⟩) R)))
          exact L.know (d := 84) R hc (L.skip R R R R (L.pkF Y R R R R (L.sb (J64 _ _ ⟨false, (andF hc).symm, R, R⟩) R)))
         intro J65
         rcases Bool.eq_false_or_eq_true b59 with hc | hc
         ·exact L.know (d := 80) R hc (L.mv (Wt.mk R R) R R (L.bi (Wt.mk R R) R R R R (L.pkT Y R R R R (L.sb (J65 _ _ ⟨(r44.2.2 == 0), (andT hc).symm, R, R⟩) R))))
         exact L.know (d := 80) R hc (L.skip R R R R (L.skip R R R R (L.pkF Y R R R R (L.sb (J65 _ _ ⟨false, (andF hc).symm, R, R⟩) R))))
        intro J66
        rcases ifS eb59 with ⟨hc, hm⟩ | ⟨hc, hm⟩
        ·refine L.know (d := 75) R hc (L.mv (Wt.mk R R) R R (L.bsE (k := 2) (cs := [.int .i64 0, .int .i64 1]) 0 bs27 (nb R) (Wt.mk R R) R R R R fun b67 s68 m69 bx67 => ?_))
         replace h39 := h39.mono m69.z
         have h67 := Bx.rdL (r := qI) (xs := ([0, 1] : List Int)) bx67 ⟨[.int .i64 0], _, R, R, ⟨[.int .i64 1], _, R, R, R⟩⟩ (nb R)
         obtain ⟨r70, er70, hm⟩ := bindS hm
         refine L.ca cf26 R R (Wt.mk R R) R (m_overseerlaw24_same_c (s := s68) (p0 := r36.1) (p1 := ([0, 1] : List Int)) h39 h67 er70) R ?_
         rintro _ s71 m72 rfl
         replace m0 := (m0.trans m69.no).trans m72.no
         exact L.pkT Y R R R R (L.sb (J66 _ _ ⟨s71, r70, (oi hm).symm, m0, R, R⟩) R)
        exact L.know (d := 75) R hc (L.skip R R R R (L.skip R R R R (L.skip R R R R (L.pkF Y R R R R (L.sb (J66 _ _ ⟨s55, false, (oi hm).symm, m0, R, R⟩) R)))))
       intro J73
       rcases Bool.eq_false_or_eq_true ((b53 && (r28.2.2 == 0)) && (!r28.2.1)) with hc | hc
       ·exact L.know (d := 71) R hc (L.mv (Wt.mk R R) R R (L.bi (Wt.mk R R) R R R R (L.pkT Y R R R R (L.sb (J73 _ _ ⟨(r36.2 == 0), (andT hc).symm, R, R⟩) R))))
       exact L.know (d := 71) R hc (L.skip R R R R (L.skip R R R R (L.pkF Y R R R R (L.sb (J73 _ _ ⟨false, (andF hc).symm, R, R⟩) R))))
      intro J74
      rcases Bool.eq_false_or_eq_true (b53 && (r28.2.2 == 0)) with hc | hc
      ·exact L.know (d := 67) R hc (L.mv (Wt.mk R R) R R (L.not (Wt.mk R R) R R (L.pkT Y R R R R (L.sb (J74 _ _ ⟨(!r28.2.1), (andT hc).symm, R, R⟩) R))))
      exact L.know (d := 67) R hc (L.skip R R R R (L.skip R R R R (L.pkF Y R R R R (L.sb (J74 _ _ ⟨false, (andF hc).symm, R, R⟩) R))))
     intro J75
     rcases Bool.eq_false_or_eq_true b53 with hc | hc
     ·exact L.know (d := 63) R hc (L.mv (Wt.mk R R) R R (L.bi (Wt.mk R R) R R R R (L.pkT Y R R R R (L.sb (J75 _ _ ⟨(r28.2.2 == 0), (andT hc).symm, R, R⟩) R))))
     exact L.know (d := 63) R hc (L.skip R R R R (L.skip R R R R (L.pkF Y R R R R (L.sb (J75 _ _ ⟨false, (andF hc).symm, R, R⟩) R))))
    intro J76
    rcases ifS eb53 with ⟨hc, hm⟩ | ⟨hc, hm⟩
    ·refine L.know (d := 58) R hc (L.mv (Wt.mk R R) R R (L.bsE (k := 1) (cs := [.int .i64 1]) 0 bs27 (nb R) (Wt.mk R R) R R R R fun b77 s78 m79 bx77 => ?_))
     replace h23 := h23.mono m79.z
     have h77 := Bx.rdL (r := qI) (xs := ([1] : List Int)) bx77 ⟨[.int .i64 1], _, R, R, R⟩ (nb R)
     obtain ⟨r80, er80, hm⟩ := bindS hm
     refine L.ca cf26 R R (Wt.mk R R) R (m_overseerlaw24_same_c (s := s78) (p0 := r20.1) (p1 := ([1] : List Int)) h23 h77 er80) R ?_
     rintro _ s81 m82 rfl
     replace m0 := (m0.trans m79.no).trans m82.no
     replace h39 := (h39.mono m79.z).mono m82.z
     exact L.pkT Y R R R R (L.sb (J76 _ _ ⟨s81, r80, (oi hm).symm, m0, h39, R, R⟩) R)
    exact L.know (d := 58) R hc (L.skip R R R R (L.skip R R R R (L.skip R R R R (L.pkF Y R R R R (L.sb (J76 _ _ ⟨s50, false, (oi hm).symm, m0, h39, R, R⟩) R)))))
   intro J83
   rcases Bool.eq_false_or_eq_true (b48 && (r20.2.2 == 0)) with hc | hc
   ·exact L.know (d := 54) R hc (L.mv (Wt.mk R R) R R (L.not (Wt.mk R R) R R (L.pkT Y R R R R (L.sb (J83 _ _ ⟨(!r20.2.1), (andT hc).symm, R, R⟩) R))))
   exact L.know (d := 54) R hc (L.skip R R R R (L.skip R R R R (L.pkF Y R R R R (L.sb (J83 _ _ ⟨false, (andF hc).symm, R, R⟩) R))))
  intro J84
  rcases Bool.eq_false_or_eq_true b48 with hc | hc
  ·exact L.know (d := 50) R hc (L.mv (Wt.mk R R) R R (L.bi (Wt.mk R R) R R R R (L.pkT Y R R R R (L.sb (J84 _ _ ⟨(r20.2.2 == 0), (andT hc).symm, R, R⟩) R))))
  exact L.know (d := 50) R hc (L.skip R R R R (L.skip R R R R (L.pkF Y R R R R (L.sb (J84 _ _ ⟨false, (andF hc).symm, R, R⟩) R))))
 intro J85
 rcases ifS eb48 with ⟨hc, hm⟩ | ⟨hc, hm⟩
 ·refine L.know (d := 45) R hc (L.mv (Wt.mk R R) R R (L.bsE (k := 5) (cs := [.int .i64 2, .int .i64 1, .int .i64 4, .int .i64 4, .int .i64 3]) 0 bs27 (nb R) (Wt.mk R R) R R R R fun b86 s87 m88 bx86 => ?_))
  replace h10 := h10.mono m88.z
  have h86 := Bx.rdL (r := qI) (xs := ([2, 1, 4, 4, 3] : List Int)) bx86 ⟨[.int .i64 2], _, R, R, ⟨[.int .i64 1], _, R, R, ⟨[.int .i64 4], _, R, R, ⟨[.int .i64 4], _, R, R, ⟨[.int .i64 3], _, R, R, R⟩⟩⟩⟩⟩ (nb R)
  obtain ⟨r89, er89, hm⟩ := bindS hm
  refine L.ca cf26 R R (Wt.mk R R) R (m_overseerlaw24_same_c (s := s87) (p0 := r7.1) (p1 := ([2, 1, 4, 4, 3] : List Int)) h10 h86 er89) R ?_
  rintro _ s90 m91 rfl
  replace m0 := (m0.trans m88.no).trans m91.no
  replace h23 := (h23.mono m88.z).mono m91.z
  replace h39 := (h39.mono m88.z).mono m91.z
  exact L.pkT Y R R R R (L.sb (J85 _ _ ⟨s90, r89, (oi hm).symm, m0, h39, h23, R, R⟩) R)
 exact L.know (d := 45) R hc (L.skip R R R R (L.skip R R R R (L.skip R R R R (L.pkF Y R R R R (L.sb (J85 _ _ ⟨s45, false, (oi hm).symm, m0, h39, h23, R, R⟩) R)))))

noncomputable def m_overseerlaw24_few (p0 : AutT) : Option Bool :=
 some ((((decide ((p0.1.length : Int) ≤ 6)) && (decide ((p0.2.2.1.length : Int) ≤ 8))) && (decide ((p0.2.2.2.length : Int) ≤ 12))) && ((decide (p0.2.1 ≤ 8)) || (decide (p0.2.1 > 4096))))
theorem m_overseerlaw24_few_c {s : Sig} {p0 : AutT} {a1 : Option Addr} {c1 : Nat} {a2 : Option Addr} {c2 : Nat} {a3 : Option Addr} {c3 : Nat} {r : Bool} (h1 : RdL qI s a1 c1 p0.1) (h2 : RdL qI s a2 c2 p0.2.2.1) (h3 : RdL qT s a3 c3 p0.2.2.2) (hm : m_overseerlaw24_few p0 = some r) :
    Calls Tryz.prog 15 #[.agg #[.slice a1 p0.1.length c1, .int .i64 p0.2.1, .slice a2 p0.2.2.1.length c2, .slice a3 p0.2.2.2.length c3]] s.w (RetS No s fun v s' => v = .bool r) := by
 unfold m_overseerlaw24_few at hm
 obtain ⟨N, hN, hNb⟩ := s.fresh
 have m0 : Mv (Up N No) s s := Mv.refl _ _
 refine E.entry Tryz.func15 R Tryz.ntmps15 R R (ER (L.box (N + 0) Y R R R fun b4 s5 m6 bx4 => ?_))
 replace m0 := m0.trans m6.no
 refine L.as Y R R (LN (ER (L.fa fa30_0 Y R R (L.ld (j := 0) bx4.mem nag27 Y R R R R (L.len sl27 Y R R (L.bi Y R R R R (L.mv Y R R (L.cut 5 (fun e w => ∃ (v7 : Bool), ((decide ((p0.1.length : Int) ≤ 6)) && (decide ((p0.2.2.1.length : Int) ≤ 8))) = v7 ∧ e = (12, .bool v7) :: [(1, .pointer (some ⟨b4, 0, none⟩))] ∧ w = s5.w) ?_ ?_))))))))
 ·rintro _ _ ⟨v7, rfl, rfl, rfl⟩
  refine L.mv Y R R (L.cut 5 (fun e w => ∃ (v8 : Bool), (((decide ((p0.1.length : Int) ≤ 6)) && (decide ((p0.2.2.1.length : Int) ≤ 8))) && (decide ((p0.2.2.2.length : Int) ≤ 12))) = v8 ∧ e = (18, .bool v8) :: [(1, .pointer (some ⟨b4, 0, none⟩))] ∧ w = s5.w) ?_ ?_)
  ·rintro _ _ ⟨v8, rfl, rfl, rfl⟩
   refine L.mv Y R R (L.cut 9 (fun e w => ∃ (v9 : Bool), ((((decide ((p0.1.length : Int) ≤ 6)) && (decide ((p0.2.2.1.length : Int) ≤ 8))) && (decide ((p0.2.2.2.length : Int) ≤ 12))) && ((decide (p0.2.1 ≤ 8)) || (decide (p0.2.1 > 4096)))) = v9 ∧ e = (28, .bool v9) :: [] ∧ w = s5.w) ?_ ?_)
   ·rintro _ _ ⟨v9, rfl, rfl, rfl⟩
    refine L.as Y R R (LN (E.ret ?_))
    obtain rfl := oi hm
    exact X.rt (.inl R) Tryz.results15 (Rs.tmp R Rs.nil) R ⟨_, (s5).ren N (fun _ => 0), R, R, m0.ren hNb, R⟩
   intro J10
   rcases Bool.eq_false_or_eq_true (((decide ((p0.1.length : Int) ≤ 6)) && (decide ((p0.2.2.1.length : Int) ≤ 8))) && (decide ((p0.2.2.2.length : Int) ≤ 12))) with hc | hc
   ·refine L.know (d := 19) R hc (L.fa fa30_1 (Wt.mk R R) R R (L.ld (j := 1) bx4.mem nag3 (Wt.mk R R) R R R R (L.bi (Wt.mk R R) R R R R (L.mv (Wt.mk R R) R R (L.cut 4 (fun e w => ∃ (v11 : Bool), ((decide (p0.2.1 ≤ 8)) || (decide (p0.2.1 > 4096))) = v11 ∧ e = (27, .bool v11) :: [(19, .bool true)] ∧ w = s5.w) ?_ ?_)))))
    ·rintro _ _ ⟨v11, rfl, rfl, rfl⟩
     exact L.pkT Y R R R R (L.sb (J10 _ _ ⟨((decide (p0.2.1 ≤ 8)) || (decide (p0.2.1 > 4096))), (andT hc).symm, R, R⟩) R)
    intro J12
    rcases Bool.eq_false_or_eq_true (decide (p0.2.1 ≤ 8)) with hc | hc
    ·exact L.know (d := 23) R hc (L.skip R R R R (L.skip R R R R (L.skip R R R R (L.pkT (Wt.mk R R) R R R R (L.sb (J12 _ _ ⟨true, (orT hc).symm, R, R⟩) R)))))
    exact L.know (d := 23) R hc (L.fa fa30_1 (Wt.mk R R) R R (L.ld (j := 1) bx4.mem nag3 (Wt.mk R R) R R R R (L.bi (Wt.mk R R) R R R R (L.pkF (Wt.mk R R) R R R R (L.sb (J12 _ _ ⟨(decide (p0.2.1 > 4096)), (orF hc).symm, R, R⟩) R)))))
   exact L.know (d := 19) R hc (L.skip R R R R (L.skip R R R R (L.skip R R R R (L.skip R R R R (L.skipU R R R (L.skipU R R R (L.skipU R R R (L.skip R R R R (L.pkF Y R R R R (L.sb (J10 _ _ ⟨false, (andF hc).symm, R, R⟩) R))))))))))
  intro J13
  rcases Bool.eq_false_or_eq_true ((decide ((p0.1.length : Int) ≤ 6)) && (decide ((p0.2.2.1.length : Int) ≤ 8))) with hc | hc
  ·exact L.know (d := 13) R hc (L.fa fa30_3 (Wt.mk R R) R R (L.ld (j := 3) bx4.mem nag28 (Wt.mk R R) R R R R (L.len sl28 (Wt.mk R R) R R (L.bi (Wt.mk R R) R R R R (L.pkT Y R R R R (L.sb (J13 _ _ ⟨(decide ((p0.2.2.2.length : Int) ≤ 12)), (andT hc).symm, R, R⟩) R))))))
  exact L.know (d := 13) R hc (L.skip R R R R (L.skip R R R R (L.skip R R R R (L.skip R R R R (L.pkF Y R R R R (L.sb (J13 _ _ ⟨false, (andF hc).symm, R, R⟩) R))))))
 intro J14
 rcases Bool.eq_false_or_eq_true (decide ((p0.1.length : Int) ≤ 6)) with hc | hc
 ·exact L.know (d := 7) R hc (L.fa fa30_2 (Wt.mk R R) R R (L.ld (j := 2) bx4.mem nag27 (Wt.mk R R) R R R R (L.len sl27 (Wt.mk R R) R R (L.bi (Wt.mk R R) R R R R (L.pkT Y R R R R (L.sb (J14 _ _ ⟨(decide ((p0.2.2.1.length : Int) ≤ 8)), (andT hc).symm, R, R⟩) R))))))
 exact L.know (d := 7) R hc (L.skip R R R R (L.skip R R R R (L.skip R R R R (L.skip R R R R (L.pkF Y R R R R (L.sb (J14 _ _ ⟨false, (andF hc).symm, R, R⟩) R))))))

noncomputable def m_blocking_Ranks (p0 : AutT) : Option (List Int × Int) :=
 (m_automaton_Check p0).bind fun r8 =>
 if (r8 != 0) then
  some (([] : List Int), r8)
 else
  (m_blocking_spread p0 p0.2.2.1).bind fun r11 =>
  some (r11, 0)
theorem m_blocking_Ranks_c {s : Sig} {p0 : AutT} {a1 : Option Addr} {c1 : Nat} {a2 : Option Addr} {c2 : Nat} {a3 : Option Addr} {c3 : Nat} {u0 : Nat} {r : List Int × Int} (h1 : RdL qI s a1 c1 p0.1) (h2 : RdL qI s a2 c2 p0.2.2.1) (h3 : RdL qT s a3 c3 p0.2.2.2) (hm : m_blocking_Ranks p0 = some r) :
    Calls Tryz.prog 18 #[.agg #[.slice a1 p0.1.length c1, .int .i64 p0.2.1, .slice a2 p0.2.2.1.length c2, .slice a3 p0.2.2.2.length c3]] s.w (RetS No s fun v s' => ∃ (a4 : Option Addr) (c4 : Nat), v = .tuple #[.slice a4 r.1.length c4, .int .i64 r.2] ∧ RowT qI s' u0 3 a4 c4 r.1) := by
 unfold m_blocking_Ranks at hm
 obtain ⟨N, hN, hNb⟩ := s.fresh
 have m0 : Mv (Up N No) s s := Mv.refl _ _
 refine E.entry Tryz.func18 R Tryz.ntmps18 R R (ER (L.box (N + 0) Y R R R fun b5 s6 m7 bx5 => ?_))
 replace h1 := h1.mono m7.z
 replace h2 := h2.mono m7.z
 replace h3 := h3.mono m7.z
 refine L.as Y R R (L.as Y R R (LN (E.seq (ER (L.lg (j := 0) (cs := [.slice a1 p0.1.length c1, .int .i64 p0.2.1, .slice a2 p0.2.2.1.length c2, .slice a3 p0.2.2.2.length c3]) bx5.mem ag30 Y R R R R R ?_)))))
 obtain ⟨r8, er8, hm⟩ := bindS hm
 refine L.ca cf16 R R Y R (m_automaton_Check_c (s := s6) (p0 := p0) h1 h2 h3 er8) R ?_
 rintro _ s9 m10 rfl
 replace m0 := (m0.trans m7.no).trans m10.no
 replace bx5 := bx5.mv m10 no_No
 replace h1 := h1.mono m10.z
 replace h2 := h2.mono m10.z
 replace h3 := h3.mono m10.z
 refine L.as Y R R (LN (ER (L.mv Y R R (L.bi Y R R R R (L.nil (X.seqN ?_))))))
 rcases ifS hm with ⟨hc, hm⟩ | ⟨hc, hm⟩
 ·refine E.cT R hc (ER (L.mv Y R R (L.as Y R R (L.as Y R R (LN (E.ret (X.seqR ?_)))))))
  obtain rfl := oi hm
  exact X.rt (.inl R) Tryz.results18 (Rs.tmp R (Rs.tmp R Rs.nil)) R ⟨_, (s9).ren N (fun _ => 0), R, R, m0.ren hNb, ⟨none, 0, R, RowT.nil⟩⟩
 refine E.cF R hc (E.skip (X.seqN (ER (L.lg (j := 0) (cs := [.slice a1 p0.1.length c1, .int .i64 p0.2.1, .slice a2 p0.2.2.1.length c2, .slice a3 p0.2.2.2.length c3]) bx5.mem ag30 Y R R R R R (L.fa fa30_2 Y R R (L.ld (j := 2) bx5.mem nag27 Y R R R R ?_))))))
 obtain ⟨r11, er11, hm⟩ := bindS hm
 refine L.ca cf35 R R Y R (m_blocking_spread_c (s := s9) (p0 := p0) (p1 := p0.2.2.1) (u0 := (N + 1)) h1 h2 h3 h2 er11) R ?_
 rintro _ s12 m13 ⟨a14, c14, rfl, h14⟩
 replace m0 := m0.trans m13.no
 refine L.as Y R R (L.as Y R R (LN (E.ret ?_)))
 obtain rfl := oi hm
 exact X.rt (.inl R) Tryz.results18 (Rs.tmp R (Rs.tmp R Rs.nil)) R ⟨_, (s12).ren N (fun k => cond (Nat.beq k 1) u0 (0)), R, R, m0.ren hNb, ⟨a14, c14, R, (h14.ren hN)⟩⟩

end Go.Proofs.YtfbapajcheammaaGreatDoor

