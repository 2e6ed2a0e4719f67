/- Parts of the proof, without what nothing here names. -/
import Derived.Test.YtidakgbibobbdaaGreatDoorProg
import Derived.Test.YtidakgbibobbdaaGreatDoorQz5
set_option maxRecDepth 100000
set_option maxHeartbeats 8000000
namespace Go.Proofs.YtidakgbibobbdaaGreatDoor
open Go Go.RowKit
noncomputable def m_overseerlaw54_same (p0 : Int × List Int × List Int) (p1 : Int × List Int × List Int) : Option Bool :=
 (if (p0.1 == p1.1) then
  (m_word_Equal p0.2.1 p1.2.1).bind fun r22 =>
  some r22
 else
  some false).bind fun b11 =>
 (if b11 then
  (m_word_Equal p0.2.2 p1.2.2).bind fun r18 =>
  some r18
 else
  some false).bind fun b14 =>
 some b14
theorem m_overseerlaw54_same_c {s : Sig} {p0 : Int × List Int × List Int} {p1 : Int × List Int × List Int} {a1 : Option Addr} {c1 : Nat} {a2 : Option Addr} {c2 : Nat} {a3 : Option Addr} {c3 : Nat} {a4 : Option Addr} {c4 : Nat} {r : Bool} (h1 : RdL qI s a1 c1 p0.2.1) (h2 : RdL qI s a2 c2 p0.2.2) (h3 : RdL qI s a3 c3 p1.2.1) (h4 : RdL qI s a4 c4 p1.2.2) (hm : m_overseerlaw54_same p0 p1 = some r) :
    Calls Tryz.prog 48 #[.agg #[.int .i64 p0.1, .slice a1 p0.2.1.length c1, .slice a2 p0.2.2.length c2], .agg #[.int .i64 p1.1, .slice a3 p1.2.1.length c3, .slice a4 p1.2.2.length c4]] s.w (RetS No s fun v s' => v = .bool r) := by
 unfold m_overseerlaw54_same at hm
 obtain ⟨N, hN, hNb⟩ := s.fresh
 have m0 : Mv (Up N No) s s := Mv.refl _ _
 refine E.entry Tryz.func48 R Tryz.ntmps48 R R (ER (L.box (N + 0) Y R R R fun b5 s6 m7 bx5 => ?_))
 refine L.box (N + 1) Y R R R fun b8 s9 m10 bx8 => ?_
 replace m0 := (m0.trans m7.no).trans m10.no
 replace bx5 := bx5.mv m10 no_No
 replace h1 := (h1.mono m7.z).mono m10.z
 replace h2 := (h2.mono m7.z).mono m10.z
 replace h3 := (h3.mono m7.z).mono m10.z
 replace h4 := (h4.mono m7.z).mono m10.z
 refine L.as Y R R (LN (ER (L.fa fa38_0 Y R R (L.ld (j := 0) bx5.mem nag3 Y R R R R (L.fa fa38_0 Y R R (L.ld (j := 0) bx8.mem nag3 Y R R R R (L.bi Y R R R R (L.mv Y R R ?_))))))))
 obtain ⟨b11, eb11, hm⟩ := bindS hm
 refine L.cut 6 (fun e w => ∃ (s13 : Sig) (v12 : Bool), b11 = v12 ∧ Mv (Up N No) s s13 ∧ RdL qI s13 a1 c1 p0.2.1 ∧ RdL qI s13 a2 c2 p0.2.2 ∧ RdL qI s13 a3 c3 p1.2.1 ∧ RdL qI s13 a4 c4 p1.2.2 ∧ Bx s13 (N + 0) b5 #[.int .i64 p0.1, .slice a1 p0.2.1.length c1, .slice a2 p0.2.2.length c2] 38 ∧ Bx s13 (N + 1) b8 #[.int .i64 p1.1, .slice a3 p1.2.1.length c3, .slice a4 p1.2.2.length c4] 38 ∧ e = (16, .bool v12) :: [(3, .pointer (some ⟨b8, 0, none⟩)), (2, .pointer (some ⟨b5, 0, none⟩))] ∧ w = s13.w) ?_ ?_
 ·rintro _ _ ⟨s13, v12, rfl, m0, h1, h2, h3, h4, bx5, bx8, rfl, rfl⟩
  refine L.mv Y R R ?_
  obtain ⟨b14, eb14, hm⟩ := bindS hm
  refine L.cut 6 (fun e w => ∃ (s16 : Sig) (v15 : Bool), b14 = v15 ∧ Mv (Up N No) s s16 ∧ e = (23, .bool v15) :: [] ∧ w = s16.w) ?_ ?_
  ·rintro _ _ ⟨s16, v15, rfl, m0, rfl, rfl⟩
   refine L.as Y R R (LN (E.ret ?_))
   obtain rfl := oi hm
   exact X.rt (.inl R) Tryz.results48 (Rs.tmp R Rs.nil) R ⟨_, (s16).ren N (fun _ => 0), R, R, m0.ren hNb, R⟩
  intro J17
  rcases ifS eb14 with ⟨hc, hm⟩ | ⟨hc, hm⟩
  ·refine L.know (d := 17) R hc (L.fa fa38_2 (Wt.mk R R) R R (L.ld (j := 2) bx5.mem nag22 (Wt.mk R R) R R R R (L.fa fa38_2 (Wt.mk R R) R R (L.ld (j := 2) bx8.mem nag22 (Wt.mk R R) R R R R ?_))))
   obtain ⟨r18, er18, hm⟩ := bindS hm
   refine L.ca cf33 R R (Wt.mk R R) R (m_word_Equal_c (s := s13) (p0 := p0.2.2) (p1 := p1.2.2) h2 h4 er18) R ?_
   rintro _ s19 m20 rfl
   replace m0 := m0.trans m20.no
   exact L.pkT Y R R R R (L.sb (J17 _ _ ⟨s19, r18, (oi hm).symm, m0, R, R⟩) R)
  exact L.know (d := 17) R hc (L.skip R R R R (L.skip R R R R (L.skip R R R R (L.skip R R R R (L.skip R R R R (L.pkF Y R R R R (L.sb (J17 _ _ ⟨s13, false, (oi hm).symm, m0, R, R⟩) R)))))))
 intro J21
 rcases ifS eb11 with ⟨hc, hm⟩ | ⟨hc, hm⟩
 ·refine L.know (d := 10) R hc (L.fa fa38_1 (Wt.mk R R) R R (L.ld (j := 1) bx5.mem nag22 (Wt.mk R R) R R R R (L.fa fa38_1 (Wt.mk R R) R R (L.ld (j := 1) bx8.mem nag22 (Wt.mk R R) R R R R ?_))))
  obtain ⟨r22, er22, hm⟩ := bindS hm
  refine L.ca cf33 R R (Wt.mk R R) R (m_word_Equal_c (s := s9) (p0 := p0.2.1) (p1 := p1.2.1) h1 h3 er22) R ?_
  rintro _ s23 m24 rfl
  replace m0 := m0.trans m24.no
  replace bx5 := bx5.mv m24 no_No
  replace h1 := h1.mono m24.z
  replace h2 := h2.mono m24.z
  replace bx8 := bx8.mv m24 no_No
  replace h3 := h3.mono m24.z
  replace h4 := h4.mono m24.z
  exact L.pkT Y R R R R (L.sb (J21 _ _ ⟨s23, r22, (oi hm).symm, m0, h1, h2, h3, h4, bx5, bx8, R, R⟩) R)
 exact L.know (d := 10) R hc (L.skip R R R R (L.skip R R R R (L.skip R R R R (L.skip R R R R (L.skip R R R R (L.pkF Y R R R R (L.sb (J21 _ _ ⟨s9, false, (oi hm).symm, m0, h1, h2, h3, h4, bx5, bx8, R, R⟩) R)))))))

theorem cf48 : Cf Tryz.prog 48 := Cf.mk Tryz.func48 (by kernel_rfl) (by kernel_rfl)
noncomputable def m_overseerlaw54_zero (p0 : Int × List Int × List Int) : Option Bool :=
 (m_overseerlaw54_same p0 (0, ([] : List Int), ([] : List Int))).bind fun r6 =>
 some r6
theorem m_overseerlaw54_zero_c {s : Sig} {p0 : Int × List Int × List Int} {a1 : Option Addr} {c1 : Nat} {a2 : Option Addr} {c2 : Nat} {r : Bool} (h1 : RdL qI s a1 c1 p0.2.1) (h2 : RdL qI s a2 c2 p0.2.2) (hm : m_overseerlaw54_zero p0 = some r) :
    Calls Tryz.prog 23 #[.agg #[.int .i64 p0.1, .slice a1 p0.2.1.length c1, .slice a2 p0.2.2.length c2]] s.w (RetS No s fun v s' => v = .bool r) := by
 unfold m_overseerlaw54_zero at hm
 obtain ⟨N, hN, hNb⟩ := s.fresh
 have m0 : Mv (Up N No) s s := Mv.refl _ _
 refine E.entry Tryz.func23 R Tryz.ntmps23 R R (ER (L.box (N + 0) Y R R R fun b3 s4 m5 bx3 => ?_))
 replace h1 := h1.mono m5.z
 replace h2 := h2.mono m5.z
 refine L.as Y R R (LN (ER (L.lg (j := 0) (cs := [.int .i64 p0.1, .slice a1 p0.2.1.length c1, .slice a2 p0.2.2.length c2]) bx3.mem ag38 Y R R R R R (L.bu (cs := [.int .i64 0, .slice none 0 0, .slice none 0 0]) pl38 Y R R R ?_))))
 obtain ⟨r6, er6, hm⟩ := bindS hm
 refine L.ca cf48 R R Y R (m_overseerlaw54_same_c (s := s4) (p0 := p0) (p1 := (0, ([] : List Int), ([] : List Int))) h1 h2 RdL.nil RdL.nil er6) R ?_
 rintro _ s7 m8 rfl
 replace m0 := (m0.trans m5.no).trans m8.no
 refine L.as Y R R (LN (E.ret ?_))
 obtain rfl := oi hm
 exact X.rt (.inl R) Tryz.results23 (Rs.tmp R Rs.nil) R ⟨_, (s7).ren N (fun _ => 0), R, R, m0.ren hNb, R⟩

noncomputable def m_overseerlaw54_has_l1 (p0 : List Int) (p1 : Int) (st6 : Int) : Option (Int ⊕ (Unit ⊕ Unit)) :=
 if decide (st6 < (p0.length : Int)) then
  (idx p0 st6).bind fun x14 =>
  if (x14 == p1) then
   some (.inr (.inr (())))
  else
   some (.inl (W (st6 + 1)))
 else
  some (.inr (.inl ()))
noncomputable def m_overseerlaw54_has (p0 : List Int) (p1 : Int) : Option Bool :=
 (iter (m_overseerlaw54_has_l1 p0 p1) 0).bind fun o6 =>
 match o6 with
 | .inl u8 =>
  some false
 | .inr (u11) =>
  some true
theorem m_overseerlaw54_has_c {s : Sig} {p0 : List Int} {p1 : Int} {a1 : Option Addr} {c1 : Nat} {r : Bool} (h1 : RdL qI s a1 c1 p0) (hm : m_overseerlaw54_has p0 p1 = some r) :
    Calls Tryz.prog 45 #[.slice a1 p0.length c1, .int .i64 p1] s.w (RetS No s fun v s' => v = .bool r) := by
 unfold m_overseerlaw54_has at hm
 obtain ⟨N, hN, hNb⟩ := s.fresh
 have m0 : Mv (Up N No) s s := Mv.refl _ _
 refine E.entry Tryz.func45 R Tryz.ntmps45 R R (ER (L.as Y R R (LN (E.seq (ER (L.as Y R R (LN (E.block ?_))))))))
 obtain ⟨o6, eo6, hm⟩ := bindS hm
 refine E.cut (x := .exit 0) (fun e w => ∃ (s9 : Sig) (u8 : Unit), o6 = .inl u8 ∧ Mv (Up N No) s s9 ∧ e = [] ∧ w = s9.w) ?_ ?_
 ·rintro _ _ ⟨s9, u8, rfl, m0, rfl, rfl⟩
  dsimp only at hm
  refine X.blkE (X.seqN (ER (L.as Y R R (LN (E.ret ?_)))))
  obtain rfl := oi hm
  exact X.rt (.inl R) Tryz.results45 (Rs.tmp R Rs.nil) R ⟨_, (s9).ren N (fun _ => 0), R, R, m0.ren hNb, R⟩
 intro K10
 refine E.cut (x := .ret) (fun e w => ∃ (s12 : Sig) (u11 : Unit), o6 = .inr (u11) ∧ Mv (Up N No) s s12 ∧ e = [(4, .bool true)] ∧ w = s12.w) ?_ ?_
 ·rintro _ _ ⟨s12, u11, rfl, m0, rfl, rfl⟩
  dsimp only at hm
  refine X.blkR (X.seqR ?_)
  obtain rfl := oi hm
  exact X.rt (.inl R) Tryz.results45 (Rs.tmp R Rs.nil) R ⟨_, (s12).ren N (fun _ => 0), R, R, m0.ren hNb, R⟩
 intro K13
 refine E.iter (fun (st6 : Int) (e : List (Nat × Value)) (w : World) => ∃ (s7 : Sig), Mv (Up N No) s s7 ∧ RdL qI s7 a1 c1 p0 ∧ e = [(5, .int .i64 st6), (0, .slice a1 p0.length c1), (1, .int .i64 p1)] ∧ w = s7.w) eo6 ⟨s, m0, h1, R, R⟩ (Sub.rf R) ?_
 rintro st6 res6 hm ih6 ho6 _ _ ⟨s7, m0, h1, rfl, rfl⟩
 unfold m_overseerlaw54_has_l1 at hm
 refine E.seq (ER (L.mv Y R R (L.mv Y R R (L.len sl22 Y R R (L.bi Y R R R R (L.nil (X.seqN ?_)))))))
 rcases ifS hm with ⟨hc, hm⟩ | ⟨hc, hm⟩
 ·refine E.cT R hc (E.skip (X.seqN (E.seq (E.block (ER (L.mv Y R R (L.mv Y R R ?_)))))))
  obtain ⟨x14, ex14, hm⟩ := bindS hm
  refine L.ix (r := qI) sl22 h1 Y R R ex14 R fun b15 o15 cc15 me15 rd15 => ?_
  obtain rfl := rd15
  refine L.ld (j := 0) me15 nag3 Y R R R R (L.mv Y R R (L.bi Y R R R R (L.nil (X.seqN ?_))))
  rcases ifS hm with ⟨hc, hm⟩ | ⟨hc, hm⟩
  ·refine E.cT R hc (ER (L.as Y R R (LN (E.ret (X.blkR (X.seqR (X.seqR ?_)))))))
   have hx := ho6 _ (oi hm).symm
   exact X.sub (K13 _ _ ⟨s7, (), hx.symm, m0, R, R⟩) (Sub.rf R)
  exact E.cF R hc (E.skip (X.blkN (X.seqN (E.reg (L.mv Y R R (L.bi Y R R R R (L.as Y R R (L.nil (X.sub (ih6 _ (oi hm).symm _ _ ⟨s7, m0, h1, R, R⟩) (Sub.rf R))))))))))
 refine E.cF R hc (E.exit (X.seqX (X.seqX ?_)))
 have hx := ho6 _ (oi hm).symm
 exact X.sub (K10 _ _ ⟨s7, (), hx.symm, m0, R, R⟩) Sub.nil

theorem cf45 : Cf Tryz.prog 45 := Cf.mk Tryz.func45 (by kernel_rfl) (by kernel_rfl)
noncomputable def m_overseerlaw54_checkPriority_l1 (p0 : AutT × AutT × List Int) (p1 : List Int) (st61 : Int) : Option (Int ⊕ (Unit ⊕ Int)) :=
 if decide (st61 < (p1.length : Int)) then
  (idx p1 st61).bind fun x76 =>
  (m_overseerlaw54_has p0.1.1 x76).bind fun r80 =>
  if (!r80) then
   some (.inr (.inr (9)))
  else
   (idx p1 st61).bind fun x91 =>
   (m_overseerlaw54_has p0.2.2 x91).bind fun r95 =>
   if r95 then
    some (.inr (.inr (13)))
   else
    (slc p1 0 st61).bind fun x103 =>
    (idx p1 st61).bind fun x108 =>
    (m_overseerlaw54_has x103 x108).bind fun r112 =>
    if r112 then
     some (.inr (.inr (8)))
    else
     some (.inl (W (st61 + 1)))
 else
  some (.inr (.inl ()))
noncomputable def m_overseerlaw54_checkPriority (p0 : AutT × AutT × List Int) (p1 : List Int) : Option Int :=
 (iter (m_overseerlaw54_checkPriority_l1 p0 p1) 0).bind fun o61 =>
 match o61 with
 | .inl u64 =>
  some 0
 | .inr (u67) =>
  some u67
theorem m_overseerlaw54_checkPriority_c {s : Sig} {p0 : AutT × AutT × List Int} {p1 : List Int} {a1 : Option Addr} {c1 : Nat} {a2 : Option Addr} {c2 : Nat} {a3 : Option Addr} {c3 : Nat} {a4 : Option Addr} {c4 : Nat} {a5 : Option Addr} {c5 : Nat} {a6 : Option Addr} {c6 : Nat} {a7 : Option Addr} {c7 : Nat} {a8 : Option Addr} {c8 : Nat} {r : Int} (h1 : RdL qI s a1 c1 p0.1.1) (h2 : RdL qI s a2 c2 p0.1.2.2.1) (h3 : RdL qT s a3 c3 p0.1.2.2.2) (h4 : RdL qI s a4 c4 p0.2.1.1) (h5 : RdL qI s a5 c5 p0.2.1.2.2.1) (h6 : RdL qT s a6 c6 p0.2.1.2.2.2) (h7 : RdL qI s a7 c7 p0.2.2) (h8 : RdL qI s a8 c8 p1) (hm : m_overseerlaw54_checkPriority p0 p1 = some r) :
    Calls Tryz.prog 24 #[.agg #[.slice a1 p0.1.1.length c1, .int .i64 p0.1.2.1, .slice a2 p0.1.2.2.1.length c2, .slice a3 p0.1.2.2.2.length c3, .slice a4 p0.2.1.1.length c4, .int .i64 p0.2.1.2.1, .slice a5 p0.2.1.2.2.1.length c5, .slice a6 p0.2.1.2.2.2.length c6, .slice a7 p0.2.2.length c7], .slice a8 p1.length c8] s.w (RetS No s fun v s' => v = .int .i64 r) := by
 unfold m_overseerlaw54_checkPriority at hm
 obtain ⟨N, hN, hNb⟩ := s.fresh
 have m0 : Mv (Up N No) s s := Mv.refl _ _
 refine E.entry Tryz.func24 R Tryz.ntmps24 R R (ER (L.box (N + 0) Y R R R fun b9 s10 m11 bx9 => ?_))
 replace m0 := m0.trans m11.no
 replace h8 := h8.mono m11.z
 replace h1 := h1.mono m11.z
 replace h2 := h2.mono m11.z
 replace h3 := h3.mono m11.z
 replace h4 := h4.mono m11.z
 replace h5 := h5.mono m11.z
 replace h6 := h6.mono m11.z
 replace h7 := h7.mono m11.z
 refine L.as Y R R (LN (E.seq (ER (L.as Y R R (LN (E.block ?_))))))
 obtain ⟨o61, eo61, hm⟩ := bindS hm
 refine E.cut (x := .exit 0) (fun e w => ∃ (s65 : Sig) (u64 : Unit), o61 = .inl u64 ∧ Mv (Up N No) s s65 ∧ e = [] ∧ w = s65.w) ?_ ?_
 ·rintro _ _ ⟨s65, u64, rfl, m0, rfl, rfl⟩
  dsimp only at hm
  refine X.blkE (X.seqN (ER (L.as Y R R (LN (E.ret ?_)))))
  obtain rfl := oi hm
  exact X.rt (.inl R) Tryz.results24 (Rs.tmp R Rs.nil) R ⟨_, (s65).ren N (fun _ => 0), R, R, m0.ren hNb, R⟩
 intro K66
 refine E.cut (x := .ret) (fun e w => ∃ (s68 : Sig) (u67 : Int), o61 = .inr (u67) ∧ Mv (Up N No) s s68 ∧ e = [(4, .int .i64 u67)] ∧ w = s68.w) ?_ ?_
 ·rintro _ _ ⟨s68, u67, rfl, m0, rfl, rfl⟩
  dsimp only at hm
  refine X.blkR (X.seqR ?_)
  obtain rfl := oi hm
  exact X.rt (.inl R) Tryz.results24 (Rs.tmp R Rs.nil) R ⟨_, (s68).ren N (fun _ => 0), R, R, m0.ren hNb, R⟩
 intro K69
 refine E.iter (fun (st61 : Int) (e : List (Nat × Value)) (w : World) => ∃ (s63 : Sig), Mv (Up N No) s s63 ∧ RdL qI s63 a8 c8 p1 ∧ RdL qI s63 a1 c1 p0.1.1 ∧ RdL qI s63 a2 c2 p0.1.2.2.1 ∧ RdL qT s63 a3 c3 p0.1.2.2.2 ∧ RdL qI s63 a4 c4 p0.2.1.1 ∧ RdL qI s63 a5 c5 p0.2.1.2.2.1 ∧ RdL qT s63 a6 c6 p0.2.1.2.2.2 ∧ RdL qI s63 a7 c7 p0.2.2 ∧ Bx s63 (N + 0) b9 #[.slice a1 p0.1.1.length c1, .int .i64 p0.1.2.1, .slice a2 p0.1.2.2.1.length c2, .slice a3 p0.1.2.2.2.length c3, .slice a4 p0.2.1.1.length c4, .int .i64 p0.2.1.2.1, .slice a5 p0.2.1.2.2.1.length c5, .slice a6 p0.2.1.2.2.2.length c6, .slice a7 p0.2.2.length c7] 27 ∧ e = [(5, .int .i64 st61), (2, .pointer (some ⟨b9, 0, none⟩)), (1, .slice a8 p1.length c8)] ∧ w = s63.w) eo61 ⟨s10, m0, h8, h1, h2, h3, h4, h5, h6, h7, bx9, R, R⟩ (Sub.rf R) ?_
 rintro st61 res61 hm ih61 ho61 _ _ ⟨s63, m0, h8, h1, h2, h3, h4, h5, h6, h7, bx9, rfl, rfl⟩
 unfold m_overseerlaw54_checkPriority_l1 at hm
 refine E.seq (ER (L.mv Y R R (L.mv Y R R (L.len sl22 Y R R (L.bi Y R R R R (L.nil (X.seqN ?_)))))))
 rcases ifS hm with ⟨hc, hm⟩ | ⟨hc, hm⟩
 ·refine E.cT R hc (E.skip (X.seqN (E.seq (E.block (E.block (E.seq ?_))))))
  obtain ⟨x76, ex76, hm⟩ := bindS hm
  obtain ⟨r80, er80, hm⟩ := bindS hm
  refine E.draw [[], [0], [0, 1], [], [], [3, 4], [3, 4, 5], [0, 1, 2, 3, 4, 5, 6], [0, 1, 2, 3, 4, 5, 6, 7], [0, 1, 2, 3, 4, 5, 6, 7, 8]] (fun D e sx => Mv No s63 sx ∧ Sub [(5, .int .i64 st61), (2, .pointer (some ⟨b9, 0, none⟩)), (1, .slice a8 p1.length c8)] e ∧ AllP [G D e 0 13 (.pointer (some ⟨b9, 0, none⟩)), G D e 1 14 (.pointer (some ⟨b9, 0, none⟩)), G D e 2 15 (.slice a1 p0.1.1.length c1), G D e 3 16 (.slice a8 p1.length c8), G D e 4 17 (.int .i64 st61), D 5 = true → (∃ (b77 : Nat) (o77 : Nat), Env.get e 18 = some (.pointer (some ⟨b77, o77, none⟩)) ∧ Mem sx 0 b77 o77 [.int .i64 x76]), G D e 6 19 (.int .i64 x76), G D e 7 20 (.bool r80), G D e 8 21 (.bool (!r80)), G D e 9 12 (.bool (!r80))]) (by kernel_rfl) (by kernel_rfl) (by kernel_rfl) ?_ ?_ ?_
  ·intro sz mz
   exact ⟨mz, (Sub.rf R), nofun, nofun, nofun, nofun, nofun, nofun, nofun, nofun, nofun, nofun, trivial⟩
  ·refine ⟨?_, ?_, ?_, ?_, ?_, ?_, ?_, ?_, ?_, ?_, trivial⟩
   ·rintro D e s70 ⟨im, ib, i⟩ hk hf ha
    have kn := K1 (ib 2 _ R)
    exact kn.g (L.fa fa27_0 Y R R (L.nil (X.dk kn ⟨im, Sub.fresh ib R, i.u 0 (fun _ => R)⟩)))
   ·rintro D e s71 ⟨im, ib, i⟩ hk hf ha
    have kn := K1 ((i.p 0) (ha.at 0 R))
    exact kn.g (L.fa fa25_0 Y R R (L.nil (X.dk kn ⟨im, Sub.fresh ib R, i.u 1 (fun _ => R)⟩)))
   ·rintro D e s72 ⟨im, ib, i⟩ hk hf ha
    have bx9 := bx9.mv im no_No
    have kn := K1 ((i.p 1) (ha.at 1 R))
    exact kn.g (L.ld (j := 0) bx9.mem nag22 Y R R R R (L.nil (X.dk kn ⟨im, Sub.fresh ib R, i.u 2 (fun _ => R)⟩)))
   ·rintro D e s73 ⟨im, ib, i⟩ hk hf ha
    have kn := K1 (ib 1 _ R)
    exact kn.g (L.mv Y R R (L.nil (X.dk kn ⟨im, Sub.fresh ib R, i.u 3 (fun _ => R)⟩)))
   ·rintro D e s74 ⟨im, ib, i⟩ hk hf ha
    have kn := K1 (ib 5 _ R)
    exact kn.g (L.mv Y R R (L.nil (X.dk kn ⟨im, Sub.fresh ib R, i.u 4 (fun _ => R)⟩)))
   ·rintro D e s75 ⟨im, ib, i⟩ hk hf ha
    have h8 := h8.mono im.z
    have kn := K2 ((i.p 3) (ha.at 3 R)) ((i.p 4) (ha.at 4 R))
    refine kn.g (L.ix (r := qI) sl22 h8 Y R R ex76 R fun b77 o77 cc77 me77 rd77 => ?_)
    obtain rfl := rd77
    exact L.nil (X.dk kn ⟨im, Sub.fresh ib R, i.u 5 (fun _ => ⟨b77, o77, R, me77⟩)⟩)
   ·rintro D e s78 ⟨im, ib, i⟩ hk hf ha
    obtain ⟨b77, o77, g5_, me77⟩ := (i.p 5) (ha.at 5 R)
    have kn := K1 g5_
    exact kn.g (L.ld (j := 0) me77 nag3 Y R R R R (L.nil (X.dk kn ⟨im, Sub.fresh ib R, i.u 6 (fun _ => R)⟩)))
   ·rintro D e s79 ⟨im, ib, i⟩ hk hf ha
    have h1 := h1.mono im.z
    have kn := K2 ((i.p 2) (ha.at 2 R)) ((i.p 6) (ha.at 6 R))
    refine kn.g (L.ca cf45 R R Y R (m_overseerlaw54_has_c (s := s79) (p0 := p0.1.1) (p1 := x76) h1 er80) R ?_)
    rintro _ s81 m82 rfl
    exact L.nil (X.dk kn ⟨im.trans m82.no, Sub.fresh ib R, (i.u 5 (fun z => let ⟨b77, o77, q, me77⟩ := (i.p 5) z; ⟨b77, o77, q, (me77.mv m82 no_No)⟩)).u 7 (fun _ => R)⟩)
   ·rintro D e s83 ⟨im, ib, i⟩ hk hf ha
    have kn := K1 ((i.p 7) (ha.at 7 R))
    exact kn.g (L.not Y R R (L.nil (X.dk kn ⟨im, Sub.fresh ib R, i.u 8 (fun _ => R)⟩)))
   rintro D e s84 ⟨im, ib, i⟩ hk hf ha
   have kn := K1 ((i.p 8) (ha.at 8 R))
   exact kn.g (L.as Y R R (L.nil (X.dk kn ⟨im, Sub.fresh ib R, i.u 9 (fun _ => R)⟩)))
  rintro D e s85 hD ⟨im, ib, i⟩
  have g9_ := (i.p 9) (hD 9 R)
  have bx9 := bx9.mv im no_No
  have h1 := h1.mono im.z
  have h2 := h2.mono im.z
  have h3 := h3.mono im.z
  have h4 := h4.mono im.z
  have h5 := h5.mono im.z
  have h6 := h6.mono im.z
  have h7 := h7.mono im.z
  have h8 := h8.mono im.z
  have m0 := m0.trans im.no
  refine X.sub (e' := [(12, .bool (!r80)), (5, .int .i64 st61), (2, .pointer (some ⟨b9, 0, none⟩)), (1, .slice a8 p1.length c8)]) ?_ (Sub.cons g9_ (Sub.cons (ib 5 _ R) (Sub.cons (ib 2 _ R) (Sub.cons (ib 1 _ R) Sub.nil))))
  refine X.seqN ?_
  rcases ifS hm with ⟨hc, hm⟩ | ⟨hc, hm⟩
  ·refine E.cT R hc (ER (L.as Y R R (LN (E.ret (X.blkR (X.blkR (X.seqR (X.seqR ?_))))))))
   have hx := ho61 _ (oi hm).symm
   exact X.sub (K69 _ _ ⟨s85, 9, hx.symm, m0, R, R⟩) (Sub.rf R)
  refine E.cF R hc (E.seq ?_)
  obtain ⟨x91, ex91, hm⟩ := bindS hm
  obtain ⟨r95, er95, hm⟩ := bindS hm
  refine E.draw [[], [0], [], [], [2, 3], [2, 3, 4], [0, 1, 2, 3, 4, 5], [0, 1, 2, 3, 4, 5, 6]] (fun D e sx => Mv No s85 sx ∧ Sub [(5, .int .i64 st61), (2, .pointer (some ⟨b9, 0, none⟩)), (1, .slice a8 p1.length c8)] e ∧ AllP [G D e 0 23 (.pointer (some ⟨b9, 8, none⟩)), G D e 1 24 (.slice a7 p0.2.2.length c7), G D e 2 25 (.slice a8 p1.length c8), G D e 3 26 (.int .i64 st61), D 4 = true → (∃ (b92 : Nat) (o92 : Nat), Env.get e 27 = some (.pointer (some ⟨b92, o92, none⟩)) ∧ Mem sx 0 b92 o92 [.int .i64 x91]), G D e 5 28 (.int .i64 x91), G D e 6 29 (.bool r95), G D e 7 22 (.bool r95)]) (by kernel_rfl) (by kernel_rfl) (by kernel_rfl) ?_ ?_ ?_
  ·intro sz mz
   exact ⟨mz, (Sub.rf R), nofun, nofun, nofun, nofun, nofun, nofun, nofun, nofun, trivial⟩
  ·refine ⟨?_, ?_, ?_, ?_, ?_, ?_, ?_, ?_, trivial⟩
   ·rintro D e s86 ⟨im, ib, i⟩ hk hf ha
    have kn := K1 (ib 2 _ R)
    exact kn.g (L.fa fa27_2 Y R R (L.nil (X.dk kn ⟨im, Sub.fresh ib R, i.u 0 (fun _ => R)⟩)))
   ·rintro D e s87 ⟨im, ib, i⟩ hk hf ha
    have bx9 := bx9.mv im no_No
    have kn := K1 ((i.p 0) (ha.at 0 R))
    exact kn.g (L.ld (j := 8) bx9.mem nag22 Y R R R R (L.nil (X.dk kn ⟨im, Sub.fresh ib R, i.u 1 (fun _ => R)⟩)))
   ·rintro D e s88 ⟨im, ib, i⟩ hk hf ha
    have kn := K1 (ib 1 _ R)
    exact kn.g (L.mv Y R R (L.nil (X.dk kn ⟨im, Sub.fresh ib R, i.u 2 (fun _ => R)⟩)))
   ·rintro D e s89 ⟨im, ib, i⟩ hk hf ha
    have kn := K1 (ib 5 _ R)
    exact kn.g (L.mv Y R R (L.nil (X.dk kn ⟨im, Sub.fresh ib R, i.u 3 (fun _ => R)⟩)))
   ·rintro D e s90 ⟨im, ib, i⟩ hk hf ha
    have h8 := h8.mono im.z
    have kn := K2 ((i.p 2) (ha.at 2 R)) ((i.p 3) (ha.at 3 R))
    refine kn.g (L.ix (r := qI) sl22 h8 Y R R ex91 R fun b92 o92 cc92 me92 rd92 => ?_)
    obtain rfl := rd92
    exact L.nil (X.dk kn ⟨im, Sub.fresh ib R, i.u 4 (fun _ => ⟨b92, o92, R, me92⟩)⟩)
   ·rintro D e s93 ⟨im, ib, i⟩ hk hf ha
    obtain ⟨b92, o92, g4_, me92⟩ := (i.p 4) (ha.at 4 R)
    have kn := K1 g4_
    exact kn.g (L.ld (j := 0) me92 nag3 Y R R R R (L.nil (X.dk kn ⟨im, Sub.fresh ib R, i.u 5 (fun _ => R)⟩)))
   ·rintro D e s94 ⟨im, ib, i⟩ hk hf ha
    have h7 := h7.mono im.z
    have kn := K2 ((i.p 1) (ha.at 1 R)) ((i.p 5) (ha.at 5 R))
    refine kn.g (L.ca cf45 R R Y R (m_overseerlaw54_has_c (s := s94) (p0 := p0.2.2) (p1 := x91) h7 er95) R ?_)
    rintro _ s96 m97 rfl
    exact L.nil (X.dk kn ⟨im.trans m97.no, Sub.fresh ib R, (i.u 4 (fun z => let ⟨b92, o92, q, me92⟩ := (i.p 4) z; ⟨b92, o92, q, (me92.mv m97 no_No)⟩)).u 6 (fun _ => R)⟩)
   rintro D e s98 ⟨im, ib, i⟩ hk hf ha
   have kn := K1 ((i.p 6) (ha.at 6 R))
   exact kn.g (L.as Y R R (L.nil (X.dk kn ⟨im, Sub.fresh ib R, i.u 7 (fun _ => R)⟩)))
  rintro D e s99 hD ⟨im, ib, i⟩
  have g7_ := (i.p 7) (hD 7 R)
  have bx9 := bx9.mv im no_No
  have h1 := h1.mono im.z
  have h2 := h2.mono im.z
  have h3 := h3.mono im.z
  have h4 := h4.mono im.z
  have h5 := h5.mono im.z
  have h6 := h6.mono im.z
  have h7 := h7.mono im.z
  have h8 := h8.mono im.z
  have m0 := m0.trans im.no
  refine X.sub (e' := [(22, .bool r95), (5, .int .i64 st61), (2, .pointer (some ⟨b9, 0, none⟩)), (1, .slice a8 p1.length c8)]) ?_ (Sub.cons g7_ (Sub.cons (ib 5 _ R) (Sub.cons (ib 2 _ R) (Sub.cons (ib 1 _ R) Sub.nil))))
  refine X.seqN ?_
  rcases ifS hm with ⟨hc, hm⟩ | ⟨hc, hm⟩
  ·refine E.cT R hc (ER (L.as Y R R (LN (E.ret (X.blkR (X.blkR (X.seqR (X.seqR ?_))))))))
   have hx := ho61 _ (oi hm).symm
   exact X.sub (K69 _ _ ⟨s99, 13, hx.symm, m0, R, R⟩) (Sub.rf R)
  refine E.cF R hc (E.seq ?_)
  obtain ⟨x103, ex103, hm⟩ := bindS hm
  obtain ⟨x108, ex108, hm⟩ := bindS hm
  obtain ⟨r112, er112, hm⟩ := bindS hm
  refine E.draw [[], [], [0, 1], [], [], [3, 4], [3, 4, 5], [0, 1, 2, 3, 4, 5, 6], [0, 1, 2, 3, 4, 5, 6, 7]] (fun D e sx => Mv No s99 sx ∧ Sub [(5, .int .i64 st61), (2, .pointer (some ⟨b9, 0, none⟩)), (1, .slice a8 p1.length c8)] e ∧ AllP [G D e 0 31 (.slice a8 p1.length c8), G D e 1 32 (.int .i64 st61), D 2 = true → (∃ (a104 : Option Addr) (c104 : Nat), Env.get e 33 = some (.slice a104 x103.length c104) ∧ RdL qI sx a104 c104 x103), G D e 3 34 (.slice a8 p1.length c8), G D e 4 35 (.int .i64 st61), D 5 = true → (∃ (b109 : Nat) (o109 : Nat), Env.get e 36 = some (.pointer (some ⟨b109, o109, none⟩)) ∧ Mem sx 0 b109 o109 [.int .i64 x108]), G D e 6 37 (.int .i64 x108), G D e 7 38 (.bool r112), G D e 8 30 (.bool r112)]) (by kernel_rfl) (by kernel_rfl) (by kernel_rfl) ?_ ?_ ?_
  ·intro sz mz
   exact ⟨mz, (Sub.rf R), nofun, nofun, nofun, nofun, nofun, nofun, nofun, nofun, nofun, trivial⟩
  ·refine ⟨?_, ?_, ?_, ?_, ?_, ?_, ?_, ?_, ?_, trivial⟩
   ·rintro D e s100 ⟨im, ib, i⟩ hk hf ha
    have kn := K1 (ib 1 _ R)
    exact kn.g (L.mv Y R R (L.nil (X.dk kn ⟨im, Sub.fresh ib R, i.u 0 (fun _ => R)⟩)))
   ·rintro D e s101 ⟨im, ib, i⟩ hk hf ha
    have kn := K1 (ib 5 _ R)
    exact kn.g (L.mv Y R R (L.nil (X.dk kn ⟨im, Sub.fresh ib R, i.u 1 (fun _ => R)⟩)))
   ·rintro D e s102 ⟨im, ib, i⟩ hk hf ha
    have h8 := h8.mono im.z
    have kn := K2 ((i.p 0) (ha.at 0 R)) ((i.p 1) (ha.at 1 R))
    exact kn.g (L.sh (r := qI) sl22 h8 Y R R ex103 R fun a104 c104 h104 => L.nil (X.dk kn ⟨im, Sub.fresh ib R, i.u 2 (fun _ => ⟨a104, c104, R, h104⟩)⟩))
   ·rintro D e s105 ⟨im, ib, i⟩ hk hf ha
    have kn := K1 (ib 1 _ R)
    exact kn.g (L.mv Y R R (L.nil (X.dk kn ⟨im, Sub.fresh ib R, i.u 3 (fun _ => R)⟩)))
   ·rintro D e s106 ⟨im, ib, i⟩ hk hf ha
    have kn := K1 (ib 5 _ R)
    exact kn.g (L.mv Y R R (L.nil (X.dk kn ⟨im, Sub.fresh ib R, i.u 4 (fun _ => R)⟩)))
   ·rintro D e s107 ⟨im, ib, i⟩ hk hf ha
    have h8 := h8.mono im.z
    have kn := K2 ((i.p 3) (ha.at 3 R)) ((i.p 4) (ha.at 4 R))
    refine kn.g (L.ix (r := qI) sl22 h8 Y R R ex108 R fun b109 o109 cc109 me109 rd109 => ?_)
    obtain rfl := rd109
    exact L.nil (X.dk kn ⟨im, Sub.fresh ib R, i.u 5 (fun _ => ⟨b109, o109, R, me109⟩)⟩)
   ·rintro D e s110 ⟨im, ib, i⟩ hk hf ha
    obtain ⟨b109, o109, g5_, me109⟩ := (i.p 5) (ha.at 5 R)
    have kn := K1 g5_
    exact kn.g (L.ld (j := 0) me109 nag3 Y R R R R (L.nil (X.dk kn ⟨im, Sub.fresh ib R, i.u 6 (fun _ => R)⟩)))
   ·rintro D e s111 ⟨im, ib, i⟩ hk hf ha
    obtain ⟨a104, c104, g2_, h104⟩ := (i.p 2) (ha.at 2 R)
    have kn := K2 g2_ ((i.p 6) (ha.at 6 R))
    refine kn.g (L.ca cf45 R R Y R (m_overseerlaw54_has_c (s := s111) (p0 := x103) (p1 := x108) h104 er112) R ?_)
    rintro _ s113 m114 rfl
    exact L.nil (X.dk kn ⟨im.trans m114.no, Sub.fresh ib R, ((i.u 2 (fun z => let ⟨a104, c104, q, h104⟩ := (i.p 2) z; ⟨a104, c104, q, (h104.mono m114.z)⟩)).u 5 (fun z => let ⟨b109, o109, q, me109⟩ := (i.p 5) z; ⟨b109, o109, q, (me109.mv m114 no_No)⟩)).u 7 (fun _ => R)⟩)
   rintro D e s115 ⟨im, ib, i⟩ hk hf ha
   have kn := K1 ((i.p 7) (ha.at 7 R))
   exact kn.g (L.as Y R R (L.nil (X.dk kn ⟨im, Sub.fresh ib R, i.u 8 (fun _ => R)⟩)))
  rintro D e s116 hD ⟨im, ib, i⟩
  have g8_ := (i.p 8) (hD 8 R)
  have bx9 := bx9.mv im no_No
  have h1 := h1.mono im.z
  have h2 := h2.mono im.z
  have h3 := h3.mono im.z
  have h4 := h4.mono im.z
  have h5 := h5.mono im.z
  have h6 := h6.mono im.z
  have h7 := h7.mono im.z
  have h8 := h8.mono im.z
  have m0 := m0.trans im.no
  refine X.sub (e' := [(30, .bool r112), (5, .int .i64 st61), (2, .pointer (some ⟨b9, 0, none⟩)), (1, .slice a8 p1.length c8)]) ?_ (Sub.cons g8_ (Sub.cons (ib 5 _ R) (Sub.cons (ib 2 _ R) (Sub.cons (ib 1 _ R) Sub.nil))))
  refine X.seqN ?_
  rcases ifS hm with ⟨hc, hm⟩ | ⟨hc, hm⟩
  ·refine E.cT R hc (ER (L.as Y R R (LN (E.ret (X.blkR (X.blkR (X.seqR (X.seqR ?_))))))))
   have hx := ho61 _ (oi hm).symm
   exact X.sub (K69 _ _ ⟨s116, 8, hx.symm, m0, R, R⟩) (Sub.rf R)
  exact E.cF R hc (E.skip (X.blkN (X.blkN (X.seqN (E.reg (L.mv Y R R (L.bi Y R R R R (L.as Y R R (L.nil (X.sub (ih61 _ (oi hm).symm _ _ ⟨s116, m0, h8, h1, h2, h3, h4, h5, h6, h7, bx9, R, R⟩) (Sub.rf R)))))))))))
 refine E.cF R hc (E.exit (X.seqX (X.seqX ?_)))
 have hx := ho61 _ (oi hm).symm
 exact X.sub (K66 _ _ ⟨s63, (), hx.symm, m0, R, R⟩) Sub.nil

theorem cf11 : Cf Tryz.prog 11 := Cf.mk Tryz.func11 (by kernel_rfl) (by kernel_rfl)
theorem cf12 : Cf Tryz.prog 12 := Cf.mk Tryz.func12 (by kernel_rfl) (by kernel_rfl)
theorem cf13 : Cf Tryz.prog 13 := Cf.mk Tryz.func13 (by kernel_rfl) (by kernel_rfl)
theorem cf14 : Cf Tryz.prog 14 := Cf.mk Tryz.func14 (by kernel_rfl) (by kernel_rfl)
theorem cf15 : Cf Tryz.prog 15 := Cf.mk Tryz.func15 (by kernel_rfl) (by kernel_rfl)
theorem cf17 : Cf Tryz.prog 17 := Cf.mk Tryz.func17 (by kernel_rfl) (by kernel_rfl)
theorem cf19 : Cf Tryz.prog 19 := Cf.mk Tryz.func19 (by kernel_rfl) (by kernel_rfl)
theorem cf20 : Cf Tryz.prog 20 := Cf.mk Tryz.func20 (by kernel_rfl) (by kernel_rfl)
theorem cf21 : Cf Tryz.prog 21 := Cf.mk Tryz.func21 (by kernel_rfl) (by kernel_rfl)
theorem cf22 : Cf Tryz.prog 22 := Cf.mk Tryz.func22 (by kernel_rfl) (by kernel_rfl)
theorem cf23 : Cf Tryz.prog 23 := Cf.mk Tryz.func23 (by kernel_rfl) (by kernel_rfl)
theorem cf24 : Cf Tryz.prog 24 := Cf.mk Tryz.func24 (by kernel_rfl) (by kernel_rfl)
noncomputable def m_overseerlaw54_ScanErrors (p0 : AutT × AutT × List Int) (p1 : Int) (p2 : List Int) : Option Bool :=
 (m_overseerlaw54_known).bind fun r12 =>
 (if (!r12) then
  some true
 else
  (m_overseerlaw54_few p0.1).bind fun r163 =>
  some (!r163)).bind fun b15 =>
 (if b15 then
  some true
 else
  (m_overseerlaw54_few p0.2.1).bind fun r159 =>
  some (!r159)).bind fun b18 =>
 if ((b18 || (decide ((p0.2.2.length : Int) > 10))) || (decide ((p2.length : Int) > 8))) then
  (m_overseerlaw54_known).bind fun r23 =>
  some r23
 else
  (m_overseerlaw54_check p0).bind fun r26 =>
  (m_scan_Handle p0 (-1) ([] : List Int)).bind fun r29 =>
  (m_scan_Safe p0 (-1) ([] : List Int)).bind fun r32 =>
  (m_scan_Orders p0 p1).bind fun r36 =>
  (m_scan_Delays p0).bind fun r46 =>
  (m_scan_Choices p0 p2).bind fun r56 =>
  (m_scan_Restricted p0 p2).bind fun r66 =>
  (m_scan_Chosen p0 p2 ([] : List Int)).bind fun r77 =>
  (m_scan_Verify p0 p2 (0, ([] : List Int), ([] : List Int))).bind fun r80 =>
  (m_scan_Check p0).bind fun r83 =>
  if (r83 != r26) then
   some false
  else
   if (r26 != 0) then
    (if (((r29.2.2 == r26) && ((r32.1.length : Int) == 0)) && (r32.2 == r26)) then
     (m_overseerlaw54_zero r36.1).bind fun r119 =>
     some r119
    else
     some false).bind fun b88 =>
    (if (((b88 && (!r36.2.1)) && (r36.2.2 == r26)) && (r46.2.2 == r26)) then
     (m_overseerlaw54_zero r56.1).bind fun r112 =>
     some r112
    else
     some false).bind fun b94 =>
    some (((((((b94 && (!r56.2.1)) && (r56.2.2 == r26)) && (r66.1.2.1 == 0)) && ((r66.1.1.length : Int) == 0)) && (r66.2 == r26)) && (r77.2.2 == r26)) && (r80 == r26))
   else
    if ((((((decide (p1 < 2)) || (decide (p1 > 3))) != (r36.2.2 == 2)) || (r46.2.2 != 0)) || (r29.2.2 != 2)) || (r32.2 != 2)) then
     some false
    else
     (m_overseerlaw54_checkPriority p0 p2).bind fun r128 =>
     if (r128 != 0) then
      (m_overseerlaw54_zero r56.1).bind fun r131 =>
      some (((((r131 && (!r56.2.1)) && (r56.2.2 == r128)) && (r66.2 == r128)) && (r77.2.2 == r128)) && (r80 == r128))
     else
      some ((((r56.2.2 == 0) && (r66.2 == 0)) && ((r77.2.2 == 10) == ((p0.1.2.1 == 0) || (p0.2.1.2.1 == 0)))) && (r80 == 11))
theorem m_overseerlaw54_ScanErrors_c {s : Sig} {p0 : AutT × AutT × List Int} {p1 : Int} {p2 : List Int} {a1 : Option Addr} {c1 : Nat} {a2 : Option Addr} {c2 : Nat} {a3 : Option Addr} {c3 : Nat} {a4 : Option Addr} {c4 : Nat} {a5 : Option Addr} {c5 : Nat} {a6 : Option Addr} {c6 : Nat} {a7 : Option Addr} {c7 : Nat} {a8 : Option Addr} {c8 : Nat} {r : Bool} (h1 : RdL qI s a1 c1 p0.1.1) (h2 : RdL qI s a2 c2 p0.1.2.2.1) (h3 : RdL qT s a3 c3 p0.1.2.2.2) (h4 : RdL qI s a4 c4 p0.2.1.1) (h5 : RdL qI s a5 c5 p0.2.1.2.2.1) (h6 : RdL qT s a6 c6 p0.2.1.2.2.2) (h7 : RdL qI s a7 c7 p0.2.2) (h8 : RdL qI s a8 c8 p2) (hm : m_overseerlaw54_ScanErrors p0 p1 p2 = some r) :
    Calls Tryz.prog 3 #[.agg #[.slice a1 p0.1.1.length c1, .int .i64 p0.1.2.1, .slice a2 p0.1.2.2.1.length c2, .slice a3 p0.1.2.2.2.length c3, .slice a4 p0.2.1.1.length c4, .int .i64 p0.2.1.2.1, .slice a5 p0.2.1.2.2.1.length c5, .slice a6 p0.2.1.2.2.2.length c6, .slice a7 p0.2.2.length c7], .int .i64 p1, .slice a8 p2.length c8] s.w (RetS No s fun v s' => v = .bool r) := by
 unfold m_overseerlaw54_ScanErrors at hm
 obtain ⟨N, hN, hNb⟩ := s.fresh
 have m0 : Mv (Up N No) s s := Mv.refl _ _
 refine E.entry Tryz.func3 R Tryz.ntmps3 R R (ER (L.box (N + 0) Y R R R fun b9 s10 m11 bx9 => ?_))
 refine L.as Y R R (LN (E.seq (E.seq (E.reg ?_))))
 obtain ⟨r12, er12, hm⟩ := bindS hm
 refine L.ca cf11 R R Y R (m_overseerlaw54_known_c (s := s10) er12) R ?_
 rintro _ s13 m14 rfl
 replace m0 := (m0.trans m11.no).trans m14.no
 replace h8 := (h8.mono m11.z).mono m14.z
 replace bx9 := bx9.mv m14 no_No
 replace h1 := (h1.mono m11.z).mono m14.z
 replace h2 := (h2.mono m11.z).mono m14.z
 replace h3 := (h3.mono m11.z).mono m14.z
 replace h4 := (h4.mono m11.z).mono m14.z
 replace h5 := (h5.mono m11.z).mono m14.z
 replace h6 := (h6.mono m11.z).mono m14.z
 replace h7 := (h7.mono m11.z).mono m14.z
 refine L.not Y R R (L.mv Y R R ?_)
 obtain ⟨b15, eb15, hm⟩ := bindS hm
 refine L.cut 5 (fun e w => ∃ (s17 : Sig) (v16 : Bool), b15 = v16 ∧ Mv (Up N No) s s17 ∧ RdL qI s17 a8 c8 p2 ∧ RdL qI s17 a1 c1 p0.1.1 ∧ RdL qI s17 a2 c2 p0.1.2.2.1 ∧ RdL qT s17 a3 c3 p0.1.2.2.2 ∧ RdL qI s17 a4 c4 p0.2.1.1 ∧ RdL qI s17 a5 c5 p0.2.1.2.2.1 ∧ RdL qT s17 a6 c6 p0.2.1.2.2.2 ∧ RdL qI s17 a7 c7 p0.2.2 ∧ Bx s17 (N + 0) b9 #[.slice a1 p0.1.1.length c1, .int .i64 p0.1.2.1, .slice a2 p0.1.2.2.1.length c2, .slice a3 p0.1.2.2.2.length c3, .slice a4 p0.2.1.1.length c4, .int .i64 p0.2.1.2.1, .slice a5 p0.2.1.2.2.1.length c5, .slice a6 p0.2.1.2.2.2.length c6, .slice a7 p0.2.2.length c7] 27 ∧ e = (37, .bool v16) :: [(3, .pointer (some ⟨b9, 0, none⟩)), (1, .int .i64 p1), (2, .slice a8 p2.length c8)] ∧ w = s17.w) ?_ ?_
 ·rintro _ _ ⟨s17, v16, rfl, m0, h8, h1, h2, h3, h4, h5, h6, h7, bx9, rfl, rfl⟩
  refine L.mv Y R R ?_
  obtain ⟨b18, eb18, hm⟩ := bindS hm
  refine L.cut 5 (fun e w => ∃ (s20 : Sig) (v19 : Bool), b18 = v19 ∧ Mv (Up N No) s s20 ∧ RdL qI s20 a8 c8 p2 ∧ RdL qI s20 a1 c1 p0.1.1 ∧ RdL qI s20 a2 c2 p0.1.2.2.1 ∧ RdL qT s20 a3 c3 p0.1.2.2.2 ∧ RdL qI s20 a4 c4 p0.2.1.1 ∧ RdL qI s20 a5 c5 p0.2.1.2.2.1 ∧ RdL qT s20 a6 c6 p0.2.1.2.2.2 ∧ RdL qI s20 a7 c7 p0.2.2 ∧ Bx s20 (N + 0) b9 #[.slice a1 p0.1.1.length c1, .int .i64 p0.1.2.1, .slice a2 p0.1.2.2.1.length c2, .slice a3 p0.1.2.2.2.length c3, .slice a4 p0.2.1.1.length c4, .int .i64 p0.2.1.2.1, .slice a5 p0.2.1.2.2.1.length c5, .slice a6 p0.2.1.2.2.2.length c6, .slice a7 p0.2.2.length c7] 27 ∧ e = (43, .bool v19) :: [(3, .pointer (some ⟨b9, 0, none⟩)), (1, .int .i64 p1), (2, .slice a8 p2.length c8)] ∧ w = s20.w) ?_ ?_
  ·rintro _ _ ⟨s20, v19, rfl, m0, h8, h1, h2, h3, h4, h5, h6, h7, bx9, rfl, rfl⟩
   refine L.mv Y R R (L.cut 5 (fun e w => ∃ (v21 : Bool), (b18 || (decide ((p0.2.2.length : Int) > 10))) = v21 ∧ e = (49, .bool v21) :: [(3, .pointer (some ⟨b9, 0, none⟩)), (1, .int .i64 p1), (2, .slice a8 p2.length c8)] ∧ w = s20.w) ?_ ?_)
   ·rintro _ _ ⟨v21, rfl, rfl, rfl⟩
    refine L.mv Y R R (L.cut 4 (fun e w => ∃ (v22 : Bool), ((b18 || (decide ((p0.2.2.length : Int) > 10))) || (decide ((p2.length : Int) > 8))) = v22 ∧ e = (54, .bool v22) :: [(3, .pointer (some ⟨b9, 0, none⟩)), (1, .int .i64 p1), (2, .slice a8 p2.length c8)] ∧ w = s20.w) ?_ ?_)
    ·rintro _ _ ⟨v22, rfl, rfl, rfl⟩
     refine L.nil (X.seqN ?_)
     rcases ifS hm with ⟨hc, hm⟩ | ⟨hc, hm⟩
     ·refine E.cT R hc (E.seq (E.reg ?_))
      obtain ⟨r23, er23, hm⟩ := bindS hm
      refine L.ca cf11 R R Y R (m_overseerlaw54_known_c (s := s20) er23) R ?_
      rintro _ s24 m25 rfl
      replace m0 := m0.trans m25.no
      refine L.as Y R R (LN (E.ret (X.seqR ?_)))
      obtain rfl := oi hm
      exact X.rt (.inl R) Tryz.results3 (Rs.tmp R Rs.nil) R ⟨_, (s24).ren N (fun _ => 0), R, R, m0.ren hNb, R⟩
     refine E.cF R hc (E.skip (X.seqN (ER (L.lg (j := 0) (cs := [.slice a1 p0.1.1.length c1, .int .i64 p0.1.2.1, .slice a2 p0.1.2.2.1.length c2, .slice a3 p0.1.2.2.2.length c3, .slice a4 p0.2.1.1.length c4, .int .i64 p0.2.1.2.1, .slice a5 p0.2.1.2.2.1.length c5, .slice a6 p0.2.1.2.2.2.length c6, .slice a7 p0.2.2.length c7]) bx9.mem ag27 Y R R R R R ?_))))
     obtain ⟨r26, er26, hm⟩ := bindS hm
     refine L.ca cf13 R R Y R (m_overseerlaw54_check_c (s := s20) (p0 := p0) h1 h2 h3 h4 h5 h6 h7 er26) R ?_
     rintro _ s27 m28 rfl
     replace bx9 := bx9.mv m28 no_No
     replace h1 := h1.mono m28.z
     replace h2 := h2.mono m28.z
     replace h3 := h3.mono m28.z
     replace h4 := h4.mono m28.z
     replace h5 := h5.mono m28.z
     replace h6 := h6.mono m28.z
     replace h7 := h7.mono m28.z
     refine L.as Y R R (LN (ER (L.lg (j := 0) (cs := [.slice a1 p0.1.1.length c1, .int .i64 p0.1.2.1, .slice a2 p0.1.2.2.1.length c2, .slice a3 p0.1.2.2.2.length c3, .slice a4 p0.2.1.1.length c4, .int .i64 p0.2.1.2.1, .slice a5 p0.2.1.2.2.1.length c5, .slice a6 p0.2.1.2.2.2.length c6, .slice a7 p0.2.2.length c7]) bx9.mem ag27 Y R R R R R ?_)))
     obtain ⟨r29, er29, hm⟩ := bindS hm
     refine L.ca cf14 R R Y R (m_scan_Handle_c (s := s27) (p0 := p0) (p1 := (-1)) (p2 := ([] : List Int)) h1 h2 h3 h4 h5 h6 h7 RdL.nil er29) R ?_
     rintro _ s30 m31 rfl
     replace bx9 := bx9.mv m31 no_No
     replace h1 := h1.mono m31.z
     replace h2 := h2.mono m31.z
     replace h3 := h3.mono m31.z
     replace h4 := h4.mono m31.z
     replace h5 := h5.mono m31.z
     replace h6 := h6.mono m31.z
     replace h7 := h7.mono m31.z
     refine L.mv Y R R (L.ex Y R R R (L.ex Y R R R (L.ex Y R R R (L.as Y R R (L.as Y R R (L.as Y R R (LN (ER (L.lg (j := 0) (cs := [.slice a1 p0.1.1.length c1, .int .i64 p0.1.2.1, .slice a2 p0.1.2.2.1.length c2, .slice a3 p0.1.2.2.2.length c3, .slice a4 p0.2.1.1.length c4, .int .i64 p0.2.1.2.1, .slice a5 p0.2.1.2.2.1.length c5, .slice a6 p0.2.1.2.2.2.length c6, .slice a7 p0.2.2.length c7]) bx9.mem ag27 Y R R R R R ?_)))))))))
     obtain ⟨r32, er32, hm⟩ := bindS hm
     refine L.ca cf15 R R Y R (m_scan_Safe_c (s := s30) (p0 := p0) (p1 := (-1)) (p2 := ([] : List Int)) (u0 := 0) h1 h2 h3 h4 h5 h6 h7 RdL.nil er32) R ?_
     rintro _ s33 m34 ⟨a35, c35, rfl, h35⟩
     replace h35 := h35.p
     replace bx9 := bx9.mv m34 no_No
     replace h1 := h1.mono m34.z
     replace h2 := h2.mono m34.z
     replace h3 := h3.mono m34.z
     replace h4 := h4.mono m34.z
     replace h5 := h5.mono m34.z
     replace h6 := h6.mono m34.z
     replace h7 := h7.mono m34.z
     refine L.mv Y R R (L.ex Y R R R (L.ex Y R R R (L.as Y R R (L.as Y R R (LN (ER (L.lg (j := 0) (cs := [.slice a1 p0.1.1.length c1, .int .i64 p0.1.2.1, .slice a2 p0.1.2.2.1.length c2, .slice a3 p0.1.2.2.2.length c3, .slice a4 p0.2.1.1.length c4, .int .i64 p0.2.1.2.1, .slice a5 p0.2.1.2.2.1.length c5, .slice a6 p0.2.1.2.2.2.length c6, .slice a7 p0.2.2.length c7]) bx9.mem ag27 Y R R R R R (L.mv Y R R ?_))))))))
     obtain ⟨r36, er36, hm⟩ := bindS hm
     refine L.ca cf16 R R Y R (m_scan_Orders_c (s := s33) (p0 := p0) (p1 := p1) (u0 := 0) h1 h2 h3 h4 h5 h6 h7 er36) R ?_
     rintro _ s37 m38 ⟨a39, c39, a40, c40, rfl, h39, h40⟩
     refine L.mv Y R R (L.ex Y R R R (L.ex Y R R R (L.ex Y R R R (L.al (N + 1) zz38 R Y R fun b41 s42 m43 bx41 => ?_))))
     refine L.st (c := [.int .i64 r36.1.1, .slice a39 r36.1.2.1.length c39, .slice a40 r36.1.2.2.length c40]) (cs' := #[.int .i64 r36.1.1, .slice a39 r36.1.2.1.length c39, .slice a40 r36.1.2.2.length c40]) bx41 ag38.sz Y R R R R R (nb R) R fun s44 m45 bx41 => ?_
     replace bx9 := ((bx9.mv m38 no_No).mv m43 no_No).mv m45 (tq R)
     replace h1 := ((h1.mono m38.z).mono m43.z).mono (m45.le (tg0 hN))
     replace h2 := ((h2.mono m38.z).mono m43.z).mono (m45.le (tg0 hN))
     replace h3 := ((h3.mono m38.z).mono m43.z).mono (m45.le (tg0 hN))
     replace h4 := ((h4.mono m38.z).mono m43.z).mono (m45.le (tg0 hN))
     replace h5 := ((h5.mono m38.z).mono m43.z).mono (m45.le (tg0 hN))
     replace h6 := ((h6.mono m38.z).mono m43.z).mono (m45.le (tg0 hN))
     replace h7 := ((h7.mono m38.z).mono m43.z).mono (m45.le (tg0 hN))
     refine L.as Y R R (L.as Y R R (LN (ER (L.lg (j := 0) (cs := [.slice a1 p0.1.1.length c1, .int .i64 p0.1.2.1, .slice a2 p0.1.2.2.1.length c2, .slice a3 p0.1.2.2.2.length c3, .slice a4 p0.2.1.1.length c4, .int .i64 p0.2.1.2.1, .slice a5 p0.2.1.2.2.1.length c5, .slice a6 p0.2.1.2.2.2.length c6, .slice a7 p0.2.2.length c7]) bx9.mem ag27 Y R R R R R ?_))))
     obtain ⟨r46, er46, hm⟩ := bindS hm
     refine L.ca cf17 R R Y R (m_scan_Delays_c (s := s44) (p0 := p0) (u0 := 0) h1 h2 h3 h4 h5 h6 h7 er46) R ?_
     rintro _ s47 m48 ⟨a49, c49, a50, c50, rfl, h49, h50⟩
     replace h49 := h49.p
     refine L.mv Y R R (L.ex Y R R R (L.ex Y R R R (L.ex Y R R R (L.al (N + 2) zz38 R Y R fun b51 s52 m53 bx51 => ?_))))
     refine L.st (c := [.int .i64 r46.1.1, .slice a49 r46.1.2.1.length c49, .slice a50 r46.1.2.2.length c50]) (cs' := #[.int .i64 r46.1.1, .slice a49 r46.1.2.1.length c49, .slice a50 r46.1.2.2.length c50]) bx51 ag38.sz Y R R R R R (nb R) R fun s54 m55 bx51 => ?_
     replace h8 := ((((((((h8.mono m28.z).mono m31.z).mono m34.z).mono m38.z).mono m43.z).mono (m45.le (tg0 hN))).mono m48.z).mono m53.z).mono (m55.le (tg0 hN))
     replace bx9 := ((bx9.mv m48 no_No).mv m53 no_No).mv m55 (tq R)
     replace h1 := ((h1.mono m48.z).mono m53.z).mono (m55.le (tg0 hN))
     replace h2 := ((h2.mono m48.z).mono m53.z).mono (m55.le (tg0 hN))
     replace h3 := ((h3.mono m48.z).mono m53.z).mono (m55.le (tg0 hN))
     replace h4 := ((h4.mono m48.z).mono m53.z).mono (m55.le (tg0 hN))
     replace h5 := ((h5.mono m48.z).mono m53.z).mono (m55.le (tg0 hN))
     replace h6 := ((h6.mono m48.z).mono m53.z).mono (m55.le (tg0 hN))
     replace h7 := ((h7.mono m48.z).mono m53.z).mono (m55.le (tg0 hN))
     refine L.as Y R R (L.as Y R R (LN (ER (L.lg (j := 0) (cs := [.slice a1 p0.1.1.length c1, .int .i64 p0.1.2.1, .slice a2 p0.1.2.2.1.length c2, .slice a3 p0.1.2.2.2.length c3, .slice a4 p0.2.1.1.length c4, .int .i64 p0.2.1.2.1, .slice a5 p0.2.1.2.2.1.length c5, .slice a6 p0.2.1.2.2.2.length c6, .slice a7 p0.2.2.length c7]) bx9.mem ag27 Y R R R R R (L.mv Y R R ?_)))))
     obtain ⟨r56, er56, hm⟩ := bindS hm
     refine L.ca cf18 R R Y R (m_scan_Choices_c (s := s54) (p0 := p0) (p1 := p2) (u0 := 0) (u1 := 0) h1 h2 h3 h4 h5 h6 h7 h8 er56) R ?_
     rintro _ s57 m58 ⟨a59, c59, a60, c60, rfl, h59, h60⟩
     refine L.mv Y R R (L.ex Y R R R (L.ex Y R R R (L.ex Y R R R (L.al (N + 3) zz38 R Y R fun b61 s62 m63 bx61 => ?_))))
     refine L.st (c := [.int .i64 r56.1.1, .slice a59 r56.1.2.1.length c59, .slice a60 r56.1.2.2.length c60]) (cs' := #[.int .i64 r56.1.1, .slice a59 r56.1.2.1.length c59, .slice a60 r56.1.2.2.length c60]) bx61 ag38.sz Y R R R R R (nb R) R fun s64 m65 bx61 => ?_
     replace h8 := ((h8.mono m58.z).mono m63.z).mono (m65.le (tg0 hN))
     replace bx9 := ((bx9.mv m58 no_No).mv m63 no_No).mv m65 (tq R)
     replace h1 := ((h1.mono m58.z).mono m63.z).mono (m65.le (tg0 hN))
     replace h2 := ((h2.mono m58.z).mono m63.z).mono (m65.le (tg0 hN))
     replace h3 := ((h3.mono m58.z).mono m63.z).mono (m65.le (tg0 hN))
     replace h4 := ((h4.mono m58.z).mono m63.z).mono (m65.le (tg0 hN))
     replace h5 := ((h5.mono m58.z).mono m63.z).mono (m65.le (tg0 hN))
     replace h6 := ((h6.mono m58.z).mono m63.z).mono (m65.le (tg0 hN))
     replace h7 := ((h7.mono m58.z).mono m63.z).mono (m65.le (tg0 hN))
     refine L.as Y R R (L.as Y R R (LN (ER (L.lg (j := 0) (cs := [.slice a1 p0.1.1.length c1, .int .i64 p0.1.2.1, .slice a2 p0.1.2.2.1.length c2, .slice a3 p0.1.2.2.2.length c3, .slice a4 p0.2.1.1.length c4, .int .i64 p0.2.1.2.1, .slice a5 p0.2.1.2.2.1.length c5, .slice a6 p0.2.1.2.2.2.length c6, .slice a7 p0.2.2.length c7]) bx9.mem ag27 Y R R R R R (L.mv Y R R ?_)))))
     obtain ⟨r66, er66, hm⟩ := bindS hm
     refine L.ca cf19 R R Y R (m_scan_Restricted_c (s := s64) (p0 := p0) (p1 := p2) h1 h2 h3 h4 h5 h6 h7 h8 er66) R ?_
     rintro _ s67 m68 ⟨a69, c69, a70, c70, a71, c71, rfl, h69, h70, h71⟩
     refine L.mv Y R R (L.ex Y R R R (L.ex Y R R R (L.al (N + 4) zz25 R Y R fun b72 s73 m74 bx72 => ?_)))
     refine L.st (c := [.slice a69 r66.1.1.length c69, .int .i64 r66.1.2.1, .slice a70 r66.1.2.2.1.length c70, .slice a71 r66.1.2.2.2.length c71]) (cs' := #[.slice a69 r66.1.1.length c69, .int .i64 r66.1.2.1, .slice a70 r66.1.2.2.1.length c70, .slice a71 r66.1.2.2.2.length c71]) bx72 ag25.sz Y R R R R R (nb R) R fun s75 m76 bx72 => ?_
     replace h8 := ((h8.mono m68.z).mono m74.z).mono (m76.le (tg0 hN))
     replace bx9 := ((bx9.mv m68 no_No).mv m74 no_No).mv m76 (tq R)
     replace h1 := ((h1.mono m68.z).mono m74.z).mono (m76.le (tg0 hN))
     replace h2 := ((h2.mono m68.z).mono m74.z).mono (m76.le (tg0 hN))
     replace h3 := ((h3.mono m68.z).mono m74.z).mono (m76.le (tg0 hN))
     replace h4 := ((h4.mono m68.z).mono m74.z).mono (m76.le (tg0 hN))
     replace h5 := ((h5.mono m68.z).mono m74.z).mono (m76.le (tg0 hN))
     replace h6 := ((h6.mono m68.z).mono m74.z).mono (m76.le (tg0 hN))
     replace h7 := ((h7.mono m68.z).mono m74.z).mono (m76.le (tg0 hN))
     refine L.as Y R R (LN (ER (L.lg (j := 0) (cs := [.slice a1 p0.1.1.length c1, .int .i64 p0.1.2.1, .slice a2 p0.1.2.2.1.length c2, .slice a3 p0.1.2.2.2.length c3, .slice a4 p0.2.1.1.length c4, .int .i64 p0.2.1.2.1, .slice a5 p0.2.1.2.2.1.length c5, .slice a6 p0.2.1.2.2.2.length c6, .slice a7 p0.2.2.length c7]) bx9.mem ag27 Y R R R R R (L.mv Y R R ?_))))
     obtain ⟨r77, er77, hm⟩ := bindS hm
     refine L.ca cf20 R R Y R (m_scan_Chosen_c (s := s75) (p0 := p0) (p1 := p2) (p2 := ([] : List Int)) h1 h2 h3 h4 h5 h6 h7 h8 RdL.nil er77) R ?_
     rintro _ s78 m79 rfl
     replace h8 := h8.mono m79.z
     replace bx9 := bx9.mv m79 no_No
     replace h1 := h1.mono m79.z
     replace h2 := h2.mono m79.z
     replace h3 := h3.mono m79.z
     replace h4 := h4.mono m79.z
     replace h5 := h5.mono m79.z
     replace h6 := h6.mono m79.z
     replace h7 := h7.mono m79.z
     refine L.mv Y R R (L.ex Y R R R (L.ex Y R R R (L.ex Y R R R (L.as Y R R (L.as Y R R (L.as Y R R (LN (ER (L.lg (j := 0) (cs := [.slice a1 p0.1.1.length c1, .int .i64 p0.1.2.1, .slice a2 p0.1.2.2.1.length c2, .slice a3 p0.1.2.2.2.length c3, .slice a4 p0.2.1.1.length c4, .int .i64 p0.2.1.2.1, .slice a5 p0.2.1.2.2.1.length c5, .slice a6 p0.2.1.2.2.2.length c6, .slice a7 p0.2.2.length c7]) bx9.mem ag27 Y R R R R R (L.mv Y R R (L.bu (cs := [.int .i64 0, .slice none 0 0, .slice none 0 0]) pl38 Y R R R ?_)))))))))))
     obtain ⟨r80, er80, hm⟩ := bindS hm
     refine L.ca cf21 R R Y R (m_scan_Verify_c (s := s78) (p0 := p0) (p1 := p2) (p2 := (0, ([] : List Int), ([] : List Int))) h1 h2 h3 h4 h5 h6 h7 h8 RdL.nil RdL.nil er80) R ?_
     rintro _ s81 m82 rfl
     replace bx9 := bx9.mv m82 no_No
     replace h1 := h1.mono m82.z
     replace h2 := h2.mono m82.z
     replace h3 := h3.mono m82.z
     replace h4 := h4.mono m82.z
     replace h5 := h5.mono m82.z
     replace h6 := h6.mono m82.z
     replace h7 := h7.mono m82.z
     refine L.as Y R R (LN (E.seq (ER (L.lg (j := 0) (cs := [.slice a1 p0.1.1.length c1, .int .i64 p0.1.2.1, .slice a2 p0.1.2.2.1.length c2, .slice a3 p0.1.2.2.2.length c3, .slice a4 p0.2.1.1.length c4, .int .i64 p0.2.1.2.1, .slice a5 p0.2.1.2.2.1.length c5, .slice a6 p0.2.1.2.2.2.length c6, .slice a7 p0.2.2.length c7]) bx9.mem ag27 Y R R R R R ?_))))
     obtain ⟨r83, er83, hm⟩ := bindS hm
     refine L.ca cf22 R R Y R (m_scan_Check_c (s := s81) (p0 := p0) h1 h2 h3 h4 h5 h6 h7 er83) R ?_
     rintro _ s84 m85 rfl
     replace m0 := (((((((((((((((((m0.trans m28.no).trans m31.no).trans m34.no).trans m38.no).trans m43.no).trans (m45.one up)).trans m48.no).trans m53.no).trans (m55.one up)).trans m58.no).trans m63.no).trans (m65.one up)).trans m68.no).trans m74.no).trans (m76.one up)).trans m79.no).trans m82.no).trans m85.no
     replace h8 := (h8.mono m82.z).mono m85.z
     replace bx9 := bx9.mv m85 no_No
     replace h1 := h1.mono m85.z
     replace h2 := h2.mono m85.z
     replace h3 := h3.mono m85.z
     replace h4 := h4.mono m85.z
     replace h5 := h5.mono m85.z
     replace h6 := h6.mono m85.z
     replace h7 := h7.mono m85.z
     replace bx41 := (((((((((((bx41.mv m48 no_No).mv m53 no_No).mv m55 (tq R)).mv m58 no_No).mv m63 no_No).mv m65 (tq R)).mv m68 no_No).mv m74 no_No).mv m76 (tq R)).mv m79 no_No).mv m82 no_No).mv m85 no_No
     replace h39 := ((((((((((((((h39.p).mono m43.z).mono (m45.le (tg0 hN))).mono m48.z).mono m53.z).mono (m55.le (tg0 hN))).mono m58.z).mono m63.z).mono (m65.le (tg0 hN))).mono m68.z).mono m74.z).mono (m76.le (tg0 hN))).mono m79.z).mono m82.z).mono m85.z
     replace h40 := (((((((((((((h40.mono m43.z).mono (m45.le (tg0 hN))).mono m48.z).mono m53.z).mono (m55.le (tg0 hN))).mono m58.z).mono m63.z).mono (m65.le (tg0 hN))).mono m68.z).mono m74.z).mono (m76.le (tg0 hN))).mono m79.z).mono m82.z).mono m85.z
     replace bx61 := (((((bx61.mv m68 no_No).mv m74 no_No).mv m76 (tq R)).mv m79 no_No).mv m82 no_No).mv m85 no_No
     replace h59 := ((((((((h59.p).mono m63.z).mono (m65.le (tg0 hN))).mono m68.z).mono m74.z).mono (m76.le (tg0 hN))).mono m79.z).mono m82.z).mono m85.z
     replace h60 := ((((((((h60.p).mono m63.z).mono (m65.le (tg0 hN))).mono m68.z).mono m74.z).mono (m76.le (tg0 hN))).mono m79.z).mono m82.z).mono m85.z
     replace bx72 := ((bx72.mv m79 no_No).mv m82 no_No).mv m85 no_No
     replace h69 := ((((h69.mono m74.z).mono (m76.le (tg0 hN))).mono m79.z).mono m82.z).mono m85.z
     replace h70 := ((((h70.mono m74.z).mono (m76.le (tg0 hN))).mono m79.z).mono m82.z).mono m85.z
     replace h71 := ((((h71.mono m74.z).mono (m76.le (tg0 hN))).mono m79.z).mono m82.z).mono m85.z
     refine L.mv Y R R (L.bi Y R R R R (L.nil (X.seqN ?_)))
     rcases ifS hm with ⟨hc, hm⟩ | ⟨hc, hm⟩
     ·refine E.cT R hc (ER (L.as Y R R (LN (E.ret (X.seqR ?_)))))
      obtain rfl := oi hm
      exact X.rt (.inl R) Tryz.results3 (Rs.tmp R Rs.nil) R ⟨_, (s84).ren N (fun _ => 0), R, R, m0.ren hNb, R⟩
     refine E.cF R hc (E.skip (X.seqN (E.seq (ER (L.mv Y R R (L.bi Y R R R R (L.nil (X.seqN ?_))))))))
     rcases ifS hm with ⟨hc, hm⟩ | ⟨hc, hm⟩
     ·refine E.cT R hc (ER (L.mv Y R R (L.mv Y R R (L.bi Y R R R R (L.mv Y R R (L.cut 4 (fun e w => ∃ (v86 : Bool), ((r29.2.2 == r26) && ((r32.1.length : Int) == 0)) = v86 ∧ e = (119, .bool v86) :: [(27, .int .i64 r80), (26, .int .i64 r77.2.2), (23, .int .i64 r66.2), (22, .pointer (some ⟨b72, 0, none⟩)), (21, .int .i64 r56.2.2), (20, .bool r56.2.1), (19, .pointer (some ⟨b61, 0, none⟩)), (18, .int .i64 r46.2.2), (15, .int .i64 r36.2.2), (14, .bool r36.2.1), (13, .pointer (some ⟨b41, 0, none⟩)), (12, .int .i64 r32.2), (7, .int .i64 r26)] ∧ w = s84.w) ?_ ?_))))))
      ·rintro _ _ ⟨v86, rfl, rfl, rfl⟩
       refine L.mv Y R R (L.cut 4 (fun e w => ∃ (v87 : Bool), (((r29.2.2 == r26) && ((r32.1.length : Int) == 0)) && (r32.2 == r26)) = v87 ∧ e = (124, .bool v87) :: [(27, .int .i64 r80), (26, .int .i64 r77.2.2), (23, .int .i64 r66.2), (22, .pointer (some ⟨b72, 0, none⟩)), (21, .int .i64 r56.2.2), (20, .bool r56.2.1), (19, .pointer (some ⟨b61, 0, none⟩)), (18, .int .i64 r46.2.2), (15, .int .i64 r36.2.2), (14, .bool r36.2.1), (13, .pointer (some ⟨b41, 0, none⟩)), (7, .int .i64 r26)] ∧ w = s84.w) ?_ ?_)
       ·rintro _ _ ⟨v87, rfl, rfl, rfl⟩
        refine L.mv Y R R ?_
        obtain ⟨b88, eb88, hm⟩ := bindS hm
        refine L.cut 3 (fun e w => ∃ (s90 : Sig) (v89 : Bool), b88 = v89 ∧ Mv (Up N No) s s90 ∧ RdL qI s90 a59 c59 r56.1.2.1 ∧ RdL qI s90 a60 c60 r56.1.2.2 ∧ RdL qI s90 a69 c69 r66.1.1 ∧ RdL qI s90 a70 c70 r66.1.2.2.1 ∧ RdL qT s90 a71 c71 r66.1.2.2.2 ∧ Bx s90 (N + 3) b61 #[.int .i64 r56.1.1, .slice a59 r56.1.2.1.length c59, .slice a60 r56.1.2.2.length c60] 38 ∧ Bx s90 (N + 4) b72 #[.slice a69 r66.1.1.length c69, .int .i64 r66.1.2.1, .slice a70 r66.1.2.2.1.length c70, .slice a71 r66.1.2.2.2.length c71] 25 ∧ e = (128, .bool v89) :: [(27, .int .i64 r80), (26, .int .i64 r77.2.2), (23, .int .i64 r66.2), (22, .pointer (some ⟨b72, 0, none⟩)), (21, .int .i64 r56.2.2), (20, .bool r56.2.1), (19, .pointer (some ⟨b61, 0, none⟩)), (18, .int .i64 r46.2.2), (15, .int .i64 r36.2.2), (14, .bool r36.2.1), (7, .int .i64 r26)] ∧ w = s90.w) ?_ ?_
        ·rintro _ _ ⟨s90, v89, rfl, m0, h59, h60, h69, h70, h71, bx61, bx72, rfl, rfl⟩
         refine L.mv Y R R (L.cut 3 (fun e w => ∃ (v91 : Bool), (b88 && (!r36.2.1)) = v91 ∧ e = (132, .bool v91) :: [(27, .int .i64 r80), (26, .int .i64 r77.2.2), (23, .int .i64 r66.2), (22, .pointer (some ⟨b72, 0, none⟩)), (21, .int .i64 r56.2.2), (20, .bool r56.2.1), (19, .pointer (some ⟨b61, 0, none⟩)), (18, .int .i64 r46.2.2), (15, .int .i64 r36.2.2), (7, .int .i64 r26)] ∧ w = s90.w) ?_ ?_)
         ·rintro _ _ ⟨v91, rfl, rfl, rfl⟩
          refine L.mv Y R R (L.cut 4 (fun e w => ∃ (v92 : Bool), ((b88 && (!r36.2.1)) && (r36.2.2 == r26)) = v92 ∧ e = (137, .bool v92) :: [(27, .int .i64 r80), (26, .int .i64 r77.2.2), (23, .int .i64 r66.2), (22, .pointer (some ⟨b72, 0, none⟩)), (21, .int .i64 r56.2.2), (20, .bool r56.2.1), (19, .pointer (some ⟨b61, 0, none⟩)), (18, .int .i64 r46.2.2), (7, .int .i64 r26)] ∧ w = s90.w) ?_ ?_)
          ·rintro _ _ ⟨v92, rfl, rfl, rfl⟩
           refine L.mv Y R R (L.cut 4 (fun e w => ∃ (v93 : Bool), (((b88 && (!r36.2.1)) && (r36.2.2 == r26)) && (r46.2.2 == r26)) = v93 ∧ e = (142, .bool v93) :: [(27, .int .i64 r80), (26, .int .i64 r77.2.2), (23, .int .i64 r66.2), (22, .pointer (some ⟨b72, 0, none⟩)), (21, .int .i64 r56.2.2), (20, .bool r56.2.1), (19, .pointer (some ⟨b61, 0, none⟩)), (7, .int .i64 r26)] ∧ w = s90.w) ?_ ?_)
           ·rintro _ _ ⟨v93, rfl, rfl, rfl⟩
            refine L.mv Y R R ?_
            obtain ⟨b94, eb94, hm⟩ := bindS hm
            refine L.cut 3 (fun e w => ∃ (s96 : Sig) (v95 : Bool), b94 = v95 ∧ Mv (Up N No) s s96 ∧ RdL qI s96 a69 c69 r66.1.1 ∧ RdL qI s96 a70 c70 r66.1.2.2.1 ∧ RdL qT s96 a71 c71 r66.1.2.2.2 ∧ Bx s96 (N + 4) b72 #[.slice a69 r66.1.1.length c69, .int .i64 r66.1.2.1, .slice a70 r66.1.2.2.1.length c70, .slice a71 r66.1.2.2.2.length c71] 25 ∧ e = (146, .bool v95) :: [(27, .int .i64 r80), (26, .int .i64 r77.2.2), (23, .int .i64 r66.2), (22, .pointer (some ⟨b72, 0, none⟩)), (21, .int .i64 r56.2.2), (20, .bool r56.2.1), (7, .int .i64 r26)] ∧ w = s96.w) ?_ ?_
            ·rintro _ _ ⟨s96, v95, rfl, m0, h69, h70, h71, bx72, rfl, rfl⟩
             refine L.mv Y R R (L.cut 3 (fun e w => ∃ (v97 : Bool), (b94 && (!r56.2.1)) = v97 ∧ e = (150, .bool v97) :: [(27, .int .i64 r80), (26, .int .i64 r77.2.2), (23, .int .i64 r66.2), (22, .pointer (some ⟨b72, 0, none⟩)), (21, .int .i64 r56.2.2), (7, .int .i64 r26)] ∧ w = s96.w) ?_ ?_)
             ·rintro _ _ ⟨v97, rfl, rfl, rfl⟩
              refine L.mv Y R R (L.cut 4 (fun e w => ∃ (v98 : Bool), ((b94 && (!r56.2.1)) && (r56.2.2 == r26)) = v98 ∧ e = (155, .bool v98) :: [(27, .int .i64 r80), (26, .int .i64 r77.2.2), (23, .int .i64 r66.2), (22, .pointer (some ⟨b72, 0, none⟩)), (7, .int .i64 r26)] ∧ w = s96.w) ?_ ?_)
              ·rintro _ _ ⟨v98, rfl, rfl, rfl⟩
               refine L.mv Y R R (L.cut 4 (fun e w => ∃ (v99 : Bool), (((b94 && (!r56.2.1)) && (r56.2.2 == r26)) && (r66.1.2.1 == 0)) = v99 ∧ e = (160, .bool v99) :: [(27, .int .i64 r80), (26, .int .i64 r77.2.2), (23, .int .i64 r66.2), (22, .pointer (some ⟨b72, 0, none⟩)), (7, .int .i64 r26)] ∧ w = s96.w) ?_ ?_)
               ·rintro _ _ ⟨v99, rfl, rfl, rfl⟩
                refine L.mv Y R R (L.cut 5 (fun e w => ∃ (v100 : Bool), ((((b94 && (!r56.2.1)) && (r56.2.2 == r26)) && (r66.1.2.1 == 0)) && ((r66.1.1.length : Int) == 0)) = v100 ∧ e = (166, .bool v100) :: [(27, .int .i64 r80), (26, .int .i64 r77.2.2), (23, .int .i64 r66.2), (7, .int .i64 r26)] ∧ w = s96.w) ?_ ?_)
                ·rintro _ _ ⟨v100, rfl, rfl, rfl⟩
                 refine L.mv Y R R (L.cut 4 (fun e w => ∃ (v101 : Bool), (((((b94 && (!r56.2.1)) && (r56.2.2 == r26)) && (r66.1.2.1 == 0)) && ((r66.1.1.length : Int) == 0)) && (r66.2 == r26)) = v101 ∧ e = (171, .bool v101) :: [(27, .int .i64 r80), (26, .int .i64 r77.2.2), (7, .int .i64 r26)] ∧ w = s96.w) ?_ ?_)
                 ·rintro _ _ ⟨v101, rfl, rfl, rfl⟩
                  refine L.mv Y R R (L.cut 4 (fun e w => ∃ (v102 : Bool), ((((((b94 && (!r56.2.1)) && (r56.2.2 == r26)) && (r66.1.2.1 == 0)) && ((r66.1.1.length : Int) == 0)) && (r66.2 == r26)) && (r77.2.2 == r26)) = v102 ∧ e = (176, .bool v102) :: [(27, .int .i64 r80), (7, .int .i64 r26)] ∧ w = s96.w) ?_ ?_)
                  ·rintro _ _ ⟨v102, rfl, rfl, rfl⟩
                   refine L.mv Y R R (L.cut 4 (fun e w => ∃ (v103 : Bool), (((((((b94 && (!r56.2.1)) && (r56.2.2 == r26)) && (r66.1.2.1 == 0)) && ((r66.1.1.length : Int) == 0)) && (r66.2 == r26)) && (r77.2.2 == r26)) && (r80 == r26)) = v103 ∧ e = (181, .bool v103) :: [] ∧ w = s96.w) ?_ ?_)
                   ·rintro _ _ ⟨v103, rfl, rfl, rfl⟩
                    refine L.as Y R R (LN (E.ret (X.seqR ?_)))
                    obtain rfl := oi hm
                    exact X.rt (.inl R) Tryz.results3 (Rs.tmp R Rs.nil) R ⟨_, (s96).ren N (fun _ => 0), R, R, m0.ren hNb, R⟩
                   intro J104
                   rcases Bool.eq_false_or_eq_true ((((((b94 && (!r56.2.1)) && (r56.2.2 == r26)) && (r66.1.2.1 == 0)) && ((r66.1.1.length : Int) == 0)) && (r66.2 == r26)) && (r77.2.2 == r26)) with hc | hc
                   ·exact L.know (d := 177) R hc (L.mv (Wt.mk R R) R R (L.mv (Wt.mk R R) R R (L.bi (Wt.mk R R) R R R R (L.pkT Y R R R R (L.sb (J104 _ _ ⟨(r80 == r26), (andT hc).symm, R, R⟩) R)))))
                   exact L.know (d := 177) R hc (L.skip R R R R (L.skip R R R R (L.skip R R R R (L.pkF Y R R R R (L.sb (J104 _ _ ⟨false, (andF hc).symm, R, R⟩) R)))))
                  intro J105
                  rcases Bool.eq_false_or_eq_true (((((b94 && (!r56.2.1)) && (r56.2.2 == r26)) && (r66.1.2.1 == 0)) && ((r66.1.1.length : Int) == 0)) && (r66.2 == r26)) with hc | hc
                  ·exact L.know (d := 172) R hc (L.mv (Wt.mk R R) R R (L.mv (Wt.mk R R) R R (L.bi (Wt.mk R R) R R R R (L.pkT Y R R R R (L.sb (J105 _ _ ⟨(r77.2.2 == r26), (andT hc).symm, R, R⟩) R)))))
                  exact L.know (d := 172) R hc (L.skip R R R R (L.skip R R R R (L.skip R R R R (L.pkF Y R R R R (L.sb (J105 _ _ ⟨false, (andF hc).symm, R, R⟩) R)))))
                 intro J106
                 rcases Bool.eq_false_or_eq_true ((((b94 && (!r56.2.1)) && (r56.2.2 == r26)) && (r66.1.2.1 == 0)) && ((r66.1.1.length : Int) == 0)) with hc | hc
                 ·exact L.know (d := 167) R hc (L.mv (Wt.mk R R) R R (L.mv (Wt.mk R R) R R (L.bi (Wt.mk R R) R R R R (L.pkT Y R R R R (L.sb (J106 _ _ ⟨(r66.2 == r26), (andT hc).symm, R, R⟩) R)))))
                 exact L.know (d := 167) R hc (L.skip R R R R (L.skip R R R R (L.skip R R R R (L.pkF Y R R R R (L.sb (J106 _ _ ⟨false, (andF hc).symm, R, R⟩) R)))))
                intro J107
                rcases Bool.eq_false_or_eq_true (((b94 && (!r56.2.1)) && (r56.2.2 == r26)) && (r66.1.2.1 == 0)) with hc | hc
                ·exact L.know (d := 161) R hc (L.fa fa25_0 (Wt.mk R R) R R (L.ld (j := 0) bx72.mem nag22 (Wt.mk R R) R R R R (L.len sl22 (Wt.mk R R) R R (L.bi (Wt.mk R R) R R R R (L.pkT Y R R R R (L.sb (J107 _ _ ⟨((r66.1.1.length : Int) == 0), (andT hc).symm, R, R⟩) R))))))
                exact L.know (d := 161) R hc (L.skip R R R R (L.skip R R R R (L.skip R R R R (L.skip R R R R (L.pkF Y R R R R (L.sb (J107 _ _ ⟨false, (andF hc).symm, R, R⟩) R))))))
               intro J108
               rcases Bool.eq_false_or_eq_true ((b94 && (!r56.2.1)) && (r56.2.2 == r26)) with hc | hc
               ·exact L.know (d := 156) R hc (L.fa fa25_1 (Wt.mk R R) R R (L.ld (j := 1) bx72.mem nag3 (Wt.mk R R) R R R R (L.bi (Wt.mk R R) R R R R (L.pkT Y R R R R (L.sb (J108 _ _ ⟨(r66.1.2.1 == 0), (andT hc).symm, R, R⟩) R)))))
               exact L.know (d := 156) R hc (L.skip R R R R (L.skip R R R R (L.skip R R R R (L.pkF Y R R R R (L.sb (J108 _ _ ⟨false, (andF hc).symm, R, R⟩) R)))))
              intro J109
              rcases Bool.eq_false_or_eq_true (b94 && (!r56.2.1)) with hc | hc
              ·exact L.know (d := 151) R hc (L.mv (Wt.mk R R) R R (L.mv (Wt.mk R R) R R (L.bi (Wt.mk R R) R R R R (L.pkT Y R R R R (L.sb (J109 _ _ ⟨(r56.2.2 == r26), (andT hc).symm, R, R⟩) R)))))
              exact L.know (d := 151) R hc (L.skip R R R R (L.skip R R R R (L.skip R R R R (L.pkF Y R R R R (L.sb (J109 _ _ ⟨false, (andF hc).symm, R, R⟩) R)))))
             intro J110
             rcases Bool.eq_false_or_eq_true b94 with hc | hc
             ·exact L.know (d := 147) R hc (L.mv (Wt.mk R R) R R (L.not (Wt.mk R R) R R (L.pkT Y R R R R (L.sb (J110 _ _ ⟨(!r56.2.1), (andT hc).symm, R, R⟩) R))))
             exact L.know (d := 147) R hc (L.skip R R R R (L.skip R R R R (L.pkF Y R R R R (L.sb (J110 _ _ ⟨false, (andF hc).symm, R, R⟩) R))))
            intro J111
            rcases ifS eb94 with ⟨hc, hm⟩ | ⟨hc, hm⟩
            ·refine L.know (d := 143) R hc (L.lg (j := 0) (cs := [.int .i64 r56.1.1, .slice a59 r56.1.2.1.length c59, .slice a60 r56.1.2.2.length c60]) bx61.mem ag38 (Wt.mk R R) R R R R R ?_)
             obtain ⟨r112, er112, hm⟩ := bindS hm
             refine L.ca cf23 R R (Wt.mk R R) R (m_overseerlaw54_zero_c (s := s90) (p0 := r56.1) h59 h60 er112) R ?_
             rintro _ s113 m114 rfl
             replace m0 := m0.trans m114.no
             replace bx72 := bx72.mv m114 no_No
             replace h69 := h69.mono m114.z
             replace h70 := h70.mono m114.z
             replace h71 := h71.mono m114.z
             exact L.pkT Y R R R R (L.sb (J111 _ _ ⟨s113, r112, (oi hm).symm, m0, h69, h70, h71, bx72, R, R⟩) R)
            exact L.know (d := 143) R hc (L.skip R R R R (L.skip R R R R (L.pkF Y R R R R (L.sb (J111 _ _ ⟨s90, false, (oi hm).symm, m0, h69, h70, h71, bx72, R, R⟩) R))))
           intro J115
           rcases Bool.eq_false_or_eq_true ((b88 && (!r36.2.1)) && (r36.2.2 == r26)) with hc | hc
           ·exact L.know (d := 138) R hc (L.mv (Wt.mk R R) R R (L.mv (Wt.mk R R) R R (L.bi (Wt.mk R R) R R R R (L.pkT Y R R R R (L.sb (J115 _ _ ⟨(r46.2.2 == r26), (andT hc).symm, R, R⟩) R)))))
           exact L.know (d := 138) R hc (L.skip R R R R (L.skip R R R R (L.skip R R R R (L.pkF Y R R R R (L.sb (J115 _ _ ⟨false, (andF hc).symm, R, R⟩) R)))))
          intro J116
          rcases Bool.eq_false_or_eq_true (b88 && (!r36.2.1)) with hc | hc
          ·exact L.know (d := 133) R hc (L.mv (Wt.mk R R) R R (L.mv (Wt.mk R R) R R (L.bi (Wt.mk R R) R R R R (L.pkT Y R R R R (L.sb (J116 _ _ ⟨(r36.2.2 == r26), (andT hc).symm, R, R⟩) R)))))
          exact L.know (d := 133) R hc (L.skip R R R R (L.skip R R R R (L.skip R R R R (L.pkF Y R R R R (L.sb (J116 _ _ ⟨false, (andF hc).symm, R, R⟩) R)))))
         intro J117
         rcases Bool.eq_false_or_eq_true b88 with hc | hc
         ·exact L.know (d := 129) R hc (L.mv (Wt.mk R R) R R (L.not (Wt.mk R R) R R (L.pkT Y R R R R (L.sb (J117 _ _ ⟨(!r36.2.1), (andT hc).symm, R, R⟩) R))))
         exact L.know (d := 129) R hc (L.skip R R R R (L.skip R R R R (L.pkF Y R R R R (L.sb (J117 _ _ ⟨false, (andF hc).symm, R, R⟩) R))))
        intro J118
        rcases ifS eb88 with ⟨hc, hm⟩ | ⟨hc, hm⟩
        ·refine L.know (d := 125) R hc (L.lg (j := 0) (cs := [.int .i64 r36.1.1, .slice a39 r36.1.2.1.length c39, .slice a40 r36.1.2.2.length c40]) bx41.mem ag38 (Wt.mk R R) R R R R R ?_)
         obtain ⟨r119, er119, hm⟩ := bindS hm
         refine L.ca cf23 R R (Wt.mk R R) R (m_overseerlaw54_zero_c (s := s84) (p0 := r36.1) h39 h40 er119) R ?_
         rintro _ s120 m121 rfl
         replace m0 := m0.trans m121.no
         replace bx61 := bx61.mv m121 no_No
         replace h59 := h59.mono m121.z
         replace h60 := h60.mono m121.z
         replace bx72 := bx72.mv m121 no_No
         replace h69 := h69.mono m121.z
         replace h70 := h70.mono m121.z
         replace h71 := h71.mono m121.z
         exact L.pkT Y R R R R (L.sb (J118 _ _ ⟨s120, r119, (oi hm).symm, m0, h59, h60, h69, h70, h71, bx61, bx72, R, R⟩) R)
        exact L.know (d := 125) R hc (L.skip R R R R (L.skip R R R R (L.pkF Y R R R R (L.sb (J118 _ _ ⟨s84, false, (oi hm).symm, m0, h59, h60, h69, h70, h71, bx61, bx72, R, R⟩) R))))
       intro J122
       rcases Bool.eq_false_or_eq_true ((r29.2.2 == r26) && ((r32.1.length : Int) == 0)) with hc | hc
       ·exact L.know (d := 120) R hc (L.mv (Wt.mk R R) R R (L.mv (Wt.mk R R) R R (L.bi (Wt.mk R R) R R R R (L.pkT Y R R R R (L.sb (J122 _ _ ⟨(r32.2 == r26), (andT hc).symm, R, R⟩) R)))))
       exact L.know (d := 120) R hc (L.skip R R R R (L.skip R R R R (L.skip R R R R (L.pkF Y R R R R (L.sb (J122 _ _ ⟨false, (andF hc).symm, R, R⟩) R)))))
      intro J123
      rcases Bool.eq_false_or_eq_true (r29.2.2 == r26) with hc | hc
      ·exact L.know (d := 115) R hc (L.mv (Wt.mk R R) R R (L.len sl34 (Wt.mk R R) R R (L.bi (Wt.mk R R) R R R R (L.pkT Y R R R R (L.sb (J123 _ _ ⟨((r32.1.length : Int) == 0), (andT hc).symm, R, R⟩) R)))))
      exact L.know (d := 115) R hc (L.skip R R R R (L.skip R R R R (L.skip R R R R (L.pkF Y R R R R (L.sb (J123 _ _ ⟨false, (andF hc).symm, R, R⟩) R)))))
     refine E.cF R hc (E.skip (X.seqN (E.seq (ER (L.mv Y R R (L.bi Y R R R R (L.mv Y R R (L.cut 3 (fun e w => ∃ (v124 : Bool), ((decide (p1 < 2)) || (decide (p1 > 3))) = v124 ∧ e = (187, .bool v124) :: [(27, .int .i64 r80), (26, .int .i64 r77.2.2), (23, .int .i64 r66.2), (21, .int .i64 r56.2.2), (20, .bool r56.2.1), (19, .pointer (some ⟨b61, 0, none⟩)), (18, .int .i64 r46.2.2), (15, .int .i64 r36.2.2), (12, .int .i64 r32.2), (10, .int .i64 r29.2.2), (3, .pointer (some ⟨b9, 0, none⟩)), (2, .slice a8 p2.length c8)] ∧ w = s84.w) ?_ ?_))))))))
     ·rintro _ _ ⟨v124, rfl, rfl, rfl⟩
      refine L.mv Y R R (L.bi Y R R R R (L.bne Tryz.underlying4 Y R R R (L.mv Y R R (L.cut 3 (fun e w => ∃ (v125 : Bool), ((((decide (p1 < 2)) || (decide (p1 > 3))) != (r36.2.2 == 2)) || (r46.2.2 != 0)) = v125 ∧ e = (194, .bool v125) :: [(27, .int .i64 r80), (26, .int .i64 r77.2.2), (23, .int .i64 r66.2), (21, .int .i64 r56.2.2), (20, .bool r56.2.1), (19, .pointer (some ⟨b61, 0, none⟩)), (12, .int .i64 r32.2), (10, .int .i64 r29.2.2), (3, .pointer (some ⟨b9, 0, none⟩)), (2, .slice a8 p2.length c8)] ∧ w = s84.w) ?_ ?_))))
      ·rintro _ _ ⟨v125, rfl, rfl, rfl⟩
       refine L.mv Y R R (L.cut 3 (fun e w => ∃ (v126 : Bool), (((((decide (p1 < 2)) || (decide (p1 > 3))) != (r36.2.2 == 2)) || (r46.2.2 != 0)) || (r29.2.2 != 2)) = v126 ∧ e = (198, .bool v126) :: [(27, .int .i64 r80), (26, .int .i64 r77.2.2), (23, .int .i64 r66.2), (21, .int .i64 r56.2.2), (20, .bool r56.2.1), (19, .pointer (some ⟨b61, 0, none⟩)), (12, .int .i64 r32.2), (3, .pointer (some ⟨b9, 0, none⟩)), (2, .slice a8 p2.length c8)] ∧ w = s84.w) ?_ ?_)
       ·rintro _ _ ⟨v126, rfl, rfl, rfl⟩
        refine L.mv Y R R (L.cut 3 (fun e w => ∃ (v127 : Bool), ((((((decide (p1 < 2)) || (decide (p1 > 3))) != (r36.2.2 == 2)) || (r46.2.2 != 0)) || (r29.2.2 != 2)) || (r32.2 != 2)) = v127 ∧ e = (202, .bool v127) :: [(27, .int .i64 r80), (26, .int .i64 r77.2.2), (23, .int .i64 r66.2), (21, .int .i64 r56.2.2), (20, .bool r56.2.1), (19, .pointer (some ⟨b61, 0, none⟩)), (3, .pointer (some ⟨b9, 0, none⟩)), (2, .slice a8 p2.length c8)] ∧ w = s84.w) ?_ ?_)
        ·rintro _ _ ⟨v127, rfl, rfl, rfl⟩
         refine L.nil (X.seqN ?_)
         rcases ifS hm with ⟨hc, hm⟩ | ⟨hc, hm⟩
         ·refine E.cT R hc (ER (L.as Y R R (LN (E.ret (X.seqR ?_)))))
          obtain rfl := oi hm
          exact X.rt (.inl R) Tryz.results3 (Rs.tmp R Rs.nil) R ⟨_, (s84).ren N (fun _ => 0), R, R, m0.ren hNb, R⟩
         refine E.cF R hc (E.skip (X.seqN (ER (L.lg (j := 0) (cs := [.slice a1 p0.1.1.length c1, .int .i64 p0.1.2.1, .slice a2 p0.1.2.2.1.length c2, .slice a3 p0.1.2.2.2.length c3, .slice a4 p0.2.1.1.length c4, .int .i64 p0.2.1.2.1, .slice a5 p0.2.1.2.2.1.length c5, .slice a6 p0.2.1.2.2.2.length c6, .slice a7 p0.2.2.length c7]) bx9.mem ag27 Y R R R R R (L.mv Y R R ?_)))))
         obtain ⟨r128, er128, hm⟩ := bindS hm
         refine L.ca cf24 R R Y R (m_overseerlaw54_checkPriority_c (s := s84) (p0 := p0) (p1 := p2) h1 h2 h3 h4 h5 h6 h7 h8 er128) R ?_
         rintro _ s129 m130 rfl
         replace m0 := m0.trans m130.no
         replace bx9 := bx9.mv m130 no_No
         replace bx61 := bx61.mv m130 no_No
         replace h59 := h59.mono m130.z
         replace h60 := h60.mono m130.z
         refine L.as Y R R (LN (E.seq (ER (L.mv Y R R (L.bi Y R R R R (L.nil (X.seqN ?_)))))))
         rcases ifS hm with ⟨hc, hm⟩ | ⟨hc, hm⟩
         ·refine E.cT R hc (ER (L.lg (j := 0) (cs := [.int .i64 r56.1.1, .slice a59 r56.1.2.1.length c59, .slice a60 r56.1.2.2.length c60]) bx61.mem ag38 Y R R R R R ?_))
          obtain ⟨r131, er131, hm⟩ := bindS hm
          refine L.ca cf23 R R Y R (m_overseerlaw54_zero_c (s := s129) (p0 := r56.1) h59 h60 er131) R ?_
          rintro _ s132 m133 rfl
          replace m0 := m0.trans m133.no
          refine L.mv Y R R (L.cut 3 (fun e w => ∃ (v134 : Bool), (r131 && (!r56.2.1)) = v134 ∧ e = (213, .bool v134) :: [(28, .int .i64 r128), (27, .int .i64 r80), (26, .int .i64 r77.2.2), (23, .int .i64 r66.2), (21, .int .i64 r56.2.2)] ∧ w = s132.w) ?_ ?_)
          ·rintro _ _ ⟨v134, rfl, rfl, rfl⟩
           refine L.mv Y R R (L.cut 4 (fun e w => ∃ (v135 : Bool), ((r131 && (!r56.2.1)) && (r56.2.2 == r128)) = v135 ∧ e = (218, .bool v135) :: [(28, .int .i64 r128), (27, .int .i64 r80), (26, .int .i64 r77.2.2), (23, .int .i64 r66.2)] ∧ w = s132.w) ?_ ?_)
           ·rintro _ _ ⟨v135, rfl, rfl, rfl⟩
            refine L.mv Y R R (L.cut 4 (fun e w => ∃ (v136 : Bool), (((r131 && (!r56.2.1)) && (r56.2.2 == r128)) && (r66.2 == r128)) = v136 ∧ e = (223, .bool v136) :: [(28, .int .i64 r128), (27, .int .i64 r80), (26, .int .i64 r77.2.2)] ∧ w = s132.w) ?_ ?_)
            ·rintro _ _ ⟨v136, rfl, rfl, rfl⟩
             refine L.mv Y R R (L.cut 4 (fun e w => ∃ (v137 : Bool), ((((r131 && (!r56.2.1)) && (r56.2.2 == r128)) && (r66.2 == r128)) && (r77.2.2 == r128)) = v137 ∧ e = (228, .bool v137) :: [(28, .int .i64 r128), (27, .int .i64 r80)] ∧ w = s132.w) ?_ ?_)
             ·rintro _ _ ⟨v137, rfl, rfl, rfl⟩
              refine L.mv Y R R (L.cut 4 (fun e w => ∃ (v138 : Bool), (((((r131 && (!r56.2.1)) && (r56.2.2 == r128)) && (r66.2 == r128)) && (r77.2.2 == r128)) && (r80 == r128)) = v138 ∧ e = (233, .bool v138) :: [] ∧ w = s132.w) ?_ ?_)
              ·rintro _ _ ⟨v138, rfl, rfl, rfl⟩
               refine L.as Y R R (LN (E.ret (X.seqR ?_)))
               obtain rfl := oi hm
               exact X.rt (.inl R) Tryz.results3 (Rs.tmp R Rs.nil) R ⟨_, (s132).ren N (fun _ => 0), R, R, m0.ren hNb, R⟩
              intro J139
              rcases Bool.eq_false_or_eq_true ((((r131 && (!r56.2.1)) && (r56.2.2 == r128)) && (r66.2 == r128)) && (r77.2.2 == r128)) with hc | hc
              ·exact L.know (d := 229) R hc (L.mv (Wt.mk R R) R R (L.mv (Wt.mk R R) R R (L.bi (Wt.mk R R) R R R R (L.pkT Y R R R R (L.sb (J139 _ _ ⟨(r80 == r128), (andT hc).symm, R, R⟩) R)))))
              exact L.know (d := 229) R hc (L.skip R R R R (L.skip R R R R (L.skip R R R R (L.pkF Y R R R R (L.sb (J139 _ _ ⟨false, (andF hc).symm, R, R⟩) R)))))
             intro J140
             rcases Bool.eq_false_or_eq_true (((r131 && (!r56.2.1)) && (r56.2.2 == r128)) && (r66.2 == r128)) with hc | hc
             ·exact L.know (d := 224) R hc (L.mv (Wt.mk R R) R R (L.mv (Wt.mk R R) R R (L.bi (Wt.mk R R) R R R R (L.pkT Y R R R R (L.sb (J140 _ _ ⟨(r77.2.2 == r128), (andT hc).symm, R, R⟩) R)))))
             exact L.know (d := 224) R hc (L.skip R R R R (L.skip R R R R (L.skip R R R R (L.pkF Y R R R R (L.sb (J140 _ _ ⟨false, (andF hc).symm, R, R⟩) R)))))
            intro J141
            rcases Bool.eq_false_or_eq_true ((r131 && (!r56.2.1)) && (r56.2.2 == r128)) with hc | hc
            ·exact L.know (d := 219) R hc (L.mv (Wt.mk R R) R R (L.mv (Wt.mk R R) R R (L.bi (Wt.mk R R) R R R R (L.pkT Y R R R R (L.sb (J141 _ _ ⟨(r66.2 == r128), (andT hc).symm, R, R⟩) R)))))
            exact L.know (d := 219) R hc (L.skip R R R R (L.skip R R R R (L.skip R R R R (L.pkF Y R R R R (L.sb (J141 _ _ ⟨false, (andF hc).symm, R, R⟩) R)))))
           intro J142
           rcases Bool.eq_false_or_eq_true (r131 && (!r56.2.1)) with hc | hc
           ·exact L.know (d := 214) R hc (L.mv (Wt.mk R R) R R (L.mv (Wt.mk R R) R R (L.bi (Wt.mk R R) R R R R (L.pkT Y R R R R (L.sb (J142 _ _ ⟨(r56.2.2 == r128), (andT hc).symm, R, R⟩) R)))))
           exact L.know (d := 214) R hc (L.skip R R R R (L.skip R R R R (L.skip R R R R (L.pkF Y R R R R (L.sb (J142 _ _ ⟨false, (andF hc).symm, R, R⟩) R)))))
          intro J143
          rcases Bool.eq_false_or_eq_true r131 with hc | hc
          ·exact L.know (d := 210) R hc (L.mv (Wt.mk R R) R R (L.not (Wt.mk R R) R R (L.pkT Y R R R R (L.sb (J143 _ _ ⟨(!r56.2.1), (andT hc).symm, R, R⟩) R))))
          exact L.know (d := 210) R hc (L.skip R R R R (L.skip R R R R (L.pkF Y R R R R (L.sb (J143 _ _ ⟨false, (andF hc).symm, R, R⟩) R))))
         refine E.cF R hc (E.skip (X.seqN (ER (L.fa fa27_0 Y R R (L.fa fa25_1 Y R R (L.ld (j := 1) bx9.mem nag3 Y R R R R (L.bi Y R R R R (L.mv Y R R (L.cut 5 (fun e w => ∃ (v144 : Bool), ((p0.1.2.1 == 0) || (p0.2.1.2.1 == 0)) = v144 ∧ e = (243, .bool v144) :: [(27, .int .i64 r80), (26, .int .i64 r77.2.2), (23, .int .i64 r66.2), (21, .int .i64 r56.2.2)] ∧ w = s129.w) ?_ ?_)))))))))
         ·rintro _ _ ⟨v144, rfl, rfl, rfl⟩
          refine L.as Y R R (LN (ER (L.mv Y R R (L.bi Y R R R R (L.mv Y R R (L.cut 3 (fun e w => ∃ (v145 : Bool), ((r56.2.2 == 0) && (r66.2 == 0)) = v145 ∧ e = (249, .bool v145) :: [(29, .bool ((p0.1.2.1 == 0) || (p0.2.1.2.1 == 0))), (27, .int .i64 r80), (26, .int .i64 r77.2.2)] ∧ w = s129.w) ?_ ?_))))))
          ·rintro _ _ ⟨v145, rfl, rfl, rfl⟩
           refine L.mv Y R R (L.cut 5 (fun e w => ∃ (v146 : Bool), (((r56.2.2 == 0) && (r66.2 == 0)) && ((r77.2.2 == 10) == ((p0.1.2.1 == 0) || (p0.2.1.2.1 == 0)))) = v146 ∧ e = (255, .bool v146) :: [(27, .int .i64 r80)] ∧ w = s129.w) ?_ ?_)
           ·rintro _ _ ⟨v146, rfl, rfl, rfl⟩
            refine L.mv Y R R (L.cut 3 (fun e w => ∃ (v147 : Bool), ((((r56.2.2 == 0) && (r66.2 == 0)) && ((r77.2.2 == 10) == ((p0.1.2.1 == 0) || (p0.2.1.2.1 == 0)))) && (r80 == 11)) = v147 ∧ e = (259, .bool v147) :: [] ∧ w = s129.w) ?_ ?_)
            ·rintro _ _ ⟨v147, rfl, rfl, rfl⟩
             refine L.as Y R R (LN (E.ret ?_))
             obtain rfl := oi hm
             exact X.rt (.inl R) Tryz.results3 (Rs.tmp R Rs.nil) R ⟨_, (s129).ren N (fun _ => 0), R, R, m0.ren hNb, R⟩
            intro J148
            rcases Bool.eq_false_or_eq_true (((r56.2.2 == 0) && (r66.2 == 0)) && ((r77.2.2 == 10) == ((p0.1.2.1 == 0) || (p0.2.1.2.1 == 0)))) with hc | hc
            ·exact L.know (d := 256) R hc (L.mv (Wt.mk R R) R R (L.bi (Wt.mk R R) R R R R (L.pkT Y R R R R (L.sb (J148 _ _ ⟨(r80 == 11), (andT hc).symm, R, R⟩) R))))
            exact L.know (d := 256) R hc (L.skip R R R R (L.skip R R R R (L.pkF Y R R R R (L.sb (J148 _ _ ⟨false, (andF hc).symm, R, R⟩) R))))
           intro J149
           rcases Bool.eq_false_or_eq_true ((r56.2.2 == 0) && (r66.2 == 0)) with hc | hc
           ·exact L.know (d := 250) R hc (L.mv (Wt.mk R R) R R (L.bi (Wt.mk R R) R R R R (L.mv (Wt.mk R R) R R (L.beq Tryz.underlying4 (Wt.mk R R) R R R (L.pkT Y R R R R (L.sb (J149 _ _ ⟨((r77.2.2 == 10) == ((p0.1.2.1 == 0) || (p0.2.1.2.1 == 0))), (andT hc).symm, R, R⟩) R))))))
           exact L.know (d := 250) R hc (L.skip R R R R (L.skip R R R R (L.skip R R R R (L.skip R R R R (L.pkF Y R R R R (L.sb (J149 _ _ ⟨false, (andF hc).symm, R, R⟩) R))))))
          intro J150
          rcases Bool.eq_false_or_eq_true (r56.2.2 == 0) with hc | hc
          ·exact L.know (d := 246) R hc (L.mv (Wt.mk R R) R R (L.bi (Wt.mk R R) R R R R (L.pkT Y R R R R (L.sb (J150 _ _ ⟨(r66.2 == 0), (andT hc).symm, R, R⟩) R))))
          exact L.know (d := 246) R hc (L.skip R R R R (L.skip R R R R (L.pkF Y R R R R (L.sb (J150 _ _ ⟨false, (andF hc).symm, R, R⟩) R))))
         intro J151
         rcases Bool.eq_false_or_eq_true (p0.1.2.1 == 0) with hc | hc
         ·exact L.know (d := 238) R hc (L.skip R R R R (L.skip R R R R (L.skip R R R R (L.skip R R R R (L.pkT Y R R R R (L.sb (J151 _ _ ⟨true, (orT hc).symm, R, R⟩) R))))))
         exact L.know (d := 238) R hc (L.fa fa27_1 (Wt.mk R R) R R (L.fa fa25_1 (Wt.mk R R) R R (L.ld (j := 5) bx9.mem nag3 (Wt.mk R R) R R R R (L.bi (Wt.mk R R) R R R R (L.pkF Y R R R R (L.sb (J151 _ _ ⟨(p0.2.1.2.1 == 0), (orF hc).symm, R, R⟩) R))))))
        intro J152
        rcases Bool.eq_false_or_eq_true (((((decide (p1 < 2)) || (decide (p1 > 3))) != (r36.2.2 == 2)) || (r46.2.2 != 0)) || (r29.2.2 != 2)) with hc | hc
        ·exact L.know (d := 199) R hc (L.skip R R R R (L.skip R R R R (L.pkT Y R R R R (L.sb (J152 _ _ ⟨true, (orT hc).symm, R, R⟩) R))))
        exact L.know (d := 199) R hc (L.mv (Wt.mk R R) R R (L.bi (Wt.mk R R) R R R R (L.pkF Y R R R R (L.sb (J152 _ _ ⟨(r32.2 != 2), (orF hc).symm, R, R⟩) R))))
       intro J153
       rcases Bool.eq_false_or_eq_true ((((decide (p1 < 2)) || (decide (p1 > 3))) != (r36.2.2 == 2)) || (r46.2.2 != 0)) with hc | hc
       ·exact L.know (d := 195) R hc (L.skip R R R R (L.skip R R R R (L.pkT Y R R R R (L.sb (J153 _ _ ⟨true, (orT hc).symm, R, R⟩) R))))
       exact L.know (d := 195) R hc (L.mv (Wt.mk R R) R R (L.bi (Wt.mk R R) R R R R (L.pkF Y R R R R (L.sb (J153 _ _ ⟨(r29.2.2 != 2), (orF hc).symm, R, R⟩) R))))
      intro J154
      rcases Bool.eq_false_or_eq_true (((decide (p1 < 2)) || (decide (p1 > 3))) != (r36.2.2 == 2)) with hc | hc
      ·exact L.know (d := 191) R hc (L.skip R R R R (L.skip R R R R (L.pkT Y R R R R (L.sb (J154 _ _ ⟨true, (orT hc).symm, R, R⟩) R))))
      exact L.know (d := 191) R hc (L.mv (Wt.mk R R) R R (L.bi (Wt.mk R R) R R R R (L.pkF Y R R R R (L.sb (J154 _ _ ⟨(r46.2.2 != 0), (orF hc).symm, R, R⟩) R))))
     intro J155
     rcases Bool.eq_false_or_eq_true (decide (p1 < 2)) with hc | hc
     ·exact L.know (d := 184) R hc (L.skip R R R R (L.skip R R R R (L.pkT Y R R R R (L.sb (J155 _ _ ⟨true, (orT hc).symm, R, R⟩) R))))
     exact L.know (d := 184) R hc (L.mv (Wt.mk R R) R R (L.bi (Wt.mk R R) R R R R (L.pkF Y R R R R (L.sb (J155 _ _ ⟨(decide (p1 > 3)), (orF hc).symm, R, R⟩) R))))
    intro J156
    rcases Bool.eq_false_or_eq_true (b18 || (decide ((p0.2.2.length : Int) > 10))) with hc | hc
    ·exact L.know (d := 50) R hc (L.skip R R R R (L.skip R R R R (L.skip R R R R (L.pkT Y R R R R (L.sb (J156 _ _ ⟨true, (orT hc).symm, R, R⟩) R)))))
    exact L.know (d := 50) R hc (L.mv (Wt.mk R R) R R (L.len sl22 (Wt.mk R R) R R (L.bi (Wt.mk R R) R R R R (L.pkF Y R R R R (L.sb (J156 _ _ ⟨(decide ((p2.length : Int) > 8)), (orF hc).symm, R, R⟩) R)))))
   intro J157
   rcases Bool.eq_false_or_eq_true b18 with hc | hc
   ·exact L.know (d := 44) R hc (L.skip R R R R (L.skip R R R R (L.skip R R R R (L.skip R R R R (L.pkT Y R R R R (L.sb (J157 _ _ ⟨true, (orT hc).symm, R, R⟩) R))))))
   exact L.know (d := 44) R hc (L.fa fa27_2 (Wt.mk R R) R R (L.ld (j := 8) bx9.mem nag22 (Wt.mk R R) R R R R (L.len sl22 (Wt.mk R R) R R (L.bi (Wt.mk R R) R R R R (L.pkF Y R R R R (L.sb (J157 _ _ ⟨(decide ((p0.2.2.length : Int) > 10)), (orF hc).symm, R, R⟩) R))))))
  intro J158
  rcases ifS eb18 with ⟨hc, hm⟩ | ⟨hc, hm⟩
  ·exact L.know (d := 38) R hc (L.skip R R R R (L.skip R R R R (L.skip R R R R (L.skip R R R R (L.pkT Y R R R R (L.sb (J158 _ _ ⟨s17, true, (oi hm).symm, m0, h8, h1, h2, h3, h4, h5, h6, h7, bx9, R, R⟩) R))))))
  refine L.know (d := 38) R hc (L.fa fa27_1 (Wt.mk R R) R R (L.lg (j := 4) (cs := [.slice a4 p0.2.1.1.length c4, .int .i64 p0.2.1.2.1, .slice a5 p0.2.1.2.2.1.length c5, .slice a6 p0.2.1.2.2.2.length c6]) bx9.mem ag25 (Wt.mk R R) R R R R R ?_))
  obtain ⟨r159, er159, hm⟩ := bindS hm
  refine L.ca cf12 R R (Wt.mk R R) R (m_overseerlaw54_few_c (s := s17) (p0 := p0.2.1) h4 h5 h6 er159) R ?_
  rintro _ s160 m161 rfl
  replace m0 := m0.trans m161.no
  replace h8 := h8.mono m161.z
  replace bx9 := bx9.mv m161 no_No
  replace h1 := h1.mono m161.z
  replace h2 := h2.mono m161.z
  replace h3 := h3.mono m161.z
  replace h4 := h4.mono m161.z
  replace h5 := h5.mono m161.z
  replace h6 := h6.mono m161.z
  replace h7 := h7.mono m161.z
  exact L.not (Wt.mk R R) R R (L.pkF Y R R R R (L.sb (J158 _ _ ⟨s160, (!r159), (oi hm).symm, m0, h8, h1, h2, h3, h4, h5, h6, h7, bx9, R, R⟩) R))
 intro J162
 rcases ifS eb15 with ⟨hc, hm⟩ | ⟨hc, hm⟩
 ·exact L.know (d := 32) R hc (L.skip R R R R (L.skip R R R R (L.skip R R R R (L.skip R R R R (L.pkT Y R R R R (L.sb (J162 _ _ ⟨s13, true, (oi hm).symm, m0, h8, h1, h2, h3, h4, h5, h6, h7, bx9, R, R⟩) R))))))
 refine L.know (d := 32) R hc (L.fa fa27_0 (Wt.mk R R) R R (L.lg (j := 0) (cs := [.slice a1 p0.1.1.length c1, .int .i64 p0.1.2.1, .slice a2 p0.1.2.2.1.length c2, .slice a3 p0.1.2.2.2.length c3]) bx9.mem ag25 (Wt.mk R R) R R R R R ?_))
 obtain ⟨r163, er163, hm⟩ := bindS hm
 refine L.ca cf12 R R (Wt.mk R R) R (m_overseerlaw54_few_c (s := s13) (p0 := p0.1) h1 h2 h3 er163) R ?_
 rintro _ s164 m165 rfl
 replace m0 := m0.trans m165.no
 replace h8 := h8.mono m165.z
 replace bx9 := bx9.mv m165 no_No
 replace h1 := h1.mono m165.z
 replace h2 := h2.mono m165.z
 replace h3 := h3.mono m165.z
 replace h4 := h4.mono m165.z
 replace h5 := h5.mono m165.z
 replace h6 := h6.mono m165.z
 replace h7 := h7.mono m165.z
 exact L.not (Wt.mk R R) R R (L.pkF Y R R R R (L.sb (J162 _ _ ⟨s164, (!r163), (oi hm).symm, m0, h8, h1, h2, h3, h4, h5, h6, h7, bx9, R, R⟩) R))

end Go.Proofs.YtidakgbibobbdaaGreatDoor

namespace Go.Proofs.YtidakgbibobbdaaGreatDoor

def wval (u : List Int) : Int := u.foldl (fun acc e => 33 * acc + e + 1) 0
theorem wval_snoc (u : List Int) (e : Int) : wval (u ++ [e]) = 33 * wval u + e + 1 := by simp [wval, List.foldl_append]
def Evs (u : List Int) : Prop := ∀ e ∈ u, 0 ≤ e ∧ e < 32
theorem Evs.nil : Evs [] := fun e h => by cases h
theorem Evs.snoc {u : List Int} {e : Int} (h : Evs u) (h0 : 0 ≤ e) (h1 : e < 32) : Evs (u ++ [e]) := by
 intro x hx
 rcases List.mem_append.1 hx with h2 | h2
 ·exact h x h2
 ·rw [List.mem_singleton.1 h2]; exact ⟨h0, h1⟩
theorem Evs.of_snoc {u : List Int} {e : Int} (h : Evs (u ++ [e])) : Evs u ∧ 0 ≤ e ∧ e < 32 :=
 ⟨fun x hx => h x (List.mem_append_left _ hx), h e (by simp)⟩
theorem snoc_ind {α : Type} {P : List α → Prop} (h0 : P []) (h1 : ∀ u e, P u → P (u ++ [e])) (u : List α) : P u := by
 have h2 : ∀ n (u : List α), u.length = n → P u := by
  intro n
  induction n with
  | zero => intro u hu; rw [List.eq_nil_of_length_eq_zero hu]; exact h0
  | succ n ih =>
   intro u hu
   rcases List.eq_nil_or_concat u with rfl | ⟨l, b, rfl⟩
   ·cases hu
   ·have hl : l.length = n := by simpa using hu
    simpa using h1 l b (ih l hl)
 exact h2 _ u rfl
theorem wval_nonneg (u : List Int) : Evs u → 0 ≤ wval u := by
 refine snoc_ind (P := fun u => Evs u → 0 ≤ wval u) (fun _ => Int.le_refl 0) (fun u e ih h => ?_) u
 have h1 := h.of_snoc
 have := ih h1.1
 rw [wval_snoc]; omega
def Leads (es : List Ed) (perm : Ed → Bool) (s : Int) : List Int → Int → Prop
 | [], t => s = t
 | e :: u, t => ∃ x ∈ es, x.f = s ∧ x.e = e ∧ perm x = true ∧ Leads es perm x.t u t
theorem Leads.snoc {es : List Ed} {perm : Ed → Bool} : ∀ {u : List Int} {s t : Int}, Leads es perm s u t → ∀ {x : Ed}, x ∈ es → x.f = t → perm x = true → Leads es perm s (u ++ [x.e]) x.t
 | [], s, t, h, x, hx, hf, hp => ⟨x, hx, by rw [hf]; exact h.symm, rfl, hp, rfl⟩
 | e :: u, s, t, ⟨y, hy, h1, h2, h3, h4⟩, x, hx, hf, hp => ⟨y, hy, h1, h2, h3, h4.snoc hx hf hp⟩
theorem Leads.of_snoc {es : List Ed} {perm : Ed → Bool} {e : Int} : ∀ {u : List Int} {s t : Int}, Leads es perm s (u ++ [e]) t → ∃ x ∈ es, Leads es perm s u x.f ∧ x.e = e ∧ x.t = t ∧ perm x = true
 | [], s, t, ⟨y, hy, h1, h2, h3, h4⟩ => ⟨y, hy, h1.symm, h2, h4, h3⟩
 | a :: u, s, t, ⟨y, hy, h1, h2, h3, h4⟩ => by
  obtain ⟨x, hx, g1, g2, g3, g4⟩ := Leads.of_snoc (u := u) h4
  exact ⟨x, hx, ⟨y, hy, h1, h2, h3, g1⟩, g2, g3, g4⟩
def EvEs (es : List Ed) : Prop := ∀ x ∈ es, 0 ≤ x.e ∧ x.e < 32
end Go.Proofs.YtidakgbibobbdaaGreatDoor

namespace Go.Proofs.YtidakgbibobbdaaGreatDoor

def edLt (x y : Ed) : Prop := x.f < y.f ∨ (x.f = y.f ∧ x.e < y.e)
def Sorted (es : List Ed) : Prop := es.Pairwise edLt
end Go.Proofs.YtidakgbibobbdaaGreatDoor

namespace Go.Proofs.YtidakgbibobbdaaGreatDoor

def ReachIn (es : List Ed) (tg : List Int) : Nat → Int → Prop
 | 0, s => s ∈ tg
 | k + 1, s => ∃ x ∈ es, x.f = s ∧ ReachIn es tg k x.t
end Go.Proofs.YtidakgbibobbdaaGreatDoor

namespace Go.Proofs.YtidakgbibobbdaaGreatDoor
open Go Go.RowKit
theorem W_of {x : Int} (h0 : -9223372036854775808 ≤ x) (h1 : x < 9223372036854775808) : W x = x := IntWalk.i64_in _ (by omega)
theorem W_nat {k : Nat} (h : k < 9223372036854775808) : W (k : Int) = k := W_of (by omega) (by omega)
theorem idx_at {α : Type} {xs : List α} {i : Nat} (h : i < xs.length) : idx xs (i : Int) = some xs[i] := by rw [idx_nat, List.getElem?_eq_getElem h]
theorem iter_of {S O : Type} {f : S → Option (S ⊕ O)} {s : S} {o : O} {n : Nat} (hn : n ≤ 18446744073709551616) (h : iterF f n s = some o) : iter f s = some o := by
 have mono : ∀ (n m : Nat) (s : S), n ≤ m → iterF f n s = some o → iterF f m s = some o := by
  intro n
  induction n with
  | zero => intro m s _ h; cases h
  | succ n ih =>
   intro m s hm h
   obtain ⟨k, rfl⟩ : ∃ k, m = k + 1 := ⟨m - 1, by omega⟩
   rw [iterF_succ] at h ⊢
   split at h
   ·cases h
   ·rename_i h1; exact ih k _ (by omega) h
   ·rename_i h1; exact h
 exact mono n _ s hn h

theorem iter_inv {S O : Type} {f : S → Option (S ⊕ O)} (P : Nat → S → Prop) (Q : O → Prop) : ∀ (n i : Nat), n < i + 18446744073709551616 → (∀ i s, i < n → P i s → (∃ s', f s = some (.inl s') ∧ P (i + 1) s') ∨ ∃ o, f s = some (.inr o) ∧ Q o) → (∀ s, P n s → ∃ o, f s = some (.inr o) ∧ Q o) → i ≤ n →
  ∀ s, P i s → ∃ o, iter f s = some o ∧ Q o := by
 have key : ∀ (n : Nat), (∀ i s, i < n → P i s → (∃ s', f s = some (.inl s') ∧ P (i + 1) s') ∨ ∃ o, f s = some (.inr o) ∧ Q o) → (∀ s, P n s → ∃ o, f s = some (.inr o) ∧ Q o) → ∀ (j i : Nat), i + j = n → ∀ s, P i s → ∃ o, iterF f (j + 1) s = some o ∧ Q o := by
  intro n step fin j
  induction j with
  | zero =>
   intro i hi s h
   obtain rfl : i = n := by omega
   obtain ⟨o, h1, h2⟩ := fin s h
   exact ⟨o, by rw [iterF_succ, h1], h2⟩
  | succ j ih =>
   intro i hi s h
   rcases step i s (by omega) h with ⟨s', h1, h2⟩ | ⟨o, h1, h2⟩
   ·obtain ⟨o, h3, h4⟩ := ih (i + 1) (by omega) s' h2
    exact ⟨o, by rw [iterF_succ, h1]; exact h3, h4⟩
   ·exact ⟨o, by rw [iterF_succ, h1], h2⟩
 intro n i hn step fin hi s h
 obtain ⟨o, h1, h2⟩ := key n step fin (n - i) i (by omega) s h
 exact ⟨o, iter_of (by omega) h1, h2⟩
theorem nxt {i : Nat} (h : i < 4611686018427387904) : W ((i : Int) + 1) = ((i + 1 : Nat) : Int) := by rw [show (i : Int) + 1 = ((i + 1 : Nat) : Int) by omega, W_nat (by omega)]
theorem ct_lt {i n : Nat} (h : i < n) : decide ((i : Int) < (n : Int)) = true := by simp; omega
theorem ct_ge {n : Nat} : ¬ decide ((n : Int) < (n : Int)) = true := by simp
theorem upd_at {α : Type} {xs : List α} {i : Nat} {y : α} (h : i < xs.length) : upd xs (i : Int) y = some (xs.set i y) := by
 unfold upd
 rw [if_pos ⟨by omega, by omega⟩, Int.toNat_natCast]
theorem clone_eq {xs : List Int} (h : xs.length ≤ 4294967296) : m_slices_Clone_int xs = some xs := by
 rw [m_slices_Clone_int, app_eq (by simpa using h)]; rfl
def errO (e : Int) : Unit ⊕ Int := if e = 0 then .inl () else .inr e
theorem checkSet_go {xs : List Int} {n : Int} (hl : xs.length < 4611686018427387904) : ∀ (j i : Nat), i + j = xs.length →
  iterF (m_automaton_checkSet_l1 xs n) (j + 1) (i : Int) = some (errO (setErr n (prevAt xs i) (xs.drop i))) := by
 intro j
 induction j with
 | zero =>
  intro i hi
  have e : xs.drop i = [] := List.drop_of_length_le (by omega)
  rw [iterF_succ, m_automaton_checkSet_l1, if_neg (by simp; omega), e]
  rfl
 | succ j ih =>
  intro i hi
  have hlt : i < xs.length := by omega
  rw [iterF_succ, m_automaton_checkSet_l1, if_pos (by simp; omega), idx_at hlt, Option.bind_some]
  by_cases h1 : xs[i] < 0 ∨ n ≤ xs[i]
  ·rw [if_pos (by simpa using h1), setErr_2 hlt h1]
   rfl
  ·rw [if_neg (by simpa using h1)]
   by_cases h0 : 0 < i
   ·rw [if_pos (by simp; omega), show (i : Int) - 1 = ((i - 1 : Nat) : Int) by omega, W_nat (by omega), idx_at (show i - 1 < xs.length by omega), Option.bind_some, Option.bind_some]
    by_cases h2 : xs[i] ≤ xs[i - 1]
    ·rw [if_pos (by simpa using h2), setErr_5 hlt h1 h0 h2]
     rfl
    ·rw [if_neg (by simpa using h2), show (i : Int) + 1 = ((i + 1 : Nat) : Int) by omega, W_nat (by omega), setErr_next hlt h1 (fun _ => by omega)]
     exact ih (i + 1) (by omega)
   ·rw [if_neg (by simp; omega), Option.bind_some, if_neg (by simp), show (i : Int) + 1 = ((i + 1 : Nat) : Int) by omega, W_nat (by omega), setErr_next hlt h1 (fun h => absurd h h0)]
    exact ih (i + 1) (by omega)
theorem checkSet_eq {xs : List Int} {n : Int} (hl : xs.length < 4611686018427387904) : m_automaton_checkSet xs n = some (setErr n none xs) := by
 have h : iter (m_automaton_checkSet_l1 xs n) 0 = some (errO (setErr n none xs)) := iter_of (by omega) (checkSet_go (n := n) hl xs.length 0 (by omega))
 rw [m_automaton_checkSet, h, Option.bind_some]
 by_cases h0 : setErr n none xs = 0
 ·rw [h0]; rfl
 ·rw [errO, if_neg h0]
theorem index_go {xs : List Int} {x : Int} (hl : xs.length < 4611686018427387904) : ∀ (j i : Nat), i + j = xs.length →
  ∃ o, iterF (m_slices_Index_int_l1 xs x) (j + 1) (i : Int) = some o ∧ ((o = .inl () ∧ x ∉ xs.drop i) ∨ ∃ k : Nat, i ≤ k ∧ o = .inr (k : Int) ∧ x ∈ xs.drop i) := by
 intro j
 induction j with
 | zero =>
  intro i hi
  have e : xs.drop i = [] := List.drop_of_length_le (by omega)
  refine ⟨.inl (), ?_, .inl ⟨rfl, by rw [e]; simp⟩⟩
  rw [iterF_succ, m_slices_Index_int_l1, if_neg (by simp; omega)]
 | succ j ih =>
  intro i hi
  have hlt : i < xs.length := by omega
  rw [iterF_succ, m_slices_Index_int_l1, if_pos (by simp; omega), idx_at hlt, Option.bind_some]
  by_cases h1 : x = xs[i]
  ·rw [if_pos (by simpa using h1)]
   exact ⟨_, rfl, .inr ⟨i, Nat.le_refl _, rfl, by rw [List.drop_eq_getElem_cons hlt, h1]; exact List.mem_cons_self⟩⟩
  ·rw [if_neg (by simpa using h1), show (i : Int) + 1 = ((i + 1 : Nat) : Int) by omega, W_nat (by omega)]
   obtain ⟨o, h2, h3⟩ := ih (i + 1) (by omega)
   refine ⟨o, h2, ?_⟩
   rw [List.drop_eq_getElem_cons hlt]
   rcases h3 with ⟨h4, h5⟩ | ⟨k, h4, h5, h6⟩
   ·exact .inl ⟨h4, fun hc => (List.mem_cons.1 hc).elim h1 h5⟩
   ·exact .inr ⟨k, by omega, h5, List.mem_cons_of_mem _ h6⟩
theorem contains_eq {xs : List Int} {x : Int} (hl : xs.length < 4611686018427387904) : m_slices_Contains_int xs x = some (hasB xs x) := by
 obtain ⟨o, h1, h2⟩ := index_go (x := x) hl xs.length 0 (by omega)
 have h : iter (m_slices_Index_int_l1 xs x) 0 = some o := iter_of (by omega) h1
 rw [m_slices_Contains_int, m_slices_Index_int, h, Option.bind_some]
 rcases h2 with ⟨rfl, h4⟩ | ⟨k, _, rfl, h4⟩
 ·rw [hasB_false.2 (by simpa using h4)]; rfl
 ·rw [hasB_true.2 (by simpa using h4)]
  show some (decide ((k : Int) ≥ 0)) = some true
  simp
def edP (x : Ed) : Int × Int × Int := (x.f, x.e, x.t)
def autP (a : Aut) : List Int × Int × List Int × List (Int × Int × Int) := (a.al, a.n, a.ms, a.es.map edP)
def prevE (es : List Ed) (k : Nat) : Option Ed := if k = 0 then none else es[k - 1]?
theorem edErr_dropP {al : List Int} {n : Int} {es : List Ed} {k : Nat} (hk : k < es.length) : edErr al n (prevE es k) (es.drop k) =
  if (es[k].f < 0 ∨ n ≤ es[k].f ∨ es[k].t < 0 ∨ n ≤ es[k].t) then 2 else if hasB al es[k].e = false then 9 else if (∃ q, prevE es k = some q ∧ (es[k].f < q.f ∨ (es[k].f = q.f ∧ es[k].e ≤ q.e))) then 5 else edErr al n (prevE es (k + 1)) (es.drop (k + 1)) := by
 rw [List.drop_eq_getElem_cons hk, edErr]
 congr 3
 simp [prevE, List.getElem?_eq_getElem hk]
theorem edges_go {a : Aut} (hl : a.es.length < 4611686018427387904) (hal : a.al.length < 4611686018427387904) : ∀ (j i : Nat), i + j = a.es.length →
  iterF (m_automaton_checkEdges_l1 (autP a)) (j + 1) (i : Int) = some (errO (edErr a.al a.n (prevE a.es i) (a.es.drop i))) := by
 have hlen : (autP a).2.2.2.length = a.es.length := by simp [autP]
 have hat : ∀ (i : Nat) (h : i < a.es.length), idx (autP a).2.2.2 (i : Int) = some (edP a.es[i]) := fun i h => by
  rw [idx_at (by rw [hlen]; exact h)]; simp [autP]
 intro j
 induction j with
 | zero =>
  intro i hi
  have e : a.es.drop i = [] := List.drop_of_length_le (by omega)
  rw [iterF_succ, m_automaton_checkEdges_l1, if_neg (by rw [hlen]; simp; omega), e]
  rfl
 | succ j ih =>
  intro i hi
  have hlt : i < a.es.length := by omega
  have hnext : m_automaton_checkEdges_j1 (i : Int) = some (.inl ((i + 1 : Nat) : Int)) := by
   rw [m_automaton_checkEdges_j1, show (i : Int) + 1 = ((i + 1 : Nat) : Int) by omega, W_nat (by omega)]
  rw [iterF_succ, m_automaton_checkEdges_l1, if_pos (by rw [hlen]; simp; omega), hat i hlt, Option.bind_some, edErr_dropP hlt]
  by_cases h1 : a.es[i].f < 0 ∨ a.n ≤ a.es[i].f ∨ a.es[i].t < 0 ∨ a.n ≤ a.es[i].t
  ·rw [if_pos (by simp only [Bool.or_eq_true, decide_eq_true_eq]; show ((a.es[i].f < 0 ∨ a.es[i].f ≥ a.n) ∨ a.es[i].t < 0) ∨ a.es[i].t ≥ a.n; omega), if_pos h1]
   rfl
  ·rw [if_neg (by simp only [Bool.or_eq_true, decide_eq_true_eq]; show ¬ (((a.es[i].f < 0 ∨ a.es[i].f ≥ a.n) ∨ a.es[i].t < 0) ∨ a.es[i].t ≥ a.n); omega), if_neg h1]
   rw [show m_slices_Contains_int (autP a).1 (edP a.es[i]).2.1 = some (hasB a.al a.es[i].e) from contains_eq hal, Option.bind_some]
   cases h2 : hasB a.al a.es[i].e with
   | false => rfl
   | true =>
    rw [if_neg (show ¬ (!true) = true by simp), if_neg (show ¬ (true = false) by simp)]
    by_cases h0 : i = 0
    ·subst h0
     rw [if_pos (by simp), hnext, if_neg (by rintro ⟨q, hq, _⟩; simp [prevE] at hq)]
     exact ih 1 (by omega)
    ·have hp : prevE a.es i = some a.es[i - 1] := by rw [prevE, if_neg h0, List.getElem?_eq_getElem (by omega)]
     rw [if_neg (by simp; omega), show (i : Int) - 1 = ((i - 1 : Nat) : Int) by omega, W_nat (by omega), hat (i - 1) (by omega), Option.bind_some]
     by_cases h3 : a.es[i].f < a.es[i - 1].f ∨ (a.es[i].f = a.es[i - 1].f ∧ a.es[i].e ≤ a.es[i - 1].e)
     ·rw [if_pos (by simp only [Bool.or_eq_true, Bool.and_eq_true, decide_eq_true_eq, beq_iff_eq]; exact h3), if_pos ⟨_, hp, h3⟩]
      rfl
     ·rw [if_neg (by simp only [Bool.or_eq_true, Bool.and_eq_true, decide_eq_true_eq, beq_iff_eq]; exact h3), hnext, if_neg (by rintro ⟨q, hq, h4⟩; rw [hp] at hq; cases hq; exact h3 h4)]
      exact ih (i + 1) (by omega)
theorem check_eq {a : Aut} (hl : a.es.length < 4611686018427387904) (hal : a.al.length < 4611686018427387904) (hms : a.ms.length < 4611686018427387904) : m_automaton_Check (autP a) = some a.err := by
 have h : iter (m_automaton_checkEdges_l1 (autP a)) 0 = some (errO (edErr a.al a.n none a.es)) := iter_of (by omega) (edges_go hl hal a.es.length 0 (by omega))
 have he : m_automaton_checkEdges (autP a) = some (edErr a.al a.n none a.es) := by
  rw [m_automaton_checkEdges, h, Option.bind_some]
  by_cases h0 : edErr a.al a.n none a.es = 0
  ·rw [h0]; rfl
  ·rw [errO, if_neg h0]
 rw [m_automaton_Check, show m_automaton_checkSet (autP a).1 32 = some (setErr 32 none a.al) from checkSet_eq hal, Option.bind_some, Aut.err]
 by_cases h1 : (setErr 32 none a.al != 0) = true
 ·rw [if_pos h1, if_pos h1]
 ·rw [if_neg h1, if_neg h1]
  by_cases h2 : a.n < 0
  ·rw [if_pos (show decide ((autP a).2.1 < 0) = true from decide_eq_true h2), if_pos h2]
  ·rw [if_neg (show ¬ decide ((autP a).2.1 < 0) = true from fun e => h2 (of_decide_eq_true e)), if_neg h2]
   by_cases h3 : 4096 < a.n
   ·rw [if_pos (show decide ((autP a).2.1 > 4096) = true from decide_eq_true h3), if_pos h3]
   ·rw [if_neg (show ¬ decide ((autP a).2.1 > 4096) = true from fun e => h3 (of_decide_eq_true e)), if_neg h3, show m_automaton_checkSet (autP a).2.2.1 (autP a).2.1 = some (setErr a.n none a.ms) from checkSet_eq hms, Option.bind_some]
    by_cases h4 : (setErr a.n none a.ms != 0) = true
    ·rw [if_pos h4, if_pos h4]
    ·rw [if_neg h4, if_neg h4, he]
     rfl
abbrev Inc (xs : List Int) : Prop := xs.Pairwise (· < ·)
theorem half_eq {i j : Nat} (h : i + j < 9223372036854775808) : W ((IntKind.u64.wrap (W ((i : Int) + (j : Int)))).fdiv (2 ^ (min (1 : Int).toNat 64))) = (((i + j) / 2 : Nat) : Int) := by
 rw [W_of (x := (i : Int) + j) (by omega) (by omega), IntWalk.u64_in _ (by omega), show (2 : Int) ^ (min (1 : Int).toNat 64) = 2 from rfl, Int.fdiv_eq_ediv_of_nonneg _ (by omega), W_of (by omega) (by omega)]
 omega
theorem less_eq (x y : Int) : m_cmp_Less_int x y = some (decide (x < y)) := by
 rw [m_cmp_Less_int, show m_cmp_isNaN_int x = some false by rw [m_cmp_isNaN_int]; simp, Option.bind_some, if_neg (by simp), Option.bind_some, Bool.false_or]
theorem bin_go {xs : List Int} {t : Int} (hl : xs.length < 4294967296) (hs : Inc xs) : ∀ (f i j : Nat), j ≤ i + f → i ≤ j → j ≤ xs.length → (∀ k (h : k < xs.length), k < i → xs[k] < t) → (∀ k (h : k < xs.length), j ≤ k → t ≤ xs[k]) →
  ∃ p : Nat, iterF (m_slices_BinarySearch_int_l1 xs t) (f + 1) ((j : Int), (i : Int)) = some (p : Int) ∧ p ≤ xs.length ∧ (∀ k (h : k < xs.length), k < p → xs[k] < t) ∧ (∀ k (h : k < xs.length), p ≤ k → t ≤ xs[k]) := by
 intro f
 induction f with
 | zero =>
  intro i j h1 h2 h3 h4 h5
  refine ⟨i, ?_, by omega, h4, fun k h hk => h5 k h (by omega)⟩
  rw [iterF_succ, m_slices_BinarySearch_int_l1, if_neg (by simp; omega)]
 | succ f ih =>
  intro i j h1 h2 h3 h4 h5
  rw [iterF_succ, m_slices_BinarySearch_int_l1]
  dsimp only
  by_cases hij : i < j
  ·have hm : (i + j) / 2 < xs.length := by omega
   rw [if_pos (by simp; omega), half_eq (by omega), idx_at hm, Option.bind_some, less_eq, Option.bind_some]
   have mono : ∀ (a b : Nat) (ha : a < xs.length) (hb : b < xs.length), a ≤ b → xs[a] ≤ xs[b] := fun a b ha hb hab => by
    rcases Nat.lt_or_ge a b with h | h
    ·exact Int.le_of_lt (List.pairwise_iff_getElem.1 hs a b ha hb h)
    ·have : a = b := by omega
     subst this
     exact Int.le_refl _
   by_cases hc : xs[(i + j) / 2] < t
   ·rw [if_pos (decide_eq_true hc), show (((i + j) / 2 : Nat) : Int) + 1 = (((i + j) / 2 + 1 : Nat) : Int) by omega, W_nat (by omega)]
    exact ih _ j (by omega) (by omega) h3 (fun k h hk => by have := mono k _ h hm (by omega); omega) h5
   ·rw [if_neg (by simpa using hc)]
    exact ih i _ (by omega) (by omega) (by omega) h4 (fun k h hk => by have := mono _ k hm h hk; omega)
  ·rw [if_neg (by simp; omega)]
   exact ⟨i, rfl, by omega, h4, fun k h hk => h5 k h (by omega)⟩
theorem containsA_eq {xs : List Int} {t : Int} (hl : xs.length < 4294967296) (hs : Inc xs) : m_alphabet_Contains xs t = some (hasB xs t) := by
 obtain ⟨p, hp, hle, hlo, hhi⟩ := bin_go (t := t) hl hs xs.length 0 xs.length (by omega) (by omega) (by omega) (fun k h hk => absurd hk (by omega)) (fun k h hk => absurd hk (by omega))
 have hi : iter (m_slices_BinarySearch_int_l1 xs t) ((xs.length : Int), 0) = some (p : Int) := iter_of (by omega) hp
 rw [m_alphabet_Contains, m_slices_BinarySearch_int, hi, Option.bind_some]
 by_cases hlt : p < xs.length
 ·rw [if_pos (by simpa using hlt), idx_at hlt, Option.bind_some]
  by_cases he : xs[p] = t
  ·rw [if_pos (by simpa using he)]
   show some true = _
   rw [hasB_true.2 (he ▸ List.getElem_mem hlt)]
  ·rw [if_neg (by simpa using he), Option.bind_some, show m_slices_isNaN_int xs[p] = some false by rw [m_slices_isNaN_int]; simp, Option.bind_some, if_neg (by simp)]
   show some false = _
   rw [hasB_false.2]
   intro hm
   obtain ⟨k, hk, hk2⟩ := List.getElem_of_mem hm
   rcases Nat.lt_trichotomy k p with h | h | h
   ·have := hlo k hk h; omega
   ·subst h; exact he hk2
   ·have := hhi p hlt (Nat.le_refl _)
    have := List.pairwise_iff_getElem.1 hs p k hlt hk h
    omega
 ·rw [if_neg (by simpa using hlt)]
  show some false = _
  rw [hasB_false.2]
  intro hm
  obtain ⟨k, hk, hk2⟩ := List.getElem_of_mem hm
  have := hlo k hk (by omega)
  omega
theorem setErr_ok {n : Int} : ∀ {p : Option Int} {xs : List Int}, xs.Pairwise (· < ·) → (∀ x ∈ xs, 0 ≤ x ∧ x < n) → (∀ q, p = some q → ∀ x ∈ xs, q < x) → setErr n p xs = 0
 | _, [], _, _, _ => rfl
 | p, x :: xs, h, hr, hp => by
  obtain ⟨h1, h2⟩ := List.pairwise_cons.1 h
  have h3 := hr x (List.mem_cons_self ..)
  rw [setErr, if_neg (by omega), if_neg ?_]
  ·exact setErr_ok h2 (fun y hy => hr y (List.mem_cons_of_mem _ hy)) (fun q hq y hy => by cases hq; exact h1 y hy)
  ·rintro ⟨q, hq, hle⟩
   have := hp q hq x (List.mem_cons_self ..)
   omega
theorem edErr_ok {al : List Int} {n : Int} : ∀ {p : Option Ed} {es : List Ed}, Sorted es → (∀ x ∈ es, 0 ≤ x.f ∧ x.f < n ∧ 0 ≤ x.t ∧ x.t < n ∧ hasB al x.e = true) → (∀ q, p = some q → ∀ x ∈ es, edLt q x) → edErr al n p es = 0
 | _, [], _, _, _ => rfl
 | p, x :: xs, h, hr, hp => by
  obtain ⟨h1, h2⟩ := List.pairwise_cons.1 h
  have h3 := hr x (List.mem_cons_self ..)
  rw [edErr, if_neg (by omega), if_neg (by rw [h3.2.2.2.2]; simp), if_neg ?_]
  ·exact edErr_ok h2 (fun y hy => hr y (List.mem_cons_of_mem _ hy)) (fun q hq y hy => by cases hq; exact h1 y hy)
  ·rintro ⟨q, hq, hle⟩
   have := hp q hq x (List.mem_cons_self ..)
   unfold edLt at this
   omega

theorem autP_toAut (a : AutT) : autP (toAut a) = a := by
 obtain ⟨x, y, z, es⟩ := a
 simp only [autP, toAut, List.map_map]
 rw [show (edP ∘ toEd) = id from rfl, List.map_id]
structure Right (a : AutT) (n : Nat) : Prop where
 nn : a.2.1 = (n : Int)
 nl : n ≤ 4096
 ali : Inc a.1
 alr : ∀ x ∈ a.1, 0 ≤ x ∧ x < 32
 msi : Inc a.2.2.1
 msr : ∀ x ∈ a.2.2.1, 0 ≤ x ∧ x < (n : Int)
 es : ∀ x ∈ a.2.2.2, 0 ≤ x.1 ∧ x.1 < (n : Int) ∧ 0 ≤ x.2.2 ∧ x.2.2 < (n : Int) ∧ x.2.1 ∈ a.1
 so : a.2.2.2.Pairwise fun x y => x.1 < y.1 ∨ (x.1 = y.1 ∧ x.2.1 < y.2.1)
 l1 : a.1.length ≤ 1000000
 l2 : a.2.2.1.length ≤ 1000000
 l3 : a.2.2.2.length ≤ 1000000
namespace Right
variable {a : AutT} {n : Nat}
theorem sorted (h : Right a n) : Sorted (a.2.2.2.map toEd) := by
 unfold Sorted
 rw [List.pairwise_map]
 exact h.so
theorem ein (h : Right a n) : ∀ x ∈ a.2.2.2.map toEd, 0 ≤ x.f ∧ x.f < (n : Int) ∧ 0 ≤ x.t ∧ x.t < (n : Int) := fun x hx => by
 obtain ⟨y, hy, rfl⟩ := List.mem_map.1 hx
 have := h.es y hy
 exact ⟨this.1, this.2.1, this.2.2.1, this.2.2.2.1⟩
theorem evs (h : Right a n) : EvEs (a.2.2.2.map toEd) := fun x hx => by
 obtain ⟨y, hy, rfl⟩ := List.mem_map.1 hx
 exact h.alr _ (h.es y hy).2.2.2.2
theorem err (h : Right a n) : (toAut a).err = 0 := by
 have h1 : setErr 32 none (toAut a).al = 0 := setErr_ok h.ali h.alr (fun q hq => by cases hq)
 have hn : (toAut a).n = n := h.nn
 have h2 : setErr (toAut a).n none (toAut a).ms = 0 := by rw [hn]; exact setErr_ok h.msi h.msr (fun q hq => by cases hq)
 have h3 : edErr (toAut a).al (toAut a).n none (toAut a).es = 0 := by
  rw [hn]
  refine edErr_ok h.sorted (fun x hx => ?_) (fun q hq => by cases hq)
  obtain ⟨y, hy, rfl⟩ := List.mem_map.1 hx
  have := h.es y hy
  exact ⟨this.1, this.2.1, this.2.2.1, this.2.2.2.1, hasB_true.2 this.2.2.2.2⟩
 have := h.nl
 unfold Aut.err
 rw [h1, if_neg (by decide), if_neg (by rw [hn]; omega), if_neg (by rw [hn]; omega), h2, if_neg (by decide), h3]
theorem check (h : Right a n) : m_automaton_Check a = some 0 := by
 have h1 := h.l1
 have h2 := h.l2
 have h3 := h.l3
 have := check_eq (a := toAut a) (by simp [toAut]; omega) (by simp [toAut]; omega) (by simp [toAut]; omega)
 rwa [autP_toAut, h.err] at this
end Right
theorem inc_len {n : Nat} : ∀ {xs : List Int} {lo : Int}, Inc xs → (∀ x ∈ xs, lo ≤ x ∧ x < (n : Int)) → 0 ≤ lo → xs.length ≤ n - lo.toNat
 | [], _, _, _, _ => Nat.zero_le _
 | x :: xs, lo, h, hr, h0 => by
  obtain ⟨h1, h2⟩ := List.pairwise_cons.1 h
  have hx := hr x (List.mem_cons_self ..)
  have := inc_len (n := n) (lo := x + 1) h2 (fun y hy => ⟨by have := h1 y hy; omega, (hr y (List.mem_cons_of_mem _ hy)).2⟩) (by omega)
  rw [List.length_cons]
  omega
theorem idx_hd {α : Type} (a : α) (us : List α) : idx (a :: us) 0 = some a := rfl
theorem slc_tl {α : Type} (a : α) (us : List α) : slc (a :: us) 1 ((a :: us).length : Int) = some us := by
 rw [slc, if_pos ⟨by omega, by simp; omega, by omega⟩]
 simp
structure Mrg (out us vs : List Int) : Prop where
 o : Inc out
 u : Inc us
 v : Inc vs
 ou : ∀ x ∈ out, ∀ y ∈ us, x < y
 ov : ∀ x ∈ out, ∀ y ∈ vs, x < y
 ro : ∀ x ∈ out, 0 ≤ x ∧ x < 32
 ru : ∀ x ∈ us, 0 ≤ x ∧ x < 32
 rv : ∀ x ∈ vs, 0 ≤ x ∧ x < 32
theorem Mrg.swap {out us vs : List Int} (h : Mrg out us vs) : Mrg out vs us := ⟨h.o, h.v, h.u, h.ov, h.ou, h.ro, h.rv, h.ru⟩
theorem Mrg.push {out us vs : List Int} {a : Int} (h : Mrg out (a :: us) vs) (hv : ∀ y ∈ vs, a < y) : Mrg (out ++ [a]) us vs := by
 obtain ⟨u1, u2⟩ := List.pairwise_cons.1 h.u
 refine ⟨?_, u2, h.v, ?_, ?_, ?_, fun x hx => h.ru x (List.mem_cons_of_mem _ hx), h.rv⟩
 ·unfold Inc; rw [List.pairwise_append]
  exact ⟨h.o, List.pairwise_singleton _ _, fun x hx y hy => by rw [List.mem_singleton.1 hy]; exact h.ou x hx a (List.mem_cons_self ..)⟩
 ·intro x hx y hy
  rcases List.mem_append.1 hx with hx | hx
  ·exact h.ou x hx y (List.mem_cons_of_mem _ hy)
  ·rw [List.mem_singleton.1 hx]; exact u1 y hy
 ·intro x hx y hy
  rcases List.mem_append.1 hx with hx | hx
  ·exact h.ov x hx y hy
  ·rw [List.mem_singleton.1 hx]; exact hv y hy
 ·intro x hx
  rcases List.mem_append.1 hx with hx | hx
  ·exact h.ro x hx
  ·rw [List.mem_singleton.1 hx]; exact h.ru a (List.mem_cons_self ..)
theorem Mrg.tailv {out us vs : List Int} {a : Int} (h : Mrg out us (a :: vs)) : Mrg out us vs :=
 ⟨h.o, h.u, (List.pairwise_cons.1 h.v).2, h.ou, fun x hx y hy => h.ov x hx y (List.mem_cons_of_mem _ hy), h.ro, h.ru, fun x hx => h.rv x (List.mem_cons_of_mem _ hx)⟩
theorem Mrg.len {out us vs : List Int} (h : Mrg out us vs) : out.length ≤ 32 := by
 have := inc_len (n := 32) (lo := 0) h.o h.ro (Int.le_refl _)
 simpa using this
theorem Mrg.lt {out us vs : List Int} {a b : Int} (h : Mrg out us (b :: vs)) (hab : a < b) : ∀ y ∈ b :: vs, a < y := fun y hy => by
 rcases List.mem_cons.1 hy with rfl | hy
 ·exact hab
 ·have := (List.pairwise_cons.1 h.v).1 y hy; omega
theorem union_step {out us vs : List Int} (h : Mrg out us vs) (hne : 0 < us.length + vs.length) :
  ∃ o u v, m_alphabet_merge_l1 m_alphabet_Union_1 (out, us, vs) = some (.inl (o, u, v)) ∧ Mrg o u v ∧ u.length + v.length + 1 ≤ us.length + vs.length := by
 have hl := h.len
 have ho : ∀ a : Int, app out ([a] : List Int) = some (out ++ [a]) := fun a => app_eq (by simp; omega)
 cases us with
 | nil =>
  cases vs with
  | nil => simp at hne
  | cons b vs =>
   refine ⟨out ++ [b], [], vs, ?_, (h.swap.push (fun y hy => by cases hy)).swap, by simp⟩
   rw [m_alphabet_merge_l1]
   dsimp only
   rw [if_pos (by simp), if_neg (by simp), m_alphabet_merge_j1]
   dsimp only
   rw [if_pos (by simp), if_pos (by simp), m_alphabet_merge_j2, if_neg (by simp), m_alphabet_merge_j3, if_pos rfl]
   dsimp only
   rw [idx_hd, Option.bind_some, slc_tl, Option.bind_some, m_alphabet_merge_j4, show m_alphabet_Union_1 false true = some true from rfl, Option.bind_some, if_pos rfl]
   dsimp only
   rw [ho, Option.bind_some]
 | cons a us =>
  cases vs with
  | nil =>
   refine ⟨out ++ [a], us, [], ?_, h.push (fun y hy => by cases hy), by simp⟩
   rw [m_alphabet_merge_l1]
   dsimp only
   rw [if_pos (by simp), if_pos (by simp), if_pos (by simp), m_alphabet_merge_j1]
   dsimp only
   rw [if_neg (by simp), m_alphabet_merge_j2, if_pos rfl]
   dsimp only
   rw [idx_hd, Option.bind_some, slc_tl, Option.bind_some, m_alphabet_merge_j3, if_neg (by simp), m_alphabet_merge_j4, show m_alphabet_Union_1 true false = some true from rfl, Option.bind_some, if_pos rfl]
   dsimp only
   rw [ho, Option.bind_some]
  | cons b vs =>
   have e0 : m_alphabet_merge_l1 m_alphabet_Union_1 (out, a :: us, b :: vs) = m_alphabet_merge_j2 m_alphabet_Union_1 (out, a :: us, b :: vs) (decide (a ≤ b)) (decide (b ≤ a)) := by
    rw [m_alphabet_merge_l1]
    dsimp only
    rw [if_pos (by simp), if_pos (by simp), if_neg (by simp; omega), idx_hd, Option.bind_some, idx_hd, Option.bind_some, m_alphabet_merge_j1]
    dsimp only
    rw [if_pos (by simp), if_neg (by simp; omega), idx_hd, Option.bind_some, idx_hd, Option.bind_some]
   rw [e0, m_alphabet_merge_j2]
   dsimp only
   by_cases h1 : a < b
   ·refine ⟨out ++ [a], us, b :: vs, ?_, h.push (h.lt h1), by simp; omega⟩
    rw [if_pos (show decide (a ≤ b) = true by simp; omega), idx_hd, Option.bind_some, slc_tl, Option.bind_some, m_alphabet_merge_j3, if_neg (by simp; omega), m_alphabet_merge_j4, show decide (a ≤ b) = true by simp; omega, show decide (b ≤ a) = false by simp; omega,
     show m_alphabet_Union_1 true false = some true from rfl, Option.bind_some, if_pos rfl]
    dsimp only
    rw [ho, Option.bind_some]
   ·by_cases h2 : b < a
    ·refine ⟨out ++ [b], a :: us, vs, ?_, (h.swap.push (h.swap.lt h2)).swap, by simp; omega⟩
     rw [if_neg (show ¬ decide (a ≤ b) = true by simp; omega), m_alphabet_merge_j3, if_pos (show decide (b ≤ a) = true by simp; omega)]
     dsimp only
     rw [idx_hd, Option.bind_some, slc_tl, Option.bind_some, m_alphabet_merge_j4, show decide (a ≤ b) = false by simp; omega, show decide (b ≤ a) = true by simp; omega,
      show m_alphabet_Union_1 false true = some true from rfl, Option.bind_some, if_pos rfl]
     dsimp only
     rw [ho, Option.bind_some]
    ·obtain rfl : a = b := by omega
     refine ⟨out ++ [a], us, vs, ?_, h.tailv.push ((List.pairwise_cons.1 h.v).1), by simp; omega⟩
     rw [if_pos (show decide (a ≤ a) = true by simp), idx_hd, Option.bind_some, slc_tl, Option.bind_some, m_alphabet_merge_j3, if_pos (show decide (a ≤ a) = true by simp)]
     dsimp only
     rw [idx_hd, Option.bind_some, slc_tl, Option.bind_some, m_alphabet_merge_j4, show decide (a ≤ a) = true by simp,
      show m_alphabet_Union_1 true true = some true from rfl, Option.bind_some, if_pos rfl]
     dsimp only
     rw [ho, Option.bind_some]
def Alp (xs : List Int) : Prop := Inc xs ∧ ∀ x ∈ xs, 0 ≤ x ∧ x < 32
theorem Alp.nil : Alp [] := ⟨List.Pairwise.nil, fun x hx => by cases hx⟩
theorem Alp.len {xs : List Int} (h : Alp xs) : xs.length ≤ 32 := by
 have := inc_len (n := 32) (lo := 0) h.1 h.2 (Int.le_refl _)
 simpa using this
theorem union_ex {us vs : List Int} (hu : Alp us) (hv : Alp vs) : ∃ o, m_alphabet_Union us vs = some o ∧ Alp o := by
 have h0 : Mrg [] us vs := ⟨List.Pairwise.nil, hu.1, hv.1, fun x hx => (by cases hx), fun x hx => (by cases hx), fun x hx => (by cases hx), hu.2, hv.2⟩
 have l1 := hu.len
 have l2 := hv.len
 obtain ⟨o, h1, h2⟩ := iter_inv (f := m_alphabet_merge_l1 m_alphabet_Union_1) (fun i s => Mrg s.1 s.2.1 s.2.2 ∧ s.2.1.length + s.2.2.length + i ≤ us.length + vs.length) (fun o => Alp o) (us.length + vs.length) 0 (by omega) (fun i s hi ⟨g1, g2⟩ => by
   obtain ⟨out, u, v⟩ := s
   dsimp only at g1 g2
   by_cases hne : 0 < u.length + v.length
   ·obtain ⟨o, u', v', e, g3, g4⟩ := union_step g1 hne
    exact .inl ⟨_, e, g3, by dsimp only; omega⟩
   ·have e1 : u = [] := List.eq_nil_of_length_eq_zero (by omega)
    have e2 : v = [] := List.eq_nil_of_length_eq_zero (by omega)
    subst e1; subst e2
    exact .inr ⟨out, rfl, g1.o, g1.ro⟩) (fun s ⟨g1, g2⟩ => by
   obtain ⟨out, u, v⟩ := s
   dsimp only at g1 g2
   have e1 : u = [] := List.eq_nil_of_length_eq_zero (by omega)
   have e2 : v = [] := List.eq_nil_of_length_eq_zero (by omega)
   subst e1; subst e2
   exact ⟨out, rfl, g1.o, g1.ro⟩) (Nat.zero_le _) ([], us, vs) ⟨h0, by dsimp only; omega⟩
 exact ⟨o, by rw [m_alphabet_Union, m_alphabet_merge, h1]; rfl, h2⟩
theorem events_ex {l : List AutT} (hl : l.length ≤ 1000) (h : ∀ a ∈ l, Alp a.1) : ∃ ev, m_product_events l = some ev ∧ Alp ev := by
 obtain ⟨o, h1, h2⟩ := iter_inv (f := m_product_events_l1 l) (fun i s => s.1 = (i : Int) ∧ Alp s.2) (fun o => Alp o) l.length 0 (by omega) (fun i s hi ⟨e1, g1⟩ => by
   obtain ⟨k, out⟩ := s
   dsimp only at e1 g1
   subst e1
   obtain ⟨o, e, g2⟩ := union_ex g1 (h _ (List.getElem_mem hi))
   refine .inl ⟨(((i + 1 : Nat) : Int), o), ?_, rfl, g2⟩
   rw [m_product_events_l1]
   dsimp only
   rw [if_pos (ct_lt hi), idx_at hi, Option.bind_some, e, Option.bind_some, nxt (by omega)]) (fun s ⟨e1, g1⟩ => by
   obtain ⟨k, out⟩ := s
   dsimp only at e1 g1
   subst e1
   refine ⟨out, ?_, g1⟩
   rw [m_product_events_l1]
   dsimp only
   rw [if_neg ct_ge]) (Nat.zero_le _) (0, []) ⟨rfl, Alp.nil⟩
 exact ⟨o, by rw [m_product_events, h1]; rfl, h2⟩
section
variable {κ β : Type} [BEq κ]
theorem kget_mem {m : List (κ × β)} {k : κ} {v : β} (h : kget m k = some v) : ∃ e ∈ m, e.2 = v := by
 unfold kget at h
 rw [Option.map_eq_some_iff] at h
 obtain ⟨e, h1, h2⟩ := h
 exact ⟨e, List.mem_of_find?_eq_some h1, h2⟩
theorem kput_mem {m : List (κ × β)} {k : κ} {v : β} {e : κ × β} (h : e ∈ kput m k v) : e ∈ m ∨ e = (k, v) := by
 unfold kput at h
 split at h
 ·exact List.mem_or_eq_of_mem_set h
 ·rcases List.mem_append.1 h with h | h
  ·exact .inl h
  ·exact .inr (List.mem_singleton.1 h)
theorem kget_isSome {m : List (κ × β)} {k : κ} : (kget m k).isSome = m.any fun p => k == p.1 := by
 unfold kget
 induction m with
 | nil => rfl
 | cons p m ih =>
  rw [List.any_cons]
  cases h : k == p.1 with
  | true => rw [List.find?_cons_of_pos (by simpa using h)]; rfl
  | false => rw [List.find?_cons_of_neg (by simp [h])]; simpa using ih
end
theorem beqB (k : ByteArray) : (k == k) = true := by rw [beq_toListBytes]; simp
theorem kput_self {β : Type} {m : List (ByteArray × β)} {k : ByteArray} {v : β} : (kget (kput m k v) k).isSome = true := by
 rw [kget_isSome, List.any_eq_true]
 refine ⟨(k, v), ?_, beqB k⟩
 unfold kput
 split
 ·rename_i h; exact List.mem_set h _
 ·exact List.mem_append_right _ (List.mem_singleton.2 rfl)
theorem kput_keep {β : Type} {m : List (ByteArray × β)} {k q : ByteArray} {v : β} (h : (kget m q).isSome = true) : (kget (kput m k v) q).isSome = true := by
 rw [kget_isSome, List.any_eq_true] at h ⊢
 obtain ⟨e, h1, h2⟩ := h
 have hq := eqS h2
 unfold kput
 split
 ·rename_i hlt
  obtain ⟨i, hi, rfl⟩ := List.getElem_of_mem h1
  by_cases e : kidx (m.map (·.1)) k = i
  ·refine ⟨(k, v), List.mem_set hlt _, ?_⟩
   have hk : (fun p => k == p) ((m.map (·.1))[kidx (m.map (·.1)) k]'(by rw [List.length_map]; exact hlt)) = true := List.findIdx_getElem (p := fun p => k == p) (w := by rw [List.length_map]; exact hlt)
   rw [List.getElem_map] at hk
   have hk := eqS hk
   subst e
   rw [hq, ← hk]
   exact beqB k
  ·refine ⟨m[i], ?_, h2⟩
   have := List.getElem_set_ne (l := m) e (a := (k, v)) (by rw [List.length_set]; exact hi)
   rw [← this]
   exact List.getElem_mem _
 ·exact ⟨e, List.mem_append_left _ h1, h2⟩

def InT (l : List AutT) (t : List Int) : Prop := t.length = l.length ∧ ∀ i (h : i < l.length) (h' : i < t.length), 0 ≤ t[i] ∧ t[i] < l[i].2.1
theorem InT.set {l : List AutT} {t : List Int} (h : InT l t) {i : Nat} (hi : i < l.length) {v : Int} (h0 : 0 ≤ v) (h1 : v < l[i].2.1) : InT l (t.set i v) := by
 refine ⟨by rw [List.length_set]; exact h.1, fun k hk hk' => ?_⟩
 rw [List.getElem_set]
 split
 ·rename_i e; subst e; exact ⟨h0, h1⟩
 ·exact h.2 k hk _
structure MOk (l : List AutT) (m : List AutT × List Int × List (List ((Int × Int) × Int))) : Prop where
 ml : m.1 = l
 ev : Alp m.2.1
 len : m.2.2.length = l.length
 edge : ∀ i (h : i < l.length) (h' : i < m.2.2.length), ∀ e ∈ m.2.2[i], 0 ≤ e.2 ∧ e.2 < l[i].2.1
theorem open_in {a : AutT} {n : Nat} (hr : Right a n) : ∃ o, iter (m_product_open_l2 a) (0, ([] : List ((Int × Int) × Int))) = some o ∧ ∀ e ∈ o, 0 ≤ e.2 ∧ e.2 < (n : Int) := by
 have hl := hr.l3
 refine iter_inv (f := m_product_open_l2 a) (fun i s => s.1 = (i : Int) ∧ ∀ e ∈ s.2, 0 ≤ e.2 ∧ e.2 < (n : Int)) (fun o => ∀ e ∈ o, 0 ≤ e.2 ∧ e.2 < (n : Int)) a.2.2.2.length 0 (by omega) (fun i s hi ⟨e1, g1⟩ => ?_) (fun s ⟨e1, g1⟩ => ?_) (Nat.zero_le _) _ ⟨rfl, fun e he => (by cases he)⟩
 ·obtain ⟨k, out⟩ := s
  dsimp only at e1 g1
  subst e1
  have hx := hr.es _ (List.getElem_mem hi)
  refine .inl ⟨(((i + 1 : Nat) : Int), kput out (a.2.2.2[i].1, a.2.2.2[i].2.1) a.2.2.2[i].2.2), ?_, rfl, fun e he => ?_⟩
  ·rw [m_product_open_l2]
   dsimp only
   rw [if_pos (ct_lt hi), idx_at hi, Option.bind_some, nxt (by omega)]
  ·rcases kput_mem he with he | he
   ·exact g1 e he
   ·rw [he]; exact ⟨hx.2.2.1, hx.2.2.2.1⟩
 ·obtain ⟨k, out⟩ := s
  dsimp only at e1 g1
  subst e1
  refine ⟨out, ?_, g1⟩
  rw [m_product_open_l2]
  dsimp only
  rw [if_neg ct_ge]
def keyK (t : List Int) : ByteArray := ⟨(keyB t).toArray⟩
theorem nodup_len : ∀ (N : Nat) (l : List Nat), l.Nodup → (∀ x ∈ l, x < N) → l.length ≤ N
 | 0, [], _, _ => Nat.le_refl _
 | 0, x :: l, _, h => absurd (h x (List.mem_cons_self ..)) (by omega)
 | N + 1, l, hn, h => by
  by_cases hm : N ∈ l
  ·have h1 := nodup_len N (l.erase N) (hn.erase N) (fun x hx => by
    have h2 := (hn.mem_erase_iff).1 hx
    have := h x h2.2
    omega)
   rw [List.length_erase_of_mem hm] at h1
   omega
  ·have h1 := nodup_len N l hn (fun x hx => by
    have := h x hx
    have : x ≠ N := fun e => hm (e ▸ hx)
    omega)
   omega
abbrev Kno := List (ByteArray × Int)
structure SI (l : List AutT) (ev : List Int) (i j : Nat) (kn : Kno) (T : List (List Int)) (E : List (Int × Int × Int)) : Prop where
 pos : 0 < T.length
 nd : T.Nodup
 inT : ∀ t ∈ T, InT l t
 key : ∀ t ∈ T, (kget kn (keyK t)).isSome = true
 val : ∀ e ∈ kn, 0 ≤ e.2 ∧ e.2 < (T.length : Int)
 er : ∀ x ∈ E, 0 ≤ x.1 ∧ x.1 ≤ (i : Int) ∧ 0 ≤ x.2.2 ∧ x.2.2 < (T.length : Int) ∧ x.2.1 ∈ ev
 es : ∀ x ∈ E, x.1 = (i : Int) → x.2.1 ∈ ev.take j
 so : E.Pairwise fun x y => x.1 < y.1 ∨ (x.1 = y.1 ∧ x.2.1 < y.2.1)
 el : E.length ≤ 32 * i + j
 lk : ∀ k : Nat, 0 < k → k < T.length → ∃ x ∈ E, x.2.2 = (k : Int) ∧ 0 ≤ x.1 ∧ x.1 < (k : Int)
section
variable {l : List AutT} {ev : List Int} {i j : Nat} {kn : Kno} {T : List (List Int)} {E : List (Int × Int × Int)}
theorem SI.skip (h : SI l ev i j kn T E) : SI l ev i (j + 1) kn T E :=
 ⟨h.pos, h.nd, h.inT, h.key, h.val, h.er, fun x hx e => (List.take_subset_take_left ev (Nat.le_succ j)) (h.es x hx e), h.so, by have := h.el; omega, h.lk⟩
theorem SI.next (h : SI l ev i j kn T E) (hj : j ≤ 32) : SI l ev (i + 1) 0 kn T E :=
 ⟨h.pos, h.nd, h.inT, h.key, h.val, fun x hx => by have := h.er x hx; exact ⟨this.1, by omega, this.2.2⟩, fun x hx e => by have := h.er x hx; omega, h.so, by have := h.el; omega, h.lk⟩
theorem take_lt (he : Inc ev) (hj : j < ev.length) : ∀ x ∈ ev.take j, x < ev[j] := fun x hx => by
 obtain ⟨k, hk, rfl⟩ := List.getElem_of_mem hx
 rw [List.length_take] at hk
 rw [List.getElem_take]
 exact List.pairwise_iff_getElem.1 he k j (by omega) hj (by omega)
theorem SI.edge (h : SI l ev i j kn T E) (he : Inc ev) (hi : i < T.length) (hj : j < ev.length) {q : Int} (h0 : 0 ≤ q) (h1 : q < T.length) : SI l ev i (j + 1) kn T (E ++ [((i : Int), ev[j], q)]) := by
 refine ⟨h.pos, h.nd, h.inT, h.key, h.val, fun x hx => ?_, fun x hx e => ?_, ?_, by have := h.el; rw [List.length_append, List.length_singleton]; omega, fun k h2 h3 => ?_⟩
 ·rcases List.mem_append.1 hx with hx | hx
  ·exact h.er x hx
  ·rw [List.mem_singleton.1 hx]; exact ⟨by dsimp only; omega, by dsimp only; omega, h0, h1, List.getElem_mem _⟩
 ·rcases List.mem_append.1 hx with hx | hx
  ·exact (List.take_subset_take_left ev (Nat.le_succ j)) (h.es x hx e)
  ·rw [List.mem_singleton.1 hx, take_snoc ev j hj]; exact List.mem_append_right _ (List.mem_singleton.2 rfl)
 ·rw [List.pairwise_append]
  refine ⟨h.so, List.pairwise_singleton _ _, fun a ha b hb => ?_⟩
  rw [List.mem_singleton.1 hb]
  have h2 := h.er a ha
  by_cases e : a.1 = (i : Int)
  ·exact .inr ⟨e, take_lt he hj _ (h.es a ha e)⟩
  ·exact .inl (by dsimp only; omega)
 ·obtain ⟨x, hx, h4⟩ := h.lk k h2 h3
  exact ⟨x, List.mem_append_left _ hx, h4⟩
theorem SI.new (h : SI l ev i j kn T E) (he : Inc ev) (hi : i < T.length) (hj : j < ev.length) {t : List Int} (ht : InT l t) (hk : (kget kn (keyK t)).isSome = false) : SI l ev i (j + 1) (kput kn (keyK t) (T.length : Int)) (T ++ [t]) (E ++ [((i : Int), ev[j], (T.length : Int))]) := by
 have hlen : (T ++ [t]).length = T.length + 1 := by simp
 have h0 : SI l ev i j (kput kn (keyK t) (T.length : Int)) T E ∨ True := .inr trivial
 refine ⟨by omega, ?_, fun s hs => ?_, fun s hs => ?_, fun e hx => ?_, fun x hx => ?_, fun x hx e => ?_, ?_, by have := h.el; rw [List.length_append, List.length_singleton]; omega, fun k h2 h3 => ?_⟩
 ·rw [List.nodup_append]
  refine ⟨h.nd, by simp, fun a ha b hb => ?_⟩
  rw [List.mem_singleton.1 hb]
  intro e
  subst e
  rw [h.key a ha] at hk
  cases hk
 ·rcases List.mem_append.1 hs with hs | hs
  ·exact h.inT s hs
  ·rw [List.mem_singleton.1 hs]; exact ht
 ·rcases List.mem_append.1 hs with hs | hs
  ·exact kput_keep (h.key s hs)
  ·rw [List.mem_singleton.1 hs]; exact kput_self
 ·rw [hlen]
  rcases kput_mem hx with hx | hx
  ·have := h.val e hx; omega
  ·rw [hx]; dsimp only; omega
 ·rw [hlen]
  rcases List.mem_append.1 hx with hx | hx
  ·have := h.er x hx; exact ⟨this.1, this.2.1, this.2.2.1, by omega, this.2.2.2.2⟩
  ·rw [List.mem_singleton.1 hx]; exact ⟨by dsimp only; omega, by dsimp only; omega, by dsimp only; omega, by dsimp only; omega, List.getElem_mem _⟩
 ·rcases List.mem_append.1 hx with hx | hx
  ·exact (List.take_subset_take_left ev (Nat.le_succ j)) (h.es x hx e)
  ·rw [List.mem_singleton.1 hx, take_snoc ev j hj]; exact List.mem_append_right _ (List.mem_singleton.2 rfl)
 ·rw [List.pairwise_append]
  refine ⟨h.so, List.pairwise_singleton _ _, fun a ha b hb => ?_⟩
  rw [List.mem_singleton.1 hb]
  have h2 := h.er a ha
  by_cases e : a.1 = (i : Int)
  ·exact .inr ⟨e, take_lt he hj _ (h.es a ha e)⟩
  ·exact .inl (by dsimp only; omega)
 ·by_cases h4 : k < T.length
  ·obtain ⟨x, hx, h5⟩ := h.lk k h2 h4
   exact ⟨x, List.mem_append_left _ hx, h5⟩
  ·have : k = T.length := by omega
   subst this
   exact ⟨_, List.mem_append_right _ (List.mem_singleton.2 rfl), rfl, by dsimp only; omega, by dsimp only; omega⟩
end
theorem ReachIn.snoc {es : List Ed} : ∀ {k : Nat} {x : Int} {e : Ed}, e ∈ es → ReachIn es [e.f] k x → ReachIn es [e.t] (k + 1) x
 | 0, x, e, he, h => ⟨e, he, (List.mem_singleton.1 h).symm, List.mem_singleton.2 rfl⟩
 | k + 1, x, e, he, ⟨y, hy, h1, h2⟩ => ⟨y, hy, h1, h2.snoc he⟩
abbrev edsOf (p : AutT) : List Ed := p.2.2.2.map toEd
theorem kget_mem2 {κ β : Type} [BEq κ] {m : List (κ × β)} {k : κ} {v : β} (h : kget m k = some v) : ∃ e ∈ m, e.2 = v ∧ (k == e.1) = true := by
 unfold kget at h
 rw [Option.map_eq_some_iff] at h
 obtain ⟨e, h1, h2⟩ := h
 exact ⟨e, List.mem_of_find?_eq_some h1, h2, List.find?_some (p := fun p : κ × β => k == p.1) h1⟩
section
variable {κ β : Type} [DecidableEq κ] [BEq κ] [LawfulBEq κ]
theorem kget_cons (p : κ × β) (m : List (κ × β)) (q : κ) : kget (p :: m) q = if q = p.1 then some p.2 else kget m q := by
 unfold kget
 by_cases h : q = p.1
 ·rw [if_pos h, List.find?_cons_of_pos (by simp [h])]; rfl
 ·rw [if_neg h, List.find?_cons_of_neg (by simp [h])]
omit [DecidableEq κ] [LawfulBEq κ] in
theorem kput_nil (k : κ) (v : β) : kput [] k v = [(k, v)] := by
 unfold kput; rw [if_neg (by simp)]; rfl
theorem kput_cons (p : κ × β) (m : List (κ × β)) (k : κ) (v : β) : kput (p :: m) k v = if k = p.1 then (k, v) :: m else p :: kput m k v := by
 unfold kput
 rw [List.map_cons, kidx_cons]
 by_cases h : k = p.1
 ·subst h; rw [if_pos (by simp), if_pos (by simp), if_pos rfl]; rfl
 ·have e : (if (k == p.1) = true then 0 else kidx (m.map (·.1)) k + 1) = kidx (m.map (·.1)) k + 1 := if_neg (by simp [h])
  rw [e, if_neg h]
  by_cases h2 : kidx (m.map (·.1)) k < m.length
  ·rw [if_pos h2, if_pos (by rw [List.length_cons]; omega), List.set_cons_succ]
  ·rw [if_neg h2, if_neg (by rw [List.length_cons]; omega)]; rfl
theorem kget_kput {k q : κ} {v : β} : ∀ (m : List (κ × β)), kget (kput m k v) q = if q = k then some v else kget m q
 | [] => by rw [kput_nil, kget_cons]
 | p :: m => by
  rw [kput_cons]
  by_cases h : k = p.1
  ·rw [if_pos h, kget_cons, kget_cons]
   by_cases h2 : q = k
   ·rw [if_pos h2, if_pos h2]
   ·rw [if_neg h2, if_neg h2, if_neg (by rw [← h]; exact h2)]
  ·rw [if_neg h, kget_cons, kget_cons, kget_kput m]
   by_cases h2 : q = p.1
   ·rw [if_pos h2, if_neg (by rw [h2]; exact fun e => h e.symm), if_pos h2]
   ·rw [if_neg h2, if_neg h2]
end
end Go.Proofs.YtidakgbibobbdaaGreatDoor

namespace Go.Proofs.YtidakgbibobbdaaGreatDoor
open Go Go.RowKit
structure LOkB (B : Nat) (l : List AutT) : Prop where
 len : l.length ≤ 3
 right : ∀ a ∈ l, ∃ n : Nat, 1 ≤ n ∧ n ≤ B ∧ Right a n
 b99 : B ≤ 99
 pw : B ^ l.length ≤ 4000
theorem pcheck_eqB {l : List AutT} {B : Nat} (h : LOkB B l) : m_product_Check l = some 0 := by
 have hl := h.len
 have hb99 := h.b99
 obtain ⟨o, h1, rfl⟩ := iter_inv (f := m_product_Check_l1 l) (fun i s => s = (i : Int)) (fun o => o = .inl ()) l.length 0 (by omega) (fun i s hi e1 => by
   subst e1
   obtain ⟨n, _, _, hr⟩ := h.right _ (List.getElem_mem hi)
   refine .inl ⟨((i + 1 : Nat) : Int), ?_, rfl⟩
   rw [m_product_Check_l1, if_pos (ct_lt hi), idx_at hi, Option.bind_some, hr.check, Option.bind_some, if_neg (by simp), nxt (by omega)]) (fun s e1 => by
   subst e1
   exact ⟨_, by rw [m_product_Check_l1, if_neg ct_ge], rfl⟩) (Nat.zero_le _) 0 rfl
 rw [m_product_Check, if_neg (by simp; omega), h1]
 rfl
theorem open_exB {l : List AutT} {B : Nat} (h : LOkB B l) : ∃ m, m_product_open l = some m ∧ MOk l m := by
 have hl := h.len
 have hb99 := h.b99
 obtain ⟨ev, he, hev⟩ := events_ex (l := l) (by omega) (fun a ha => by
  obtain ⟨n, _, _, hr⟩ := h.right a ha
  exact ⟨hr.ali, hr.alr⟩)
 obtain ⟨o, h1, h2⟩ := iter_inv (f := m_product_open_l1 l) (fun i s => i ≤ l.length ∧ s.1 = (i : Int) ∧ s.2.length = i ∧ ∀ k (h : k < l.length) (h' : k < s.2.length), ∀ e ∈ s.2[k], 0 ≤ e.2 ∧ e.2 < l[k].2.1) (fun o => o.length = l.length ∧ ∀ k (h : k < l.length) (h' : k < o.length), ∀ e ∈ o[k], 0 ≤ e.2 ∧ e.2 < l[k].2.1) l.length 0 (by omega) (fun i s hi ⟨_, e1, g1, g2⟩ => by
   obtain ⟨k, out⟩ := s
   dsimp only at e1 g1 g2
   subst e1
   obtain ⟨n, _, _, hr⟩ := h.right _ (List.getElem_mem hi)
   obtain ⟨o, e, g3⟩ := open_in hr
   refine .inl ⟨(((i + 1 : Nat) : Int), out ++ [o]), ?_, by omega, rfl, by simp [g1], fun k hk hk' x hx => ?_⟩
   ·rw [m_product_open_l1]
    dsimp only
    rw [if_pos (ct_lt hi), idx_at hi, Option.bind_some, e, Option.bind_some, app_eq (by simp; omega), Option.bind_some, nxt (by omega)]
   ·dsimp only at hx
    by_cases hki : k < out.length
    ·rw [List.getElem_append_left hki] at hx; exact g2 k hk hki x hx
    ·have hk2 : k = i := by simp at hk'; omega
     subst hk2
     rw [List.getElem_append_right (by omega)] at hx
     simp only [g1, Nat.sub_self, List.getElem_cons_zero] at hx
     rw [hr.nn]
     exact g3 x hx) (fun s ⟨_, e1, g1, g2⟩ => by
   obtain ⟨k, out⟩ := s
   dsimp only at e1 g1 g2
   subst e1
   refine ⟨out, ?_, g1, g2⟩
   rw [m_product_open_l1]
   dsimp only
   rw [if_neg ct_ge]) (Nat.zero_le _) (0, []) ⟨Nat.zero_le _, rfl, rfl, fun k hk hk' => (by simp at hk')⟩
 exact ⟨(l, ev, o), by rw [m_product_open, he, Option.bind_some, h1]; rfl, rfl, hev, h2.1, h2.2⟩
theorem initial_eqB {l : List AutT} {B : Nat} (h : LOkB B l) {m : List AutT × List Int × List (List ((Int × Int) × Int))} (hm : MOk l m) : ∃ t, m_product_machine_initial m = some (t, true) ∧ InT l t := by
 have hl := h.len
 have hb99 := h.b99
 obtain ⟨m1, m2, m3⟩ := m
 obtain ⟨rfl, hev, hlen, _⟩ := hm
 dsimp only at *
 obtain ⟨o, h1, rfl⟩ := iter_inv (f := m_product_machine_initial_l1 (m1, m2, m3)) (fun i s => s = (i : Int)) (fun o => o = .inl ()) m1.length 0 (by omega) (fun i s hi e1 => by
   subst e1
   obtain ⟨n, hn, _, hr⟩ := h.right _ (List.getElem_mem hi)
   refine .inl ⟨((i + 1 : Nat) : Int), ?_, rfl⟩
   rw [m_product_machine_initial_l1]
   dsimp only
   rw [if_pos (ct_lt hi), idx_at hi, Option.bind_some, hr.nn, if_neg (by simp; omega), nxt (by omega)]) (fun s e1 => by
   subst e1
   refine ⟨_, ?_, rfl⟩
   rw [m_product_machine_initial_l1]
   dsimp only
   rw [if_neg ct_ge]) (Nat.zero_le _) 0 rfl
 have hmk : mkL (m1.length : Int) (0 : Int) = some (List.replicate m1.length 0) := by unfold mkL; rw [if_pos ⟨by omega, by omega⟩, Int.toNat_natCast]
 refine ⟨List.replicate m1.length 0, ?_, by simp, fun i hi hi' => ?_⟩
 ·rw [m_product_machine_initial, h1, Option.bind_some]
  dsimp only
  rw [hmk, Option.bind_some]
 ·obtain ⟨n, hn, _, hr⟩ := h.right _ (List.getElem_mem hi)
  rw [List.getElem_replicate, hr.nn]
  omega
theorem step_exB {l : List AutT} {B : Nat} (h : LOkB B l) {m : List AutT × List Int × List (List ((Int × Int) × Int))} (hm : MOk l m) {t : List Int} (ht : InT l t) (e : Int) : ∃ r, m_product_machine_step m t e = some r ∧ (r.2 = true → InT l r.1) := by
 have hl := h.len
 have hb99 := h.b99
 obtain ⟨m1, m2, m3⟩ := m
 obtain ⟨rfl, hev, hlen, hed⟩ := hm
 dsimp only at *
 obtain ⟨o, h1, h2⟩ := iter_inv (f := m_product_machine_step_l1 (m1, m2, m3) t e) (fun i s => s.1 = (i : Int) ∧ InT m1 s.2) (fun o => ∀ u, o = .inl u → InT m1 u) m1.length 0 (by omega) (fun i s hi ⟨e1, g1⟩ => by
   obtain ⟨k, out⟩ := s
   dsimp only at e1 g1
   subst e1
   obtain ⟨n, hn, _, hr⟩ := h.right _ (List.getElem_mem hi)
   have ha : m1[i].1.length < 4294967296 := by have := hr.l1; omega
   have hj : ∀ u : List Int, m_product_machine_step_j1 ((i : Int), out) u = some (.inl (((i + 1 : Nat) : Int), u)) := fun u => by
    rw [m_product_machine_step_j1]; dsimp only; rw [nxt (by omega)]
   rw [m_product_machine_step_l1]
   dsimp only
   rw [if_pos (ct_lt hi), idx_at hi, Option.bind_some, containsA_eq ha hr.ali, Option.bind_some]
   cases hb : hasB m1[i].1 e with
   | false =>
    rw [if_pos (by simp), hj]
    exact .inl ⟨_, rfl, rfl, g1⟩
   | true =>
    rw [if_neg (by simp), idx_at (by omega), Option.bind_some, idx_at (by have := ht.1; omega), Option.bind_some]
    cases hg : kget m3[i] (t[i]'(by have := ht.1; omega), e) with
    | none =>
     rw [if_pos (by simp)]
     exact .inr ⟨_, rfl, fun u hu => by cases hu⟩
    | some v =>
     obtain ⟨x, hx, rfl⟩ := kget_mem hg
     have hv := hed i hi (by omega) x hx
     rw [if_neg (by simp), idx_at (by have := g1.1; omega), Option.bind_some, upd_at (by have := g1.1; omega), Option.bind_some, hj]
     exact .inl ⟨_, rfl, rfl, g1.set hi hv.1 hv.2⟩) (fun s ⟨e1, g1⟩ => by
   obtain ⟨k, out⟩ := s
   dsimp only at e1 g1
   subst e1
   refine ⟨.inl out, ?_, fun u hu => by cases hu; exact g1⟩
   rw [m_product_machine_step_l1]
   dsimp only
   rw [if_neg ct_ge]) (Nat.zero_le _) (0, t) ⟨rfl, ht⟩
 rw [m_product_machine_step, clone_eq (by have := ht.1; omega), Option.bind_some, h1, Option.bind_some]
 cases o with
 | inl u => exact ⟨_, rfl, fun _ => h2 u rfl⟩
 | inr u => exact ⟨_, rfl, fun hb => by cases hb⟩
theorem marked_exB {l : List AutT} {B : Nat} (h : LOkB B l) {m : List AutT × List Int × List (List ((Int × Int) × Int))} (hm : MOk l m) {t : List Int} (ht : InT l t) : ∃ b, m_product_machine_marked m t = some b := by
 have hl := h.len
 have hb99 := h.b99
 obtain ⟨m1, m2, m3⟩ := m
 obtain ⟨rfl, hev, hlen, hed⟩ := hm
 dsimp only at *
 obtain ⟨o, h1, h2⟩ := iter_inv (f := m_product_machine_marked_l1 (m1, m2, m3) t) (fun i s => s = (i : Int)) (fun _ => True) m1.length 0 (by omega) (fun i s hi e1 => by
   subst e1
   obtain ⟨n, hn, _, hr⟩ := h.right _ (List.getElem_mem hi)
   have ha : m1[i].2.2.1.length < 4294967296 := by have := hr.l2; omega
   rw [m_product_machine_marked_l1]
   dsimp only
   rw [if_pos (ct_lt hi), idx_at hi, Option.bind_some, idx_at (by have := ht.1; omega), Option.bind_some, containsA_eq ha hr.msi, Option.bind_some]
   cases hb : hasB m1[i].2.2.1 (t[i]'(by have := ht.1; omega)) with
   | false => rw [if_pos (by simp)]; exact .inr ⟨_, rfl, trivial⟩
   | true => rw [if_neg (by simp), nxt (by omega)]; exact .inl ⟨_, rfl, rfl⟩) (fun s e1 => by
   subst e1
   refine ⟨.inl (), ?_, trivial⟩
   rw [m_product_machine_marked_l1]
   dsimp only
   rw [if_neg ct_ge]) (Nat.zero_le _) 0 rfl
 rw [m_product_machine_marked, h1, Option.bind_some]
 cases o with
 | inl u => exact ⟨_, rfl⟩
 | inr u => exact ⟨_, rfl⟩
theorem key_eqB {l : List AutT} {B : Nat} (h : LOkB B l) {t : List Int} (ht : InT l t) : m_product_key t = some (keyK t) := by
 have hl := h.len
 have hb99 := h.b99
 have hc : (t.all fun x => decide (0 ≤ x ∧ x < 100)) = true := by
  rw [List.all_eq_true]
  intro x hx
  obtain ⟨i, hi, rfl⟩ := List.getElem_of_mem hx
  have hi' : i < l.length := by have := ht.1; omega
  obtain ⟨n, hn, hn6, hr⟩ := h.right _ (List.getElem_mem hi')
  have := ht.2 i hi' hi
  rw [hr.nn] at this
  simp; omega
 rw [m_product_key, if_pos ⟨hc, by have := ht.1; omega⟩]
 rfl
def tcodeB (B : Nat) : List Int → Nat
 | [] => 0
 | x :: t => x.toNat + B * tcodeB B t
theorem tcode_injB {B : Nat} : ∀ {s t : List Int}, s.length = t.length → (∀ x ∈ s, 0 ≤ x ∧ x < B) → (∀ x ∈ t, 0 ≤ x ∧ x < B) → tcodeB B s = tcodeB B t → s = t
 | [], [], _, _, _, _ => rfl
 | [], _ :: _, h, _, _, _ => by simp at h
 | _ :: _, [], h, _, _, _ => by simp at h
 | x :: s, y :: t, h, hs, ht, e => by
  have h1 := hs x (List.mem_cons_self ..)
  have h2 := ht y (List.mem_cons_self ..)
  simp only [tcodeB] at e
  have e2 : x.toNat = y.toNat := by
   have h3 := congrArg (· % B) e
   simp only [Nat.add_mul_mod_self_left] at h3
   rwa [Nat.mod_eq_of_lt (by omega), Nat.mod_eq_of_lt (by omega)] at h3
  have hxy : x = y := by omega
  subst hxy
  have e3 : B * tcodeB B s = B * tcodeB B t := by omega
  rw [tcode_injB (s := s) (t := t) (by simpa using h) (fun z hz => hs z (List.mem_cons_of_mem _ hz)) (fun z hz => ht z (List.mem_cons_of_mem _ hz)) (Nat.eq_of_mul_eq_mul_left (by omega) e3)]
theorem tcode_ltB {B : Nat} : ∀ {t : List Int}, (∀ x ∈ t, 0 ≤ x ∧ x < B) → tcodeB B t < B ^ t.length
 | [], _ => by simp [tcodeB]
 | x :: t, h => by
  have h1 := h x (List.mem_cons_self ..)
  have h2 := tcode_ltB (t := t) (fun z hz => h z (List.mem_cons_of_mem _ hz))
  rw [List.length_cons, Nat.pow_succ, tcodeB]
  have h3 : B * (tcodeB B t + 1) ≤ B * B ^ t.length := Nat.mul_le_mul_left B h2
  rw [Nat.mul_add, Nat.mul_one] at h3
  rw [Nat.mul_comm (B ^ t.length) B]
  omega
theorem InT.smallB {l : List AutT} {B : Nat} (h : LOkB B l) {t : List Int} (ht : InT l t) : ∀ x ∈ t, 0 ≤ x ∧ x < B := by
 intro x hx
 obtain ⟨i, hi, rfl⟩ := List.getElem_of_mem hx
 have hi' : i < l.length := by have := ht.1; omega
 obtain ⟨n, hn, hn6, hr⟩ := h.right _ (List.getElem_mem hi')
 have := ht.2 i hi' hi
 rw [hr.nn] at this
 omega
theorem tuples_lenB {l : List AutT} {B : Nat} (h : LOkB B l) {T : List (List Int)} (hn : T.Nodup) (hT : ∀ t ∈ T, InT l t) : T.length ≤ 4000 := by
 have h1 := nodup_len (B ^ l.length) (T.map (tcodeB B)) ?_ ?_
 ·rw [List.length_map] at h1
  have h2 := h.pw
  omega
 ·rw [List.Nodup, List.pairwise_map]
  refine List.Pairwise.imp_of_mem (fun {a b} ha hb hab e => hab ?_) hn
  exact tcode_injB ((hT a ha).1.trans (hT b hb).1.symm) ((hT a ha).smallB h) ((hT b hb).smallB h) e
 ·intro x hx
  obtain ⟨t, ht, rfl⟩ := List.mem_map.1 hx
  rw [← (hT t ht).1]
  exact tcode_ltB ((hT t ht).smallB h)
end Go.Proofs.YtidakgbibobbdaaGreatDoor

namespace Go.Proofs.YtidakgbibobbdaaGreatDoor
structure Num (es : List Ed) (n : Nat) : Prop where
 so : es.Pairwise fun x y => x.f < y.f ∨ (x.f = y.f ∧ x.e < y.e)
 rng : ∀ x ∈ es, 0 ≤ x.f ∧ x.f < (n : Int) ∧ 0 ≤ x.t ∧ x.t < (n : Int) ∧ 0 ≤ x.e ∧ x.e < 32
 cov : ∀ k : Nat, 0 < k → k < n → ∃ x ∈ es, x.t = (k : Int)
 ear : ∀ i (hi : i < es.length) (k : Int), 0 < k → k < es[i].t → ∃ j, ∃ hj : j < es.length, j < i ∧ es[j].t = k
 fst : ∀ i (hi : i < es.length), (∀ j (hj : j < es.length), j < i → es[j].t ≠ es[i].t) → es[i].t = 0 ∨ es[i].f < es[i].t
theorem first_at {es : List Ed} {k : Int} {x : Ed} (h : es.find? (fun y => y.t == k) = some x) : ∃ i, ∃ hi : i < es.length, es[i] = x ∧ x.t = k ∧ ∀ j (hj : j < es.length), j < i → es[j].t ≠ k := by
 rw [List.find?_eq_some_iff_getElem] at h
 obtain ⟨h1, i, hi, h2, h3⟩ := h
 refine ⟨i, hi, h2, by simpa using h1, fun j hj hji e => ?_⟩
 have := h3 j hji
 simp [e] at this
def wordN (es : List Ed) : Nat → Int → List Int
 | 0, _ => []
 | f + 1, k => if k ≤ 0 then [] else match es.find? (fun y => y.t == k) with
  | none => []
  | some x => wordN es f x.f ++ [x.e]
def wN (es : List Ed) (k : Int) : List Int := wordN es k.toNat k
namespace Num
variable {es : List Ed} {n : Nat}
theorem find (h : Num es n) {k : Nat} (h0 : 0 < k) (h1 : k < n) : ∃ x, es.find? (fun y => y.t == (k : Int)) = some x ∧ x ∈ es ∧ x.t = (k : Int) ∧ 0 ≤ x.f ∧ x.f < (k : Int) := by
 obtain ⟨y, hy, ht⟩ := h.cov k h0 h1
 cases hf : es.find? (fun y => y.t == (k : Int)) with
 | none => exact absurd (by simpa using ht) (by simpa using List.find?_eq_none.1 hf y hy)
 | some x =>
  obtain ⟨i, hi, e1, e2, e3⟩ := first_at hf
  have hm : x ∈ es := e1 ▸ List.getElem_mem hi
  refine ⟨x, rfl, hm, e2, (h.rng x hm).1, ?_⟩
  have := h.fst i hi (fun j hj hji => by rw [e1, e2]; exact e3 j hj hji)
  rw [e1, e2] at this
  omega
theorem fuel (h : Num es n) : ∀ (f : Nat) (k : Int), k < (n : Int) → k.toNat ≤ f → wordN es f k = wN es k := by
 have key : ∀ (m : Nat) (k : Int), k.toNat = m → k < (n : Int) → ∀ f g, m ≤ f → m ≤ g → wordN es f k = wordN es g k := by
  intro m
  induction m using Nat.strongRecOn with
  | ind m ih =>
   intro k hk hn f g hf hg
   by_cases h0 : k ≤ 0
   ·have e : ∀ f, wordN es f k = [] := fun f => by
     cases f with
     | zero => rfl
     | succ f => rw [wordN, if_pos h0]
    rw [e, e]
   ·obtain ⟨f, rfl⟩ : ∃ f', f = f' + 1 := ⟨f - 1, by omega⟩
    obtain ⟨g, rfl⟩ : ∃ g', g = g' + 1 := ⟨g - 1, by omega⟩
    obtain ⟨k', rfl⟩ : ∃ k' : Nat, k = (k' : Int) := ⟨k.toNat, by omega⟩
    obtain ⟨x, hx, _, ht, hf0, hfk⟩ := h.find (k := k') (by omega) (by omega)
    rw [wordN, wordN, if_neg h0, if_neg h0, hx]
    dsimp only
    rw [ih x.f.toNat (by omega) x.f rfl (by omega) f g (by omega) (by omega)]
 intro f k hn hf
 exact key k.toNat k rfl hn f k.toNat hf (Nat.le_refl _)
theorem step (h : Num es n) {k : Nat} (h0 : 0 < k) (h1 : k < n) : ∃ x ∈ es, es.find? (fun y => y.t == (k : Int)) = some x ∧ x.t = (k : Int) ∧ 0 ≤ x.f ∧ x.f < (k : Int) ∧ wN es (k : Int) = wN es x.f ++ [x.e] := by
 obtain ⟨x, hx, hm, ht, hf0, hfk⟩ := h.find h0 h1
 refine ⟨x, hm, hx, ht, hf0, hfk, ?_⟩
 obtain ⟨k, rfl⟩ : ∃ k', k = k' + 1 := ⟨k - 1, by omega⟩
 unfold wN
 rw [Int.toNat_natCast, wordN, if_neg (by omega), hx]
 dsimp only
 rw [h.fuel k x.f (by omega) (by omega)]
 rfl
theorem zero : wN es 0 = [] := rfl
theorem evs (h : Num es n) : ∀ (k : Nat), k < n → Evs (wN es (k : Int)) := by
 intro k
 induction k using Nat.strongRecOn with
 | ind k ih =>
  intro hk
  by_cases h0 : k = 0
  ·subst h0; exact Evs.nil
  ·obtain ⟨x, hm, _, _, hf0, hfk, e⟩ := h.step (k := k) (by omega) hk
   rw [e]
   have hx := h.rng x hm
   have := ih x.f.toNat (by omega) (by omega)
   rw [Int.toNat_of_nonneg hf0] at this
   exact this.snoc hx.2.2.2.2.1 hx.2.2.2.2.2
theorem mono (h : Num es n) : ∀ (k' k : Nat), k < k' → k' < n → wval (wN es (k : Int)) < wval (wN es (k' : Int)) := by
 intro k'
 induction k' using Nat.strongRecOn with
 | ind k' ih =>
  intro k hkk hk'
  obtain ⟨x', hm', hf', ht', hf0', hfk', e'⟩ := h.step (k := k') (by omega) hk'
  have hx' := h.rng x' hm'
  have hw' : 0 ≤ wval (wN es x'.f) := by
   have := h.evs x'.f.toNat (by omega)
   rw [Int.toNat_of_nonneg hf0'] at this
   exact wval_nonneg _ this
  rw [e', wval_snoc]
  by_cases h0 : k = 0
  ·subst h0
   show wval [] < _
   show (0 : Int) < _
   omega
  ·obtain ⟨x, hm, hf, ht, hf0, hfk, e⟩ := h.step (k := k) (by omega) (by omega)
   have hx := h.rng x hm
   rw [e, wval_snoc]
   obtain ⟨i, hi, a1, a2, a3⟩ := first_at hf
   obtain ⟨i', hi', b1, b2, b3⟩ := first_at hf'
   obtain ⟨j, hj, hji, hjt⟩ := h.ear i' hi' (k : Int) (by omega) (by rw [b1, b2]; omega)
   have hij : i ≤ j := Nat.le_of_not_lt fun hlt => a3 j hj hlt hjt
   have hlt := List.pairwise_iff_getElem.1 h.so i i' hi hi' (by omega)
   rw [a1, b1] at hlt
   rcases hlt with hlt | ⟨hlt, hle⟩
   ·have := ih x'.f.toNat (by omega) x.f.toNat (by omega) (by omega)
    rw [Int.toNat_of_nonneg hf0, Int.toNat_of_nonneg hf0'] at this
    omega
   ·rw [hlt]; omega
end Num
end Go.Proofs.YtidakgbibobbdaaGreatDoor

namespace Go.Proofs.YtidakgbibobbdaaGreatDoor
open Go Go.RowKit
structure Disc {τ : Type} (st : τ → Int → Option τ) (al : List Int) (T : List τ) (E : List (Int × Int × Int)) : Prop where
 nd : T.Nodup
 so : E.Pairwise fun x y => x.1 < y.1 ∨ (x.1 = y.1 ∧ x.2.1 < y.2.1)
 sn : ∀ x ∈ E, ∃ (a q : Nat) (t r : τ), x.1 = (a : Int) ∧ x.2.2 = (q : Int) ∧ T[a]? = some t ∧ T[q]? = some r ∧ x.2.1 ∈ al ∧ st t x.2.1 = some r
 ed : ∀ (a : Nat) (t : τ) (e : Int) (r : τ), T[a]? = some t → e ∈ al → st t e = some r → ∃ q : Nat, ((a : Int), e, (q : Int)) ∈ E ∧ T[q]? = some r
 cov : ∀ k : Nat, 0 < k → k < T.length → ∃ x ∈ E, x.2.2 = (k : Int)
 ear : ∀ n (hn : n < E.length) (k : Int), 0 < k → k < E[n].2.2 → ∃ p, ∃ hp : p < E.length, p < n ∧ E[p].2.2 = k
 fst : ∀ n (hn : n < E.length), (∀ p (hp : p < E.length), p < n → E[p].2.2 ≠ E[n].2.2) → E[n].2.2 = 0 ∨ E[n].1 < E[n].2.2
 evr : ∀ e ∈ al, 0 ≤ e ∧ e < 32
section
variable {τ : Type} {st : τ → Int → Option τ} {al : List Int} {T T' : List τ} {E E' : List (Int × Int × Int)}
theorem Disc.num (h : Disc st al T E) : Num (E.map toEd) T.length := by
 have hel : (E.map toEd).length = E.length := List.length_map _
 have hee : ∀ n (hn : n < (E.map toEd).length) (hn' : n < E.length), (E.map toEd)[n] = toEd E[n] := fun n hn hn' => by simp
 refine ⟨?_, fun x hx => ?_, fun k h0 h1 => ?_, fun n hn k h0 h1 => ?_, fun n hn hf => ?_⟩
 ·rw [List.pairwise_map]
  exact h.so
 ·obtain ⟨y, hy, rfl⟩ := List.mem_map.1 hx
  obtain ⟨a, q, t, r, h1, h2, h3, h4, h5, _⟩ := h.sn y hy
  have := h.evr _ h5
  have g3 := (List.getElem?_eq_some_iff.1 h3).1
  have g4 := (List.getElem?_eq_some_iff.1 h4).1
  show 0 ≤ y.1 ∧ y.1 < _ ∧ 0 ≤ y.2.2 ∧ y.2.2 < _ ∧ 0 ≤ y.2.1 ∧ y.2.1 < 32
  omega
 ·obtain ⟨x, hx, h2⟩ := h.cov k h0 h1
  exact ⟨toEd x, List.mem_map_of_mem hx, h2⟩
 ·have hn' : n < E.length := by omega
  rw [hee n hn hn'] at h1
  obtain ⟨p, hp, h3, h4⟩ := h.ear n hn' k h0 h1
  exact ⟨p, by omega, h3, by rw [hee p (by omega) hp]; exact h4⟩
 ·have hn' : n < E.length := by omega
  rw [hee n hn hn']
  refine h.fst n hn' fun p hp hpn => ?_
  have := hf p (by omega) hpn
  rw [hee p (by omega) hp, hee n hn hn'] at this
  exact this
theorem strict_ext {lt : τ → τ → Prop} (hir : ∀ a b, lt a b → lt b a → False) : ∀ {xs ys : List τ}, xs.Pairwise lt → ys.Pairwise lt → (∀ x, x ∈ xs ↔ x ∈ ys) → xs = ys
 | [], [], _, _, _ => rfl
 | [], y :: ys, _, _, h => by have := (h y).2 (List.mem_cons_self ..); cases this
 | x :: xs, [], _, _, h => by have := (h x).1 (List.mem_cons_self ..); cases this
 | x :: xs, y :: ys, hx, hy, h => by
  obtain ⟨x1, x2⟩ := List.pairwise_cons.1 hx
  obtain ⟨y1, y2⟩ := List.pairwise_cons.1 hy
  have hxy : x = y := by
   rcases List.mem_cons.1 ((h x).1 (List.mem_cons_self ..)) with e | e
   ·exact e
   ·rcases List.mem_cons.1 ((h y).2 (List.mem_cons_self ..)) with e' | e'
    ·exact e'.symm
    ·exact (hir x y (x1 y e') (y1 x e)).elim
  subst hxy
  have hne1 : ∀ z ∈ xs, z ≠ x := fun z hz e => by subst e; exact hir z z (x1 z hz) (x1 z hz)
  have hne2 : ∀ z ∈ ys, z ≠ x := fun z hz e => by subst e; exact hir z z (y1 z hz) (y1 z hz)
  rw [strict_ext hir x2 y2 fun z => ?_]
  constructor
  ·intro hz
   exact (List.mem_cons.1 ((h z).1 (List.mem_cons_of_mem _ hz))).resolve_left (hne1 z hz)
  ·intro hz
   exact (List.mem_cons.1 ((h z).2 (List.mem_cons_of_mem _ hz))).resolve_left (hne2 z hz)
end
theorem get_snoc {α : Type} {xs : List α} {x : α} {n : Nat} (hn : n < (xs ++ [x]).length) : (∃ h : n < xs.length, (xs ++ [x])[n] = xs[n]) ∨ (n = xs.length ∧ (xs ++ [x])[n] = x) := by
 by_cases h : n < xs.length
 ·exact .inl ⟨h, List.getElem_append_left h⟩
 ·have h2 : n = xs.length := by simp at hn; omega
  subst h2
  exact .inr ⟨rfl, by rw [List.getElem_append_right (Nat.le_refl _)]; simp⟩
structure Fnd {τ : Type} (st : τ → Int → Option τ) (ev : List Int) (i j : Nat) (T : List τ) (E : List (Int × Int × Int)) : Prop where
 sn : ∀ x ∈ E, ∃ (a q : Nat) (t r : τ), x.1 = (a : Int) ∧ x.2.2 = (q : Int) ∧ T[a]? = some t ∧ T[q]? = some r ∧ st t x.2.1 = some r
 ed : ∀ (a b : Nat) (t : τ) (e : Int) (r : τ), (a < i ∨ (a = i ∧ b < j)) → T[a]? = some t → ev[b]? = some e → st t e = some r → ∃ q : Nat, ((a : Int), e, (q : Int)) ∈ E ∧ T[q]? = some r
 cov : ∀ k : Nat, 0 < k → k < T.length → ∃ x ∈ E, x.2.2 = (k : Int)
 ear : ∀ n (hn : n < E.length) (k : Int), 0 < k → k < E[n].2.2 → ∃ p, ∃ hp : p < E.length, p < n ∧ E[p].2.2 = k
 fst : ∀ n (hn : n < E.length), (∀ p (hp : p < E.length), p < n → E[p].2.2 ≠ E[n].2.2) → E[n].2.2 = 0 ∨ E[n].1 < E[n].2.2
section
variable {τ : Type} {st : τ → Int → Option τ} {ev : List Int} {i j : Nat} {T : List τ} {E : List (Int × Int × Int)}
theorem Fnd.skip (h : Fnd st ev i j T E) {t : τ} {e : Int} (ht : T[i]? = some t) (he : ev[j]? = some e) (hs : st t e = none) : Fnd st ev i (j + 1) T E := by
 refine ⟨h.sn, fun a b t' e' r hab ha hb hst => ?_, h.cov, h.ear, h.fst⟩
 by_cases hx : a = i ∧ b = j
 ·obtain ⟨rfl, rfl⟩ := hx
  rw [ht] at ha
  rw [he] at hb
  cases ha
  cases hb
  rw [hs] at hst
  cases hst
 ·exact h.ed a b t' e' r (by omega) ha hb hst
theorem Fnd.next (h : Fnd st ev i j T E) (hj : ev.length ≤ j) : Fnd st ev (i + 1) 0 T E :=
 ⟨h.sn, fun a b t e r hab ha hb hst => h.ed a b t e r (by have := (List.getElem?_eq_some_iff.1 hb).1; omega) ha hb hst, h.cov, h.ear, h.fst⟩
theorem Fnd.edge (h : Fnd st ev i j T E) {t r : τ} {e : Int} {q : Nat} (ht : T[i]? = some t) (he : ev[j]? = some e) (hs : st t e = some r) (hq : T[q]? = some r) : Fnd st ev i (j + 1) T (E ++ [((i : Int), e, (q : Int))]) := by
 have hql := (List.getElem?_eq_some_iff.1 hq).1
 refine ⟨fun x hx => ?_, fun a b t' e' r' hab ha hb hst => ?_, fun k h0 h1 => ?_, fun n hn k h0 h1 => ?_, fun n hn hf => ?_⟩
 ·rcases List.mem_append.1 hx with hx | hx
  ·exact h.sn x hx
  ·rw [List.mem_singleton.1 hx]
   exact ⟨i, q, t, r, rfl, rfl, ht, hq, hs⟩
 ·by_cases hx : a = i ∧ b = j
  ·obtain ⟨rfl, rfl⟩ := hx
   rw [ht] at ha
   rw [he] at hb
   cases ha
   cases hb
   rw [hs] at hst
   cases hst
   exact ⟨q, List.mem_append_right _ (List.mem_singleton.2 rfl), hq⟩
  ·obtain ⟨q', g1, g2⟩ := h.ed a b t' e' r' (by omega) ha hb hst
   exact ⟨q', List.mem_append_left _ g1, g2⟩
 ·obtain ⟨x, hx, h2⟩ := h.cov k h0 h1
  exact ⟨x, List.mem_append_left _ hx, h2⟩
 ·rcases get_snoc hn with ⟨hn2, e2⟩ | ⟨hn2, e2⟩
  ·rw [e2] at h1
   obtain ⟨p, hp, h3, h4⟩ := h.ear n hn2 k h0 h1
   exact ⟨p, by simp; omega, h3, by rw [List.getElem_append_left hp]; exact h4⟩
  ·rw [e2] at h1
   dsimp only at h1
   obtain ⟨x, hx, h3⟩ := h.cov k.toNat (by omega) (by omega)
   obtain ⟨p, hp, rfl⟩ := List.getElem_of_mem hx
   exact ⟨p, by simp; omega, by omega, by rw [List.getElem_append_left hp, h3]; omega⟩
 ·rcases get_snoc hn with ⟨hn2, e2⟩ | ⟨hn2, e2⟩
  ·rw [e2]
   refine h.fst n hn2 fun p hp hpn => ?_
   have := hf p (by simp; omega) hpn
   rwa [List.getElem_append_left hp, e2] at this
  ·rw [e2]
   dsimp only
   by_cases hz : q = 0
   ·left; omega
   ·exfalso
    obtain ⟨x, hx, h3⟩ := h.cov q (by omega) hql
    obtain ⟨p, hp, rfl⟩ := List.getElem_of_mem hx
    have := hf p (by simp; omega) (by omega)
    rw [List.getElem_append_left hp, e2, h3] at this
    exact this rfl
theorem Fnd.new (h : Fnd st ev i j T E) {t r : τ} {e : Int} (hi : i < T.length) (ht : T[i]? = some t) (he : ev[j]? = some e) (hs : st t e = some r) : Fnd st ev i (j + 1) (T ++ [r]) (E ++ [((i : Int), e, (T.length : Int))]) := by
 have hup : ∀ {a : Nat} {u : τ}, T[a]? = some u → (T ++ [r])[a]? = some u := fun {a u} hu => by rw [List.getElem?_append_left (List.getElem?_eq_some_iff.1 hu).1]; exact hu
 have hnew : (T ++ [r])[T.length]? = some r := by rw [List.getElem?_append_right (Nat.le_refl _)]; simp
 have hto : ∀ x ∈ E, 0 ≤ x.2.2 ∧ x.2.2 < (T.length : Int) := fun x hx => by
  obtain ⟨a, q, u, v, _, h2, _, h4, _⟩ := h.sn x hx
  have := (List.getElem?_eq_some_iff.1 h4).1
  omega
 refine ⟨fun x hx => ?_, fun a b t' e' r' hab ha hb hst => ?_, fun k h0 h1 => ?_, fun n hn k h0 h1 => ?_, fun n hn hf => ?_⟩
 ·rcases List.mem_append.1 hx with hx | hx
  ·obtain ⟨a, q, u, v, h1, h2, h3, h4, h5⟩ := h.sn x hx
   exact ⟨a, q, u, v, h1, h2, hup h3, hup h4, h5⟩
  ·rw [List.mem_singleton.1 hx]
   exact ⟨i, T.length, t, r, rfl, rfl, hup ht, hnew, hs⟩
 ·have hal : a < T.length := by omega
  rw [List.getElem?_append_left hal] at ha
  by_cases hx : a = i ∧ b = j
  ·obtain ⟨rfl, rfl⟩ := hx
   rw [ht] at ha
   rw [he] at hb
   cases ha
   cases hb
   rw [hs] at hst
   cases hst
   exact ⟨T.length, List.mem_append_right _ (List.mem_singleton.2 rfl), hnew⟩
  ·obtain ⟨q', g1, g2⟩ := h.ed a b t' e' r' (by omega) ha hb hst
   exact ⟨q', List.mem_append_left _ g1, hup g2⟩
 ·by_cases hk : k < T.length
  ·obtain ⟨x, hx, h2⟩ := h.cov k h0 hk
   exact ⟨x, List.mem_append_left _ hx, h2⟩
  ·have : k = T.length := by simp at h1; omega
   subst this
   exact ⟨_, List.mem_append_right _ (List.mem_singleton.2 rfl), rfl⟩
 ·rcases get_snoc hn with ⟨hn2, e2⟩ | ⟨hn2, e2⟩
  ·rw [e2] at h1
   obtain ⟨p, hp, h3, h4⟩ := h.ear n hn2 k h0 h1
   exact ⟨p, by simp; omega, h3, by rw [List.getElem_append_left hp]; exact h4⟩
  ·rw [e2] at h1
   dsimp only at h1
   obtain ⟨x, hx, h3⟩ := h.cov k.toNat (by omega) (by omega)
   obtain ⟨p, hp, rfl⟩ := List.getElem_of_mem hx
   exact ⟨p, by simp; omega, by omega, by rw [List.getElem_append_left hp, h3]; omega⟩
 ·rcases get_snoc hn with ⟨hn2, e2⟩ | ⟨hn2, e2⟩
  ·rw [e2]
   refine h.fst n hn2 fun p hp hpn => ?_
   have := hf p (by simp; omega) hpn
   rwa [List.getElem_append_left hp, e2] at this
  ·rw [e2]
   dsimp only
   right; omega
end
theorem Fnd.start {τ : Type} {st : τ → Int → Option τ} {ev : List Int} {T : List τ} (h : T.length ≤ 1) : Fnd st ev 0 0 T [] :=
 ⟨fun x hx => (by cases hx), fun a b t e r hab => by omega, fun k h0 h1 => by omega, fun n hn => by simp at hn, fun n hn => by simp at hn⟩
theorem Fnd.disc {τ : Type} {st : τ → Int → Option τ} {ev : List Int} {T : List τ} {E : List (Int × Int × Int)} (h : Fnd st ev T.length 0 T E) (nd : T.Nodup) (so : E.Pairwise fun x y => x.1 < y.1 ∨ (x.1 = y.1 ∧ x.2.1 < y.2.1)) (hal : ∀ x ∈ E, x.2.1 ∈ ev) (evr : ∀ e ∈ ev, 0 ≤ e ∧ e < 32) : Disc st ev T E := by
 refine ⟨nd, so, fun x hx => ?_, fun a t e r ha he hs => ?_, h.cov, h.ear, h.fst, evr⟩
 ·obtain ⟨a, q, t, r, h1, h2, h3, h4, h5⟩ := h.sn x hx
  exact ⟨a, q, t, r, h1, h2, h3, h4, hal x hx, h5⟩
 ·obtain ⟨b, hb, hbe⟩ := List.getElem_of_mem he
  exact h.ed a b t e r (.inl (List.getElem?_eq_some_iff.1 ha).1) ha (by rw [List.getElem?_eq_getElem hb, hbe]) hs
end Go.Proofs.YtidakgbibobbdaaGreatDoor

namespace Go.Proofs.YtidakgbibobbdaaGreatDoor
open Go Go.RowKit
theorem dig2_no {u : Nat} (hu : u < 100) : (32 : UInt8) ∉ dig2 u := by
 have h : ∀ v : Fin 100, (32 : UInt8) ∉ dig2 v.val := by decide +kernel
 exact h ⟨u, hu⟩
theorem dig2_inj {u v : Nat} (hu : u < 100) (hv : v < 100) (e : dig2 u = dig2 v) : u = v := by
 have h : ∀ v : Fin 100, ((dig2 v.val).foldl (fun acc d => 10 * acc + (d.toNat - 48)) 0) = v.val := by decide +kernel
 have h1 := h ⟨u, hu⟩
 have h2 := h ⟨v, hv⟩
 dsimp only at h1 h2
 rw [e] at h1
 omega
theorem split_at {α : Type} {c : α} : ∀ {l1 l2 r1 r2 : List α}, c ∉ l1 → c ∉ l2 → l1 ++ c :: r1 = l2 ++ c :: r2 → l1 = l2 ∧ r1 = r2
 | [], [], _, _, _, _, h => ⟨rfl, (List.cons.inj h).2⟩
 | [], b :: l2, _, _, _, h2, h => absurd (List.cons.inj h).1 (fun e => h2 (e ▸ List.mem_cons_self ..))
 | a :: l1, [], _, _, h1, _, h => absurd (List.cons.inj h).1 (fun e => h1 (e ▸ List.mem_cons_self ..))
 | a :: l1, b :: l2, _, _, h1, h2, h => by
  obtain ⟨e1, e2⟩ := List.cons.inj h
  obtain ⟨e3, e4⟩ := split_at (fun hm => h1 (List.mem_cons_of_mem _ hm)) (fun hm => h2 (List.mem_cons_of_mem _ hm)) e2
  exact ⟨by rw [e1, e3], e4⟩
theorem keyB_inj : ∀ {t u : List Int}, (∀ x ∈ t, 0 ≤ x ∧ x < 100) → (∀ x ∈ u, 0 ≤ x ∧ x < 100) → keyB t = keyB u → t = u
 | [], [], _, _, _ => rfl
 | [], y :: u, _, _, h => by simp [keyB] at h
 | x :: t, [], _, _, h => by simp [keyB] at h
 | x :: t, y :: u, ht, hu, h => by
  have h1 := ht x (List.mem_cons_self ..)
  have h2 := hu y (List.mem_cons_self ..)
  obtain ⟨e1, e2⟩ := split_at (dig2_no (by omega)) (dig2_no (by omega)) h
  have e3 := dig2_inj (u := x.toNat) (v := y.toNat) (by omega) (by omega) e1
  rw [show x = y by omega, keyB_inj (fun z hz => ht z (List.mem_cons_of_mem _ hz)) (fun z hz => hu z (List.mem_cons_of_mem _ hz)) e2]
theorem keyK_inj {t u : List Int} (ht : ∀ x ∈ t, 0 ≤ x ∧ x < 100) (hu : ∀ x ∈ u, 0 ≤ x ∧ x < 100) (h : keyK t = keyK u) : t = u := by
 refine keyB_inj ht hu ?_
 have := congrArg ByteArray.data h
 simpa [keyK] using this
theorem InT.hund {l : List AutT} {B : Nat} (h : LOkB B l) {t : List Int} (ht : InT l t) : ∀ x ∈ t, 0 ≤ x ∧ x < 100 := fun x hx => by
 have := ht.smallB h x hx
 have := h.b99
 omega
noncomputable def mst (m : List AutT × List Int × List (List ((Int × Int) × Int))) (t : List Int) (e : Int) : Option (List Int) := match m_product_machine_step m t e with
 | some (u, true) => some u
 | _ => none
theorem mst_step {l : List AutT} {B : Nat} (h : LOkB B l) {m : List AutT × List Int × List (List ((Int × Int) × Int))} (hm : MOk l m) {t : List Int} (ht : InT l t) (e : Int) : ∃ r, m_product_machine_step m t e = some r ∧ (r.2 = true → InT l r.1 ∧ mst m t e = some r.1) ∧ (r.2 = false → mst m t e = none) := by
 obtain ⟨⟨u, b⟩, h1, h2⟩ := step_exB h hm ht e
 refine ⟨(u, b), h1, fun hb => ⟨h2 hb, ?_⟩, fun hb => ?_⟩
 ·have hb : b = true := hb
  unfold mst; rw [h1, hb]
 ·have hb : b = false := hb
  unfold mst; rw [h1, hb]
structure SZ (m : List AutT × List Int × List (List ((Int × Int) × Int))) (i j : Nat) (kn : Kno) (T : List (List Int)) (E : List (Int × Int × Int)) : Prop where
 kv : ∀ e ∈ kn, ∃ (q : Nat) (t : List Int), e.2 = (q : Int) ∧ T[q]? = some t ∧ e.1 = keyK t
 sn : ∀ x ∈ E, ∃ (a q : Nat) (t r : List Int), x.1 = (a : Int) ∧ x.2.2 = (q : Int) ∧ T[a]? = some t ∧ T[q]? = some r ∧ mst m t x.2.1 = some r
 ed : ∀ (a b : Nat) (t : List Int) (e : Int) (r : List Int), (a < i ∨ (a = i ∧ b < j)) → T[a]? = some t → m.2.1[b]? = some e → mst m t e = some r → ∃ q : Nat, ((a : Int), e, (q : Int)) ∈ E ∧ T[q]? = some r
 cov : ∀ k : Nat, 0 < k → k < T.length → ∃ x ∈ E, x.2.2 = (k : Int)
 ear : ∀ n (hn : n < E.length) (k : Int), 0 < k → k < E[n].2.2 → ∃ p, ∃ hp : p < E.length, p < n ∧ E[p].2.2 = k
 fst : ∀ n (hn : n < E.length), (∀ p (hp : p < E.length), p < n → E[p].2.2 ≠ E[n].2.2) → E[n].2.2 = 0 ∨ E[n].1 < E[n].2.2
section
variable {m : List AutT × List Int × List (List ((Int × Int) × Int))} {i j : Nat} {kn : Kno} {T : List (List Int)} {E : List (Int × Int × Int)}
theorem SZ.skip (h : SZ m i j kn T E) {t : List Int} {e : Int} (ht : T[i]? = some t) (he : m.2.1[j]? = some e) (hs : mst m t e = none) : SZ m i (j + 1) kn T E := by
 refine ⟨h.kv, h.sn, fun a b t' e' r hab ha hb hst => ?_, h.cov, h.ear, h.fst⟩
 by_cases hx : a = i ∧ b = j
 ·obtain ⟨rfl, rfl⟩ := hx
  rw [ht] at ha
  rw [he] at hb
  cases ha
  cases hb
  rw [hs] at hst
  cases hst
 ·exact h.ed a b t' e' r (by omega) ha hb hst
theorem SZ.next (h : SZ m i j kn T E) (hj : m.2.1.length ≤ j) : SZ m (i + 1) 0 kn T E :=
 ⟨h.kv, h.sn, fun a b t e r hab ha hb hst => h.ed a b t e r (by have := (List.getElem?_eq_some_iff.1 hb).1; omega) ha hb hst, h.cov, h.ear, h.fst⟩
theorem SZ.edge (h : SZ m i j kn T E) {t r : List Int} {e : Int} {q : Nat} (ht : T[i]? = some t) (he : m.2.1[j]? = some e) (hs : mst m t e = some r) (hq : T[q]? = some r) : SZ m i (j + 1) kn T (E ++ [((i : Int), e, (q : Int))]) := by
 have hql := (List.getElem?_eq_some_iff.1 hq).1
 refine ⟨h.kv, fun x hx => ?_, fun a b t' e' r' hab ha hb hst => ?_, fun k h0 h1 => ?_, fun n hn k h0 h1 => ?_, fun n hn hf => ?_⟩
 ·rcases List.mem_append.1 hx with hx | hx
  ·exact h.sn x hx
  ·rw [List.mem_singleton.1 hx]
   exact ⟨i, q, t, r, rfl, rfl, ht, hq, hs⟩
 ·by_cases hx : a = i ∧ b = j
  ·obtain ⟨rfl, rfl⟩ := hx
   rw [ht] at ha
   rw [he] at hb
   cases ha
   cases hb
   rw [hs] at hst
   cases hst
   exact ⟨q, List.mem_append_right _ (List.mem_singleton.2 rfl), hq⟩
  ·obtain ⟨q', g1, g2⟩ := h.ed a b t' e' r' (by omega) ha hb hst
   exact ⟨q', List.mem_append_left _ g1, g2⟩
 ·obtain ⟨x, hx, h2⟩ := h.cov k h0 h1
  exact ⟨x, List.mem_append_left _ hx, h2⟩
 ·rcases get_snoc hn with ⟨hn2, e2⟩ | ⟨hn2, e2⟩
  ·rw [e2] at h1
   obtain ⟨p, hp, h3, h4⟩ := h.ear n hn2 k h0 h1
   exact ⟨p, by simp; omega, h3, by rw [List.getElem_append_left hp]; exact h4⟩
  ·rw [e2] at h1
   dsimp only at h1
   obtain ⟨x, hx, h3⟩ := h.cov k.toNat (by omega) (by omega)
   obtain ⟨p, hp, rfl⟩ := List.getElem_of_mem hx
   exact ⟨p, by simp; omega, by omega, by rw [List.getElem_append_left hp, h3]; omega⟩
 ·rcases get_snoc hn with ⟨hn2, e2⟩ | ⟨hn2, e2⟩
  ·rw [e2]
   refine h.fst n hn2 fun p hp hpn => ?_
   have := hf p (by simp; omega) hpn
   rwa [List.getElem_append_left hp, e2] at this
  ·rw [e2]
   dsimp only
   by_cases hz : q = 0
   ·left; omega
   ·exfalso
    obtain ⟨x, hx, h3⟩ := h.cov q (by omega) hql
    obtain ⟨p, hp, rfl⟩ := List.getElem_of_mem hx
    have := hf p (by simp; omega) (by omega)
    rw [List.getElem_append_left hp, e2, h3] at this
    exact this rfl
theorem SZ.new (h : SZ m i j kn T E) {t r : List Int} {e : Int} (hi : i < T.length) (ht : T[i]? = some t) (he : m.2.1[j]? = some e) (hs : mst m t e = some r) : SZ m i (j + 1) (kput kn (keyK r) (T.length : Int)) (T ++ [r]) (E ++ [((i : Int), e, (T.length : Int))]) := by
 have hup : ∀ {a : Nat} {u : List Int}, T[a]? = some u → (T ++ [r])[a]? = some u := fun {a u} hu => by rw [List.getElem?_append_left (List.getElem?_eq_some_iff.1 hu).1]; exact hu
 have hnew : (T ++ [r])[T.length]? = some r := by rw [List.getElem?_append_right (Nat.le_refl _)]; simp
 have hto : ∀ x ∈ E, 0 ≤ x.2.2 ∧ x.2.2 < (T.length : Int) := fun x hx => by
  obtain ⟨a, q, u, v, _, h2, _, h4, _⟩ := h.sn x hx
  have := (List.getElem?_eq_some_iff.1 h4).1
  omega
 refine ⟨fun x hx => ?_, fun x hx => ?_, fun a b t' e' r' hab ha hb hst => ?_, fun k h0 h1 => ?_, fun n hn k h0 h1 => ?_, fun n hn hf => ?_⟩
 ·rcases kput_mem hx with hx | hx
  ·obtain ⟨q, u, h1, h2, h3⟩ := h.kv x hx
   exact ⟨q, u, h1, hup h2, h3⟩
  ·rw [hx]
   exact ⟨T.length, r, rfl, hnew, rfl⟩
 ·rcases List.mem_append.1 hx with hx | hx
  ·obtain ⟨a, q, u, v, h1, h2, h3, h4, h5⟩ := h.sn x hx
   exact ⟨a, q, u, v, h1, h2, hup h3, hup h4, h5⟩
  ·rw [List.mem_singleton.1 hx]
   exact ⟨i, T.length, t, r, rfl, rfl, hup ht, hnew, hs⟩
 ·have hal : a < T.length := by omega
  rw [List.getElem?_append_left hal] at ha
  by_cases hx : a = i ∧ b = j
  ·obtain ⟨rfl, rfl⟩ := hx
   rw [ht] at ha
   rw [he] at hb
   cases ha
   cases hb
   rw [hs] at hst
   cases hst
   exact ⟨T.length, List.mem_append_right _ (List.mem_singleton.2 rfl), hnew⟩
  ·obtain ⟨q', g1, g2⟩ := h.ed a b t' e' r' (by omega) ha hb hst
   exact ⟨q', List.mem_append_left _ g1, hup g2⟩
 ·by_cases hk : k < T.length
  ·obtain ⟨x, hx, h2⟩ := h.cov k h0 hk
   exact ⟨x, List.mem_append_left _ hx, h2⟩
  ·have : k = T.length := by simp at h1; omega
   subst this
   exact ⟨_, List.mem_append_right _ (List.mem_singleton.2 rfl), rfl⟩
 ·rcases get_snoc hn with ⟨hn2, e2⟩ | ⟨hn2, e2⟩
  ·rw [e2] at h1
   obtain ⟨p, hp, h3, h4⟩ := h.ear n hn2 k h0 h1
   exact ⟨p, by simp; omega, h3, by rw [List.getElem_append_left hp]; exact h4⟩
  ·rw [e2] at h1
   dsimp only at h1
   obtain ⟨x, hx, h3⟩ := h.cov k.toNat (by omega) (by omega)
   obtain ⟨p, hp, rfl⟩ := List.getElem_of_mem hx
   exact ⟨p, by simp; omega, by omega, by rw [List.getElem_append_left hp, h3]; omega⟩
 ·rcases get_snoc hn with ⟨hn2, e2⟩ | ⟨hn2, e2⟩
  ·rw [e2]
   refine h.fst n hn2 fun p hp hpn => ?_
   have := hf p (by simp; omega) hpn
   rwa [List.getElem_append_left hp, e2] at this
  ·rw [e2]
   dsimp only
   right; omega
end
theorem sz_inner {l : List AutT} {B : Nat} (h : LOkB B l) {m : List AutT × List Int × List (List ((Int × Int) × Int))} (hm : MOk l m) {i : Nat} {kn : Kno} {T : List (List Int)} {E : List (Int × Int × Int)} (z : Kno × List (List Int) × List Int × List (Int × Int × Int)) (hS : SI l m.2.1 i 0 kn T E) (hZ : SZ m i 0 kn T E) (hi : i < T.length) :
  ∃ kn' T' E', iter (m_product_Synchronous_l2 m ((i : Int), z)) (0, kn, T, E) = some (.inl (kn', T', E')) ∧ SI l m.2.1 (i + 1) 0 kn' T' E' ∧ SZ m (i + 1) 0 kn' T' E' ∧ i < T'.length ∧ ∃ U, T' = T ++ U := by
 have hal := hm.ev.len
 obtain ⟨o, h1, h2⟩ := iter_inv (f := m_product_Synchronous_l2 m ((i : Int), z)) (fun j s => s.1 = (j : Int) ∧ j ≤ m.2.1.length ∧ SI l m.2.1 i j s.2.1 s.2.2.1 s.2.2.2 ∧ SZ m i j s.2.1 s.2.2.1 s.2.2.2 ∧ i < s.2.2.1.length ∧ ∃ U, s.2.2.1 = T ++ U) (fun o => ∃ kn' T' E', o = .inl (kn', T', E') ∧ SI l m.2.1 (i + 1) 0 kn' T' E' ∧ SZ m (i + 1) 0 kn' T' E' ∧ i < T'.length ∧ ∃ U, T' = T ++ U) m.2.1.length 0 (by omega) (fun j s hj ⟨e1, _, hS, hZ, hi, U, hU⟩ => by
   obtain ⟨k, kn, T1, E⟩ := s
   dsimp only at e1 hS hZ hi hU
   subst e1
   have hTl := tuples_lenB h hS.nd hS.inT
   have hj2 : ∀ a b c, m_product_Synchronous_j2 ((j : Int), kn, T1, E) a b c = some (.inl (((j + 1 : Nat) : Int), a, b, c)) := fun a b c => by
    rw [m_product_Synchronous_j2]; dsimp only; rw [nxt (by omega)]
   have hj3 : ∀ x b n c, m_product_Synchronous_j3 ((i : Int), z) ((j : Int), kn, T1, E) x b n c = some (.inl (((j + 1 : Nat) : Int), c, b, E ++ [((i : Int), x, n)])) := fun x b n c => by
    have he := hS.el
    have hi' : i < 4000 := by omega
    rw [m_product_Synchronous_j3]; dsimp only; rw [app_eq (by simp; omega), Option.bind_some, hj2]
   have hin := hS.inT _ (List.getElem_mem hi)
   obtain ⟨r, hr, hrT, hrF⟩ := mst_step h hm hin m.2.1[j]
   have hti : T1[i]? = some T1[i] := List.getElem?_eq_getElem hi
   have hej : m.2.1[j]? = some m.2.1[j] := List.getElem?_eq_getElem hj
   left
   rw [m_product_Synchronous_l2]
   dsimp only
   rw [if_pos (ct_lt hj), idx_at hj, Option.bind_some, idx_at hi, Option.bind_some, hr, Option.bind_some]
   cases hb : r.2 with
   | false =>
    rw [if_pos (by simp), hj2]
    exact ⟨_, rfl, rfl, by omega, hS.skip, hZ.skip hti hej (hrF hb), hi, U, hU⟩
   | true =>
    obtain ⟨ht, hms⟩ := hrT hb
    rw [if_neg (by simp), key_eqB h ht, Option.bind_some]
    cases hg : kget kn (keyK r.1) with
    | none =>
     rw [if_pos (by simp), if_neg (by simp; omega), Option.bind_some, app_eq (by simp; omega), Option.bind_some, hj3]
     exact ⟨_, rfl, rfl, by omega, hS.new hm.ev.1 hi hj ht (by rw [hg]; rfl), hZ.new hi hti hej hms, by simp; omega, U ++ [r.1], by rw [hU, List.append_assoc]⟩
    | some v =>
     obtain ⟨x, hx, hxv, hxk⟩ := kget_mem2 hg
     obtain ⟨q, u, g1, g2, g3⟩ := hZ.kv x hx
     have hk : keyK r.1 = keyK u := (eqS hxk).trans g3
     have hu : u ∈ T1 := List.mem_of_getElem? g2
     have he : r.1 = u := keyK_inj (ht.hund h) ((hS.inT u hu).hund h) hk
     rw [← he] at g2
     have hql := (List.getElem?_eq_some_iff.1 g2).1
     have hvq : v = (q : Int) := by rw [← hxv]; exact g1
     rw [if_neg (by simp), hj3, hvq]
     exact ⟨_, rfl, rfl, by omega, hS.edge (q := (q : Int)) hm.ev.1 hi hj (by omega) (by omega), hZ.edge (q := q) hti hej hms g2, hi, U, hU⟩) (fun s ⟨e1, _, hS, hZ, hi, U, hU⟩ => by
   obtain ⟨k, kn, T1, E⟩ := s
   dsimp only at e1 hS hZ hi hU
   subst e1
   refine ⟨.inl (kn, T1, E), ?_, kn, T1, E, rfl, hS.next hal, hZ.next (Nat.le_refl _), hi, U, hU⟩
   rw [m_product_Synchronous_l2]
   dsimp only
   rw [if_neg ct_ge]) (Nat.zero_le _) (0, kn, T, E) ⟨rfl, Nat.zero_le _, hS, hZ, hi, [], by simp⟩
 obtain ⟨kn', T', E', rfl, h3, h4, h5, h6⟩ := h2
 exact ⟨kn', T', E', h1, h3, h4, h5, h6⟩
structure PrdZ (l : List AutT) (m : List AutT × List Int × List (List ((Int × Int) × Int))) (p : AutT) (T : List (List Int)) (n : Nat) : Prop where
 right : Right p n
 pos : 1 ≤ n
 le : n ≤ 4000
 tl : T.length = n
 nd : T.Nodup
 inT : ∀ t ∈ T, InT l t
 t0 : ∃ t, T[0]? = some t ∧ m_product_machine_initial m = some (t, true)
 ev : p.1 = m.2.1
 sn : ∀ x ∈ p.2.2.2, ∃ (a q : Nat) (t r : List Int), x.1 = (a : Int) ∧ x.2.2 = (q : Int) ∧ T[a]? = some t ∧ T[q]? = some r ∧ mst m t x.2.1 = some r
 ed : ∀ (a : Nat) (t : List Int) (e : Int) (r : List Int), T[a]? = some t → e ∈ p.1 → mst m t e = some r → ∃ q : Nat, ((a : Int), e, (q : Int)) ∈ p.2.2.2 ∧ T[q]? = some r
 num : Num (edsOf p) n
 mkd : ∀ (a : Nat) (t : List Int), T[a]? = some t → ∃ b, m_product_machine_marked m t = some b ∧ (b = true ↔ (a : Int) ∈ p.2.2.1)
theorem syncz_ex {l : List AutT} {B : Nat} (h : LOkB B l) : ∃ m p T n, m_product_open l = some m ∧ MOk l m ∧ m_product_Synchronous l = some (p, T, 0) ∧ PrdZ l m p T n := by
 obtain ⟨m, hm, hM⟩ := open_exB h
 obtain ⟨t0, ht0, hT0⟩ := initial_eqB h hM
 have hal := hM.ev.len
 have hS0 : SI l m.2.1 0 0 (kput ([] : Kno) (keyK t0) 0) [t0] [] := by
  refine ⟨by simp, by simp, fun t ht => ?_, fun t ht => ?_, fun e he => ?_, fun x hx => (by cases hx), fun x hx => (by cases hx), List.Pairwise.nil, by simp, fun k h0 h1 => ?_⟩
  ·rw [List.mem_singleton.1 ht]; exact hT0
  ·rw [List.mem_singleton.1 ht]; exact kput_self
  ·rcases kput_mem he with he | he
   ·cases he
   ·rw [he]; simp
  ·simp at h1; omega
 have hZ0 : SZ m 0 0 (kput ([] : Kno) (keyK t0) 0) [t0] [] := by
  refine ⟨fun e he => ?_, fun x hx => (by cases hx), fun a b t e r hab => by omega, fun k h0 h1 => by simp at h1; omega, fun n hn => by simp at hn, fun n hn => by simp at hn⟩
  rcases kput_mem he with he | he
  ·cases he
  ·rw [he]
   exact ⟨0, t0, rfl, rfl, rfl⟩
 obtain ⟨o, h1, h2⟩ := iter_inv (f := m_product_Synchronous_l1 m) (fun i s => s.1 = (i : Int) ∧ i ≤ s.2.2.1.length ∧ SI l m.2.1 i 0 s.2.1 s.2.2.1 s.2.2.2.2 ∧ SZ m i 0 s.2.1 s.2.2.1 s.2.2.2.2 ∧ Inc s.2.2.2.1 ∧ (∀ x ∈ s.2.2.2.1, 0 ≤ x ∧ x < (i : Int)) ∧ s.2.2.1[0]? = some t0 ∧ ∀ (a : Nat) (t : List Int), a < i → s.2.2.1[a]? = some t → ∃ b, m_product_machine_marked m t = some b ∧ (b = true ↔ (a : Int) ∈ s.2.2.2.1)) (fun o => ∃ T M E, o = .inl (T, M, E) ∧ ∃ kn, SI l m.2.1 T.length 0 kn T E ∧ SZ m T.length 0 kn T E ∧ Inc M ∧ (∀ x ∈ M, 0 ≤ x ∧ x < (T.length : Int)) ∧ T[0]? = some t0 ∧ ∀ (a : Nat) (t : List Int), T[a]? = some t → ∃ b, m_product_machine_marked m t = some b ∧ (b = true ↔ (a : Int) ∈ M)) 4000 0 (by omega) (fun i s _ ⟨e1, hle, hS, hZ, hi1, hi2, ht, hmk⟩ => by
   obtain ⟨k, kn, T, M, E⟩ := s
   dsimp only at e1 hle hS hZ hi1 hi2 ht hmk
   subst e1
   have hTl := tuples_lenB h hS.nd hS.inT
   by_cases hi : i < T.length
   ·left
    obtain ⟨b, hb⟩ := marked_exB h hM (hS.inT _ (List.getElem_mem hi))
    obtain ⟨kn', T', E', g1, g2, g3, g4, U, hU⟩ := sz_inner h hM (kn, T, M, E) hS hZ hi
    have hj : ∀ M', m_product_Synchronous_j1 m ((i : Int), kn, T, M, E) M' = some (.inl (((i + 1 : Nat) : Int), kn', T', M', E')) := fun M' => by
     rw [m_product_Synchronous_j1]; dsimp only; rw [g1, Option.bind_some]; dsimp only; rw [nxt (by omega)]
    have hTT : ∀ a, a < T.length → T'[a]? = T[a]? := fun a ha => by rw [hU, List.getElem?_append_left ha]
    have ht' : T'[0]? = some t0 := by rw [hTT 0 (by omega)]; exact ht
    have hmk' : ∀ M' : List Int, (∀ x : Int, x ≠ (i : Int) → (x ∈ M' ↔ x ∈ M)) → (b = true ↔ (i : Int) ∈ M') → ∀ (a : Nat) (t : List Int), a < i + 1 → T'[a]? = some t → ∃ b, m_product_machine_marked m t = some b ∧ (b = true ↔ (a : Int) ∈ M') := fun M' hM1 hM2 a t ha hat => by
     rw [hTT a (by omega)] at hat
     by_cases e : a = i
     ·subst e
      rw [List.getElem?_eq_getElem hi] at hat
      cases hat
      exact ⟨b, hb, hM2⟩
     ·obtain ⟨b', q1, q2⟩ := hmk a t (by omega) hat
      exact ⟨b', q1, by rw [q2, hM1 _ (by omega)]⟩
    rw [m_product_Synchronous_l1]
    dsimp only
    rw [if_pos (ct_lt hi), idx_at hi, Option.bind_some, hb, Option.bind_some]
    cases hbv : b with
    | false =>
     rw [if_neg (by simp), hj]
     exact ⟨_, rfl, rfl, by dsimp only; omega, g2, g3, hi1, fun x hx => by have := hi2 x hx; omega, ht', hmk' M (fun x _ => Iff.rfl) ⟨fun e => (by rw [hbv] at e; cases e), fun hx => by have := hi2 _ hx; omega⟩⟩
    | true =>
     have hMl := inc_len (n := i) (lo := 0) hi1 hi2 (Int.le_refl _)
     rw [if_pos rfl, app_eq (by simp; omega), Option.bind_some, hj]
     refine ⟨_, rfl, rfl, by dsimp only; omega, g2, g3, ?_, fun x hx => ?_, ht', hmk' (M ++ [(i : Int)]) (fun x hx => ?_) ⟨fun _ => List.mem_append_right _ (List.mem_singleton.2 rfl), fun _ => hbv⟩⟩
     ·dsimp only
      unfold Inc at hi1 ⊢
      rw [List.pairwise_append]
      exact ⟨hi1, List.pairwise_singleton _ _, fun a ha b hb => by rw [List.mem_singleton.1 hb]; exact (hi2 a ha).2⟩
     ·dsimp only at hx
      rcases List.mem_append.1 hx with hx | hx
      ·have := hi2 x hx; omega
      ·rw [List.mem_singleton.1 hx]; omega
     ·rw [List.mem_append, List.mem_singleton]
      exact ⟨fun h => h.resolve_right hx, .inl⟩
   ·right
    obtain rfl : i = T.length := by omega
    refine ⟨.inl (T, M, E), ?_, T, M, E, rfl, kn, hS, hZ, hi1, hi2, ht, fun a t hat => hmk a t (List.getElem?_eq_some_iff.1 hat).1 hat⟩
    rw [m_product_Synchronous_l1]
    dsimp only
    rw [if_neg ct_ge]) (fun s ⟨e1, hle, hS, hZ, hi1, hi2, ht, hmk⟩ => by
   obtain ⟨k, kn, T, M, E⟩ := s
   dsimp only at e1 hle hS hZ hi1 hi2 ht hmk
   subst e1
   have hTl := tuples_lenB h hS.nd hS.inT
   have hT : 4000 = T.length := by omega
   refine ⟨.inl (T, M, E), ?_, T, M, E, rfl, kn, by rw [← hT]; exact hS, by rw [← hT]; exact hZ, hi1, by rw [← hT]; exact hi2, ht, fun a t hat => hmk a t (by have := (List.getElem?_eq_some_iff.1 hat).1; omega) hat⟩
   rw [m_product_Synchronous_l1]
   dsimp only
   rw [hT, if_neg ct_ge]) (Nat.zero_le _) (0, kput ([] : Kno) (keyK t0) 0, [t0], [], []) ⟨rfl, by simp, hS0, hZ0, List.Pairwise.nil, fun x hx => (by cases hx), rfl, fun a t ha => by omega⟩
 obtain ⟨T, M, E, rfl, kn, hS, hZ, hi1, hi2, ht, hmk⟩ := h2
 have hTl := tuples_lenB h hS.nd hS.inT
 have hR : Right (m.2.1, (T.length : Int), M, E) T.length := by
  refine ⟨rfl, by omega, hM.ev.1, hM.ev.2, hi1, hi2, fun x hx => ?_, hS.so, by dsimp only; omega, ?_, ?_⟩
  ·have := hS.er x hx
   have h3 := hS.es x hx
   refine ⟨this.1, ?_, this.2.2⟩
   rcases Int.lt_or_le x.1 (T.length : Int) with h4 | h4
   ·exact h4
   ·exact absurd (h3 (by omega)) (by simp)
  ·have := inc_len (n := T.length) (lo := 0) hi1 hi2 (Int.le_refl _)
   dsimp only
   omega
  ·have := hS.el
   dsimp only
   omega
 have hel : (edsOf (m.2.1, (T.length : Int), M, E)).length = E.length := List.length_map _
 have hee : ∀ n (hn : n < (edsOf (m.2.1, (T.length : Int), M, E)).length) (hn' : n < E.length), (edsOf (m.2.1, (T.length : Int), M, E))[n] = toEd E[n] := fun n hn hn' => by simp [edsOf]
 refine ⟨m, (m.2.1, (T.length : Int), M, E), T, T.length, hm, hM, ?_, hR, hS.pos, hTl, rfl, hS.nd, hS.inT, ⟨t0, ht, ht0⟩, rfl, hZ.sn, fun a t e r ha he hst => ?_, ⟨?_, fun x hx => ?_, fun k h0 h1 => ?_, fun n hn k h0 h1 => ?_, fun n hn hf => ?_⟩, hmk⟩
 ·rw [m_product_Synchronous, pcheck_eqB h, Option.bind_some, if_neg (by simp), hm, Option.bind_some, ht0, Option.bind_some, if_neg (by simp)]
  dsimp only
  rw [key_eqB h hT0, Option.bind_some, h1]
  rfl
 ·obtain ⟨b, hb, hbe⟩ := List.getElem_of_mem he
  exact hZ.ed a b t e r (.inl (List.getElem?_eq_some_iff.1 ha).1) ha (by rw [List.getElem?_eq_getElem hb, hbe]) hst
 ·have := hR.sorted
  exact this
 ·have h3 := hR.ein x hx
  have h4 := hR.evs x hx
  exact ⟨h3.1, h3.2.1, h3.2.2.1, h3.2.2.2, h4.1, h4.2⟩
 ·obtain ⟨x, hx, h3⟩ := hZ.cov k h0 h1
  exact ⟨toEd x, List.mem_map_of_mem hx, h3⟩
 ·have hn' : n < E.length := by omega
  rw [hee n hn hn'] at h1
  obtain ⟨p, hp, h3, h4⟩ := hZ.ear n hn' k h0 h1
  exact ⟨p, by omega, h3, by rw [hee p (by omega) hp]; exact h4⟩
 ·have hn' : n < E.length := by omega
  rw [hee n hn hn']
  refine hZ.fst n hn' fun p hp hpn => ?_
  have := hf p (by omega) hpn
  rw [hee p (by omega) hp, hee n hn hn'] at this
  exact this
end Go.Proofs.YtidakgbibobbdaaGreatDoor

namespace Go.Proofs.YtidakgbibobbdaaGreatDoor
open Go Go.RowKit
def mg (kp : Bool → Bool → Bool) : List Int → List Int → List Int
 | [], [] => []
 | [], b :: vs => if kp false true = true then b :: mg kp [] vs else mg kp [] vs
 | a :: us, [] => if kp true false = true then a :: mg kp us [] else mg kp us []
 | a :: us, b :: vs => if a < b then (if kp true false = true then a :: mg kp us (b :: vs) else mg kp us (b :: vs)) else if b < a then (if kp false true = true then b :: mg kp (a :: us) vs else mg kp (a :: us) vs) else (if kp true true = true then b :: mg kp us vs else mg kp us vs)
termination_by us vs => us.length + vs.length
theorem mg_head {kp : Bool → Bool → Bool} {h : Int} {us vs us' vs' r : List Int} {bu bv : Bool} (hr : Inc r ∧ ∀ x, x ∈ r ↔ ((x ∈ us' ∨ x ∈ vs') ∧ kp (hasB us' x) (hasB vs' x) = true))
  (hu : ∀ x, x ∈ us ↔ (x = h ∧ bu = true) ∨ x ∈ us') (hv : ∀ x, x ∈ vs ↔ (x = h ∧ bv = true) ∨ x ∈ vs') (gu : ∀ x ∈ us', h < x) (gv : ∀ x ∈ vs', h < x) (hb : bu = true ∨ bv = true) :
  Inc (if kp bu bv = true then h :: r else r) ∧ ∀ x, x ∈ (if kp bu bv = true then h :: r else r) ↔ ((x ∈ us ∨ x ∈ vs) ∧ kp (hasB us x) (hasB vs x) = true) := by
 have e1 : hasB us h = bu := by
  rw [Bool.eq_iff_iff, hasB_true, hu]
  exact ⟨fun e => e.elim (fun e => e.2) (fun e => by have := gu _ e; omega), fun e => .inl ⟨rfl, e⟩⟩
 have e2 : hasB vs h = bv := by
  rw [Bool.eq_iff_iff, hasB_true, hv]
  exact ⟨fun e => e.elim (fun e => e.2) (fun e => by have := gv _ e; omega), fun e => .inl ⟨rfl, e⟩⟩
 have e3 : ∀ x, x ≠ h → hasB us x = hasB us' x := fun x hx => by
  rw [Bool.eq_iff_iff, hasB_true, hasB_true, hu]
  exact ⟨fun e => e.elim (fun e => absurd e.1 hx) id, .inr⟩
 have e4 : ∀ x, x ≠ h → hasB vs x = hasB vs' x := fun x hx => by
  rw [Bool.eq_iff_iff, hasB_true, hasB_true, hv]
  exact ⟨fun e => e.elim (fun e => absurd e.1 hx) id, .inr⟩
 have hgt : ∀ x ∈ r, h < x := fun x hx => ((hr.2 x).1 hx).1.elim (gu x) (gv x)
 have hne : ∀ x, x ≠ h → (x ∈ r ↔ ((x ∈ us ∨ x ∈ vs) ∧ kp (hasB us x) (hasB vs x) = true)) := fun x hx => by
  rw [hr.2 x, e3 x hx, e4 x hx, hu, hv]
  constructor
  ·rintro ⟨h1 | h1, h2⟩
   ·exact ⟨.inl (.inr h1), h2⟩
   ·exact ⟨.inr (.inr h1), h2⟩
  ·rintro ⟨(h1 | h1) | (h1 | h1), h2⟩
   ·exact absurd h1.1 hx
   ·exact ⟨.inl h1, h2⟩
   ·exact absurd h1.1 hx
   ·exact ⟨.inr h1, h2⟩
 have hh : (h ∈ us ∨ h ∈ vs) := hb.elim (fun e => .inl ((hu h).2 (.inl ⟨rfl, e⟩))) (fun e => .inr ((hv h).2 (.inl ⟨rfl, e⟩)))
 cases hk : kp bu bv with
 | true =>
  rw [if_pos rfl]
  refine ⟨List.pairwise_cons.2 ⟨hgt, hr.1⟩, fun x => ?_⟩
  rw [List.mem_cons]
  by_cases hx : x = h
  ·subst hx
   exact ⟨fun _ => ⟨hh, by rw [e1, e2, hk]⟩, fun _ => .inl rfl⟩
  ·rw [← hne x hx]
   exact ⟨fun e => e.resolve_left hx, .inr⟩
 | false =>
  rw [if_neg (by simp)]
  refine ⟨hr.1, fun x => ?_⟩
  by_cases hx : x = h
  ·subst hx
   refine ⟨fun e => absurd (hgt x e) (by omega), fun e => ?_⟩
   rw [e1, e2, hk] at e
   cases e.2
  ·exact hne x hx
theorem mg_spec (kp : Bool → Bool → Bool) : ∀ (us vs : List Int), Inc us → Inc vs → Inc (mg kp us vs) ∧ ∀ x, x ∈ mg kp us vs ↔ ((x ∈ us ∨ x ∈ vs) ∧ kp (hasB us x) (hasB vs x) = true)
 | [], [], _, _ => by
  rw [mg]
  exact ⟨List.Pairwise.nil, fun x => ⟨fun h => (by cases h), fun h => (by rcases h.1 with h | h <;> cases h)⟩⟩
 | [], b :: vs, _, hv => by
  obtain ⟨v1, v2⟩ := List.pairwise_cons.1 hv
  rw [mg]
  exact mg_head (bu := false) (bv := true) (mg_spec kp [] vs List.Pairwise.nil v2) (fun x => by simp) (fun x => by simp) (fun x hx => by cases hx) v1 (.inr rfl)
 | a :: us, [], hu, _ => by
  obtain ⟨u1, u2⟩ := List.pairwise_cons.1 hu
  rw [mg]
  exact mg_head (bu := true) (bv := false) (mg_spec kp us [] u2 List.Pairwise.nil) (fun x => by simp) (fun x => by simp) u1 (fun x hx => by cases hx) (.inl rfl)
 | a :: us, b :: vs, hu, hv => by
  obtain ⟨u1, u2⟩ := List.pairwise_cons.1 hu
  obtain ⟨v1, v2⟩ := List.pairwise_cons.1 hv
  rw [mg]
  by_cases h1 : a < b
  ·rw [if_pos h1]
   refine mg_head (bu := true) (bv := false) (mg_spec kp us (b :: vs) u2 hv) (fun x => by simp) (fun x => by simp) u1 (fun x hx => ?_) (.inl rfl)
   rcases List.mem_cons.1 hx with rfl | hx
   ·exact h1
   ·have := v1 x hx; omega
  ·rw [if_neg h1]
   by_cases h2 : b < a
   ·rw [if_pos h2]
    refine mg_head (bu := false) (bv := true) (mg_spec kp (a :: us) vs hu v2) (fun x => by simp) (fun x => by simp) (fun x hx => ?_) v1 (.inr rfl)
    rcases List.mem_cons.1 hx with rfl | hx
    ·exact h2
    ·have := u1 x hx; omega
   ·obtain rfl : a = b := by omega
    rw [if_neg h2]
    exact mg_head (bu := true) (bv := true) (mg_spec kp us vs u2 v2) (fun x => by simp) (fun x => by simp) u1 v1 (.inl rfl)
termination_by us vs => us.length + vs.length
theorem merge_step {kp : Bool → Bool → Bool} {f : Bool → Bool → Option Bool} (hf : ∀ a b, f a b = some (kp a b)) {out us vs : List Int} (hl : out.length ≤ 4000000) (hne : 0 < us.length + vs.length) :
  ∃ o u v, m_alphabet_merge_l1 f (out, us, vs) = some (.inl (o, u, v)) ∧ o ++ mg kp u v = out ++ mg kp us vs ∧ o.length ≤ out.length + 1 ∧ u.length + v.length + 1 ≤ us.length + vs.length := by
 have ho : ∀ a : Int, app out ([a] : List Int) = some (out ++ [a]) := fun a => app_eq (by simp; omega)
 have fin : ∀ (bu bv : Bool) (h : Int) (u v : List Int), ∃ o, m_alphabet_merge_j4 f (out, us, vs) bu bv u v h = some (.inl (o, u, v)) ∧ o ++ mg kp u v = out ++ (if kp bu bv = true then h :: mg kp u v else mg kp u v) ∧ o.length ≤ out.length + 1 := fun bu bv h u v => by
  rw [m_alphabet_merge_j4, hf, Option.bind_some]
  dsimp only
  cases kp bu bv with
  | true => rw [if_pos rfl, ho, Option.bind_some]; exact ⟨_, rfl, by simp, by simp⟩
  | false => rw [if_neg (by simp)]; exact ⟨_, rfl, by simp, by omega⟩
 cases us with
 | nil =>
  cases vs with
  | nil => simp at hne
  | cons b vs =>
   obtain ⟨o, h1, h2, h3⟩ := fin false true b [] vs
   refine ⟨o, [], vs, ?_, by rw [h2, mg], h3, by simp⟩
   rw [m_alphabet_merge_l1]
   dsimp only
   rw [if_pos (by simp), if_neg (by simp), m_alphabet_merge_j1]
   dsimp only
   rw [if_pos (by simp), if_pos (by simp), m_alphabet_merge_j2, if_neg (by simp), m_alphabet_merge_j3, if_pos rfl]
   dsimp only
   rw [idx_hd, Option.bind_some, slc_tl, Option.bind_some]
   exact h1
 | cons a us =>
  cases vs with
  | nil =>
   obtain ⟨o, h1, h2, h3⟩ := fin true false a us []
   refine ⟨o, us, [], ?_, by rw [h2, mg], h3, by simp⟩
   rw [m_alphabet_merge_l1]
   dsimp only
   rw [if_pos (by simp), if_pos (by simp), if_pos (by simp), m_alphabet_merge_j1]
   dsimp only
   rw [if_neg (by simp), m_alphabet_merge_j2, if_pos rfl]
   dsimp only
   rw [idx_hd, Option.bind_some, slc_tl, Option.bind_some, m_alphabet_merge_j3, if_neg (by simp)]
   exact h1
  | cons b vs =>
   have e0 : m_alphabet_merge_l1 f (out, a :: us, b :: vs) = m_alphabet_merge_j2 f (out, a :: us, b :: vs) (decide (a ≤ b)) (decide (b ≤ a)) := by
    rw [m_alphabet_merge_l1]
    dsimp only
    rw [if_pos (by simp), if_pos (by simp), if_neg (by simp; omega), idx_hd, Option.bind_some, idx_hd, Option.bind_some, m_alphabet_merge_j1]
    dsimp only
    rw [if_pos (by simp), if_neg (by simp; omega), idx_hd, Option.bind_some, idx_hd, Option.bind_some]
   rw [e0, m_alphabet_merge_j2]
   dsimp only
   by_cases h1 : a < b
   ·obtain ⟨o, g1, g2, g3⟩ := fin true false a us (b :: vs)
    refine ⟨o, us, b :: vs, ?_, by rw [g2, mg, if_pos h1], g3, by simp; omega⟩
    rw [show decide (a ≤ b) = true by simp; omega, show decide (b ≤ a) = false by simp; omega, if_pos rfl, idx_hd, Option.bind_some, slc_tl, Option.bind_some, m_alphabet_merge_j3, if_neg (by simp)]
    exact g1
   ·by_cases h2 : b < a
    ·obtain ⟨o, g1, g2, g3⟩ := fin false true b (a :: us) vs
     refine ⟨o, a :: us, vs, ?_, by rw [g2, mg, if_neg h1, if_pos h2], g3, by simp; omega⟩
     rw [show decide (a ≤ b) = false by simp; omega, show decide (b ≤ a) = true by simp; omega, if_neg (by simp), m_alphabet_merge_j3, if_pos rfl]
     dsimp only
     rw [idx_hd, Option.bind_some, slc_tl, Option.bind_some]
     exact g1
    ·obtain ⟨o, g1, g2, g3⟩ := fin true true b us vs
     refine ⟨o, us, vs, ?_, by rw [g2, mg, if_neg h1, if_neg h2], g3, by simp; omega⟩
     rw [show decide (a ≤ b) = true by simp; omega, show decide (b ≤ a) = true by simp; omega, if_pos rfl, idx_hd, Option.bind_some, slc_tl, Option.bind_some, m_alphabet_merge_j3, if_pos rfl]
     dsimp only
     rw [idx_hd, Option.bind_some, slc_tl, Option.bind_some]
     exact g1
theorem merge_eq {kp : Bool → Bool → Bool} {f : Bool → Bool → Option Bool} (hf : ∀ a b, f a b = some (kp a b)) {us vs : List Int} (hu : us.length ≤ 1000000) (hv : vs.length ≤ 1000000) : m_alphabet_merge us vs f = some (mg kp us vs) := by
 obtain ⟨o, h1, h2⟩ := iter_inv (f := m_alphabet_merge_l1 f) (fun i s => s.1 ++ mg kp s.2.1 s.2.2 = mg kp us vs ∧ s.1.length ≤ i ∧ s.2.1.length + s.2.2.length + i ≤ us.length + vs.length) (fun o => o = mg kp us vs) (us.length + vs.length) 0 (by omega) (fun i s hi ⟨g1, g0, g2⟩ => by
   obtain ⟨out, u, v⟩ := s
   dsimp only at g1 g0 g2
   by_cases hne : 0 < u.length + v.length
   ·obtain ⟨o, u', v', e, g3, g5, g4⟩ := merge_step hf (out := out) (by omega) hne
    exact .inl ⟨_, e, by rw [← g1]; exact g3, by dsimp only; omega, by dsimp only; omega⟩
   ·have e1 : u = [] := List.eq_nil_of_length_eq_zero (by omega)
    have e2 : v = [] := List.eq_nil_of_length_eq_zero (by omega)
    subst e1; subst e2
    rw [mg, List.append_nil] at g1
    exact .inr ⟨out, rfl, g1⟩) (fun s ⟨g1, g0, g2⟩ => by
   obtain ⟨out, u, v⟩ := s
   dsimp only at g1 g2
   have e1 : u = [] := List.eq_nil_of_length_eq_zero (by omega)
   have e2 : v = [] := List.eq_nil_of_length_eq_zero (by omega)
   subst e1; subst e2
   rw [mg, List.append_nil] at g1
   exact ⟨out, rfl, g1⟩) (Nat.zero_le _) ([], us, vs) ⟨rfl, by simp, by dsimp only; omega⟩
 rw [m_alphabet_merge, h1, h2]
 rfl
theorem unionA_eq {us vs : List Int} (hu : us.length ≤ 1000000) (hv : vs.length ≤ 1000000) : m_alphabet_Union us vs = some (mg (fun a b => a || b) us vs) := by
 rw [m_alphabet_Union, merge_eq (f := m_alphabet_Union_1) (kp := fun a b => a || b) (fun a b => rfl) hu hv]
 rfl
end Go.Proofs.YtidakgbibobbdaaGreatDoor

namespace Go.Proofs.YtidakgbibobbdaaGreatDoor
open Go Go.RowKit
def st1 (a : AutT) (s e : Int) : Option Int := (a.2.2.2.find? fun x => x.1 == s && x.2.1 == e).map fun x => x.2.2
theorem st1_some {a : AutT} {n : Nat} (hr : Right a n) {s e t : Int} : st1 a s e = some t ↔ (s, e, t) ∈ a.2.2.2 := by
 unfold st1
 rw [Option.map_eq_some_iff]
 constructor
 ·rintro ⟨x, h1, rfl⟩
  have h2 := List.find?_some h1
  have h3 := List.mem_of_find?_eq_some h1
  simp only [Bool.and_eq_true, beq_iff_eq] at h2
  obtain ⟨rfl, rfl⟩ := h2
  exact h3
 ·intro h
  cases hf : a.2.2.2.find? fun x => x.1 == s && x.2.1 == e with
  | none => exact absurd (List.find?_eq_none.1 hf _ h) (by simp)
  | some x =>
   refine ⟨x, rfl, ?_⟩
   have h2 := List.find?_some hf
   have h3 := List.mem_of_find?_eq_some hf
   simp only [Bool.and_eq_true, beq_iff_eq] at h2
   obtain ⟨i, hi, e1⟩ := List.getElem_of_mem h
   obtain ⟨j, hj, e2⟩ := List.getElem_of_mem h3
   rcases Nat.lt_trichotomy i j with hij | hij | hij
   ·have := List.pairwise_iff_getElem.1 hr.so i j hi hj hij
    rw [e1, e2] at this
    dsimp only at this
    omega
   ·subst hij
    rw [e1] at e2
    rw [← e2]
   ·have := List.pairwise_iff_getElem.1 hr.so j i hj hi hij
    rw [e1, e2] at this
    dsimp only at this
    omega
theorem st1_rng {a : AutT} {n : Nat} (hr : Right a n) {s e t : Int} (h : st1 a s e = some t) : 0 ≤ s ∧ s < (n : Int) ∧ 0 ≤ t ∧ t < (n : Int) ∧ e ∈ a.1 := hr.es _ ((st1_some hr).1 h)
theorem find_at {es : List (Int × Int × Int)} (so : es.Pairwise fun x y => x.1 < y.1 ∨ (x.1 = y.1 ∧ x.2.1 < y.2.1)) {i : Nat} (hi : i < es.length) (q : Int × Int) :
  ((es.take (i + 1)).find? fun x => x.1 == q.1 && x.2.1 == q.2).map (fun x => x.2.2) = if q = (es[i].1, es[i].2.1) then some es[i].2.2 else ((es.take i).find? fun x => x.1 == q.1 && x.2.1 == q.2).map fun x => x.2.2 := by
 rw [List.take_succ_eq_append_getElem hi, List.find?_append]
 by_cases h : q = (es[i].1, es[i].2.1)
 ·rw [if_pos h]
  have hn : (es.take i).find? (fun x => x.1 == q.1 && x.2.1 == q.2) = none := by
   rw [List.find?_eq_none]
   intro x hx hx2
   simp only [Bool.and_eq_true, beq_iff_eq] at hx2
   obtain ⟨k, hk, rfl⟩ := List.getElem_of_mem hx
   rw [List.length_take] at hk
   rw [List.getElem_take, h] at hx2
   have := List.pairwise_iff_getElem.1 so k i (by omega) hi (by omega)
   omega
  rw [hn, Option.none_or, List.find?_cons_of_pos (by rw [h]; simp)]
  rfl
 ·rw [if_neg h, List.find?_cons_of_neg (by
   intro hx
   simp only [Bool.and_eq_true, beq_iff_eq] at hx
   exact h (by rw [hx.1, hx.2])), List.find?_nil, Option.or_none]
theorem open_full {a : AutT} {n : Nat} (hr : Right a n) : ∃ o, iter (m_product_open_l2 a) (0, ([] : List ((Int × Int) × Int))) = some o ∧ ∀ q : Int × Int, kget o q = st1 a q.1 q.2 := by
 have hl := hr.l3
 refine iter_inv (f := m_product_open_l2 a) (fun i s => s.1 = (i : Int) ∧ ∀ q : Int × Int, kget s.2 q = ((a.2.2.2.take i).find? fun x => x.1 == q.1 && x.2.1 == q.2).map fun x => x.2.2) (fun o => ∀ q : Int × Int, kget o q = st1 a q.1 q.2) a.2.2.2.length 0 (by omega) (fun i s hi ⟨e1, g1⟩ => ?_) (fun s ⟨e1, g1⟩ => ?_) (Nat.zero_le _) _ ⟨rfl, fun q => rfl⟩
 ·obtain ⟨k, out⟩ := s
  dsimp only at e1 g1
  subst e1
  refine .inl ⟨(((i + 1 : Nat) : Int), kput out (a.2.2.2[i].1, a.2.2.2[i].2.1) a.2.2.2[i].2.2), ?_, rfl, fun q => ?_⟩
  ·rw [m_product_open_l2]
   dsimp only
   rw [if_pos (ct_lt hi), idx_at hi, Option.bind_some, nxt (by omega)]
  ·dsimp only
   rw [kget_kput, find_at hr.so hi, g1]
 ·obtain ⟨k, out⟩ := s
  dsimp only at e1 g1
  subst e1
  rw [List.take_length] at g1
  refine ⟨out, ?_, g1⟩
  rw [m_product_open_l2]
  dsimp only
  rw [if_neg ct_ge]
theorem events_two {P S : AutT} (hP : Alp P.1) (hS : Alp S.1) : m_product_events [P, S] = some (mg (fun a b => a || b) P.1 S.1) := by
 have l1 := hP.len
 have l2 := hS.len
 have h0 : mg (fun a b => a || b) [] P.1 = P.1 := by
  have h := mg_spec (fun a b => a || b) [] P.1 List.Pairwise.nil hP.1
  refine strict_ext (lt := fun a b : Int => a < b) (fun a b h1 h2 => by omega) h.1 hP.1 fun x => ?_
  rw [h.2]
  constructor
  ·rintro ⟨h1 | h1, _⟩
   ·cases h1
   ·exact h1
  ·intro h1
   refine ⟨.inr h1, ?_⟩
   rw [hasB_true.2 h1]
   simp
 have h : iter (m_product_events_l1 [P, S]) (0, []) = some (mg (fun a b => a || b) P.1 S.1) := by
  refine iter_of (n := 3) (by omega) ?_
  rw [iterF_succ, m_product_events_l1]
  dsimp only
  rw [if_pos (by simp), show idx [P, S] 0 = some P from rfl, Option.bind_some, unionA_eq (by simp) (by omega), Option.bind_some, h0]
  dsimp only
  rw [iterF_succ, m_product_events_l1]
  dsimp only
  rw [show W (0 + 1) = 1 from rfl, if_pos (by simp), show idx [P, S] 1 = some S from rfl, Option.bind_some, unionA_eq (by omega) (by omega), Option.bind_some]
  dsimp only
  rw [iterF_succ, m_product_events_l1]
  dsimp only
  rw [show W (1 + 1) = 2 from rfl, if_neg (by simp)]
 rw [m_product_events, h]
 rfl
theorem open_two {P S : AutT} {n1 n2 : Nat} (hP : Right P n1) (hS : Right S n2) : ∃ o1 o2, m_product_open [P, S] = some ([P, S], mg (fun a b => a || b) P.1 S.1, [o1, o2]) ∧ (∀ q : Int × Int, kget o1 q = st1 P q.1 q.2) ∧ ∀ q : Int × Int, kget o2 q = st1 S q.1 q.2 := by
 obtain ⟨o1, h1, g1⟩ := open_full hP
 obtain ⟨o2, h2, g2⟩ := open_full hS
 refine ⟨o1, o2, ?_, g1, g2⟩
 have h : iter (m_product_open_l1 [P, S]) (0, []) = some [o1, o2] := by
  refine iter_of (n := 3) (by omega) ?_
  rw [iterF_succ, m_product_open_l1]
  dsimp only
  rw [if_pos (by simp), show idx [P, S] 0 = some P from rfl, Option.bind_some, h1, Option.bind_some, app_eq (by simp), Option.bind_some]
  dsimp only
  rw [iterF_succ, m_product_open_l1]
  dsimp only
  rw [show W (0 + 1) = 1 from rfl, if_pos (by simp), show idx [P, S] 1 = some S from rfl, Option.bind_some, h2, Option.bind_some, app_eq (by simp), Option.bind_some]
  dsimp only
  rw [iterF_succ, m_product_open_l1]
  dsimp only
  rw [show W (1 + 1) = 2 from rfl, if_neg (by simp)]
  rfl
 rw [m_product_open, events_two ⟨hP.ali, hP.alr⟩ ⟨hS.ali, hS.alr⟩, Option.bind_some, h]
 rfl
def pst (P S : AutT) (x y e : Int) : Option (Int × Int) := (if hasB P.1 e = true then st1 P x e else some x).bind fun x' => (if hasB S.1 e = true then st1 S y e else some y).map fun y' => (x', y')
theorem mst_two {P S : AutT} {n1 n2 : Nat} (hP : Right P n1) (hS : Right S n2) {ev : List Int} {o1 o2 : List ((Int × Int) × Int)} (g1 : ∀ q : Int × Int, kget o1 q = st1 P q.1 q.2) (g2 : ∀ q : Int × Int, kget o2 q = st1 S q.1 q.2) (x y e : Int) :
  m_product_machine_step ([P, S], ev, [o1, o2]) [x, y] e = some (match pst P S x y e with
   | some u => ([u.1, u.2], true)
   | none => ([], false)) := by
 have l1 := hP.l1
 have l2 := hS.l1
 have f0 : m_product_machine_step_l1 ([P, S], ev, [o1, o2]) [x, y] e (0, [x, y]) = some (match (if hasB P.1 e = true then st1 P x e else some x) with
   | some x' => .inl (1, [x', y])
   | none => .inr (.inr ())) := by
  rw [m_product_machine_step_l1]
  dsimp only
  rw [if_pos (by simp), show idx [P, S] 0 = some P from rfl, Option.bind_some, containsA_eq (by omega) hP.ali, Option.bind_some]
  cases hb : hasB P.1 e with
  | false =>
   rw [if_pos (by simp), m_product_machine_step_j1, if_neg (by simp)]
   rfl
  | true =>
   rw [if_neg (by simp), show idx [o1, o2] 0 = some o1 from rfl, Option.bind_some, show idx [x, y] 0 = some x from rfl, Option.bind_some, g1, if_pos rfl]
   dsimp only
   cases st1 P x e with
   | none => rw [if_pos (by simp)]
   | some v =>
    rw [if_neg (by simp), Option.bind_some, show upd [x, y] 0 ((some v).getD 0) = some [v, y] from rfl, Option.bind_some, m_product_machine_step_j1]
    rfl
 have f1 : ∀ x', m_product_machine_step_l1 ([P, S], ev, [o1, o2]) [x, y] e (1, [x', y]) = some (match (if hasB S.1 e = true then st1 S y e else some y) with
   | some y' => .inl (2, [x', y'])
   | none => .inr (.inr ())) := fun x' => by
  rw [m_product_machine_step_l1]
  dsimp only
  rw [if_pos (by simp), show idx [P, S] 1 = some S from rfl, Option.bind_some, containsA_eq (by omega) hS.ali, Option.bind_some]
  cases hb : hasB S.1 e with
  | false =>
   rw [if_pos (by simp), m_product_machine_step_j1, if_neg (by simp)]
   rfl
  | true =>
   rw [if_neg (by simp), show idx [o1, o2] 1 = some o2 from rfl, Option.bind_some, show idx [x, y] 1 = some y from rfl, Option.bind_some, g2, if_pos rfl]
   dsimp only
   cases st1 S y e with
   | none => rw [if_pos (by simp)]
   | some v =>
    rw [if_neg (by simp), show idx [x', y] 1 = some y from rfl, Option.bind_some, show upd [x', y] 1 ((some v).getD 0) = some [x', v] from rfl, Option.bind_some, m_product_machine_step_j1]
    rfl
 have f2 : ∀ u, m_product_machine_step_l1 ([P, S], ev, [o1, o2]) [x, y] e (2, u) = some (.inr (.inl u)) := fun u => by
  rw [m_product_machine_step_l1]
  dsimp only
  rw [if_neg (by simp)]
 have h : iter (m_product_machine_step_l1 ([P, S], ev, [o1, o2]) [x, y] e) (0, [x, y]) = some (match pst P S x y e with
   | some u => .inl [u.1, u.2]
   | none => .inr ()) := by
  refine iter_of (n := 3) (by omega) ?_
  rw [iterF_succ, f0]
  unfold pst
  cases (if hasB P.1 e = true then st1 P x e else some x) with
  | none => rfl
  | some x' =>
   dsimp only
   rw [iterF_succ, f1, Option.bind_some]
   cases (if hasB S.1 e = true then st1 S y e else some y) with
   | none => rfl
   | some y' =>
    dsimp only
    rw [iterF_succ, f2]
    rfl
 rw [m_product_machine_step, clone_eq (by simp), Option.bind_some, h, Option.bind_some]
 cases pst P S x y e <;> rfl
structure Loop (P S p : AutT) (T : List (List Int)) (n : Nat) : Prop where
 right : Right p n
 pos : 1 ≤ n
 le : n ≤ 4000
 tl : T.length = n
 nd : T.Nodup
 tt : ∀ t ∈ T, ∃ x y, t = [x, y] ∧ 0 ≤ x ∧ x < P.2.1 ∧ 0 ≤ y ∧ y < S.2.1
 t0 : T[0]? = some [0, 0]
 ev : ∀ e, e ∈ p.1 ↔ e ∈ P.1 ∨ e ∈ S.1
 no : ∀ (a : Nat) (x y e : Int), T[a]? = some [x, y] → e ∈ p.1 → pst P S x y e = none → st1 p (a : Int) e = none
 yes : ∀ (a : Nat) (x y e x' y' : Int), T[a]? = some [x, y] → e ∈ p.1 → pst P S x y e = some (x', y') → ∃ q : Nat, st1 p (a : Int) e = some (q : Int) ∧ T[q]? = some [x', y']
 num : Num (edsOf p) n
theorem mst_pst {P S : AutT} {n1 n2 : Nat} (hP : Right P n1) (hS : Right S n2) {ev : List Int} {o1 o2 : List ((Int × Int) × Int)} (g1 : ∀ q : Int × Int, kget o1 q = st1 P q.1 q.2) (g2 : ∀ q : Int × Int, kget o2 q = st1 S q.1 q.2) (x y e : Int) :
  mst ([P, S], ev, [o1, o2]) [x, y] e = (pst P S x y e).map fun u => [u.1, u.2] := by
 unfold mst
 rw [mst_two hP hS g1 g2]
 cases pst P S x y e <;> rfl
theorem loop_ex {P S : AutT} {n1 n2 B : Nat} (hP : Right P n1) (hS : Right S n2) (p1 : 1 ≤ n1) (p2 : 1 ≤ n2) (b1 : n1 ≤ B) (b2 : n2 ≤ B) (hB : B ≤ 99) (hBB : B * B ≤ 4000) : ∃ p T n, m_product_Synchronous [P, S] = some (p, T, 0) ∧ Loop P S p T n := by
 have hL : LOkB B [P, S] := ⟨by simp, fun a ha => by
  rcases List.mem_cons.1 ha with rfl | ha
  ·exact ⟨n1, p1, b1, hP⟩
  ·rw [List.mem_singleton.1 ha]; exact ⟨n2, p2, b2, hS⟩, hB, by
  show B ^ 2 ≤ 4000
  rw [Nat.pow_two]; exact hBB⟩
 obtain ⟨m, p, T, n, h1, h2, h3, h⟩ := syncz_ex hL
 obtain ⟨o1, o2, e1, g1, g2⟩ := open_two hP hS
 rw [h1] at e1
 obtain rfl := Option.some.inj e1
 have htt : ∀ t ∈ T, ∃ x y, t = [x, y] ∧ 0 ≤ x ∧ x < P.2.1 ∧ 0 ≤ y ∧ y < S.2.1 := fun t ht => by
  obtain ⟨hl, hr⟩ := h.inT t ht
  match t, hl, hr with
  | [x, y], _, hr =>
   have q1 := hr 0 (by simp) (by simp)
   have q2 := hr 1 (by simp) (by simp)
   exact ⟨x, y, rfl, q1.1, q1.2, q2.1, q2.2⟩
 have hms := mst_pst hP hS (ev := mg (fun a b => a || b) P.1 S.1) g1 g2
 have hev : p.1 = mg (fun a b => a || b) P.1 S.1 := h.ev
 refine ⟨p, T, n, h3, h.right, h.pos, h.le, h.tl, h.nd, htt, ?_, fun e => ?_, fun a x y e ha he hp => ?_, fun a x y e x' y' ha he hp => ?_, h.num⟩
 ·obtain ⟨t, q1, q2⟩ := h.t0
  rw [q1]
  have hin : m_product_machine_initial ([P, S], mg (fun a b => a || b) P.1 S.1, [o1, o2]) = some ([0, 0], true) := by
   have hi : iter (m_product_machine_initial_l1 ([P, S], mg (fun a b => a || b) P.1 S.1, [o1, o2])) 0 = some (.inl ()) := by
    refine iter_of (n := 3) (by omega) ?_
    rw [iterF_succ, m_product_machine_initial_l1]
    dsimp only
    rw [if_pos (by simp), show idx [P, S] 0 = some P from rfl, Option.bind_some, hP.nn, if_neg (by simp; omega)]
    dsimp only
    rw [iterF_succ, m_product_machine_initial_l1]
    dsimp only
    rw [show W (0 + 1) = 1 from rfl, if_pos (by simp), show idx [P, S] 1 = some S from rfl, Option.bind_some, hS.nn, if_neg (by simp; omega)]
    dsimp only
    rw [iterF_succ, m_product_machine_initial_l1]
    dsimp only
    rw [show W (1 + 1) = 2 from rfl, if_neg (by simp)]
   rw [m_product_machine_initial, hi, Option.bind_some]
   dsimp only
   rw [mkL_eq (by simp) (by simp), Option.bind_some]
   rfl
  rw [hin] at q2
  cases q2
  rfl
 ·have hsp := mg_spec (fun a b => a || b) P.1 S.1 hP.ali hS.ali
  rw [hev, hsp.2]
  constructor
  ·exact fun q => q.1
  ·intro q
   refine ⟨q, ?_⟩
   rcases q with q | q
   ·rw [hasB_true.2 q]; rfl
   ·rw [hasB_true.2 q]; simp
 ·cases hs : st1 p (a : Int) e with
  | none => rfl
  | some t =>
   obtain ⟨a', q, u, r, k1, k2, k3, k4, k5⟩ := h.sn _ ((st1_some h.right).1 hs)
   dsimp only at k1 k2 k5
   have : a' = a := by omega
   subst this
   rw [ha] at k3
   cases k3
   rw [hms, hp] at k5
   cases k5
 ·have hm : mst ([P, S], mg (fun a b => a || b) P.1 S.1, [o1, o2]) [x, y] e = some [x', y'] := by rw [hms, hp]; rfl
  obtain ⟨q, k1, k2⟩ := h.ed a [x, y] e [x', y'] ha he hm
  exact ⟨q, (st1_some h.right).2 k1, k2⟩
end Go.Proofs.YtidakgbibobbdaaGreatDoor

namespace Go.Proofs.YtidakgbibobbdaaGreatDoor
open Go Go.RowKit
theorem setErr_incR {n : Int} {xs : List Int} (h : setErr n none xs = 0) : Inc xs ∧ ∀ x ∈ xs, 0 ≤ x ∧ x < n := by
 have key : ∀ (xs : List Int) (p : Option Int), setErr n p xs = 0 → Inc xs ∧ (∀ x ∈ xs, 0 ≤ x ∧ x < n) ∧ ∀ q, p = some q → ∀ x ∈ xs, q < x := by
  intro xs
  induction xs with
  | nil => intro p _; exact ⟨List.Pairwise.nil, fun x hx => (by cases hx), fun q _ x hx => (by cases hx)⟩
  | cons y xs ih =>
   intro p h
   rw [setErr] at h
   split at h
   ·cases h
   ·rename_i h1
    split at h
    ·cases h
    ·rename_i h2
     obtain ⟨g1, g2, g3⟩ := ih _ h
     refine ⟨List.pairwise_cons.2 ⟨fun z hz => g3 y rfl z hz, g1⟩, fun x hx => ?_, fun q hq x hx => ?_⟩
     ·rcases List.mem_cons.1 hx with rfl | hx
      ·omega
      ·exact g2 x hx
     ·have hqy : q < y := by
       have : ¬ y ≤ q := fun hc => h2 ⟨q, hq, hc⟩
       omega
      rcases List.mem_cons.1 hx with rfl | hx
      ·exact hqy
      ·have := g3 y rfl x hx
       omega
 exact ⟨(key xs none h).1, (key xs none h).2.1⟩
theorem err_partsR {a : Aut} (h : a.err = 0) : setErr 32 none a.al = 0 ∧ 0 ≤ a.n ∧ a.n ≤ 4096 ∧ setErr a.n none a.ms = 0 ∧ edErr a.al a.n none a.es = 0 := by
 unfold Aut.err at h
 split at h
 ·rename_i h1; rw [h] at h1; exact absurd h1 (by decide)
 ·rename_i h1
  split at h
  ·cases h
  ·split at h
   ·cases h
   ·split at h
    ·rename_i h4; rw [h] at h4; exact absurd h4 (by decide)
    ·rename_i h2 h3 h4
     exact ⟨by simpa using h1, by omega, by omega, by simpa using h4, h⟩
theorem edErr_R {al : List Int} {n : Int} : ∀ (es : List Ed) (p : Option Ed), edErr al n p es = 0 → Sorted es ∧ (∀ q, p = some q → ∀ x ∈ es, edLt q x) ∧ ∀ x ∈ es, x.e ∈ al
 | [], _, _ => ⟨List.Pairwise.nil, fun _ _ x hx => (by cases hx), fun x hx => (by cases hx)⟩
 | y :: es, p, h => by
  rw [edErr] at h
  split at h
  ·cases h
  ·split at h
   ·cases h
   ·rename_i h2
    split at h
    ·cases h
    ·rename_i h3
     obtain ⟨g1, g2, g4⟩ := edErr_R es _ h
     have g3 := g2 y rfl
     refine ⟨List.pairwise_cons.2 ⟨g3, g1⟩, fun q hq x hx => ?_, fun x hx => ?_⟩
     ·have hqy : edLt q y := by
       have h4 : ¬ (y.f < q.f ∨ (y.f = q.f ∧ y.e ≤ q.e)) := fun hc => h3 ⟨q, hq, hc⟩
       unfold edLt; omega
      rcases List.mem_cons.1 hx with rfl | hx
      ·exact hqy
      ·have h5 := g3 x hx
       unfold edLt at hqy h5 ⊢; omega
     ·rcases List.mem_cons.1 hx with rfl | hx
      ·exact hasB_true.1 (by simpa using h2)
      ·exact g4 x hx
theorem right_ofR {a : AutT} (h : (toAut a).err = 0) (h1 : a.1.length ≤ 1000000) (h2 : a.2.2.1.length ≤ 1000000) (h3 : a.2.2.2.length ≤ 1000000) : Right a a.2.1.toNat := by
 obtain ⟨g1, g2, g3, g4, g5⟩ := err_partsR h
 have hok := Aut.ok_of h
 obtain ⟨e1, _, e3⟩ := edErr_R _ _ g5
 obtain ⟨al1, al2⟩ := setErr_incR g1
 obtain ⟨ms1, ms2⟩ := setErr_incR g4
 have hn : (toAut a).n = a.2.1 := rfl
 rw [hn] at g2 g3
 have hnn : ((a.2.1.toNat : Nat) : Int) = a.2.1 := Int.toNat_of_nonneg g2
 refine ⟨hnn.symm, by omega, al1, al2, ms1, fun x hx => by rw [hnn]; exact ms2 x hx, fun x hx => ?_, ?_, h1, h2, h3⟩
 ·have := hok.es (toEd x) (List.mem_map_of_mem hx)
  have h4 := e3 (toEd x) (List.mem_map_of_mem hx)
  rw [hnn]
  exact ⟨this.1, this.2.1, this.2.2.1, this.2.2.2, h4⟩
 ·have e1 : (a.2.2.2.map toEd).Pairwise edLt := e1
  rw [List.pairwise_map] at e1
  exact e1
theorem check_toAut {a : AutT} (h1 : a.1.length ≤ 1000000) (h2 : a.2.2.1.length ≤ 1000000) (h3 : a.2.2.2.length ≤ 1000000) : m_automaton_Check a = some (toAut a).err := by
 have := check_eq (a := toAut a) (by simp [toAut]; omega) (by simp [toAut]; omega) (by simp [toAut]; omega)
 rwa [autP_toAut] at this
end Go.Proofs.YtidakgbibobbdaaGreatDoor

namespace Go.Proofs.YtidakgbibobbdaaGreatDoor
open Go Go.RowKit
abbrev GrT := AutT × List ((Int × Int) × Int)
abbrev TaskT := GrT × GrT × GrT × List (List Int) × List Int × List Int
abbrev ProbT := AutT × AutT × List Int
theorem index_ex {a : AutT} {n : Nat} (hr : Right a n) : ∃ o, m_scan_index a = some (a, o) ∧ ∀ q : Int × Int, kget o q = st1 a q.1 q.2 := by
 have hl := hr.l3
 obtain ⟨o, h1, h2⟩ := iter_inv (f := m_scan_index_l1 a) (fun i s => s.1 = (i : Int) ∧ ∀ q : Int × Int, kget s.2 q = ((a.2.2.2.take i).find? fun x => x.1 == q.1 && x.2.1 == q.2).map fun x => x.2.2) (fun o => ∀ q : Int × Int, kget o q = st1 a q.1 q.2) a.2.2.2.length 0 (by omega) (fun i s hi ⟨e1, g1⟩ => by
   obtain ⟨k, out⟩ := s
   dsimp only at e1 g1
   subst e1
   refine .inl ⟨(((i + 1 : Nat) : Int), kput out (a.2.2.2[i].1, a.2.2.2[i].2.1) a.2.2.2[i].2.2), ?_, rfl, fun q => ?_⟩
   ·rw [m_scan_index_l1]
    dsimp only
    rw [if_pos (ct_lt hi), idx_at hi, Option.bind_some, nxt (by omega)]
   ·dsimp only
    rw [kget_kput, find_at hr.so hi, g1]) (fun s ⟨e1, g1⟩ => by
   obtain ⟨k, out⟩ := s
   dsimp only at e1 g1
   subst e1
   rw [List.take_length] at g1
   refine ⟨out, ?_, g1⟩
   rw [m_scan_index_l1]
   dsimp only
   rw [if_neg ct_ge]) (Nat.zero_le _) (0, []) ⟨rfl, fun q => rfl⟩
 exact ⟨o, by rw [m_scan_index, h1]; rfl, h2⟩
def GrOk (g : GrT) (a : AutT) : Prop := g.1 = a ∧ ∀ q : Int × Int, kget g.2 q = st1 a q.1 q.2
theorem to_eq {g : GrT} {a : AutT} (h : GrOk g a) (s e : Int) : m_scan_graph_to g s e = some ((st1 a s e).getD (-1)) := by
 rw [m_scan_graph_to, h.2 (s, e)]
 cases st1 a s e <;> rfl
structure LoopZ (P S p : AutT) (T : List (List Int)) (n : Nat) : Prop where
 right : Right p n
 le : n ≤ 4000
 tl : T.length = n
 nd : T.Nodup
 tt : ∀ t ∈ T, ∃ x y, t = [x, y] ∧ 0 ≤ x ∧ x < P.2.1 ∧ 0 ≤ y ∧ y < S.2.1
 t0 : 0 < n → T[0]? = some [0, 0]
 zero : n = 0 ↔ P.2.1 = 0 ∨ S.2.1 = 0
 ev : ∀ e, e ∈ p.1 ↔ e ∈ P.1 ∨ e ∈ S.1
 no : ∀ (a : Nat) (x y e : Int), T[a]? = some [x, y] → e ∈ p.1 → pst P S x y e = none → st1 p (a : Int) e = none
 yes : ∀ (a : Nat) (x y e x' y' : Int), T[a]? = some [x, y] → e ∈ p.1 → pst P S x y e = some (x', y') → ∃ q : Nat, st1 p (a : Int) e = some (q : Int) ∧ T[q]? = some [x', y']
 num : Num (edsOf p) n
theorem check_two {P S : AutT} {n1 n2 : Nat} (hP : Right P n1) (hS : Right S n2) : m_product_Check [P, S] = some 0 := by
 have h1 : iter (m_product_Check_l1 [P, S]) 0 = some (.inl ()) := by
  refine iter_of (n := 3) (by omega) ?_
  rw [iterF_succ, m_product_Check_l1, if_pos (by simp), show idx [P, S] 0 = some P from rfl, Option.bind_some, hP.check, Option.bind_some, if_neg (by simp)]
  dsimp only
  rw [iterF_succ, m_product_Check_l1, show W (0 + 1) = 1 from rfl, if_pos (by simp), show idx [P, S] 1 = some S from rfl, Option.bind_some, hS.check, Option.bind_some, if_neg (by simp)]
  dsimp only
  rw [iterF_succ, m_product_Check_l1, show W (1 + 1) = 2 from rfl, if_neg (by simp)]
 rw [m_product_Check, if_neg (by simp), h1]
 rfl
theorem loopZ_ex {P S : AutT} {n1 n2 : Nat} (hP : Right P n1) (hS : Right S n2) (b1 : n1 ≤ 40) (b2 : n2 ≤ 40) : ∃ p T n, m_product_Synchronous [P, S] = some (p, T, 0) ∧ LoopZ P S p T n := by
 by_cases h0 : n1 = 0 ∨ n2 = 0
 ·obtain ⟨o1, o2, h1, g1, g2⟩ := open_two hP hS
  have hi : ∀ ev, m_product_machine_initial ([P, S], ev, [o1, o2]) = some ([], false) := fun ev => by
   have h2 : iter (m_product_machine_initial_l1 ([P, S], ev, [o1, o2])) 0 = some (.inr ()) := by
    refine iter_of (n := 2) (by omega) ?_
    rw [iterF_succ, m_product_machine_initial_l1]
    dsimp only
    rw [if_pos (by simp), show idx [P, S] 0 = some P from rfl, Option.bind_some, hP.nn]
    by_cases h1 : n1 = 0
    ·rw [if_pos (by simp [h1])]
    ·rw [if_neg (by simp; omega)]
     dsimp only
     rw [iterF_succ, m_product_machine_initial_l1]
     dsimp only
     rw [show W (0 + 1) = 1 from rfl, if_pos (by simp), show idx [P, S] 1 = some S from rfl, Option.bind_some, hS.nn, if_pos (by simp; omega)]
   rw [m_product_machine_initial, h2]
   rfl
  have hsp := mg_spec (fun a b => a || b) P.1 S.1 hP.ali hS.ali
  have hev : ∀ e, e ∈ mg (fun a b => a || b) P.1 S.1 ↔ e ∈ P.1 ∨ e ∈ S.1 := fun e => by
   rw [hsp.2]
   constructor
   ·exact fun q => q.1
   ·intro q
    refine ⟨q, ?_⟩
    rcases q with q | q
    ·rw [hasB_true.2 q]; rfl
    ·rw [hasB_true.2 q]; simp
  have halr : ∀ e ∈ mg (fun a b => a || b) P.1 S.1, 0 ≤ e ∧ e < 32 := fun e he => by
   rcases (hev e).1 he with h | h
   ·exact hP.alr e h
   ·exact hS.alr e h
  have hlen := Alp.len ⟨hsp.1, halr⟩
  refine ⟨(mg (fun a b => a || b) P.1 S.1, 0, [], []), [], 0, ?_, ⟨⟨rfl, by omega, hsp.1, halr, List.Pairwise.nil, fun x hx => (by cases hx), fun x hx => (by cases hx), List.Pairwise.nil, by dsimp only; omega, by simp, by simp⟩, by omega, rfl, List.nodup_nil, fun t ht => (by cases ht), fun h => absurd h (by omega), ?_, hev, fun a x y e ha => (by simp at ha), fun a x y e x' y' ha => (by simp at ha), ?_⟩⟩
  ·rw [m_product_Synchronous, check_two hP hS, Option.bind_some, if_neg (by simp), h1, Option.bind_some, hi, Option.bind_some, if_pos (by simp)]
  ·have e1 := hP.nn
   have e2 := hS.nn
   exact ⟨fun _ => by omega, fun _ => rfl⟩
  ·exact ⟨List.Pairwise.nil, fun x hx => (by cases hx), fun k h1 h2 => by omega, fun n hn => (by simp [edsOf] at hn), fun n hn => (by simp [edsOf] at hn)⟩
 ·obtain ⟨p, T, n, h1, h⟩ := loop_ex (B := 40) hP hS (by omega) (by omega) b1 b2 (by omega) (by omega)
  have e1 := hP.nn
  have e2 := hS.nn
  have := h.pos
  exact ⟨p, T, n, h1, h.right, h.le, h.tl, h.nd, h.tt, fun _ => h.t0, ⟨fun _ => by omega, fun _ => by omega⟩, h.ev, h.no, h.yes, h.num⟩
theorem checkSet2R {xs : List Int} {n : Int} (hl : xs.length < 4611686018427387904) : m_alphabet_CheckSet xs n = some (setErr n none xs) := checkSet_eq hl
def errP (q : ProbT) : Int :=
 if (toAut q.1).err ≠ 0 then (toAut q.1).err
 else if (toAut q.2.1).err ≠ 0 then (toAut q.2.1).err
 else if (mg (fun a b => a && !b) q.2.1.1 q.1.1).length ≠ 0 then 9
 else setErr 32 none q.2.2
structure ShortP (q : ProbT) : Prop where
 p1 : q.1.1.length ≤ 1000000
 p2 : q.1.2.2.1.length ≤ 1000000
 p3 : q.1.2.2.2.length ≤ 1000000
 s1 : q.2.1.1.length ≤ 1000000
 s2 : q.2.1.2.2.1.length ≤ 1000000
 s3 : q.2.1.2.2.2.length ≤ 1000000
 u1 : q.2.2.length ≤ 1000000
theorem minusA_eq {us vs : List Int} (hu : us.length ≤ 1000000) (hv : vs.length ≤ 1000000) : m_alphabet_Minus us vs = some (mg (fun a b => a && !b) us vs) := by
 rw [m_alphabet_Minus, merge_eq (f := m_alphabet_Minus_1) (kp := fun a b => a && !b) (fun a b => rfl) hu hv]
 rfl
theorem interA_eq {us vs : List Int} (hu : us.length ≤ 1000000) (hv : vs.length ≤ 1000000) : m_alphabet_Intersect us vs = some (mg (fun a b => a && b) us vs) := by
 rw [m_alphabet_Intersect, merge_eq (f := m_alphabet_Intersect_1) (kp := fun a b => a && b) (fun a b => rfl) hu hv]
 rfl
theorem subsetA_eq {us vs : List Int} (hu : us.length ≤ 1000000) (hv : vs.length ≤ 1000000) : m_alphabet_Subset us vs = some (decide ((mg (fun a b => a && !b) us vs).length = 0)) := by
 rw [m_alphabet_Subset, minusA_eq hu hv, Option.bind_some]
 congr 1
 rw [Bool.eq_iff_iff]
 simp
theorem check54_eq {q : ProbT} (h : ShortP q) : m_overseerlaw54_check q = some (errP q) := by
 unfold errP
 rw [m_overseerlaw54_check, check_toAut h.p1 h.p2 h.p3, Option.bind_some]
 by_cases h1 : (toAut q.1).err = 0
 ·rw [if_neg (by simpa using h1), if_neg (by simpa using h1), check_toAut h.s1 h.s2 h.s3, Option.bind_some]
  by_cases h2 : (toAut q.2.1).err = 0
  ·rw [if_neg (by simpa using h2), if_neg (by simpa using h2), subsetA_eq h.s1 h.p1, Option.bind_some]
   by_cases h3 : (mg (fun a b => a && !b) q.2.1.1 q.1.1).length = 0
   ·rw [if_neg (by simpa using h3), if_neg (by simpa using h3), checkSet2R (by have := h.u1; omega)]
    rfl
   ·rw [if_pos (by simpa using h3), if_pos (by simpa using h3)]
  ·rw [if_pos (by simpa using h2), if_pos (by simpa using h2)]
 ·rw [if_pos (by simpa using h1), if_pos (by simpa using h1)]
structure TaskOk (q : ProbT) (t : TaskT) (p : AutT) (T : List (List Int)) (n1 n2 n : Nat) : Prop where
 rP : Right q.1 n1
 rS : Right q.2.1 n2
 iu : Inc q.2.2
 ur : ∀ x ∈ q.2.2, 0 ≤ x ∧ x < 32
 sub : ∀ x ∈ q.2.1.1, x ∈ q.1.1
 g1 : GrOk t.1 q.1
 g2 : GrOk t.2.1 q.2.1
 g3 : GrOk t.2.2.1 p
 tt : t.2.2.2.1 = T
 un : t.2.2.2.2.1 = mg (fun a b => a && b) q.1.1 q.2.2
 co : t.2.2.2.2.2 = mg (fun a b => a && !b) q.1.1 (mg (fun a b => a && b) q.1.1 q.2.2)
 loop : LoopZ q.1 q.2.1 p T n
theorem open_no {q : ProbT} (h : ShortP q) (he : errP q ≠ 0) : m_scan_open q = some (none, errP q) := by
 have hit : ∀ e1, m_automaton_Check q.1 = some e1 → e1 ≠ 0 → iter (m_scan_open_l1 q) 0 = some (.inr e1) := fun e1 h1 h2 => by
  refine iter_of (n := 1) (by omega) ?_
  rw [iterF_succ, m_scan_open_l1, if_pos (by simp), show idx [q.1, q.2.1] 0 = some q.1 from rfl, Option.bind_some, h1, Option.bind_some, if_pos (by simpa using h2)]
 have hit2 : ∀ e2, m_automaton_Check q.1 = some 0 → m_automaton_Check q.2.1 = some e2 → e2 ≠ 0 → iter (m_scan_open_l1 q) 0 = some (.inr e2) := fun e2 h1 h3 h2 => by
  refine iter_of (n := 2) (by omega) ?_
  rw [iterF_succ, m_scan_open_l1, if_pos (by simp), show idx [q.1, q.2.1] 0 = some q.1 from rfl, Option.bind_some, h1, Option.bind_some, if_neg (by simp)]
  dsimp only
  rw [iterF_succ, m_scan_open_l1, show W (0 + 1) = 1 from rfl, if_pos (by simp), show idx [q.1, q.2.1] 1 = some q.2.1 from rfl, Option.bind_some, h3, Option.bind_some, if_pos (by simpa using h2)]
 have hit3 : m_automaton_Check q.1 = some 0 → m_automaton_Check q.2.1 = some 0 → iter (m_scan_open_l1 q) 0 = some (.inl ()) := fun h1 h3 => by
  refine iter_of (n := 3) (by omega) ?_
  rw [iterF_succ, m_scan_open_l1, if_pos (by simp), show idx [q.1, q.2.1] 0 = some q.1 from rfl, Option.bind_some, h1, Option.bind_some, if_neg (by simp)]
  dsimp only
  rw [iterF_succ, m_scan_open_l1, show W (0 + 1) = 1 from rfl, if_pos (by simp), show idx [q.1, q.2.1] 1 = some q.2.1 from rfl, Option.bind_some, h3, Option.bind_some, if_neg (by simp)]
  dsimp only
  rw [iterF_succ, m_scan_open_l1, show W (1 + 1) = 2 from rfl, if_neg (by simp)]
 have c1 := check_toAut h.p1 h.p2 h.p3
 have c2 := check_toAut h.s1 h.s2 h.s3
 unfold errP at he ⊢
 rw [m_scan_open]
 by_cases h1 : (toAut q.1).err = 0
 ·rw [if_neg (by simpa using h1)] at he ⊢
  rw [h1] at c1
  by_cases h2 : (toAut q.2.1).err = 0
  ·rw [if_neg (by simpa using h2)] at he ⊢
   rw [h2] at c2
   rw [hit3 c1 c2, Option.bind_some]
   dsimp only
   rw [subsetA_eq h.s1 h.p1, Option.bind_some]
   by_cases h3 : (mg (fun a b => a && !b) q.2.1.1 q.1.1).length = 0
   ·rw [if_neg (by simpa using h3)] at he ⊢
    rw [if_neg (by simpa using h3), checkSet2R (by have := h.u1; omega), Option.bind_some, if_pos (by simpa using he)]
   ·rw [if_pos (by simpa using h3), if_pos (by simpa using h3)]
  ·rw [if_pos (by simpa using h2)] at he ⊢
   rw [hit2 _ c1 c2 h2]
   rfl
 ·rw [if_pos (by simpa using h1)] at he ⊢
  rw [hit _ c1 h1]
  rfl
theorem open_yes {q : ProbT} (h : ShortP q) (he : errP q = 0) (b1 : q.1.2.1 ≤ 40) (b2 : q.2.1.2.1 ≤ 40) : ∃ t p T n1 n2 n, m_scan_open q = some (some t, 0) ∧ TaskOk q t p T n1 n2 n := by
 unfold errP at he
 by_cases h1 : (toAut q.1).err = 0
 ·rw [if_neg (by simpa using h1)] at he
  by_cases h2 : (toAut q.2.1).err = 0
  ·rw [if_neg (by simpa using h2)] at he
   by_cases h3 : (mg (fun a b => a && !b) q.2.1.1 q.1.1).length = 0
   ·rw [if_neg (by simpa using h3)] at he
    have rP := right_ofR h1 h.p1 h.p2 h.p3
    have rS := right_ofR h2 h.s1 h.s2 h.s3
    obtain ⟨iu, ur⟩ := setErr_incR he
    obtain ⟨p, T, n, e1, hL⟩ := loopZ_ex rP rS (by omega) (by omega)
    obtain ⟨o1, i1, k1⟩ := index_ex rP
    obtain ⟨o2, i2, k2⟩ := index_ex rS
    obtain ⟨o3, i3, k3⟩ := index_ex hL.right
    have hit3 : iter (m_scan_open_l1 q) 0 = some (.inl ()) := by
     refine iter_of (n := 3) (by omega) ?_
     rw [iterF_succ, m_scan_open_l1, if_pos (by simp), show idx [q.1, q.2.1] 0 = some q.1 from rfl, Option.bind_some, rP.check, Option.bind_some, if_neg (by simp)]
     dsimp only
     rw [iterF_succ, m_scan_open_l1, show W (0 + 1) = 1 from rfl, if_pos (by simp), show idx [q.1, q.2.1] 1 = some q.2.1 from rfl, Option.bind_some, rS.check, Option.bind_some, if_neg (by simp)]
     dsimp only
     rw [iterF_succ, m_scan_open_l1, show W (1 + 1) = 2 from rfl, if_neg (by simp)]
    have hin : ∀ x, x ∈ mg (fun a b => a && b) q.1.1 q.2.2 → x ∈ q.1.1 := fun x hx => by
     have := ((mg_spec (fun a b => a && b) q.1.1 q.2.2 rP.ali iu).2 x).1 hx
     simp only [Bool.and_eq_true] at this
     exact hasB_true.1 this.2.1
    have hil : (mg (fun a b => a && b) q.1.1 q.2.2).length ≤ 32 := Alp.len ⟨(mg_spec (fun a b => a && b) q.1.1 q.2.2 rP.ali iu).1, fun x hx => rP.alr x (hin x hx)⟩
    refine ⟨((q.1, o1), (q.2.1, o2), (p, o3), T, mg (fun a b => a && b) q.1.1 q.2.2, mg (fun a b => a && !b) q.1.1 (mg (fun a b => a && b) q.1.1 q.2.2)), p, T, _, _, n, ?_, ⟨rP, rS, iu, ur, fun x hx => ?_, ⟨rfl, k1⟩, ⟨rfl, k2⟩, ⟨rfl, k3⟩, rfl, rfl, rfl, hL⟩⟩
    ·rw [m_scan_open, hit3, Option.bind_some]
     dsimp only
     rw [subsetA_eq h.s1 h.p1, Option.bind_some, if_neg (by simpa using h3), checkSet2R (by have := h.u1; omega), Option.bind_some, he, if_neg (by simp), e1, Option.bind_some]
     dsimp only
     rw [if_neg (by simp), interA_eq h.p1 h.u1, Option.bind_some, i1, Option.bind_some, i2, Option.bind_some, i3, Option.bind_some, minusA_eq h.p1 (by omega), Option.bind_some]
    ·by_cases hh : x ∈ q.1.1
     ·exact hh
     ·have hm : x ∈ mg (fun a b => a && !b) q.2.1.1 q.1.1 := by
       rw [(mg_spec (fun a b => a && !b) q.2.1.1 q.1.1 rS.ali rP.ali).2]
       refine ⟨.inl hx, ?_⟩
       rw [hasB_true.2 hx]
       cases hb : hasB q.1.1 x
       ·rfl
       ·exact absurd (hasB_true.1 hb) hh
      rw [List.eq_nil_of_length_eq_zero h3] at hm
      cases hm
   ·rw [if_pos (by simpa using h3)] at he
    cases he
  ·rw [if_pos (by simpa using h2)] at he
   exact absurd he h2
 ·rw [if_pos (by simpa using h1)] at he
  exact absurd he h1
end Go.Proofs.YtidakgbibobbdaaGreatDoor

namespace Go.Proofs.YtidakgbibobbdaaGreatDoor
open Go Go.RowKit
def idxL1 {α : Type} (xs : List α) (f : α → Option Bool) (st : Int) : Option (Int ⊕ (Unit ⊕ Int)) :=
 if decide (st < (xs.length : Int)) then
  (idx xs st).bind fun x =>
  (f x).bind fun r =>
  if r then some (.inr (.inr st)) else some (.inl (W (st + 1)))
 else
  some (.inr (.inl ()))
theorem idxL_ex {α : Type} {xs : List α} {f : α → Option Bool} {g : α → Bool} (hf : ∀ x ∈ xs, f x = some (g x)) (hl : xs.length < 4611686018427387904) :
  ∃ o, iter (idxL1 xs f) 0 = some o ∧ ((o = .inl () ∧ ∀ x ∈ xs, g x = false) ∨ ∃ k : Nat, ∃ hk : k < xs.length, o = .inr (k : Int) ∧ g xs[k] = true ∧ ∀ j (hj : j < xs.length), j < k → g xs[j] = false) := by
 refine iter_inv (f := idxL1 xs f) (fun i s => s = (i : Int) ∧ ∀ j (hj : j < xs.length), j < i → g xs[j] = false) (fun o => (o = .inl () ∧ ∀ x ∈ xs, g x = false) ∨ ∃ k : Nat, ∃ hk : k < xs.length, o = .inr (k : Int) ∧ g xs[k] = true ∧ ∀ j (hj : j < xs.length), j < k → g xs[j] = false) xs.length 0 (by omega) (fun i s hi ⟨e1, g1⟩ => ?_) (fun s ⟨e1, g1⟩ => ?_) (Nat.zero_le _) 0 ⟨rfl, fun j hj h => by omega⟩
 ·subst e1
  rw [idxL1, if_pos (ct_lt hi), idx_at hi, Option.bind_some, hf _ (List.getElem_mem hi), Option.bind_some]
  cases hg : g xs[i]
  ·rw [if_neg (by simp), nxt (by omega)]
   refine .inl ⟨_, rfl, rfl, fun j hj h => ?_⟩
   by_cases e : j = i
   ·subst e; exact hg
   ·exact g1 j hj (by omega)
  ·rw [if_pos rfl]
   exact .inr ⟨_, rfl, .inr ⟨i, hi, rfl, hg, g1⟩⟩
 ·subst e1
  rw [idxL1, if_neg ct_ge]
  refine ⟨_, rfl, .inl ⟨rfl, fun x hx => ?_⟩⟩
  obtain ⟨j, hj, rfl⟩ := List.getElem_of_mem hx
  exact g1 j hj hj
theorem idxE_ex {xs : List (Int × Int × Int)} {f : Int × Int × Int → Option Bool} {g : Int × Int × Int → Bool} (hf : ∀ x ∈ xs, f x = some (g x)) (hl : xs.length < 4611686018427387904) :
  ∃ r, m_slices_IndexFunc_Edge xs f = some r ∧ ((r = -1 ∧ ∀ x ∈ xs, g x = false) ∨ ∃ k : Nat, ∃ hk : k < xs.length, r = (k : Int) ∧ g xs[k] = true ∧ ∀ j (hj : j < xs.length), j < k → g xs[j] = false) := by
 obtain ⟨o, h1, h2⟩ := idxL_ex hf hl
 have h1 : iter (m_slices_IndexFunc_Edge_l1 xs f) 0 = some o := h1
 rw [m_slices_IndexFunc_Edge, h1, Option.bind_some]
 rcases h2 with ⟨rfl, h3⟩ | ⟨k, hk, rfl, h3, h4⟩
 ·exact ⟨_, rfl, .inl ⟨rfl, h3⟩⟩
 ·exact ⟨_, rfl, .inr ⟨k, hk, rfl, h3, h4⟩⟩
theorem idxI_ex {xs : List Int} {f : Int → Option Bool} {g : Int → Bool} (hf : ∀ x ∈ xs, f x = some (g x)) (hl : xs.length < 4611686018427387904) :
  ∃ r, m_slices_IndexFunc_int xs f = some r ∧ ((r = -1 ∧ ∀ x ∈ xs, g x = false) ∨ ∃ k : Nat, ∃ hk : k < xs.length, r = (k : Int) ∧ g xs[k] = true ∧ ∀ j (hj : j < xs.length), j < k → g xs[j] = false) := by
 obtain ⟨o, h1, h2⟩ := idxL_ex hf hl
 have h1 : iter (m_slices_IndexFunc_int_l1 xs f) 0 = some o := h1
 rw [m_slices_IndexFunc_int, h1, Option.bind_some]
 rcases h2 with ⟨rfl, h3⟩ | ⟨k, hk, rfl, h3, h4⟩
 ·exact ⟨_, rfl, .inl ⟨rfl, h3⟩⟩
 ·exact ⟨_, rfl, .inr ⟨k, hk, rfl, h3, h4⟩⟩
theorem word_eq {g : GrT} {a : AutT} {n : Nat} (hg : GrOk g a) (hr : Right a n) (hn : Num (edsOf a) n) {k : Nat} (hk : k < n) (hnl : n ≤ 4096) : m_scan_graph_word g (k : Int) = some (wN (edsOf a) (k : Int)) := by
 have hl3 := hr.l3
 obtain ⟨o, h1, h2, h3⟩ := iter_inv (f := m_scan_graph_word_l1 g) (fun i s => ∃ k' : Nat, s.2 = (k' : Int) ∧ k' + i ≤ k ∧ s.1.length ≤ i ∧ wN (edsOf a) (k : Int) = wN (edsOf a) (k' : Int) ++ s.1.reverse) (fun o => wN (edsOf a) (k : Int) = o.reverse ∧ o.length ≤ k) k 0 (by omega) (fun i s hi ⟨k', e1, g1, g2, g3⟩ => by
   obtain ⟨out, c⟩ := s
   dsimp only at e1 g2 g3
   subst e1
   rw [m_scan_graph_word_l1]
   dsimp only
   by_cases h0 : 0 < k'
   ·left
    rw [if_pos (by simp; omega), hg.1]
    obtain ⟨x, hx, hf, ht, hx0, hxk, hw⟩ := hn.step h0 (by omega)
    obtain ⟨r, q1, q2⟩ := idxE_ex (xs := a.2.2.2) (f := m_scan_graph_word_1 (k' : Int)) (g := fun y => y.2.2 == (k' : Int)) (fun y _ => rfl) (by omega)
    rw [q1, Option.bind_some]
    rcases q2 with ⟨_, q3⟩ | ⟨j, hj, rfl, q3, q4⟩
    ·obtain ⟨y, hy, rfl⟩ := List.mem_map.1 hx
     have := q3 y hy
     have ht : y.2.2 = (k' : Int) := ht
     simp [ht] at this
    ·have he : toEd a.2.2.2[j] = x := by
      have : (edsOf a).find? (fun y => y.t == (k' : Int)) = some (toEd a.2.2.2[j]) := by
       rw [List.find?_eq_some_iff_getElem]
       refine ⟨q3, j, by simpa [edsOf] using hj, by simp [edsOf], fun i hi => ?_⟩
       have := q4 i (by omega) hi
       have e2 : (edsOf a)[i]'(by simp [edsOf]; omega) = toEd a.2.2.2[i] := by simp [edsOf]
       rw [e2]
       show (!(a.2.2.2[i].2.2 == (k' : Int))) = true
       rw [this]
       rfl
      rw [hf] at this
      exact (Option.some.inj this).symm
     rw [idx_at hj, Option.bind_some, app_eq (by simp; omega), Option.bind_some, Option.bind_some]
     refine ⟨_, rfl, x.f.toNat, ?_, by omega, by simp; omega, ?_⟩
     ·dsimp only
      rw [← he]
      rw [← he] at hx0
      exact (Int.toNat_of_nonneg hx0).symm
     ·dsimp only
      rw [g3, hw, Int.toNat_of_nonneg hx0, List.reverse_append, List.reverse_singleton, List.append_assoc, ← he]
      rfl
   ·right
    obtain rfl : k' = 0 := by omega
    rw [if_neg (by simp)]
    exact ⟨_, rfl, by rw [g3]; rfl, by omega⟩) (fun s ⟨k', e1, g1, g2, g3⟩ => by
   obtain ⟨out, c⟩ := s
   dsimp only at e1 g2 g3
   subst e1
   rw [m_scan_graph_word_l1]
   dsimp only
   obtain rfl : k' = 0 := by omega
   rw [if_neg (by simp)]
   exact ⟨_, rfl, by rw [g3]; rfl, by omega⟩) (Nat.zero_le _) ([], (k : Int)) ⟨k, rfl, by omega, by simp, by simp⟩
 rw [m_scan_graph_word, h1, Option.bind_some, m_slices_Reverse_int, if_pos (by omega), Option.bind_some, lenEq, if_pos (by simp), Option.bind_some, h2]
def hdl (S : AutT) : Int → List Int → Int × Nat
 | s, [] => (s, 0)
 | s, e :: l => if hasB S.1 e = true then (match st1 S s e with
   | none => (s, 0)
   | some u => ((hdl S u l).1, (hdl S u l).2 + 1)) else ((hdl S s l).1, (hdl S s l).2 + 1)
theorem handle_eq {q : ProbT} {t : TaskT} {p : AutT} {T : List (List Int)} {n1 n2 n : Nat} (h : TaskOk q t p T n1 n2 n) (s : Int) {l : List Int} (hl : l.length ≤ 1000000) : m_scan_task_handle t s l = some ((hdl q.2.1 s l).1, ((hdl q.2.1 s l).2 : Int)) := by
 obtain ⟨o, h1, h2⟩ := iter_inv (f := m_scan_task_handle_l1 t l) (fun i st => st.1 = (i : Int) ∧ hdl q.2.1 s l = ((hdl q.2.1 st.2 (l.drop i)).1, i + (hdl q.2.1 st.2 (l.drop i)).2)) (fun o => (match o with
   | .inl u => (u, (l.length : Int))
   | .inr u => (u.2, u.1)) = ((hdl q.2.1 s l).1, ((hdl q.2.1 s l).2 : Int))) l.length 0 (by omega) (fun i st hi ⟨e1, g1⟩ => by
   obtain ⟨k, c⟩ := st
   dsimp only at e1 g1
   subst e1
   rw [List.drop_eq_getElem_cons hi, hdl] at g1
   rw [m_scan_task_handle_l1]
   dsimp only
   rw [if_pos (ct_lt hi), idx_at hi, Option.bind_some, h.g2.1, containsA_eq (by have := h.rS.l1; omega) h.rS.ali, Option.bind_some]
   cases hb : hasB q.2.1.1 l[i]
   ·left
    rw [hb, if_neg (by simp)] at g1
    rw [if_pos (by rfl), m_scan_task_handle_j1]
    dsimp only
    rw [nxt (by omega)]
    refine ⟨_, rfl, rfl, ?_⟩
    dsimp only
    rw [g1]
    congr 1
    omega
   ·rw [hb, if_pos rfl] at g1
    rw [if_neg (by simp), to_eq h.g2, Option.bind_some]
    cases hs : st1 q.2.1 c l[i] with
    | none =>
     right
     rw [hs] at g1
     rw [if_pos (by rfl)]
     refine ⟨_, rfl, ?_⟩
     dsimp only at g1 ⊢
     rw [g1]
     rfl
    | some u =>
     left
     rw [hs] at g1
     have := st1_rng h.rS hs
     rw [if_neg (by simp; omega), m_scan_task_handle_j1]
     dsimp only [Option.getD]
     rw [nxt (by omega)]
     refine ⟨_, rfl, rfl, ?_⟩
     dsimp only at g1 ⊢
     rw [g1]
     congr 1
     omega) (fun st ⟨e1, g1⟩ => by
   obtain ⟨k, c⟩ := st
   dsimp only at e1 g1
   subst e1
   rw [m_scan_task_handle_l1]
   dsimp only
   rw [if_neg ct_ge]
   refine ⟨_, rfl, ?_⟩
   rw [List.drop_length, hdl] at g1
   dsimp only at g1 ⊢
   rw [g1]
   rfl) (Nat.zero_le _) (0, s) ⟨rfl, by simp⟩
 rw [m_scan_task_handle, h1, Option.bind_some, ← h2]
 cases o <;> rfl
theorem rng_app : ∀ (xs : List Int) (m k : Nat) (a : List Int), k + m = xs.length → a.length + m ≤ 4294967296 → rngF (fun k => m_slices_AppendSeq_int_l1 (xs.getD k 0)) m k a = some (a ++ xs.drop k)
 | xs, 0, k, a, e, hl => by
  rw [rngF, List.drop_of_length_le (by omega), List.append_nil]
 | xs, m + 1, k, a, e, hl => by
  have hk : k < xs.length := by omega
  rw [rngF, m_slices_AppendSeq_int_l1, app_eq (by simp; omega), Option.bind_some, Option.bind_some, rng_app xs m (k + 1) _ (by omega) (by simp; omega), List.drop_eq_getElem_cons hk, List.getD_eq_getElem?_getD, List.getElem?_eq_getElem hk]
  simp
theorem sorted_eq {l : List Int} (hl : l.length ≤ 1000000) : m_slices_Sorted_int l = some (isL l) := by
 have hlen : (isL l).length = l.length := (isL_perm l).length_eq
 rw [m_slices_Sorted_int, m_slices_Collect_int, m_slices_AppendSeq_int, rng_app l l.length 0 [] (by omega) (by simp; omega), Option.bind_some, Option.bind_some, Option.bind_some, List.drop_zero, List.nil_append, m_slices_Sort_int, if_pos (by omega), Option.bind_some, lenEq, if_pos hlen, Option.bind_some]
def okB (S : AutT) (y : Int) (l : List Int) : Bool := ((((hdl S y l).2 : Int) == (l.length : Int)) && (((hdl S y (isL l)).2 : Int) == (l.length : Int))) && ((hdl S y l).1 == (hdl S y (isL l)).1)
theorem ordered_eq {q : ProbT} {t : TaskT} {p : AutT} {T : List (List Int)} {n1 n2 n : Nat} (h : TaskOk q t p T n1 n2 n) {k : Nat} {x y : Int} (hk : T[k]? = some [x, y]) {l : List Int} (hl : l.length ≤ 1000000) : m_scan_task_ordered t (k : Int) l = some (okB q.2.1 y l) := by
 have hlen : (isL l).length = l.length := (isL_perm l).length_eq
 rw [m_scan_task_ordered, h.tt, idx_nat, hk, Option.bind_some, show idx [x, y] 1 = some y from rfl, Option.bind_some, handle_eq h y hl, Option.bind_some, m_slices_Values_int, if_pos (by omega), Option.bind_some, sorted_eq hl, Option.bind_some, handle_eq h y (by omega), Option.bind_some]
 rfl
end Go.Proofs.YtidakgbibobbdaaGreatDoor

