/- Parts of the proof, without what nothing here names. -/
import Derived.Test.YtfbapajcheammaaGreatDoorProg
import Derived.Test.YtfbapajcheammaaGreatDoorQT4
set_option maxRecDepth 100000
set_option maxHeartbeats 8000000
namespace Go.Proofs.YtfbapajcheammaaGreatDoor
open Go Go.RowKit
theorem cf128 : Cf Tryz.prog 128 := Cf.mk Tryz.func128 (by kernel_rfl) (by kernel_rfl)
theorem cf129 : Cf Tryz.prog 129 := Cf.mk Tryz.func129 (by kernel_rfl) (by kernel_rfl)
theorem cf64 : Cf Tryz.prog 64 := Cf.mk Tryz.func64 (by kernel_rfl) (by kernel_rfl)
noncomputable def m_reach_Interior_j1 (st139 : Int × Bool × List Bool) (b145 : Bool) (l146 : List Bool) : Option ((Int × Bool × List Bool) ⊕ (Bool × List Bool)) :=
 some (.inl (W (st139.1 + 1), b145, l146))
noncomputable def m_reach_Interior_l2 (p0 : AutT) (p2 : List Int) (st139 : Int × Bool × List Bool) : Option ((Int × Bool × List Bool) ⊕ (Bool × List Bool)) :=
 if decide (st139.1 < (p0.2.2.2.length : Int)) then
  (idx p0.2.2.2 st139.1).bind fun x149 =>
  (idx st139.2.2 x149.1).bind fun x156 =>
  (if x156 then
   (idx st139.2.2 x149.2.2).bind fun x173 =>
   some (!x173)
  else
   some false).bind fun b158 =>
  (if b158 then
   (m_slices_Contains_int p2 x149.2.1).bind fun r169 =>
   some r169
  else
   some false).bind fun b160 =>
  if b160 then
   (idx st139.2.2 x149.1).bind fun x163 =>
   (upd st139.2.2 x149.1 false).bind fun x165 =>
   m_reach_Interior_j1 st139 true x165
  else
   m_reach_Interior_j1 st139 st139.2.1 st139.2.2
 else
  some (.inr st139.2)
noncomputable def m_reach_Interior_l1 (p0 : AutT) (p2 : List Int) (st93 : Bool × List Bool) : Option ((Bool × List Bool) ⊕ (List Bool)) :=
 if st93.1 then
  (iter (m_reach_Interior_l2 p0 p2) (0, false, st93.2)).bind fun o139 =>
  some (.inl o139)
 else
  some (.inr st93.2)
noncomputable def m_reach_Interior (p0 : AutT) (p1 : List Int) (p2 : List Int) : Option (List Int × Int) :=
 (m_reach_closure p0 p1 p2).bind fun r10 =>
 if (r10 != 0) then
  some (([] : List Int), r10)
 else
  (m_reach_flags p0 p1).bind fun r13 =>
  (iter (m_reach_Interior_l1 p0 p2) (true, r13)).bind fun o93 =>
  (m_reach_list o93).bind fun r98 =>
  some (r98, 0)
theorem m_reach_Interior_c {s : Sig} {p0 : AutT} {p1 : List Int} {p2 : List Int} {a1 : Option Addr} {c1 : Nat} {a2 : Option Addr} {c2 : Nat} {a3 : Option Addr} {c3 : Nat} {a4 : Option Addr} {c4 : Nat} {a5 : Option Addr} {c5 : Nat} {u0 : Nat} {r : List Int × Int} (h1 : RdL qI s a1 c1 p0.1) (h2 : RdL qI s a2 c2 p0.2.2.1) (h3 : RdL qT s a3 c3 p0.2.2.2) (h4 : RdL qI s a4 c4 p1) (h5 : RdL qI s a5 c5 p2) (hm : m_reach_Interior p0 p1 p2 = some r) :
    Calls Tryz.prog 93 #[.agg #[.slice a1 p0.1.length c1, .int .i64 p0.2.1, .slice a2 p0.2.2.1.length c2, .slice a3 p0.2.2.2.length c3], .slice a4 p1.length c4, .slice a5 p2.length c5] s.w (RetS No s fun v s' => ∃ (a6 : Option Addr) (c6 : Nat), v = .tuple #[.slice a6 r.1.length c6, .int .i64 r.2] ∧ RowT qI s' u0 3 a6 c6 r.1) := by
 unfold m_reach_Interior at hm
 obtain ⟨N, hN, hNb⟩ := s.fresh
 have m0 : Mv (Up N No) s s := Mv.refl _ _
 refine E.entry Tryz.func93 R Tryz.ntmps93 R R (ER (L.box (N + 0) Y R R R fun b7 s8 m9 bx7 => ?_))
 replace h4 := h4.mono m9.z
 replace h5 := h5.mono m9.z
 replace h1 := h1.mono m9.z
 replace h2 := h2.mono m9.z
 replace h3 := h3.mono m9.z
 refine L.as Y R R (L.as Y R R (LN (E.seq (ER (L.lg (j := 0) (cs := [.slice a1 p0.1.length c1, .int .i64 p0.2.1, .slice a2 p0.2.2.1.length c2, .slice a3 p0.2.2.2.length c3]) bx7.mem ag30 Y R R R R R (L.mv Y R R (L.mv Y R R ?_)))))))
 obtain ⟨r10, er10, hm⟩ := bindS hm
 refine L.ca cf128 R R Y R (m_reach_closure_c (s := s8) (p0 := p0) (p1 := p1) (p2 := p2) h1 h2 h3 h4 h5 er10) R ?_
 rintro _ s11 m12 rfl
 replace m0 := (m0.trans m9.no).trans m12.no
 replace h4 := h4.mono m12.z
 replace bx7 := bx7.mv m12 no_No
 replace h1 := h1.mono m12.z
 replace h2 := h2.mono m12.z
 replace h3 := h3.mono m12.z
 refine L.as Y R R (LN (ER (L.mv Y R R (L.bi Y R R R R (L.nil (X.seqN ?_))))))
 rcases ifS hm with ⟨hc, hm⟩ | ⟨hc, hm⟩
 ·refine E.cT R hc (ER (L.mv Y R R (L.as Y R R (L.as Y R R (LN (E.ret (X.seqR ?_)))))))
  obtain rfl := oi hm
  exact X.rt (.inl R) Tryz.results93 (Rs.tmp R (Rs.tmp R Rs.nil)) R ⟨_, (s11).ren N (fun _ => 0), R, R, m0.ren hNb, ⟨none, 0, R, RowT.nil⟩⟩
 refine E.cF R hc (E.skip (X.seqN (ER (L.lg (j := 0) (cs := [.slice a1 p0.1.length c1, .int .i64 p0.2.1, .slice a2 p0.2.2.1.length c2, .slice a3 p0.2.2.2.length c3]) bx7.mem ag30 Y R R R R R (L.mv Y R R ?_)))))
 obtain ⟨r13, er13, hm⟩ := bindS hm
 refine L.ca cf64 R R Y R (m_reach_flags_c (s := s11) (p0 := p0) (p1 := p1) (u0 := (N + 2)) h1 h2 h3 h4 er13) R ?_
 rintro _ s14 m15 ⟨a16, c16, rfl, h16⟩
 replace m0 := m0.trans m15.no
 replace h5 := (h5.mono m12.z).mono m15.z
 replace bx7 := bx7.mv m15 no_No
 replace h1 := h1.mono m15.z
 replace h2 := h2.mono m15.z
 replace h3 := h3.mono m15.z
 refine L.as Y R R (LN (E.seq (ER (L.as Y R R (LN (E.block ?_))))))
 obtain ⟨o93, eo93, hm⟩ := bindS hm
 refine E.cut (x := .exit 0) (fun e w => ∃ (s96 : Sig), Mv (Up N No) s s96 ∧ RowT rB s96 (N + 2) 4 a16 c16 o93 ∧ e = [(9, .slice a16 o93.length c16)] ∧ w = s96.w) ?_ ?_
 ·rintro _ _ ⟨s96, m0, h16, rfl, rfl⟩
  refine X.blkE (X.seqN (ER (L.mv Y R R ?_)))
  have m97 := Sig.fz_mv (N + 2) s96
  replace h16 := h16.fz (tgn hN)
  refine L.toR (s' := (Sig.fz (N + 2) s96)) R ?_
  obtain ⟨r98, er98, hm⟩ := bindS hm
  refine L.ca cf129 R R Y R (m_reach_list_c (s := (Sig.fz (N + 2) s96)) (p0 := o93) (u0 := (N + 3)) h16 er98) R ?_
  rintro _ s99 m100 ⟨a101, c101, rfl, h101⟩
  replace m0 := (m0.trans (m97.one up)).trans m100.no
  refine L.as Y R R (L.as Y R R (LN (E.ret ?_)))
  obtain rfl := oi hm
  exact X.rt (.inl R) Tryz.results93 (Rs.tmp R (Rs.tmp R Rs.nil)) R ⟨_, (s99).ren N (fun k => cond (Nat.beq k 3) u0 (0)), R, R, m0.ren hNb, ⟨a101, c101, R, (h101.ren hN)⟩⟩
 intro K102
 refine E.iter (fun (st93 : Bool × List Bool) (e : List (Nat × Value)) (w : World) => ∃ (s95 : Sig), Mv (Up N No) s s95 ∧ RowT rB s95 (N + 2) 4 a16 c16 st93.2 ∧ RdL qI s95 a5 c5 p2 ∧ RdL qI s95 a1 c1 p0.1 ∧ RdL qI s95 a2 c2 p0.2.2.1 ∧ RdL qT s95 a3 c3 p0.2.2.2 ∧ Bx s95 (N + 0) b7 #[.slice a1 p0.1.length c1, .int .i64 p0.2.1, .slice a2 p0.2.2.1.length c2, .slice a3 p0.2.2.2.length c3] 30 ∧ e = [(10, .bool st93.1), (9, .slice a16 st93.2.length c16), (3, .pointer (some ⟨b7, 0, none⟩)), (2, .slice a5 p2.length c5)] ∧ w = s95.w) eo93 ⟨s14, m0, h16, h5, h1, h2, h3, bx7, R, R⟩ (Sub.rf R) ?_
 rintro st93 res93 hm ih93 ho93 _ _ ⟨s95, m0, h16, h5, h1, h2, h3, bx7, rfl, rfl⟩
 unfold m_reach_Interior_l1 at hm
 refine E.seq (ER (L.mv Y R R (L.nil (X.seqN ?_))))
 rcases ifS hm with ⟨hc, hm⟩ | ⟨hc, hm⟩
 ·refine E.cT R hc (E.skip (X.seqN (E.block (ER (L.as Y R R (LN (ER (L.fa fa30_3 Y R R (L.ld (j := 3) bx7.mem nag28 Y R R R R (L.len sl28 Y R R (L.mv Y R R (LN (E.block ?_)))))))))))))
  obtain ⟨o139, eo139, hm⟩ := bindS hm
  refine E.cut (x := .exit 2) (fun e w => ∃ (s143 : Sig), Mv (Up N No) s s143 ∧ RowT rB s143 (N + 2) 4 a16 c16 o139.2 ∧ RdL qI s143 a5 c5 p2 ∧ RdL qI s143 a1 c1 p0.1 ∧ RdL qI s143 a2 c2 p0.2.2.1 ∧ RdL qT s143 a3 c3 p0.2.2.2 ∧ Bx s143 (N + 0) b7 #[.slice a1 p0.1.length c1, .int .i64 p0.2.1, .slice a2 p0.2.2.1.length c2, .slice a3 p0.2.2.2.length c3] 30 ∧ e = [(10, .bool o139.1), (9, .slice a16 o139.2.length c16), (3, .pointer (some ⟨b7, 0, none⟩)), (2, .slice a5 p2.length c5)] ∧ w = s143.w) ?_ ?_
  ·rintro _ _ ⟨s143, m0, h16, h5, h1, h2, h3, bx7, rfl, rfl⟩
   exact X.blkE (X.blkN (X.sub (ih93 _ (oi hm).symm _ _ ⟨s143, m0, h16, h5, h1, h2, h3, bx7, R, R⟩) (Sub.rf R)))
  intro K144
  refine E.iter (fun (st139 : Int × Bool × List Bool) (e : List (Nat × Value)) (w : World) => ∃ (s142 : Sig), Mv (Up N No) s s142 ∧ RdL qT s142 a3 c3 p0.2.2.2 ∧ RowT rB s142 (N + 2) 4 a16 c16 st139.2.2 ∧ RdL qI s142 a5 c5 p2 ∧ RdL qI s142 a1 c1 p0.1 ∧ RdL qI s142 a2 c2 p0.2.2.1 ∧ Bx s142 (N + 0) b7 #[.slice a1 p0.1.length c1, .int .i64 p0.2.1, .slice a2 p0.2.2.1.length c2, .slice a3 p0.2.2.2.length c3] 30 ∧ e = [(27, .int .i64 st139.1), (26, .int .i64 (p0.2.2.2.length : Int)), (25, .slice a3 p0.2.2.2.length c3), (10, .bool st139.2.1), (9, .slice a16 st139.2.2.length c16), (3, .pointer (some ⟨b7, 0, none⟩)), (2, .slice a5 p2.length c5)] ∧ w = s142.w) eo139 ⟨s95, m0, h3, h16, h5, h1, h2, bx7, R, R⟩ (Sub.rf R) ?_
  rintro st139 res139 hm ih139 ho139 _ _ ⟨s142, m0, h3, h16, h5, h1, h2, bx7, rfl, rfl⟩
  unfold m_reach_Interior_l2 at hm
  refine ER (L.bi Y R R R R (LN (E.seq ?_)))
  rcases ifS hm with ⟨hc, hm⟩ | ⟨hc, hm⟩
  ·refine E.cT R hc (E.skip (X.seqN (E.seqJ (fun e w => ∃ (s147 : Sig) (b145 : Bool) (l146 : List Bool), m_reach_Interior_j1 st139 b145 l146 = some res139 ∧ Mv (Up N No) s s147 ∧ RowT rB s147 (N + 2) 4 a16 c16 l146 ∧ RdL qT s147 a3 c3 p0.2.2.2 ∧ RdL qI s147 a5 c5 p2 ∧ RdL qI s147 a1 c1 p0.1 ∧ RdL qI s147 a2 c2 p0.2.2.1 ∧ Bx s147 (N + 0) b7 #[.slice a1 p0.1.length c1, .int .i64 p0.2.1, .slice a2 p0.2.2.1.length c2, .slice a3 p0.2.2.2.length c3] 30 ∧ e = [(10, .bool b145), (9, .slice a16 l146.length c16), (27, .int .i64 st139.1), (26, .int .i64 (p0.2.2.2.length : Int)), (25, .slice a3 p0.2.2.2.length c3), (3, .pointer (some ⟨b7, 0, none⟩)), (2, .slice a5 p2.length c5)] ∧ w = s147.w) ?_ ?_)))
   ·rintro _ _ ⟨s147, b145, l146, hm, m0, h16, h3, h5, h1, h2, bx7, rfl, rfl⟩
    unfold m_reach_Interior_j1 at hm
    exact E.reg (L.bi Y R R R R (L.mv Y R R (L.nil (X.sub (ih139 _ (oi hm).symm _ _ ⟨s147, m0, h3, h16, h5, h1, h2, bx7, R, R⟩) (Sub.rf R)))))
   intro Jj148
   refine E.block (E.seq (E.reg ?_))
   obtain ⟨x149, ex149, hm⟩ := bindS hm
   refine L.ix (r := qT) sl28 h3 Y R R ex149 R fun b150 o150 cc150 me150 rd150 => ?_
   obtain ⟨_, _, rfl, rfl, ⟨_, _, rfl, rfl, rfl⟩⟩ := rd150
   refine L.lg (j := 0) (cs := [.int .i64 x149.1, .int .i64 x149.2.1, .int .i64 x149.2.2]) me150 ag62 Y R R R R R (L.al (N + 1) zz62 R Y R fun b151 s152 m153 bx151 => ?_)
   refine L.st (c := [.int .i64 x149.1, .int .i64 x149.2.1, .int .i64 x149.2.2]) (cs' := #[.int .i64 x149.1, .int .i64 x149.2.1, .int .i64 x149.2.2]) bx151 ag62.sz Y R R R R R (nb R) R fun s154 m155 bx151 => ?_
   replace m0 := (m0.trans m153.no).trans (m155.one up)
   replace h5 := (h5.mono m153.z).mono (m155.le (tg0 hN))
   replace h16 := (h16.mv m153 no_No no_No).mv m155 (tq R) (tg0 hN)
   replace h3 := (h3.mono m153.z).mono (m155.le (tg0 hN))
   replace bx7 := (bx7.mv m153 no_No).mv m155 (tq R)
   replace h1 := (h1.mono m153.z).mono (m155.le (tg0 hN))
   replace h2 := (h2.mono m153.z).mono (m155.le (tg0 hN))
   refine LN (ER (L.mv Y R R (L.fa fa62_0 Y R R (L.ld (j := 0) bx151.mem nag3 Y R R R R ?_))))
   obtain ⟨x156, ex156, hm⟩ := bindS hm
   refine L.ir (r := rB) sl55 h16 Y R R ex156 R fun b157 o157 cc157 me157 rd157 sp157 => ?_
   obtain rfl := rd157
   refine L.ld (j := 0) me157 nag4 Y R R R R (L.mv Y R R ?_)
   obtain ⟨b158, eb158, hm⟩ := bindS hm
   refine L.cut 7 (fun e w => ∃ (v159 : Bool), b158 = v159 ∧ e = (43, .bool v159) :: [(12, .pointer (some ⟨b151, 0, none⟩)), (27, .int .i64 st139.1), (26, .int .i64 (p0.2.2.2.length : Int)), (25, .slice a3 p0.2.2.2.length c3), (10, .bool st139.2.1), (9, .slice a16 st139.2.2.length c16), (3, .pointer (some ⟨b7, 0, none⟩)), (2, .slice a5 p2.length c5)] ∧ w = s154.w) ?_ ?_
   ·rintro _ _ ⟨v159, rfl, rfl, rfl⟩
    refine L.mv Y R R ?_
    obtain ⟨b160, eb160, hm⟩ := bindS hm
    refine L.cut 5 (fun e w => ∃ (s162 : Sig) (v161 : Bool), b160 = v161 ∧ Mv (Up N No) s s162 ∧ RdL qT s162 a3 c3 p0.2.2.2 ∧ RowT rB s162 (N + 2) 4 a16 c16 st139.2.2 ∧ RdL qI s162 a5 c5 p2 ∧ RdL qI s162 a1 c1 p0.1 ∧ RdL qI s162 a2 c2 p0.2.2.1 ∧ Bx s162 (N + 0) b7 #[.slice a1 p0.1.length c1, .int .i64 p0.2.1, .slice a2 p0.2.2.1.length c2, .slice a3 p0.2.2.2.length c3] 30 ∧ Bx s162 (N + 1) b151 #[.int .i64 x149.1, .int .i64 x149.2.1, .int .i64 x149.2.2] 62 ∧ e = (49, .bool v161) :: [(12, .pointer (some ⟨b151, 0, none⟩)), (27, .int .i64 st139.1), (26, .int .i64 (p0.2.2.2.length : Int)), (25, .slice a3 p0.2.2.2.length c3), (10, .bool st139.2.1), (9, .slice a16 st139.2.2.length c16), (3, .pointer (some ⟨b7, 0, none⟩)), (2, .slice a5 p2.length c5)] ∧ w = s162.w) ?_ ?_
    ·rintro _ _ ⟨s162, v161, rfl, m0, h3, h16, h5, h1, h2, bx7, bx151, rfl, rfl⟩
     refine L.nil (X.seqN ?_)
     rcases ifS hm with ⟨hc, hm⟩ | ⟨hc, hm⟩
     ·refine E.cT R hc (ER (L.mv Y R R (L.fa fa62_0 Y R R (L.ld (j := 0) bx151.mem nag3 Y R R R R ?_))))
      obtain ⟨x163, ex163, hm⟩ := bindS hm
      refine L.ir (r := rB) sl55 h16 Y R R ex163 R fun b164 o164 cc164 me164 rd164 sp164 => ?_
      obtain rfl := rd164
      obtain ⟨x165, ex165, hm⟩ := bindS hm
      have elx165 := upd_len ex165
      refine L.su (fo := 0) (c := [.bool false]) (z := false) h16 sp164 ex163 ex165 (tgp hN) nag4.sz Y R R R R R R (fun c0 hc0 => by obtain rfl := hc0; exact R) fun s166 m167 h16 => ?_
      replace m0 := m0.trans (m167.one up)
      replace h5 := h5.mono (m167.le (tg0 hN))
      replace h3 := h3.mono (m167.le (tg0 hN))
      replace bx7 := bx7.mv m167 (tq R)
      replace h1 := h1.mono (m167.le (tg0 hN))
      replace h2 := h2.mono (m167.le (tg0 hN))
      exact L.reval (d := 9) R elx165 (LN (E.reg (L.as Y R R (L.nil (X.blkN (X.sub (Jj148 _ _ ⟨s166, true, x165, hm, m0, h16, h3, h5, h1, h2, bx7, R, R⟩) (Sub.rf R)))))))
     exact E.cF R hc (E.skip (X.blkN (X.sub (Jj148 _ _ ⟨s162, st139.2.1, st139.2.2, hm, m0, h16, h3, h5, h1, h2, bx7, R, R⟩) (Sub.rf R))))
    intro J168
    rcases ifS eb160 with ⟨hc, hm⟩ | ⟨hc, hm⟩
    ·refine L.know (d := 44) R hc (L.mv (Wt.mk R R) R R (L.fa fa62_1 (Wt.mk R R) R R (L.ld (j := 1) bx151.mem nag3 (Wt.mk R R) R R R R ?_)))
     obtain ⟨r169, er169, hm⟩ := bindS hm
     refine L.ca cf40 R R (Wt.mk R R) R (m_slices_Contains_int_c (s := s154) (p0 := p2) (p1 := x149.2.1) h5 er169) R ?_
     rintro _ s170 m171 rfl
     replace m0 := m0.trans m171.no
     replace h5 := h5.mono m171.z
     replace h16 := h16.mv m171 no_No no_No
     replace h3 := h3.mono m171.z
     replace bx7 := bx7.mv m171 no_No
     replace h1 := h1.mono m171.z
     replace h2 := h2.mono m171.z
     replace bx151 := bx151.mv m171 no_No
     exact L.pkT Y R R R R (L.sb (J168 _ _ ⟨s170, r169, (oi hm).symm, m0, h3, h16, h5, h1, h2, bx7, bx151, R, R⟩) R)
    exact L.know (d := 44) R hc (L.skip R R R R (L.skip R R R R (L.skip R R R R (L.skip R R R R (L.pkF Y R R R R (L.sb (J168 _ _ ⟨s154, false, (oi hm).symm, m0, h3, h16, h5, h1, h2, bx7, bx151, R, R⟩) R))))))
   intro J172
   rcases ifS eb158 with ⟨hc, hm⟩ | ⟨hc, hm⟩
   ·refine L.know (d := 36) R hc (L.mv (Wt.mk R R) R R (L.fa fa62_2 (Wt.mk R R) R R (L.ld (j := 2) bx151.mem nag3 (Wt.mk R R) R R R R ?_)))
    obtain ⟨x173, ex173, hm⟩ := bindS hm
    refine L.ir (r := rB) sl55 h16 (Wt.mk R R) R R ex173 R fun b174 o174 cc174 me174 rd174 sp174 => ?_
    obtain rfl := rd174
    exact L.ld (j := 0) me174 nag4 (Wt.mk R R) R R R R (L.not (Wt.mk R R) R R (L.pkT Y R R R R (L.sb (J172 _ _ ⟨(!x173), (oi hm).symm, R, R⟩) R)))
   exact L.know (d := 36) R hc (L.skip R R R R (L.skip R R R R (L.skip R R R R (L.skip R R R R (L.skip R R R R (L.skip R R R R (L.pkF Y R R R R (L.sb (J172 _ _ ⟨false, (oi hm).symm, R, R⟩) R))))))))
  refine E.cF R hc (E.exit (X.seqX (X.seqX ?_)))
  have hx := ho139 _ (oi hm).symm
  subst hx
  exact X.sub (K144 _ _ ⟨s142, m0, h16, h5, h1, h2, h3, bx7, R, R⟩) (Sub.rf R)
 refine E.cF R hc (E.exit (X.seqX (X.seqX ?_)))
 have hx := ho93 _ (oi hm).symm
 subst hx
 exact X.sub (K102 _ _ ⟨s95, m0, h16, R, R⟩) (Sub.rf R)

noncomputable def m_overseerlaw04_same_l1 (p0 : List Int) (p1 : List Int) (st19 : Int) : Option (Int ⊕ (Unit ⊕ Unit)) :=
 if decide (st19 < (p0.length : Int)) then
  (idx p0 st19).bind fun x30 =>
  (idx p1 st19).bind fun x36 =>
  if (x30 != x36) then
   some (.inr (.inr (())))
  else
   some (.inl (W (st19 + 1)))
 else
  some (.inr (.inl ()))
noncomputable def m_overseerlaw04_same (p0 : List Int) (p1 : List Int) : Option Bool :=
 if ((p0.length : Int) != (p1.length : Int)) then
  some false
 else
  (iter (m_overseerlaw04_same_l1 p0 p1) 0).bind fun o19 =>
  match o19 with
  | .inl u21 =>
   some true
  | .inr (u24) =>
   some false
theorem m_overseerlaw04_same_c {s : Sig} {p0 : List Int} {p1 : List Int} {a1 : Option Addr} {c1 : Nat} {a2 : Option Addr} {c2 : Nat} {r : Bool} (h1 : RdL qI s a1 c1 p0) (h2 : RdL qI s a2 c2 p1) (hm : m_overseerlaw04_same p0 p1 = some r) :
    Calls Tryz.prog 94 #[.slice a1 p0.length c1, .slice a2 p1.length c2] s.w (RetS No s fun v s' => v = .bool r) := by
 unfold m_overseerlaw04_same at hm
 obtain ⟨N, hN, hNb⟩ := s.fresh
 have m0 : Mv (Up N No) s s := Mv.refl _ _
 refine E.entry Tryz.func94 R Tryz.ntmps94 R R (ER (L.as Y R R (LN (E.seq (ER (L.mv Y R R (L.len sl27 Y R R (L.mv Y R R (L.len sl27 Y R R (L.bi Y R R R R (L.nil (X.seqN ?_))))))))))))
 rcases ifS hm with ⟨hc, hm⟩ | ⟨hc, hm⟩
 ·refine E.cT R hc (ER (L.as Y R R (LN (E.ret (X.seqR ?_)))))
  obtain rfl := oi hm
  exact X.rt (.inl R) Tryz.results94 (Rs.tmp R Rs.nil) R ⟨_, (s).ren N (fun _ => 0), R, R, m0.ren hNb, R⟩
 refine E.cF R hc (E.skip (X.seqN (E.seq (ER (L.as Y R R (LN (E.block ?_)))))))
 obtain ⟨o19, eo19, hm⟩ := bindS hm
 refine E.cut (x := .exit 0) (fun e w => ∃ (s22 : Sig) (u21 : Unit), o19 = .inl u21 ∧ Mv (Up N No) s s22 ∧ e = [] ∧ w = s22.w) ?_ ?_
 ·rintro _ _ ⟨s22, u21, rfl, m0, rfl, rfl⟩
  dsimp only at hm
  refine X.blkE (X.seqN (ER (L.as Y R R (LN (E.ret ?_)))))
  obtain rfl := oi hm
  exact X.rt (.inl R) Tryz.results94 (Rs.tmp R Rs.nil) R ⟨_, (s22).ren N (fun _ => 0), R, R, m0.ren hNb, R⟩
 intro K23
 refine E.cut (x := .ret) (fun e w => ∃ (s25 : Sig) (u24 : Unit), o19 = .inr (u24) ∧ Mv (Up N No) s s25 ∧ e = [(4, .bool false)] ∧ w = s25.w) ?_ ?_
 ·rintro _ _ ⟨s25, u24, rfl, m0, rfl, rfl⟩
  dsimp only at hm
  refine X.blkR (X.seqR ?_)
  obtain rfl := oi hm
  exact X.rt (.inl R) Tryz.results94 (Rs.tmp R Rs.nil) R ⟨_, (s25).ren N (fun _ => 0), R, R, m0.ren hNb, R⟩
 intro K26
 refine E.iter (fun (st19 : Int) (e : List (Nat × Value)) (w : World) => ∃ (s20 : Sig), Mv (Up N No) s s20 ∧ RdL qI s20 a1 c1 p0 ∧ RdL qI s20 a2 c2 p1 ∧ e = [(5, .int .i64 st19), (0, .slice a1 p0.length c1), (1, .slice a2 p1.length c2)] ∧ w = s20.w) eo19 ⟨s, m0, h1, h2, R, R⟩ (Sub.rf R) ?_
 rintro st19 res19 hm ih19 ho19 _ _ ⟨s20, m0, h1, h2, rfl, rfl⟩
 unfold m_overseerlaw04_same_l1 at hm
 refine E.seq (ER (L.mv Y R R (L.mv Y R R (L.len sl27 Y R R (L.bi Y R R R R (L.nil (X.seqN ?_)))))))
 rcases ifS hm with ⟨hc, hm⟩ | ⟨hc, hm⟩
 ·refine E.cT R hc (E.skip (X.seqN (E.seq (E.block (E.seq ?_)))))
  obtain ⟨x30, ex30, hm⟩ := bindS hm
  obtain ⟨x36, ex36, hm⟩ := bindS hm
  refine E.draw [[], [], [0, 1], [0, 1, 2], [], [], [4, 5], [4, 5, 6], [0, 1, 2, 3, 4, 5, 6, 7]] (fun D e sx => Mv No s20 sx ∧ Sub [(5, .int .i64 st19), (0, .slice a1 p0.length c1), (1, .slice a2 p1.length c2)] e ∧ AllP [G D e 0 17 (.slice a1 p0.length c1), G D e 1 18 (.int .i64 st19), D 2 = true → (∃ (b31 : Nat) (o31 : Nat), Env.get e 19 = some (.pointer (some ⟨b31, o31, none⟩)) ∧ Mem sx 0 b31 o31 [.int .i64 x30]), G D e 3 20 (.int .i64 x30), G D e 4 21 (.slice a2 p1.length c2), G D e 5 22 (.int .i64 st19), D 6 = true → (∃ (b37 : Nat) (o37 : Nat), Env.get e 23 = some (.pointer (some ⟨b37, o37, none⟩)) ∧ Mem sx 0 b37 o37 [.int .i64 x36]), G D e 7 24 (.int .i64 x36), G D e 8 25 (.bool (x30 != x36))]) (by kernel_rfl) (by kernel_rfl) (by kernel_rfl) ?_ ?_ ?_
  ·intro sz mz
   exact ⟨mz, (Sub.rf R), nofun, nofun, nofun, nofun, nofun, nofun, nofun, nofun, nofun, trivial⟩
  ·refine ⟨?_, ?_, ?_, ?_, ?_, ?_, ?_, ?_, ?_, trivial⟩
   ·rintro D e s27 ⟨im, ib, i⟩ hk hf ha
    have kn := K1 (ib 0 _ R)
    exact kn.g (L.mv Y R R (L.nil (X.dk kn ⟨im, Sub.fresh ib R, i.u 0 (fun _ => R)⟩)))
   ·rintro D e s28 ⟨im, ib, i⟩ hk hf ha
    have kn := K1 (ib 5 _ R)
    exact kn.g (L.mv Y R R (L.nil (X.dk kn ⟨im, Sub.fresh ib R, i.u 1 (fun _ => R)⟩)))
   ·rintro D e s29 ⟨im, ib, i⟩ hk hf ha
    have h1 := h1.mono im.z
    have kn := K2 ((i.p 0) (ha.at 0 R)) ((i.p 1) (ha.at 1 R))
    refine kn.g (L.ix (r := qI) sl27 h1 Y R R ex30 R fun b31 o31 cc31 me31 rd31 => ?_)
    obtain rfl := rd31
    exact L.nil (X.dk kn ⟨im, Sub.fresh ib R, i.u 2 (fun _ => ⟨b31, o31, R, me31⟩)⟩)
   ·rintro D e s32 ⟨im, ib, i⟩ hk hf ha
    obtain ⟨b31, o31, g2_, me31⟩ := (i.p 2) (ha.at 2 R)
    have kn := K1 g2_
    exact kn.g (L.ld (j := 0) me31 nag3 Y R R R R (L.nil (X.dk kn ⟨im, Sub.fresh ib R, i.u 3 (fun _ => R)⟩)))
   ·rintro D e s33 ⟨im, ib, i⟩ hk hf ha
    have kn := K1 (ib 1 _ R)
    exact kn.g (L.mv Y R R (L.nil (X.dk kn ⟨im, Sub.fresh ib R, i.u 4 (fun _ => R)⟩)))
   ·rintro D e s34 ⟨im, ib, i⟩ hk hf ha
    have kn := K1 (ib 5 _ R)
    exact kn.g (L.mv Y R R (L.nil (X.dk kn ⟨im, Sub.fresh ib R, i.u 5 (fun _ => R)⟩)))
   ·rintro D e s35 ⟨im, ib, i⟩ hk hf ha
    have h2 := h2.mono im.z
    have kn := K2 ((i.p 4) (ha.at 4 R)) ((i.p 5) (ha.at 5 R))
    refine kn.g (L.ix (r := qI) sl27 h2 Y R R ex36 R fun b37 o37 cc37 me37 rd37 => ?_)
    obtain rfl := rd37
    exact L.nil (X.dk kn ⟨im, Sub.fresh ib R, i.u 6 (fun _ => ⟨b37, o37, R, me37⟩)⟩)
   ·rintro D e s38 ⟨im, ib, i⟩ hk hf ha
    obtain ⟨b37, o37, g6_, me37⟩ := (i.p 6) (ha.at 6 R)
    have kn := K1 g6_
    exact kn.g (L.ld (j := 0) me37 nag3 Y R R R R (L.nil (X.dk kn ⟨im, Sub.fresh ib R, i.u 7 (fun _ => R)⟩)))
   rintro D e s39 ⟨im, ib, i⟩ hk hf ha
   have kn := K2 ((i.p 3) (ha.at 3 R)) ((i.p 7) (ha.at 7 R))
   exact kn.g (L.bi Y R R R R (L.nil (X.dk kn ⟨im, Sub.fresh ib R, i.u 8 (fun _ => R)⟩)))
  rintro D e s40 hD ⟨im, ib, i⟩
  have g8_ := (i.p 8) (hD 8 R)
  have h1 := h1.mono im.z
  have h2 := h2.mono im.z
  have m0 := m0.trans im.no
  refine X.sub (e' := [(25, .bool (x30 != x36)), (5, .int .i64 st19), (0, .slice a1 p0.length c1), (1, .slice a2 p1.length c2)]) ?_ (Sub.cons g8_ (Sub.cons (ib 5 _ R) (Sub.cons (ib 0 _ R) (Sub.cons (ib 1 _ R) Sub.nil))))
  refine X.seqN ?_
  rcases ifS hm with ⟨hc, hm⟩ | ⟨hc, hm⟩
  ·refine E.cT R hc (ER (L.as Y R R (LN (E.ret (X.blkR (X.seqR (X.seqR ?_)))))))
   have hx := ho19 _ (oi hm).symm
   exact X.sub (K26 _ _ ⟨s40, (), hx.symm, m0, R, R⟩) (Sub.rf R)
  exact E.cF R hc (E.skip (X.blkN (X.seqN (E.reg (L.mv Y R R (L.bi Y R R R R (L.as Y R R (L.nil (X.sub (ih19 _ (oi hm).symm _ _ ⟨s40, m0, h1, h2, R, R⟩) (Sub.rf R))))))))))
 refine E.cF R hc (E.exit (X.seqX (X.seqX ?_)))
 have hx := ho19 _ (oi hm).symm
 exact X.sub (K23 _ _ ⟨s20, (), hx.symm, m0, R, R⟩) Sub.nil

theorem cf30 : Cf Tryz.prog 30 := Cf.mk Tryz.func30 (by kernel_rfl) (by kernel_rfl)
theorem cf91 : Cf Tryz.prog 91 := Cf.mk Tryz.func91 (by kernel_rfl) (by kernel_rfl)
theorem cf92 : Cf Tryz.prog 92 := Cf.mk Tryz.func92 (by kernel_rfl) (by kernel_rfl)
theorem cf93 : Cf Tryz.prog 93 := Cf.mk Tryz.func93 (by kernel_rfl) (by kernel_rfl)
theorem cf94 : Cf Tryz.prog 94 := Cf.mk Tryz.func94 (by kernel_rfl) (by kernel_rfl)
noncomputable def m_overseerlaw04_known : Option Bool :=
 (m_overseerlaw04_example).bind fun r1 =>
 (m_reach_Coreachable r1).bind fun r7 =>
 (m_overseerlaw04_example).bind fun r11 =>
 (m_reach_Distances r11 ([3] : List Int)).bind fun r20 =>
 (m_overseerlaw04_example).bind fun r24 =>
 (m_reach_Path r24 0 ([3] : List Int) ([0, 1, 2, 3] : List Int)).bind fun r36 =>
 (m_overseerlaw04_example).bind fun r40 =>
 (m_reach_Interior r40 ([0, 1, 2] : List Int) ([0] : List Int)).bind fun r52 =>
 (if (r7.2 == 0) then
  (m_overseerlaw04_same r7.1 ([0, 1] : List Int)).bind fun r101 =>
  some r101
 else
  some false).bind fun b56 =>
 (if (b56 && (r20.2 == 0)) then
  (m_overseerlaw04_same r20.1 ([2, (-1), 1, 0] : List Int)).bind fun r93 =>
  some r93
 else
  some false).bind fun b60 =>
 (if ((b60 && (r36.2.2 == 0)) && r36.2.1) then
  (m_overseerlaw04_same r36.1 ([1, 0] : List Int)).bind fun r84 =>
  some r84
 else
  some false).bind fun b65 =>
 (if (b65 && (r52.2 == 0)) then
  (m_overseerlaw04_same r52.1 ([0, 1] : List Int)).bind fun r76 =>
  some r76
 else
  some false).bind fun b69 =>
 some b69
theorem m_overseerlaw04_known_c {s : Sig} {r : Bool} (hm : m_overseerlaw04_known = some r) :
    Calls Tryz.prog 60 #[] s.w (RetS No s fun v s' => v = .bool r) := by
 unfold m_overseerlaw04_known at hm
 obtain ⟨N, hN, hNb⟩ := s.fresh
 have m0 : Mv (Up N No) s s := Mv.refl _ _
 refine E.entry Tryz.func60 R Tryz.ntmps60 R R (ER (L.as Y R R (LN (E.seq (E.reg ?_)))))
 obtain ⟨r1, er1, hm⟩ := bindS hm
 refine L.ca cf91 R R Y R (m_overseerlaw04_example_c (s := s) er1) R ?_
 rintro _ s2 m3 ⟨a4, c4, a5, c5, a6, c6, rfl, h4, h5, h6⟩
 obtain ⟨r7, er7, hm⟩ := bindS hm
 refine L.ca cf30 R R Y R (m_reach_Coreachable_c (s := s2) (p0 := r1) (u0 := 0) h4 h5 h6 er7) R ?_
 rintro _ s8 m9 ⟨a10, c10, rfl, h10⟩
 refine L.mv Y R R (L.ex Y R R R (L.ex Y R R R (L.as Y R R (L.as Y R R (LN (E.seq (E.reg ?_)))))))
 obtain ⟨r11, er11, hm⟩ := bindS hm
 refine L.ca cf91 R R Y R (m_overseerlaw04_example_c (s := s8) er11) R ?_
 rintro _ s12 m13 ⟨a14, c14, a15, c15, a16, c16, rfl, h14, h15, h16⟩
 refine L.bsE (k := 1) (cs := [.int .i64 3]) 0 bs27 (nb R) Y R R R R fun b17 s18 m19 bx17 => ?_
 replace h14 := h14.mono m19.z
 replace h15 := h15.mono m19.z
 replace h16 := h16.mono m19.z
 have h17 := Bx.rdL (r := qI) (xs := ([3] : List Int)) bx17 ⟨[.int .i64 3], _, R, R, R⟩ (nb R)
 obtain ⟨r20, er20, hm⟩ := bindS hm
 refine L.ca cf92 R R Y R (m_reach_Distances_c (s := s18) (p0 := r11) (p1 := ([3] : List Int)) h14 h15 h16 h17 er20) R ?_
 rintro _ s21 m22 ⟨a23, c23, rfl, h23⟩
 refine L.mv Y R R (L.ex Y R R R (L.ex Y R R R (L.as Y R R (L.as Y R R (LN (E.seq (E.reg ?_)))))))
 obtain ⟨r24, er24, hm⟩ := bindS hm
 refine L.ca cf91 R R Y R (m_overseerlaw04_example_c (s := s21) er24) R ?_
 rintro _ s25 m26 ⟨a27, c27, a28, c28, a29, c29, rfl, h27, h28, h29⟩
 refine L.bsE (k := 1) (cs := [.int .i64 3]) 0 bs27 (nb R) Y R R R R fun b30 s31 m32 bx30 => ?_
 have h30 := Bx.rdL (r := qI) (xs := ([3] : List Int)) bx30 ⟨[.int .i64 3], _, R, R, R⟩ (nb R)
 refine L.bsE (k := 4) (cs := [.int .i64 0, .int .i64 1, .int .i64 2, .int .i64 3]) 0 bs27 (nb R) Y R R R R fun b33 s34 m35 bx33 => ?_
 replace h27 := (h27.mono m32.z).mono m35.z
 replace h28 := (h28.mono m32.z).mono m35.z
 replace h29 := (h29.mono m32.z).mono m35.z
 replace h30 := h30.mono m35.z
 have h33 := Bx.rdL (r := qI) (xs := ([0, 1, 2, 3] : List Int)) bx33 ⟨[.int .i64 0], _, R, R, ⟨[.int .i64 1], _, R, R, ⟨[.int .i64 2], _, R, R, ⟨[.int .i64 3], _, R, R, R⟩⟩⟩⟩ (nb R)
 obtain ⟨r36, er36, hm⟩ := bindS hm
 refine L.ca cf68 R R Y R (m_reach_Path_c (s := s34) (p0 := r24) (p1 := 0) (p2 := ([3] : List Int)) (p3 := ([0, 1, 2, 3] : List Int)) h27 h28 h29 h30 h33 er36) R ?_
 rintro _ s37 m38 ⟨a39, c39, rfl, h39⟩
 refine L.mv Y R R (L.ex Y R R R (L.ex Y R R R (L.ex Y R R R (L.as Y R R (L.as Y R R (L.as Y R R (LN (E.seq (E.reg ?_)))))))))
 obtain ⟨r40, er40, hm⟩ := bindS hm
 refine L.ca cf91 R R Y R (m_overseerlaw04_example_c (s := s37) er40) R ?_
 rintro _ s41 m42 ⟨a43, c43, a44, c44, a45, c45, rfl, h43, h44, h45⟩
 refine L.bsE (k := 3) (cs := [.int .i64 0, .int .i64 1, .int .i64 2]) 0 bs27 (nb R) Y R R R R fun b46 s47 m48 bx46 => ?_
 have h46 := Bx.rdL (r := qI) (xs := ([0, 1, 2] : List Int)) bx46 ⟨[.int .i64 0], _, R, R, ⟨[.int .i64 1], _, R, R, ⟨[.int .i64 2], _, R, R, R⟩⟩⟩ (nb R)
 refine L.bsE (k := 1) (cs := [.int .i64 0]) 0 bs27 (nb R) Y R R R R fun b49 s50 m51 bx49 => ?_
 replace h43 := (h43.mono m48.z).mono m51.z
 replace h44 := (h44.mono m48.z).mono m51.z
 replace h45 := (h45.mono m48.z).mono m51.z
 replace h46 := h46.mono m51.z
 have h49 := Bx.rdL (r := qI) (xs := ([0] : List Int)) bx49 ⟨[.int .i64 0], _, R, R, R⟩ (nb R)
 obtain ⟨r52, er52, hm⟩ := bindS hm
 refine L.ca cf93 R R Y R (m_reach_Interior_c (s := s50) (p0 := r40) (p1 := ([0, 1, 2] : List Int)) (p2 := ([0] : List Int)) (u0 := 0) h43 h44 h45 h46 h49 er52) R ?_
 rintro _ s53 m54 ⟨a55, c55, rfl, h55⟩
 replace h55 := h55.p
 replace m0 := ((((((((((((m0.trans m3.no).trans m9.no).trans m13.no).trans m19.no).trans m22.no).trans m26.no).trans m32.no).trans m35.no).trans m38.no).trans m42.no).trans m48.no).trans m51.no).trans m54.no
 replace h10 := (((((((((((h10.p).mono m13.z).mono m19.z).mono m22.z).mono m26.z).mono m32.z).mono m35.z).mono m38.z).mono m42.z).mono m48.z).mono m51.z).mono m54.z
 replace h23 := (((((((h23.mono m26.z).mono m32.z).mono m35.z).mono m38.z).mono m42.z).mono m48.z).mono m51.z).mono m54.z
 replace h39 := (((h39.mono m42.z).mono m48.z).mono m51.z).mono m54.z
 refine L.mv Y R R (L.ex Y R R R (L.ex Y R R R (L.as Y R R (L.as Y R R (LN (ER (L.mv Y R R (L.bi Y R R R R (L.mv Y R R ?_)))))))))
 obtain ⟨b56, eb56, hm⟩ := bindS hm
 refine L.cut 4 (fun e w => ∃ (s58 : Sig) (v57 : Bool), b56 = v57 ∧ Mv (Up N No) s s58 ∧ RdL qI s58 a55 c55 r52.1 ∧ RdL qI s58 a39 c39 r36.1 ∧ RdL qI s58 a23 c23 r20.1 ∧ e = (42, .bool v57) :: [(9, .int .i64 r52.2), (8, .slice a55 r52.1.length c55), (7, .int .i64 r36.2.2), (6, .bool r36.2.1), (5, .slice a39 r36.1.length c39), (4, .int .i64 r20.2), (3, .slice a23 r20.1.length c23)] ∧ w = s58.w) ?_ ?_
 ·rintro _ _ ⟨s58, v57, rfl, m0, h55, h39, h23, rfl, rfl⟩
  refine L.mv Y R R (L.cut 3 (fun e w => ∃ (v59 : Bool), (b56 && (r20.2 == 0)) = v59 ∧ e = (46, .bool v59) :: [(9, .int .i64 r52.2), (8, .slice a55 r52.1.length c55), (7, .int .i64 r36.2.2), (6, .bool r36.2.1), (5, .slice a39 r36.1.length c39), (3, .slice a23 r20.1.length c23)] ∧ w = s58.w) ?_ ?_)
  ·rintro _ _ ⟨v59, rfl, rfl, rfl⟩
   refine L.mv Y R R ?_
   obtain ⟨b60, eb60, hm⟩ := bindS hm
   refine L.cut 4 (fun e w => ∃ (s62 : Sig) (v61 : Bool), b60 = v61 ∧ Mv (Up N No) s s62 ∧ RdL qI s62 a55 c55 r52.1 ∧ RdL qI s62 a39 c39 r36.1 ∧ e = (51, .bool v61) :: [(9, .int .i64 r52.2), (8, .slice a55 r52.1.length c55), (7, .int .i64 r36.2.2), (6, .bool r36.2.1), (5, .slice a39 r36.1.length c39)] ∧ w = s62.w) ?_ ?_
   ·rintro _ _ ⟨s62, v61, rfl, m0, h55, h39, rfl, rfl⟩
    refine L.mv Y R R (L.cut 3 (fun e w => ∃ (v63 : Bool), (b60 && (r36.2.2 == 0)) = v63 ∧ e = (55, .bool v63) :: [(9, .int .i64 r52.2), (8, .slice a55 r52.1.length c55), (6, .bool r36.2.1), (5, .slice a39 r36.1.length c39)] ∧ w = s62.w) ?_ ?_)
    ·rintro _ _ ⟨v63, rfl, rfl, rfl⟩
     refine L.mv Y R R (L.cut 2 (fun e w => ∃ (v64 : Bool), ((b60 && (r36.2.2 == 0)) && r36.2.1) = v64 ∧ e = (58, .bool v64) :: [(9, .int .i64 r52.2), (8, .slice a55 r52.1.length c55), (5, .slice a39 r36.1.length c39)] ∧ w = s62.w) ?_ ?_)
     ·rintro _ _ ⟨v64, rfl, rfl, rfl⟩
      refine L.mv Y R R ?_
      obtain ⟨b65, eb65, hm⟩ := bindS hm
      refine L.cut 4 (fun e w => ∃ (s67 : Sig) (v66 : Bool), b65 = v66 ∧ Mv (Up N No) s s67 ∧ RdL qI s67 a55 c55 r52.1 ∧ e = (63, .bool v66) :: [(9, .int .i64 r52.2), (8, .slice a55 r52.1.length c55)] ∧ w = s67.w) ?_ ?_
      ·rintro _ _ ⟨s67, v66, rfl, m0, h55, rfl, rfl⟩
       refine L.mv Y R R (L.cut 3 (fun e w => ∃ (v68 : Bool), (b65 && (r52.2 == 0)) = v68 ∧ e = (67, .bool v68) :: [(8, .slice a55 r52.1.length c55)] ∧ w = s67.w) ?_ ?_)
       ·rintro _ _ ⟨v68, rfl, rfl, rfl⟩
        refine L.mv Y R R ?_
        obtain ⟨b69, eb69, hm⟩ := bindS hm
        refine L.cut 4 (fun e w => ∃ (s71 : Sig) (v70 : Bool), b69 = v70 ∧ Mv (Up N No) s s71 ∧ e = (72, .bool v70) :: [] ∧ w = s71.w) ?_ ?_
        ·rintro _ _ ⟨s71, v70, rfl, m0, rfl, rfl⟩
         refine L.as Y R R (LN (E.ret ?_))
         obtain rfl := oi hm
         exact X.rt (.inl R) Tryz.results60 (Rs.tmp R Rs.nil) R ⟨_, (s71).ren N (fun _ => 0), R, R, m0.ren hNb, R⟩
        intro J72
        rcases ifS eb69 with ⟨hc, hm⟩ | ⟨hc, hm⟩
        ·refine L.know (d := 68) R hc (L.mv (Wt.mk R R) R R (L.bsE (k := 2) (cs := [.int .i64 0, .int .i64 1]) 0 bs27 (nb R) (Wt.mk R R) R R R R fun b73 s74 m75 bx73 => ?_))
         replace h55 := h55.mono m75.z
         have h73 := Bx.rdL (r := qI) (xs := ([0, 1] : List Int)) bx73 ⟨[.int .i64 0], _, R, R, ⟨[.int .i64 1], _, R, R, R⟩⟩ (nb R)
         obtain ⟨r76, er76, hm⟩ := bindS hm
         refine L.ca cf94 R R (Wt.mk R R) R (m_overseerlaw04_same_c (s := s74) (p0 := r52.1) (p1 := ([0, 1] : List Int)) h55 h73 er76) R ?_
         rintro _ s77 m78 rfl
         replace m0 := (m0.trans m75.no).trans m78.no
         exact L.pkT Y R R R R (L.sb (J72 _ _ ⟨s77, r76, (oi hm).symm, m0, R, R⟩) R)
        exact L.know (d := 68) R hc (L.skip R R R R (L.skip R R R R (L.skip R R R R (L.pkF Y R R R R (L.sb (J72 _ _ ⟨s67, false, (oi hm).symm, m0, R, R⟩) R)))))
       intro J79
       rcases Bool.eq_false_or_eq_true b65 with hc | hc
       ·exact L.know (d := 64) R hc (L.mv (Wt.mk R R) R R (L.bi (Wt.mk R R) R R R R (L.pkT Y R R R R (L.sb (J79 _ _ ⟨(r52.2 == 0), (andT hc).symm, R, R⟩) R))))
       exact L.know (d := 64) R hc (L.skip R R R R (L.skip R R R R (L.pkF Y R R R R (L.sb (J79 _ _ ⟨false, (andF hc).symm, R, R⟩) R))))
      intro J80
      rcases ifS eb65 with ⟨hc, hm⟩ | ⟨hc, hm⟩
      ·refine L.know (d := 59) R hc (L.mv (Wt.mk R R) R R (L.bsE (k := 2) (cs := [.int .i64 1, .int .i64 0]) 0 bs27 (nb R) (Wt.mk R R) R R R R fun b81 s82 m83 bx81 => ?_))
       replace h39 := h39.mono m83.z
       have h81 := Bx.rdL (r := qI) (xs := ([1, 0] : List Int)) bx81 ⟨[.int .i64 1], _, R, R, ⟨[.int .i64 0], _, R, R, R⟩⟩ (nb R)
       obtain ⟨r84, er84, hm⟩ := bindS hm
       refine L.ca cf94 R R (Wt.mk R R) R (m_overseerlaw04_same_c (s := s82) (p0 := r36.1) (p1 := ([1, 0] : List Int)) h39 h81 er84) R ?_
       rintro _ s85 m86 rfl
       replace m0 := (m0.trans m83.no).trans m86.no
       replace h55 := (h55.mono m83.z).mono m86.z
       exact L.pkT Y R R R R (L.sb (J80 _ _ ⟨s85, r84, (oi hm).symm, m0, h55, R, R⟩) R)
      exact L.know (d := 59) R hc (L.skip R R R R (L.skip R R R R (L.skip R R R R (L.pkF Y R R R R (L.sb (J80 _ _ ⟨s62, false, (oi hm).symm, m0, h55, R, R⟩) R)))))
     intro J87
     rcases Bool.eq_false_or_eq_true (b60 && (r36.2.2 == 0)) with hc | hc
     ·exact L.know (d := 56) R hc (L.mv (Wt.mk R R) R R (L.pkT Y R R R R (L.sb (J87 _ _ ⟨r36.2.1, (andT hc).symm, R, R⟩) R)))
     exact L.know (d := 56) R hc (L.skip R R R R (L.pkF Y R R R R (L.sb (J87 _ _ ⟨false, (andF hc).symm, R, R⟩) R)))
    intro J88
    rcases Bool.eq_false_or_eq_true b60 with hc | hc
    ·exact L.know (d := 52) R hc (L.mv (Wt.mk R R) R R (L.bi (Wt.mk R R) R R R R (L.pkT Y R R R R (L.sb (J88 _ _ ⟨(r36.2.2 == 0), (andT hc).symm, R, R⟩) R))))
    exact L.know (d := 52) R hc (L.skip R R R R (L.skip R R R R (L.pkF Y R R R R (L.sb (J88 _ _ ⟨false, (andF hc).symm, R, R⟩) R))))
   intro J89
   rcases ifS eb60 with ⟨hc, hm⟩ | ⟨hc, hm⟩
   ·refine L.know (d := 47) R hc (L.mv (Wt.mk R R) R R (L.bsE (k := 4) (cs := [.int .i64 2, .int .i64 (-1), .int .i64 1, .int .i64 0]) 0 bs27 (nb R) (Wt.mk R R) R R R R fun b90 s91 m92 bx90 => ?_))
    replace h23 := h23.mono m92.z
    have h90 := Bx.rdL (r := qI) (xs := ([2, (-1), 1, 0] : List Int)) bx90 ⟨[.int .i64 2], _, R, R, ⟨[.int .i64 (-1)], _, R, R, ⟨[.int .i64 1], _, R, R, ⟨[.int .i64 0], _, R, R, R⟩⟩⟩⟩ (nb R)
    obtain ⟨r93, er93, hm⟩ := bindS hm
    refine L.ca cf94 R R (Wt.mk R R) R (m_overseerlaw04_same_c (s := s91) (p0 := r20.1) (p1 := ([2, (-1), 1, 0] : List Int)) h23 h90 er93) R ?_
    rintro _ s94 m95 rfl
    replace m0 := (m0.trans m92.no).trans m95.no
    replace h39 := (h39.mono m92.z).mono m95.z
    replace h55 := (h55.mono m92.z).mono m95.z
    exact L.pkT Y R R R R (L.sb (J89 _ _ ⟨s94, r93, (oi hm).symm, m0, h55, h39, R, R⟩) R)
   exact L.know (d := 47) R hc (L.skip R R R R (L.skip R R R R (L.skip R R R R (L.pkF Y R R R R (L.sb (J89 _ _ ⟨s58, false, (oi hm).symm, m0, h55, h39, R, R⟩) R)))))
  intro J96
  rcases Bool.eq_false_or_eq_true b56 with hc | hc
  ·exact L.know (d := 43) R hc (L.mv (Wt.mk R R) R R (L.bi (Wt.mk R R) R R R R (L.pkT Y R R R R (L.sb (J96 _ _ ⟨(r20.2 == 0), (andT hc).symm, R, R⟩) R))))
  exact L.know (d := 43) R hc (L.skip R R R R (L.skip R R R R (L.pkF Y R R R R (L.sb (J96 _ _ ⟨false, (andF hc).symm, R, R⟩) R))))
 intro J97
 rcases ifS eb56 with ⟨hc, hm⟩ | ⟨hc, hm⟩
 ·refine L.know (d := 38) R hc (L.mv (Wt.mk R R) R R (L.bsE (k := 2) (cs := [.int .i64 0, .int .i64 1]) 0 bs27 (nb R) (Wt.mk R R) R R R R fun b98 s99 m100 bx98 => ?_))
  replace h10 := h10.mono m100.z
  have h98 := Bx.rdL (r := qI) (xs := ([0, 1] : List Int)) bx98 ⟨[.int .i64 0], _, R, R, ⟨[.int .i64 1], _, R, R, R⟩⟩ (nb R)
  obtain ⟨r101, er101, hm⟩ := bindS hm
  refine L.ca cf94 R R (Wt.mk R R) R (m_overseerlaw04_same_c (s := s99) (p0 := r7.1) (p1 := ([0, 1] : List Int)) h10 h98 er101) R ?_
  rintro _ s102 m103 rfl
  replace m0 := (m0.trans m100.no).trans m103.no
  replace h23 := (h23.mono m100.z).mono m103.z
  replace h39 := (h39.mono m100.z).mono m103.z
  replace h55 := (h55.mono m100.z).mono m103.z
  exact L.pkT Y R R R R (L.sb (J97 _ _ ⟨s102, r101, (oi hm).symm, m0, h55, h39, h23, R, R⟩) R)
 exact L.know (d := 38) R hc (L.skip R R R R (L.skip R R R R (L.skip R R R R (L.pkF Y R R R R (L.sb (J97 _ _ ⟨s53, false, (oi hm).symm, m0, h55, h39, h23, R, R⟩) R)))))

theorem cf60 : Cf Tryz.prog 60 := Cf.mk Tryz.func60 (by kernel_rfl) (by kernel_rfl)
noncomputable def m_overseerlaw04_Known : Option Bool :=
 (m_overseerlaw04_known).bind fun r1 =>
 some r1
theorem m_overseerlaw04_Known_c {s : Sig} {r : Bool} (hm : m_overseerlaw04_Known = some r) :
    Calls Tryz.prog 29 #[] s.w (RetS No s fun v s' => v = .bool r) := by
 unfold m_overseerlaw04_Known at hm
 obtain ⟨N, hN, hNb⟩ := s.fresh
 have m0 : Mv (Up N No) s s := Mv.refl _ _
 refine E.entry Tryz.func29 R Tryz.ntmps29 R R (ER (L.as Y R R (LN (E.seq (E.reg ?_)))))
 obtain ⟨r1, er1, hm⟩ := bindS hm
 refine L.ca cf60 R R Y R (m_overseerlaw04_known_c (s := s) er1) R ?_
 rintro _ s2 m3 rfl
 replace m0 := m0.trans m3.no
 refine L.as Y R R (LN (E.ret ?_))
 obtain rfl := oi hm
 exact X.rt (.inl R) Tryz.results29 (Rs.tmp R Rs.nil) R ⟨_, (s2).ren N (fun _ => 0), R, R, m0.ren hNb, R⟩

theorem cf14 : Cf Tryz.prog 14 := Cf.mk Tryz.func14 (by kernel_rfl) (by kernel_rfl)
theorem cf29 : Cf Tryz.prog 29 := Cf.mk Tryz.func29 (by kernel_rfl) (by kernel_rfl)
noncomputable def m_overseerlaw24_Known : Option Bool :=
 (m_overseerlaw24_known).bind fun r1 =>
 (if r1 then
  (m_overseerlaw04_Known).bind fun r8 =>
  some r8
 else
  some false).bind fun b4 =>
 some b4
theorem m_overseerlaw24_Known_c {s : Sig} {r : Bool} (hm : m_overseerlaw24_Known = some r) :
    Calls Tryz.prog 6 #[] s.w (RetS No s fun v s' => v = .bool r) := by
 unfold m_overseerlaw24_Known at hm
 obtain ⟨N, hN, hNb⟩ := s.fresh
 have m0 : Mv (Up N No) s s := Mv.refl _ _
 refine E.entry Tryz.func6 R Tryz.ntmps6 R R (ER (L.as Y R R (LN (E.seq (E.reg ?_)))))
 obtain ⟨r1, er1, hm⟩ := bindS hm
 refine L.ca cf14 R R Y R (m_overseerlaw24_known_c (s := s) er1) R ?_
 rintro _ s2 m3 rfl
 replace m0 := m0.trans m3.no
 refine L.mv Y R R ?_
 obtain ⟨b4, eb4, hm⟩ := bindS hm
 refine L.cut 2 (fun e w => ∃ (s6 : Sig) (v5 : Bool), b4 = v5 ∧ Mv (Up N No) s s6 ∧ e = (4, .bool v5) :: [] ∧ w = s6.w) ?_ ?_
 ·rintro _ _ ⟨s6, v5, rfl, m0, rfl, rfl⟩
  refine L.as Y R R (LN (E.ret ?_))
  obtain rfl := oi hm
  exact X.rt (.inl R) Tryz.results6 (Rs.tmp R Rs.nil) R ⟨_, (s6).ren N (fun _ => 0), R, R, m0.ren hNb, R⟩
 intro J7
 rcases ifS eb4 with ⟨hc, hm⟩ | ⟨hc, hm⟩
 ·refine L.know (d := 2) R hc ?_
  obtain ⟨r8, er8, hm⟩ := bindS hm
  refine L.ca cf29 R R (Wt.mk R R) R (m_overseerlaw04_Known_c (s := s2) er8) R ?_
  rintro _ s9 m10 rfl
  replace m0 := m0.trans m10.no
  exact L.pkT Y R R R R (L.sb (J7 _ _ ⟨s9, r8, (oi hm).symm, m0, R, R⟩) R)
 exact L.know (d := 2) R hc (L.skip R R R R (L.pkF Y R R R R (L.sb (J7 _ _ ⟨s2, false, (oi hm).symm, m0, R, R⟩) R)))

theorem fa25_0 : FA Tryz.prog 25 0 0 := FA.mk Tryz.underlying25 rfl rfl ⟨1, by decide, by kernel_rfl⟩
theorem fa25_1 : FA Tryz.prog 25 1 1 := FA.mk Tryz.underlying25 rfl rfl ⟨1, by decide, by kernel_rfl⟩
theorem fa25_2 : FA Tryz.prog 25 2 2 := FA.mk Tryz.underlying25 rfl rfl ⟨24, by decide, by kernel_rfl⟩
theorem ia22 : IA Tryz.prog 22 4 1 := IA.mk Tryz.underlying22 (by kernel_rfl)
theorem ia23 : IA Tryz.prog 23 6 4 := IA.mk Tryz.underlying23 (by kernel_rfl)
theorem nag5 : NAg Tryz.prog 5 := NAg.mk' Tryz.underlying5 rfl (by kernel_rfl)
noncomputable def m_overseerlaw04_Make_j2 (st128 : Int × (List (Int × Int × Int))) (l134 : List (Int × Int × Int)) : Option ((Int × (List (Int × Int × Int))) ⊕ (List (Int × Int × Int))) :=
 some (.inl (W (st128.1 + 1), l134))
noncomputable def m_overseerlaw04_Make_l2 (p0 : Int × Int × ((Int × Int × Int × Int) × (Int × Int × Int × Int) × (Int × Int × Int × Int) × (Int × Int × Int × Int) × (Int × Int × Int × Int) × (Int × Int × Int × Int))) (st90 : Int × List Int × (List (Int × Int × Int))) (st128 : Int × (List (Int × Int × Int))) : Option ((Int × (List (Int × Int × Int))) ⊕ (List (Int × Int × Int))) :=
 if decide (st128.1 < 4) then
  (rng st90.1 6).bind fun _ =>
  (rng st128.1 4).bind fun _ =>
  (([p0.2.2.1.1, p0.2.2.1.2.1, p0.2.2.1.2.2.1, p0.2.2.1.2.2.2, p0.2.2.2.1.1, p0.2.2.2.1.2.1, p0.2.2.2.1.2.2.1, p0.2.2.2.1.2.2.2, p0.2.2.2.2.1.1, p0.2.2.2.2.1.2.1, p0.2.2.2.2.1.2.2.1, p0.2.2.2.2.1.2.2.2, p0.2.2.2.2.2.1.1, p0.2.2.2.2.2.1.2.1, p0.2.2.2.2.2.1.2.2.1, p0.2.2.2.2.2.1.2.2.2, p0.2.2.2.2.2.2.1.1, p0.2.2.2.2.2.2.1.2.1, p0.2.2.2.2.2.2.1.2.2.1, p0.2.2.2.2.2.2.1.2.2.2, p0.2.2.2.2.2.2.2.1, p0.2.2.2.2.2.2.2.2.1, p0.2.2.2.2.2.2.2.2.2.1, p0.2.2.2.2.2.2.2.2.2.2] : List Int)[st90.1.toNat * 4 + st128.1.toNat * 1]?).bind fun x140 =>
  if ((decide ((W ((W (x140.tmod 7)) - 1)) ≥ 0)) && (decide ((W ((W (x140.tmod 7)) - 1)) < (W (1 + (W (p0.1.tmod 6))))))) then
   (app st128.2 ([(st90.1, st128.1, W ((W (x140.tmod 7)) - 1))] : List (Int × Int × Int))).bind fun x145 =>
   m_overseerlaw04_Make_j2 st128 x145
  else
   m_overseerlaw04_Make_j2 st128 st128.2
 else
  some (.inr st128.2)
noncomputable def m_overseerlaw04_Make_j1 (p0 : Int × Int × ((Int × Int × Int × Int) × (Int × Int × Int × Int) × (Int × Int × Int × Int) × (Int × Int × Int × Int) × (Int × Int × Int × Int) × (Int × Int × Int × Int))) (st90 : Int × List Int × (List (Int × Int × Int))) (l100 : List Int) : Option ((Int × List Int × (List (Int × Int × Int))) ⊕ (List Int × (List (Int × Int × Int)))) :=
 (iter (m_overseerlaw04_Make_l2 p0 st90) (0, st90.2.2)).bind fun o128 =>
 some (.inl (W (st90.1 + 1), l100, o128))
noncomputable def m_overseerlaw04_Make_l1 (p0 : Int × Int × ((Int × Int × Int × Int) × (Int × Int × Int × Int) × (Int × Int × Int × Int) × (Int × Int × Int × Int) × (Int × Int × Int × Int) × (Int × Int × Int × Int))) (st90 : Int × List Int × (List (Int × Int × Int))) : Option ((Int × List Int × (List (Int × Int × Int))) ⊕ (List Int × (List (Int × Int × Int)))) :=
 if decide (st90.1 < (W (1 + (W (p0.1.tmod 6))))) then
  (ng st90.1).bind fun _ =>
  if ((IntKind.u8.wrap (((BitVec.ofInt 8 (p0.2.1.fdiv (2 ^ (min st90.1.toNat 8))) &&& BitVec.ofInt 8 1).toNat : Int))) == 1) then
   (app st90.2.1 ([st90.1] : List Int)).bind fun x156 =>
   m_overseerlaw04_Make_j1 p0 st90 x156
  else
   m_overseerlaw04_Make_j1 p0 st90 st90.2.1
 else
  some (.inr st90.2)
noncomputable def m_overseerlaw04_Make (p0 : Int × Int × ((Int × Int × Int × Int) × (Int × Int × Int × Int) × (Int × Int × Int × Int) × (Int × Int × Int × Int) × (Int × Int × Int × Int) × (Int × Int × Int × Int))) : Option AutT :=
 (iter (m_overseerlaw04_Make_l1 p0) (0, ([] : List Int), ([] : List (Int × Int × Int)))).bind fun o90 =>
 some (([0, 1, 2, 3] : List Int), W (1 + (W (p0.1.tmod 6))), o90)
theorem m_overseerlaw04_Make_c {s : Sig} {p0 : Int × Int × ((Int × Int × Int × Int) × (Int × Int × Int × Int) × (Int × Int × Int × Int) × (Int × Int × Int × Int) × (Int × Int × Int × Int) × (Int × Int × Int × Int))} {u1 : Nat} {u2 : Nat} {r : AutT} (hm : m_overseerlaw04_Make p0 = some r) :
    Calls Tryz.prog 7 #[.agg #[.int .u8 p0.1, .int .u8 p0.2.1, .int .u8 p0.2.2.1.1, .int .u8 p0.2.2.1.2.1, .int .u8 p0.2.2.1.2.2.1, .int .u8 p0.2.2.1.2.2.2, .int .u8 p0.2.2.2.1.1, .int .u8 p0.2.2.2.1.2.1, .int .u8 p0.2.2.2.1.2.2.1, .int .u8 p0.2.2.2.1.2.2.2, .int .u8 p0.2.2.2.2.1.1, .int .u8 p0.2.2.2.2.1.2.1, .int .u8 p0.2.2.2.2.1.2.2.1, .int .u8 p0.2.2.2.2.1.2.2.2, .int .u8 p0.2.2.2.2.2.1.1, .int .u8 p0.2.2.2.2.2.1.2.1, .int .u8 p0.2.2.2.2.2.1.2.2.1, .int .u8 p0.2.2.2.2.2.1.2.2.2, .int .u8 p0.2.2.2.2.2.2.1.1, .int .u8 p0.2.2.2.2.2.2.1.2.1, .int .u8 p0.2.2.2.2.2.2.1.2.2.1, .int .u8 p0.2.2.2.2.2.2.1.2.2.2, .int .u8 p0.2.2.2.2.2.2.2.1, .int .u8 p0.2.2.2.2.2.2.2.2.1, .int .u8 p0.2.2.2.2.2.2.2.2.2.1, .int .u8 p0.2.2.2.2.2.2.2.2.2.2]] s.w (RetS No s fun v s' => ∃ (a1 : Option Addr) (c1 : Nat) (a2 : Option Addr) (c2 : Nat) (a3 : Option Addr) (c3 : Nat), v = .agg #[.slice a1 r.1.length c1, .int .i64 r.2.1, .slice a2 r.2.2.1.length c2, .slice a3 r.2.2.2.length c3] ∧ RdL qI s' a1 c1 r.1 ∧ RowT qI s' u1 3 a2 c2 r.2.2.1 ∧ RowT qT s' u2 62 a3 c3 r.2.2.2) := by
 unfold m_overseerlaw04_Make at hm
 obtain ⟨N, hN, hNb⟩ := s.fresh
 have m0 : Mv (Up N No) s s := Mv.refl _ _
 refine E.entry Tryz.func7 R Tryz.ntmps7 R R (ER (L.box (N + 0) Y R R R fun b4 s5 m6 bx4 => ?_))
 refine L.al (N + 1) zz30 R Y R fun b7 s8 m9 bx7 => ?_
 refine LN (ER (L.bsE (k := 4) (cs := [.int .i64 0, .int .i64 1, .int .i64 2, .int .i64 3]) 0 bs27 (nb R) Y R R R R fun b10 s11 m12 bx10 => ?_))
 replace bx4 := (bx4.mv m9 no_No).mv m12 no_No
 have h10 := Bx.rdL (r := qI) (xs := ([0, 1, 2, 3] : List Int)) bx10 ⟨[.int .i64 0], _, R, R, ⟨[.int .i64 1], _, R, R, ⟨[.int .i64 2], _, R, R, ⟨[.int .i64 3], _, R, R, R⟩⟩⟩⟩ (nb R)
 refine L.fa fa25_0 Y R R (L.ld (j := 0) bx4.mem nag5 Y R R R R (L.rem Y R R (by decide) R (L.cv Tryz.underlying5 Tryz.underlying3 Y R R (L.bi Y R R R R (L.bu (cs := [.slice (some ⟨b10, 0, none⟩) ([0, 1, 2, 3] : List Int).length (([0, 1, 2, 3] : List Int).length), .int .i64 (W (1 + (W (p0.1.tmod 6)))), .slice none 0 0, .slice none 0 0]) pl30 Y R R R (L.al (N + 2) zz30 R Y R fun b13 s14 m15 bx13 => ?_))))))
 refine L.st (c := [.slice (some ⟨b10, 0, none⟩) ([0, 1, 2, 3] : List Int).length (([0, 1, 2, 3] : List Int).length), .int .i64 (W (1 + (W (p0.1.tmod 6)))), .slice none 0 0, .slice none 0 0]) (cs' := #[.slice (some ⟨b10, 0, none⟩) ([0, 1, 2, 3] : List Int).length (([0, 1, 2, 3] : List Int).length), .int .i64 (W (1 + (W (p0.1.tmod 6)))), .slice none 0 0, .slice none 0 0]) bx13 ag30.sz Y R R R R R (nb R) R fun s16 m17 bx13 => ?_
 replace m0 := ((((m0.trans m6.no).trans m9.no).trans m12.no).trans m15.no).trans (m17.one up)
 replace bx4 := (bx4.mv m15 no_No).mv m17 (tq R)
 replace bx7 := ((bx7.mv m12 no_No).mv m15 no_No).mv m17 (tq R)
 replace h10 := (h10.mono m15.z).mono (m17.le (tg0 hN))
 refine LN (E.seq (ER (L.as Y R R (LN (E.block ?_)))))
 obtain ⟨o90, eo90, hm⟩ := bindS hm
 refine E.cut (x := .exit 0) (fun e w => ∃ (s96 : Sig) (a92 : Option Addr) (c92 : Nat) (a94 : Option Addr) (c94 : Nat), Mv (Up N No) s s96 ∧ RdL qI s96 (some ⟨b10, 0, none⟩) (([0, 1, 2, 3] : List Int).length) ([0, 1, 2, 3] : List Int) ∧ RowT qI s96 (N + 3) 3 a92 c92 o90.1 ∧ RowT qT s96 (N + 4) 62 a94 c94 o90.2 ∧ Bx s96 (N + 1) b7 #[.slice none 0 0, .int .i64 0, .slice none 0 0, .slice none 0 0] 30 ∧ Bx s96 (N + 2) b13 #[.slice (some ⟨b10, 0, none⟩) ([0, 1, 2, 3] : List Int).length (([0, 1, 2, 3] : List Int).length), .int .i64 (W (1 + (W (p0.1.tmod 6)))), .slice a92 o90.1.length c92, .slice a94 o90.2.length c94] 30 ∧ e = [(3, .pointer (some ⟨b13, 0, none⟩)), (2, .pointer (some ⟨b7, 0, none⟩))] ∧ w = s96.w) ?_ ?_
 ·rintro _ _ ⟨s96, a92, c92, a94, c94, m0, h10, h92, h94, bx7, bx13, rfl, rfl⟩
  refine X.blkE (X.seqN (ER (L.lg (j := 0) (cs := [.slice (some ⟨b10, 0, none⟩) ([0, 1, 2, 3] : List Int).length (([0, 1, 2, 3] : List Int).length), .int .i64 (W (1 + (W (p0.1.tmod 6)))), .slice a92 o90.1.length c92, .slice a94 o90.2.length c94]) bx13.mem ag30 Y R R R R R (L.st (c := [.slice (some ⟨b10, 0, none⟩) ([0, 1, 2, 3] : List Int).length (([0, 1, 2, 3] : List Int).length), .int .i64 (W (1 + (W (p0.1.tmod 6)))), .slice a92 o90.1.length c92, .slice a94 o90.2.length c94]) (cs' := #[.slice (some ⟨b10, 0, none⟩) ([0, 1, 2, 3] : List Int).length (([0, 1, 2, 3] : List Int).length), .int .i64 (W (1 + (W (p0.1.tmod 6)))), .slice a92 o90.1.length c92, .slice a94 o90.2.length c94]) bx7 ag30.sz Y R R R R R (nb R) R fun s97 m98 bx7 => ?_))))
  replace m0 := m0.trans (m98.one up)
  replace h10 := h10.mono (m98.le (tg0 hN))
  replace h92 := h92.mv m98 (tq R) (tg0 hN)
  replace h94 := h94.mv m98 (tq R) (tg0 hN)
  refine LN (E.ret ?_)
  obtain rfl := oi hm
  exact X.rt (.inl R) Tryz.results7 (Rs.cell R bx7 ag30 R Rs.nil) R ⟨_, (s97).ren N (fun k => cond (Nat.beq k 4) u2 (cond (Nat.beq k 3) u1 (0))), R, R, m0.ren hNb, ⟨(some ⟨b10, 0, none⟩), ([0, 1, 2, 3] : List Int).length, a92, c92, a94, c94, R, (h10.ren hN), (h92.ren hN), (h94.ren hN)⟩⟩
 intro K99
 refine E.iter (fun (st90 : Int × List Int × (List (Int × Int × Int))) (e : List (Nat × Value)) (w : World) => ∃ (s95 : Sig) (a20 : Option Addr) (c20 : Nat) (a22 : Option Addr) (c22 : Nat), Mv (Up N No) s s95 ∧ RdL qI s95 (some ⟨b10, 0, none⟩) (([0, 1, 2, 3] : List Int).length) ([0, 1, 2, 3] : List Int) ∧ RowT qI s95 (N + 3) 3 a20 c20 st90.2.1 ∧ RowT qT s95 (N + 4) 62 a22 c22 st90.2.2 ∧ Bx s95 (N + 0) b4 #[.int .u8 p0.1, .int .u8 p0.2.1, .int .u8 p0.2.2.1.1, .int .u8 p0.2.2.1.2.1, .int .u8 p0.2.2.1.2.2.1, .int .u8 p0.2.2.1.2.2.2, .int .u8 p0.2.2.2.1.1, .int .u8 p0.2.2.2.1.2.1, .int .u8 p0.2.2.2.1.2.2.1, .int .u8 p0.2.2.2.1.2.2.2, .int .u8 p0.2.2.2.2.1.1, .int .u8 p0.2.2.2.2.1.2.1, .int .u8 p0.2.2.2.2.1.2.2.1, .int .u8 p0.2.2.2.2.1.2.2.2, .int .u8 p0.2.2.2.2.2.1.1, .int .u8 p0.2.2.2.2.2.1.2.1, .int .u8 p0.2.2.2.2.2.1.2.2.1, .int .u8 p0.2.2.2.2.2.1.2.2.2, .int .u8 p0.2.2.2.2.2.2.1.1, .int .u8 p0.2.2.2.2.2.2.1.2.1, .int .u8 p0.2.2.2.2.2.2.1.2.2.1, .int .u8 p0.2.2.2.2.2.2.1.2.2.2, .int .u8 p0.2.2.2.2.2.2.2.1, .int .u8 p0.2.2.2.2.2.2.2.2.1, .int .u8 p0.2.2.2.2.2.2.2.2.2.1, .int .u8 p0.2.2.2.2.2.2.2.2.2.2] 25 ∧ Bx s95 (N + 1) b7 #[.slice none 0 0, .int .i64 0, .slice none 0 0, .slice none 0 0] 30 ∧ Bx s95 (N + 2) b13 #[.slice (some ⟨b10, 0, none⟩) ([0, 1, 2, 3] : List Int).length (([0, 1, 2, 3] : List Int).length), .int .i64 (W (1 + (W (p0.1.tmod 6)))), .slice a20 st90.2.1.length c20, .slice a22 st90.2.2.length c22] 30 ∧ e = [(4, .int .i64 st90.1), (3, .pointer (some ⟨b13, 0, none⟩)), (2, .pointer (some ⟨b7, 0, none⟩)), (1, .pointer (some ⟨b4, 0, none⟩))] ∧ w = s95.w) eo90 ⟨s16, none, 0, none, 0, m0, h10, RowT.nil, RowT.nil, bx4, bx7, bx13, R, R⟩ (Sub.rf R) ?_
 rintro st90 res90 hm ih90 ho90 _ _ ⟨s95, a20, c20, a22, c22, m0, h10, h20, h22, bx4, bx7, bx13, rfl, rfl⟩
 unfold m_overseerlaw04_Make_l1 at hm
 refine E.seq (ER (L.mv Y R R (L.fa fa30_1 Y R R (L.ld (j := 1) bx13.mem nag3 Y R R R R (L.bi Y R R R R (L.nil (X.seqN ?_)))))))
 rcases ifS hm with ⟨hc, hm⟩ | ⟨hc, hm⟩
 ·refine E.cT R hc (E.skip (X.seqN (E.seq (E.block (E.seqJ (fun e w => ∃ (s102 : Sig) (l100 : List Int) (a101 : Option Addr) (c101 : Nat), m_overseerlaw04_Make_j1 p0 st90 l100 = some res90 ∧ Mv (Up N No) s s102 ∧ RdL qI s102 (some ⟨b10, 0, none⟩) (([0, 1, 2, 3] : List Int).length) ([0, 1, 2, 3] : List Int) ∧ RowT qI s102 (N + 3) 3 a101 c101 l100 ∧ RowT qT s102 (N + 4) 62 a22 c22 st90.2.2 ∧ Bx s102 (N + 0) b4 #[.int .u8 p0.1, .int .u8 p0.2.1, .int .u8 p0.2.2.1.1, .int .u8 p0.2.2.1.2.1, .int .u8 p0.2.2.1.2.2.1, .int .u8 p0.2.2.1.2.2.2, .int .u8 p0.2.2.2.1.1, .int .u8 p0.2.2.2.1.2.1, .int .u8 p0.2.2.2.1.2.2.1, .int .u8 p0.2.2.2.1.2.2.2, .int .u8 p0.2.2.2.2.1.1, .int .u8 p0.2.2.2.2.1.2.1, .int .u8 p0.2.2.2.2.1.2.2.1, .int .u8 p0.2.2.2.2.1.2.2.2, .int .u8 p0.2.2.2.2.2.1.1, .int .u8 p0.2.2.2.2.2.1.2.1, .int .u8 p0.2.2.2.2.2.1.2.2.1, .int .u8 p0.2.2.2.2.2.1.2.2.2, .int .u8 p0.2.2.2.2.2.2.1.1, .int .u8 p0.2.2.2.2.2.2.1.2.1, .int .u8 p0.2.2.2.2.2.2.1.2.2.1, .int .u8 p0.2.2.2.2.2.2.1.2.2.2, .int .u8 p0.2.2.2.2.2.2.2.1, .int .u8 p0.2.2.2.2.2.2.2.2.1, .int .u8 p0.2.2.2.2.2.2.2.2.2.1, .int .u8 p0.2.2.2.2.2.2.2.2.2.2] 25 ∧ Bx s102 (N + 1) b7 #[.slice none 0 0, .int .i64 0, .slice none 0 0, .slice none 0 0] 30 ∧ Bx s102 (N + 2) b13 #[.slice (some ⟨b10, 0, none⟩) ([0, 1, 2, 3] : List Int).length (([0, 1, 2, 3] : List Int).length), .int .i64 (W (1 + (W (p0.1.tmod 6)))), .slice a101 l100.length c101, .slice a22 st90.2.2.length c22] 30 ∧ e = [(4, .int .i64 st90.1), (3, .pointer (some ⟨b13, 0, none⟩)), (2, .pointer (some ⟨b7, 0, none⟩)), (1, .pointer (some ⟨b4, 0, none⟩))] ∧ w = s102.w) ?_ ?_)))))
  ·rintro _ _ ⟨s102, l100, a101, c101, hm, m0, h10, h101, h22, bx4, bx7, bx13, rfl, rfl⟩
   unfold m_overseerlaw04_Make_j1 at hm
   refine ER (L.as Y R R (LN (E.block ?_)))
   obtain ⟨o128, eo128, hm⟩ := bindS hm
   refine E.cut (x := .exit 2) (fun e w => ∃ (s132 : Sig) (a130 : Option Addr) (c130 : Nat), Mv (Up N No) s s132 ∧ RdL qI s132 (some ⟨b10, 0, none⟩) (([0, 1, 2, 3] : List Int).length) ([0, 1, 2, 3] : List Int) ∧ RowT qI s132 (N + 3) 3 a101 c101 l100 ∧ RowT qT s132 (N + 4) 62 a130 c130 o128 ∧ Bx s132 (N + 0) b4 #[.int .u8 p0.1, .int .u8 p0.2.1, .int .u8 p0.2.2.1.1, .int .u8 p0.2.2.1.2.1, .int .u8 p0.2.2.1.2.2.1, .int .u8 p0.2.2.1.2.2.2, .int .u8 p0.2.2.2.1.1, .int .u8 p0.2.2.2.1.2.1, .int .u8 p0.2.2.2.1.2.2.1, .int .u8 p0.2.2.2.1.2.2.2, .int .u8 p0.2.2.2.2.1.1, .int .u8 p0.2.2.2.2.1.2.1, .int .u8 p0.2.2.2.2.1.2.2.1, .int .u8 p0.2.2.2.2.1.2.2.2, .int .u8 p0.2.2.2.2.2.1.1, .int .u8 p0.2.2.2.2.2.1.2.1, .int .u8 p0.2.2.2.2.2.1.2.2.1, .int .u8 p0.2.2.2.2.2.1.2.2.2, .int .u8 p0.2.2.2.2.2.2.1.1, .int .u8 p0.2.2.2.2.2.2.1.2.1, .int .u8 p0.2.2.2.2.2.2.1.2.2.1, .int .u8 p0.2.2.2.2.2.2.1.2.2.2, .int .u8 p0.2.2.2.2.2.2.2.1, .int .u8 p0.2.2.2.2.2.2.2.2.1, .int .u8 p0.2.2.2.2.2.2.2.2.2.1, .int .u8 p0.2.2.2.2.2.2.2.2.2.2] 25 ∧ Bx s132 (N + 1) b7 #[.slice none 0 0, .int .i64 0, .slice none 0 0, .slice none 0 0] 30 ∧ Bx s132 (N + 2) b13 #[.slice (some ⟨b10, 0, none⟩) ([0, 1, 2, 3] : List Int).length (([0, 1, 2, 3] : List Int).length), .int .i64 (W (1 + (W (p0.1.tmod 6)))), .slice a101 l100.length c101, .slice a130 o128.length c130] 30 ∧ e = [(4, .int .i64 st90.1), (3, .pointer (some ⟨b13, 0, none⟩)), (2, .pointer (some ⟨b7, 0, none⟩)), (1, .pointer (some ⟨b4, 0, none⟩))] ∧ w = s132.w) ?_ ?_
   ·rintro _ _ ⟨s132, a130, c130, m0, h10, h101, h130, bx4, bx7, bx13, rfl, rfl⟩
    exact X.blkE (X.blkN (X.seqN (E.reg (L.mv Y R R (L.bi Y R R R R (L.as Y R R (L.nil (X.sub (ih90 _ (oi hm).symm _ _ ⟨s132, a101, c101, a130, c130, m0, h10, h101, h130, bx4, bx7, bx13, R, R⟩) (Sub.rf R)))))))))
   intro K133
   refine E.iter (fun (st128 : Int × (List (Int × Int × Int))) (e : List (Nat × Value)) (w : World) => ∃ (s131 : Sig) (a106 : Option Addr) (c106 : Nat), Mv (Up N No) s s131 ∧ RdL qI s131 (some ⟨b10, 0, none⟩) (([0, 1, 2, 3] : List Int).length) ([0, 1, 2, 3] : List Int) ∧ RowT qI s131 (N + 3) 3 a101 c101 l100 ∧ RowT qT s131 (N + 4) 62 a106 c106 st128.2 ∧ Bx s131 (N + 0) b4 #[.int .u8 p0.1, .int .u8 p0.2.1, .int .u8 p0.2.2.1.1, .int .u8 p0.2.2.1.2.1, .int .u8 p0.2.2.1.2.2.1, .int .u8 p0.2.2.1.2.2.2, .int .u8 p0.2.2.2.1.1, .int .u8 p0.2.2.2.1.2.1, .int .u8 p0.2.2.2.1.2.2.1, .int .u8 p0.2.2.2.1.2.2.2, .int .u8 p0.2.2.2.2.1.1, .int .u8 p0.2.2.2.2.1.2.1, .int .u8 p0.2.2.2.2.1.2.2.1, .int .u8 p0.2.2.2.2.1.2.2.2, .int .u8 p0.2.2.2.2.2.1.1, .int .u8 p0.2.2.2.2.2.1.2.1, .int .u8 p0.2.2.2.2.2.1.2.2.1, .int .u8 p0.2.2.2.2.2.1.2.2.2, .int .u8 p0.2.2.2.2.2.2.1.1, .int .u8 p0.2.2.2.2.2.2.1.2.1, .int .u8 p0.2.2.2.2.2.2.1.2.2.1, .int .u8 p0.2.2.2.2.2.2.1.2.2.2, .int .u8 p0.2.2.2.2.2.2.2.1, .int .u8 p0.2.2.2.2.2.2.2.2.1, .int .u8 p0.2.2.2.2.2.2.2.2.2.1, .int .u8 p0.2.2.2.2.2.2.2.2.2.2] 25 ∧ Bx s131 (N + 1) b7 #[.slice none 0 0, .int .i64 0, .slice none 0 0, .slice none 0 0] 30 ∧ Bx s131 (N + 2) b13 #[.slice (some ⟨b10, 0, none⟩) ([0, 1, 2, 3] : List Int).length (([0, 1, 2, 3] : List Int).length), .int .i64 (W (1 + (W (p0.1.tmod 6)))), .slice a101 l100.length c101, .slice a106 st128.2.length c106] 30 ∧ e = [(5, .int .i64 st128.1), (4, .int .i64 st90.1), (3, .pointer (some ⟨b13, 0, none⟩)), (2, .pointer (some ⟨b7, 0, none⟩)), (1, .pointer (some ⟨b4, 0, none⟩))] ∧ w = s131.w) eo128 ⟨s102, a22, c22, m0, h10, h101, h22, bx4, bx7, bx13, R, R⟩ (Sub.rf R) ?_
   rintro st128 res128 hm ih128 ho128 _ _ ⟨s131, a106, c106, m0, h10, h101, h106, bx4, bx7, bx13, rfl, rfl⟩
   unfold m_overseerlaw04_Make_l2 at hm
   refine E.seq (ER (L.mv Y R R (L.bi Y R R R R (L.nil (X.seqN ?_)))))
   rcases ifS hm with ⟨hc, hm⟩ | ⟨hc, hm⟩
   ·refine E.cT R hc (E.skip (X.seqN (E.seqJ (fun e w => ∃ (s136 : Sig) (l134 : List (Int × Int × Int)) (a135 : Option Addr) (c135 : Nat), m_overseerlaw04_Make_j2 st128 l134 = some res128 ∧ Mv (Up N No) s s136 ∧ RdL qI s136 (some ⟨b10, 0, none⟩) (([0, 1, 2, 3] : List Int).length) ([0, 1, 2, 3] : List Int) ∧ RowT qI s136 (N + 3) 3 a101 c101 l100 ∧ RowT qT s136 (N + 4) 62 a135 c135 l134 ∧ Bx s136 (N + 0) b4 #[.int .u8 p0.1, .int .u8 p0.2.1, .int .u8 p0.2.2.1.1, .int .u8 p0.2.2.1.2.1, .int .u8 p0.2.2.1.2.2.1, .int .u8 p0.2.2.1.2.2.2, .int .u8 p0.2.2.2.1.1, .int .u8 p0.2.2.2.1.2.1, .int .u8 p0.2.2.2.1.2.2.1, .int .u8 p0.2.2.2.1.2.2.2, .int .u8 p0.2.2.2.2.1.1, .int .u8 p0.2.2.2.2.1.2.1, .int .u8 p0.2.2.2.2.1.2.2.1, .int .u8 p0.2.2.2.2.1.2.2.2, .int .u8 p0.2.2.2.2.2.1.1, .int .u8 p0.2.2.2.2.2.1.2.1, .int .u8 p0.2.2.2.2.2.1.2.2.1, .int .u8 p0.2.2.2.2.2.1.2.2.2, .int .u8 p0.2.2.2.2.2.2.1.1, .int .u8 p0.2.2.2.2.2.2.1.2.1, .int .u8 p0.2.2.2.2.2.2.1.2.2.1, .int .u8 p0.2.2.2.2.2.2.1.2.2.2, .int .u8 p0.2.2.2.2.2.2.2.1, .int .u8 p0.2.2.2.2.2.2.2.2.1, .int .u8 p0.2.2.2.2.2.2.2.2.2.1, .int .u8 p0.2.2.2.2.2.2.2.2.2.2] 25 ∧ Bx s136 (N + 1) b7 #[.slice none 0 0, .int .i64 0, .slice none 0 0, .slice none 0 0] 30 ∧ Bx s136 (N + 2) b13 #[.slice (some ⟨b10, 0, none⟩) ([0, 1, 2, 3] : List Int).length (([0, 1, 2, 3] : List Int).length), .int .i64 (W (1 + (W (p0.1.tmod 6)))), .slice a101 l100.length c101, .slice a135 l134.length c135] 30 ∧ e = [(5, .int .i64 st128.1), (4, .int .i64 st90.1), (3, .pointer (some ⟨b13, 0, none⟩)), (2, .pointer (some ⟨b7, 0, none⟩)), (1, .pointer (some ⟨b4, 0, none⟩))] ∧ w = s136.w) ?_ ?_)))
    ·rintro _ _ ⟨s136, l134, a135, c135, hm, m0, h10, h101, h135, bx4, bx7, bx13, rfl, rfl⟩
     unfold m_overseerlaw04_Make_j2 at hm
     exact E.reg (L.mv Y R R (L.bi Y R R R R (L.as Y R R (L.nil (X.sub (ih128 _ (oi hm).symm _ _ ⟨s136, a135, c135, m0, h10, h101, h135, bx4, bx7, bx13, R, R⟩) (Sub.rf R))))))
    intro Jj137
    refine E.block (ER (L.mv Y R R (L.mv Y R R (L.fa fa25_2 Y R R ?_))))
    obtain ⟨_, z138, hm⟩ := bindS hm
    refine L.ia ia23 Y R R (rng_some z138) R ?_
    obtain ⟨_, z139, hm⟩ := bindS hm
    refine L.ia ia22 Y R R (rng_some z139) R ?_
    obtain ⟨x140, ex140, hm⟩ := bindS hm
    refine L.ld (j := st90.1.toNat * 4 + st128.1.toNat * 1) (c := [.int .u8 p0.2.2.1.1, .int .u8 p0.2.2.1.2.1, .int .u8 p0.2.2.1.2.2.1, .int .u8 p0.2.2.1.2.2.2, .int .u8 p0.2.2.2.1.1, .int .u8 p0.2.2.2.1.2.1, .int .u8 p0.2.2.2.1.2.2.1, .int .u8 p0.2.2.2.1.2.2.2, .int .u8 p0.2.2.2.2.1.1, .int .u8 p0.2.2.2.2.1.2.1, .int .u8 p0.2.2.2.2.1.2.2.1, .int .u8 p0.2.2.2.2.1.2.2.2, .int .u8 p0.2.2.2.2.2.1.1, .int .u8 p0.2.2.2.2.2.1.2.1, .int .u8 p0.2.2.2.2.2.1.2.2.1, .int .u8 p0.2.2.2.2.2.1.2.2.2, .int .u8 p0.2.2.2.2.2.2.1.1, .int .u8 p0.2.2.2.2.2.2.1.2.1, .int .u8 p0.2.2.2.2.2.2.1.2.2.1, .int .u8 p0.2.2.2.2.2.2.1.2.2.2, .int .u8 p0.2.2.2.2.2.2.2.1, .int .u8 p0.2.2.2.2.2.2.2.2.1, .int .u8 p0.2.2.2.2.2.2.2.2.2.1, .int .u8 p0.2.2.2.2.2.2.2.2.2.2]) (v := Value.int .u8 x140) (Mem.sub bx4.mem 2 24 (nb R)) nag5 Y R (by omega) (show [Value.int .u8 p0.2.2.1.1, Value.int .u8 p0.2.2.1.2.1, Value.int .u8 p0.2.2.1.2.2.1, Value.int .u8 p0.2.2.1.2.2.2, Value.int .u8 p0.2.2.2.1.1, Value.int .u8 p0.2.2.2.1.2.1, Value.int .u8 p0.2.2.2.1.2.2.1, Value.int .u8 p0.2.2.2.1.2.2.2, Value.int .u8 p0.2.2.2.2.1.1, Value.int .u8 p0.2.2.2.2.1.2.1, Value.int .u8 p0.2.2.2.2.1.2.2.1, Value.int .u8 p0.2.2.2.2.1.2.2.2, Value.int .u8 p0.2.2.2.2.2.1.1, Value.int .u8 p0.2.2.2.2.2.1.2.1, Value.int .u8 p0.2.2.2.2.2.1.2.2.1, Value.int .u8 p0.2.2.2.2.2.1.2.2.2, Value.int .u8 p0.2.2.2.2.2.2.1.1, Value.int .u8 p0.2.2.2.2.2.2.1.2.1, Value.int .u8 p0.2.2.2.2.2.2.1.2.2.1, Value.int .u8 p0.2.2.2.2.2.2.1.2.2.2, Value.int .u8 p0.2.2.2.2.2.2.2.1, Value.int .u8 p0.2.2.2.2.2.2.2.2.1, Value.int .u8 p0.2.2.2.2.2.2.2.2.2.1, Value.int .u8 p0.2.2.2.2.2.2.2.2.2.2][st90.1.toNat * 4 + st128.1.toNat * 1]? = some (Value.int .u8 x140) from getMap (f := fun z => Value.int .u8 z) ex140) R (L.rem Y R R (by decide) R (L.cv Tryz.underlying5 Tryz.underlying3 Y R R (L.bi Y R R R R (L.as Y R R (LN (ER (L.mv Y R R (L.bi Y R R R R (L.mv Y R R (L.cut 5 (fun e w => ∃ (v141 : Bool), ((decide ((W ((W (x140.tmod 7)) - 1)) ≥ 0)) && (decide ((W ((W (x140.tmod 7)) - 1)) < (W (1 + (W (p0.1.tmod 6))))))) = v141 ∧ e = (52, .bool v141) :: [(6, .int .i64 (W ((W (x140.tmod 7)) - 1))), (5, .int .i64 st128.1), (4, .int .i64 st90.1), (3, .pointer (some ⟨b13, 0, none⟩)), (2, .pointer (some ⟨b7, 0, none⟩)), (1, .pointer (some ⟨b4, 0, none⟩))] ∧ w = s131.w) ?_ ?_))))))))))
    ·rintro _ _ ⟨v141, rfl, rfl, rfl⟩
     refine L.nil (X.seqN ?_)
     rcases ifS hm with ⟨hc, hm⟩ | ⟨hc, hm⟩
     ·refine E.cT R hc (E.reg (L.fa fa30_3 Y R R (L.ld (j := 3) bx13.mem nag28 Y R R R R (L.mv Y R R (L.mv Y R R (L.mv Y R R (L.bu (cs := [.int .i64 st90.1, .int .i64 st128.1, .int .i64 (W ((W (x140.tmod 7)) - 1))]) pl62 Y R R R (L.bsE (k := 1) (cs := [.int .i64 st90.1, .int .i64 st128.1, .int .i64 (W ((W (x140.tmod 7)) - 1))]) 0 bs28 (nb R) Y R R R R fun b142 s143 m144 bx142 => ?_))))))))
      replace h106 := h106.mv m144 no_No no_No
      have h142 := Bx.rdL (r := qT) (xs := ([(st90.1, st128.1, W ((W (x140.tmod 7)) - 1))] : List (Int × Int × Int))) bx142 ⟨[.int .i64 st90.1, .int .i64 st128.1, .int .i64 (W ((W (x140.tmod 7)) - 1))], _, R, ⟨[.int .i64 st90.1], [.int .i64 st128.1, .int .i64 (W ((W (x140.tmod 7)) - 1))], R, R, ⟨[.int .i64 st128.1], [.int .i64 (W ((W (x140.tmod 7)) - 1))], R, R, R⟩⟩, R⟩ (nb R)
      obtain ⟨x145, ex145, hm⟩ := bindS hm
      refine L.ap (r := qT) Tryz.underlying28 el62 R (tgp hN) h106 h142.wk Y R R ex145 R fun a146 c146 s147 m148 h146 => ?_
      replace bx13 := (bx13.mv m144 no_No).mv m148 (tq R)
      refine L.fa fa30_3 Y R R (L.st (c := [.slice a146 x145.length c146]) (cs' := #[.slice (some ⟨b10, 0, none⟩) ([0, 1, 2, 3] : List Int).length (([0, 1, 2, 3] : List Int).length), .int .i64 (W (1 + (W (p0.1.tmod 6)))), .slice a101 l100.length c101, .slice a146 x145.length c146]) bx13 nag28.sz Y R R R R R (nb R) R fun s149 m150 bx13 => ?_)
      replace m0 := ((m0.trans m144.no).trans (m148.one up)).trans (m150.one up)
      replace bx4 := ((bx4.mv m144 no_No).mv m148 (tq R)).mv m150 (tq R)
      replace bx7 := ((bx7.mv m144 no_No).mv m148 (tq R)).mv m150 (tq R)
      replace h10 := ((h10.mono m144.z).mono (m148.le (tg0 hN))).mono (m150.le (tg0 hN))
      replace h101 := ((h101.mv m144 no_No no_No).mv m148 (tq R) (tg0 hN)).mv m150 (tq R) (tg0 hN)
      replace h146 := h146.mv m150 (tq R) (tg0 hN)
      exact L.nil (X.blkN (X.sub (Jj137 _ _ ⟨s149, x145, a146, c146, hm, m0, h10, h101, h146, bx4, bx7, bx13, R, R⟩) (Sub.rf R)))
     exact E.cF R hc (E.skip (X.blkN (X.sub (Jj137 _ _ ⟨s131, st128.2, a106, c106, hm, m0, h10, h101, h106, bx4, bx7, bx13, R, R⟩) (Sub.rf R))))
    intro J151
    rcases Bool.eq_false_or_eq_true (decide ((W ((W (x140.tmod 7)) - 1)) ≥ 0)) with hc | hc
    ·exact L.know (d := 47) R hc (L.mv (Wt.mk R R) R R (L.fa fa30_1 (Wt.mk R R) R R (L.ld (j := 1) bx13.mem nag3 (Wt.mk R R) R R R R (L.bi (Wt.mk R R) R R R R (L.pkT Y R R R R (L.sb (J151 _ _ ⟨(decide ((W ((W (x140.tmod 7)) - 1)) < (W (1 + (W (p0.1.tmod 6)))))), (andT hc).symm, R, R⟩) R))))))
    exact L.know (d := 47) R hc (L.skip R R R R (L.skip R R R R (L.skip R R R R (L.skip R R R R (L.pkF Y R R R R (L.sb (J151 _ _ ⟨false, (andF hc).symm, R, R⟩) R))))))
   refine E.cF R hc (E.exit (X.seqX (X.seqX ?_)))
   have hx := ho128 _ (oi hm).symm
   subst hx
   exact X.sub (K133 _ _ ⟨s131, a106, c106, m0, h10, h101, h106, bx4, bx7, bx13, R, R⟩) (Sub.rf R)
  intro Jj103
  refine ER (L.fa fa25_1 Y R R (L.ld (j := 1) bx4.mem nag5 Y R R R R (L.mv Y R R ?_)))
  obtain ⟨_, z152, hm⟩ := bindS hm
  refine L.shr Y R R (ng_some z152) R (L.bi Y R R R R (L.bi Y R R R R (L.nil (X.seqN ?_))))
  rcases ifS hm with ⟨hc, hm⟩ | ⟨hc, hm⟩
  ·refine E.cT R hc (E.reg (L.fa fa30_2 Y R R (L.ld (j := 2) bx13.mem nag27 Y R R R R (L.mv Y R R (L.bsE (k := 1) (cs := [.int .i64 st90.1]) 0 bs27 (nb R) Y R R R R fun b153 s154 m155 bx153 => ?_)))))
   replace h20 := h20.mv m155 no_No no_No
   have h153 := Bx.rdL (r := qI) (xs := ([st90.1] : List Int)) bx153 ⟨[.int .i64 st90.1], _, R, R, R⟩ (nb R)
   obtain ⟨x156, ex156, hm⟩ := bindS hm
   refine L.ap (r := qI) Tryz.underlying27 el3 R (tgp hN) h20 h153.wk Y R R ex156 R fun a157 c157 s158 m159 h157 => ?_
   replace bx13 := (bx13.mv m155 no_No).mv m159 (tq R)
   refine L.fa fa30_2 Y R R (L.st (c := [.slice a157 x156.length c157]) (cs' := #[.slice (some ⟨b10, 0, none⟩) ([0, 1, 2, 3] : List Int).length (([0, 1, 2, 3] : List Int).length), .int .i64 (W (1 + (W (p0.1.tmod 6)))), .slice a157 x156.length c157, .slice a22 st90.2.2.length c22]) bx13 nag27.sz Y R R R R R (nb R) R fun s160 m161 bx13 => ?_)
   replace m0 := ((m0.trans m155.no).trans (m159.one up)).trans (m161.one up)
   replace bx4 := ((bx4.mv m155 no_No).mv m159 (tq R)).mv m161 (tq R)
   replace bx7 := ((bx7.mv m155 no_No).mv m159 (tq R)).mv m161 (tq R)
   replace h10 := ((h10.mono m155.z).mono (m159.le (tg0 hN))).mono (m161.le (tg0 hN))
   replace h157 := h157.mv m161 (tq R) (tg0 hN)
   replace h22 := ((h22.mv m155 no_No no_No).mv m159 (tq R) (tg0 hN)).mv m161 (tq R) (tg0 hN)
   exact L.nil (X.sub (Jj103 _ _ ⟨s160, x156, a157, c157, hm, m0, h10, h157, h22, bx4, bx7, bx13, R, R⟩) (Sub.rf R))
  exact E.cF R hc (E.skip (X.sub (Jj103 _ _ ⟨s95, st90.2.1, a20, c20, hm, m0, h10, h20, h22, bx4, bx7, bx13, R, R⟩) (Sub.rf R)))
 refine E.cF R hc (E.exit (X.seqX (X.seqX ?_)))
 have hx := ho90 _ (oi hm).symm
 subst hx
 exact X.sub (K99 _ _ ⟨s95, a20, c20, a22, c22, m0, h10, h20, h22, bx7, bx13, R, R⟩) (Sub.rf R)

theorem cf65 : Cf Tryz.prog 65 := Cf.mk Tryz.func65 (by kernel_rfl) (by kernel_rfl)
theorem nag55 : NAg Tryz.prog 55 := NAg.mk' Tryz.underlying55 rfl (by kernel_rfl)
theorem zz55 : (Tryz.prog.info? 55).bind (·.zero) = some (.slice none 0 0) := by kernel_rfl
noncomputable def m_reach_Restrict_j2 (st293 : List Int × (List (Int × Int × Int)) × List Int × List Int × Int) (st393 : (List (Int × Int × Int)) × List Int × List Int) (x395 : Int × Int × Int) (l409 : List Int) (l410 : List Int) : Option ((List (Int × Int × Int)) × List Int × List Int) :=
 (idx l409 x395.2.2).bind fun x423 =>
 (app st393.1 ([(st293.2.2.2.2, x395.2.1, W (x423 - 1))] : List (Int × Int × Int))).bind fun x433 =>
 some (x433, l409, l410)
noncomputable def m_reach_Restrict_l2 (r46 : List Bool) (st293 : List Int × (List (Int × Int × Int)) × List Int × List Int × Int) (x395 : Int × Int × Int) (st393 : (List (Int × Int × Int)) × List Int × List Int) : Option ((List (Int × Int × Int)) × List Int × List Int) :=
 (idx r46 x395.2.2).bind fun x407 =>
 if (!x407) then
  some st393
 else
  (idx st393.2.1 x395.2.2).bind fun x442 =>
  if (x442 == 0) then
   (app st393.2.2 ([x395.2.2] : List Int)).bind fun x447 =>
   (idx st393.2.1 x395.2.2).bind fun x453 =>
   (upd st393.2.1 x395.2.2 (x447.length : Int)).bind fun x455 =>
   m_reach_Restrict_j2 st293 st393 x395 x455 x447
  else
   m_reach_Restrict_j2 st293 st393 x395 st393.2.1 st393.2.2
noncomputable def m_reach_Restrict_j1 (r46 : List Bool) (r76 : (AutT × List Int)) (st293 : List Int × (List (Int × Int × Int)) × List Int × List Int × Int) (l309 : List Int) : Option ((List Int × (List (Int × Int × Int)) × List Int × List Int × Int) ⊕ (List Int × (List (Int × Int × Int)) × List Int)) :=
 (idx st293.2.2.2.1 st293.2.2.2.2).bind fun x317 =>
 (m_reach_graph_edges r76 x317).bind fun r321 =>
 (rngF (fun k => m_reach_Restrict_l2 r46 st293 (r321.getD k (0, 0, 0))) r321.length 0 (st293.2.1, st293.2.2.1, st293.2.2.2.1)).bind fun o393 =>
 some (.inl (l309, o393.1, o393.2.1, o393.2.2, W (st293.2.2.2.2 + 1)))
noncomputable def m_reach_Restrict_l1 (r46 : List Bool) (r54 : List Bool) (r76 : (AutT × List Int)) (st293 : List Int × (List (Int × Int × Int)) × List Int × List Int × Int) : Option ((List Int × (List (Int × Int × Int)) × List Int × List Int × Int) ⊕ (List Int × (List (Int × Int × Int)) × List Int)) :=
 if decide (st293.2.2.2.2 < (st293.2.2.2.1.length : Int)) then
  (idx st293.2.2.2.1 st293.2.2.2.2).bind fun x465 =>
  (idx r54 x465).bind fun x467 =>
  if x467 then
   (app st293.1 ([st293.2.2.2.2] : List Int)).bind fun x472 =>
   m_reach_Restrict_j1 r46 r76 st293 x472
  else
   m_reach_Restrict_j1 r46 r76 st293 st293.1
 else
  some (.inr (st293.1, st293.2.1, st293.2.2.2.1))
noncomputable def m_reach_Restrict (p0 : AutT) (p1 : List Int) : Option (AutT × Int) :=
 (m_automaton_Check p0).bind fun r14 =>
 if (r14 != 0) then
  some ((([] : List Int), 0, ([] : List Int), ([] : List (Int × Int × Int))), r14)
 else
  (m_reach_checkStates p0 p1).bind fun r21 =>
  if (r21 != 0) then
   some ((([] : List Int), 0, ([] : List Int), ([] : List (Int × Int × Int))), r21)
  else
   (m_slices_Clone_int p0.1).bind fun r28 =>
   (if ((p1.length : Int) == 0) then
    some true
   else
    (idx p1 0).bind fun x479 =>
    some (x479 != 0)).bind fun b37 =>
   if b37 then
    some ((r28, 0, ([] : List Int), ([] : List (Int × Int × Int))), 0)
   else
    (m_reach_flags p0 p1).bind fun r46 =>
    (m_reach_flags p0 p0.2.2.1).bind fun r54 =>
    (mkL p0.2.1 (0 : Int)).bind fun x67 =>
    (m_reach_newGraph p0).bind fun r76 =>
    (idx x67 0).bind fun x96 =>
    (upd x67 0 1).bind fun x98 =>
    (iter (m_reach_Restrict_l1 r46 r54 r76) (([] : List Int), ([] : List (Int × Int × Int)), x98, ([0] : List Int), 0)).bind fun o293 =>
    some ((r28, (o293.2.2.length : Int), o293.1, o293.2.1), 0)
theorem m_reach_Restrict_c {s : Sig} {p0 : AutT} {p1 : List Int} {a1 : Option Addr} {c1 : Nat} {a2 : Option Addr} {c2 : Nat} {a3 : Option Addr} {c3 : Nat} {a4 : Option Addr} {c4 : Nat} {u0 : Nat} {u1 : Nat} {u2 : Nat} {r : AutT × Int} (h1 : RdL qI s a1 c1 p0.1) (h2 : RdL qI s a2 c2 p0.2.2.1) (h3 : RdL qT s a3 c3 p0.2.2.2) (h4 : RdL qI s a4 c4 p1) (hm : m_reach_Restrict p0 p1 = some r) :
    Calls Tryz.prog 31 #[.agg #[.slice a1 p0.1.length c1, .int .i64 p0.2.1, .slice a2 p0.2.2.1.length c2, .slice a3 p0.2.2.2.length c3], .slice a4 p1.length c4] s.w (RetS No s fun v s' => ∃ (a5 : Option Addr) (c5 : Nat) (a6 : Option Addr) (c6 : Nat) (a7 : Option Addr) (c7 : Nat), v = .tuple #[.agg #[.slice a5 r.1.1.length c5, .int .i64 r.1.2.1, .slice a6 r.1.2.2.1.length c6, .slice a7 r.1.2.2.2.length c7], .int .i64 r.2] ∧ RowT qI s' u0 3 a5 c5 r.1.1 ∧ RowT qI s' u1 3 a6 c6 r.1.2.2.1 ∧ RowT qT s' u2 62 a7 c7 r.1.2.2.2) := by
 unfold m_reach_Restrict at hm
 obtain ⟨N, hN, hNb⟩ := s.fresh
 have m0 : Mv (Up N No) s s := Mv.refl _ _
 have mk0 : Mks s (N + 0) [] := Mks.nil
 refine E.entryM (vs := [.agg #[.slice a1 p0.1.length c1, .int .i64 p0.2.1, .slice a2 p0.2.2.1.length c2, .slice a3 p0.2.2.2.length c3], .slice a4 p1.length c4]) (e := [(0, .agg #[.slice a1 p0.1.length c1, .int .i64 p0.2.1, .slice a2 p0.2.2.1.length c2, .slice a3 p0.2.2.2.length c3]), (1, .slice a4 p1.length c4)]) Tryz.func31 R Tryz.ntmps31 R R (ER (L.box (N + 1) Y R R R fun b8 s9 m10 bx8 => ?_))
 refine L.al (N + 2) zz30 R Y R fun b11 s12 m13 bx11 => ?_
 replace bx8 := bx8.mv m13 no_No
 replace h1 := (h1.mono m10.z).mono m13.z
 replace h2 := (h2.mono m10.z).mono m13.z
 replace h3 := (h3.mono m10.z).mono m13.z
 refine L.as Y R R (LN (E.seq (ER (L.lg (j := 0) (cs := [.slice a1 p0.1.length c1, .int .i64 p0.2.1, .slice a2 p0.2.2.1.length c2, .slice a3 p0.2.2.2.length c3]) bx8.mem ag30 Y R R R R R ?_))))
 obtain ⟨r14, er14, hm⟩ := bindS hm
 refine L.ca cf16 R R Y R (m_automaton_Check_c (s := s12) (p0 := p0) h1 h2 h3 er14) R ?_
 rintro _ s15 m16 rfl
 replace m0 := ((m0.trans m10.no).trans m13.no).trans m16.no
 replace h4 := ((h4.mono m10.z).mono m13.z).mono m16.z
 replace mk0 := ((mk0.mv m10 no_No).mv m13 no_No).mv m16 no_No
 replace bx8 := bx8.mv m16 no_No
 replace h1 := h1.mono m16.z
 replace h2 := h2.mono m16.z
 replace h3 := h3.mono m16.z
 replace bx11 := bx11.mv m16 no_No
 refine L.as Y R R (LN (ER (L.mv Y R R (L.bi Y R R R R (L.nil (X.seqN ?_))))))
 rcases ifS hm with ⟨hc, hm⟩ | ⟨hc, hm⟩
 ·refine E.cT R hc (ER (L.bu (cs := [.slice none 0 0, .int .i64 0, .slice none 0 0, .slice none 0 0]) pl30 Y R R R (L.mv Y R R (L.st (c := [.slice none 0 0, .int .i64 0, .slice none 0 0, .slice none 0 0]) (cs' := #[.slice none 0 0, .int .i64 0, .slice none 0 0, .slice none 0 0]) bx11 ag30.sz Y R R R R R (nb R) R fun s17 m18 bx11 => ?_))))
  replace mk0 := mk0.mv m18 (tq R)
  refine L.as Y R R (LN (E.ret (X.seqR (X.lv (.inl R) mk0 fun s19 m20 => ?_))))
  replace m0 := (m0.trans (m18.one up)).trans (m20.one up)
  replace bx11 := bx11.mv m20 (tq R)
  obtain rfl := oi hm
  exact X.rt (.inl R) Tryz.results31 (Rs.cell R bx11 ag30 R (Rs.tmp R Rs.nil)) R ⟨_, (s19).ren N (fun _ => 0), R, R, m0.ren hNb, ⟨none, 0, none, 0, none, 0, R, RowT.nil, RowT.nil, RowT.nil⟩⟩
 refine E.cF R hc (E.skip (X.seqN (E.seq (ER (L.lg (j := 0) (cs := [.slice a1 p0.1.length c1, .int .i64 p0.2.1, .slice a2 p0.2.2.1.length c2, .slice a3 p0.2.2.2.length c3]) bx8.mem ag30 Y R R R R R (L.mv Y R R ?_))))))
 obtain ⟨r21, er21, hm⟩ := bindS hm
 refine L.ca cf62 R R Y R (m_reach_checkStates_c (s := s15) (p0 := p0) (p1 := p1) h1 h2 h3 h4 er21) R ?_
 rintro _ s22 m23 rfl
 replace m0 := m0.trans m23.no
 replace mk0 := mk0.mv m23 no_No
 replace bx8 := bx8.mv m23 no_No
 replace h1 := h1.mono m23.z
 replace bx11 := bx11.mv m23 no_No
 refine L.as Y R R (LN (ER (L.mv Y R R (L.bi Y R R R R (L.nil (X.seqN ?_))))))
 rcases ifS hm with ⟨hc, hm⟩ | ⟨hc, hm⟩
 ·refine E.cT R hc (ER (L.bu (cs := [.slice none 0 0, .int .i64 0, .slice none 0 0, .slice none 0 0]) pl30 Y R R R (L.mv Y R R (L.st (c := [.slice none 0 0, .int .i64 0, .slice none 0 0, .slice none 0 0]) (cs' := #[.slice none 0 0, .int .i64 0, .slice none 0 0, .slice none 0 0]) bx11 ag30.sz Y R R R R R (nb R) R fun s24 m25 bx11 => ?_))))
  replace mk0 := mk0.mv m25 (tq R)
  refine L.as Y R R (LN (E.ret (X.seqR (X.lv (.inl R) mk0 fun s26 m27 => ?_))))
  replace m0 := (m0.trans (m25.one up)).trans (m27.one up)
  replace bx11 := bx11.mv m27 (tq R)
  obtain rfl := oi hm
  exact X.rt (.inl R) Tryz.results31 (Rs.cell R bx11 ag30 R (Rs.tmp R Rs.nil)) R ⟨_, (s26).ren N (fun _ => 0), R, R, m0.ren hNb, ⟨none, 0, none, 0, none, 0, R, RowT.nil, RowT.nil, RowT.nil⟩⟩
 refine E.cF R hc (E.skip (X.seqN (ER (L.fa fa30_0 Y R R (L.ld (j := 0) bx8.mem nag27 Y R R R R ?_)))))
 obtain ⟨r28, er28, hm⟩ := bindS hm
 refine L.ca cf63 R R Y R (m_slices_Clone_int_c (s := s22) (p0 := p0.1) (u0 := (N + 4)) h1 er28) R ?_
 rintro _ s29 m30 ⟨a31, c31, rfl, h31⟩
 refine L.bu (cs := [.slice a31 r28.length c31, .int .i64 0, .slice none 0 0, .slice none 0 0]) pl30 Y R R R (L.al (N + 3) zz30 R Y R fun b32 s33 m34 bx32 => ?_)
 refine L.st (c := [.slice a31 r28.length c31, .int .i64 0, .slice none 0 0, .slice none 0 0]) (cs' := #[.slice a31 r28.length c31, .int .i64 0, .slice none 0 0, .slice none 0 0]) bx32 ag30.sz Y R R R R R (nb R) R fun s35 m36 bx32 => ?_
 replace m0 := ((m0.trans m30.no).trans m34.no).trans (m36.one up)
 replace h4 := (((h4.mono m23.z).mono m30.z).mono m34.z).mono (m36.le (tg0 hN))
 replace mk0 := ((mk0.mv m30 no_No).mv m34 no_No).mv m36 (tq R)
 replace h31 := (h31.mv m34 no_No no_No).mv m36 (tq R) (tg0 hN)
 replace bx8 := ((bx8.mv m30 no_No).mv m34 no_No).mv m36 (tq R)
 replace h1 := ((h1.mono m30.z).mono m34.z).mono (m36.le (tg0 hN))
 replace h2 := (((h2.mono m23.z).mono m30.z).mono m34.z).mono (m36.le (tg0 hN))
 replace h3 := (((h3.mono m23.z).mono m30.z).mono m34.z).mono (m36.le (tg0 hN))
 replace bx11 := ((bx11.mv m30 no_No).mv m34 no_No).mv m36 (tq R)
 refine LN (E.seq (ER (L.mv Y R R (L.len sl27 Y R R (L.bi Y R R R R (L.mv Y R R ?_))))))
 obtain ⟨b37, eb37, hm⟩ := bindS hm
 refine L.cut 5 (fun e w => ∃ (v38 : Bool), b37 = v38 ∧ e = (41, .bool v38) :: [(8, .pointer (some ⟨b32, 0, none⟩)), (4, .pointer (some ⟨b11, 0, none⟩)), (2, .pointer (some ⟨b8, 0, none⟩)), (1, .slice a4 p1.length c4)] ∧ w = s35.w) ?_ ?_
 ·rintro _ _ ⟨v38, rfl, rfl, rfl⟩
  refine L.nil (X.seqN ?_)
  rcases ifS hm with ⟨hc, hm⟩ | ⟨hc, hm⟩
  ·refine E.cT R hc (ER (L.lg (j := 0) (cs := [.slice a31 r28.length c31, .int .i64 0, .slice none 0 0, .slice none 0 0]) bx32.mem ag30 Y R R R R R (L.st (c := [.slice a31 r28.length c31, .int .i64 0, .slice none 0 0, .slice none 0 0]) (cs' := #[.slice a31 r28.length c31, .int .i64 0, .slice none 0 0, .slice none 0 0]) bx11 ag30.sz Y R R R R R (nb R) R fun s39 m40 bx11 => ?_)))
   replace mk0 := mk0.mv m40 (tq R)
   refine L.as Y R R (LN (E.ret (X.seqR (X.lv (.inl R) mk0 fun s41 m42 => ?_))))
   replace m0 := (m0.trans (m40.one up)).trans (m42.one up)
   replace bx11 := bx11.mv m42 (tq R)
   replace h31 := (h31.mv m40 (tq R) (tg0 hN)).mv m42 (tq R) (tg0 hN)
   obtain rfl := oi hm
   exact X.rt (.inl R) Tryz.results31 (Rs.cell R bx11 ag30 R (Rs.tmp R Rs.nil)) R ⟨_, (s41).ren N (fun k => cond (Nat.beq k 4) u0 (0)), R, R, m0.ren hNb, ⟨a31, c31, none, 0, none, 0, R, (h31.ren hN), RowT.nil, RowT.nil⟩⟩
  refine E.cF R hc (E.skip (X.seqN (E.seq ?_)))
  obtain ⟨r46, er46, hm⟩ := bindS hm
  obtain ⟨r54, er54, hm⟩ := bindS hm
  refine E.draw [[], [], [0, 1], [], [], [4], [0, 1, 2, 3, 4, 5], [], [0, 1, 2, 3, 4, 5, 6, 7], [0, 1, 2, 3, 4, 5, 6, 7, 8]] (fun D e sx => Mv (One (N + 5)) s35 sx ∧ Sub [(8, .pointer (some ⟨b32, 0, none⟩)), (4, .pointer (some ⟨b11, 0, none⟩)), (2, .pointer (some ⟨b8, 0, none⟩)), (1, .slice a4 p1.length c4)] e ∧ AllP [G D e 0 43 (.agg #[.slice a1 p0.1.length c1, .int .i64 p0.2.1, .slice a2 p0.2.2.1.length c2, .slice a3 p0.2.2.2.length c3]), G D e 1 44 (.slice a4 p1.length c4), D 2 = true → (∃ (a49 : Option Addr) (c49 : Nat), Env.get e 45 = some (.slice a49 r46.length c49) ∧ RdL rB sx a49 c49 r46), G D e 3 46 (.agg #[.slice a1 p0.1.length c1, .int .i64 p0.2.1, .slice a2 p0.2.2.1.length c2, .slice a3 p0.2.2.2.length c3]), G D e 4 47 (.pointer (some ⟨b8, 2, none⟩)), G D e 5 48 (.slice a2 p0.2.2.1.length c2), D 6 = true → (∃ (a57 : Option Addr) (c57 : Nat), Env.get e 49 = some (.slice a57 r54.length c57) ∧ RdL rB sx a57 c57 r54), D 7 = true → (∃ (b59 : Nat), Env.get e 9 = some (.pointer (some ⟨b59, 0, none⟩))), D 9 = true → ∀ (a57 : Option Addr) (c57 : Nat), Env.get e 49 = some (.slice a57 r54.length c57) → (Env.get e 10 = some (.slice a57 r54.length c57)), D 7 = true → D 8 = false → ∀ (b59 : Nat), Env.get e 9 = some (.pointer (some ⟨b59, 0, none⟩)) → Bx sx (N + 5) b59 #[.slice none 0 0] 55, D 8 = true → ∀ (a49 : Option Addr) (c49 : Nat) (b59 : Nat), Env.get e 45 = some (.slice a49 r46.length c49) → Env.get e 9 = some (.pointer (some ⟨b59, 0, none⟩)) → Bx sx (N + 5) b59 #[.slice a49 r46.length c49] 55]) (by kernel_rfl) (by kernel_rfl) (by kernel_rfl) ?_ ?_ ?_
  ·intro sz mz
   exact ⟨mz.no, (Sub.rf R), nofun, nofun, nofun, nofun, nofun, nofun, nofun, nofun, nofun, nofun, nofun, trivial⟩
  ·refine ⟨?_, ?_, ?_, ?_, ?_, ?_, ?_, ?_, ?_, ?_, trivial⟩
   ·rintro D e s43 ⟨im, ib, i⟩ hk hf ha
    have bx8 := bx8.mv im (tq R)
    have kn := K1 (ib 2 _ R)
    exact kn.g (L.lg (j := 0) (cs := [.slice a1 p0.1.length c1, .int .i64 p0.2.1, .slice a2 p0.2.2.1.length c2, .slice a3 p0.2.2.2.length c3]) bx8.mem ag30 Y R R R R R (L.nil (X.dk kn ⟨im, Sub.fresh ib R, i.u 0 (fun _ => R)⟩)))
   ·rintro D e s44 ⟨im, ib, i⟩ hk hf ha
    have kn := K1 (ib 1 _ R)
    exact kn.g (L.mv Y R R (L.nil (X.dk kn ⟨im, Sub.fresh ib R, i.u 1 (fun _ => R)⟩)))
   ·rintro D e s45 ⟨im, ib, i⟩ hk hf ha
    have h1 := h1.mono (im.le (tg0 hN))
    have h2 := h2.mono (im.le (tg0 hN))
    have h3 := h3.mono (im.le (tg0 hN))
    have h4 := h4.mono (im.le (tg0 hN))
    have kn := K2 ((i.p 0) (ha.at 0 R)) ((i.p 1) (ha.at 1 R))
    refine kn.g (L.ca cf64 R R Y R (m_reach_flags_c (s := s45) (p0 := p0) (p1 := p1) (u0 := 0) h1 h2 h3 h4 er46) R ?_)
    rintro _ s47 m48 ⟨a49, c49, rfl, h49⟩
    replace h49 := h49.p
    exact L.nil (X.dk kn ⟨im.trans m48.no, Sub.fresh ib R, (((i.u 2 (fun _ => ⟨a49, c49, R, h49⟩)).u 6 (fun z => let ⟨a57, c57, q, h57⟩ := (i.p 6) z; ⟨a57, c57, q, (h57.mono m48.z)⟩)).u 9 (fun z z2 b59 q7 => (((i.p 9) z z2 b59 q7).mv m48 no_No))).u 10 (fun z => Bool.noConfusion ((hf 8 (nb R) R).symm.trans z))⟩)
   ·rintro D e s50 ⟨im, ib, i⟩ hk hf ha
    have bx8 := bx8.mv im (tq R)
    have kn := K1 (ib 2 _ R)
    exact kn.g (L.lg (j := 0) (cs := [.slice a1 p0.1.length c1, .int .i64 p0.2.1, .slice a2 p0.2.2.1.length c2, .slice a3 p0.2.2.2.length c3]) bx8.mem ag30 Y R R R R R (L.nil (X.dk kn ⟨im, Sub.fresh ib R, i.u 3 (fun _ => R)⟩)))
   ·rintro D e s51 ⟨im, ib, i⟩ hk hf ha
    have kn := K1 (ib 2 _ R)
    exact kn.g (L.fa fa30_2 Y R R (L.nil (X.dk kn ⟨im, Sub.fresh ib R, i.u 4 (fun _ => R)⟩)))
   ·rintro D e s52 ⟨im, ib, i⟩ hk hf ha
    have bx8 := bx8.mv im (tq R)
    have kn := K1 ((i.p 4) (ha.at 4 R))
    exact kn.g (L.ld (j := 2) bx8.mem nag27 Y R R R R (L.nil (X.dk kn ⟨im, Sub.fresh ib R, i.u 5 (fun _ => R)⟩)))
   ·rintro D e s53 ⟨im, ib, i⟩ hk hf ha
    have h1 := h1.mono (im.le (tg0 hN))
    have h2 := h2.mono (im.le (tg0 hN))
    have h3 := h3.mono (im.le (tg0 hN))
    have kn := K2 ((i.p 3) (ha.at 3 R)) ((i.p 5) (ha.at 5 R))
    refine kn.g (L.ca cf64 R R Y R (m_reach_flags_c (s := s53) (p0 := p0) (p1 := p0.2.2.1) (u0 := 0) h1 h2 h3 h2 er54) R ?_)
    rintro _ s55 m56 ⟨a57, c57, rfl, h57⟩
    replace h57 := h57.p
    exact L.nil (X.dk kn ⟨im.trans m56.no, Sub.fresh ib R, ((((i.u 2 (fun z => let ⟨a49, c49, q, h49⟩ := (i.p 2) z; ⟨a49, c49, q, (h49.mono m56.z)⟩)).u 6 (fun _ => ⟨a57, c57, R, h57⟩)).u 8 (fun z => Bool.noConfusion ((hf 9 (nb R) R).symm.trans z))).u 9 (fun z z2 b59 q7 => (((i.p 9) z z2 b59 q7).mv m56 no_No))).u 10 (fun z a49 c49 b59 q2 q7 => (((i.p 10) z a49 c49 b59 q2 q7).mv m56 no_No))⟩)
   ·rintro D e s58 ⟨im, ib, i⟩ hk hf ha
    exact L.al (N + 5) zz55 R Y R fun b59 s60 m61 bx59 => L.nil (X.dr (s := s60) (e' := (9, .pointer (some ⟨b59, 0, none⟩)) :: e) (Sub.both (Sub.refl)) ⟨im.trans m61.no, Sub.fresh ib R, ((((i.u 2 (fun z => let ⟨a49, c49, q, h49⟩ := (i.p 2) z; ⟨a49, c49, q, (h49.mono m61.z)⟩)).u 6 (fun z => let ⟨a57, c57, q, h57⟩ := (i.p 6) z; ⟨a57, c57, q, (h57.mono m61.z)⟩)).u 7 (fun _ => ⟨b59, R⟩)).u 9 (fun _ _ _ q7 => by cases (show some (.pointer (some ⟨b59, 0, none⟩) : Value) = some _ from q7); exact bx59)).u 10 (fun z => Bool.noConfusion ((hf 8 (nb R) R).symm.trans z))⟩)
   ·rintro D e s62 ⟨im, ib, i⟩ hk hf ha
    obtain ⟨a49, c49, g2_, h49⟩ := (i.p 2) (ha.at 2 R)
    obtain ⟨b59, g7_⟩ := (i.p 7) (ha.at 7 R)
    obtain bx59 := (i.p 9) (ha.at 7 R) hk b59 g7_
    have kn := K2 g7_ g2_
    exact kn.g (L.st (c := [.slice a49 r46.length c49]) (cs' := #[.slice a49 r46.length c49]) bx59 nag55.sz Y R R R R R (nb R) R fun s63 m64 bx59 => L.nil (X.dn kn ⟨im.trans (m64.one R), ib, (((i.u 2 (fun z => let ⟨a49, c49, q, h49⟩ := (i.p 2) z; ⟨a49, c49, q, (h49.mono (m64.le (tg0 hN)))⟩)).u 6 (fun z => let ⟨a57, c57, q, h57⟩ := (i.p 6) z; ⟨a57, c57, q, (h57.mono (m64.le (tg0 hN)))⟩)).u 9 (fun _ z => Bool.noConfusion (show true = false from z))).u 10 (fun _ _ _ _ q2 q7 => by cases g2_.symm.trans q2; cases g7_.symm.trans q7; exact bx59)⟩))
   rintro D e s65 ⟨im, ib, i⟩ hk hf ha
   obtain ⟨a57, c57, g6_, h57⟩ := (i.p 6) (ha.at 6 R)
   have kn := K1 g6_
   exact kn.g (L.as Y R R (L.nil (X.dk kn ⟨im, Sub.fresh ib R, i.u 8 (fun _ _ _ q6 => by cases g6_.symm.trans q6; exact R)⟩)))
  rintro D e s66 hD ⟨im, ib, i⟩
  obtain ⟨a49, c49, g2_, h49⟩ := (i.p 2) (hD 2 R)
  obtain ⟨a57, c57, g6_, h57⟩ := (i.p 6) (hD 6 R)
  obtain ⟨b59, g7_⟩ := (i.p 7) (hD 7 R)
  have g9_ := (i.p 8) (hD 9 R) a57 c57 g6_
  obtain bx59 := (i.p 10) (hD 8 R) a49 c49 b59 g2_ g7_
  have bx32 := bx32.mv im (tq R)
  have h31 := h31.mv im (tq R) (tg0 hN)
  have bx11 := bx11.mv im (tq R)
  have bx8 := bx8.mv im (tq R)
  have h1 := h1.mono (im.le (tg0 hN))
  have h2 := h2.mono (im.le (tg0 hN))
  have h3 := h3.mono (im.le (tg0 hN))
  have mk0 := mk0.mv im (tq R)
  have m0 := m0.trans (im.one up)
  refine X.sub (e' := [(10, .slice a57 r54.length c57), (9, .pointer (some ⟨b59, 0, none⟩)), (8, .pointer (some ⟨b32, 0, none⟩)), (4, .pointer (some ⟨b11, 0, none⟩)), (2, .pointer (some ⟨b8, 0, none⟩))]) ?_ (Sub.cons g9_ (Sub.cons g7_ (Sub.cons (ib 8 _ R) (Sub.cons (ib 4 _ R) (Sub.cons (ib 2 _ R) Sub.nil)))))
  refine X.seqN (ER (L.fa fa30_1 Y R R (L.ld (j := 1) bx8.mem nag3 Y R R R R ?_)))
  obtain ⟨x67, ex67, hm⟩ := bindS hm
  refine L.mk (z := (0 : Int)) (N + 6) Tryz.underlying27 zr3 R Y R R ex67 R fun b68 s69 m70 h68 => ?_
  refine L.al (N + 7) zz27 R Y R fun b71 s72 m73 bx71 => ?_
  refine L.st (c := [.slice (some ⟨b68, 0, none⟩) x67.length x67.length]) (cs' := #[.slice (some ⟨b68, 0, none⟩) x67.length x67.length]) bx71 nag27.sz Y R R R R R (nb R) R fun s74 m75 bx71 => ?_
  replace bx8 := ((bx8.mv m70 no_No).mv m73 no_No).mv m75 (tq R)
  replace h1 := ((h1.mono m70.z).mono m73.z).mono (m75.le (tg0 hN))
  replace h2 := ((h2.mono m70.z).mono m73.z).mono (m75.le (tg0 hN))
  replace h3 := ((h3.mono m70.z).mono m73.z).mono (m75.le (tg0 hN))
  refine LN (ER (L.lg (j := 0) (cs := [.slice a1 p0.1.length c1, .int .i64 p0.2.1, .slice a2 p0.2.2.1.length c2, .slice a3 p0.2.2.2.length c3]) bx8.mem ag30 Y R R R R R ?_))
  obtain ⟨r76, er76, hm⟩ := bindS hm
  refine L.ca cf53 R R Y R (m_reach_newGraph_c (s := s74) (p0 := p0) (u3 := 0) h1 h2 h3 er76) R ?_
  rintro _ s77 m78 ⟨a79, c79, a80, c80, a81, c81, a82, c82, rfl, h79, h80, h81, h82⟩
  refine L.al (N + 8) zz91 R Y R fun b83 s84 m85 bx83 => ?_
  refine L.st (c := [.slice a79 r76.1.1.length c79, .int .i64 r76.1.2.1, .slice a80 r76.1.2.2.1.length c80, .slice a81 r76.1.2.2.2.length c81, .slice a82 r76.2.length c82]) (cs' := #[.slice a79 r76.1.1.length c79, .int .i64 r76.1.2.1, .slice a80 r76.1.2.2.1.length c80, .slice a81 r76.1.2.2.2.length c81, .slice a82 r76.2.length c82]) bx83 ag91.sz Y R R R R R (nb R) R fun s86 m87 bx83 => ?_
  refine LN (ER (L.bsE (k := 1) (cs := [.int .i64 0]) (N + 14) bs27 (nb R) Y R R R R fun b88 s89 m90 bx88 => ?_))
  have h88 := Bx.row (r := qI) (xs := ([0] : List Int)) bx88 ⟨[.int .i64 0], _, R, R, R⟩ (nb R)
  refine L.al (N + 9) zz27 R Y R fun b91 s92 m93 bx91 => ?_
  refine L.st (c := [.slice (some ⟨b88, 0, none⟩) ([0] : List Int).length (([0] : List Int).length)]) (cs' := #[.slice (some ⟨b88, 0, none⟩) ([0] : List Int).length (([0] : List Int).length)]) bx91 nag27.sz Y R R R R R (nb R) R fun s94 m95 bx91 => ?_
  replace bx71 := (((((bx71.mv m78 no_No).mv m85 no_No).mv m87 (tq R)).mv m90 no_No).mv m93 no_No).mv m95 (tq R)
  replace h68 := (((((((h68.mv m73 no_No no_No).mv m75 (tq R) (tg0 hN)).mv m78 no_No no_No).mv m85 no_No no_No).mv m87 (tq R) (tg0 hN)).mv m90 no_No no_No).mv m93 no_No no_No).mv m95 (tq R) (tg0 hN)
  refine LN (ER (L.ld (j := 0) bx71.mem nag27 Y R R R R ?_))
  obtain ⟨x96, ex96, hm⟩ := bindS hm
  refine L.ir (r := qI) sl27 h68 Y R R ex96 R fun b97 o97 cc97 me97 rd97 sp97 => ?_
  obtain rfl := rd97
  obtain ⟨x98, ex98, hm⟩ := bindS hm
  have elx98 := upd_len ex98
  refine L.su (fo := 0) (c := [.int .i64 1]) (z := 1) h68 sp97 ex96 ex98 (tgp hN) nag3.sz Y R R R R R R (fun c0 hc0 => by obtain rfl := hc0; exact R) fun s99 m100 h68 => ?_
  replace bx71 := bx71.mv m100 (tq R)
  replace bx71 : Bx s99 (N + 7) b71 #[.slice (some ⟨b68, 0, none⟩) x98.length x67.length] 27 := by rw [elx98]; exact bx71
  refine LN (E.seq (ER (L.al (N + 10) zz3 R Y R fun b101 s102 m103 bx101 => ?_)))
  refine L.st (c := [.int .i64 0]) (cs' := #[.int .i64 0]) bx101 nag3.sz Y R R R R R (nb R) R fun s104 m105 bx101 => ?_
  replace m0 := (((((((((((m0.trans m70.no).trans m73.no).trans (m75.one up)).trans m78.no).trans m85.no).trans (m87.one up)).trans m90.no).trans m93.no).trans (m95.one up)).trans (m100.one up)).trans m103.no).trans (m105.one up)
  replace h57 := (((((((((((h57.mono m70.z).mono m73.z).mono (m75.le (tg0 hN))).mono m78.z).mono m85.z).mono (m87.le (tg0 hN))).mono m90.z).mono m93.z).mono (m95.le (tg0 hN))).mono (m100.le (tg0 hN))).mono m103.z).mono (m105.le (tg0 hN))
  replace mk0 := (((((((((((mk0.mv m70 no_No).mv m73 no_No).mv m75 (tq R)).mv m78 no_No).mv m85 no_No).mv m87 (tq R)).mv m90 no_No).mv m93 no_No).mv m95 (tq R)).mv m100 (tq R)).mv m103 no_No).mv m105 (tq R)
  replace bx11 := (((((((((((bx11.mv m70 no_No).mv m73 no_No).mv m75 (tq R)).mv m78 no_No).mv m85 no_No).mv m87 (tq R)).mv m90 no_No).mv m93 no_No).mv m95 (tq R)).mv m100 (tq R)).mv m103 no_No).mv m105 (tq R)
  replace bx32 := (((((((((((bx32.mv m70 no_No).mv m73 no_No).mv m75 (tq R)).mv m78 no_No).mv m85 no_No).mv m87 (tq R)).mv m90 no_No).mv m93 no_No).mv m95 (tq R)).mv m100 (tq R)).mv m103 no_No).mv m105 (tq R)
  replace h31 := (((((((((((h31.mv m70 no_No no_No).mv m73 no_No no_No).mv m75 (tq R) (tg0 hN)).mv m78 no_No no_No).mv m85 no_No no_No).mv m87 (tq R) (tg0 hN)).mv m90 no_No no_No).mv m93 no_No no_No).mv m95 (tq R) (tg0 hN)).mv m100 (tq R) (tg0 hN)).mv m103 no_No no_No).mv m105 (tq R) (tg0 hN)
  replace bx59 := (((((((((((bx59.mv m70 no_No).mv m73 no_No).mv m75 (tq R)).mv m78 no_No).mv m85 no_No).mv m87 (tq R)).mv m90 no_No).mv m93 no_No).mv m95 (tq R)).mv m100 (tq R)).mv m103 no_No).mv m105 (tq R)
  replace h49 := (((((((((((h49.mono m70.z).mono m73.z).mono (m75.le (tg0 hN))).mono m78.z).mono m85.z).mono (m87.le (tg0 hN))).mono m90.z).mono m93.z).mono (m95.le (tg0 hN))).mono (m100.le (tg0 hN))).mono m103.z).mono (m105.le (tg0 hN))
  replace bx71 := (bx71.mv m103 no_No).mv m105 (tq R)
  replace h68 := (h68.mv m103 no_No no_No).mv m105 (tq R) (tg0 hN)
  replace bx83 := (((((bx83.mv m90 no_No).mv m93 no_No).mv m95 (tq R)).mv m100 (tq R)).mv m103 no_No).mv m105 (tq R)
  replace h79 := (((((((h79.mono m85.z).mono (m87.le (tg0 hN))).mono m90.z).mono m93.z).mono (m95.le (tg0 hN))).mono (m100.le (tg0 hN))).mono m103.z).mono (m105.le (tg0 hN))
  replace h80 := (((((((h80.mono m85.z).mono (m87.le (tg0 hN))).mono m90.z).mono m93.z).mono (m95.le (tg0 hN))).mono (m100.le (tg0 hN))).mono m103.z).mono (m105.le (tg0 hN))
  replace h81 := (((((((h81.mono m85.z).mono (m87.le (tg0 hN))).mono m90.z).mono m93.z).mono (m95.le (tg0 hN))).mono (m100.le (tg0 hN))).mono m103.z).mono (m105.le (tg0 hN))
  replace h82 := ((((((((h82.p).mono m85.z).mono (m87.le (tg0 hN))).mono m90.z).mono m93.z).mono (m95.le (tg0 hN))).mono (m100.le (tg0 hN))).mono m103.z).mono (m105.le (tg0 hN))
  replace bx91 := ((bx91.mv m100 (tq R)).mv m103 no_No).mv m105 (tq R)
  replace h88 := ((((h88.mv m93 no_No no_No).mv m95 (tq R) (tg0 hN)).mv m100 (tq R) (tg0 hN)).mv m103 no_No no_No).mv m105 (tq R) (tg0 hN)
  refine LN (E.block ?_)
  obtain ⟨o293, eo293, hm⟩ := bindS hm
  refine E.cutM (x := .exit 0) (fun e w ds => ∃ (s301 : Sig) (a295 : Option Addr) (c295 : Nat) (a297 : Option Addr) (c297 : Nat) (a299 : Option Addr) (c299 : Nat), Mv (Up N No) s s301 ∧ RowT qI s301 (N + 4) 3 a31 c31 r28 ∧ RowT qI s301 (N + 11) 3 a295 c295 o293.1 ∧ RowT qT s301 (N + 15) 62 a297 c297 o293.2.1 ∧ RowT qI s301 (N + 14) 3 a299 c299 o293.2.2 ∧ Mks s301 (N + 0) ds ∧ Bx s301 (N + 2) b11 #[.slice none 0 0, .int .i64 0, .slice none 0 0, .slice none 0 0] 30 ∧ Bx s301 (N + 3) b32 #[.slice a31 r28.length c31, .int .i64 0, .slice a295 o293.1.length c295, .slice a297 o293.2.1.length c297] 30 ∧ Bx s301 (N + 9) b91 #[.slice a299 o293.2.2.length c299] 27 ∧ e = [(13, .pointer (some ⟨b91, 0, none⟩)), (8, .pointer (some ⟨b32, 0, none⟩)), (4, .pointer (some ⟨b11, 0, none⟩))] ∧ w = s301.w) ?_ ?_
  ·rintro _ _ ds ⟨s301, a295, c295, a297, c297, a299, c299, m0, h31, h295, h297, h299, mk0, bx11, bx32, bx91, rfl, rfl⟩
   refine X.blkE (X.seqN (ER (L.ld (j := 0) bx91.mem nag27 Y R R R R (L.len sl27 Y R R (L.fa fa30_1 Y R R (L.st (c := [.int .i64 (o293.2.2.length : Int)]) (cs' := #[.slice a31 r28.length c31, .int .i64 (o293.2.2.length : Int), .slice a295 o293.1.length c295, .slice a297 o293.2.1.length c297]) bx32 nag3.sz Y R R R R R (nb R) R fun s302 m303 bx32 => ?_))))))
   replace bx11 := bx11.mv m303 (tq R)
   refine LN (ER (L.lg (j := 0) (cs := [.slice a31 r28.length c31, .int .i64 (o293.2.2.length : Int), .slice a295 o293.1.length c295, .slice a297 o293.2.1.length c297]) bx32.mem ag30 Y R R R R R (L.st (c := [.slice a31 r28.length c31, .int .i64 (o293.2.2.length : Int), .slice a295 o293.1.length c295, .slice a297 o293.2.1.length c297]) (cs' := #[.slice a31 r28.length c31, .int .i64 (o293.2.2.length : Int), .slice a295 o293.1.length c295, .slice a297 o293.2.1.length c297]) bx11 ag30.sz Y R R R R R (nb R) R fun s304 m305 bx11 => ?_)))
   replace mk0 := (mk0.mv m303 (tq R)).mv m305 (tq R)
   refine L.as Y R R (LN (E.ret (X.lv (.inl R) mk0 fun s306 m307 => ?_)))
   replace m0 := ((m0.trans (m303.one up)).trans (m305.one up)).trans (m307.one up)
   replace bx11 := bx11.mv m307 (tq R)
   replace h31 := ((h31.mv m303 (tq R) (tg0 hN)).mv m305 (tq R) (tg0 hN)).mv m307 (tq R) (tg0 hN)
   replace h295 := ((h295.mv m303 (tq R) (tg0 hN)).mv m305 (tq R) (tg0 hN)).mv m307 (tq R) (tg0 hN)
   replace h297 := ((h297.mv m303 (tq R) (tg0 hN)).mv m305 (tq R) (tg0 hN)).mv m307 (tq R) (tg0 hN)
   obtain rfl := oi hm
   exact X.rt (.inl R) Tryz.results31 (Rs.cell R bx11 ag30 R (Rs.tmp R Rs.nil)) R ⟨_, (s306).ren N (fun k => cond (Nat.beq k 15) u2 (cond (Nat.beq k 11) u1 (cond (Nat.beq k 4) u0 (0)))), R, R, m0.ren hNb, ⟨a31, c31, a295, c295, a297, c297, R, (h31.ren hN), (h295.ren hN), (h297.ren hN)⟩⟩
  intro K308
  refine EiterM (fun (st293 : List Int × (List (Int × Int × Int)) × List Int × List Int × Int) (e : List (Nat × Value)) (w : World) (ds : List Deferred) => ∃ (s300 : Sig) (a107 : Option Addr) (c107 : Nat) (a109 : Option Addr) (c109 : Nat) (a112 : Option Addr) (c112 : Nat) (b114 : Nat), Mv (Up N No) s s300 ∧ RdL rB s300 a57 c57 r54 ∧ RowT qI s300 (N + 4) 3 a31 c31 r28 ∧ RowT qI s300 (N + 11) 3 a107 c107 st293.1 ∧ RowT qT s300 (N + 15) 62 a109 c109 st293.2.1 ∧ RdL rB s300 a49 c49 r46 ∧ RowT qI s300 (N + 6) 3 (some ⟨b68, 0, none⟩) x67.length st293.2.2.1 ∧ RdL qI s300 a79 c79 r76.1.1 ∧ RdL qI s300 a80 c80 r76.1.2.2.1 ∧ RdL qT s300 a81 c81 r76.1.2.2.2 ∧ RdL qI s300 a82 c82 r76.2 ∧ RowT qI s300 (N + 14) 3 a112 c112 st293.2.2.2.1 ∧ Mks s300 (N + 0) ds ∧ Bx s300 (N + 2) b11 #[.slice none 0 0, .int .i64 0, .slice none 0 0, .slice none 0 0] 30 ∧ Bx s300 (N + 3) b32 #[.slice a31 r28.length c31, .int .i64 0, .slice a107 st293.1.length c107, .slice a109 st293.2.1.length c109] 30 ∧ Bx s300 (N + 5) b59 #[.slice a49 r46.length c49] 55 ∧ Bx s300 (N + 7) b71 #[.slice (some ⟨b68, 0, none⟩) st293.2.2.1.length x67.length] 27 ∧ Bx s300 (N + 8) b83 #[.slice a79 r76.1.1.length c79, .int .i64 r76.1.2.1, .slice a80 r76.1.2.2.1.length c80, .slice a81 r76.1.2.2.2.length c81, .slice a82 r76.2.length c82] 91 ∧ Bx s300 (N + 9) b91 #[.slice a112 st293.2.2.2.1.length c112] 27 ∧ Bx s300 (N + 10) b114 #[.int .i64 st293.2.2.2.2] 3 ∧ e = [(14, .pointer (some ⟨b114, 0, none⟩)), (13, .pointer (some ⟨b91, 0, none⟩)), (12, .pointer (some ⟨b83, 0, none⟩)), (11, .pointer (some ⟨b71, 0, none⟩)), (10, .slice a57 r54.length c57), (9, .pointer (some ⟨b59, 0, none⟩)), (8, .pointer (some ⟨b32, 0, none⟩)), (4, .pointer (some ⟨b11, 0, none⟩))] ∧ w = s300.w) eo293 ⟨s104, none, 0, none, 0, (some ⟨b88, 0, none⟩), ([0] : List Int).length, b101, m0, h57, h31, RowT.nil, RowT.nil, h49, h68, h79, h80, h81, h82, h88, mk0, bx11, bx32, bx59, bx71, bx83, bx91, bx101, R, R⟩ (Sub.rf R) ?_
  rintro st293 res293 hm ih293 ho293 _ _ ds ⟨s300, a107, c107, a109, c109, a112, c112, b114, m0, h57, h31, h107, h109, h49, h68, h79, h80, h81, h82, h112, mk0, bx11, bx32, bx59, bx71, bx83, bx91, bx114, rfl, rfl⟩
  unfold m_reach_Restrict_l1 at hm
  refine E.seq (ER (L.ld (j := 0) bx114.mem nag3 Y R R R R (L.ld (j := 0) bx91.mem nag27 Y R R R R (L.len sl27 Y R R (L.bi Y R R R R (L.nil (X.seqN ?_)))))))
  rcases ifS hm with ⟨hc, hm⟩ | ⟨hc, hm⟩
  ·refine E.cT R hc (E.skip (X.seqN (E.seq (E.block (E.seqJM (fun e w ds => ∃ (s311 : Sig) (l309 : List Int) (a310 : Option Addr) (c310 : Nat), m_reach_Restrict_j1 r46 r76 st293 l309 = some res293 ∧ Mv (Up N No) s s311 ∧ RdL rB s311 a57 c57 r54 ∧ RowT qI s311 (N + 4) 3 a31 c31 r28 ∧ RowT qI s311 (N + 11) 3 a310 c310 l309 ∧ RowT qT s311 (N + 15) 62 a109 c109 st293.2.1 ∧ RdL rB s311 a49 c49 r46 ∧ RowT qI s311 (N + 6) 3 (some ⟨b68, 0, none⟩) x67.length st293.2.2.1 ∧ RdL qI s311 a79 c79 r76.1.1 ∧ RdL qI s311 a80 c80 r76.1.2.2.1 ∧ RdL qT s311 a81 c81 r76.1.2.2.2 ∧ RdL qI s311 a82 c82 r76.2 ∧ RowT qI s311 (N + 14) 3 a112 c112 st293.2.2.2.1 ∧ Mks s311 (N + 0) ds ∧ Bx s311 (N + 2) b11 #[.slice none 0 0, .int .i64 0, .slice none 0 0, .slice none 0 0] 30 ∧ Bx s311 (N + 3) b32 #[.slice a31 r28.length c31, .int .i64 0, .slice a310 l309.length c310, .slice a109 st293.2.1.length c109] 30 ∧ Bx s311 (N + 5) b59 #[.slice a49 r46.length c49] 55 ∧ Bx s311 (N + 7) b71 #[.slice (some ⟨b68, 0, none⟩) st293.2.2.1.length x67.length] 27 ∧ Bx s311 (N + 8) b83 #[.slice a79 r76.1.1.length c79, .int .i64 r76.1.2.1, .slice a80 r76.1.2.2.1.length c80, .slice a81 r76.1.2.2.2.length c81, .slice a82 r76.2.length c82] 91 ∧ Bx s311 (N + 9) b91 #[.slice a112 st293.2.2.2.1.length c112] 27 ∧ Bx s311 (N + 10) b114 #[.int .i64 st293.2.2.2.2] 3 ∧ e = [(14, .pointer (some ⟨b114, 0, none⟩)), (13, .pointer (some ⟨b91, 0, none⟩)), (12, .pointer (some ⟨b83, 0, none⟩)), (11, .pointer (some ⟨b71, 0, none⟩)), (10, .slice a57 r54.length c57), (9, .pointer (some ⟨b59, 0, none⟩)), (8, .pointer (some ⟨b32, 0, none⟩)), (4, .pointer (some ⟨b11, 0, none⟩))] ∧ w = s311.w) ?_ ?_)))))
   ·rintro _ _ ds ⟨s311, l309, a310, c310, hm, m0, h57, h31, h310, h109, h49, h68, h79, h80, h81, h82, h112, mk0, bx11, bx32, bx59, bx71, bx83, bx91, bx114, rfl, rfl⟩
    unfold m_reach_Restrict_j1 at hm
    refine E.seq ?_
    obtain ⟨x317, ex317, hm⟩ := bindS hm
    obtain ⟨r321, er321, hm⟩ := bindS hm
    refine E.draw [[], [], [], [1, 2], [1, 2, 3], [0, 1, 2, 3, 4]] (fun D e sx => Mv No s311 sx ∧ Sub [(14, .pointer (some ⟨b114, 0, none⟩)), (13, .pointer (some ⟨b91, 0, none⟩)), (12, .pointer (some ⟨b83, 0, none⟩)), (11, .pointer (some ⟨b71, 0, none⟩)), (10, .slice a57 r54.length c57), (9, .pointer (some ⟨b59, 0, none⟩)), (8, .pointer (some ⟨b32, 0, none⟩)), (4, .pointer (some ⟨b11, 0, none⟩))] e ∧ AllP [G D e 0 77 (.agg #[.slice a79 r76.1.1.length c79, .int .i64 r76.1.2.1, .slice a80 r76.1.2.2.1.length c80, .slice a81 r76.1.2.2.2.length c81, .slice a82 r76.2.length c82]), G D e 1 78 (.slice a112 st293.2.2.2.1.length c112), G D e 2 79 (.int .i64 st293.2.2.2.2), D 3 = true → (∃ (b318 : Nat) (o318 : Nat), Env.get e 80 = some (.pointer (some ⟨b318, o318, none⟩)) ∧ Mem sx (N + 14) b318 o318 [.int .i64 x317] ∧ Spot a112 qI.sz (st293.2.2.2.2).toNat b318 o318), G D e 4 81 (.int .i64 x317), D 5 = true → (∃ (v324 : Value), Env.get e 82 = some v324 ∧ FI Tryz.prog sx v324 r321.length (fun k => encE (r321.getD k (0, 0, 0))))]) (by kernel_rfl) (by kernel_rfl) (by kernel_rfl) ?_ ?_ ?_
    ·intro sz mz
     exact ⟨mz, (Sub.rf R), nofun, nofun, nofun, nofun, nofun, nofun, trivial⟩
    ·refine ⟨?_, ?_, ?_, ?_, ?_, ?_, trivial⟩
     ·rintro D e s313 ⟨im, ib, i⟩ hk hf ha
      have bx83 := bx83.mv im no_No
      have kn := K1 (ib 12 _ R)
      exact kn.g (L.lg (j := 0) (cs := [.slice a79 r76.1.1.length c79, .int .i64 r76.1.2.1, .slice a80 r76.1.2.2.1.length c80, .slice a81 r76.1.2.2.2.length c81, .slice a82 r76.2.length c82]) bx83.mem ag91 Y R R R R R (L.nil (X.dk kn ⟨im, Sub.fresh ib R, i.u 0 (fun _ => R)⟩)))
     ·rintro D e s314 ⟨im, ib, i⟩ hk hf ha
      have bx91 := bx91.mv im no_No
      have kn := K1 (ib 13 _ R)
      exact kn.g (L.ld (j := 0) bx91.mem nag27 Y R R R R (L.nil (X.dk kn ⟨im, Sub.fresh ib R, i.u 1 (fun _ => R)⟩)))
     ·rintro D e s315 ⟨im, ib, i⟩ hk hf ha
      have bx114 := bx114.mv im no_No
      have kn := K1 (ib 14 _ R)
      exact kn.g (L.ld (j := 0) bx114.mem nag3 Y R R R R (L.nil (X.dk kn ⟨im, Sub.fresh ib R, i.u 2 (fun _ => R)⟩)))
     ·rintro D e s316 ⟨im, ib, i⟩ hk hf ha
      have h112 := h112.mv im no_No no_No
      have kn := K2 ((i.p 1) (ha.at 1 R)) ((i.p 2) (ha.at 2 R))
      refine kn.g (L.ir (r := qI) sl27 h112 Y R R ex317 R fun b318 o318 cc318 me318 rd318 sp318 => ?_)
      obtain rfl := rd318
      exact L.nil (X.dk kn ⟨im, Sub.fresh ib R, i.u 3 (fun _ => ⟨b318, o318, R, me318, sp318⟩)⟩)
     ·rintro D e s319 ⟨im, ib, i⟩ hk hf ha
      obtain ⟨b318, o318, g3_, me318, sp318⟩ := (i.p 3) (ha.at 3 R)
      have kn := K1 g3_
      exact kn.g (L.ld (j := 0) me318 nag3 Y R R R R (L.nil (X.dk kn ⟨im, Sub.fresh ib R, i.u 4 (fun _ => R)⟩)))
     rintro D e s320 ⟨im, ib, i⟩ hk hf ha
     have h79 := h79.mono im.z
     have h80 := h80.mono im.z
     have h81 := h81.mono im.z
     have h82 := h82.mono im.z
     have kn := K2 ((i.p 0) (ha.at 0 R)) ((i.p 4) (ha.at 4 R))
     exact kn.g (L.ca cf65 R R Y R (m_reach_graph_edges_c (s := s320) (p0 := r76) (p1 := x317) h79 h80 h81 h82 er321) R fun v324 s322 m323 h324 => L.nil (X.dk kn ⟨im.trans m323.no, Sub.fresh ib R, (i.u 3 (fun z => let ⟨b318, o318, q, me318, sp318⟩ := (i.p 3) z; ⟨b318, o318, q, (me318.mv m323 no_No), sp318⟩)).u 5 (fun _ => ⟨v324, R, h324⟩)⟩))
    rintro D e s325 hD ⟨im, ib, i⟩
    obtain ⟨v324, g5_, h324⟩ := (i.p 5) (hD 5 R)
    have bx114 := bx114.mv im no_No
    have bx91 := bx91.mv im no_No
    have h112 := h112.mv im no_No no_No
    have bx83 := bx83.mv im no_No
    have h79 := h79.mono im.z
    have h80 := h80.mono im.z
    have h81 := h81.mono im.z
    have h82 := h82.mono im.z
    have bx71 := bx71.mv im no_No
    have h68 := h68.mv im no_No no_No
    have h57 := h57.mono im.z
    have bx59 := bx59.mv im no_No
    have h49 := h49.mono im.z
    have bx32 := bx32.mv im no_No
    have h31 := h31.mv im no_No no_No
    have h310 := h310.mv im no_No no_No
    have h109 := h109.mv im no_No no_No
    have bx11 := bx11.mv im no_No
    have mk0 := mk0.mv im no_No
    have m0 := m0.trans im.no
    refine X.sub (e' := [(82, v324), (14, .pointer (some ⟨b114, 0, none⟩)), (13, .pointer (some ⟨b91, 0, none⟩)), (12, .pointer (some ⟨b83, 0, none⟩)), (11, .pointer (some ⟨b71, 0, none⟩)), (10, .slice a57 r54.length c57), (9, .pointer (some ⟨b59, 0, none⟩)), (8, .pointer (some ⟨b32, 0, none⟩)), (4, .pointer (some ⟨b11, 0, none⟩))]) ?_ (Sub.cons g5_ (Sub.cons (ib 14 _ R) (Sub.cons (ib 13 _ R) (Sub.cons (ib 12 _ R) (Sub.cons (ib 11 _ R) (Sub.cons (ib 10 _ R) (Sub.cons (ib 9 _ R) (Sub.cons (ib 8 _ R) (Sub.cons (ib 4 _ R) Sub.nil)))))))))
    refine X.seqN (E.block ?_)
    obtain ⟨o393, eo393, hm⟩ := bindS hm
    have mko393 := mk0.old
    refine E.range (N + 12) (N + 0) (tgn hN) (by omega) (fun (k : Nat) (s394 : Sig) => ∃ (st393 : (List (Int × Int × Int)) × List Int × List Int) (a327 : Option Addr) (c327 : Nat) (a330 : Option Addr) (c330 : Nat), rngF (fun k => m_reach_Restrict_l2 r46 st293 (r321.getD k (0, 0, 0))) (r321.length - k) k st393 = some o393 ∧ Mv (Up N No) s s394 ∧ RdL rB s394 a57 c57 r54 ∧ RowT qI s394 (N + 4) 3 a31 c31 r28 ∧ RowT qI s394 (N + 11) 3 a310 c310 l309 ∧ RowT qT s394 (N + 15) 62 a327 c327 st393.1 ∧ RdL rB s394 a49 c49 r46 ∧ RowT qI s394 (N + 6) 3 (some ⟨b68, 0, none⟩) x67.length st393.2.1 ∧ RdL qI s394 a79 c79 r76.1.1 ∧ RdL qI s394 a80 c80 r76.1.2.2.1 ∧ RdL qT s394 a81 c81 r76.1.2.2.2 ∧ RdL qI s394 a82 c82 r76.2 ∧ RowT qI s394 (N + 14) 3 a330 c330 st393.2.2 ∧ Mks s394 (N + 0) ds ∧ Bx s394 (N + 2) b11 #[.slice none 0 0, .int .i64 0, .slice none 0 0, .slice none 0 0] 30 ∧ Bx s394 (N + 3) b32 #[.slice a31 r28.length c31, .int .i64 0, .slice a310 l309.length c310, .slice a327 st393.1.length c327] 30 ∧ Bx s394 (N + 5) b59 #[.slice a49 r46.length c49] 55 ∧ Bx s394 (N + 7) b71 #[.slice (some ⟨b68, 0, none⟩) st393.2.1.length x67.length] 27 ∧ Bx s394 (N + 8) b83 #[.slice a79 r76.1.1.length c79, .int .i64 r76.1.2.1, .slice a80 r76.1.2.2.1.length c80, .slice a81 r76.1.2.2.2.length c81, .slice a82 r76.2.length c82] 91 ∧ Bx s394 (N + 9) b91 #[.slice a330 st393.2.2.length c330] 27 ∧ Bx s394 (N + 10) b114 #[.int .i64 st293.2.2.2.2] 3) R h324 (fun _ => R) (by decide) ⟨(st293.2.1, st293.2.2.1, st293.2.2.2.1), a109, c109, a112, c112, eo393, m0, h57, h31, h310, h109, h49, h68, h79, h80, h81, h82, h112, mk0, bx11, bx32, bx59, bx71, bx83, bx91, bx114⟩ ?_ ?_
    ·rintro k393 D393 r393 s394 s396 hk393 ⟨st393, a327, c327, a330, c330, hj393, m0, h57, h31, h310, h327, h49, h68, h79, h80, h81, h82, h330, mk0, bx11, bx32, bx59, bx71, bx83, bx91, bx114⟩ m397 rc398 hr393
     obtain ⟨res393, hm, hj393⟩ := rng_step hk393 hj393
     have hm : m_reach_Restrict_l2 r46 st293 (r321.getD k393 (0, 0, 0)) st393 = some res393 := hm
     show E _ _ _ _ _ (Env.zp _ (encE (r321.getD k393 (0, 0, 0))) _) _
     generalize r321.getD k393 (0, 0, 0) = x395 at hm ⊢
     refine E.sub (e' := [(14, .pointer (some ⟨b114, 0, none⟩)), (13, .pointer (some ⟨b91, 0, none⟩)), (12, .pointer (some ⟨b83, 0, none⟩)), (11, .pointer (some ⟨b71, 0, none⟩)), (10, .slice a57 r54.length c57), (9, .pointer (some ⟨b59, 0, none⟩)), (8, .pointer (some ⟨b32, 0, none⟩)), (4, .pointer (some ⟨b11, 0, none⟩)), (83, .agg #[.int .i64 x395.1, .int .i64 x395.2.1, .int .i64 x395.2.2])]) (Sub.rf R) ?_
     unfold m_reach_Restrict_l2 at hm
     have h399 : Lf s396 s396 := Le.refl _
     refine E.reg (L.al (N + 13) zz62 R Y R fun b400 s401 m402 bx400 => ?_)
     refine L.st (c := [.int .i64 x395.1, .int .i64 x395.2.1, .int .i64 x395.2.2]) (cs' := #[.int .i64 x395.1, .int .i64 x395.2.1, .int .i64 x395.2.2]) bx400 ag62.sz Y R R R R R (nb R) R fun s403 m404 bx400 => ?_
     replace rc398 := (rc398.mv m402 no_No no_No).mv m404 (tq R) (tq R)
     refine L.nil (X.beg rc398 hr393 fun s405 m406 rc398 => ?_)
     replace m0 := (((m0.trans (m397.one up)).trans m402.no).trans (m404.one up)).trans (m406.one up)
     replace h57 := (((h57.mono (m397.le (tg0 hN))).mono m402.z).mono (m404.le (tg0 hN))).mono (m406.le (tg0 hN))
     replace mk0 := (((mk0.mv m397 (tq R)).mv m402 no_No).mv m404 (tq R)).mv m406 (tq R)
     replace h399 := ((h399.mono m402.z).mono (m404.le (tg0 hN))).mono (m406.le (tg0 hN))
     replace bx400 := bx400.mv m406 (tq R)
     replace bx114 := (((bx114.mv m397 (tq R)).mv m402 no_No).mv m404 (tq R)).mv m406 (tq R)
     replace bx91 := (((bx91.mv m397 (tq R)).mv m402 no_No).mv m404 (tq R)).mv m406 (tq R)
     replace h330 := (((h330.mv m397 (tq R) (tg0 hN)).mv m402 no_No no_No).mv m404 (tq R) (tg0 hN)).mv m406 (tq R) (tg0 hN)
     replace bx83 := (((bx83.mv m397 (tq R)).mv m402 no_No).mv m404 (tq R)).mv m406 (tq R)
     replace h79 := (((h79.mono (m397.le (tg0 hN))).mono m402.z).mono (m404.le (tg0 hN))).mono (m406.le (tg0 hN))
     replace h80 := (((h80.mono (m397.le (tg0 hN))).mono m402.z).mono (m404.le (tg0 hN))).mono (m406.le (tg0 hN))
     replace h81 := (((h81.mono (m397.le (tg0 hN))).mono m402.z).mono (m404.le (tg0 hN))).mono (m406.le (tg0 hN))
     replace h82 := (((h82.mono (m397.le (tg0 hN))).mono m402.z).mono (m404.le (tg0 hN))).mono (m406.le (tg0 hN))
     replace bx71 := (((bx71.mv m397 (tq R)).mv m402 no_No).mv m404 (tq R)).mv m406 (tq R)
     replace h68 := (((h68.mv m397 (tq R) (tg0 hN)).mv m402 no_No no_No).mv m404 (tq R) (tg0 hN)).mv m406 (tq R) (tg0 hN)
     replace bx59 := (((bx59.mv m397 (tq R)).mv m402 no_No).mv m404 (tq R)).mv m406 (tq R)
     replace h49 := (((h49.mono (m397.le (tg0 hN))).mono m402.z).mono (m404.le (tg0 hN))).mono (m406.le (tg0 hN))
     replace bx32 := (((bx32.mv m397 (tq R)).mv m402 no_No).mv m404 (tq R)).mv m406 (tq R)
     replace h31 := (((h31.mv m397 (tq R) (tg0 hN)).mv m402 no_No no_No).mv m404 (tq R) (tg0 hN)).mv m406 (tq R) (tg0 hN)
     replace h310 := (((h310.mv m397 (tq R) (tg0 hN)).mv m402 no_No no_No).mv m404 (tq R) (tg0 hN)).mv m406 (tq R) (tg0 hN)
     replace h327 := (((h327.mv m397 (tq R) (tg0 hN)).mv m402 no_No no_No).mv m404 (tq R) (tg0 hN)).mv m406 (tq R) (tg0 hN)
     replace bx11 := (((bx11.mv m397 (tq R)).mv m402 no_No).mv m404 (tq R)).mv m406 (tq R)
     refine E.block (E.seq (ER (L.ld (j := 0) bx59.mem nag55 Y R R R R (L.fa fa62_2 Y R R (L.ld (j := 2) bx400.mem nag3 Y R R R R ?_)))))
     obtain ⟨x407, ex407, hm⟩ := bindS hm
     refine L.ix (r := rB) sl55 h49 Y R R ex407 R fun b408 o408 cc408 me408 rd408 => ?_
     obtain rfl := rd408
     refine L.ld (j := 0) me408 nag4 Y R R R R (L.not Y R R (L.nil (X.seqN ?_)))
     rcases ifS hm with ⟨hc, hm⟩ | ⟨hc, hm⟩
     ·refine E.cT R hc (E.exit (X.seqX (X.blkE ?_)))
      obtain rfl := oi hm
      exact X.rnd ⟨⟨st393, a327, c327, a330, c330, hj393, m0, h57, h31, h310, h327, h49, h68, h79, h80, h81, h82, h330, mk0, bx11, bx32, bx59, bx71, bx83, bx91, bx114⟩, rc398, h399⟩
     refine E.cF R hc (E.skip (X.seqN (E.seqJ (fun e w => ∃ (s412 : Sig) (l409 : List Int) (l410 : List Int) (a411 : Option Addr) (c411 : Nat), m_reach_Restrict_j2 st293 st393 x395 l409 l410 = some res393 ∧ Mv (Up N No) s s412 ∧ RdL rB s412 a57 c57 r54 ∧ RowT qI s412 (N + 4) 3 a31 c31 r28 ∧ RowT qI s412 (N + 11) 3 a310 c310 l309 ∧ RowT qT s412 (N + 15) 62 a327 c327 st393.1 ∧ RdL rB s412 a49 c49 r46 ∧ RowT qI s412 (N + 6) 3 (some ⟨b68, 0, none⟩) x67.length l409 ∧ RdL qI s412 a79 c79 r76.1.1 ∧ RdL qI s412 a80 c80 r76.1.2.2.1 ∧ RdL qT s412 a81 c81 r76.1.2.2.2 ∧ RdL qI s412 a82 c82 r76.2 ∧ RowT qI s412 (N + 14) 3 a411 c411 l410 ∧ Lf s396 s412 ∧ Mks s412 (N + 0) ds ∧ Bx s412 (N + 2) b11 #[.slice none 0 0, .int .i64 0, .slice none 0 0, .slice none 0 0] 30 ∧ Bx s412 (N + 3) b32 #[.slice a31 r28.length c31, .int .i64 0, .slice a310 l309.length c310, .slice a327 st393.1.length c327] 30 ∧ Bx s412 (N + 5) b59 #[.slice a49 r46.length c49] 55 ∧ Bx s412 (N + 7) b71 #[.slice (some ⟨b68, 0, none⟩) l409.length x67.length] 27 ∧ Bx s412 (N + 8) b83 #[.slice a79 r76.1.1.length c79, .int .i64 r76.1.2.1, .slice a80 r76.1.2.2.1.length c80, .slice a81 r76.1.2.2.2.length c81, .slice a82 r76.2.length c82] 91 ∧ Bx s412 (N + 9) b91 #[.slice a411 l410.length c411] 27 ∧ Bx s412 (N + 10) b114 #[.int .i64 st293.2.2.2.2] 3 ∧ Rc s412 (N + 12) (N + 0) D393 { r393 with state := .busy } ∧ Bx s412 (N + 13) b400 #[.int .i64 x395.1, .int .i64 x395.2.1, .int .i64 x395.2.2] 62 ∧ e = [(15, .pointer (some ⟨b400, 0, none⟩)), (14, .pointer (some ⟨b114, 0, none⟩)), (13, .pointer (some ⟨b91, 0, none⟩)), (12, .pointer (some ⟨b83, 0, none⟩)), (11, .pointer (some ⟨b71, 0, none⟩)), (10, .slice a57 r54.length c57), (9, .pointer (some ⟨b59, 0, none⟩)), (8, .pointer (some ⟨b32, 0, none⟩)), (4, .pointer (some ⟨b11, 0, none⟩))] ∧ w = s412.w) ?_ ?_)))
     ·rintro _ _ ⟨s412, l409, l410, a411, c411, hm, m0, h57, h31, h310, h327, h49, h68, h79, h80, h81, h82, h411, h399, mk0, bx11, bx32, bx59, bx71, bx83, bx91, bx114, rc398, bx400, rfl, rfl⟩
      unfold m_reach_Restrict_j2 at hm
      obtain ⟨x423, ex423, hm⟩ := bindS hm
      obtain ⟨x433, ex433, hm⟩ := bindS hm
      refine E.draw [[], [0], [], [], [3], [], [], [6], [5, 6, 7], [5, 6, 7, 8], [5, 6, 7, 8, 9], [2, 3, 4, 5, 6, 7, 8, 9, 10], [2, 3, 4, 5, 6, 7, 8, 9, 10, 11], [0, 1, 2, 3, 4, 5, 6, 7, 8, 9, 10, 11, 12], [0, 1, 2, 3, 4, 5, 6, 7, 8, 9, 10, 11, 12, 13], [0, 1, 2, 3, 4, 5, 6, 7, 8, 9, 10, 11, 12, 13, 14]] (fun D e sx => Mv (fun t => t = (N + 15) ∨ t = (N + 3)) s412 sx ∧ Sub [(15, .pointer (some ⟨b400, 0, none⟩)), (14, .pointer (some ⟨b114, 0, none⟩)), (13, .pointer (some ⟨b91, 0, none⟩)), (12, .pointer (some ⟨b83, 0, none⟩)), (11, .pointer (some ⟨b71, 0, none⟩)), (10, .slice a57 r54.length c57), (9, .pointer (some ⟨b59, 0, none⟩)), (8, .pointer (some ⟨b32, 0, none⟩)), (4, .pointer (some ⟨b11, 0, none⟩))] e ∧ AllP [G D e 0 107 (.pointer (some ⟨b32, 3, none⟩)), G D e 1 108 (.slice a327 st393.1.length c327), G D e 2 109 (.int .i64 st293.2.2.2.2), G D e 3 110 (.pointer (some ⟨b400, 1, none⟩)), G D e 4 111 (.int .i64 x395.2.1), G D e 5 112 (.slice (some ⟨b68, 0, none⟩) l409.length x67.length), G D e 6 113 (.pointer (some ⟨b400, 2, none⟩)), G D e 7 114 (.int .i64 x395.2.2), D 8 = true → (∃ (b424 : Nat) (o424 : Nat), Env.get e 115 = some (.pointer (some ⟨b424, o424, none⟩)) ∧ Mem sx (N + 6) b424 o424 [.int .i64 x423] ∧ Spot (some ⟨b68, 0, none⟩) qI.sz (x395.2.2).toNat b424 o424), G D e 9 116 (.int .i64 x423), G D e 10 117 (.int .i64 (W (x423 - 1))), G D e 11 118 (.agg #[.int .i64 st293.2.2.2.2, .int .i64 x395.2.1, .int .i64 (W (x423 - 1))]), D 12 = true → (∃ (b429 : Nat), Env.get e 119 = some (.slice (some ⟨b429, 0, none⟩) ([(st293.2.2.2.2, x395.2.1, W (x423 - 1))] : List (Int × Int × Int)).length (([(st293.2.2.2.2, x395.2.1, W (x423 - 1))] : List (Int × Int × Int)).length)) ∧ RdL qT sx (some ⟨b429, 0, none⟩) (([(st293.2.2.2.2, x395.2.1, W (x423 - 1))] : List (Int × Int × Int)).length) ([(st293.2.2.2.2, x395.2.1, W (x423 - 1))] : List (Int × Int × Int))), D 13 = true → (∃ (a434 : Option Addr) (c434 : Nat), Env.get e 120 = some (.slice a434 x433.length c434)), G D e 14 121 (.pointer (some ⟨b32, 3, none⟩)), D 13 = false → RowT qT sx (N + 15) 62 a327 c327 st393.1, D 13 = true → ∀ (a434 : Option Addr) (c434 : Nat), Env.get e 120 = some (.slice a434 x433.length c434) → RowT qT sx (N + 15) 62 a434 c434 x433, D 15 = false → Bx sx (N + 3) b32 #[.slice a31 r28.length c31, .int .i64 0, .slice a310 l309.length c310, .slice a327 st393.1.length c327] 30, D 15 = true → ∀ (a434 : Option Addr) (c434 : Nat), Env.get e 120 = some (.slice a434 x433.length c434) → Bx sx (N + 3) b32 #[.slice a31 r28.length c31, .int .i64 0, .slice a310 l309.length c310, .slice a434 x433.length c434] 30]) (by kernel_rfl) (by kernel_rfl) (by kernel_rfl) ?_ ?_ ?_
      ·intro sz mz
       exact ⟨mz.no, (Sub.rf R), nofun, nofun, nofun, nofun, nofun, nofun, nofun, nofun, nofun, nofun, nofun, nofun, nofun, nofun, nofun, fun _ => h327.mv mz no_No no_No, nofun, fun _ => bx32.mv mz no_No, nofun, trivial⟩
      ·refine ⟨?_, ?_, ?_, ?_, ?_, ?_, ?_, ?_, ?_, ?_, ?_, ?_, ?_, ?_, ?_, ?_, trivial⟩
       ·rintro D e s414 ⟨im, ib, i⟩ hk hf ha
        have kn := K1 (ib 8 _ R)
        exact kn.g (L.fa fa30_3 Y R R (L.nil (X.dk kn ⟨im, Sub.fresh ib R, i.u 0 (fun _ => R)⟩)))
       ·rintro D e s415 ⟨im, ib, i⟩ hk hf ha
        obtain bx32 := (i.p 17) (hf 15 (nb R) R)
        have kn := K1 ((i.p 0) (ha.at 0 R))
        exact kn.g (L.ld (j := 3) bx32.mem nag28 Y R R R R (L.nil (X.dk kn ⟨im, Sub.fresh ib R, i.u 1 (fun _ => R)⟩)))
       ·rintro D e s416 ⟨im, ib, i⟩ hk hf ha
        have bx114 := bx114.mv im (nor (tq R) (tq R))
        have kn := K1 (ib 14 _ R)
        exact kn.g (L.ld (j := 0) bx114.mem nag3 Y R R R R (L.nil (X.dk kn ⟨im, Sub.fresh ib R, i.u 2 (fun _ => R)⟩)))
       ·rintro D e s417 ⟨im, ib, i⟩ hk hf ha
        have kn := K1 (ib 15 _ R)
        exact kn.g (L.fa fa62_1 Y R R (L.nil (X.dk kn ⟨im, Sub.fresh ib R, i.u 3 (fun _ => R)⟩)))
       ·rintro D e s418 ⟨im, ib, i⟩ hk hf ha
        have bx400 := bx400.mv im (nor (tq R) (tq R))
        have kn := K1 ((i.p 3) (ha.at 3 R))
        exact kn.g (L.ld (j := 1) bx400.mem nag3 Y R R R R (L.nil (X.dk kn ⟨im, Sub.fresh ib R, i.u 4 (fun _ => R)⟩)))
       ·rintro D e s419 ⟨im, ib, i⟩ hk hf ha
        have bx71 := bx71.mv im (nor (tq R) (tq R))
        have kn := K1 (ib 11 _ R)
        exact kn.g (L.ld (j := 0) bx71.mem nag27 Y R R R R (L.nil (X.dk kn ⟨im, Sub.fresh ib R, i.u 5 (fun _ => R)⟩)))
       ·rintro D e s420 ⟨im, ib, i⟩ hk hf ha
        have kn := K1 (ib 15 _ R)
        exact kn.g (L.fa fa62_2 Y R R (L.nil (X.dk kn ⟨im, Sub.fresh ib R, i.u 6 (fun _ => R)⟩)))
       ·rintro D e s421 ⟨im, ib, i⟩ hk hf ha
        have bx400 := bx400.mv im (nor (tq R) (tq R))
        have kn := K1 ((i.p 6) (ha.at 6 R))
        exact kn.g (L.ld (j := 2) bx400.mem nag3 Y R R R R (L.nil (X.dk kn ⟨im, Sub.fresh ib R, i.u 7 (fun _ => R)⟩)))
       ·rintro D e s422 ⟨im, ib, i⟩ hk hf ha
        have h68 := h68.mv im (nor (tq R) (tq R)) (nor (tg0 hN) (tg0 hN))
        have kn := K2 ((i.p 5) (ha.at 5 R)) ((i.p 7) (ha.at 7 R))
        refine kn.g (L.ir (r := qI) sl27 h68 Y R R ex423 R fun b424 o424 cc424 me424 rd424 sp424 => ?_)
        obtain rfl := rd424
        exact L.nil (X.dk kn ⟨im, Sub.fresh ib R, i.u 8 (fun _ => ⟨b424, o424, R, me424, sp424⟩)⟩)
       ·rintro D e s425 ⟨im, ib, i⟩ hk hf ha
        obtain ⟨b424, o424, g8_, me424, sp424⟩ := (i.p 8) (ha.at 8 R)
        have kn := K1 g8_
        exact kn.g (L.ld (j := 0) me424 nag3 Y R R R R (L.nil (X.dk kn ⟨im, Sub.fresh ib R, i.u 9 (fun _ => R)⟩)))
       ·rintro D e s426 ⟨im, ib, i⟩ hk hf ha
        have kn := K1 ((i.p 9) (ha.at 9 R))
        exact kn.g (L.bi Y R R R R (L.nil (X.dk kn ⟨im, Sub.fresh ib R, i.u 10 (fun _ => R)⟩)))
       ·rintro D e s427 ⟨im, ib, i⟩ hk hf ha
        have kn := K3 ((i.p 2) (ha.at 2 R)) ((i.p 4) (ha.at 4 R)) ((i.p 10) (ha.at 10 R))
        exact kn.g (L.bu (cs := [.int .i64 st293.2.2.2.2, .int .i64 x395.2.1, .int .i64 (W (x423 - 1))]) pl62 Y R R R (L.nil (X.dk kn ⟨im, Sub.fresh ib R, i.u 11 (fun _ => R)⟩)))
       ·rintro D e s428 ⟨im, ib, i⟩ hk hf ha
        have kn := K1 ((i.p 11) (ha.at 11 R))
        refine kn.g (L.bsE (k := 1) (cs := [.int .i64 st293.2.2.2.2, .int .i64 x395.2.1, .int .i64 (W (x423 - 1))]) 0 bs28 (nb R) Y R R R R fun b429 s430 m431 bx429 => ?_)
        have h429 := Bx.rdL (r := qT) (xs := ([(st293.2.2.2.2, x395.2.1, W (x423 - 1))] : List (Int × Int × Int))) bx429 ⟨[.int .i64 st293.2.2.2.2, .int .i64 x395.2.1, .int .i64 (W (x423 - 1))], _, R, ⟨[.int .i64 st293.2.2.2.2], [.int .i64 x395.2.1, .int .i64 (W (x423 - 1))], R, R, ⟨[.int .i64 x395.2.1], [.int .i64 (W (x423 - 1))], R, R, R⟩⟩, R⟩ (nb R)
        exact L.nil (X.dk kn ⟨im.trans m431.no, Sub.fresh ib R, (((((i.u 8 (fun z => let ⟨b424, o424, q, me424, sp424⟩ := (i.p 8) z; ⟨b424, o424, q, (me424.mv m431 no_No), sp424⟩)).u 12 (fun _ => ⟨b429, R, h429⟩)).u 15 (fun z2 => (((i.p 15) z2).mv m431 no_No no_No))).u 16 (fun z a434 c434 q13 => (((i.p 16) z a434 c434 q13).mv m431 no_No no_No))).u 17 (fun z2 => (((i.p 17) z2).mv m431 no_No))).u 18 (fun z a434 c434 q13 => (((i.p 18) z a434 c434 q13).mv m431 no_No))⟩)
       ·rintro D e s432 ⟨im, ib, i⟩ hk hf ha
        obtain ⟨b429, g12_, h429⟩ := (i.p 12) (ha.at 12 R)
        obtain h327 := (i.p 15) hk
        have kn := K2 ((i.p 1) (ha.at 1 R)) g12_
        exact kn.g (L.ap (r := qT) Tryz.underlying28 el62 R (tgp hN) h327 h429.wk Y R R ex433 R fun a434 c434 s435 m436 h434 => L.nil (X.dk kn ⟨im.trans (m436.one (.inl R)), Sub.fresh ib R, ((((((i.u 8 (fun z => let ⟨b424, o424, q, me424, sp424⟩ := (i.p 8) z; ⟨b424, o424, q, (me424.mv m436 (tq R)), sp424⟩)).u 12 (fun z => let ⟨b429, q, h429⟩ := (i.p 12) z; ⟨b429, q, (h429.mono (m436.le (tg0 hN)))⟩)).u 13 (fun _ => ⟨a434, c434, R⟩)).u 15 (fun z => Bool.noConfusion (show true = false from z))).u 16 (fun _ _ _ q13 => by cases (show some (.slice a434 x433.length c434 : Value) = some _ from q13); exact h434)).u 17 (fun z2 => (((i.p 17) z2).mv m436 (tq R)))).u 18 (fun z => Bool.noConfusion ((hf 15 (nb R) R).symm.trans z))⟩))
       ·rintro D e s437 ⟨im, ib, i⟩ hk hf ha
        have kn := K1 (ib 8 _ R)
        exact kn.g (L.fa fa30_3 Y R R (L.nil (X.dk kn ⟨im, Sub.fresh ib R, i.u 14 (fun _ => R)⟩)))
       rintro D e s438 ⟨im, ib, i⟩ hk hf ha
       obtain ⟨a434, c434, g13_⟩ := (i.p 13) (ha.at 13 R)
       obtain bx32 := (i.p 17) hk
       have kn := K2 ((i.p 14) (ha.at 14 R)) g13_
       exact kn.g (L.st (c := [.slice a434 x433.length c434]) (cs' := #[.slice a31 r28.length c31, .int .i64 0, .slice a310 l309.length c310, .slice a434 x433.length c434]) bx32 nag28.sz Y R R R R R (nb R) R fun s439 m440 bx32 => L.nil (X.dn kn ⟨im.trans (m440.one (.inr R)), ib, (((((i.u 8 (fun z => let ⟨b424, o424, q, me424, sp424⟩ := (i.p 8) z; ⟨b424, o424, q, (me424.mv m440 (tq R)), sp424⟩)).u 12 (fun z => let ⟨b429, q, h429⟩ := (i.p 12) z; ⟨b429, q, (h429.mono (m440.le (tg0 hN)))⟩)).u 15 (fun z2 => (((i.p 15) z2).mv m440 (tq R) (tg0 hN)))).u 16 (fun z a434 c434 q13 => (((i.p 16) z a434 c434 q13).mv m440 (tq R) (tg0 hN)))).u 17 (fun z => Bool.noConfusion (show true = false from z))).u 18 (fun _ _ _ q13 => by cases g13_.symm.trans q13; exact bx32)⟩))
      rintro D e s441 hD ⟨im, ib, i⟩
      obtain ⟨a434, c434, g13_⟩ := (i.p 13) (hD 13 R)
      obtain h434 := (i.p 16) (hD 13 R) a434 c434 g13_
      obtain bx32 := (i.p 18) (hD 15 R) a434 c434 g13_
      have bx114 := bx114.mv im (nor (tq R) (tq R))
      have bx91 := bx91.mv im (nor (tq R) (tq R))
      have h411 := h411.mv im (nor (tq R) (tq R)) (nor (tg0 hN) (tg0 hN))
      have bx83 := bx83.mv im (nor (tq R) (tq R))
      have h79 := h79.mono (im.le (nor (tg0 hN) (tg0 hN)))
      have h80 := h80.mono (im.le (nor (tg0 hN) (tg0 hN)))
      have h81 := h81.mono (im.le (nor (tg0 hN) (tg0 hN)))
      have h82 := h82.mono (im.le (nor (tg0 hN) (tg0 hN)))
      have bx71 := bx71.mv im (nor (tq R) (tq R))
      have h68 := h68.mv im (nor (tq R) (tq R)) (nor (tg0 hN) (tg0 hN))
      have h57 := h57.mono (im.le (nor (tg0 hN) (tg0 hN)))
      have bx59 := bx59.mv im (nor (tq R) (tq R))
      have h49 := h49.mono (im.le (nor (tg0 hN) (tg0 hN)))
      have h31 := h31.mv im (nor (tq R) (tq R)) (nor (tg0 hN) (tg0 hN))
      have h310 := h310.mv im (nor (tq R) (tq R)) (nor (tg0 hN) (tg0 hN))
      have bx11 := bx11.mv im (nor (tq R) (tq R))
      have mk0 := mk0.mv im (nor (tq R) (tq R))
      have h399 := h399.mono (im.le (nor (tg0 hN) (tg0 hN)))
      have rc398 := rc398.mv im (nor (tq R) (tq R)) (nor (tq R) (tq R))
      have m0 := m0.trans (im.weak fun _ e => by rcases e with e | e; (rw [e]; exact up); (rw [e]; exact up))
      refine X.sub (e' := [(14, .pointer (some ⟨b114, 0, none⟩)), (13, .pointer (some ⟨b91, 0, none⟩)), (12, .pointer (some ⟨b83, 0, none⟩)), (11, .pointer (some ⟨b71, 0, none⟩)), (10, .slice a57 r54.length c57), (9, .pointer (some ⟨b59, 0, none⟩)), (8, .pointer (some ⟨b32, 0, none⟩)), (4, .pointer (some ⟨b11, 0, none⟩))]) ?_ (Sub.cons (ib 14 _ R) (Sub.cons (ib 13 _ R) (Sub.cons (ib 12 _ R) (Sub.cons (ib 11 _ R) (Sub.cons (ib 10 _ R) (Sub.cons (ib 9 _ R) (Sub.cons (ib 8 _ R) (Sub.cons (ib 4 _ R) Sub.nil))))))))
      refine X.blkN ?_
      obtain rfl := oi hm
      exact X.rnd ⟨⟨(x433, l409, l410), a434, c434, a411, c411, hj393, m0, h57, h31, h310, h434, h49, h68, h79, h80, h81, h82, h411, mk0, bx11, bx32, bx59, bx71, bx83, bx91, bx114⟩, rc398, h399⟩
     intro Jj413
     refine ER (L.ld (j := 0) bx71.mem nag27 Y R R R R (L.fa fa62_2 Y R R (L.ld (j := 2) bx400.mem nag3 Y R R R R ?_)))
     obtain ⟨x442, ex442, hm⟩ := bindS hm
     refine L.ir (r := qI) sl27 h68 Y R R ex442 R fun b443 o443 cc443 me443 rd443 sp443 => ?_
     obtain rfl := rd443
     refine L.ld (j := 0) me443 nag3 Y R R R R (L.bi Y R R R R (L.nil (X.seqN ?_)))
     rcases ifS hm with ⟨hc, hm⟩ | ⟨hc, hm⟩
     ·refine E.cT R hc (ER (L.ld (j := 0) bx91.mem nag27 Y R R R R (L.fa fa62_2 Y R R (L.ld (j := 2) bx400.mem nag3 Y R R R R (L.bsE (k := 1) (cs := [.int .i64 x395.2.2]) 0 bs27 (nb R) Y R R R R fun b444 s445 m446 bx444 => ?_)))))
      replace h330 := h330.mv m446 no_No no_No
      have h444 := Bx.rdL (r := qI) (xs := ([x395.2.2] : List Int)) bx444 ⟨[.int .i64 x395.2.2], _, R, R, R⟩ (nb R)
      obtain ⟨x447, ex447, hm⟩ := bindS hm
      refine L.ap (r := qI) Tryz.underlying27 el3 R (tgp hN) h330 h444.wk Y R R ex447 R fun a448 c448 s449 m450 h448 => ?_
      replace bx91 := (bx91.mv m446 no_No).mv m450 (tq R)
      refine L.st (c := [.slice a448 x447.length c448]) (cs' := #[.slice a448 x447.length c448]) bx91 nag27.sz Y R R R R R (nb R) R fun s451 m452 bx91 => ?_
      replace bx71 := ((bx71.mv m446 no_No).mv m450 (tq R)).mv m452 (tq R)
      replace h68 := ((h68.mv m446 no_No no_No).mv m450 (tq R) (tg0 hN)).mv m452 (tq R) (tg0 hN)
      replace bx400 := ((bx400.mv m446 no_No).mv m450 (tq R)).mv m452 (tq R)
      refine LN (E.reg (L.ld (j := 0) bx71.mem nag27 Y R R R R (L.fa fa62_2 Y R R (L.ld (j := 2) bx400.mem nag3 Y R R R R (L.ld (j := 0) bx91.mem nag27 Y R R R R (L.len sl27 Y R R ?_))))))
      obtain ⟨x453, ex453, hm⟩ := bindS hm
      refine L.ir (r := qI) sl27 h68 Y R R ex453 R fun b454 o454 cc454 me454 rd454 sp454 => ?_
      obtain rfl := rd454
      obtain ⟨x455, ex455, hm⟩ := bindS hm
      have elx455 := upd_len ex455
      refine L.su (fo := 0) (c := [.int .i64 (x447.length : Int)]) (z := (x447.length : Int)) h68 sp454 ex453 ex455 (tgp hN) nag3.sz Y R R R R R R (fun c0 hc0 => by obtain rfl := hc0; exact R) fun s456 m457 h68 => ?_
      replace m0 := (((m0.trans m446.no).trans (m450.one up)).trans (m452.one up)).trans (m457.one up)
      replace h57 := (((h57.mono m446.z).mono (m450.le (tg0 hN))).mono (m452.le (tg0 hN))).mono (m457.le (tg0 hN))
      replace mk0 := (((mk0.mv m446 no_No).mv m450 (tq R)).mv m452 (tq R)).mv m457 (tq R)
      replace h399 := (((h399.mono m446.z).mono (m450.le (tg0 hN))).mono (m452.le (tg0 hN))).mono (m457.le (tg0 hN))
      replace rc398 := (((rc398.mv m446 no_No no_No).mv m450 (tq R) (tq R)).mv m452 (tq R) (tq R)).mv m457 (tq R) (tq R)
      replace bx11 := (((bx11.mv m446 no_No).mv m450 (tq R)).mv m452 (tq R)).mv m457 (tq R)
      replace bx32 := (((bx32.mv m446 no_No).mv m450 (tq R)).mv m452 (tq R)).mv m457 (tq R)
      replace h31 := (((h31.mv m446 no_No no_No).mv m450 (tq R) (tg0 hN)).mv m452 (tq R) (tg0 hN)).mv m457 (tq R) (tg0 hN)
      replace h310 := (((h310.mv m446 no_No no_No).mv m450 (tq R) (tg0 hN)).mv m452 (tq R) (tg0 hN)).mv m457 (tq R) (tg0 hN)
      replace h327 := (((h327.mv m446 no_No no_No).mv m450 (tq R) (tg0 hN)).mv m452 (tq R) (tg0 hN)).mv m457 (tq R) (tg0 hN)
      replace bx59 := (((bx59.mv m446 no_No).mv m450 (tq R)).mv m452 (tq R)).mv m457 (tq R)
      replace h49 := (((h49.mono m446.z).mono (m450.le (tg0 hN))).mono (m452.le (tg0 hN))).mono (m457.le (tg0 hN))
      replace bx71 := bx71.mv m457 (tq R)
      replace bx83 := (((bx83.mv m446 no_No).mv m450 (tq R)).mv m452 (tq R)).mv m457 (tq R)
      replace h79 := (((h79.mono m446.z).mono (m450.le (tg0 hN))).mono (m452.le (tg0 hN))).mono (m457.le (tg0 hN))
      replace h80 := (((h80.mono m446.z).mono (m450.le (tg0 hN))).mono (m452.le (tg0 hN))).mono (m457.le (tg0 hN))
      replace h81 := (((h81.mono m446.z).mono (m450.le (tg0 hN))).mono (m452.le (tg0 hN))).mono (m457.le (tg0 hN))
      replace h82 := (((h82.mono m446.z).mono (m450.le (tg0 hN))).mono (m452.le (tg0 hN))).mono (m457.le (tg0 hN))
      replace bx91 := bx91.mv m457 (tq R)
      replace h448 := (h448.mv m452 (tq R) (tg0 hN)).mv m457 (tq R) (tg0 hN)
      replace bx114 := (((bx114.mv m446 no_No).mv m450 (tq R)).mv m452 (tq R)).mv m457 (tq R)
      replace bx400 := bx400.mv m457 (tq R)
      replace bx71 : Bx s456 (N + 7) b71 #[.slice (some ⟨b68, 0, none⟩) x455.length x67.length] 27 := by rw [elx455]; exact bx71
      exact L.nil (X.sub (Jj413 _ _ ⟨s456, x455, x447, a448, c448, hm, m0, h57, h31, h310, h327, h49, h68, h79, h80, h81, h82, h448, h399, mk0, bx11, bx32, bx59, bx71, bx83, bx91, bx114, rc398, bx400, R, R⟩) (Sub.rf R))
     exact E.cF R hc (E.skip (X.sub (Jj413 _ _ ⟨s405, st393.2.1, st393.2.2, a330, c330, hm, m0, h57, h31, h310, h327, h49, h68, h79, h80, h81, h82, h330, h399, mk0, bx11, bx32, bx59, bx71, bx83, bx91, bx114, rc398, bx400, R, R⟩) (Sub.rf R)))
    rintro D393 s394 s396 hD393 ⟨st393, a327, c327, a330, c330, hj393, m0, h57, h31, h310, h327, h49, h68, h79, h80, h81, h82, h330, mk0, bx11, bx32, bx59, bx71, bx83, bx91, bx114⟩ m397 mk393
    have hx := (rng_end hj393).symm
    subst hx
    replace bx114 := bx114.mv m397 (tq R)
    refine X.blkN (X.blkN (X.seqN (E.seq (ER (L.ld (j := 0) bx114.mem nag3 Y R R R R (LN (E.reg (L.al (N + 10) zz3 R Y R fun b458 s459 m460 bx458 => ?_))))))))
    refine L.st (c := [.int .i64 st293.2.2.2.2]) (cs' := #[.int .i64 st293.2.2.2.2]) bx458 nag3.sz Y R R R R R (nb R) R fun s461 m462 bx458 => ?_
    refine LN (E.reg (L.ld (j := 0) bx458.mem nag3 Y R R R R (L.bi Y R R R R (L.st (c := [.int .i64 (W (st293.2.2.2.2 + 1))]) (cs' := #[.int .i64 (W (st293.2.2.2.2 + 1))]) bx458 nag3.sz Y R R R R R (nb R) R fun s463 m464 bx458 => ?_))))
    replace m0 := (((m0.trans (m397.one up)).trans m460.no).trans (m462.one up)).trans (m464.one up)
    replace h57 := (((h57.mono (m397.le (tg0 hN))).mono m460.z).mono (m462.le (tg0 hN))).mono (m464.le (tg0 hN))
    replace mk0 := ((((mk0.mv m397 (tq R)).cons mko393 hD393 mk393).mv m460 no_No).mv m462 (tq R)).mv m464 (tq R)
    replace bx11 := (((bx11.mv m397 (tq R)).mv m460 no_No).mv m462 (tq R)).mv m464 (tq R)
    replace bx32 := (((bx32.mv m397 (tq R)).mv m460 no_No).mv m462 (tq R)).mv m464 (tq R)
    replace h31 := (((h31.mv m397 (tq R) (tg0 hN)).mv m460 no_No no_No).mv m462 (tq R) (tg0 hN)).mv m464 (tq R) (tg0 hN)
    replace h310 := (((h310.mv m397 (tq R) (tg0 hN)).mv m460 no_No no_No).mv m462 (tq R) (tg0 hN)).mv m464 (tq R) (tg0 hN)
    replace h327 := (((h327.mv m397 (tq R) (tg0 hN)).mv m460 no_No no_No).mv m462 (tq R) (tg0 hN)).mv m464 (tq R) (tg0 hN)
    replace bx59 := (((bx59.mv m397 (tq R)).mv m460 no_No).mv m462 (tq R)).mv m464 (tq R)
    replace h49 := (((h49.mono (m397.le (tg0 hN))).mono m460.z).mono (m462.le (tg0 hN))).mono (m464.le (tg0 hN))
    replace bx71 := (((bx71.mv m397 (tq R)).mv m460 no_No).mv m462 (tq R)).mv m464 (tq R)
    replace h68 := (((h68.mv m397 (tq R) (tg0 hN)).mv m460 no_No no_No).mv m462 (tq R) (tg0 hN)).mv m464 (tq R) (tg0 hN)
    replace bx83 := (((bx83.mv m397 (tq R)).mv m460 no_No).mv m462 (tq R)).mv m464 (tq R)
    replace h79 := (((h79.mono (m397.le (tg0 hN))).mono m460.z).mono (m462.le (tg0 hN))).mono (m464.le (tg0 hN))
    replace h80 := (((h80.mono (m397.le (tg0 hN))).mono m460.z).mono (m462.le (tg0 hN))).mono (m464.le (tg0 hN))
    replace h81 := (((h81.mono (m397.le (tg0 hN))).mono m460.z).mono (m462.le (tg0 hN))).mono (m464.le (tg0 hN))
    replace h82 := (((h82.mono (m397.le (tg0 hN))).mono m460.z).mono (m462.le (tg0 hN))).mono (m464.le (tg0 hN))
    replace bx91 := (((bx91.mv m397 (tq R)).mv m460 no_No).mv m462 (tq R)).mv m464 (tq R)
    replace h330 := (((h330.mv m397 (tq R) (tg0 hN)).mv m460 no_No no_No).mv m462 (tq R) (tg0 hN)).mv m464 (tq R) (tg0 hN)
    exact L.nil (X.sub (ih293 _ (oi hm).symm _ _ _ ⟨s463, a310, c310, a327, c327, a330, c330, b458, m0, h57, h31, h310, h327, h49, h68, h79, h80, h81, h82, h330, mk0, bx11, bx32, bx59, bx71, bx83, bx91, bx458, R, R⟩) (Sub.rf R))
   intro Jj312
   refine ER (L.mv Y R R (L.ld (j := 0) bx91.mem nag27 Y R R R R (L.ld (j := 0) bx114.mem nag3 Y R R R R ?_)))
   obtain ⟨x465, ex465, hm⟩ := bindS hm
   refine L.ir (r := qI) sl27 h112 Y R R ex465 R fun b466 o466 cc466 me466 rd466 sp466 => ?_
   obtain rfl := rd466
   refine L.ld (j := 0) me466 nag3 Y R R R R ?_
   obtain ⟨x467, ex467, hm⟩ := bindS hm
   refine L.ix (r := rB) sl55 h57 Y R R ex467 R fun b468 o468 cc468 me468 rd468 => ?_
   obtain rfl := rd468
   refine L.ld (j := 0) me468 nag4 Y R R R R (L.nil (X.seqN ?_))
   rcases ifS hm with ⟨hc, hm⟩ | ⟨hc, hm⟩
   ·refine E.cT R hc (E.reg (L.fa fa30_2 Y R R (L.ld (j := 2) bx32.mem nag27 Y R R R R (L.ld (j := 0) bx114.mem nag3 Y R R R R (L.bsE (k := 1) (cs := [.int .i64 st293.2.2.2.2]) 0 bs27 (nb R) Y R R R R fun b469 s470 m471 bx469 => ?_)))))
    replace h107 := h107.mv m471 no_No no_No
    have h469 := Bx.rdL (r := qI) (xs := ([st293.2.2.2.2] : List Int)) bx469 ⟨[.int .i64 st293.2.2.2.2], _, R, R, R⟩ (nb R)
    obtain ⟨x472, ex472, hm⟩ := bindS hm
    refine L.ap (r := qI) Tryz.underlying27 el3 R (tgp hN) h107 h469.wk Y R R ex472 R fun a473 c473 s474 m475 h473 => ?_
    replace bx32 := (bx32.mv m471 no_No).mv m475 (tq R)
    refine L.fa fa30_2 Y R R (L.st (c := [.slice a473 x472.length c473]) (cs' := #[.slice a31 r28.length c31, .int .i64 0, .slice a473 x472.length c473, .slice a109 st293.2.1.length c109]) bx32 nag27.sz Y R R R R R (nb R) R fun s476 m477 bx32 => ?_)
    replace m0 := ((m0.trans m471.no).trans (m475.one up)).trans (m477.one up)
    replace h57 := ((h57.mono m471.z).mono (m475.le (tg0 hN))).mono (m477.le (tg0 hN))
    replace mk0 := ((mk0.mv m471 no_No).mv m475 (tq R)).mv m477 (tq R)
    replace bx11 := ((bx11.mv m471 no_No).mv m475 (tq R)).mv m477 (tq R)
    replace h31 := ((h31.mv m471 no_No no_No).mv m475 (tq R) (tg0 hN)).mv m477 (tq R) (tg0 hN)
    replace h473 := h473.mv m477 (tq R) (tg0 hN)
    replace h109 := ((h109.mv m471 no_No no_No).mv m475 (tq R) (tg0 hN)).mv m477 (tq R) (tg0 hN)
    replace bx59 := ((bx59.mv m471 no_No).mv m475 (tq R)).mv m477 (tq R)
    replace h49 := ((h49.mono m471.z).mono (m475.le (tg0 hN))).mono (m477.le (tg0 hN))
    replace bx71 := ((bx71.mv m471 no_No).mv m475 (tq R)).mv m477 (tq R)
    replace h68 := ((h68.mv m471 no_No no_No).mv m475 (tq R) (tg0 hN)).mv m477 (tq R) (tg0 hN)
    replace bx83 := ((bx83.mv m471 no_No).mv m475 (tq R)).mv m477 (tq R)
    replace h79 := ((h79.mono m471.z).mono (m475.le (tg0 hN))).mono (m477.le (tg0 hN))
    replace h80 := ((h80.mono m471.z).mono (m475.le (tg0 hN))).mono (m477.le (tg0 hN))
    replace h81 := ((h81.mono m471.z).mono (m475.le (tg0 hN))).mono (m477.le (tg0 hN))
    replace h82 := ((h82.mono m471.z).mono (m475.le (tg0 hN))).mono (m477.le (tg0 hN))
    replace bx91 := ((bx91.mv m471 no_No).mv m475 (tq R)).mv m477 (tq R)
    replace h112 := ((h112.mv m471 no_No no_No).mv m475 (tq R) (tg0 hN)).mv m477 (tq R) (tg0 hN)
    replace bx114 := ((bx114.mv m471 no_No).mv m475 (tq R)).mv m477 (tq R)
    exact L.nil (X.sub (Jj312 _ _ _ ⟨s476, x472, a473, c473, hm, m0, h57, h31, h473, h109, h49, h68, h79, h80, h81, h82, h112, mk0, bx11, bx32, bx59, bx71, bx83, bx91, bx114, R, R⟩) (Sub.rf R))
   exact E.cF R hc (E.skip (X.sub (Jj312 _ _ _ ⟨s300, st293.1, a107, c107, hm, m0, h57, h31, h107, h109, h49, h68, h79, h80, h81, h82, h112, mk0, bx11, bx32, bx59, bx71, bx83, bx91, bx114, R, R⟩) (Sub.rf R)))
  refine E.cF R hc (E.exit (X.seqX (X.seqX ?_)))
  have hx := ho293 _ (oi hm).symm
  subst hx
  exact X.sub (K308 _ _ _ ⟨s300, a107, c107, a109, c109, a112, c112, m0, h31, h107, h109, h112, mk0, bx11, bx32, bx91, R, R⟩) (Sub.rf R)
 intro J478
 rcases ifS eb37 with ⟨hc, hm⟩ | ⟨hc, hm⟩
 ·exact L.know (d := 36) R hc (L.skip R R R R (L.skip R R R R (L.skip R R R R (L.skip R R R R (L.pkT Y R R R R (L.sb (J478 _ _ ⟨true, (oi hm).symm, R, R⟩) R))))))
 refine L.know (d := 36) R hc (L.mv (Wt.mk R R) R R ?_)
 obtain ⟨x479, ex479, hm⟩ := bindS hm
 refine L.ix (r := qI) sl27 h4 (Wt.mk R R) R R ex479 R fun b480 o480 cc480 me480 rd480 => ?_
 obtain rfl := rd480
 exact L.ld (j := 0) me480 nag3 (Wt.mk R R) R R R R (L.bi (Wt.mk R R) R R R R (L.pkF Y R R R R (L.sb (J478 _ _ ⟨(x479 != 0), (oi hm).symm, R, R⟩) R)))

end Go.Proofs.YtfbapajcheammaaGreatDoor

namespace Go.Proofs.YtfbapajcheammaaGreatDoor
open Go Go.RowKit
theorem cf31 : Cf Tryz.prog 31 := Cf.mk Tryz.func31 (by kernel_rfl) (by kernel_rfl)
noncomputable def m_reach_Trim (p0 : AutT) : Option (AutT × Int) :=
 (m_reach_Coreachable p0).bind fun r13 =>
 if (r13.2 != 0) then
  some ((([] : List Int), 0, ([] : List Int), ([] : List (Int × Int × Int))), r13.2)
 else
  (m_reach_Restrict p0 r13.1).bind fun r19 =>
  some r19
theorem m_reach_Trim_c {s : Sig} {p0 : AutT} {a1 : Option Addr} {c1 : Nat} {a2 : Option Addr} {c2 : Nat} {a3 : Option Addr} {c3 : Nat} {u0 : Nat} {u1 : Nat} {u2 : Nat} {r : AutT × Int} (h1 : RdL qI s a1 c1 p0.1) (h2 : RdL qI s a2 c2 p0.2.2.1) (h3 : RdL qT s a3 c3 p0.2.2.2) (hm : m_reach_Trim p0 = some r) :
    Calls Tryz.prog 8 #[.agg #[.slice a1 p0.1.length c1, .int .i64 p0.2.1, .slice a2 p0.2.2.1.length c2, .slice a3 p0.2.2.2.length c3]] s.w (RetS No s fun v s' => ∃ (a4 : Option Addr) (c4 : Nat) (a5 : Option Addr) (c5 : Nat) (a6 : Option Addr) (c6 : Nat), v = .tuple #[.agg #[.slice a4 r.1.1.length c4, .int .i64 r.1.2.1, .slice a5 r.1.2.2.1.length c5, .slice a6 r.1.2.2.2.length c6], .int .i64 r.2] ∧ RowT qI s' u0 3 a4 c4 r.1.1 ∧ RowT qI s' u1 3 a5 c5 r.1.2.2.1 ∧ RowT qT s' u2 62 a6 c6 r.1.2.2.2) := by
 unfold m_reach_Trim at hm
 obtain ⟨N, hN, hNb⟩ := s.fresh
 have m0 : Mv (Up N No) s s := Mv.refl _ _
 refine E.entry Tryz.func8 R Tryz.ntmps8 R R (ER (L.box (N + 0) Y R R R fun b7 s8 m9 bx7 => ?_))
 refine L.al (N + 1) zz30 R Y R fun b10 s11 m12 bx10 => ?_
 replace bx7 := bx7.mv m12 no_No
 replace h1 := (h1.mono m9.z).mono m12.z
 replace h2 := (h2.mono m9.z).mono m12.z
 replace h3 := (h3.mono m9.z).mono m12.z
 refine L.as Y R R (LN (ER (L.lg (j := 0) (cs := [.slice a1 p0.1.length c1, .int .i64 p0.2.1, .slice a2 p0.2.2.1.length c2, .slice a3 p0.2.2.2.length c3]) bx7.mem ag30 Y R R R R R ?_)))
 obtain ⟨r13, er13, hm⟩ := bindS hm
 refine L.ca cf30 R R Y R (m_reach_Coreachable_c (s := s11) (p0 := p0) (u0 := 0) h1 h2 h3 er13) R ?_
 rintro _ s14 m15 ⟨a16, c16, rfl, h16⟩
 replace h16 := h16.p
 replace m0 := ((m0.trans m9.no).trans m12.no).trans m15.no
 replace bx7 := bx7.mv m15 no_No
 replace h1 := h1.mono m15.z
 replace h2 := h2.mono m15.z
 replace h3 := h3.mono m15.z
 replace bx10 := bx10.mv m15 no_No
 refine L.mv Y R R (L.ex Y R R R (L.ex Y R R R (L.as Y R R (L.as Y R R (LN (E.seq (ER (L.mv Y R R (L.bi Y R R R R (L.nil (X.seqN ?_)))))))))))
 rcases ifS hm with ⟨hc, hm⟩ | ⟨hc, hm⟩
 ·refine E.cT R hc (ER (L.bu (cs := [.slice none 0 0, .int .i64 0, .slice none 0 0, .slice none 0 0]) pl30 Y R R R (L.mv Y R R (L.st (c := [.slice none 0 0, .int .i64 0, .slice none 0 0, .slice none 0 0]) (cs' := #[.slice none 0 0, .int .i64 0, .slice none 0 0, .slice none 0 0]) bx10 ag30.sz Y R R R R R (nb R) R fun s17 m18 bx10 => ?_))))
  replace m0 := m0.trans (m18.one up)
  refine L.as Y R R (LN (E.ret (X.seqR ?_)))
  obtain rfl := oi hm
  exact X.rt (.inl R) Tryz.results8 (Rs.cell R bx10 ag30 R (Rs.tmp R Rs.nil)) R ⟨_, (s17).ren N (fun _ => 0), R, R, m0.ren hNb, ⟨none, 0, none, 0, none, 0, R, RowT.nil, RowT.nil, RowT.nil⟩⟩
 refine E.cF R hc (E.skip (X.seqN (ER (L.lg (j := 0) (cs := [.slice a1 p0.1.length c1, .int .i64 p0.2.1, .slice a2 p0.2.2.1.length c2, .slice a3 p0.2.2.2.length c3]) bx7.mem ag30 Y R R R R R (L.mv Y R R ?_)))))
 obtain ⟨r19, er19, hm⟩ := bindS hm
 refine L.ca cf31 R R Y R (m_reach_Restrict_c (s := s14) (p0 := p0) (p1 := r13.1) (u0 := (N + 2)) (u1 := (N + 3)) (u2 := (N + 4)) h1 h2 h3 h16 er19) R ?_
 rintro _ s20 m21 ⟨a22, c22, a23, c23, a24, c24, rfl, h22, h23, h24⟩
 replace bx10 := bx10.mv m21 no_No
 refine L.ex Y R R R (L.ex Y R R R (L.st (c := [.slice a22 r19.1.1.length c22, .int .i64 r19.1.2.1, .slice a23 r19.1.2.2.1.length c23, .slice a24 r19.1.2.2.2.length c24]) (cs' := #[.slice a22 r19.1.1.length c22, .int .i64 r19.1.2.1, .slice a23 r19.1.2.2.1.length c23, .slice a24 r19.1.2.2.2.length c24]) bx10 ag30.sz Y R R R R R (nb R) R fun s25 m26 bx10 => ?_))
 replace m0 := (m0.trans m21.no).trans (m26.one up)
 replace h22 := h22.mv m26 (tq R) (tg0 hN)
 replace h23 := h23.mv m26 (tq R) (tg0 hN)
 replace h24 := h24.mv m26 (tq R) (tg0 hN)
 refine L.as Y R R (LN (E.ret ?_))
 obtain rfl := oi hm
 exact X.rt (.inl R) Tryz.results8 (Rs.cell R bx10 ag30 R (Rs.tmp R Rs.nil)) R ⟨_, (s25).ren N (fun k => cond (Nat.beq k 4) u2 (cond (Nat.beq k 3) u1 (cond (Nat.beq k 2) u0 (0)))), R, R, m0.ren hNb, ⟨a22, c22, a23, c23, a24, c24, R, (h22.ren hN), (h23.ren hN), (h24.ren hN)⟩⟩

noncomputable def m_slices_BinarySearchFunc_api_Edge_api_Edge_int_l1 (p0 : List (Int × Int × Int)) (p1 : Int) (p2 : (Int × Int × Int) → Int → Option Int) (st11 : Int × Int) : Option ((Int × Int) ⊕ Int) :=
 if decide (st11.2 < st11.1) then
  (idx p0 (W ((IntKind.u64.wrap (W (st11.2 + st11.1))).fdiv (2 ^ (min (1 : Int).toNat 64))))).bind fun x25 =>
  (p2 x25 p1).bind fun r27 =>
  if decide (r27 < 0) then
   some (.inl (st11.1, W ((W ((IntKind.u64.wrap (W (st11.2 + st11.1))).fdiv (2 ^ (min (1 : Int).toNat 64)))) + 1)))
  else
   some (.inl (W ((IntKind.u64.wrap (W (st11.2 + st11.1))).fdiv (2 ^ (min (1 : Int).toNat 64))), st11.2))
 else
  some (.inr st11.2)
noncomputable def m_slices_BinarySearchFunc_api_Edge_api_Edge_int (p0 : List (Int × Int × Int)) (p1 : Int) (p2 : (Int × Int × Int) → Int → Option Int) : Option (Int × Bool) :=
 (iter (m_slices_BinarySearchFunc_api_Edge_api_Edge_int_l1 p0 p1 p2) ((p0.length : Int), 0)).bind fun o11 =>
 (if decide (o11 < (p0.length : Int)) then
  (idx p0 o11).bind fun x19 =>
  (p2 x19 p1).bind fun r21 =>
  some (r21 == 0)
 else
  some false).bind fun b15 =>
 some (o11, b15)
theorem m_slices_BinarySearchFunc_api_Edge_api_Edge_int_c {s : Sig} {p0 : List (Int × Int × Int)} {p1 : Int} {p2 : (Int × Int × Int) → Int → Option Int} {a1 : Option Addr} {c1 : Nat} {vp2 : Value} {r : Int × Bool} (h1 : RdL qT s a1 c1 p0) (hp2 : FV2 Tryz.prog s vp2 (fun (x0 : Int × Int × Int) (x1 : Int) => [.agg #[.int .i64 x0.1, .int .i64 x0.2.1, .int .i64 x0.2.2], .int .i64 x1]) (fun (r : Int) => .int .i64 r) p2) (hm : m_slices_BinarySearchFunc_api_Edge_api_Edge_int p0 p1 p2 = some r) :
    Calls Tryz.prog 99 #[.slice a1 p0.length c1, .int .i64 p1, vp2] s.w (RetS No s fun v s' => v = .tuple #[.int .i64 r.1, .bool r.2]) := by
 unfold m_slices_BinarySearchFunc_api_Edge_api_Edge_int at hm
 obtain ⟨N, hN, hNb⟩ := s.fresh
 have m0 : Mv (Up N No) s s := Mv.refl _ _
 refine E.entry Tryz.func99 R Tryz.ntmps99 R R (ER (L.as Y R R (L.as Y R R (LN (ER (L.mv Y R R (L.len sl28 Y R R (L.as Y R R (LN (ER (L.mv Y R R (L.as Y R R (L.as Y R R (LN (E.seq (E.block ?_))))))))))))))))
 obtain ⟨o11, eo11, hm⟩ := bindS hm
 refine E.cut (x := .exit 0) (fun e w => ∃ (s14 : Sig), Mv (Up N No) s s14 ∧ RdL qT s14 a1 c1 p0 ∧ FV2 Tryz.prog s14 vp2 (fun (x0 : Int × Int × Int) (x1 : Int) => [.agg #[.int .i64 x0.1, .int .i64 x0.2.1, .int .i64 x0.2.2], .int .i64 x1]) (fun (r : Int) => .int .i64 r) p2 ∧ e = [(9, .int .i64 o11), (8, .int .i64 (p0.length : Int)), (0, .slice a1 p0.length c1), (1, .int .i64 p1), (2, vp2)] ∧ w = s14.w) ?_ ?_
 ·rintro _ _ ⟨s14, m0, h1, hp2, rfl, rfl⟩
  refine X.blkE (X.seqN (ER (L.mv Y R R (L.mv Y R R (L.mv Y R R (L.bi Y R R R R (L.mv Y R R ?_)))))))
  obtain ⟨b15, eb15, hm⟩ := bindS hm
  refine L.cut 9 (fun e w => ∃ (s17 : Sig) (v16 : Bool), b15 = v16 ∧ Mv (Up N No) s s17 ∧ e = (48, .bool v16) :: [(35, .int .i64 o11)] ∧ w = s17.w) ?_ ?_
  ·rintro _ _ ⟨s17, v16, rfl, m0, rfl, rfl⟩
   refine L.as Y R R (L.as Y R R (LN (E.ret ?_)))
   obtain rfl := oi hm
   exact X.rt (.inl R) Tryz.results99 (Rs.tmp R (Rs.tmp R Rs.nil)) R ⟨_, (s17).ren N (fun _ => 0), R, R, m0.ren hNb, R⟩
  intro J18
  rcases ifS eb15 with ⟨hc, hm⟩ | ⟨hc, hm⟩
  ·refine L.know (d := 39) R hc (L.mv (Wt.mk R R) R R (L.mv (Wt.mk R R) R R (L.mv (Wt.mk R R) R R ?_)))
   obtain ⟨x19, ex19, hm⟩ := bindS hm
   refine L.ix (r := qT) sl28 h1 (Wt.mk R R) R R ex19 R fun b20 o20 cc20 me20 rd20 => ?_
   obtain ⟨_, _, rfl, rfl, ⟨_, _, rfl, rfl, rfl⟩⟩ := rd20
   refine L.lg (j := 0) (cs := [.int .i64 x19.1, .int .i64 x19.2.1, .int .i64 x19.2.2]) me20 ag62 (Wt.mk R R) R R R R R (L.mv (Wt.mk R R) R R ?_)
   obtain ⟨r21, er21, hm⟩ := bindS hm
   refine L.fv2 (y := x19) (z := p1) hp2 R R (Wt.mk R R) R R er21 R fun s22 m23 => ?_
   replace m0 := m0.trans m23.no
   exact L.bi (Wt.mk R R) R R R R (L.pkT Y R R R R (L.sb (J18 _ _ ⟨s22, (r21 == 0), (oi hm).symm, m0, R, R⟩) R))
  exact L.know (d := 39) R hc (L.skip R R R R (L.skip R R R R (L.skip R R R R (L.skip R R R R (L.skip R R R R (L.skip R R R R (L.skip R R R R (L.skip R R R R (L.pkF Y R R R R (L.sb (J18 _ _ ⟨s14, false, (oi hm).symm, m0, R, R⟩) R))))))))))
 intro K24
 refine E.iter (fun (st11 : Int × Int) (e : List (Nat × Value)) (w : World) => ∃ (s13 : Sig), Mv (Up N No) s s13 ∧ RdL qT s13 a1 c1 p0 ∧ FV2 Tryz.prog s13 vp2 (fun (x0 : Int × Int × Int) (x1 : Int) => [.agg #[.int .i64 x0.1, .int .i64 x0.2.1, .int .i64 x0.2.2], .int .i64 x1]) (fun (r : Int) => .int .i64 r) p2 ∧ e = [(10, .int .i64 st11.1), (9, .int .i64 st11.2), (8, .int .i64 (p0.length : Int)), (0, .slice a1 p0.length c1), (1, .int .i64 p1), (2, vp2)] ∧ w = s13.w) eo11 ⟨s, m0, h1, hp2, R, R⟩ (Sub.rf R) ?_
 rintro st11 res11 hm ih11 ho11 _ _ ⟨s13, m0, h1, hp2, rfl, rfl⟩
 unfold m_slices_BinarySearchFunc_api_Edge_api_Edge_int_l1 at hm
 refine E.seq (ER (L.mv Y R R (L.mv Y R R (L.bi Y R R R R (L.nil (X.seqN ?_))))))
 rcases ifS hm with ⟨hc, hm⟩ | ⟨hc, hm⟩
 ·refine E.cT R hc (E.skip (X.seqN (E.block (ER (L.mv Y R R (L.mv Y R R (L.bi Y R R R R (L.cv Tryz.underlying3 Tryz.underlying139 Y R R (L.shr Y R R (by decide) R (L.cv Tryz.underlying139 Tryz.underlying3 Y R R (L.as Y R R (LN (ER (L.mv Y R R (L.mv Y R R (L.mv Y R R ?_))))))))))))))))
  obtain ⟨x25, ex25, hm⟩ := bindS hm
  refine L.ix (r := qT) sl28 h1 Y R R ex25 R fun b26 o26 cc26 me26 rd26 => ?_
  obtain ⟨_, _, rfl, rfl, ⟨_, _, rfl, rfl, rfl⟩⟩ := rd26
  refine L.lg (j := 0) (cs := [.int .i64 x25.1, .int .i64 x25.2.1, .int .i64 x25.2.2]) me26 ag62 Y R R R R R (L.mv Y R R ?_)
  obtain ⟨r27, er27, hm⟩ := bindS hm
  refine L.fv2 (y := x25) (z := p1) hp2 R R Y R R er27 R fun s28 m29 => ?_
  replace m0 := m0.trans m29.no
  replace h1 := h1.mono m29.z
  replace hp2 := hp2.mono m29.z
  refine L.bi Y R R R R (L.nil (X.seqN ?_))
  rcases ifS hm with ⟨hc, hm⟩ | ⟨hc, hm⟩
  ·exact E.cT R hc (E.reg (L.mv Y R R (L.bi Y R R R R (L.as Y R R (L.nil (X.blkN (X.sub (ih11 _ (oi hm).symm _ _ ⟨s28, m0, h1, hp2, R, R⟩) (Sub.rf R))))))))
  exact E.cF R hc (E.reg (L.mv Y R R (L.as Y R R (L.nil (X.blkN (X.sub (ih11 _ (oi hm).symm _ _ ⟨s28, m0, h1, hp2, R, R⟩) (Sub.rf R)))))))
 refine E.cF R hc (E.exit (X.seqX (X.seqX ?_)))
 have hx := ho11 _ (oi hm).symm
 subst hx
 exact X.sub (K24 _ _ ⟨s13, m0, h1, hp2, R, R⟩) (Sub.rf R)

noncomputable def m_automaton_out_1 (p0 : Int × Int × Int) (p1 : Int) : Option Int :=
 some (W (p0.1 - p1))
theorem m_automaton_out_1_c {s : Sig} {p0 : Int × Int × Int} {p1 : Int} {r : Int} (hm : m_automaton_out_1 p0 p1 = some r) :
    Calls Tryz.prog 100 #[.agg #[.int .i64 p0.1, .int .i64 p0.2.1, .int .i64 p0.2.2], .int .i64 p1] s.w (RetS No s fun v s' => v = .int .i64 r) := by
 unfold m_automaton_out_1 at hm
 obtain ⟨N, hN, hNb⟩ := s.fresh
 have m0 : Mv (Up N No) s s := Mv.refl _ _
 refine E.entry Tryz.func100 R Tryz.ntmps100 R R (ER (L.box (N + 0) Y R R R fun b1 s2 m3 bx1 => ?_))
 replace m0 := m0.trans m3.no
 refine L.as Y R R (LN (ER (L.fa fa62_0 Y R R (L.ld (j := 0) bx1.mem nag3 Y R R R R (L.mv Y R R (L.bi Y R R R R (L.as Y R R (LN (E.ret ?_)))))))))
 obtain rfl := oi hm
 exact X.rt (.inl R) Tryz.results100 (Rs.tmp R Rs.nil) R ⟨_, (s2).ren N (fun _ => 0), R, R, m0.ren hNb, R⟩

noncomputable def m_automaton_out_2 (p0 : Int × Int × Int) (p1 : Int) : Option Int :=
 some (W (p0.1 - p1))
theorem m_automaton_out_2_c {s : Sig} {p0 : Int × Int × Int} {p1 : Int} {r : Int} (hm : m_automaton_out_2 p0 p1 = some r) :
    Calls Tryz.prog 101 #[.agg #[.int .i64 p0.1, .int .i64 p0.2.1, .int .i64 p0.2.2], .int .i64 p1] s.w (RetS No s fun v s' => v = .int .i64 r) := by
 unfold m_automaton_out_2 at hm
 obtain ⟨N, hN, hNb⟩ := s.fresh
 have m0 : Mv (Up N No) s s := Mv.refl _ _
 refine E.entry Tryz.func101 R Tryz.ntmps101 R R (ER (L.box (N + 0) Y R R R fun b1 s2 m3 bx1 => ?_))
 replace m0 := m0.trans m3.no
 refine L.as Y R R (LN (ER (L.fa fa62_0 Y R R (L.ld (j := 0) bx1.mem nag3 Y R R R R (L.mv Y R R (L.bi Y R R R R (L.as Y R R (LN (E.ret ?_)))))))))
 obtain rfl := oi hm
 exact X.rt (.inl R) Tryz.results101 (Rs.tmp R Rs.nil) R ⟨_, (s2).ren N (fun _ => 0), R, R, m0.ren hNb, R⟩

theorem cf100 : Cf Tryz.prog 100 := Cf.mk Tryz.func100 (by kernel_rfl) (by kernel_rfl)
theorem cf101 : Cf Tryz.prog 101 := Cf.mk Tryz.func101 (by kernel_rfl) (by kernel_rfl)
theorem cf99 : Cf Tryz.prog 99 := Cf.mk Tryz.func99 (by kernel_rfl) (by kernel_rfl)
theorem fv100 {s : Sig} : FV2 Tryz.prog s (.func (.func 100) #[] #[]) (fun (x0 : Int × Int × Int) (x1 : Int) => [.agg #[.int .i64 x0.1, .int .i64 x0.2.1, .int .i64 x0.2.2], .int .i64 x1]) (fun r => .int .i64 r) m_automaton_out_1 := ⟨100, #[], #[], rfl, cf100, fun x0 x1 r hm s' hl => by have hh := m_automaton_out_1_c (s := s') hm; simpa using hh⟩
theorem fv101 {s : Sig} : FV2 Tryz.prog s (.func (.func 101) #[] #[]) (fun (x0 : Int × Int × Int) (x1 : Int) => [.agg #[.int .i64 x0.1, .int .i64 x0.2.1, .int .i64 x0.2.2], .int .i64 x1]) (fun r => .int .i64 r) m_automaton_out_2 := ⟨101, #[], #[], rfl, cf101, fun x0 x1 r hm s' hl => by have hh := m_automaton_out_2_c (s := s') hm; simpa using hh⟩
noncomputable def m_automaton_out (p0 : AutT) (p1 : Int) : Option (List (Int × Int × Int)) :=
 (m_slices_BinarySearchFunc_api_Edge_api_Edge_int p0.2.2.2 p1 m_automaton_out_1).bind fun r8 =>
 (m_slices_BinarySearchFunc_api_Edge_api_Edge_int p0.2.2.2 (W (p1 + 1)) m_automaton_out_2).bind fun r11 =>
 (slc p0.2.2.2 r8.1 r11.1).bind fun x14 =>
 some x14
theorem m_automaton_out_c {s : Sig} {p0 : AutT} {p1 : Int} {a1 : Option Addr} {c1 : Nat} {a2 : Option Addr} {c2 : Nat} {a3 : Option Addr} {c3 : Nat} {r : (List (Int × Int × Int))} (h1 : RdL qI s a1 c1 p0.1) (h2 : RdL qI s a2 c2 p0.2.2.1) (h3 : RdL qT s a3 c3 p0.2.2.2) (hm : m_automaton_out p0 p1 = some r) :
    Calls Tryz.prog 67 #[.agg #[.slice a1 p0.1.length c1, .int .i64 p0.2.1, .slice a2 p0.2.2.1.length c2, .slice a3 p0.2.2.2.length c3], .int .i64 p1] s.w (RetS No s fun v s' => ∃ (a4 : Option Addr) (c4 : Nat), v = .slice a4 r.length c4 ∧ RdL qT s' a4 c4 r) := by
 unfold m_automaton_out at hm
 obtain ⟨N, hN, hNb⟩ := s.fresh
 have m0 : Mv (Up N No) s s := Mv.refl _ _
 refine E.entry Tryz.func67 R Tryz.ntmps67 R R (ER (L.box (N + 0) Y R R R fun b5 s6 m7 bx5 => ?_))
 replace h3 := h3.mono m7.z
 refine L.as Y R R (LN (ER (L.fa fa30_3 Y R R (L.ld (j := 3) bx5.mem nag28 Y R R R R (L.mv Y R R ?_)))))
 obtain ⟨r8, er8, hm⟩ := bindS hm
 refine L.ca cf99 R R Y R (m_slices_BinarySearchFunc_api_Edge_api_Edge_int_c (s := s6) (p0 := p0.2.2.2) (p1 := p1) (p2 := m_automaton_out_1) h3 fv100 er8) R ?_
 rintro _ s9 m10 rfl
 replace bx5 := bx5.mv m10 no_No
 replace h3 := h3.mono m10.z
 refine L.mv Y R R (L.ex Y R R R (L.ex Y R R R (L.as Y R R (L.as Y R R (LN (ER (L.fa fa30_3 Y R R (L.ld (j := 3) bx5.mem nag28 Y R R R R (L.mv Y R R (L.bi Y R R R R ?_))))))))))
 obtain ⟨r11, er11, hm⟩ := bindS hm
 refine L.ca cf99 R R Y R (m_slices_BinarySearchFunc_api_Edge_api_Edge_int_c (s := s9) (p0 := p0.2.2.2) (p1 := (W (p1 + 1))) (p2 := m_automaton_out_2) h3 fv101 er11) R ?_
 rintro _ s12 m13 rfl
 replace m0 := ((m0.trans m7.no).trans m10.no).trans m13.no
 replace bx5 := bx5.mv m13 no_No
 replace h3 := h3.mono m13.z
 refine L.mv Y R R (L.ex Y R R R (L.ex Y R R R (L.as Y R R (L.as Y R R (LN (ER (L.fa fa30_3 Y R R (L.ld (j := 3) bx5.mem nag28 Y R R R R (L.mv Y R R (L.mv Y R R ?_))))))))))
 obtain ⟨x14, ex14, hm⟩ := bindS hm
 refine L.sl (r := qT) sl28 h3 Y R R R ex14 R fun a15 c15 h15 => L.as Y R R (LN (E.ret ?_))
 obtain rfl := oi hm
 exact X.rt (.inl R) Tryz.results67 (Rs.tmp R Rs.nil) R ⟨_, (s12).ren N (fun _ => 0), R, R, m0.ren hNb, ⟨a15, c15, R, (h15.ren hN)⟩⟩

theorem cf67 : Cf Tryz.prog 67 := Cf.mk Tryz.func67 (by kernel_rfl) (by kernel_rfl)
noncomputable def m_automaton_canonical_j2 (st238 : Int × List Int × List Int × List Int × (List (Int × Int × Int))) (st336 : Int × List Int × List Int × (List (Int × Int × Int))) (x345 : Int × Int × Int) (l352 : List Int) (l354 : List Int) : Option ((Int × List Int × List Int × (List (Int × Int × Int))) ⊕ (List Int × List Int × (List (Int × Int × Int)))) :=
 (idx l354 x345.2.2).bind fun x366 =>
 (app st336.2.2.2 ([(st238.1, x345.2.1, x366)] : List (Int × Int × Int))).bind fun x375 =>
 some (.inl (W (st336.1 + 1), l352, l354, x375))
noncomputable def m_automaton_canonical_l3 (st238 : Int × List Int × List Int × List Int × (List (Int × Int × Int))) (r264 : (List (Int × Int × Int))) (st336 : Int × List Int × List Int × (List (Int × Int × Int))) : Option ((Int × List Int × List Int × (List (Int × Int × Int))) ⊕ (List Int × List Int × (List (Int × Int × Int)))) :=
 if decide (st336.1 < (r264.length : Int)) then
  (idx r264 st336.1).bind fun x345 =>
  (idx st336.2.2.1 x345.2.2).bind fun x384 =>
  if decide (x384 < 0) then
   (idx st336.2.2.1 x345.2.2).bind fun x386 =>
   (upd st336.2.2.1 x345.2.2 (st336.2.1.length : Int)).bind fun x388 =>
   (app st336.2.1 ([x345.2.2] : List Int)).bind fun x394 =>
   m_automaton_canonical_j2 st238 st336 x345 x394 x388
  else
   m_automaton_canonical_j2 st238 st336 x345 st336.2.1 st336.2.2.1
 else
  some (.inr st336.2)
noncomputable def m_automaton_canonical_j1 (p0 : AutT) (st238 : Int × List Int × List Int × List Int × (List (Int × Int × Int))) (l252 : List Int) : Option ((Int × List Int × List Int × List Int × (List (Int × Int × Int))) ⊕ (List Int × List Int × (List (Int × Int × Int)))) :=
 (idx st238.2.1 st238.1).bind fun x260 =>
 (m_automaton_out p0 x260).bind fun r264 =>
 (iter (m_automaton_canonical_l3 st238 r264) (0, st238.2.1, st238.2.2.1, st238.2.2.2.2)).bind fun o336 =>
 some (.inl (W (st238.1 + 1), o336.1, o336.2.1, l252, o336.2.2))
noncomputable def m_automaton_canonical_l2 (p0 : AutT) (st238 : Int × List Int × List Int × List Int × (List (Int × Int × Int))) : Option ((Int × List Int × List Int × List Int × (List (Int × Int × Int))) ⊕ (List Int × List Int × (List (Int × Int × Int)))) :=
 if decide (st238.1 < (st238.2.1.length : Int)) then
  (idx st238.2.1 st238.1).bind fun x403 =>
  (m_slices_BinarySearch_int p0.2.2.1 x403).bind fun r407 =>
  if r407.2 then
   (app st238.2.2.2.1 ([st238.1] : List Int)).bind fun x419 =>
   m_automaton_canonical_j1 p0 st238 x419
  else
   m_automaton_canonical_j1 p0 st238 st238.2.2.2.1
 else
  some (.inr (st238.2.1, st238.2.2.2))
noncomputable def m_automaton_canonical_l1 (x24 : List Int) (st37 : Int × List Int) : Option ((Int × List Int) ⊕ (List Int)) :=
 if decide (st37.1 < (x24.length : Int)) then
  (idx st37.2 st37.1).bind fun x426 =>
  (upd st37.2 st37.1 (-1)).bind fun x428 =>
  some (.inl (W (st37.1 + 1), x428))
 else
  some (.inr st37.2)
noncomputable def m_automaton_canonical (p0 : AutT) : Option AutT :=
 (m_slices_Clone_int p0.1).bind fun r13 =>
 if (p0.2.1 == 0) then
  some (r13, 0, ([] : List Int), ([] : List (Int × Int × Int)))
 else
  (mkL p0.2.1 (0 : Int)).bind fun x24 =>
  (iter (m_automaton_canonical_l1 x24) (0, x24)).bind fun o37 =>
  (idx o37 0).bind fun x41 =>
  (upd o37 0 0).bind fun x43 =>
  (iter (m_automaton_canonical_l2 p0) (0, ([0] : List Int), x43, ([] : List Int), ([] : List (Int × Int × Int)))).bind fun o238 =>
  some (r13, (o238.1.length : Int), o238.2)
theorem m_automaton_canonical_c {s : Sig} {p0 : AutT} {a1 : Option Addr} {c1 : Nat} {a2 : Option Addr} {c2 : Nat} {a3 : Option Addr} {c3 : Nat} {u0 : Nat} {u1 : Nat} {u2 : Nat} {r : AutT} (h1 : RdL qI s a1 c1 p0.1) (h2 : RdL qI s a2 c2 p0.2.2.1) (h3 : RdL qT s a3 c3 p0.2.2.2) (hm : m_automaton_canonical p0 = some r) :
    Calls Tryz.prog 32 #[.agg #[.slice a1 p0.1.length c1, .int .i64 p0.2.1, .slice a2 p0.2.2.1.length c2, .slice a3 p0.2.2.2.length c3]] s.w (RetS No s fun v s' => ∃ (a4 : Option Addr) (c4 : Nat) (a5 : Option Addr) (c5 : Nat) (a6 : Option Addr) (c6 : Nat), v = .agg #[.slice a4 r.1.length c4, .int .i64 r.2.1, .slice a5 r.2.2.1.length c5, .slice a6 r.2.2.2.length c6] ∧ RowT qI s' u0 3 a4 c4 r.1 ∧ RowT qI s' u1 3 a5 c5 r.2.2.1 ∧ RowT qT s' u2 62 a6 c6 r.2.2.2) := by
 unfold m_automaton_canonical at hm
 obtain ⟨N, hN, hNb⟩ := s.fresh
 have m0 : Mv (Up N No) s s := Mv.refl _ _
 refine E.entry Tryz.func32 R Tryz.ntmps32 R R (ER (L.box (N + 0) Y R R R fun b7 s8 m9 bx7 => ?_))
 refine L.al (N + 1) zz30 R Y R fun b10 s11 m12 bx10 => ?_
 replace bx7 := bx7.mv m12 no_No
 replace h1 := (h1.mono m9.z).mono m12.z
 refine LN (ER (L.fa fa30_0 Y R R (L.ld (j := 0) bx7.mem nag27 Y R R R R ?_)))
 obtain ⟨r13, er13, hm⟩ := bindS hm
 refine L.ca cf63 R R Y R (m_slices_Clone_int_c (s := s11) (p0 := p0.1) (u0 := (N + 3)) h1 er13) R ?_
 rintro _ s14 m15 ⟨a16, c16, rfl, h16⟩
 refine L.bu (cs := [.slice a16 r13.length c16, .int .i64 0, .slice none 0 0, .slice none 0 0]) pl30 Y R R R (L.al (N + 2) zz30 R Y R fun b17 s18 m19 bx17 => ?_)
 refine L.st (c := [.slice a16 r13.length c16, .int .i64 0, .slice none 0 0, .slice none 0 0]) (cs' := #[.slice a16 r13.length c16, .int .i64 0, .slice none 0 0, .slice none 0 0]) bx17 ag30.sz Y R R R R R (nb R) R fun s20 m21 bx17 => ?_
 replace m0 := ((((m0.trans m9.no).trans m12.no).trans m15.no).trans m19.no).trans (m21.one up)
 replace bx7 := ((bx7.mv m15 no_No).mv m19 no_No).mv m21 (tq R)
 replace bx10 := ((bx10.mv m15 no_No).mv m19 no_No).mv m21 (tq R)
 replace h16 := (h16.mv m19 no_No no_No).mv m21 (tq R) (tg0 hN)
 refine LN (E.seq (ER (L.fa fa30_1 Y R R (L.ld (j := 1) bx7.mem nag3 Y R R R R (L.bi Y R R R R (L.nil (X.seqN ?_)))))))
 rcases ifS hm with ⟨hc, hm⟩ | ⟨hc, hm⟩
 ·refine E.cT R hc (ER (L.lg (j := 0) (cs := [.slice a16 r13.length c16, .int .i64 0, .slice none 0 0, .slice none 0 0]) bx17.mem ag30 Y R R R R R (L.st (c := [.slice a16 r13.length c16, .int .i64 0, .slice none 0 0, .slice none 0 0]) (cs' := #[.slice a16 r13.length c16, .int .i64 0, .slice none 0 0, .slice none 0 0]) bx10 ag30.sz Y R R R R R (nb R) R fun s22 m23 bx10 => ?_)))
  replace m0 := m0.trans (m23.one up)
  replace h16 := h16.mv m23 (tq R) (tg0 hN)
  refine LN (E.ret (X.seqR ?_))
  obtain rfl := oi hm
  exact X.rt (.inl R) Tryz.results32 (Rs.cell R bx10 ag30 R Rs.nil) R ⟨_, (s22).ren N (fun k => cond (Nat.beq k 3) u0 (0)), R, R, m0.ren hNb, ⟨a16, c16, none, 0, none, 0, R, (h16.ren hN), RowT.nil, RowT.nil⟩⟩
 refine E.cF R hc (E.skip (X.seqN (ER (L.fa fa30_1 Y R R (L.ld (j := 1) bx7.mem nag3 Y R R R R ?_)))))
 obtain ⟨x24, ex24, hm⟩ := bindS hm
 refine L.mk (z := (0 : Int)) (N + 4) Tryz.underlying27 zr3 R Y R R ex24 R fun b25 s26 m27 h25 => ?_
 replace m0 := m0.trans m27.no
 replace bx7 := bx7.mv m27 no_No
 replace h1 := (((h1.mono m15.z).mono m19.z).mono (m21.le (tg0 hN))).mono m27.z
 replace h2 := (((((h2.mono m9.z).mono m12.z).mono m15.z).mono m19.z).mono (m21.le (tg0 hN))).mono m27.z
 replace h3 := (((((h3.mono m9.z).mono m12.z).mono m15.z).mono m19.z).mono (m21.le (tg0 hN))).mono m27.z
 replace bx10 := bx10.mv m27 no_No
 replace bx17 := bx17.mv m27 no_No
 replace h16 := h16.mv m27 no_No no_No
 refine L.as Y R R (LN (E.seq (ER (L.mv Y R R (L.len sl27 Y R R (L.mv Y R R (LN (E.block ?_))))))))
 obtain ⟨o37, eo37, hm⟩ := bindS hm
 refine E.cut (x := .exit 0) (fun e w => ∃ (s40 : Sig), Mv (Up N No) s s40 ∧ RowT qI s40 (N + 4) 3 (some ⟨b25, 0, none⟩) x24.length o37 ∧ RdL qI s40 a1 c1 p0.1 ∧ RdL qI s40 a2 c2 p0.2.2.1 ∧ RdL qT s40 a3 c3 p0.2.2.2 ∧ RowT qI s40 (N + 3) 3 a16 c16 r13 ∧ Bx s40 (N + 0) b7 #[.slice a1 p0.1.length c1, .int .i64 p0.2.1, .slice a2 p0.2.2.1.length c2, .slice a3 p0.2.2.2.length c3] 30 ∧ Bx s40 (N + 1) b10 #[.slice none 0 0, .int .i64 0, .slice none 0 0, .slice none 0 0] 30 ∧ Bx s40 (N + 2) b17 #[.slice a16 r13.length c16, .int .i64 0, .slice none 0 0, .slice none 0 0] 30 ∧ e = [(4, .slice (some ⟨b25, 0, none⟩) o37.length x24.length), (3, .pointer (some ⟨b17, 0, none⟩)), (2, .pointer (some ⟨b10, 0, none⟩)), (1, .pointer (some ⟨b7, 0, none⟩))] ∧ w = s40.w) ?_ ?_
 ·rintro _ _ ⟨s40, m0, h25, h1, h2, h3, h16, bx7, bx10, bx17, rfl, rfl⟩
  refine X.blkE (X.seqN (ER (L.mv Y R R ?_)))
  obtain ⟨x41, ex41, hm⟩ := bindS hm
  refine L.ir (r := qI) sl27 h25 Y R R ex41 R fun b42 o42 cc42 me42 rd42 sp42 => ?_
  obtain rfl := rd42
  obtain ⟨x43, ex43, hm⟩ := bindS hm
  have elx43 := upd_len ex43
  refine L.su (fo := 0) (c := [.int .i64 0]) (z := 0) h25 sp42 ex41 ex43 (tgp hN) nag3.sz Y R R R R R R (fun c0 hc0 => by obtain rfl := hc0; exact R) fun s44 m45 h25 => ?_
  refine L.reval (d := 4) R elx43 (LN (ER (L.bsE (k := 1) (cs := [.int .i64 0]) (N + 7) bs27 (nb R) Y R R R R fun b46 s47 m48 bx46 => ?_)))
  replace m0 := (m0.trans (m45.one up)).trans m48.no
  replace h25 := h25.mv m48 no_No no_No
  replace bx7 := (bx7.mv m45 (tq R)).mv m48 no_No
  replace h1 := (h1.mono (m45.le (tg0 hN))).mono m48.z
  replace h2 := (h2.mono (m45.le (tg0 hN))).mono m48.z
  replace h3 := (h3.mono (m45.le (tg0 hN))).mono m48.z
  replace bx10 := (bx10.mv m45 (tq R)).mv m48 no_No
  replace bx17 := (bx17.mv m45 (tq R)).mv m48 no_No
  replace h16 := (h16.mv m45 (tq R) (tg0 hN)).mv m48 no_No no_No
  have h46 := Bx.row (r := qI) (xs := ([0] : List Int)) bx46 ⟨[.int .i64 0], _, R, R, R⟩ (nb R)
  refine L.as Y R R (LN (E.seq (ER (L.as Y R R (LN (E.block ?_))))))
  obtain ⟨o238, eo238, hm⟩ := bindS hm
  refine E.cut (x := .exit 2) (fun e w => ∃ (s246 : Sig) (a240 : Option Addr) (c240 : Nat) (a242 : Option Addr) (c242 : Nat) (a244 : Option Addr) (c244 : Nat), Mv (Up N No) s s246 ∧ RowT qI s246 (N + 7) 3 a240 c240 o238.1 ∧ RowT qI s246 (N + 3) 3 a16 c16 r13 ∧ RowT qI s246 (N + 5) 3 a242 c242 o238.2.1 ∧ RowT qT s246 (N + 8) 62 a244 c244 o238.2.2 ∧ Bx s246 (N + 1) b10 #[.slice none 0 0, .int .i64 0, .slice none 0 0, .slice none 0 0] 30 ∧ Bx s246 (N + 2) b17 #[.slice a16 r13.length c16, .int .i64 0, .slice a242 o238.2.1.length c242, .slice a244 o238.2.2.length c244] 30 ∧ e = [(6, .slice a240 o238.1.length c240), (3, .pointer (some ⟨b17, 0, none⟩)), (2, .pointer (some ⟨b10, 0, none⟩))] ∧ w = s246.w) ?_ ?_
  ·rintro _ _ ⟨s246, a240, c240, a242, c242, a244, c244, m0, h240, h16, h242, h244, bx10, bx17, rfl, rfl⟩
   refine X.blkE (X.seqN (ER (L.mv Y R R (L.len sl27 Y R R (L.fa fa30_1 Y R R (L.st (c := [.int .i64 (o238.1.length : Int)]) (cs' := #[.slice a16 r13.length c16, .int .i64 (o238.1.length : Int), .slice a242 o238.2.1.length c242, .slice a244 o238.2.2.length c244]) bx17 nag3.sz Y R R R R R (nb R) R fun s247 m248 bx17 => ?_))))))
   replace bx10 := bx10.mv m248 (tq R)
   refine LN (ER (L.lg (j := 0) (cs := [.slice a16 r13.length c16, .int .i64 (o238.1.length : Int), .slice a242 o238.2.1.length c242, .slice a244 o238.2.2.length c244]) bx17.mem ag30 Y R R R R R (L.st (c := [.slice a16 r13.length c16, .int .i64 (o238.1.length : Int), .slice a242 o238.2.1.length c242, .slice a244 o238.2.2.length c244]) (cs' := #[.slice a16 r13.length c16, .int .i64 (o238.1.length : Int), .slice a242 o238.2.1.length c242, .slice a244 o238.2.2.length c244]) bx10 ag30.sz Y R R R R R (nb R) R fun s249 m250 bx10 => ?_)))
   replace m0 := (m0.trans (m248.one up)).trans (m250.one up)
   replace h16 := (h16.mv m248 (tq R) (tg0 hN)).mv m250 (tq R) (tg0 hN)
   replace h242 := (h242.mv m248 (tq R) (tg0 hN)).mv m250 (tq R) (tg0 hN)
   replace h244 := (h244.mv m248 (tq R) (tg0 hN)).mv m250 (tq R) (tg0 hN)
   refine LN (E.ret ?_)
   obtain rfl := oi hm
   exact X.rt (.inl R) Tryz.results32 (Rs.cell R bx10 ag30 R Rs.nil) R ⟨_, (s249).ren N (fun k => cond (Nat.beq k 8) u2 (cond (Nat.beq k 5) u1 (cond (Nat.beq k 3) u0 (0)))), R, R, m0.ren hNb, ⟨a16, c16, a242, c242, a244, c244, R, (h16.ren hN), (h242.ren hN), (h244.ren hN)⟩⟩
  intro K251
  refine E.iter (fun (st238 : Int × List Int × List Int × List Int × (List (Int × Int × Int))) (e : List (Nat × Value)) (w : World) => ∃ (s245 : Sig) (a51 : Option Addr) (c51 : Nat) (a54 : Option Addr) (c54 : Nat) (a56 : Option Addr) (c56 : Nat), Mv (Up N No) s s245 ∧ RowT qI s245 (N + 7) 3 a51 c51 st238.2.1 ∧ RowT qI s245 (N + 4) 3 (some ⟨b25, 0, none⟩) x24.length st238.2.2.1 ∧ RdL qI s245 a1 c1 p0.1 ∧ RdL qI s245 a2 c2 p0.2.2.1 ∧ RdL qT s245 a3 c3 p0.2.2.2 ∧ RowT qI s245 (N + 3) 3 a16 c16 r13 ∧ RowT qI s245 (N + 5) 3 a54 c54 st238.2.2.2.1 ∧ RowT qT s245 (N + 8) 62 a56 c56 st238.2.2.2.2 ∧ Bx s245 (N + 0) b7 #[.slice a1 p0.1.length c1, .int .i64 p0.2.1, .slice a2 p0.2.2.1.length c2, .slice a3 p0.2.2.2.length c3] 30 ∧ Bx s245 (N + 1) b10 #[.slice none 0 0, .int .i64 0, .slice none 0 0, .slice none 0 0] 30 ∧ Bx s245 (N + 2) b17 #[.slice a16 r13.length c16, .int .i64 0, .slice a54 st238.2.2.2.1.length c54, .slice a56 st238.2.2.2.2.length c56] 30 ∧ e = [(7, .int .i64 st238.1), (6, .slice a51 st238.2.1.length c51), (4, .slice (some ⟨b25, 0, none⟩) st238.2.2.1.length x24.length), (3, .pointer (some ⟨b17, 0, none⟩)), (2, .pointer (some ⟨b10, 0, none⟩)), (1, .pointer (some ⟨b7, 0, none⟩))] ∧ w = s245.w) eo238 ⟨s47, (some ⟨b46, 0, none⟩), ([0] : List Int).length, none, 0, none, 0, m0, h46, h25, h1, h2, h3, h16, RowT.nil, RowT.nil, bx7, bx10, bx17, R, R⟩ (Sub.rf R) ?_
  rintro st238 res238 hm ih238 ho238 _ _ ⟨s245, a51, c51, a54, c54, a56, c56, m0, h51, h25, h1, h2, h3, h16, h54, h56, bx7, bx10, bx17, rfl, rfl⟩
  unfold m_automaton_canonical_l2 at hm
  refine E.seq (ER (L.mv Y R R (L.mv Y R R (L.len sl27 Y R R (L.bi Y R R R R (L.nil (X.seqN ?_)))))))
  rcases ifS hm with ⟨hc, hm⟩ | ⟨hc, hm⟩
  ·refine E.cT R hc (E.skip (X.seqN (E.seq (E.block (E.seqJ (fun e w => ∃ (s254 : Sig) (l252 : List Int) (a253 : Option Addr) (c253 : Nat), m_automaton_canonical_j1 p0 st238 l252 = some res238 ∧ Mv (Up N No) s s254 ∧ RowT qI s254 (N + 7) 3 a51 c51 st238.2.1 ∧ RowT qI s254 (N + 4) 3 (some ⟨b25, 0, none⟩) x24.length st238.2.2.1 ∧ RdL qI s254 a1 c1 p0.1 ∧ RdL qI s254 a2 c2 p0.2.2.1 ∧ RdL qT s254 a3 c3 p0.2.2.2 ∧ RowT qI s254 (N + 3) 3 a16 c16 r13 ∧ RowT qI s254 (N + 5) 3 a253 c253 l252 ∧ RowT qT s254 (N + 8) 62 a56 c56 st238.2.2.2.2 ∧ Bx s254 (N + 0) b7 #[.slice a1 p0.1.length c1, .int .i64 p0.2.1, .slice a2 p0.2.2.1.length c2, .slice a3 p0.2.2.2.length c3] 30 ∧ Bx s254 (N + 1) b10 #[.slice none 0 0, .int .i64 0, .slice none 0 0, .slice none 0 0] 30 ∧ Bx s254 (N + 2) b17 #[.slice a16 r13.length c16, .int .i64 0, .slice a253 l252.length c253, .slice a56 st238.2.2.2.2.length c56] 30 ∧ e = [(7, .int .i64 st238.1), (6, .slice a51 st238.2.1.length c51), (4, .slice (some ⟨b25, 0, none⟩) st238.2.2.1.length x24.length), (3, .pointer (some ⟨b17, 0, none⟩)), (2, .pointer (some ⟨b10, 0, none⟩)), (1, .pointer (some ⟨b7, 0, none⟩))] ∧ w = s254.w) ?_ ?_)))))
   ·rintro _ _ ⟨s254, l252, a253, c253, hm, m0, h51, h25, h1, h2, h3, h16, h253, h56, bx7, bx10, bx17, rfl, rfl⟩
    unfold m_automaton_canonical_j1 at hm
    refine E.seq ?_
    obtain ⟨x260, ex260, hm⟩ := bindS hm
    obtain ⟨r264, er264, hm⟩ := bindS hm
    refine E.draw [[], [], [], [1, 2], [1, 2, 3], [0, 1, 2, 3, 4], [0, 1, 2, 3, 4, 5], []] (fun D e sx => Mv No s254 sx ∧ Sub [(7, .int .i64 st238.1), (6, .slice a51 st238.2.1.length c51), (4, .slice (some ⟨b25, 0, none⟩) st238.2.2.1.length x24.length), (3, .pointer (some ⟨b17, 0, none⟩)), (2, .pointer (some ⟨b10, 0, none⟩)), (1, .pointer (some ⟨b7, 0, none⟩))] e ∧ AllP [G D e 0 58 (.agg #[.slice a1 p0.1.length c1, .int .i64 p0.2.1, .slice a2 p0.2.2.1.length c2, .slice a3 p0.2.2.2.length c3]), G D e 1 59 (.slice a51 st238.2.1.length c51), G D e 2 60 (.int .i64 st238.1), D 3 = true → (∃ (b261 : Nat) (o261 : Nat), Env.get e 61 = some (.pointer (some ⟨b261, o261, none⟩)) ∧ Mem sx (N + 7) b261 o261 [.int .i64 x260] ∧ Spot a51 qI.sz (st238.1).toNat b261 o261), G D e 4 62 (.int .i64 x260), D 5 = true → (∃ (a267 : Option Addr) (c267 : Nat), Env.get e 63 = some (.slice a267 r264.length c267) ∧ RdL qT sx a267 c267 r264), G D e 6 64 (.int .i64 (r264.length : Int)), G D e 7 65 (.int .i64 0)]) (by kernel_rfl) (by kernel_rfl) (by kernel_rfl) ?_ ?_ ?_
    ·intro sz mz
     exact ⟨mz, (Sub.rf R), nofun, nofun, nofun, nofun, nofun, nofun, nofun, nofun, trivial⟩
    ·refine ⟨?_, ?_, ?_, ?_, ?_, ?_, ?_, ?_, trivial⟩
     ·rintro D e s256 ⟨im, ib, i⟩ hk hf ha
      have bx7 := bx7.mv im no_No
      have kn := K1 (ib 1 _ R)
      exact kn.g (L.lg (j := 0) (cs := [.slice a1 p0.1.length c1, .int .i64 p0.2.1, .slice a2 p0.2.2.1.length c2, .slice a3 p0.2.2.2.length c3]) bx7.mem ag30 Y R R R R R (L.nil (X.dk kn ⟨im, Sub.fresh ib R, i.u 0 (fun _ => R)⟩)))
     ·rintro D e s257 ⟨im, ib, i⟩ hk hf ha
      have kn := K1 (ib 6 _ R)
      exact kn.g (L.mv Y R R (L.nil (X.dk kn ⟨im, Sub.fresh ib R, i.u 1 (fun _ => R)⟩)))
     ·rintro D e s258 ⟨im, ib, i⟩ hk hf ha
      have kn := K1 (ib 7 _ R)
      exact kn.g (L.mv Y R R (L.nil (X.dk kn ⟨im, Sub.fresh ib R, i.u 2 (fun _ => R)⟩)))
     ·rintro D e s259 ⟨im, ib, i⟩ hk hf ha
      have h51 := h51.mv im no_No no_No
      have kn := K2 ((i.p 1) (ha.at 1 R)) ((i.p 2) (ha.at 2 R))
      refine kn.g (L.ir (r := qI) sl27 h51 Y R R ex260 R fun b261 o261 cc261 me261 rd261 sp261 => ?_)
      obtain rfl := rd261
      exact L.nil (X.dk kn ⟨im, Sub.fresh ib R, i.u 3 (fun _ => ⟨b261, o261, R, me261, sp261⟩)⟩)
     ·rintro D e s262 ⟨im, ib, i⟩ hk hf ha
      obtain ⟨b261, o261, g3_, me261, sp261⟩ := (i.p 3) (ha.at 3 R)
      have kn := K1 g3_
      exact kn.g (L.ld (j := 0) me261 nag3 Y R R R R (L.nil (X.dk kn ⟨im, Sub.fresh ib R, i.u 4 (fun _ => R)⟩)))
     ·rintro D e s263 ⟨im, ib, i⟩ hk hf ha
      have h1 := h1.mono im.z
      have h2 := h2.mono im.z
      have h3 := h3.mono im.z
      have kn := K2 ((i.p 0) (ha.at 0 R)) ((i.p 4) (ha.at 4 R))
      refine kn.g (L.ca cf67 R R Y R (m_automaton_out_c (s := s263) (p0 := p0) (p1 := x260) h1 h2 h3 er264) R ?_)
      rintro _ s265 m266 ⟨a267, c267, rfl, h267⟩
      exact L.nil (X.dk kn ⟨im.trans m266.no, Sub.fresh ib R, (i.u 3 (fun z => let ⟨b261, o261, q, me261, sp261⟩ := (i.p 3) z; ⟨b261, o261, q, (me261.mv m266 no_No), sp261⟩)).u 5 (fun _ => ⟨a267, c267, R, h267⟩)⟩)
     ·rintro D e s268 ⟨im, ib, i⟩ hk hf ha
      obtain ⟨a267, c267, g5_, h267⟩ := (i.p 5) (ha.at 5 R)
      have kn := K1 g5_
      exact kn.g (L.len sl28 Y R R (L.nil (X.dk kn ⟨im, Sub.fresh ib R, i.u 6 (fun _ => R)⟩)))
     rintro D e s269 ⟨im, ib, i⟩ hk hf ha
     exact L.mv Y R R (L.nil (X.dr (s := s269) (e' := (65, .int .i64 0) :: e) (Sub.both (Sub.refl)) ⟨im, Sub.fresh ib R, i.u 7 (fun _ => R)⟩))
    rintro D e s270 hD ⟨im, ib, i⟩
    obtain ⟨a267, c267, g5_, h267⟩ := (i.p 5) (hD 5 R)
    have g6_ := (i.p 6) (hD 6 R)
    have g7_ := (i.p 7) (hD 7 R)
    have h51 := h51.mv im no_No no_No
    have h25 := h25.mv im no_No no_No
    have bx17 := bx17.mv im no_No
    have h16 := h16.mv im no_No no_No
    have h253 := h253.mv im no_No no_No
    have h56 := h56.mv im no_No no_No
    have bx10 := bx10.mv im no_No
    have bx7 := bx7.mv im no_No
    have h1 := h1.mono im.z
    have h2 := h2.mono im.z
    have h3 := h3.mono im.z
    have m0 := m0.trans im.no
    refine X.sub (e' := [(65, .int .i64 0), (64, .int .i64 (r264.length : Int)), (63, .slice a267 r264.length c267), (7, .int .i64 st238.1), (6, .slice a51 st238.2.1.length c51), (4, .slice (some ⟨b25, 0, none⟩) st238.2.2.1.length x24.length), (3, .pointer (some ⟨b17, 0, none⟩)), (2, .pointer (some ⟨b10, 0, none⟩)), (1, .pointer (some ⟨b7, 0, none⟩))]) ?_ (Sub.cons g7_ (Sub.cons g6_ (Sub.cons g5_ (Sub.cons (ib 7 _ R) (Sub.cons (ib 6 _ R) (Sub.cons (ib 4 _ R) (Sub.cons (ib 3 _ R) (Sub.cons (ib 2 _ R) (Sub.cons (ib 1 _ R) Sub.nil)))))))))
    refine X.seqN (E.block ?_)
    obtain ⟨o336, eo336, hm⟩ := bindS hm
    refine E.cut (x := .exit 4) (fun e w => ∃ (s343 : Sig) (a338 : Option Addr) (c338 : Nat) (a341 : Option Addr) (c341 : Nat), Mv (Up N No) s s343 ∧ RowT qI s343 (N + 7) 3 a338 c338 o336.1 ∧ RowT qI s343 (N + 4) 3 (some ⟨b25, 0, none⟩) x24.length o336.2.1 ∧ RdL qI s343 a1 c1 p0.1 ∧ RdL qI s343 a2 c2 p0.2.2.1 ∧ RdL qT s343 a3 c3 p0.2.2.2 ∧ RowT qI s343 (N + 3) 3 a16 c16 r13 ∧ RowT qI s343 (N + 5) 3 a253 c253 l252 ∧ RowT qT s343 (N + 8) 62 a341 c341 o336.2.2 ∧ Bx s343 (N + 0) b7 #[.slice a1 p0.1.length c1, .int .i64 p0.2.1, .slice a2 p0.2.2.1.length c2, .slice a3 p0.2.2.2.length c3] 30 ∧ Bx s343 (N + 1) b10 #[.slice none 0 0, .int .i64 0, .slice none 0 0, .slice none 0 0] 30 ∧ Bx s343 (N + 2) b17 #[.slice a16 r13.length c16, .int .i64 0, .slice a253 l252.length c253, .slice a341 o336.2.2.length c341] 30 ∧ e = [(7, .int .i64 st238.1), (6, .slice a338 o336.1.length c338), (4, .slice (some ⟨b25, 0, none⟩) o336.2.1.length x24.length), (3, .pointer (some ⟨b17, 0, none⟩)), (2, .pointer (some ⟨b10, 0, none⟩)), (1, .pointer (some ⟨b7, 0, none⟩))] ∧ w = s343.w) ?_ ?_
    ·rintro _ _ ⟨s343, a338, c338, a341, c341, m0, h338, h25, h1, h2, h3, h16, h253, h341, bx7, bx10, bx17, rfl, rfl⟩
     exact X.blkE (X.blkN (X.seqN (E.reg (L.mv Y R R (L.bi Y R R R R (L.as Y R R (L.nil (X.sub (ih238 _ (oi hm).symm _ _ ⟨s343, a338, c338, a253, c253, a341, c341, m0, h338, h25, h1, h2, h3, h16, h253, h341, bx7, bx10, bx17, R, R⟩) (Sub.rf R)))))))))
    intro K344
    refine E.iter (fun (st336 : Int × List Int × List Int × (List (Int × Int × Int))) (e : List (Nat × Value)) (w : World) => ∃ (s342 : Sig) (a273 : Option Addr) (c273 : Nat) (a276 : Option Addr) (c276 : Nat), Mv (Up N No) s s342 ∧ RdL qT s342 a267 c267 r264 ∧ RowT qI s342 (N + 7) 3 a273 c273 st336.2.1 ∧ RowT qI s342 (N + 4) 3 (some ⟨b25, 0, none⟩) x24.length st336.2.2.1 ∧ RdL qI s342 a1 c1 p0.1 ∧ RdL qI s342 a2 c2 p0.2.2.1 ∧ RdL qT s342 a3 c3 p0.2.2.2 ∧ RowT qI s342 (N + 3) 3 a16 c16 r13 ∧ RowT qI s342 (N + 5) 3 a253 c253 l252 ∧ RowT qT s342 (N + 8) 62 a276 c276 st336.2.2.2 ∧ Bx s342 (N + 0) b7 #[.slice a1 p0.1.length c1, .int .i64 p0.2.1, .slice a2 p0.2.2.1.length c2, .slice a3 p0.2.2.2.length c3] 30 ∧ Bx s342 (N + 1) b10 #[.slice none 0 0, .int .i64 0, .slice none 0 0, .slice none 0 0] 30 ∧ Bx s342 (N + 2) b17 #[.slice a16 r13.length c16, .int .i64 0, .slice a253 l252.length c253, .slice a276 st336.2.2.2.length c276] 30 ∧ e = [(65, .int .i64 st336.1), (64, .int .i64 (r264.length : Int)), (63, .slice a267 r264.length c267), (7, .int .i64 st238.1), (6, .slice a273 st336.2.1.length c273), (4, .slice (some ⟨b25, 0, none⟩) st336.2.2.1.length x24.length), (3, .pointer (some ⟨b17, 0, none⟩)), (2, .pointer (some ⟨b10, 0, none⟩)), (1, .pointer (some ⟨b7, 0, none⟩))] ∧ w = s342.w) eo336 ⟨s270, a51, c51, a56, c56, m0, h267, h51, h25, h1, h2, h3, h16, h253, h56, bx7, bx10, bx17, R, R⟩ (Sub.rf R) ?_
    rintro st336 res336 hm ih336 ho336 _ _ ⟨s342, a273, c273, a276, c276, m0, h267, h273, h25, h1, h2, h3, h16, h253, h276, bx7, bx10, bx17, rfl, rfl⟩
    unfold m_automaton_canonical_l3 at hm
    refine ER (L.bi Y R R R R (LN (E.seq ?_)))
    rcases ifS hm with ⟨hc, hm⟩ | ⟨hc, hm⟩
    ·refine E.cT R hc (E.skip (X.seqN (E.seq (E.block (E.seq (E.reg ?_))))))
     obtain ⟨x345, ex345, hm⟩ := bindS hm
     refine L.ix (r := qT) sl28 h267 Y R R ex345 R fun b346 o346 cc346 me346 rd346 => ?_
     obtain ⟨_, _, rfl, rfl, ⟨_, _, rfl, rfl, rfl⟩⟩ := rd346
     refine L.lg (j := 0) (cs := [.int .i64 x345.1, .int .i64 x345.2.1, .int .i64 x345.2.2]) me346 ag62 Y R R R R R (L.al (N + 6) zz62 R Y R fun b347 s348 m349 bx347 => ?_)
     refine L.st (c := [.int .i64 x345.1, .int .i64 x345.2.1, .int .i64 x345.2.2]) (cs' := #[.int .i64 x345.1, .int .i64 x345.2.1, .int .i64 x345.2.2]) bx347 ag62.sz Y R R R R R (nb R) R fun s350 m351 bx347 => ?_
     replace m0 := (m0.trans m349.no).trans (m351.one up)
     replace h25 := (h25.mv m349 no_No no_No).mv m351 (tq R) (tg0 hN)
     replace h273 := (h273.mv m349 no_No no_No).mv m351 (tq R) (tg0 hN)
     replace h267 := (h267.mono m349.z).mono (m351.le (tg0 hN))
     replace bx7 := (bx7.mv m349 no_No).mv m351 (tq R)
     replace h1 := (h1.mono m349.z).mono (m351.le (tg0 hN))
     replace h2 := (h2.mono m349.z).mono (m351.le (tg0 hN))
     replace h3 := (h3.mono m349.z).mono (m351.le (tg0 hN))
     replace bx10 := (bx10.mv m349 no_No).mv m351 (tq R)
     replace bx17 := (bx17.mv m349 no_No).mv m351 (tq R)
     replace h16 := (h16.mv m349 no_No no_No).mv m351 (tq R) (tg0 hN)
     replace h253 := (h253.mv m349 no_No no_No).mv m351 (tq R) (tg0 hN)
     replace h276 := (h276.mv m349 no_No no_No).mv m351 (tq R) (tg0 hN)
     refine LN (E.seqJ (fun e w => ∃ (s355 : Sig) (l352 : List Int) (l354 : List Int) (a353 : Option Addr) (c353 : Nat), m_automaton_canonical_j2 st238 st336 x345 l352 l354 = some res336 ∧ Mv (Up N No) s s355 ∧ RowT qI s355 (N + 7) 3 a353 c353 l352 ∧ RowT qI s355 (N + 4) 3 (some ⟨b25, 0, none⟩) x24.length l354 ∧ RdL qT s355 a267 c267 r264 ∧ RdL qI s355 a1 c1 p0.1 ∧ RdL qI s355 a2 c2 p0.2.2.1 ∧ RdL qT s355 a3 c3 p0.2.2.2 ∧ RowT qI s355 (N + 3) 3 a16 c16 r13 ∧ RowT qI s355 (N + 5) 3 a253 c253 l252 ∧ RowT qT s355 (N + 8) 62 a276 c276 st336.2.2.2 ∧ Bx s355 (N + 0) b7 #[.slice a1 p0.1.length c1, .int .i64 p0.2.1, .slice a2 p0.2.2.1.length c2, .slice a3 p0.2.2.2.length c3] 30 ∧ Bx s355 (N + 1) b10 #[.slice none 0 0, .int .i64 0, .slice none 0 0, .slice none 0 0] 30 ∧ Bx s355 (N + 2) b17 #[.slice a16 r13.length c16, .int .i64 0, .slice a253 l252.length c253, .slice a276 st336.2.2.2.length c276] 30 ∧ Bx s355 (N + 6) b347 #[.int .i64 x345.1, .int .i64 x345.2.1, .int .i64 x345.2.2] 62 ∧ e = [(6, .slice a353 l352.length c353), (4, .slice (some ⟨b25, 0, none⟩) l354.length x24.length), (11, .pointer (some ⟨b347, 0, none⟩)), (65, .int .i64 st336.1), (64, .int .i64 (r264.length : Int)), (63, .slice a267 r264.length c267), (7, .int .i64 st238.1), (3, .pointer (some ⟨b17, 0, none⟩)), (2, .pointer (some ⟨b10, 0, none⟩)), (1, .pointer (some ⟨b7, 0, none⟩))] ∧ w = s355.w) ?_ ?_)
     ·rintro _ _ ⟨s355, l352, l354, a353, c353, hm, m0, h353, h25, h267, h1, h2, h3, h16, h253, h276, bx7, bx10, bx17, bx347, rfl, rfl⟩
      unfold m_automaton_canonical_j2 at hm
      obtain ⟨x366, ex366, hm⟩ := bindS hm
      obtain ⟨x375, ex375, hm⟩ := bindS hm
      refine E.draw [[], [0], [], [], [3], [], [], [6], [5, 6, 7], [5, 6, 7, 8], [2, 3, 4, 5, 6, 7, 8, 9], [2, 3, 4, 5, 6, 7, 8, 9, 10], [0, 1, 2, 3, 4, 5, 6, 7, 8, 9, 10, 11], [0, 1, 2, 3, 4, 5, 6, 7, 8, 9, 10, 11, 12], [0, 1, 2, 3, 4, 5, 6, 7, 8, 9, 10, 11, 12, 13]] (fun D e sx => Mv (fun t => t = (N + 2) ∨ t = (N + 8)) s355 sx ∧ Sub [(6, .slice a353 l352.length c353), (4, .slice (some ⟨b25, 0, none⟩) l354.length x24.length), (11, .pointer (some ⟨b347, 0, none⟩)), (65, .int .i64 st336.1), (64, .int .i64 (r264.length : Int)), (63, .slice a267 r264.length c267), (7, .int .i64 st238.1), (3, .pointer (some ⟨b17, 0, none⟩)), (2, .pointer (some ⟨b10, 0, none⟩)), (1, .pointer (some ⟨b7, 0, none⟩))] e ∧ AllP [G D e 0 86 (.pointer (some ⟨b17, 3, none⟩)), G D e 1 87 (.slice a276 st336.2.2.2.length c276), G D e 2 88 (.int .i64 st238.1), G D e 3 89 (.pointer (some ⟨b347, 1, none⟩)), G D e 4 90 (.int .i64 x345.2.1), G D e 5 91 (.slice (some ⟨b25, 0, none⟩) l354.length x24.length), G D e 6 92 (.pointer (some ⟨b347, 2, none⟩)), G D e 7 93 (.int .i64 x345.2.2), D 8 = true → (∃ (b367 : Nat) (o367 : Nat), Env.get e 94 = some (.pointer (some ⟨b367, o367, none⟩)) ∧ Mem sx (N + 4) b367 o367 [.int .i64 x366] ∧ Spot (some ⟨b25, 0, none⟩) qI.sz (x345.2.2).toNat b367 o367), G D e 9 95 (.int .i64 x366), G D e 10 96 (.agg #[.int .i64 st238.1, .int .i64 x345.2.1, .int .i64 x366]), D 11 = true → (∃ (b371 : Nat), Env.get e 97 = some (.slice (some ⟨b371, 0, none⟩) ([(st238.1, x345.2.1, x366)] : List (Int × Int × Int)).length (([(st238.1, x345.2.1, x366)] : List (Int × Int × Int)).length)) ∧ RdL qT sx (some ⟨b371, 0, none⟩) (([(st238.1, x345.2.1, x366)] : List (Int × Int × Int)).length) ([(st238.1, x345.2.1, x366)] : List (Int × Int × Int))), D 12 = true → (∃ (a376 : Option Addr) (c376 : Nat), Env.get e 98 = some (.slice a376 x375.length c376)), G D e 13 99 (.pointer (some ⟨b17, 3, none⟩)), D 14 = false → Bx sx (N + 2) b17 #[.slice a16 r13.length c16, .int .i64 0, .slice a253 l252.length c253, .slice a276 st336.2.2.2.length c276] 30, D 14 = true → ∀ (a376 : Option Addr) (c376 : Nat), Env.get e 98 = some (.slice a376 x375.length c376) → Bx sx (N + 2) b17 #[.slice a16 r13.length c16, .int .i64 0, .slice a253 l252.length c253, .slice a376 x375.length c376] 30, D 12 = false → RowT qT sx (N + 8) 62 a276 c276 st336.2.2.2, D 12 = true → ∀ (a376 : Option Addr) (c376 : Nat), Env.get e 98 = some (.slice a376 x375.length c376) → RowT qT sx (N + 8) 62 a376 c376 x375]) (by kernel_rfl) (by kernel_rfl) (by kernel_rfl) ?_ ?_ ?_
      ·intro sz mz
       exact ⟨mz.no, (Sub.rf R), nofun, nofun, nofun, nofun, nofun, nofun, nofun, nofun, nofun, nofun, nofun, nofun, nofun, nofun, fun _ => bx17.mv mz no_No, nofun, fun _ => h276.mv mz no_No no_No, nofun, trivial⟩
      ·refine ⟨?_, ?_, ?_, ?_, ?_, ?_, ?_, ?_, ?_, ?_, ?_, ?_, ?_, ?_, ?_, trivial⟩
       ·rintro D e s357 ⟨im, ib, i⟩ hk hf ha
        have kn := K1 (ib 3 _ R)
        exact kn.g (L.fa fa30_3 Y R R (L.nil (X.dk kn ⟨im, Sub.fresh ib R, i.u 0 (fun _ => R)⟩)))
       ·rintro D e s358 ⟨im, ib, i⟩ hk hf ha
        obtain bx17 := (i.p 14) (hf 14 (nb R) R)
        have kn := K1 ((i.p 0) (ha.at 0 R))
        exact kn.g (L.ld (j := 3) bx17.mem nag28 Y R R R R (L.nil (X.dk kn ⟨im, Sub.fresh ib R, i.u 1 (fun _ => R)⟩)))
       ·rintro D e s359 ⟨im, ib, i⟩ hk hf ha
        have kn := K1 (ib 7 _ R)
        exact kn.g (L.mv Y R R (L.nil (X.dk kn ⟨im, Sub.fresh ib R, i.u 2 (fun _ => R)⟩)))
       ·rintro D e s360 ⟨im, ib, i⟩ hk hf ha
        have kn := K1 (ib 11 _ R)
        exact kn.g (L.fa fa62_1 Y R R (L.nil (X.dk kn ⟨im, Sub.fresh ib R, i.u 3 (fun _ => R)⟩)))
       ·rintro D e s361 ⟨im, ib, i⟩ hk hf ha
        have bx347 := bx347.mv im (nor (tq R) (tq R))
        have kn := K1 ((i.p 3) (ha.at 3 R))
        exact kn.g (L.ld (j := 1) bx347.mem nag3 Y R R R R (L.nil (X.dk kn ⟨im, Sub.fresh ib R, i.u 4 (fun _ => R)⟩)))
       ·rintro D e s362 ⟨im, ib, i⟩ hk hf ha
        have kn := K1 (ib 4 _ R)
        exact kn.g (L.mv Y R R (L.nil (X.dk kn ⟨im, Sub.fresh ib R, i.u 5 (fun _ => R)⟩)))
       ·rintro D e s363 ⟨im, ib, i⟩ hk hf ha
        have kn := K1 (ib 11 _ R)
        exact kn.g (L.fa fa62_2 Y R R (L.nil (X.dk kn ⟨im, Sub.fresh ib R, i.u 6 (fun _ => R)⟩)))
       ·rintro D e s364 ⟨im, ib, i⟩ hk hf ha
        have bx347 := bx347.mv im (nor (tq R) (tq R))
        have kn := K1 ((i.p 6) (ha.at 6 R))
        exact kn.g (L.ld (j := 2) bx347.mem nag3 Y R R R R (L.nil (X.dk kn ⟨im, Sub.fresh ib R, i.u 7 (fun _ => R)⟩)))
       ·rintro D e s365 ⟨im, ib, i⟩ hk hf ha
        have h25 := h25.mv im (nor (tq R) (tq R)) (nor (tg0 hN) (tg0 hN))
        have kn := K2 ((i.p 5) (ha.at 5 R)) ((i.p 7) (ha.at 7 R))
        refine kn.g (L.ir (r := qI) sl27 h25 Y R R ex366 R fun b367 o367 cc367 me367 rd367 sp367 => ?_)
        obtain rfl := rd367
        exact L.nil (X.dk kn ⟨im, Sub.fresh ib R, i.u 8 (fun _ => ⟨b367, o367, R, me367, sp367⟩)⟩)
       ·rintro D e s368 ⟨im, ib, i⟩ hk hf ha
        obtain ⟨b367, o367, g8_, me367, sp367⟩ := (i.p 8) (ha.at 8 R)
        have kn := K1 g8_
        exact kn.g (L.ld (j := 0) me367 nag3 Y R R R R (L.nil (X.dk kn ⟨im, Sub.fresh ib R, i.u 9 (fun _ => R)⟩)))
       ·rintro D e s369 ⟨im, ib, i⟩ hk hf ha
        have kn := K3 ((i.p 2) (ha.at 2 R)) ((i.p 4) (ha.at 4 R)) ((i.p 9) (ha.at 9 R))
        exact kn.g (L.bu (cs := [.int .i64 st238.1, .int .i64 x345.2.1, .int .i64 x366]) pl62 Y R R R (L.nil (X.dk kn ⟨im, Sub.fresh ib R, i.u 10 (fun _ => R)⟩)))
       ·rintro D e s370 ⟨im, ib, i⟩ hk hf ha
        have kn := K1 ((i.p 10) (ha.at 10 R))
        refine kn.g (L.bsE (k := 1) (cs := [.int .i64 st238.1, .int .i64 x345.2.1, .int .i64 x366]) 0 bs28 (nb R) Y R R R R fun b371 s372 m373 bx371 => ?_)
        have h371 := Bx.rdL (r := qT) (xs := ([(st238.1, x345.2.1, x366)] : List (Int × Int × Int))) bx371 ⟨[.int .i64 st238.1, .int .i64 x345.2.1, .int .i64 x366], _, R, ⟨[.int .i64 st238.1], [.int .i64 x345.2.1, .int .i64 x366], R, R, ⟨[.int .i64 x345.2.1], [.int .i64 x366], R, R, R⟩⟩, R⟩ (nb R)
        exact L.nil (X.dk kn ⟨im.trans m373.no, Sub.fresh ib R, (((((i.u 8 (fun z => let ⟨b367, o367, q, me367, sp367⟩ := (i.p 8) z; ⟨b367, o367, q, (me367.mv m373 no_No), sp367⟩)).u 11 (fun _ => ⟨b371, R, h371⟩)).u 14 (fun z2 => (((i.p 14) z2).mv m373 no_No))).u 15 (fun z a376 c376 q12 => (((i.p 15) z a376 c376 q12).mv m373 no_No))).u 16 (fun z2 => (((i.p 16) z2).mv m373 no_No no_No))).u 17 (fun z a376 c376 q12 => (((i.p 17) z a376 c376 q12).mv m373 no_No no_No))⟩)
       ·rintro D e s374 ⟨im, ib, i⟩ hk hf ha
        obtain ⟨b371, g11_, h371⟩ := (i.p 11) (ha.at 11 R)
        obtain h276 := (i.p 16) hk
        have kn := K2 ((i.p 1) (ha.at 1 R)) g11_
        exact kn.g (L.ap (r := qT) Tryz.underlying28 el62 R (tgp hN) h276 h371.wk Y R R ex375 R fun a376 c376 s377 m378 h376 => L.nil (X.dk kn ⟨im.trans (m378.one (.inr R)), Sub.fresh ib R, ((((((i.u 8 (fun z => let ⟨b367, o367, q, me367, sp367⟩ := (i.p 8) z; ⟨b367, o367, q, (me367.mv m378 (tq R)), sp367⟩)).u 11 (fun z => let ⟨b371, q, h371⟩ := (i.p 11) z; ⟨b371, q, (h371.mono (m378.le (tg0 hN)))⟩)).u 12 (fun _ => ⟨a376, c376, R⟩)).u 14 (fun z2 => (((i.p 14) z2).mv m378 (tq R)))).u 15 (fun z => Bool.noConfusion ((hf 14 (nb R) R).symm.trans z))).u 16 (fun z => Bool.noConfusion (show true = false from z))).u 17 (fun _ _ _ q12 => by cases (show some (.slice a376 x375.length c376 : Value) = some _ from q12); exact h376)⟩))
       ·rintro D e s379 ⟨im, ib, i⟩ hk hf ha
        have kn := K1 (ib 3 _ R)
        exact kn.g (L.fa fa30_3 Y R R (L.nil (X.dk kn ⟨im, Sub.fresh ib R, i.u 13 (fun _ => R)⟩)))
       rintro D e s380 ⟨im, ib, i⟩ hk hf ha
       obtain ⟨a376, c376, g12_⟩ := (i.p 12) (ha.at 12 R)
       obtain bx17 := (i.p 14) hk
       have kn := K2 ((i.p 13) (ha.at 13 R)) g12_
       exact kn.g (L.st (c := [.slice a376 x375.length c376]) (cs' := #[.slice a16 r13.length c16, .int .i64 0, .slice a253 l252.length c253, .slice a376 x375.length c376]) bx17 nag28.sz Y R R R R R (nb R) R fun s381 m382 bx17 => L.nil (X.dn kn ⟨im.trans (m382.one (.inl R)), ib, (((((i.u 8 (fun z => let ⟨b367, o367, q, me367, sp367⟩ := (i.p 8) z; ⟨b367, o367, q, (me367.mv m382 (tq R)), sp367⟩)).u 11 (fun z => let ⟨b371, q, h371⟩ := (i.p 11) z; ⟨b371, q, (h371.mono (m382.le (tg0 hN)))⟩)).u 14 (fun z => Bool.noConfusion (show true = false from z))).u 15 (fun _ _ _ q12 => by cases g12_.symm.trans q12; exact bx17)).u 16 (fun z2 => (((i.p 16) z2).mv m382 (tq R) (tg0 hN)))).u 17 (fun z a376 c376 q12 => (((i.p 17) z a376 c376 q12).mv m382 (tq R) (tg0 hN)))⟩))
      rintro D e s383 hD ⟨im, ib, i⟩
      obtain ⟨a376, c376, g12_⟩ := (i.p 12) (hD 12 R)
      obtain bx17 := (i.p 15) (hD 14 R) a376 c376 g12_
      obtain h376 := (i.p 17) (hD 12 R) a376 c376 g12_
      have h353 := h353.mv im (nor (tq R) (tq R)) (nor (tg0 hN) (tg0 hN))
      have h25 := h25.mv im (nor (tq R) (tq R)) (nor (tg0 hN) (tg0 hN))
      have h267 := h267.mono (im.le (nor (tg0 hN) (tg0 hN)))
      have h16 := h16.mv im (nor (tq R) (tq R)) (nor (tg0 hN) (tg0 hN))
      have h253 := h253.mv im (nor (tq R) (tq R)) (nor (tg0 hN) (tg0 hN))
      have bx10 := bx10.mv im (nor (tq R) (tq R))
      have bx7 := bx7.mv im (nor (tq R) (tq R))
      have h1 := h1.mono (im.le (nor (tg0 hN) (tg0 hN)))
      have h2 := h2.mono (im.le (nor (tg0 hN) (tg0 hN)))
      have h3 := h3.mono (im.le (nor (tg0 hN) (tg0 hN)))
      have m0 := m0.trans (im.weak fun _ e => by rcases e with e | e; (rw [e]; exact up); (rw [e]; exact up))
      refine X.sub (e' := [(6, .slice a353 l352.length c353), (4, .slice (some ⟨b25, 0, none⟩) l354.length x24.length), (65, .int .i64 st336.1), (64, .int .i64 (r264.length : Int)), (63, .slice a267 r264.length c267), (7, .int .i64 st238.1), (3, .pointer (some ⟨b17, 0, none⟩)), (2, .pointer (some ⟨b10, 0, none⟩)), (1, .pointer (some ⟨b7, 0, none⟩))]) ?_ (Sub.cons (ib 6 _ R) (Sub.cons (ib 4 _ R) (Sub.cons (ib 65 _ R) (Sub.cons (ib 64 _ R) (Sub.cons (ib 63 _ R) (Sub.cons (ib 7 _ R) (Sub.cons (ib 3 _ R) (Sub.cons (ib 2 _ R) (Sub.cons (ib 1 _ R) Sub.nil)))))))))
      exact X.blkN (X.seqN (E.reg (L.bi Y R R R R (L.mv Y R R (L.nil (X.sub (ih336 _ (oi hm).symm _ _ ⟨s383, a353, c353, a376, c376, m0, h267, h353, h25, h1, h2, h3, h16, h253, h376, bx7, bx10, bx17, R, R⟩) (Sub.rf R)))))))
     intro Jj356
     refine ER (L.mv Y R R (L.fa fa62_2 Y R R (L.ld (j := 2) bx347.mem nag3 Y R R R R ?_)))
     obtain ⟨x384, ex384, hm⟩ := bindS hm
     refine L.ir (r := qI) sl27 h25 Y R R ex384 R fun b385 o385 cc385 me385 rd385 sp385 => ?_
     obtain rfl := rd385
     refine L.ld (j := 0) me385 nag3 Y R R R R (L.bi Y R R R R (L.nil (X.seqN ?_)))
     rcases ifS hm with ⟨hc, hm⟩ | ⟨hc, hm⟩
     ·refine E.cT R hc (ER (L.mv Y R R (L.fa fa62_2 Y R R (L.ld (j := 2) bx347.mem nag3 Y R R R R (L.mv Y R R (L.len sl27 Y R R ?_))))))
      obtain ⟨x386, ex386, hm⟩ := bindS hm
      refine L.ir (r := qI) sl27 h25 Y R R ex386 R fun b387 o387 cc387 me387 rd387 sp387 => ?_
      obtain rfl := rd387
      obtain ⟨x388, ex388, hm⟩ := bindS hm
      have elx388 := upd_len ex388
      refine L.su (fo := 0) (c := [.int .i64 (st336.2.1.length : Int)]) (z := (st336.2.1.length : Int)) h25 sp387 ex386 ex388 (tgp hN) nag3.sz Y R R R R R R (fun c0 hc0 => by obtain rfl := hc0; exact R) fun s389 m390 h25 => ?_
      replace bx347 := bx347.mv m390 (tq R)
      refine L.reval (d := 4) R elx388 (LN (E.reg (L.mv Y R R (L.fa fa62_2 Y R R (L.ld (j := 2) bx347.mem nag3 Y R R R R (L.bsE (k := 1) (cs := [.int .i64 x345.2.2]) 0 bs27 (nb R) Y R R R R fun b391 s392 m393 bx391 => ?_))))))
      replace h273 := (h273.mv m390 (tq R) (tg0 hN)).mv m393 no_No no_No
      have h391 := Bx.rdL (r := qI) (xs := ([x345.2.2] : List Int)) bx391 ⟨[.int .i64 x345.2.2], _, R, R, R⟩ (nb R)
      obtain ⟨x394, ex394, hm⟩ := bindS hm
      refine L.ap (r := qI) Tryz.underlying27 el3 R (tgp hN) h273 h391.wk Y R R ex394 R fun a395 c395 s396 m397 h395 => ?_
      replace m0 := ((m0.trans (m390.one up)).trans m393.no).trans (m397.one up)
      replace h25 := (h25.mv m393 no_No no_No).mv m397 (tq R) (tg0 hN)
      replace h267 := ((h267.mono (m390.le (tg0 hN))).mono m393.z).mono (m397.le (tg0 hN))
      replace bx7 := ((bx7.mv m390 (tq R)).mv m393 no_No).mv m397 (tq R)
      replace h1 := ((h1.mono (m390.le (tg0 hN))).mono m393.z).mono (m397.le (tg0 hN))
      replace h2 := ((h2.mono (m390.le (tg0 hN))).mono m393.z).mono (m397.le (tg0 hN))
      replace h3 := ((h3.mono (m390.le (tg0 hN))).mono m393.z).mono (m397.le (tg0 hN))
      replace bx10 := ((bx10.mv m390 (tq R)).mv m393 no_No).mv m397 (tq R)
      replace bx17 := ((bx17.mv m390 (tq R)).mv m393 no_No).mv m397 (tq R)
      replace h16 := ((h16.mv m390 (tq R) (tg0 hN)).mv m393 no_No no_No).mv m397 (tq R) (tg0 hN)
      replace h253 := ((h253.mv m390 (tq R) (tg0 hN)).mv m393 no_No no_No).mv m397 (tq R) (tg0 hN)
      replace h276 := ((h276.mv m390 (tq R) (tg0 hN)).mv m393 no_No no_No).mv m397 (tq R) (tg0 hN)
      replace bx347 := (bx347.mv m393 no_No).mv m397 (tq R)
      exact L.as Y R R (L.nil (X.sub (Jj356 _ _ ⟨s396, x394, x388, a395, c395, hm, m0, h395, h25, h267, h1, h2, h3, h16, h253, h276, bx7, bx10, bx17, bx347, R, R⟩) (Sub.rf R)))
     exact E.cF R hc (E.skip (X.sub (Jj356 _ _ ⟨s350, st336.2.1, st336.2.2.1, a273, c273, hm, m0, h273, h25, h267, h1, h2, h3, h16, h253, h276, bx7, bx10, bx17, bx347, R, R⟩) (Sub.rf R)))
    refine E.cF R hc (E.exit (X.seqX (X.seqX ?_)))
    have hx := ho336 _ (oi hm).symm
    subst hx
    exact X.sub (K344 _ _ ⟨s342, a273, c273, a276, c276, m0, h273, h25, h1, h2, h3, h16, h253, h276, bx7, bx10, bx17, R, R⟩) (Sub.rf R)
   intro Jj255
   refine E.seq ?_
   obtain ⟨x403, ex403, hm⟩ := bindS hm
   obtain ⟨r407, er407, hm⟩ := bindS hm
   refine E.draw [[], [0], [], [], [2, 3], [2, 3, 4], [0, 1, 2, 3, 4, 5], [0, 1, 2, 3, 4, 5, 6], [0, 1, 2, 3, 4, 5, 6, 7], [0, 1, 2, 3, 4, 5, 6, 7], [0, 1, 2, 3, 4, 5, 6, 7, 8], [0, 1, 2, 3, 4, 5, 6, 7, 8, 9, 10]] (fun D e sx => Mv No s245 sx ∧ Sub [(7, .int .i64 st238.1), (6, .slice a51 st238.2.1.length c51), (4, .slice (some ⟨b25, 0, none⟩) st238.2.2.1.length x24.length), (3, .pointer (some ⟨b17, 0, none⟩)), (2, .pointer (some ⟨b10, 0, none⟩)), (1, .pointer (some ⟨b7, 0, none⟩))] e ∧ AllP [G D e 0 42 (.pointer (some ⟨b7, 2, none⟩)), G D e 1 43 (.slice a2 p0.2.2.1.length c2), G D e 2 44 (.slice a51 st238.2.1.length c51), G D e 3 45 (.int .i64 st238.1), D 4 = true → (∃ (b404 : Nat) (o404 : Nat), Env.get e 46 = some (.pointer (some ⟨b404, o404, none⟩)) ∧ Mem sx (N + 7) b404 o404 [.int .i64 x403] ∧ Spot a51 qI.sz (st238.1).toNat b404 o404), G D e 5 47 (.int .i64 x403), G D e 6 48 (.tuple #[.int .i64 r407.1, .bool r407.2]), G D e 7 41 (.tuple #[.int .i64 r407.1, .bool r407.2]), G D e 8 49 (.int .i64 r407.1), G D e 9 50 (.bool r407.2), G D e 10 8 (.int .i64 r407.1), G D e 11 9 (.bool r407.2)]) (by kernel_rfl) (by kernel_rfl) (by kernel_rfl) ?_ ?_ ?_
   ·intro sz mz
    exact ⟨mz, (Sub.rf R), nofun, nofun, nofun, nofun, nofun, nofun, nofun, nofun, nofun, nofun, nofun, nofun, trivial⟩
   ·refine ⟨?_, ?_, ?_, ?_, ?_, ?_, ?_, ?_, ?_, ?_, ?_, ?_, trivial⟩
    ·rintro D e s398 ⟨im, ib, i⟩ hk hf ha
     have kn := K1 (ib 1 _ R)
     exact kn.g (L.fa fa30_2 Y R R (L.nil (X.dk kn ⟨im, Sub.fresh ib R, i.u 0 (fun _ => R)⟩)))
    ·rintro D e s399 ⟨im, ib, i⟩ hk hf ha
     have bx7 := bx7.mv im no_No
     have kn := K1 ((i.p 0) (ha.at 0 R))
     exact kn.g (L.ld (j := 2) bx7.mem nag27 Y R R R R (L.nil (X.dk kn ⟨im, Sub.fresh ib R, i.u 1 (fun _ => R)⟩)))
    ·rintro D e s400 ⟨im, ib, i⟩ hk hf ha
     have kn := K1 (ib 6 _ R)
     exact kn.g (L.mv Y R R (L.nil (X.dk kn ⟨im, Sub.fresh ib R, i.u 2 (fun _ => R)⟩)))
    ·rintro D e s401 ⟨im, ib, i⟩ hk hf ha
     have kn := K1 (ib 7 _ R)
     exact kn.g (L.mv Y R R (L.nil (X.dk kn ⟨im, Sub.fresh ib R, i.u 3 (fun _ => R)⟩)))
    ·rintro D e s402 ⟨im, ib, i⟩ hk hf ha
     have h51 := h51.mv im no_No no_No
     have kn := K2 ((i.p 2) (ha.at 2 R)) ((i.p 3) (ha.at 3 R))
     refine kn.g (L.ir (r := qI) sl27 h51 Y R R ex403 R fun b404 o404 cc404 me404 rd404 sp404 => ?_)
     obtain rfl := rd404
     exact L.nil (X.dk kn ⟨im, Sub.fresh ib R, i.u 4 (fun _ => ⟨b404, o404, R, me404, sp404⟩)⟩)
    ·rintro D e s405 ⟨im, ib, i⟩ hk hf ha
     obtain ⟨b404, o404, g4_, me404, sp404⟩ := (i.p 4) (ha.at 4 R)
     have kn := K1 g4_
     exact kn.g (L.ld (j := 0) me404 nag3 Y R R R R (L.nil (X.dk kn ⟨im, Sub.fresh ib R, i.u 5 (fun _ => R)⟩)))
    ·rintro D e s406 ⟨im, ib, i⟩ hk hf ha
     have h2 := h2.mono im.z
     have kn := K2 ((i.p 1) (ha.at 1 R)) ((i.p 5) (ha.at 5 R))
     refine kn.g (L.ca cf66 R R Y R (m_slices_BinarySearch_int_c (s := s406) (p0 := p0.2.2.1) (p1 := x403) h2 er407) R ?_)
     rintro _ s408 m409 rfl
     exact L.nil (X.dk kn ⟨im.trans m409.no, Sub.fresh ib R, (i.u 4 (fun z => let ⟨b404, o404, q, me404, sp404⟩ := (i.p 4) z; ⟨b404, o404, q, (me404.mv m409 no_No), sp404⟩)).u 6 (fun _ => R)⟩)
    ·rintro D e s410 ⟨im, ib, i⟩ hk hf ha
     have kn := K1 ((i.p 6) (ha.at 6 R))
     exact kn.g (L.mv Y R R (L.nil (X.dk kn ⟨im, Sub.fresh ib R, i.u 7 (fun _ => R)⟩)))
    ·rintro D e s411 ⟨im, ib, i⟩ hk hf ha
     have kn := K1 ((i.p 7) (ha.at 7 R))
     exact kn.g (L.ex Y R R R (L.nil (X.dk kn ⟨im, Sub.fresh ib R, i.u 8 (fun _ => R)⟩)))
    ·rintro D e s412 ⟨im, ib, i⟩ hk hf ha
     have kn := K1 ((i.p 7) (ha.at 7 R))
     exact kn.g (L.ex Y R R R (L.nil (X.dk kn ⟨im, Sub.fresh ib R, i.u 9 (fun _ => R)⟩)))
    ·rintro D e s413 ⟨im, ib, i⟩ hk hf ha
     have kn := K1 ((i.p 8) (ha.at 8 R))
     exact kn.g (L.as Y R R (L.nil (X.dk kn ⟨im, Sub.fresh ib R, i.u 10 (fun _ => R)⟩)))
    rintro D e s414 ⟨im, ib, i⟩ hk hf ha
    have kn := K1 ((i.p 9) (ha.at 9 R))
    exact kn.g (L.as Y R R (L.nil (X.dk kn ⟨im, Sub.fresh ib R, i.u 11 (fun _ => R)⟩)))
   rintro D e s415 hD ⟨im, ib, i⟩
   have g11_ := (i.p 11) (hD 11 R)
   have h51 := h51.mv im no_No no_No
   have h25 := h25.mv im no_No no_No
   have bx17 := bx17.mv im no_No
   have h16 := h16.mv im no_No no_No
   have h54 := h54.mv im no_No no_No
   have h56 := h56.mv im no_No no_No
   have bx10 := bx10.mv im no_No
   have bx7 := bx7.mv im no_No
   have h1 := h1.mono im.z
   have h2 := h2.mono im.z
   have h3 := h3.mono im.z
   have m0 := m0.trans im.no
   refine X.sub (e' := [(9, .bool r407.2), (7, .int .i64 st238.1), (6, .slice a51 st238.2.1.length c51), (4, .slice (some ⟨b25, 0, none⟩) st238.2.2.1.length x24.length), (3, .pointer (some ⟨b17, 0, none⟩)), (2, .pointer (some ⟨b10, 0, none⟩)), (1, .pointer (some ⟨b7, 0, none⟩))]) ?_ (Sub.cons g11_ (Sub.cons (ib 7 _ R) (Sub.cons (ib 6 _ R) (Sub.cons (ib 4 _ R) (Sub.cons (ib 3 _ R) (Sub.cons (ib 2 _ R) (Sub.cons (ib 1 _ R) Sub.nil)))))))
   refine X.seqN (ER (L.mv Y R R (L.nil (X.seqN ?_))))
   rcases ifS hm with ⟨hc, hm⟩ | ⟨hc, hm⟩
   ·refine E.cT R hc (E.reg (L.fa fa30_2 Y R R (L.ld (j := 2) bx17.mem nag27 Y R R R R (L.mv Y R R (L.bsE (k := 1) (cs := [.int .i64 st238.1]) 0 bs27 (nb R) Y R R R R fun b416 s417 m418 bx416 => ?_)))))
    replace h54 := h54.mv m418 no_No no_No
    have h416 := Bx.rdL (r := qI) (xs := ([st238.1] : List Int)) bx416 ⟨[.int .i64 st238.1], _, R, R, R⟩ (nb R)
    obtain ⟨x419, ex419, hm⟩ := bindS hm
    refine L.ap (r := qI) Tryz.underlying27 el3 R (tgp hN) h54 h416.wk Y R R ex419 R fun a420 c420 s421 m422 h420 => ?_
    replace bx17 := (bx17.mv m418 no_No).mv m422 (tq R)
    refine L.fa fa30_2 Y R R (L.st (c := [.slice a420 x419.length c420]) (cs' := #[.slice a16 r13.length c16, .int .i64 0, .slice a420 x419.length c420, .slice a56 st238.2.2.2.2.length c56]) bx17 nag27.sz Y R R R R R (nb R) R fun s423 m424 bx17 => ?_)
    replace m0 := ((m0.trans m418.no).trans (m422.one up)).trans (m424.one up)
    replace h25 := ((h25.mv m418 no_No no_No).mv m422 (tq R) (tg0 hN)).mv m424 (tq R) (tg0 hN)
    replace h51 := ((h51.mv m418 no_No no_No).mv m422 (tq R) (tg0 hN)).mv m424 (tq R) (tg0 hN)
    replace bx7 := ((bx7.mv m418 no_No).mv m422 (tq R)).mv m424 (tq R)
    replace h1 := ((h1.mono m418.z).mono (m422.le (tg0 hN))).mono (m424.le (tg0 hN))
    replace h2 := ((h2.mono m418.z).mono (m422.le (tg0 hN))).mono (m424.le (tg0 hN))
    replace h3 := ((h3.mono m418.z).mono (m422.le (tg0 hN))).mono (m424.le (tg0 hN))
    replace bx10 := ((bx10.mv m418 no_No).mv m422 (tq R)).mv m424 (tq R)
    replace h16 := ((h16.mv m418 no_No no_No).mv m422 (tq R) (tg0 hN)).mv m424 (tq R) (tg0 hN)
    replace h420 := h420.mv m424 (tq R) (tg0 hN)
    replace h56 := ((h56.mv m418 no_No no_No).mv m422 (tq R) (tg0 hN)).mv m424 (tq R) (tg0 hN)
    exact L.nil (X.sub (Jj255 _ _ ⟨s423, x419, a420, c420, hm, m0, h51, h25, h1, h2, h3, h16, h420, h56, bx7, bx10, bx17, R, R⟩) (Sub.rf R))
   exact E.cF R hc (E.skip (X.sub (Jj255 _ _ ⟨s415, st238.2.2.2.1, a54, c54, hm, m0, h51, h25, h1, h2, h3, h16, h54, h56, bx7, bx10, bx17, R, R⟩) (Sub.rf R)))
  refine E.cF R hc (E.exit (X.seqX (X.seqX ?_)))
  have hx := ho238 _ (oi hm).symm
  subst hx
  exact X.sub (K251 _ _ ⟨s245, a51, c51, a54, c54, a56, c56, m0, h51, h16, h54, h56, bx10, bx17, R, R⟩) (Sub.rf R)
 intro K425
 refine E.iter (fun (st37 : Int × List Int) (e : List (Nat × Value)) (w : World) => ∃ (s39 : Sig), Mv (Up N No) s s39 ∧ RowT qI s39 (N + 4) 3 (some ⟨b25, 0, none⟩) x24.length st37.2 ∧ RdL qI s39 a1 c1 p0.1 ∧ RdL qI s39 a2 c2 p0.2.2.1 ∧ RdL qT s39 a3 c3 p0.2.2.2 ∧ RowT qI s39 (N + 3) 3 a16 c16 r13 ∧ Bx s39 (N + 0) b7 #[.slice a1 p0.1.length c1, .int .i64 p0.2.1, .slice a2 p0.2.2.1.length c2, .slice a3 p0.2.2.2.length c3] 30 ∧ Bx s39 (N + 1) b10 #[.slice none 0 0, .int .i64 0, .slice none 0 0, .slice none 0 0] 30 ∧ Bx s39 (N + 2) b17 #[.slice a16 r13.length c16, .int .i64 0, .slice none 0 0, .slice none 0 0] 30 ∧ e = [(25, .int .i64 st37.1), (24, .int .i64 (x24.length : Int)), (4, .slice (some ⟨b25, 0, none⟩) st37.2.length x24.length), (3, .pointer (some ⟨b17, 0, none⟩)), (2, .pointer (some ⟨b10, 0, none⟩)), (1, .pointer (some ⟨b7, 0, none⟩))] ∧ w = s39.w) eo37 ⟨s26, m0, h25, h1, h2, h3, h16, bx7, bx10, bx17, R, R⟩ (Sub.rf R) ?_
 rintro st37 res37 hm ih37 ho37 _ _ ⟨s39, m0, h25, h1, h2, h3, h16, bx7, bx10, bx17, rfl, rfl⟩
 unfold m_automaton_canonical_l1 at hm
 refine ER (L.bi Y R R R R (LN (E.seq ?_)))
 rcases ifS hm with ⟨hc, hm⟩ | ⟨hc, hm⟩
 ·refine E.cT R hc (E.skip (X.seqN (E.seq (E.block (ER (L.mv Y R R (L.as Y R R (LN (E.reg (L.mv Y R R (L.mv Y R R ?_)))))))))))
  obtain ⟨x426, ex426, hm⟩ := bindS hm
  refine L.ir (r := qI) sl27 h25 Y R R ex426 R fun b427 o427 cc427 me427 rd427 sp427 => ?_
  obtain rfl := rd427
  obtain ⟨x428, ex428, hm⟩ := bindS hm
  have elx428 := upd_len ex428
  refine L.su (fo := 0) (c := [.int .i64 (-1)]) (z := (-1)) h25 sp427 ex426 ex428 (tgp hN) nag3.sz Y R R R R R R (fun c0 hc0 => by obtain rfl := hc0; exact R) fun s429 m430 h25 => ?_
  replace m0 := m0.trans (m430.one up)
  replace bx7 := bx7.mv m430 (tq R)
  replace h1 := h1.mono (m430.le (tg0 hN))
  replace h2 := h2.mono (m430.le (tg0 hN))
  replace h3 := h3.mono (m430.le (tg0 hN))
  replace bx10 := bx10.mv m430 (tq R)
  replace bx17 := bx17.mv m430 (tq R)
  replace h16 := h16.mv m430 (tq R) (tg0 hN)
  exact L.reval (d := 4) R elx428 (L.nil (X.blkN (X.seqN (E.reg (L.bi Y R R R R (L.mv Y R R (L.nil (X.sub (ih37 _ (oi hm).symm _ _ ⟨s429, m0, h25, h1, h2, h3, h16, bx7, bx10, bx17, R, R⟩) (Sub.rf R)))))))))
 refine E.cF R hc (E.exit (X.seqX (X.seqX ?_)))
 have hx := ho37 _ (oi hm).symm
 subst hx
 exact X.sub (K425 _ _ ⟨s39, m0, h25, h1, h2, h3, h16, bx7, bx10, bx17, R, R⟩) (Sub.rf R)

theorem cf32 : Cf Tryz.prog 32 := Cf.mk Tryz.func32 (by kernel_rfl) (by kernel_rfl)
noncomputable def m_automaton_Closed_l1 (r18 : AutT) (st46 : Int × List Int) : Option ((Int × List Int) ⊕ (List Int)) :=
 if decide (st46.1 < r18.2.1) then
  (app st46.2 ([st46.1] : List Int)).bind fun x57 =>
  some (.inl (W (st46.1 + 1), x57))
 else
  some (.inr st46.2)
noncomputable def m_automaton_Closed (p0 : AutT) : Option (AutT × Int) :=
 (m_automaton_Check p0).bind fun r13 =>
 if (r13 != 0) then
  some ((([] : List Int), 0, ([] : List Int), ([] : List (Int × Int × Int))), r13)
 else
  (m_automaton_canonical p0).bind fun r18 =>
  (iter (m_automaton_Closed_l1 r18) (0, ([] : List Int))).bind fun o46 =>
  some ((r18.1, r18.2.1, o46, r18.2.2.2), 0)
theorem m_automaton_Closed_c {s : Sig} {p0 : AutT} {a1 : Option Addr} {c1 : Nat} {a2 : Option Addr} {c2 : Nat} {a3 : Option Addr} {c3 : Nat} {u0 : Nat} {u1 : Nat} {u2 : Nat} {r : AutT × Int} (h1 : RdL qI s a1 c1 p0.1) (h2 : RdL qI s a2 c2 p0.2.2.1) (h3 : RdL qT s a3 c3 p0.2.2.2) (hm : m_automaton_Closed p0 = some r) :
    Calls Tryz.prog 9 #[.agg #[.slice a1 p0.1.length c1, .int .i64 p0.2.1, .slice a2 p0.2.2.1.length c2, .slice a3 p0.2.2.2.length c3]] s.w (RetS No s fun v s' => ∃ (a4 : Option Addr) (c4 : Nat) (a5 : Option Addr) (c5 : Nat) (a6 : Option Addr) (c6 : Nat), v = .tuple #[.agg #[.slice a4 r.1.1.length c4, .int .i64 r.1.2.1, .slice a5 r.1.2.2.1.length c5, .slice a6 r.1.2.2.2.length c6], .int .i64 r.2] ∧ RowT qI s' u0 3 a4 c4 r.1.1 ∧ RowT qI s' u1 3 a5 c5 r.1.2.2.1 ∧ RowT qT s' u2 62 a6 c6 r.1.2.2.2) := by
 unfold m_automaton_Closed at hm
 obtain ⟨N, hN, hNb⟩ := s.fresh
 have m0 : Mv (Up N No) s s := Mv.refl _ _
 refine E.entry Tryz.func9 R Tryz.ntmps9 R R (ER (L.box (N + 0) Y R R R fun b7 s8 m9 bx7 => ?_))
 refine L.al (N + 1) zz30 R Y R fun b10 s11 m12 bx10 => ?_
 replace bx7 := bx7.mv m12 no_No
 replace h1 := (h1.mono m9.z).mono m12.z
 replace h2 := (h2.mono m9.z).mono m12.z
 replace h3 := (h3.mono m9.z).mono m12.z
 refine L.as Y R R (LN (E.seq (ER (L.lg (j := 0) (cs := [.slice a1 p0.1.length c1, .int .i64 p0.2.1, .slice a2 p0.2.2.1.length c2, .slice a3 p0.2.2.2.length c3]) bx7.mem ag30 Y R R R R R ?_))))
 obtain ⟨r13, er13, hm⟩ := bindS hm
 refine L.ca cf16 R R Y R (m_automaton_Check_c (s := s11) (p0 := p0) h1 h2 h3 er13) R ?_
 rintro _ s14 m15 rfl
 replace m0 := ((m0.trans m9.no).trans m12.no).trans m15.no
 replace bx7 := bx7.mv m15 no_No
 replace h1 := h1.mono m15.z
 replace h2 := h2.mono m15.z
 replace h3 := h3.mono m15.z
 replace bx10 := bx10.mv m15 no_No
 refine L.as Y R R (LN (ER (L.mv Y R R (L.bi Y R R R R (L.nil (X.seqN ?_))))))
 rcases ifS hm with ⟨hc, hm⟩ | ⟨hc, hm⟩
 ·refine E.cT R hc (ER (L.bu (cs := [.slice none 0 0, .int .i64 0, .slice none 0 0, .slice none 0 0]) pl30 Y R R R (L.mv Y R R (L.st (c := [.slice none 0 0, .int .i64 0, .slice none 0 0, .slice none 0 0]) (cs' := #[.slice none 0 0, .int .i64 0, .slice none 0 0, .slice none 0 0]) bx10 ag30.sz Y R R R R R (nb R) R fun s16 m17 bx10 => ?_))))
  replace m0 := m0.trans (m17.one up)
  refine L.as Y R R (LN (E.ret (X.seqR ?_)))
  obtain rfl := oi hm
  exact X.rt (.inl R) Tryz.results9 (Rs.cell R bx10 ag30 R (Rs.tmp R Rs.nil)) R ⟨_, (s16).ren N (fun _ => 0), R, R, m0.ren hNb, ⟨none, 0, none, 0, none, 0, R, RowT.nil, RowT.nil, RowT.nil⟩⟩
 refine E.cF R hc (E.skip (X.seqN (ER (L.lg (j := 0) (cs := [.slice a1 p0.1.length c1, .int .i64 p0.2.1, .slice a2 p0.2.2.1.length c2, .slice a3 p0.2.2.2.length c3]) bx7.mem ag30 Y R R R R R ?_))))
 obtain ⟨r18, er18, hm⟩ := bindS hm
 refine L.ca cf32 R R Y R (m_automaton_canonical_c (s := s14) (p0 := p0) (u0 := (N + 4)) (u1 := 0) (u2 := (N + 5)) h1 h2 h3 er18) R ?_
 rintro _ s19 m20 ⟨a21, c21, a22, c22, a23, c23, rfl, h21, h22, h23⟩
 replace h22 := h22.p
 refine L.al (N + 2) zz30 R Y R fun b24 s25 m26 bx24 => ?_
 refine L.st (c := [.slice a21 r18.1.length c21, .int .i64 r18.2.1, .slice a22 r18.2.2.1.length c22, .slice a23 r18.2.2.2.length c23]) (cs' := #[.slice a21 r18.1.length c21, .int .i64 r18.2.1, .slice a22 r18.2.2.1.length c22, .slice a23 r18.2.2.2.length c23]) bx24 ag30.sz Y R R R R R (nb R) R fun s27 m28 bx24 => ?_
 refine LN (ER (L.fa fa30_2 Y R R (L.st (c := [.slice none 0 0]) (cs' := #[.slice a21 r18.1.length c21, .int .i64 r18.2.1, .slice none 0 0, .slice a23 r18.2.2.2.length c23]) bx24 nag27.sz Y R R R R R (nb R) R fun s29 m30 bx24 => ?_)))
 replace m0 := (((m0.trans m20.no).trans m26.no).trans (m28.one up)).trans (m30.one up)
 replace bx10 := (((bx10.mv m20 no_No).mv m26 no_No).mv m28 (tq R)).mv m30 (tq R)
 replace h21 := ((h21.mv m26 no_No no_No).mv m28 (tq R) (tg0 hN)).mv m30 (tq R) (tg0 hN)
 replace h23 := ((h23.mv m26 no_No no_No).mv m28 (tq R) (tg0 hN)).mv m30 (tq R) (tg0 hN)
 refine LN (E.seq (ER (L.fa fa30_1 Y R R (L.ld (j := 1) bx24.mem nag3 Y R R R R (L.mv Y R R (LN (E.block ?_)))))))
 obtain ⟨o46, eo46, hm⟩ := bindS hm
 refine E.cut (x := .exit 0) (fun e w => ∃ (s50 : Sig) (a48 : Option Addr) (c48 : Nat), Mv (Up N No) s s50 ∧ RowT qI s50 (N + 4) 3 a21 c21 r18.1 ∧ RowT qI s50 (N + 3) 3 a48 c48 o46 ∧ RowT qT s50 (N + 5) 62 a23 c23 r18.2.2.2 ∧ Bx s50 (N + 1) b10 #[.slice none 0 0, .int .i64 0, .slice none 0 0, .slice none 0 0] 30 ∧ Bx s50 (N + 2) b24 #[.slice a21 r18.1.length c21, .int .i64 r18.2.1, .slice a48 o46.length c48, .slice a23 r18.2.2.2.length c23] 30 ∧ e = [(5, .pointer (some ⟨b24, 0, none⟩)), (2, .pointer (some ⟨b10, 0, none⟩))] ∧ w = s50.w) ?_ ?_
 ·rintro _ _ ⟨s50, a48, c48, m0, h21, h48, h23, bx10, bx24, rfl, rfl⟩
  refine X.blkE (X.seqN (ER (L.lg (j := 0) (cs := [.slice a21 r18.1.length c21, .int .i64 r18.2.1, .slice a48 o46.length c48, .slice a23 r18.2.2.2.length c23]) bx24.mem ag30 Y R R R R R (L.st (c := [.slice a21 r18.1.length c21, .int .i64 r18.2.1, .slice a48 o46.length c48, .slice a23 r18.2.2.2.length c23]) (cs' := #[.slice a21 r18.1.length c21, .int .i64 r18.2.1, .slice a48 o46.length c48, .slice a23 r18.2.2.2.length c23]) bx10 ag30.sz Y R R R R R (nb R) R fun s51 m52 bx10 => ?_))))
  replace m0 := m0.trans (m52.one up)
  replace h21 := h21.mv m52 (tq R) (tg0 hN)
  replace h48 := h48.mv m52 (tq R) (tg0 hN)
  replace h23 := h23.mv m52 (tq R) (tg0 hN)
  refine L.as Y R R (LN (E.ret ?_))
  obtain rfl := oi hm
  exact X.rt (.inl R) Tryz.results9 (Rs.cell R bx10 ag30 R (Rs.tmp R Rs.nil)) R ⟨_, (s51).ren N (fun k => cond (Nat.beq k 5) u2 (cond (Nat.beq k 4) u0 (cond (Nat.beq k 3) u1 (0)))), R, R, m0.ren hNb, ⟨a21, c21, a48, c48, a23, c23, R, (h21.ren hN), (h48.ren hN), (h23.ren hN)⟩⟩
 intro K53
 refine E.iter (fun (st46 : Int × List Int) (e : List (Nat × Value)) (w : World) => ∃ (s49 : Sig) (a33 : Option Addr) (c33 : Nat), Mv (Up N No) s s49 ∧ RowT qI s49 (N + 4) 3 a21 c21 r18.1 ∧ RowT qI s49 (N + 3) 3 a33 c33 st46.2 ∧ RowT qT s49 (N + 5) 62 a23 c23 r18.2.2.2 ∧ Bx s49 (N + 1) b10 #[.slice none 0 0, .int .i64 0, .slice none 0 0, .slice none 0 0] 30 ∧ Bx s49 (N + 2) b24 #[.slice a21 r18.1.length c21, .int .i64 r18.2.1, .slice a33 st46.2.length c33, .slice a23 r18.2.2.2.length c23] 30 ∧ e = [(18, .int .i64 st46.1), (17, .int .i64 r18.2.1), (5, .pointer (some ⟨b24, 0, none⟩)), (2, .pointer (some ⟨b10, 0, none⟩))] ∧ w = s49.w) eo46 ⟨s29, none, 0, m0, h21, RowT.nil, h23, bx10, bx24, R, R⟩ (Sub.rf R) ?_
 rintro st46 res46 hm ih46 ho46 _ _ ⟨s49, a33, c33, m0, h21, h33, h23, bx10, bx24, rfl, rfl⟩
 unfold m_automaton_Closed_l1 at hm
 refine ER (L.bi Y R R R R (LN (E.seq ?_)))
 rcases ifS hm with ⟨hc, hm⟩ | ⟨hc, hm⟩
 ·refine E.cT R hc (E.skip (X.seqN (E.seq (E.block (ER (L.mv Y R R (L.as Y R R (LN (E.reg (L.fa fa30_2 Y R R (L.ld (j := 2) bx24.mem nag27 Y R R R R (L.mv Y R R (L.bsE (k := 1) (cs := [.int .i64 st46.1]) 0 bs27 (nb R) Y R R R R fun b54 s55 m56 bx54 => ?_)))))))))))))
  replace h33 := h33.mv m56 no_No no_No
  have h54 := Bx.rdL (r := qI) (xs := ([st46.1] : List Int)) bx54 ⟨[.int .i64 st46.1], _, R, R, R⟩ (nb R)
  obtain ⟨x57, ex57, hm⟩ := bindS hm
  refine L.ap (r := qI) Tryz.underlying27 el3 R (tgp hN) h33 h54.wk Y R R ex57 R fun a58 c58 s59 m60 h58 => ?_
  replace bx24 := (bx24.mv m56 no_No).mv m60 (tq R)
  refine L.fa fa30_2 Y R R (L.st (c := [.slice a58 x57.length c58]) (cs' := #[.slice a21 r18.1.length c21, .int .i64 r18.2.1, .slice a58 x57.length c58, .slice a23 r18.2.2.2.length c23]) bx24 nag27.sz Y R R R R R (nb R) R fun s61 m62 bx24 => ?_)
  replace m0 := ((m0.trans m56.no).trans (m60.one up)).trans (m62.one up)
  replace bx10 := ((bx10.mv m56 no_No).mv m60 (tq R)).mv m62 (tq R)
  replace h21 := ((h21.mv m56 no_No no_No).mv m60 (tq R) (tg0 hN)).mv m62 (tq R) (tg0 hN)
  replace h58 := h58.mv m62 (tq R) (tg0 hN)
  replace h23 := ((h23.mv m56 no_No no_No).mv m60 (tq R) (tg0 hN)).mv m62 (tq R) (tg0 hN)
  exact L.nil (X.blkN (X.seqN (E.reg (L.bi Y R R R R (L.mv Y R R (L.nil (X.sub (ih46 _ (oi hm).symm _ _ ⟨s61, a58, c58, m0, h21, h58, h23, bx10, bx24, R, R⟩) (Sub.rf R))))))))
 refine E.cF R hc (E.exit (X.seqX (X.seqX ?_)))
 have hx := ho46 _ (oi hm).symm
 subst hx
 exact X.sub (K53 _ _ ⟨s49, a33, c33, m0, h21, h33, h23, bx10, bx24, R, R⟩) (Sub.rf R)

end Go.Proofs.YtfbapajcheammaaGreatDoor

namespace Go.Proofs.YtfbapajcheammaaGreatDoor
open Go Go.RowKit
noncomputable def m_blocking_Escape_j1 (st35 : Int × List Int) (l46 : List Int) : Option ((Int × List Int) ⊕ (List Int)) :=
 some (.inl (W (st35.1 + 1), l46))
noncomputable def m_blocking_Escape_l1 (p1 : Int) (r12 : List Int) (st35 : Int × List Int) : Option ((Int × List Int) ⊕ (List Int)) :=
 if decide (st35.1 < (r12.length : Int)) then
  (idx r12 st35.1).bind fun x50 =>
  if (x50 == p1) then
   (app st35.2 ([st35.1] : List Int)).bind fun x55 =>
   m_blocking_Escape_j1 st35 x55
  else
   m_blocking_Escape_j1 st35 st35.2
 else
  some (.inr st35.2)
noncomputable def m_blocking_Escape (p0 : AutT) (p1 : Int) : Option (List Int × Bool × Int) :=
 (m_automaton_Check p0).bind fun r8 =>
 if (r8 != 0) then
  some (([] : List Int), false, r8)
 else
  if ((decide (p1 < 1)) || (decide (p1 > 5))) then
   some (([] : List Int), false, 11)
  else
   (m_blocking_kinds p0).bind fun r12 =>
   (iter (m_blocking_Escape_l1 p1 r12) (0, ([] : List Int))).bind fun o35 =>
   (m_blocking_path p0 0 o35).bind fun r41 =>
   some (r41.1, r41.2, 0)
theorem m_blocking_Escape_c {s : Sig} {p0 : AutT} {p1 : Int} {a1 : Option Addr} {c1 : Nat} {a2 : Option Addr} {c2 : Nat} {a3 : Option Addr} {c3 : Nat} {r : List Int × Bool × Int} (h1 : RdL qI s a1 c1 p0.1) (h2 : RdL qI s a2 c2 p0.2.2.1) (h3 : RdL qT s a3 c3 p0.2.2.2) (hm : m_blocking_Escape p0 p1 = some r) :
    Calls Tryz.prog 11 #[.agg #[.slice a1 p0.1.length c1, .int .i64 p0.2.1, .slice a2 p0.2.2.1.length c2, .slice a3 p0.2.2.2.length c3], .int .i64 p1] s.w (RetS No s fun v s' => ∃ (a4 : Option Addr) (c4 : Nat), v = .tuple #[.slice a4 r.1.length c4, .bool r.2.1, .int .i64 r.2.2] ∧ RdL qI s' a4 c4 r.1) := by
 unfold m_blocking_Escape at hm
 obtain ⟨N, hN, hNb⟩ := s.fresh
 have m0 : Mv (Up N No) s s := Mv.refl _ _
 refine E.entry Tryz.func11 R Tryz.ntmps11 R R (ER (L.box (N + 0) Y R R R fun b5 s6 m7 bx5 => ?_))
 replace h1 := h1.mono m7.z
 replace h2 := h2.mono m7.z
 replace h3 := h3.mono m7.z
 refine L.as Y R R (L.as Y R R (L.as Y R R (LN (E.seq (ER (L.lg (j := 0) (cs := [.slice a1 p0.1.length c1, .int .i64 p0.2.1, .slice a2 p0.2.2.1.length c2, .slice a3 p0.2.2.2.length c3]) bx5.mem ag30 Y R R R R R ?_))))))
 obtain ⟨r8, er8, hm⟩ := bindS hm
 refine L.ca cf16 R R Y R (m_automaton_Check_c (s := s6) (p0 := p0) h1 h2 h3 er8) R ?_
 rintro _ s9 m10 rfl
 replace m0 := (m0.trans m7.no).trans m10.no
 replace bx5 := bx5.mv m10 no_No
 replace h1 := h1.mono m10.z
 replace h2 := h2.mono m10.z
 replace h3 := h3.mono m10.z
 refine L.as Y R R (LN (ER (L.mv Y R R (L.bi Y R R R R (L.nil (X.seqN ?_))))))
 rcases ifS hm with ⟨hc, hm⟩ | ⟨hc, hm⟩
 ·refine E.cT R hc (ER (L.mv Y R R (L.as Y R R (L.as Y R R (L.as Y R R (LN (E.ret (X.seqR ?_))))))))
  obtain rfl := oi hm
  exact X.rt (.inl R) Tryz.results11 (Rs.tmp R (Rs.tmp R (Rs.tmp R Rs.nil))) R ⟨_, (s9).ren N (fun _ => 0), R, R, m0.ren hNb, ⟨none, 0, R, RdL.nil⟩⟩
 refine E.cF R hc (E.skip (X.seqN (E.seq (ER (L.mv Y R R (L.bi Y R R R R (L.mv Y R R (L.cut 3 (fun e w => ∃ (v11 : Bool), ((decide (p1 < 1)) || (decide (p1 > 5))) = v11 ∧ e = (21, .bool v11) :: [(2, .pointer (some ⟨b5, 0, none⟩)), (1, .int .i64 p1)] ∧ w = s9.w) ?_ ?_))))))))
 ·rintro _ _ ⟨v11, rfl, rfl, rfl⟩
  refine L.nil (X.seqN ?_)
  rcases ifS hm with ⟨hc, hm⟩ | ⟨hc, hm⟩
  ·refine E.cT R hc (ER (L.as Y R R (L.as Y R R (L.as Y R R (LN (E.ret (X.seqR ?_)))))))
   obtain rfl := oi hm
   exact X.rt (.inl R) Tryz.results11 (Rs.tmp R (Rs.tmp R (Rs.tmp R Rs.nil))) R ⟨_, (s9).ren N (fun _ => 0), R, R, m0.ren hNb, ⟨none, 0, R, RdL.nil⟩⟩
  refine E.cF R hc (E.skip (X.seqN (ER (L.as Y R R (LN (E.seq (ER (L.lg (j := 0) (cs := [.slice a1 p0.1.length c1, .int .i64 p0.2.1, .slice a2 p0.2.2.1.length c2, .slice a3 p0.2.2.2.length c3]) bx5.mem ag30 Y R R R R R ?_))))))))
  obtain ⟨r12, er12, hm⟩ := bindS hm
  refine L.ca cf36 R R Y R (m_blocking_kinds_c (s := s9) (p0 := p0) (u0 := 0) h1 h2 h3 er12) R ?_
  rintro _ s13 m14 ⟨a15, c15, rfl, h15⟩
  replace h15 := h15.p
  replace m0 := m0.trans m14.no
  replace bx5 := bx5.mv m14 no_No
  replace h1 := h1.mono m14.z
  replace h2 := h2.mono m14.z
  replace h3 := h3.mono m14.z
  refine L.len sl27 Y R R (L.mv Y R R (LN (E.block ?_)))
  obtain ⟨o35, eo35, hm⟩ := bindS hm
  refine E.cut (x := .exit 0) (fun e w => ∃ (s39 : Sig) (a37 : Option Addr) (c37 : Nat), Mv (Up N No) s s39 ∧ RowT qI s39 (N + 1) 3 a37 c37 o35 ∧ RdL qI s39 a1 c1 p0.1 ∧ RdL qI s39 a2 c2 p0.2.2.1 ∧ RdL qT s39 a3 c3 p0.2.2.2 ∧ Bx s39 (N + 0) b5 #[.slice a1 p0.1.length c1, .int .i64 p0.2.1, .slice a2 p0.2.2.1.length c2, .slice a3 p0.2.2.2.length c3] 30 ∧ e = [(8, .slice a37 o35.length c37), (2, .pointer (some ⟨b5, 0, none⟩))] ∧ w = s39.w) ?_ ?_
  ·rintro _ _ ⟨s39, a37, c37, m0, h37, h1, h2, h3, bx5, rfl, rfl⟩
   refine X.blkE (X.seqN (ER (L.lg (j := 0) (cs := [.slice a1 p0.1.length c1, .int .i64 p0.2.1, .slice a2 p0.2.2.1.length c2, .slice a3 p0.2.2.2.length c3]) bx5.mem ag30 Y R R R R R (L.mv Y R R ?_))))
   have m40 := Sig.fz_mv (N + 1) s39
   replace h37 := h37.fz (tgn hN)
   replace h1 := h1.mono (m40.le (tg0 hN))
   replace h2 := h2.mono (m40.le (tg0 hN))
   replace h3 := h3.mono (m40.le (tg0 hN))
   refine L.toR (s' := (Sig.fz (N + 1) s39)) R ?_
   obtain ⟨r41, er41, hm⟩ := bindS hm
   refine L.ca cf33 R R Y R (m_blocking_path_c (s := (Sig.fz (N + 1) s39)) (p0 := p0) (p1 := 0) (p2 := o35) h1 h2 h3 h37 er41) R ?_
   rintro _ s42 m43 ⟨a44, c44, rfl, h44⟩
   replace m0 := (m0.trans (m40.one up)).trans m43.no
   refine L.mv Y R R (L.ex Y R R R (L.ex Y R R R (L.as Y R R (L.as Y R R (LN (ER (L.mv Y R R (L.mv Y R R (L.as Y R R (L.as Y R R (L.as Y R R (LN (E.ret ?_)))))))))))))
   obtain rfl := oi hm
   exact X.rt (.inl R) Tryz.results11 (Rs.tmp R (Rs.tmp R (Rs.tmp R Rs.nil))) R ⟨_, (s42).ren N (fun _ => 0), R, R, m0.ren hNb, ⟨a44, c44, R, (h44.ren hN)⟩⟩
  intro K45
  refine E.iter (fun (st35 : Int × List Int) (e : List (Nat × Value)) (w : World) => ∃ (s38 : Sig) (a18 : Option Addr) (c18 : Nat), Mv (Up N No) s s38 ∧ RdL qI s38 a15 c15 r12 ∧ RowT qI s38 (N + 1) 3 a18 c18 st35.2 ∧ RdL qI s38 a1 c1 p0.1 ∧ RdL qI s38 a2 c2 p0.2.2.1 ∧ RdL qT s38 a3 c3 p0.2.2.2 ∧ Bx s38 (N + 0) b5 #[.slice a1 p0.1.length c1, .int .i64 p0.2.1, .slice a2 p0.2.2.1.length c2, .slice a3 p0.2.2.2.length c3] 30 ∧ e = [(25, .int .i64 st35.1), (24, .int .i64 (r12.length : Int)), (23, .slice a15 r12.length c15), (8, .slice a18 st35.2.length c18), (2, .pointer (some ⟨b5, 0, none⟩)), (1, .int .i64 p1)] ∧ w = s38.w) eo35 ⟨s13, none, 0, m0, h15, RowT.nil, h1, h2, h3, bx5, R, R⟩ (Sub.rf R) ?_
  rintro st35 res35 hm ih35 ho35 _ _ ⟨s38, a18, c18, m0, h15, h18, h1, h2, h3, bx5, rfl, rfl⟩
  unfold m_blocking_Escape_l1 at hm
  refine ER (L.bi Y R R R R (LN (E.seq ?_)))
  rcases ifS hm with ⟨hc, hm⟩ | ⟨hc, hm⟩
  ·refine E.cT R hc (E.skip (X.seqN (E.seqJ (fun e w => ∃ (s48 : Sig) (l46 : List Int) (a47 : Option Addr) (c47 : Nat), m_blocking_Escape_j1 st35 l46 = some res35 ∧ Mv (Up N No) s s48 ∧ RowT qI s48 (N + 1) 3 a47 c47 l46 ∧ RdL qI s48 a15 c15 r12 ∧ RdL qI s48 a1 c1 p0.1 ∧ RdL qI s48 a2 c2 p0.2.2.1 ∧ RdL qT s48 a3 c3 p0.2.2.2 ∧ Bx s48 (N + 0) b5 #[.slice a1 p0.1.length c1, .int .i64 p0.2.1, .slice a2 p0.2.2.1.length c2, .slice a3 p0.2.2.2.length c3] 30 ∧ e = [(8, .slice a47 l46.length c47), (25, .int .i64 st35.1), (24, .int .i64 (r12.length : Int)), (23, .slice a15 r12.length c15), (2, .pointer (some ⟨b5, 0, none⟩)), (1, .int .i64 p1)] ∧ w = s48.w) ?_ ?_)))
   ·rintro _ _ ⟨s48, l46, a47, c47, hm, m0, h47, h15, h1, h2, h3, bx5, rfl, rfl⟩
    unfold m_blocking_Escape_j1 at hm
    exact E.reg (L.bi Y R R R R (L.mv Y R R (L.nil (X.sub (ih35 _ (oi hm).symm _ _ ⟨s48, a47, c47, m0, h15, h47, h1, h2, h3, bx5, R, R⟩) (Sub.rf R)))))
   intro Jj49
   refine E.block (ER (L.mv Y R R ?_))
   obtain ⟨x50, ex50, hm⟩ := bindS hm
   refine L.ix (r := qI) sl27 h15 Y R R ex50 R fun b51 o51 cc51 me51 rd51 => ?_
   obtain rfl := rd51
   refine L.ld (j := 0) me51 nag3 Y R R R R (L.as Y R R (L.as Y R R (LN (ER (L.mv Y R R (L.mv Y R R (L.bi Y R R R R (L.nil (X.seqN ?_)))))))))
   rcases ifS hm with ⟨hc, hm⟩ | ⟨hc, hm⟩
   ·refine E.cT R hc (E.reg (L.mv Y R R (L.mv Y R R (L.bsE (k := 1) (cs := [.int .i64 st35.1]) 0 bs27 (nb R) Y R R R R fun b52 s53 m54 bx52 => ?_))))
    replace h18 := h18.mv m54 no_No no_No
    have h52 := Bx.rdL (r := qI) (xs := ([st35.1] : List Int)) bx52 ⟨[.int .i64 st35.1], _, R, R, R⟩ (nb R)
    obtain ⟨x55, ex55, hm⟩ := bindS hm
    refine L.ap (r := qI) Tryz.underlying27 el3 R (tgp hN) h18 h52.wk Y R R ex55 R fun a56 c56 s57 m58 h56 => ?_
    replace m0 := (m0.trans m54.no).trans (m58.one up)
    replace h15 := (h15.mono m54.z).mono (m58.le (tg0 hN))
    replace bx5 := (bx5.mv m54 no_No).mv m58 (tq R)
    replace h1 := (h1.mono m54.z).mono (m58.le (tg0 hN))
    replace h2 := (h2.mono m54.z).mono (m58.le (tg0 hN))
    replace h3 := (h3.mono m54.z).mono (m58.le (tg0 hN))
    exact L.as Y R R (L.nil (X.blkN (X.sub (Jj49 _ _ ⟨s57, x55, a56, c56, hm, m0, h56, h15, h1, h2, h3, bx5, R, R⟩) (Sub.rf R))))
   exact E.cF R hc (E.skip (X.blkN (X.sub (Jj49 _ _ ⟨s38, st35.2, a18, c18, hm, m0, h18, h15, h1, h2, h3, bx5, R, R⟩) (Sub.rf R))))
  refine E.cF R hc (E.exit (X.seqX (X.seqX ?_)))
  have hx := ho35 _ (oi hm).symm
  subst hx
  exact X.sub (K45 _ _ ⟨s38, a18, c18, m0, h18, h1, h2, h3, bx5, R, R⟩) (Sub.rf R)
 intro J59
 rcases Bool.eq_false_or_eq_true (decide (p1 < 1)) with hc | hc
 ·exact L.know (d := 18) R hc (L.skip R R R R (L.skip R R R R (L.pkT Y R R R R (L.sb (J59 _ _ ⟨true, (orT hc).symm, R, R⟩) R))))
 exact L.know (d := 18) R hc (L.mv (Wt.mk R R) R R (L.bi (Wt.mk R R) R R R R (L.pkF Y R R R R (L.sb (J59 _ _ ⟨(decide (p1 > 5)), (orF hc).symm, R, R⟩) R))))

noncomputable def m_automaton_checkState (p0 : AutT) (p1 : Int) : Option Int :=
 (m_automaton_Check p0).bind fun r7 =>
 if (r7 != 0) then
  some r7
 else
  if ((decide (p1 < 0)) || (decide (p1 ≥ p0.2.1))) then
   some 2
  else
   some 0
theorem m_automaton_checkState_c {s : Sig} {p0 : AutT} {p1 : Int} {a1 : Option Addr} {c1 : Nat} {a2 : Option Addr} {c2 : Nat} {a3 : Option Addr} {c3 : Nat} {r : Int} (h1 : RdL qI s a1 c1 p0.1) (h2 : RdL qI s a2 c2 p0.2.2.1) (h3 : RdL qT s a3 c3 p0.2.2.2) (hm : m_automaton_checkState p0 p1 = some r) :
    Calls Tryz.prog 37 #[.agg #[.slice a1 p0.1.length c1, .int .i64 p0.2.1, .slice a2 p0.2.2.1.length c2, .slice a3 p0.2.2.2.length c3], .int .i64 p1] s.w (RetS No s fun v s' => v = .int .i64 r) := by
 unfold m_automaton_checkState at hm
 obtain ⟨N, hN, hNb⟩ := s.fresh
 have m0 : Mv (Up N No) s s := Mv.refl _ _
 refine E.entry Tryz.func37 R Tryz.ntmps37 R R (ER (L.box (N + 0) Y R R R fun b4 s5 m6 bx4 => ?_))
 replace h1 := h1.mono m6.z
 replace h2 := h2.mono m6.z
 replace h3 := h3.mono m6.z
 refine L.as Y R R (LN (E.seq (ER (L.lg (j := 0) (cs := [.slice a1 p0.1.length c1, .int .i64 p0.2.1, .slice a2 p0.2.2.1.length c2, .slice a3 p0.2.2.2.length c3]) bx4.mem ag30 Y R R R R R ?_))))
 obtain ⟨r7, er7, hm⟩ := bindS hm
 refine L.ca cf16 R R Y R (m_automaton_Check_c (s := s5) (p0 := p0) h1 h2 h3 er7) R ?_
 rintro _ s8 m9 rfl
 replace m0 := (m0.trans m6.no).trans m9.no
 replace bx4 := bx4.mv m9 no_No
 refine L.as Y R R (LN (ER (L.mv Y R R (L.bi Y R R R R (L.nil (X.seqN ?_))))))
 rcases ifS hm with ⟨hc, hm⟩ | ⟨hc, hm⟩
 ·refine E.cT R hc (ER (L.mv Y R R (L.as Y R R (LN (E.ret (X.seqR ?_))))))
  obtain rfl := oi hm
  exact X.rt (.inl R) Tryz.results37 (Rs.tmp R Rs.nil) R ⟨_, (s8).ren N (fun _ => 0), R, R, m0.ren hNb, R⟩
 refine E.cF R hc (E.skip (X.seqN (E.seq (ER (L.mv Y R R (L.bi Y R R R R (L.mv Y R R (L.cut 5 (fun e w => ∃ (v10 : Bool), ((decide (p1 < 0)) || (decide (p1 ≥ p0.2.1))) = v10 ∧ e = (18, .bool v10) :: [] ∧ w = s8.w) ?_ ?_))))))))
 ·rintro _ _ ⟨v10, rfl, rfl, rfl⟩
  refine L.nil (X.seqN ?_)
  rcases ifS hm with ⟨hc, hm⟩ | ⟨hc, hm⟩
  ·refine E.cT R hc (ER (L.as Y R R (LN (E.ret (X.seqR ?_)))))
   obtain rfl := oi hm
   exact X.rt (.inl R) Tryz.results37 (Rs.tmp R Rs.nil) R ⟨_, (s8).ren N (fun _ => 0), R, R, m0.ren hNb, R⟩
  refine E.cF R hc (E.skip (X.seqN (ER (L.as Y R R (LN (E.ret ?_))))))
  obtain rfl := oi hm
  exact X.rt (.inl R) Tryz.results37 (Rs.tmp R Rs.nil) R ⟨_, (s8).ren N (fun _ => 0), R, R, m0.ren hNb, R⟩
 intro J11
 rcases Bool.eq_false_or_eq_true (decide (p1 < 0)) with hc | hc
 ·exact L.know (d := 13) R hc (L.skip R R R R (L.skip R R R R (L.skip R R R R (L.skip R R R R (L.pkT Y R R R R (L.sb (J11 _ _ ⟨true, (orT hc).symm, R, R⟩) R))))))
 exact L.know (d := 13) R hc (L.mv (Wt.mk R R) R R (L.fa fa30_1 (Wt.mk R R) R R (L.ld (j := 1) bx4.mem nag3 (Wt.mk R R) R R R R (L.bi (Wt.mk R R) R R R R (L.pkF Y R R R R (L.sb (J11 _ _ ⟨(decide (p1 ≥ p0.2.1)), (orF hc).symm, R, R⟩) R))))))

noncomputable def m_automaton_Run_1 (q0 : AutT) (p0 : Int) : Option Bool :=
 (m_slices_Contains_int q0.1 p0).bind fun r5 =>
 some (!r5)
theorem m_automaton_Run_1_c {s : Sig} {q0 : AutT} {p0 : Int} {a1 : Option Addr} {c1 : Nat} {a2 : Option Addr} {c2 : Nat} {a3 : Option Addr} {c3 : Nat} {b4 : Nat} {r : Bool} (h1 : RdL qI s a1 c1 q0.1) (h2 : RdL qI s a2 c2 q0.2.2.1) (h3 : RdL qT s a3 c3 q0.2.2.2) (bx4 : Bx s 0 b4 #[.slice a1 q0.1.length c1, .int .i64 q0.2.1, .slice a2 q0.2.2.1.length c2, .slice a3 q0.2.2.2.length c3] 30) (hm : m_automaton_Run_1 q0 p0 = some r) :
    Calls Tryz.prog 39 #[.int .i64 p0, .pointer (some ⟨b4, 0, none⟩)] s.w (RetS No s fun v s' => v = .bool r) := by
 unfold m_automaton_Run_1 at hm
 obtain ⟨N, hN, hNb⟩ := s.fresh
 have m0 : Mv (Up N No) s s := Mv.refl _ _
 refine E.entry Tryz.func39 R Tryz.ntmps39 R R (ER (L.as Y R R (LN (ER (L.fa fa30_0 Y R R (L.ld (j := 0) bx4.mem nag27 Y R R R R (L.mv Y R R ?_)))))))
 obtain ⟨r5, er5, hm⟩ := bindS hm
 refine L.ca cf40 R R Y R (m_slices_Contains_int_c (s := s) (p0 := q0.1) (p1 := p0) h1 er5) R ?_
 rintro _ s6 m7 rfl
 replace m0 := m0.trans m7.no
 refine L.not Y R R (L.as Y R R (LN (E.ret ?_)))
 obtain rfl := oi hm
 exact X.rt (.inl R) Tryz.results39 (Rs.tmp R Rs.nil) R ⟨_, (s6).ren N (fun _ => 0), R, R, m0.ren hNb, R⟩

noncomputable def m_slices_IndexFunc_int_l1 (p0 : List Int) (p1 : Int → Option Bool) (st9 : Int) : Option (Int ⊕ (Unit ⊕ Int)) :=
 if decide (st9 < (p0.length : Int)) then
  (idx p0 st9).bind fun x18 =>
  (p1 x18).bind fun r20 =>
  if r20 then
   some (.inr (.inr (st9)))
  else
   some (.inl (W (st9 + 1)))
 else
  some (.inr (.inl ()))
noncomputable def m_slices_IndexFunc_int (p0 : List Int) (p1 : Int → Option Bool) : Option Int :=
 (iter (m_slices_IndexFunc_int_l1 p0 p1) 0).bind fun o9 =>
 match o9 with
 | .inl u12 =>
  some (-1)
 | .inr (u15) =>
  some u15
theorem m_slices_IndexFunc_int_c {s : Sig} {p0 : List Int} {p1 : Int → Option Bool} {a1 : Option Addr} {c1 : Nat} {vp1 : Value} {r : Int} (h1 : RdL qI s a1 c1 p0) (hp1 : FV1 Tryz.prog s vp1 (fun (x0 : Int) => [.int .i64 x0]) (fun (r : Bool) => .bool r) p1) (hm : m_slices_IndexFunc_int p0 p1 = some r) :
    Calls Tryz.prog 78 #[.slice a1 p0.length c1, vp1] s.w (RetS No s fun v s' => v = .int .i64 r) := by
 unfold m_slices_IndexFunc_int at hm
 obtain ⟨N, hN, hNb⟩ := s.fresh
 have m0 : Mv (Up N No) s s := Mv.refl _ _
 refine E.entry Tryz.func78 R Tryz.ntmps78 R R (ER (L.as Y R R (LN (E.seq (ER (L.mv Y R R (L.len sl27 Y R R (L.mv Y R R (LN (E.block ?_))))))))))
 obtain ⟨o9, eo9, hm⟩ := bindS hm
 refine E.cut (x := .exit 0) (fun e w => ∃ (s13 : Sig) (u12 : Unit), o9 = .inl u12 ∧ Mv (Up N No) s s13 ∧ e = [] ∧ w = s13.w) ?_ ?_
 ·rintro _ _ ⟨s13, u12, rfl, m0, rfl, rfl⟩
  dsimp only at hm
  refine X.blkE (X.seqN (ER (L.as Y R R (LN (E.ret ?_)))))
  obtain rfl := oi hm
  exact X.rt (.inl R) Tryz.results78 (Rs.tmp R Rs.nil) R ⟨_, (s13).ren N (fun _ => 0), R, R, m0.ren hNb, R⟩
 intro K14
 refine E.cut (x := .ret) (fun e w => ∃ (s16 : Sig) (u15 : Int), o9 = .inr (u15) ∧ Mv (Up N No) s s16 ∧ e = [(4, .int .i64 u15)] ∧ w = s16.w) ?_ ?_
 ·rintro _ _ ⟨s16, u15, rfl, m0, rfl, rfl⟩
  dsimp only at hm
  refine X.blkR (X.seqR ?_)
  obtain rfl := oi hm
  exact X.rt (.inl R) Tryz.results78 (Rs.tmp R Rs.nil) R ⟨_, (s16).ren N (fun _ => 0), R, R, m0.ren hNb, R⟩
 intro K17
 refine E.iter (fun (st9 : Int) (e : List (Nat × Value)) (w : World) => ∃ (s11 : Sig), Mv (Up N No) s s11 ∧ RdL qI s11 a1 c1 p0 ∧ FV1 Tryz.prog s11 vp1 (fun (x0 : Int) => [.int .i64 x0]) (fun (r : Bool) => .bool r) p1 ∧ e = [(8, .int .i64 st9), (7, .int .i64 (p0.length : Int)), (0, .slice a1 p0.length c1), (1, vp1)] ∧ w = s11.w) eo9 ⟨s, m0, h1, hp1, R, R⟩ (Sub.rf R) ?_
 rintro st9 res9 hm ih9 ho9 _ _ ⟨s11, m0, h1, hp1, rfl, rfl⟩
 unfold m_slices_IndexFunc_int_l1 at hm
 refine ER (L.bi Y R R R R (LN (E.seq ?_)))
 rcases ifS hm with ⟨hc, hm⟩ | ⟨hc, hm⟩
 ·refine E.cT R hc (E.skip (X.seqN (E.seq (E.block (ER (L.mv Y R R (L.as Y R R (LN (ER (L.mv Y R R (L.mv Y R R (L.mv Y R R ?_))))))))))))
  obtain ⟨x18, ex18, hm⟩ := bindS hm
  refine L.ix (r := qI) sl27 h1 Y R R ex18 R fun b19 o19 cc19 me19 rd19 => ?_
  obtain rfl := rd19
  refine L.ld (j := 0) me19 nag3 Y R R R R ?_
  obtain ⟨r20, er20, hm⟩ := bindS hm
  refine L.fv1 (y := x18) hp1 R R Y R R er20 R fun s21 m22 => ?_
  replace m0 := m0.trans m22.no
  replace h1 := h1.mono m22.z
  replace hp1 := hp1.mono m22.z
  refine L.nil (X.seqN ?_)
  rcases ifS hm with ⟨hc, hm⟩ | ⟨hc, hm⟩
  ·refine E.cT R hc (ER (L.mv Y R R (L.as Y R R (LN (E.ret (X.blkR (X.seqR (X.seqR ?_))))))))
   have hx := ho9 _ (oi hm).symm
   exact X.sub (K17 _ _ ⟨s21, st9, hx.symm, m0, R, R⟩) (Sub.rf R)
  exact E.cF R hc (E.skip (X.blkN (X.seqN (E.reg (L.bi Y R R R R (L.mv Y R R (L.nil (X.sub (ih9 _ (oi hm).symm _ _ ⟨s21, m0, h1, hp1, R, R⟩) (Sub.rf R)))))))))
 refine E.cF R hc (E.exit (X.seqX (X.seqX ?_)))
 have hx := ho9 _ (oi hm).symm
 exact X.sub (K14 _ _ ⟨s11, (), hx.symm, m0, R, R⟩) Sub.nil

theorem cf78 : Cf Tryz.prog 78 := Cf.mk Tryz.func78 (by kernel_rfl) (by kernel_rfl)
noncomputable def m_slices_ContainsFunc_int (p0 : List Int) (p1 : Int → Option Bool) : Option Bool :=
 (m_slices_IndexFunc_int p0 p1).bind fun r2 =>
 some (decide (r2 ≥ 0))
theorem m_slices_ContainsFunc_int_c {s : Sig} {p0 : List Int} {p1 : Int → Option Bool} {a1 : Option Addr} {c1 : Nat} {vp1 : Value} {r : Bool} (h1 : RdL qI s a1 c1 p0) (hp1 : FV1 Tryz.prog s vp1 (fun (x0 : Int) => [.int .i64 x0]) (fun (r : Bool) => .bool r) p1) (hm : m_slices_ContainsFunc_int p0 p1 = some r) :
    Calls Tryz.prog 38 #[.slice a1 p0.length c1, vp1] s.w (RetS No s fun v s' => v = .bool r) := by
 unfold m_slices_ContainsFunc_int at hm
 obtain ⟨N, hN, hNb⟩ := s.fresh
 have m0 : Mv (Up N No) s s := Mv.refl _ _
 refine E.entry Tryz.func38 R Tryz.ntmps38 R R (ER (L.as Y R R (LN (ER (L.mv Y R R (L.mv Y R R ?_))))))
 obtain ⟨r2, er2, hm⟩ := bindS hm
 refine L.ca cf78 R R Y R (m_slices_IndexFunc_int_c (s := s) (p0 := p0) (p1 := p1) h1 hp1 er2) R ?_
 rintro _ s3 m4 rfl
 replace m0 := m0.trans m4.no
 refine L.bi Y R R R R (L.as Y R R (LN (E.ret ?_)))
 obtain rfl := oi hm
 exact X.rt (.inl R) Tryz.results38 (Rs.tmp R Rs.nil) R ⟨_, (s3).ren N (fun _ => 0), R, R, m0.ren hNb, R⟩

noncomputable def m_automaton_next_1 (q0 : Int) (p0 : Int × Int × Int) : Option Bool :=
 some (p0.2.1 == q0)
theorem m_automaton_next_1_c {s : Sig} {q0 : Int} {p0 : Int × Int × Int} {b1 : Nat} {r : Bool} (bx1 : Bx s 0 b1 #[.int .i64 q0] 3) (hm : m_automaton_next_1 q0 p0 = some r) :
    Calls Tryz.prog 106 #[.agg #[.int .i64 p0.1, .int .i64 p0.2.1, .int .i64 p0.2.2], .pointer (some ⟨b1, 0, none⟩)] s.w (RetS No s fun v s' => v = .bool r) := by
 unfold m_automaton_next_1 at hm
 obtain ⟨N, hN, hNb⟩ := s.fresh
 have m0 : Mv (Up N No) s s := Mv.refl _ _
 refine E.entry Tryz.func106 R Tryz.ntmps106 R R (ER (L.box (N + 0) Y R R R fun b2 s3 m4 bx2 => ?_))
 replace m0 := m0.trans m4.no
 replace bx1 := bx1.mv m4 no_No
 refine L.as Y R R (LN (ER (L.fa fa62_1 Y R R (L.ld (j := 1) bx2.mem nag3 Y R R R R (L.ld (j := 0) bx1.mem nag3 Y R R R R (L.bi Y R R R R (L.as Y R R (LN (E.ret ?_)))))))))
 obtain rfl := oi hm
 exact X.rt (.inl R) Tryz.results106 (Rs.tmp R Rs.nil) R ⟨_, (s3).ren N (fun _ => 0), R, R, m0.ren hNb, R⟩

noncomputable def m_slices_IndexFunc_Edge_l1 (p0 : List (Int × Int × Int)) (p1 : (Int × Int × Int) → Option Bool) (st9 : Int) : Option (Int ⊕ (Unit ⊕ Int)) :=
 if decide (st9 < (p0.length : Int)) then
  (idx p0 st9).bind fun x18 =>
  (p1 x18).bind fun r20 =>
  if r20 then
   some (.inr (.inr (st9)))
  else
   some (.inl (W (st9 + 1)))
 else
  some (.inr (.inl ()))
noncomputable def m_slices_IndexFunc_Edge (p0 : List (Int × Int × Int)) (p1 : (Int × Int × Int) → Option Bool) : Option Int :=
 (iter (m_slices_IndexFunc_Edge_l1 p0 p1) 0).bind fun o9 =>
 match o9 with
 | .inl u12 =>
  some (-1)
 | .inr (u15) =>
  some u15
theorem m_slices_IndexFunc_Edge_c {s : Sig} {p0 : List (Int × Int × Int)} {p1 : (Int × Int × Int) → Option Bool} {a1 : Option Addr} {c1 : Nat} {vp1 : Value} {r : Int} (h1 : RdL qT s a1 c1 p0) (hp1 : FV1 Tryz.prog s vp1 (fun (x0 : Int × Int × Int) => [.agg #[.int .i64 x0.1, .int .i64 x0.2.1, .int .i64 x0.2.2]]) (fun (r : Bool) => .bool r) p1) (hm : m_slices_IndexFunc_Edge p0 p1 = some r) :
    Calls Tryz.prog 105 #[.slice a1 p0.length c1, vp1] s.w (RetS No s fun v s' => v = .int .i64 r) := by
 unfold m_slices_IndexFunc_Edge at hm
 obtain ⟨N, hN, hNb⟩ := s.fresh
 have m0 : Mv (Up N No) s s := Mv.refl _ _
 refine E.entry Tryz.func105 R Tryz.ntmps105 R R (ER (L.as Y R R (LN (E.seq (ER (L.mv Y R R (L.len sl28 Y R R (L.mv Y R R (LN (E.block ?_))))))))))
 obtain ⟨o9, eo9, hm⟩ := bindS hm
 refine E.cut (x := .exit 0) (fun e w => ∃ (s13 : Sig) (u12 : Unit), o9 = .inl u12 ∧ Mv (Up N No) s s13 ∧ e = [] ∧ w = s13.w) ?_ ?_
 ·rintro _ _ ⟨s13, u12, rfl, m0, rfl, rfl⟩
  dsimp only at hm
  refine X.blkE (X.seqN (ER (L.as Y R R (LN (E.ret ?_)))))
  obtain rfl := oi hm
  exact X.rt (.inl R) Tryz.results105 (Rs.tmp R Rs.nil) R ⟨_, (s13).ren N (fun _ => 0), R, R, m0.ren hNb, R⟩
 intro K14
 refine E.cut (x := .ret) (fun e w => ∃ (s16 : Sig) (u15 : Int), o9 = .inr (u15) ∧ Mv (Up N No) s s16 ∧ e = [(4, .int .i64 u15)] ∧ w = s16.w) ?_ ?_
 ·rintro _ _ ⟨s16, u15, rfl, m0, rfl, rfl⟩
  dsimp only at hm
  refine X.blkR (X.seqR ?_)
  obtain rfl := oi hm
  exact X.rt (.inl R) Tryz.results105 (Rs.tmp R Rs.nil) R ⟨_, (s16).ren N (fun _ => 0), R, R, m0.ren hNb, R⟩
 intro K17
 refine E.iter (fun (st9 : Int) (e : List (Nat × Value)) (w : World) => ∃ (s11 : Sig), Mv (Up N No) s s11 ∧ RdL qT s11 a1 c1 p0 ∧ FV1 Tryz.prog s11 vp1 (fun (x0 : Int × Int × Int) => [.agg #[.int .i64 x0.1, .int .i64 x0.2.1, .int .i64 x0.2.2]]) (fun (r : Bool) => .bool r) p1 ∧ e = [(8, .int .i64 st9), (7, .int .i64 (p0.length : Int)), (0, .slice a1 p0.length c1), (1, vp1)] ∧ w = s11.w) eo9 ⟨s, m0, h1, hp1, R, R⟩ (Sub.rf R) ?_
 rintro st9 res9 hm ih9 ho9 _ _ ⟨s11, m0, h1, hp1, rfl, rfl⟩
 unfold m_slices_IndexFunc_Edge_l1 at hm
 refine ER (L.bi Y R R R R (LN (E.seq ?_)))
 rcases ifS hm with ⟨hc, hm⟩ | ⟨hc, hm⟩
 ·refine E.cT R hc (E.skip (X.seqN (E.seq (E.block (ER (L.mv Y R R (L.as Y R R (LN (ER (L.mv Y R R (L.mv Y R R (L.mv Y R R ?_))))))))))))
  obtain ⟨x18, ex18, hm⟩ := bindS hm
  refine L.ix (r := qT) sl28 h1 Y R R ex18 R fun b19 o19 cc19 me19 rd19 => ?_
  obtain ⟨_, _, rfl, rfl, ⟨_, _, rfl, rfl, rfl⟩⟩ := rd19
  refine L.lg (j := 0) (cs := [.int .i64 x18.1, .int .i64 x18.2.1, .int .i64 x18.2.2]) me19 ag62 Y R R R R R ?_
  obtain ⟨r20, er20, hm⟩ := bindS hm
  refine L.fv1 (y := x18) hp1 R R Y R R er20 R fun s21 m22 => ?_
  replace m0 := m0.trans m22.no
  replace h1 := h1.mono m22.z
  replace hp1 := hp1.mono m22.z
  refine L.nil (X.seqN ?_)
  rcases ifS hm with ⟨hc, hm⟩ | ⟨hc, hm⟩
  ·refine E.cT R hc (ER (L.mv Y R R (L.as Y R R (LN (E.ret (X.blkR (X.seqR (X.seqR ?_))))))))
   have hx := ho9 _ (oi hm).symm
   exact X.sub (K17 _ _ ⟨s21, st9, hx.symm, m0, R, R⟩) (Sub.rf R)
  exact E.cF R hc (E.skip (X.blkN (X.seqN (E.reg (L.bi Y R R R R (L.mv Y R R (L.nil (X.sub (ih9 _ (oi hm).symm _ _ ⟨s21, m0, h1, hp1, R, R⟩) (Sub.rf R)))))))))
 refine E.cF R hc (E.exit (X.seqX (X.seqX ?_)))
 have hx := ho9 _ (oi hm).symm
 exact X.sub (K14 _ _ ⟨s11, (), hx.symm, m0, R, R⟩) Sub.nil

end Go.Proofs.YtfbapajcheammaaGreatDoor

