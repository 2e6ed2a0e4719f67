/- Parts of the proof, without what nothing here names. -/
import Derived.Test.YtfbapajcheammaaGreatDoorProg
import Derived.Deep.RegionWith
import Derived.Test.YtfbapajcheammaaGreatDoorQT5
set_option maxRecDepth 100000
set_option maxHeartbeats 8000000
namespace Go.Proofs.YtfbapajcheammaaGreatDoor
open Go Go.RowKit
theorem cf105 : Cf Tryz.prog 105 := Cf.mk Tryz.func105 (by kernel_rfl) (by kernel_rfl)
theorem cf106 : Cf Tryz.prog 106 := Cf.mk Tryz.func106 (by kernel_rfl) (by kernel_rfl)
noncomputable def m_automaton_next (p0 : AutT) (p1 : Int) (p2 : Int) : Option Int :=
 (m_automaton_out p0 p1).bind fun r10 =>
 (m_slices_IndexFunc_Edge r10 (m_automaton_next_1 p2)).bind fun r16 =>
 if decide (r16 < 0) then
  some (-1)
 else
  (idx r10 r16).bind fun x19 =>
  some x19.2.2
theorem m_automaton_next_c {s : Sig} {p0 : AutT} {p1 : Int} {p2 : Int} {a1 : Option Addr} {c1 : Nat} {a2 : Option Addr} {c2 : Nat} {a3 : Option Addr} {c3 : Nat} {r : Int} (h1 : RdL qI s a1 c1 p0.1) (h2 : RdL qI s a2 c2 p0.2.2.1) (h3 : RdL qT s a3 c3 p0.2.2.2) (hm : m_automaton_next p0 p1 p2 = some r) :
    Calls Tryz.prog 80 #[.agg #[.slice a1 p0.1.length c1, .int .i64 p0.2.1, .slice a2 p0.2.2.1.length c2, .slice a3 p0.2.2.2.length c3], .int .i64 p1, .int .i64 p2] s.w (RetS No s fun v s' => v = .int .i64 r) := by
 unfold m_automaton_next at hm
 obtain ⟨N, hN, hNb⟩ := s.fresh
 have m0 : Mv (Up N No) s s := Mv.refl _ _
 refine E.entry Tryz.func80 R Tryz.ntmps80 R R (ER (L.box (N + 0) Y R R R fun b4 s5 m6 bx4 => ?_))
 refine L.box (N + 1) Y R R R fun b7 s8 m9 bx7 => ?_
 replace bx4 := bx4.mv m9 no_No
 replace h1 := (h1.mono m6.z).mono m9.z
 replace h2 := (h2.mono m6.z).mono m9.z
 replace h3 := (h3.mono m6.z).mono m9.z
 refine L.as Y R R (LN (ER (L.lg (j := 0) (cs := [.slice a1 p0.1.length c1, .int .i64 p0.2.1, .slice a2 p0.2.2.1.length c2, .slice a3 p0.2.2.2.length c3]) bx4.mem ag30 Y R R R R R (L.mv Y R R ?_))))
 obtain ⟨r10, er10, hm⟩ := bindS hm
 refine L.ca cf67 R R Y R (m_automaton_out_c (s := s8) (p0 := p0) (p1 := p1) h1 h2 h3 er10) R ?_
 rintro _ s11 m12 ⟨a13, c13, rfl, h13⟩
 refine L.as Y R R (LN (ER (L.mv Y R R ?_)))
 have m14 := Sig.fz_mv (N + 1) s11
 replace bx7 := (bx7.mv m12 no_No).fz (tgn hN)
 replace h13 := h13.mono (m14.le (tg0 hN))
 refine L.toR (s' := (Sig.fz (N + 1) s11)) R ?_
 have h15 : FV1 Tryz.prog (Sig.fz (N + 1) s11) (.func (.func 106) #[] #[.pointer (some ⟨b7, 0, none⟩)]) (fun (x0 : Int × Int × Int) => [.agg #[.int .i64 x0.1, .int .i64 x0.2.1, .int .i64 x0.2.2]]) (fun (r : Bool) => .bool r) (m_automaton_next_1 p2) := ⟨106, #[], #[.pointer (some ⟨b7, 0, none⟩)], rfl, cf106, fun x0 r hm s' hl => by have hh := m_automaton_next_1_c (s := s') (bx7.le hl) hm; simpa using hh⟩
 refine L.mf Y R R R ?_
 obtain ⟨r16, er16, hm⟩ := bindS hm
 refine L.ca cf105 R R Y R (m_slices_IndexFunc_Edge_c (s := (Sig.fz (N + 1) s11)) (p0 := r10) (p1 := (m_automaton_next_1 p2)) h13 h15 er16) R ?_
 rintro _ s17 m18 rfl
 replace m0 := ((((m0.trans m6.no).trans m9.no).trans m12.no).trans (m14.one up)).trans m18.no
 replace h13 := h13.mono m18.z
 refine L.as Y R R (LN (E.seq (ER (L.mv Y R R (L.bi Y R R R R (L.nil (X.seqN ?_)))))))
 rcases ifS hm with ⟨hc, hm⟩ | ⟨hc, hm⟩
 ·refine E.cT R hc (ER (L.as Y R R (LN (E.ret (X.seqR ?_)))))
  obtain rfl := oi hm
  exact X.rt (.inl R) Tryz.results80 (Rs.tmp R Rs.nil) R ⟨_, (s17).ren N (fun _ => 0), R, R, m0.ren hNb, R⟩
 refine E.cF R hc (E.skip (X.seqN (ER (L.mv Y R R (L.mv Y R R ?_)))))
 obtain ⟨x19, ex19, hm⟩ := bindS hm
 refine L.ix (r := qT) sl28 h13 Y R R ex19 R fun b20 o20 cc20 me20 rd20 => ?_
 obtain ⟨_, _, rfl, rfl, ⟨_, _, rfl, rfl, rfl⟩⟩ := rd20
 refine L.fa fa62_2 Y R R (L.ld (j := 2) me20 nag3 Y R R R R (L.as Y R R (LN (E.ret ?_))))
 obtain rfl := oi hm
 exact X.rt (.inl R) Tryz.results80 (Rs.tmp R Rs.nil) R ⟨_, (s17).ren N (fun _ => 0), R, R, m0.ren hNb, R⟩

theorem cf80 : Cf Tryz.prog 80 := Cf.mk Tryz.func80 (by kernel_rfl) (by kernel_rfl)
noncomputable def m_automaton_follow_l1 (p0 : AutT) (p2 : List Int) (st17 : Int × Int) : Option ((Int × Int) ⊕ (Int ⊕ (Int × Int))) :=
 if decide (st17.1 < (p2.length : Int)) then
  (idx p2 st17.1).bind fun x28 =>
  (m_automaton_next p0 st17.2 x28).bind fun r30 =>
  if decide (r30 < 0) then
   some (.inr (.inr (st17)))
  else
   some (.inl (W (st17.1 + 1), r30))
 else
  some (.inr (.inl st17.2))
noncomputable def m_automaton_follow (p0 : AutT) (p1 : Int) (p2 : List Int) : Option (Int × Int) :=
 (iter (m_automaton_follow_l1 p0 p2) (0, p1)).bind fun o17 =>
 match o17 with
 | .inl u22 =>
  some (u22, (p2.length : Int))
 | .inr (u25) =>
  some (u25.2, u25.1)
theorem m_automaton_follow_c {s : Sig} {p0 : AutT} {p1 : Int} {p2 : List Int} {a1 : Option Addr} {c1 : Nat} {a2 : Option Addr} {c2 : Nat} {a3 : Option Addr} {c3 : Nat} {a4 : Option Addr} {c4 : Nat} {r : Int × Int} (h1 : RdL qI s a1 c1 p0.1) (h2 : RdL qI s a2 c2 p0.2.2.1) (h3 : RdL qT s a3 c3 p0.2.2.2) (h4 : RdL qI s a4 c4 p2) (hm : m_automaton_follow p0 p1 p2 = some r) :
    Calls Tryz.prog 41 #[.agg #[.slice a1 p0.1.length c1, .int .i64 p0.2.1, .slice a2 p0.2.2.1.length c2, .slice a3 p0.2.2.2.length c3], .int .i64 p1, .slice a4 p2.length c4] s.w (RetS No s fun v s' => v = .tuple #[.int .i64 r.1, .int .i64 r.2]) := by
 unfold m_automaton_follow at hm
 obtain ⟨N, hN, hNb⟩ := s.fresh
 have m0 : Mv (Up N No) s s := Mv.refl _ _
 refine E.entry Tryz.func41 R Tryz.ntmps41 R R (ER (L.box (N + 0) Y R R R fun b5 s6 m7 bx5 => ?_))
 replace m0 := m0.trans m7.no
 replace h4 := h4.mono m7.z
 replace h1 := h1.mono m7.z
 replace h2 := h2.mono m7.z
 replace h3 := h3.mono m7.z
 refine L.as Y R R (L.as Y R R (LN (E.seq (ER (L.mv Y R R (L.len sl27 Y R R (L.mv Y R R (LN (E.block ?_)))))))))
 obtain ⟨o17, eo17, hm⟩ := bindS hm
 refine E.cut (x := .exit 0) (fun e w => ∃ (s23 : Sig) (u22 : Int), o17 = .inl u22 ∧ Mv (Up N No) s s23 ∧ RdL qI s23 a4 c4 p2 ∧ e = [(1, .int .i64 u22), (2, .slice a4 p2.length c4)] ∧ w = s23.w) ?_ ?_
 ·rintro _ _ ⟨s23, u22, rfl, m0, h4, rfl, rfl⟩
  dsimp only at hm
  refine X.blkE (X.seqN (ER (L.mv Y R R (L.mv Y R R (L.len sl27 Y R R (L.as Y R R (L.as Y R R (LN (E.ret ?_)))))))))
  obtain rfl := oi hm
  exact X.rt (.inl R) Tryz.results41 (Rs.tmp R (Rs.tmp R Rs.nil)) R ⟨_, (s23).ren N (fun _ => 0), R, R, m0.ren hNb, R⟩
 intro K24
 refine E.cut (x := .ret) (fun e w => ∃ (s26 : Sig) (u25 : Int × Int), o17 = .inr (u25) ∧ Mv (Up N No) s s26 ∧ e = [(7, .int .i64 u25.1), (6, .int .i64 u25.2)] ∧ w = s26.w) ?_ ?_
 ·rintro _ _ ⟨s26, u25, rfl, m0, rfl, rfl⟩
  dsimp only at hm
  refine X.blkR (X.seqR ?_)
  obtain rfl := oi hm
  exact X.rt (.inl R) Tryz.results41 (Rs.tmp R (Rs.tmp R Rs.nil)) R ⟨_, (s26).ren N (fun _ => 0), R, R, m0.ren hNb, R⟩
 intro K27
 refine E.iter (fun (st17 : Int × Int) (e : List (Nat × Value)) (w : World) => ∃ (s21 : Sig), Mv (Up N No) s s21 ∧ RdL qI s21 a4 c4 p2 ∧ RdL qI s21 a1 c1 p0.1 ∧ RdL qI s21 a2 c2 p0.2.2.1 ∧ RdL qT s21 a3 c3 p0.2.2.2 ∧ Bx s21 (N + 0) b5 #[.slice a1 p0.1.length c1, .int .i64 p0.2.1, .slice a2 p0.2.2.1.length c2, .slice a3 p0.2.2.2.length c3] 30 ∧ e = [(13, .int .i64 st17.1), (12, .int .i64 (p2.length : Int)), (11, .slice a4 p2.length c4), (3, .pointer (some ⟨b5, 0, none⟩)), (1, .int .i64 st17.2), (2, .slice a4 p2.length c4)] ∧ w = s21.w) eo17 ⟨s6, m0, h4, h1, h2, h3, bx5, R, R⟩ (Sub.rf R) ?_
 rintro st17 res17 hm ih17 ho17 _ _ ⟨s21, m0, h4, h1, h2, h3, bx5, rfl, rfl⟩
 unfold m_automaton_follow_l1 at hm
 refine ER (L.bi Y R R R R (LN (E.seq ?_)))
 rcases ifS hm with ⟨hc, hm⟩ | ⟨hc, hm⟩
 ·refine E.cT R hc (E.skip (X.seqN (E.seq (E.block (ER (L.mv Y R R ?_))))))
  obtain ⟨x28, ex28, hm⟩ := bindS hm
  refine L.ix (r := qI) sl27 h4 Y R R ex28 R fun b29 o29 cc29 me29 rd29 => ?_
  obtain rfl := rd29
  refine L.ld (j := 0) me29 nag3 Y R R R R (L.as Y R R (L.as Y R R (LN (ER (L.lg (j := 0) (cs := [.slice a1 p0.1.length c1, .int .i64 p0.2.1, .slice a2 p0.2.2.1.length c2, .slice a3 p0.2.2.2.length c3]) bx5.mem ag30 Y R R R R R (L.mv Y R R (L.mv Y R R ?_)))))))
  obtain ⟨r30, er30, hm⟩ := bindS hm
  refine L.ca cf80 R R Y R (m_automaton_next_c (s := s21) (p0 := p0) (p1 := st17.2) (p2 := x28) h1 h2 h3 er30) R ?_
  rintro _ s31 m32 rfl
  replace m0 := m0.trans m32.no
  replace h4 := h4.mono m32.z
  replace bx5 := bx5.mv m32 no_No
  replace h1 := h1.mono m32.z
  replace h2 := h2.mono m32.z
  replace h3 := h3.mono m32.z
  refine L.as Y R R (LN (E.seq (ER (L.mv Y R R (L.bi Y R R R R (L.nil (X.seqN ?_)))))))
  rcases ifS hm with ⟨hc, hm⟩ | ⟨hc, hm⟩
  ·refine E.cT R hc (ER (L.mv Y R R (L.mv Y R R (L.as Y R R (L.as Y R R (LN (E.ret (X.seqR (X.blkR (X.seqR (X.seqR ?_)))))))))))
   have hx := ho17 _ (oi hm).symm
   exact X.sub (K27 _ _ ⟨s31, st17, hx.symm, m0, R, R⟩) (Sub.rf R)
  exact E.cF R hc (E.skip (X.seqN (E.reg (L.mv Y R R (L.as Y R R (L.nil (X.blkN (X.seqN (E.reg (L.bi Y R R R R (L.mv Y R R (L.nil (X.sub (ih17 _ (oi hm).symm _ _ ⟨s31, m0, h4, h1, h2, h3, bx5, R, R⟩) (Sub.rf R))))))))))))))
 refine E.cF R hc (E.exit (X.seqX (X.seqX ?_)))
 have hx := ho17 _ (oi hm).symm
 exact X.sub (K24 _ _ ⟨s21, st17.2, hx.symm, m0, h4, R, R⟩) (Sub.rf R)

theorem cf37 : Cf Tryz.prog 37 := Cf.mk Tryz.func37 (by kernel_rfl) (by kernel_rfl)
theorem cf38 : Cf Tryz.prog 38 := Cf.mk Tryz.func38 (by kernel_rfl) (by kernel_rfl)
theorem cf39 : Cf Tryz.prog 39 := Cf.mk Tryz.func39 (by kernel_rfl) (by kernel_rfl)
theorem cf41 : Cf Tryz.prog 41 := Cf.mk Tryz.func41 (by kernel_rfl) (by kernel_rfl)
noncomputable def m_automaton_Run (p0 : AutT) (p1 : Int) (p2 : List Int) : Option (Int × Int × Int) :=
 (m_automaton_checkState p0 p1).bind fun r8 =>
 if (r8 != 0) then
  some (0, 0, r8)
 else
  (m_slices_ContainsFunc_int p2 (m_automaton_Run_1 p0)).bind fun r13 =>
  if r13 then
   some (0, 0, 9)
  else
   (m_automaton_follow p0 p1 p2).bind fun r16 =>
   some (r16.1, r16.2, 0)
theorem m_automaton_Run_c {s : Sig} {p0 : AutT} {p1 : Int} {p2 : List Int} {a1 : Option Addr} {c1 : Nat} {a2 : Option Addr} {c2 : Nat} {a3 : Option Addr} {c3 : Nat} {a4 : Option Addr} {c4 : Nat} {r : Int × Int × Int} (h1 : RdL qI s a1 c1 p0.1) (h2 : RdL qI s a2 c2 p0.2.2.1) (h3 : RdL qT s a3 c3 p0.2.2.2) (h4 : RdL qI s a4 c4 p2) (hm : m_automaton_Run p0 p1 p2 = some r) :
    Calls Tryz.prog 12 #[.agg #[.slice a1 p0.1.length c1, .int .i64 p0.2.1, .slice a2 p0.2.2.1.length c2, .slice a3 p0.2.2.2.length c3], .int .i64 p1, .slice a4 p2.length c4] s.w (RetS No s fun v s' => v = .tuple #[.int .i64 r.1, .int .i64 r.2.1, .int .i64 r.2.2]) := by
 unfold m_automaton_Run at hm
 obtain ⟨N, hN, hNb⟩ := s.fresh
 have m0 : Mv (Up N No) s s := Mv.refl _ _
 refine E.entry Tryz.func12 R Tryz.ntmps12 R R (ER (L.box (N + 0) Y R R R fun b5 s6 m7 bx5 => ?_))
 replace h1 := h1.mono m7.z
 replace h2 := h2.mono m7.z
 replace h3 := h3.mono m7.z
 refine L.as Y R R (L.as Y R R (L.as Y R R (LN (E.seq (ER (L.lg (j := 0) (cs := [.slice a1 p0.1.length c1, .int .i64 p0.2.1, .slice a2 p0.2.2.1.length c2, .slice a3 p0.2.2.2.length c3]) bx5.mem ag30 Y R R R R R (L.mv Y R R ?_)))))))
 obtain ⟨r8, er8, hm⟩ := bindS hm
 refine L.ca cf37 R R Y R (m_automaton_checkState_c (s := s6) (p0 := p0) (p1 := p1) h1 h2 h3 er8) R ?_
 rintro _ s9 m10 rfl
 replace m0 := (m0.trans m7.no).trans m10.no
 refine L.as Y R R (LN (ER (L.mv Y R R (L.bi Y R R R R (L.nil (X.seqN ?_))))))
 rcases ifS hm with ⟨hc, hm⟩ | ⟨hc, hm⟩
 ·refine E.cT R hc (ER (L.mv Y R R (L.as Y R R (L.as Y R R (L.as Y R R (LN (E.ret (X.seqR ?_))))))))
  obtain rfl := oi hm
  exact X.rt (.inl R) Tryz.results12 (Rs.tmp R (Rs.tmp R (Rs.tmp R Rs.nil))) R ⟨_, (s9).ren N (fun _ => 0), R, R, m0.ren hNb, R⟩
 refine E.cF R hc (E.skip (X.seqN (E.seq (ER (L.mv Y R R ?_)))))
 have m11 := Sig.fz_mv (N + 0) s9
 replace bx5 := (bx5.mv m10 no_No).fz (tgn hN)
 replace h4 := ((h4.mono m7.z).mono m10.z).mono (m11.le (tg0 hN))
 replace h1 := (h1.mono m10.z).mono (m11.le (tg0 hN))
 replace h2 := (h2.mono m10.z).mono (m11.le (tg0 hN))
 replace h3 := (h3.mono m10.z).mono (m11.le (tg0 hN))
 refine L.toR (s' := (Sig.fz (N + 0) s9)) R ?_
 have h12 : FV1 Tryz.prog (Sig.fz (N + 0) s9) (.func (.func 39) #[] #[.pointer (some ⟨b5, 0, none⟩)]) (fun (x0 : Int) => [.int .i64 x0]) (fun (r : Bool) => .bool r) (m_automaton_Run_1 p0) := ⟨39, #[], #[.pointer (some ⟨b5, 0, none⟩)], rfl, cf39, fun x0 r hm s' hl => by have hh := m_automaton_Run_1_c (s := s') (h1.mono hl) (h2.mono hl) (h3.mono hl) (bx5.le hl) hm; simpa using hh⟩
 refine L.mf Y R R R ?_
 obtain ⟨r13, er13, hm⟩ := bindS hm
 refine L.ca cf38 R R Y R (m_slices_ContainsFunc_int_c (s := (Sig.fz (N + 0) s9)) (p0 := p2) (p1 := (m_automaton_Run_1 p0)) h4 h12 er13) R ?_
 rintro _ s14 m15 rfl
 replace m0 := (m0.trans (m11.one up)).trans m15.no
 replace h4 := h4.mono m15.z
 replace bx5 := bx5.mv m15 no_No
 replace h1 := h1.mono m15.z
 replace h2 := h2.mono m15.z
 replace h3 := h3.mono m15.z
 refine L.nil (X.seqN ?_)
 rcases ifS hm with ⟨hc, hm⟩ | ⟨hc, hm⟩
 ·refine E.cT R hc (ER (L.as Y R R (L.as Y R R (L.as Y R R (LN (E.ret (X.seqR ?_)))))))
  obtain rfl := oi hm
  exact X.rt (.inl R) Tryz.results12 (Rs.tmp R (Rs.tmp R (Rs.tmp R Rs.nil))) R ⟨_, (s14).ren N (fun _ => 0), R, R, m0.ren hNb, R⟩
 refine E.cF R hc (E.skip (X.seqN (ER (L.lg (j := 0) (cs := [.slice a1 p0.1.length c1, .int .i64 p0.2.1, .slice a2 p0.2.2.1.length c2, .slice a3 p0.2.2.2.length c3]) bx5.mem ag30 Y R R R R R (L.mv Y R R (L.mv Y R R ?_))))))
 obtain ⟨r16, er16, hm⟩ := bindS hm
 refine L.ca cf41 R R Y R (m_automaton_follow_c (s := s14) (p0 := p0) (p1 := p1) (p2 := p2) h1 h2 h3 h4 er16) R ?_
 rintro _ s17 m18 rfl
 replace m0 := m0.trans m18.no
 refine L.mv Y R R (L.ex Y R R R (L.ex Y R R R (L.as Y R R (L.as Y R R (LN (ER (L.mv Y R R (L.mv Y R R (L.as Y R R (L.as Y R R (L.as Y R R (LN (E.ret ?_)))))))))))))
 obtain rfl := oi hm
 exact X.rt (.inl R) Tryz.results12 (Rs.tmp R (Rs.tmp R (Rs.tmp R Rs.nil))) R ⟨_, (s17).ren N (fun _ => 0), R, R, m0.ren hNb, R⟩

noncomputable def m_blocking_Shortest (p0 : AutT) (p1 : Int) : Option (List Int × Bool × Int) :=
 (m_automaton_Check p0).bind fun r8 =>
 if (r8 != 0) then
  some (([] : List Int), false, r8)
 else
  if ((decide (p1 < 0)) || (decide (p1 ≥ p0.2.1))) then
   some (([] : List Int), false, 2)
  else
   (m_blocking_path p0 p1 p0.2.2.1).bind fun r12 =>
   some (r12.1, r12.2, 0)
theorem m_blocking_Shortest_c {s : Sig} {p0 : AutT} {p1 : Int} {a1 : Option Addr} {c1 : Nat} {a2 : Option Addr} {c2 : Nat} {a3 : Option Addr} {c3 : Nat} {r : List Int × Bool × Int} (h1 : RdL qI s a1 c1 p0.1) (h2 : RdL qI s a2 c2 p0.2.2.1) (h3 : RdL qT s a3 c3 p0.2.2.2) (hm : m_blocking_Shortest p0 p1 = some r) :
    Calls Tryz.prog 13 #[.agg #[.slice a1 p0.1.length c1, .int .i64 p0.2.1, .slice a2 p0.2.2.1.length c2, .slice a3 p0.2.2.2.length c3], .int .i64 p1] s.w (RetS No s fun v s' => ∃ (a4 : Option Addr) (c4 : Nat), v = .tuple #[.slice a4 r.1.length c4, .bool r.2.1, .int .i64 r.2.2] ∧ RdL qI s' a4 c4 r.1) := by
 unfold m_blocking_Shortest at hm
 obtain ⟨N, hN, hNb⟩ := s.fresh
 have m0 : Mv (Up N No) s s := Mv.refl _ _
 refine E.entry Tryz.func13 R Tryz.ntmps13 R R (ER (L.box (N + 0) Y R R R fun b5 s6 m7 bx5 => ?_))
 replace h1 := h1.mono m7.z
 replace h2 := h2.mono m7.z
 replace h3 := h3.mono m7.z
 refine L.as Y R R (L.as Y R R (L.as Y R R (LN (E.seq (ER (L.lg (j := 0) (cs := [.slice a1 p0.1.length c1, .int .i64 p0.2.1, .slice a2 p0.2.2.1.length c2, .slice a3 p0.2.2.2.length c3]) bx5.mem ag30 Y R R R R R ?_))))))
 obtain ⟨r8, er8, hm⟩ := bindS hm
 refine L.ca cf16 R R Y R (m_automaton_Check_c (s := s6) (p0 := p0) h1 h2 h3 er8) R ?_
 rintro _ s9 m10 rfl
 replace m0 := (m0.trans m7.no).trans m10.no
 replace bx5 := bx5.mv m10 no_No
 replace h1 := h1.mono m10.z
 replace h2 := h2.mono m10.z
 replace h3 := h3.mono m10.z
 refine L.as Y R R (LN (ER (L.mv Y R R (L.bi Y R R R R (L.nil (X.seqN ?_))))))
 rcases ifS hm with ⟨hc, hm⟩ | ⟨hc, hm⟩
 ·refine E.cT R hc (ER (L.mv Y R R (L.as Y R R (L.as Y R R (L.as Y R R (LN (E.ret (X.seqR ?_))))))))
  obtain rfl := oi hm
  exact X.rt (.inl R) Tryz.results13 (Rs.tmp R (Rs.tmp R (Rs.tmp R Rs.nil))) R ⟨_, (s9).ren N (fun _ => 0), R, R, m0.ren hNb, ⟨none, 0, R, RdL.nil⟩⟩
 refine E.cF R hc (E.skip (X.seqN (E.seq (ER (L.mv Y R R (L.bi Y R R R R (L.mv Y R R (L.cut 5 (fun e w => ∃ (v11 : Bool), ((decide (p1 < 0)) || (decide (p1 ≥ p0.2.1))) = v11 ∧ e = (20, .bool v11) :: [(2, .pointer (some ⟨b5, 0, none⟩)), (1, .int .i64 p1)] ∧ w = s9.w) ?_ ?_))))))))
 ·rintro _ _ ⟨v11, rfl, rfl, rfl⟩
  refine L.nil (X.seqN ?_)
  rcases ifS hm with ⟨hc, hm⟩ | ⟨hc, hm⟩
  ·refine E.cT R hc (ER (L.as Y R R (L.as Y R R (L.as Y R R (LN (E.ret (X.seqR ?_)))))))
   obtain rfl := oi hm
   exact X.rt (.inl R) Tryz.results13 (Rs.tmp R (Rs.tmp R (Rs.tmp R Rs.nil))) R ⟨_, (s9).ren N (fun _ => 0), R, R, m0.ren hNb, ⟨none, 0, R, RdL.nil⟩⟩
  refine E.cF R hc (E.skip (X.seqN (ER (L.lg (j := 0) (cs := [.slice a1 p0.1.length c1, .int .i64 p0.2.1, .slice a2 p0.2.2.1.length c2, .slice a3 p0.2.2.2.length c3]) bx5.mem ag30 Y R R R R R (L.mv Y R R (L.fa fa30_2 Y R R (L.ld (j := 2) bx5.mem nag27 Y R R R R ?_)))))))
  obtain ⟨r12, er12, hm⟩ := bindS hm
  refine L.ca cf33 R R Y R (m_blocking_path_c (s := s9) (p0 := p0) (p1 := p1) (p2 := p0.2.2.1) h1 h2 h3 h2 er12) R ?_
  rintro _ s13 m14 ⟨a15, c15, rfl, h15⟩
  replace m0 := m0.trans m14.no
  refine L.mv Y R R (L.ex Y R R R (L.ex Y R R R (L.as Y R R (L.as Y R R (LN (ER (L.mv Y R R (L.mv Y R R (L.as Y R R (L.as Y R R (L.as Y R R (LN (E.ret ?_)))))))))))))
  obtain rfl := oi hm
  exact X.rt (.inl R) Tryz.results13 (Rs.tmp R (Rs.tmp R (Rs.tmp R Rs.nil))) R ⟨_, (s13).ren N (fun _ => 0), R, R, m0.ren hNb, ⟨a15, c15, R, (h15.ren hN)⟩⟩
 intro J16
 rcases Bool.eq_false_or_eq_true (decide (p1 < 0)) with hc | hc
 ·exact L.know (d := 15) R hc (L.skip R R R R (L.skip R R R R (L.skip R R R R (L.skip R R R R (L.pkT Y R R R R (L.sb (J16 _ _ ⟨true, (orT hc).symm, R, R⟩) R))))))
 exact L.know (d := 15) R hc (L.mv (Wt.mk R R) R R (L.fa fa30_1 (Wt.mk R R) R R (L.ld (j := 1) bx5.mem nag3 (Wt.mk R R) R R R R (L.bi (Wt.mk R R) R R R R (L.pkF Y R R R R (L.sb (J16 _ _ ⟨(decide (p1 ≥ p0.2.1)), (orF hc).symm, R, R⟩) R))))))

theorem ag25 : Ag Tryz.prog 25 26 := Ag.mk' Tryz.underlying25 rfl (by kernel_rfl)
theorem cf11 : Cf Tryz.prog 11 := Cf.mk Tryz.func11 (by kernel_rfl) (by kernel_rfl)
theorem cf12 : Cf Tryz.prog 12 := Cf.mk Tryz.func12 (by kernel_rfl) (by kernel_rfl)
theorem cf13 : Cf Tryz.prog 13 := Cf.mk Tryz.func13 (by kernel_rfl) (by kernel_rfl)
theorem cf6 : Cf Tryz.prog 6 := Cf.mk Tryz.func6 (by kernel_rfl) (by kernel_rfl)
theorem cf7 : Cf Tryz.prog 7 := Cf.mk Tryz.func7 (by kernel_rfl) (by kernel_rfl)
theorem cf8 : Cf Tryz.prog 8 := Cf.mk Tryz.func8 (by kernel_rfl) (by kernel_rfl)
theorem cf9 : Cf Tryz.prog 9 := Cf.mk Tryz.func9 (by kernel_rfl) (by kernel_rfl)
noncomputable def m_overseerlaw24_BlockingTrims_j1 (st80 : Int) : Option (Int ⊕ (Unit ⊕ Unit)) :=
 some (.inl (W (st80 + 1)))
noncomputable def m_overseerlaw24_BlockingTrims_l1 (r7 : AutT) (st80 : Int) : Option (Int ⊕ (Unit ⊕ Unit)) :=
 if decide (st80 ≤ 5) then
  (m_blocking_Escape r7 st80).bind fun r90 =>
  if (r90.2.2 != 0) then
   some (.inr (.inr (())))
  else
   if (!r90.2.1) then
    m_overseerlaw24_BlockingTrims_j1 st80
   else
    (m_automaton_Run r7 0 r90.1).bind fun r94 =>
    (m_blocking_Shortest r7 r94.1).bind fun r97 =>
    if ((((r94.2.2 != 0) || (r94.2.1 != (r90.1.length : Int))) || (r97.2.2 != 0)) || r97.2.1) then
     some (.inr (.inr (())))
    else
     m_overseerlaw24_BlockingTrims_j1 st80
 else
  some (.inr (.inl ()))
noncomputable def m_overseerlaw24_BlockingTrims (p0 : Int × Int × ((Int × Int × Int × Int) × (Int × Int × Int × Int) × (Int × Int × Int × Int) × (Int × Int × Int × Int) × (Int × Int × Int × Int) × (Int × Int × Int × Int))) : Option Bool :=
 (m_overseerlaw24_Known).bind fun r4 =>
 if (!r4) then
  some false
 else
  (m_overseerlaw04_Make p0).bind fun r7 =>
  (m_reach_Trim r7).bind fun r18 =>
  (m_automaton_Closed r7).bind fun r29 =>
  (m_blocking_Nonblocking ([r18.1] : List AutT)).bind fun r43 =>
  (m_blocking_Nonblocking ([r29.1] : List AutT)).bind fun r50 =>
  if ((((((r18.2 != 0) || (r29.2 != 0)) || (r43.2.2 != 0)) || (r50.2.2 != 0)) || (!r43.2.1)) || (!r50.2.1)) then
   some false
  else
   (iter (m_overseerlaw24_BlockingTrims_l1 r7) 3).bind fun o80 =>
   match o80 with
   | .inl u82 =>
    some true
   | .inr (u85) =>
    some false
theorem m_overseerlaw24_BlockingTrims_c {s : Sig} {p0 : Int × Int × ((Int × Int × Int × Int) × (Int × Int × Int × Int) × (Int × Int × Int × Int) × (Int × Int × Int × Int) × (Int × Int × Int × Int) × (Int × Int × Int × Int))} {r : Bool} (hm : m_overseerlaw24_BlockingTrims p0 = some r) :
    Calls Tryz.prog 3 #[.agg #[.int .u8 p0.1, .int .u8 p0.2.1, .int .u8 p0.2.2.1.1, .int .u8 p0.2.2.1.2.1, .int .u8 p0.2.2.1.2.2.1, .int .u8 p0.2.2.1.2.2.2, .int .u8 p0.2.2.2.1.1, .int .u8 p0.2.2.2.1.2.1, .int .u8 p0.2.2.2.1.2.2.1, .int .u8 p0.2.2.2.1.2.2.2, .int .u8 p0.2.2.2.2.1.1, .int .u8 p0.2.2.2.2.1.2.1, .int .u8 p0.2.2.2.2.1.2.2.1, .int .u8 p0.2.2.2.2.1.2.2.2, .int .u8 p0.2.2.2.2.2.1.1, .int .u8 p0.2.2.2.2.2.1.2.1, .int .u8 p0.2.2.2.2.2.1.2.2.1, .int .u8 p0.2.2.2.2.2.1.2.2.2, .int .u8 p0.2.2.2.2.2.2.1.1, .int .u8 p0.2.2.2.2.2.2.1.2.1, .int .u8 p0.2.2.2.2.2.2.1.2.2.1, .int .u8 p0.2.2.2.2.2.2.1.2.2.2, .int .u8 p0.2.2.2.2.2.2.2.1, .int .u8 p0.2.2.2.2.2.2.2.2.1, .int .u8 p0.2.2.2.2.2.2.2.2.2.1, .int .u8 p0.2.2.2.2.2.2.2.2.2.2]] s.w (RetS No s fun v s' => v = .bool r) := by
 unfold m_overseerlaw24_BlockingTrims at hm
 obtain ⟨N, hN, hNb⟩ := s.fresh
 have m0 : Mv (Up N No) s s := Mv.refl _ _
 refine E.entry Tryz.func3 R Tryz.ntmps3 R R (ER (L.box (N + 0) Y R R R fun b1 s2 m3 bx1 => ?_))
 refine L.as Y R R (LN (E.seq (E.seq (E.reg ?_))))
 obtain ⟨r4, er4, hm⟩ := bindS hm
 refine L.ca cf6 R R Y R (m_overseerlaw24_Known_c (s := s2) er4) R ?_
 rintro _ s5 m6 rfl
 replace m0 := (m0.trans m3.no).trans m6.no
 replace bx1 := bx1.mv m6 no_No
 refine L.not Y R R (L.nil (X.seqN ?_))
 rcases ifS hm with ⟨hc, hm⟩ | ⟨hc, hm⟩
 ·refine E.cT R hc (ER (L.as Y R R (LN (E.ret (X.seqR ?_)))))
  obtain rfl := oi hm
  exact X.rt (.inl R) Tryz.results3 (Rs.tmp R Rs.nil) R ⟨_, (s5).ren N (fun _ => 0), R, R, m0.ren hNb, R⟩
 refine E.cF R hc (E.skip (X.seqN (ER (L.lg (j := 0) (cs := [.int .u8 p0.1, .int .u8 p0.2.1, .int .u8 p0.2.2.1.1, .int .u8 p0.2.2.1.2.1, .int .u8 p0.2.2.1.2.2.1, .int .u8 p0.2.2.1.2.2.2, .int .u8 p0.2.2.2.1.1, .int .u8 p0.2.2.2.1.2.1, .int .u8 p0.2.2.2.1.2.2.1, .int .u8 p0.2.2.2.1.2.2.2, .int .u8 p0.2.2.2.2.1.1, .int .u8 p0.2.2.2.2.1.2.1, .int .u8 p0.2.2.2.2.1.2.2.1, .int .u8 p0.2.2.2.2.1.2.2.2, .int .u8 p0.2.2.2.2.2.1.1, .int .u8 p0.2.2.2.2.2.1.2.1, .int .u8 p0.2.2.2.2.2.1.2.2.1, .int .u8 p0.2.2.2.2.2.1.2.2.2, .int .u8 p0.2.2.2.2.2.2.1.1, .int .u8 p0.2.2.2.2.2.2.1.2.1, .int .u8 p0.2.2.2.2.2.2.1.2.2.1, .int .u8 p0.2.2.2.2.2.2.1.2.2.2, .int .u8 p0.2.2.2.2.2.2.2.1, .int .u8 p0.2.2.2.2.2.2.2.2.1, .int .u8 p0.2.2.2.2.2.2.2.2.2.1, .int .u8 p0.2.2.2.2.2.2.2.2.2.2]) bx1.mem ag25 Y R R R R R ?_))))
 obtain ⟨r7, er7, hm⟩ := bindS hm
 refine L.ca cf7 R R Y R (m_overseerlaw04_Make_c (s := s5) (p0 := p0) (u1 := 0) (u2 := 0) er7) R ?_
 rintro _ s8 m9 ⟨a10, c10, a11, c11, a12, c12, rfl, h10, h11, h12⟩
 refine L.al (N + 1) zz30 R Y R fun b13 s14 m15 bx13 => ?_
 refine L.st (c := [.slice a10 r7.1.length c10, .int .i64 r7.2.1, .slice a11 r7.2.2.1.length c11, .slice a12 r7.2.2.2.length c12]) (cs' := #[.slice a10 r7.1.length c10, .int .i64 r7.2.1, .slice a11 r7.2.2.1.length c11, .slice a12 r7.2.2.2.length c12]) bx13 ag30.sz Y R R R R R (nb R) R fun s16 m17 bx13 => ?_
 replace h10 := (h10.mono m15.z).mono (m17.le (tg0 hN))
 replace h11 := ((h11.p).mono m15.z).mono (m17.le (tg0 hN))
 replace h12 := ((h12.p).mono m15.z).mono (m17.le (tg0 hN))
 refine LN (ER (L.lg (j := 0) (cs := [.slice a10 r7.1.length c10, .int .i64 r7.2.1, .slice a11 r7.2.2.1.length c11, .slice a12 r7.2.2.2.length c12]) bx13.mem ag30 Y R R R R R ?_))
 obtain ⟨r18, er18, hm⟩ := bindS hm
 refine L.ca cf8 R R Y R (m_reach_Trim_c (s := s16) (p0 := r7) (u0 := 0) (u1 := 0) (u2 := 0) h10 h11 h12 er18) R ?_
 rintro _ s19 m20 ⟨a21, c21, a22, c22, a23, c23, rfl, h21, h22, h23⟩
 refine L.mv Y R R (L.ex Y R R R (L.ex Y R R R (L.al (N + 2) zz30 R Y R fun b24 s25 m26 bx24 => ?_)))
 refine L.st (c := [.slice a21 r18.1.1.length c21, .int .i64 r18.1.2.1, .slice a22 r18.1.2.2.1.length c22, .slice a23 r18.1.2.2.2.length c23]) (cs' := #[.slice a21 r18.1.1.length c21, .int .i64 r18.1.2.1, .slice a22 r18.1.2.2.1.length c22, .slice a23 r18.1.2.2.2.length c23]) bx24 ag30.sz Y R R R R R (nb R) R fun s27 m28 bx24 => ?_
 replace bx13 := ((bx13.mv m20 no_No).mv m26 no_No).mv m28 (tq R)
 replace h10 := ((h10.mono m20.z).mono m26.z).mono (m28.le (tg0 hN))
 replace h11 := ((h11.mono m20.z).mono m26.z).mono (m28.le (tg0 hN))
 replace h12 := ((h12.mono m20.z).mono m26.z).mono (m28.le (tg0 hN))
 refine L.as Y R R (LN (ER (L.lg (j := 0) (cs := [.slice a10 r7.1.length c10, .int .i64 r7.2.1, .slice a11 r7.2.2.1.length c11, .slice a12 r7.2.2.2.length c12]) bx13.mem ag30 Y R R R R R ?_)))
 obtain ⟨r29, er29, hm⟩ := bindS hm
 refine L.ca cf9 R R Y R (m_automaton_Closed_c (s := s27) (p0 := r7) (u0 := 0) (u1 := 0) (u2 := 0) h10 h11 h12 er29) R ?_
 rintro _ s30 m31 ⟨a32, c32, a33, c33, a34, c34, rfl, h32, h33, h34⟩
 refine L.mv Y R R (L.ex Y R R R (L.ex Y R R R (L.al (N + 3) zz30 R Y R fun b35 s36 m37 bx35 => ?_)))
 refine L.st (c := [.slice a32 r29.1.1.length c32, .int .i64 r29.1.2.1, .slice a33 r29.1.2.2.1.length c33, .slice a34 r29.1.2.2.2.length c34]) (cs' := #[.slice a32 r29.1.1.length c32, .int .i64 r29.1.2.1, .slice a33 r29.1.2.2.1.length c33, .slice a34 r29.1.2.2.2.length c34]) bx35 ag30.sz Y R R R R R (nb R) R fun s38 m39 bx35 => ?_
 replace bx24 := ((bx24.mv m31 no_No).mv m37 no_No).mv m39 (tq R)
 refine L.as Y R R (LN (ER (L.lg (j := 0) (cs := [.slice a21 r18.1.1.length c21, .int .i64 r18.1.2.1, .slice a22 r18.1.2.2.1.length c22, .slice a23 r18.1.2.2.2.length c23]) bx24.mem ag30 Y R R R R R (L.bsE (k := 1) (cs := [.slice a21 r18.1.1.length c21, .int .i64 r18.1.2.1, .slice a22 r18.1.2.2.1.length c22, .slice a23 r18.1.2.2.2.length c23]) 0 bs37 (nb R) Y R R R R fun b40 s41 m42 bx40 => ?_))))
 replace h21 := ((((((h21.p).mono m26.z).mono (m28.le (tg0 hN))).mono m31.z).mono m37.z).mono (m39.le (tg0 hN))).mono m42.z
 replace h22 := ((((((h22.p).mono m26.z).mono (m28.le (tg0 hN))).mono m31.z).mono m37.z).mono (m39.le (tg0 hN))).mono m42.z
 replace h23 := ((((((h23.p).mono m26.z).mono (m28.le (tg0 hN))).mono m31.z).mono m37.z).mono (m39.le (tg0 hN))).mono m42.z
 have h40 := Bx.rdL (r := (rP (rL qI) (rP qI (rP (rL qI) (rL qT))))) (xs := ([r18.1] : List AutT)) bx40 ⟨[.slice a21 r18.1.1.length c21, .int .i64 r18.1.2.1, .slice a22 r18.1.2.2.1.length c22, .slice a23 r18.1.2.2.2.length c23], _, R, ⟨[.slice a21 r18.1.1.length c21], [.int .i64 r18.1.2.1, .slice a22 r18.1.2.2.1.length c22, .slice a23 r18.1.2.2.2.length c23], R, ⟨_, _, R, h21⟩, ⟨[.int .i64 r18.1.2.1], [.slice a22 r18.1.2.2.1.length c22, .slice a23 r18.1.2.2.2.length c23], R, R, ⟨[.slice a22 r18.1.2.2.1.length c22], [.slice a23 r18.1.2.2.2.length c23], R, ⟨_, _, R, h22⟩, ⟨_, _, R, h23⟩⟩⟩⟩, R⟩ (nb R)
 obtain ⟨r43, er43, hm⟩ := bindS hm
 refine L.ca cf10 R R Y R (m_blocking_Nonblocking_c (s := s41) (p0 := ([r18.1] : List AutT)) h40 er43) R ?_
 rintro _ s44 m45 ⟨a46, c46, rfl, h46⟩
 replace bx35 := (bx35.mv m42 no_No).mv m45 no_No
 refine L.mv Y R R (L.ex Y R R R (L.ex Y R R R (L.ex Y R R R (L.as Y R R (L.as Y R R (L.as Y R R (LN (ER (L.lg (j := 0) (cs := [.slice a32 r29.1.1.length c32, .int .i64 r29.1.2.1, .slice a33 r29.1.2.2.1.length c33, .slice a34 r29.1.2.2.2.length c34]) bx35.mem ag30 Y R R R R R (L.bsE (k := 1) (cs := [.slice a32 r29.1.1.length c32, .int .i64 r29.1.2.1, .slice a33 r29.1.2.2.1.length c33, .slice a34 r29.1.2.2.2.length c34]) 0 bs37 (nb R) Y R R R R fun b47 s48 m49 bx47 => ?_))))))))))
 replace h32 := (((((h32.p).mono m37.z).mono (m39.le (tg0 hN))).mono m42.z).mono m45.z).mono m49.z
 replace h33 := (((((h33.p).mono m37.z).mono (m39.le (tg0 hN))).mono m42.z).mono m45.z).mono m49.z
 replace h34 := (((((h34.p).mono m37.z).mono (m39.le (tg0 hN))).mono m42.z).mono m45.z).mono m49.z
 have h47 := Bx.rdL (r := (rP (rL qI) (rP qI (rP (rL qI) (rL qT))))) (xs := ([r29.1] : List AutT)) bx47 ⟨[.slice a32 r29.1.1.length c32, .int .i64 r29.1.2.1, .slice a33 r29.1.2.2.1.length c33, .slice a34 r29.1.2.2.2.length c34], _, R, ⟨[.slice a32 r29.1.1.length c32], [.int .i64 r29.1.2.1, .slice a33 r29.1.2.2.1.length c33, .slice a34 r29.1.2.2.2.length c34], R, ⟨_, _, R, h32⟩, ⟨[.int .i64 r29.1.2.1], [.slice a33 r29.1.2.2.1.length c33, .slice a34 r29.1.2.2.2.length c34], R, R, ⟨[.slice a33 r29.1.2.2.1.length c33], [.slice a34 r29.1.2.2.2.length c34], R, ⟨_, _, R, h33⟩, ⟨_, _, R, h34⟩⟩⟩⟩, R⟩ (nb R)
 obtain ⟨r50, er50, hm⟩ := bindS hm
 refine L.ca cf10 R R Y R (m_blocking_Nonblocking_c (s := s48) (p0 := ([r29.1] : List AutT)) h47 er50) R ?_
 rintro _ s51 m52 ⟨a53, c53, rfl, h53⟩
 replace m0 := ((((((((((((m0.trans m9.no).trans m15.no).trans (m17.one up)).trans m20.no).trans m26.no).trans (m28.one up)).trans m31.no).trans m37.no).trans (m39.one up)).trans m42.no).trans m45.no).trans m49.no).trans m52.no
 replace bx13 := ((((((bx13.mv m31 no_No).mv m37 no_No).mv m39 (tq R)).mv m42 no_No).mv m45 no_No).mv m49 no_No).mv m52 no_No
 replace h10 := ((((((h10.mono m31.z).mono m37.z).mono (m39.le (tg0 hN))).mono m42.z).mono m45.z).mono m49.z).mono m52.z
 replace h11 := ((((((h11.mono m31.z).mono m37.z).mono (m39.le (tg0 hN))).mono m42.z).mono m45.z).mono m49.z).mono m52.z
 replace h12 := ((((((h12.mono m31.z).mono m37.z).mono (m39.le (tg0 hN))).mono m42.z).mono m45.z).mono m49.z).mono m52.z
 refine L.mv Y R R (L.ex Y R R R (L.ex Y R R R (L.ex Y R R R (L.as Y R R (L.as Y R R (L.as Y R R (LN (E.seq (ER (L.mv Y R R (L.bi Y R R R R (L.mv Y R R (L.cut 3 (fun e w => ∃ (v54 : Bool), ((r18.2 != 0) || (r29.2 != 0)) = v54 ∧ e = (57, .bool v54) :: [(13, .int .i64 r50.2.2), (12, .bool r50.2.1), (10, .int .i64 r43.2.2), (9, .bool r43.2.1), (3, .pointer (some ⟨b13, 0, none⟩))] ∧ w = s51.w) ?_ ?_)))))))))))))
 ·rintro _ _ ⟨v54, rfl, rfl, rfl⟩
  refine L.mv Y R R (L.cut 3 (fun e w => ∃ (v55 : Bool), (((r18.2 != 0) || (r29.2 != 0)) || (r43.2.2 != 0)) = v55 ∧ e = (61, .bool v55) :: [(13, .int .i64 r50.2.2), (12, .bool r50.2.1), (9, .bool r43.2.1), (3, .pointer (some ⟨b13, 0, none⟩))] ∧ w = s51.w) ?_ ?_)
  ·rintro _ _ ⟨v55, rfl, rfl, rfl⟩
   refine L.mv Y R R (L.cut 3 (fun e w => ∃ (v56 : Bool), ((((r18.2 != 0) || (r29.2 != 0)) || (r43.2.2 != 0)) || (r50.2.2 != 0)) = v56 ∧ e = (65, .bool v56) :: [(12, .bool r50.2.1), (9, .bool r43.2.1), (3, .pointer (some ⟨b13, 0, none⟩))] ∧ w = s51.w) ?_ ?_)
   ·rintro _ _ ⟨v56, rfl, rfl, rfl⟩
    refine L.mv Y R R (L.cut 3 (fun e w => ∃ (v57 : Bool), (((((r18.2 != 0) || (r29.2 != 0)) || (r43.2.2 != 0)) || (r50.2.2 != 0)) || (!r43.2.1)) = v57 ∧ e = (69, .bool v57) :: [(12, .bool r50.2.1), (3, .pointer (some ⟨b13, 0, none⟩))] ∧ w = s51.w) ?_ ?_)
    ·rintro _ _ ⟨v57, rfl, rfl, rfl⟩
     refine L.mv Y R R (L.cut 3 (fun e w => ∃ (v58 : Bool), ((((((r18.2 != 0) || (r29.2 != 0)) || (r43.2.2 != 0)) || (r50.2.2 != 0)) || (!r43.2.1)) || (!r50.2.1)) = v58 ∧ e = (73, .bool v58) :: [(3, .pointer (some ⟨b13, 0, none⟩))] ∧ w = s51.w) ?_ ?_)
     ·rintro _ _ ⟨v58, rfl, rfl, rfl⟩
      refine L.nil (X.seqN ?_)
      rcases ifS hm with ⟨hc, hm⟩ | ⟨hc, hm⟩
      ·refine E.cT R hc (ER (L.as Y R R (LN (E.ret (X.seqR ?_)))))
       obtain rfl := oi hm
       exact X.rt (.inl R) Tryz.results3 (Rs.tmp R Rs.nil) R ⟨_, (s51).ren N (fun _ => 0), R, R, m0.ren hNb, R⟩
      refine E.cF R hc (E.skip (X.seqN (E.seq (ER (L.as Y R R (LN (E.block ?_)))))))
      obtain ⟨o80, eo80, hm⟩ := bindS hm
      refine E.cut (x := .exit 0) (fun e w => ∃ (s83 : Sig) (u82 : Unit), o80 = .inl u82 ∧ Mv (Up N No) s s83 ∧ e = [] ∧ w = s83.w) ?_ ?_
      ·rintro _ _ ⟨s83, u82, rfl, m0, rfl, rfl⟩
       dsimp only at hm
       refine X.blkE (X.seqN (ER (L.as Y R R (LN (E.ret ?_)))))
       obtain rfl := oi hm
       exact X.rt (.inl R) Tryz.results3 (Rs.tmp R Rs.nil) R ⟨_, (s83).ren N (fun _ => 0), R, R, m0.ren hNb, R⟩
      intro K84
      refine E.cut (x := .ret) (fun e w => ∃ (s86 : Sig) (u85 : Unit), o80 = .inr (u85) ∧ Mv (Up N No) s s86 ∧ e = [(2, .bool false)] ∧ w = s86.w) ?_ ?_
      ·rintro _ _ ⟨s86, u85, rfl, m0, rfl, rfl⟩
       dsimp only at hm
       refine X.blkR (X.seqR ?_)
       obtain rfl := oi hm
       exact X.rt (.inl R) Tryz.results3 (Rs.tmp R Rs.nil) R ⟨_, (s86).ren N (fun _ => 0), R, R, m0.ren hNb, R⟩
      intro K87
      refine E.iter (fun (st80 : Int) (e : List (Nat × Value)) (w : World) => ∃ (s81 : Sig), Mv (Up N No) s s81 ∧ RdL qI s81 a10 c10 r7.1 ∧ RdL qI s81 a11 c11 r7.2.2.1 ∧ RdL qT s81 a12 c12 r7.2.2.2 ∧ Bx s81 (N + 1) b13 #[.slice a10 r7.1.length c10, .int .i64 r7.2.1, .slice a11 r7.2.2.1.length c11, .slice a12 r7.2.2.2.length c12] 30 ∧ e = [(14, .int .i64 st80), (3, .pointer (some ⟨b13, 0, none⟩))] ∧ w = s81.w) eo80 ⟨s51, m0, h10, h11, h12, bx13, R, R⟩ (Sub.rf R) ?_
      rintro st80 res80 hm ih80 ho80 _ _ ⟨s81, m0, h10, h11, h12, bx13, rfl, rfl⟩
      unfold m_overseerlaw24_BlockingTrims_l1 at hm
      refine E.seq (ER (L.mv Y R R (L.bi Y R R R R (L.nil (X.seqN ?_)))))
      rcases ifS hm with ⟨hc, hm⟩ | ⟨hc, hm⟩
      ·refine E.cT R hc (E.skip (X.seqN (E.seqJ (fun e w => ∃ (s88 : Sig), m_overseerlaw24_BlockingTrims_j1 st80 = some res80 ∧ Mv (Up N No) s s88 ∧ RdL qI s88 a10 c10 r7.1 ∧ RdL qI s88 a11 c11 r7.2.2.1 ∧ RdL qT s88 a12 c12 r7.2.2.2 ∧ Bx s88 (N + 1) b13 #[.slice a10 r7.1.length c10, .int .i64 r7.2.1, .slice a11 r7.2.2.1.length c11, .slice a12 r7.2.2.2.length c12] 30 ∧ e = [(14, .int .i64 st80), (3, .pointer (some ⟨b13, 0, none⟩))] ∧ w = s88.w) ?_ ?_)))
       ·rintro _ _ ⟨s88, hm, m0, h10, h11, h12, bx13, rfl, rfl⟩
        unfold m_overseerlaw24_BlockingTrims_j1 at hm
        exact E.reg (L.mv Y R R (L.bi Y R R R R (L.as Y R R (L.nil (X.sub (ih80 _ (oi hm).symm _ _ ⟨s88, m0, h10, h11, h12, bx13, R, R⟩) (Sub.rf R))))))
       intro Jj89
       refine E.block (ER (L.lg (j := 0) (cs := [.slice a10 r7.1.length c10, .int .i64 r7.2.1, .slice a11 r7.2.2.1.length c11, .slice a12 r7.2.2.2.length c12]) bx13.mem ag30 Y R R R R R (L.mv Y R R ?_)))
       obtain ⟨r90, er90, hm⟩ := bindS hm
       refine L.ca cf11 R R Y R (m_blocking_Escape_c (s := s81) (p0 := r7) (p1 := st80) h10 h11 h12 er90) R ?_
       rintro _ s91 m92 ⟨a93, c93, rfl, h93⟩
       replace m0 := m0.trans m92.no
       replace bx13 := bx13.mv m92 no_No
       replace h10 := h10.mono m92.z
       replace h11 := h11.mono m92.z
       replace h12 := h12.mono m92.z
       refine L.mv Y R R (L.ex Y R R R (L.ex Y R R R (L.ex Y R R R (L.as Y R R (L.as Y R R (L.as Y R R (LN (E.seq (ER (L.mv Y R R (L.bi Y R R R R (L.nil (X.seqN ?_)))))))))))))
       rcases ifS hm with ⟨hc, hm⟩ | ⟨hc, hm⟩
       ·refine E.cT R hc (ER (L.as Y R R (LN (E.ret (X.seqR (X.blkR (X.seqR (X.seqR ?_))))))))
        have hx := ho80 _ (oi hm).symm
        exact X.sub (K87 _ _ ⟨s91, (), hx.symm, m0, R, R⟩) (Sub.rf R)
       refine E.cF R hc (E.skip (X.seqN (E.seq (ER (L.mv Y R R (L.not Y R R (L.nil (X.seqN ?_))))))))
       rcases ifS hm with ⟨hc, hm⟩ | ⟨hc, hm⟩
       ·exact E.cT R hc (E.exit (X.seqX (X.blkE (X.sub (Jj89 _ _ ⟨s91, hm, m0, h10, h11, h12, bx13, R, R⟩) (Sub.rf R)))))
       refine E.cF R hc (E.skip (X.seqN (ER (L.lg (j := 0) (cs := [.slice a10 r7.1.length c10, .int .i64 r7.2.1, .slice a11 r7.2.2.1.length c11, .slice a12 r7.2.2.2.length c12]) bx13.mem ag30 Y R R R R R (L.mv Y R R ?_)))))
       obtain ⟨r94, er94, hm⟩ := bindS hm
       refine L.ca cf12 R R Y R (m_automaton_Run_c (s := s91) (p0 := r7) (p1 := 0) (p2 := r90.1) h10 h11 h12 h93 er94) R ?_
       rintro _ s95 m96 rfl
       replace bx13 := bx13.mv m96 no_No
       replace h10 := h10.mono m96.z
       replace h11 := h11.mono m96.z
       replace h12 := h12.mono m96.z
       refine L.mv Y R R (L.ex Y R R R (L.ex Y R R R (L.ex Y R R R (L.as Y R R (L.as Y R R (L.as Y R R (LN (ER (L.lg (j := 0) (cs := [.slice a10 r7.1.length c10, .int .i64 r7.2.1, .slice a11 r7.2.2.1.length c11, .slice a12 r7.2.2.2.length c12]) bx13.mem ag30 Y R R R R R (L.mv Y R R ?_))))))))))
       obtain ⟨r97, er97, hm⟩ := bindS hm
       refine L.ca cf13 R R Y R (m_blocking_Shortest_c (s := s95) (p0 := r7) (p1 := r94.1) h10 h11 h12 er97) R ?_
       rintro _ s98 m99 ⟨a100, c100, rfl, h100⟩
       replace m0 := (m0.trans m96.no).trans m99.no
       replace bx13 := bx13.mv m99 no_No
       replace h10 := h10.mono m99.z
       replace h11 := h11.mono m99.z
       replace h12 := h12.mono m99.z
       refine L.mv Y R R (L.ex Y R R R (L.ex Y R R R (L.ex Y R R R (L.as Y R R (L.as Y R R (L.as Y R R (LN (ER (L.mv Y R R (L.bi Y R R R R (L.mv Y R R (L.cut 5 (fun e w => ∃ (v101 : Bool), ((r94.2.2 != 0) || (r94.2.1 != (r90.1.length : Int))) = v101 ∧ e = (110, .bool v101) :: [(23, .int .i64 r97.2.2), (22, .bool r97.2.1), (14, .int .i64 st80), (3, .pointer (some ⟨b13, 0, none⟩))] ∧ w = s98.w) ?_ ?_))))))))))))
       ·rintro _ _ ⟨v101, rfl, rfl, rfl⟩
        refine L.mv Y R R (L.cut 3 (fun e w => ∃ (v102 : Bool), (((r94.2.2 != 0) || (r94.2.1 != (r90.1.length : Int))) || (r97.2.2 != 0)) = v102 ∧ e = (114, .bool v102) :: [(22, .bool r97.2.1), (14, .int .i64 st80), (3, .pointer (some ⟨b13, 0, none⟩))] ∧ w = s98.w) ?_ ?_)
        ·rintro _ _ ⟨v102, rfl, rfl, rfl⟩
         refine L.mv Y R R (L.cut 2 (fun e w => ∃ (v103 : Bool), ((((r94.2.2 != 0) || (r94.2.1 != (r90.1.length : Int))) || (r97.2.2 != 0)) || r97.2.1) = v103 ∧ e = (117, .bool v103) :: [(14, .int .i64 st80), (3, .pointer (some ⟨b13, 0, none⟩))] ∧ w = s98.w) ?_ ?_)
         ·rintro _ _ ⟨v103, rfl, rfl, rfl⟩
          refine L.nil (X.seqN ?_)
          rcases ifS hm with ⟨hc, hm⟩ | ⟨hc, hm⟩
          ·refine E.cT R hc (ER (L.as Y R R (LN (E.ret (X.blkR (X.seqR (X.seqR ?_)))))))
           have hx := ho80 _ (oi hm).symm
           exact X.sub (K87 _ _ ⟨s98, (), hx.symm, m0, R, R⟩) (Sub.rf R)
          exact E.cF R hc (E.skip (X.blkN (X.sub (Jj89 _ _ ⟨s98, hm, m0, h10, h11, h12, bx13, R, R⟩) (Sub.rf R))))
         intro J104
         rcases Bool.eq_false_or_eq_true (((r94.2.2 != 0) || (r94.2.1 != (r90.1.length : Int))) || (r97.2.2 != 0)) with hc | hc
         ·exact L.know (d := 115) R hc (L.skip R R R R (L.pkT Y R R R R (L.sb (J104 _ _ ⟨true, (orT hc).symm, R, R⟩) R)))
         exact L.know (d := 115) R hc (L.mv (Wt.mk R R) R R (L.pkF Y R R R R (L.sb (J104 _ _ ⟨r97.2.1, (orF hc).symm, R, R⟩) R)))
        intro J105
        rcases Bool.eq_false_or_eq_true ((r94.2.2 != 0) || (r94.2.1 != (r90.1.length : Int))) with hc | hc
        ·exact L.know (d := 111) R hc (L.skip R R R R (L.skip R R R R (L.pkT Y R R R R (L.sb (J105 _ _ ⟨true, (orT hc).symm, R, R⟩) R))))
        exact L.know (d := 111) R hc (L.mv (Wt.mk R R) R R (L.bi (Wt.mk R R) R R R R (L.pkF Y R R R R (L.sb (J105 _ _ ⟨(r97.2.2 != 0), (orF hc).symm, R, R⟩) R))))
       intro J106
       rcases Bool.eq_false_or_eq_true (r94.2.2 != 0) with hc | hc
       ·exact L.know (d := 105) R hc (L.skip R R R R (L.skip R R R R (L.skip R R R R (L.skip R R R R (L.pkT Y R R R R (L.sb (J106 _ _ ⟨true, (orT hc).symm, R, R⟩) R))))))
       exact L.know (d := 105) R hc (L.mv (Wt.mk R R) R R (L.mv (Wt.mk R R) R R (L.len sl27 (Wt.mk R R) R R (L.bi (Wt.mk R R) R R R R (L.pkF Y R R R R (L.sb (J106 _ _ ⟨(r94.2.1 != (r90.1.length : Int)), (orF hc).symm, R, R⟩) R))))))
      refine E.cF R hc (E.exit (X.seqX (X.seqX ?_)))
      have hx := ho80 _ (oi hm).symm
      exact X.sub (K84 _ _ ⟨s81, (), hx.symm, m0, R, R⟩) Sub.nil
     intro J107
     rcases Bool.eq_false_or_eq_true (((((r18.2 != 0) || (r29.2 != 0)) || (r43.2.2 != 0)) || (r50.2.2 != 0)) || (!r43.2.1)) with hc | hc
     ·exact L.know (d := 70) R hc (L.skip R R R R (L.skip R R R R (L.pkT Y R R R R (L.sb (J107 _ _ ⟨true, (orT hc).symm, R, R⟩) R))))
     exact L.know (d := 70) R hc (L.mv (Wt.mk R R) R R (L.not (Wt.mk R R) R R (L.pkF Y R R R R (L.sb (J107 _ _ ⟨(!r50.2.1), (orF hc).symm, R, R⟩) R))))
    intro J108
    rcases Bool.eq_false_or_eq_true ((((r18.2 != 0) || (r29.2 != 0)) || (r43.2.2 != 0)) || (r50.2.2 != 0)) with hc | hc
    ·exact L.know (d := 66) R hc (L.skip R R R R (L.skip R R R R (L.pkT Y R R R R (L.sb (J108 _ _ ⟨true, (orT hc).symm, R, R⟩) R))))
    exact L.know (d := 66) R hc (L.mv (Wt.mk R R) R R (L.not (Wt.mk R R) R R (L.pkF Y R R R R (L.sb (J108 _ _ ⟨(!r43.2.1), (orF hc).symm, R, R⟩) R))))
   intro J109
   rcases Bool.eq_false_or_eq_true (((r18.2 != 0) || (r29.2 != 0)) || (r43.2.2 != 0)) with hc | hc
   ·exact L.know (d := 62) R hc (L.skip R R R R (L.skip R R R R (L.pkT Y R R R R (L.sb (J109 _ _ ⟨true, (orT hc).symm, R, R⟩) R))))
   exact L.know (d := 62) R hc (L.mv (Wt.mk R R) R R (L.bi (Wt.mk R R) R R R R (L.pkF Y R R R R (L.sb (J109 _ _ ⟨(r50.2.2 != 0), (orF hc).symm, R, R⟩) R))))
  intro J110
  rcases Bool.eq_false_or_eq_true ((r18.2 != 0) || (r29.2 != 0)) with hc | hc
  ·exact L.know (d := 58) R hc (L.skip R R R R (L.skip R R R R (L.pkT Y R R R R (L.sb (J110 _ _ ⟨true, (orT hc).symm, R, R⟩) R))))
  exact L.know (d := 58) R hc (L.mv (Wt.mk R R) R R (L.bi (Wt.mk R R) R R R R (L.pkF Y R R R R (L.sb (J110 _ _ ⟨(r43.2.2 != 0), (orF hc).symm, R, R⟩) R))))
 intro J111
 rcases Bool.eq_false_or_eq_true (r18.2 != 0) with hc | hc
 ·exact L.know (d := 54) R hc (L.skip R R R R (L.skip R R R R (L.pkT Y R R R R (L.sb (J111 _ _ ⟨true, (orT hc).symm, R, R⟩) R))))
 exact L.know (d := 54) R hc (L.mv (Wt.mk R R) R R (L.bi (Wt.mk R R) R R R R (L.pkF Y R R R R (L.sb (J111 _ _ ⟨(r29.2 != 0), (orF hc).symm, R, R⟩) R))))

end Go.Proofs.YtfbapajcheammaaGreatDoor

namespace Go.Proofs.YtfbapajcheammaaGreatDoor

def wval (u : List Int) : Int := u.foldl (fun acc e => 33 * acc + e + 1) 0
theorem wval_snoc (u : List Int) (e : Int) : wval (u ++ [e]) = 33 * wval u + e + 1 := by simp [wval, List.foldl_append]
def Evs (u : List Int) : Prop := ∀ e ∈ u, 0 ≤ e ∧ e < 32
theorem Evs.nil : Evs [] := fun e h => by cases h
theorem Evs.of_snoc {u : List Int} {e : Int} (h : Evs (u ++ [e])) : Evs u ∧ 0 ≤ e ∧ e < 32 :=
 ⟨fun x hx => h x (List.mem_append_left _ hx), h e (by simp)⟩
theorem snoc_ind {α : Type} {P : List α → Prop} (h0 : P []) (h1 : ∀ u e, P u → P (u ++ [e])) (u : List α) : P u := by
 have h2 : ∀ n (u : List α), u.length = n → P u := by
  intro n
  induction n with
  | zero => intro u hu; rw [List.eq_nil_of_length_eq_zero hu]; exact h0
  | succ n ih =>
   intro u hu
   rcases List.eq_nil_or_concat u with rfl | ⟨l, b, rfl⟩
   ·cases hu
   ·have hl : l.length = n := by simpa using hu
    simpa using h1 l b (ih l hl)
 exact h2 _ u rfl
theorem wval_nonneg (u : List Int) : Evs u → 0 ≤ wval u := by
 refine snoc_ind (P := fun u => Evs u → 0 ≤ wval u) (fun _ => Int.le_refl 0) (fun u e ih h => ?_) u
 have h1 := h.of_snoc
 have := ih h1.1
 rw [wval_snoc]; omega
def wlo : Nat → Int
 | 0 => 0
 | n + 1 => 33 * wlo n + 1
def whi : Nat → Int
 | 0 => 0
 | n + 1 => 33 * whi n + 32
theorem wlo_le (u : List Int) : Evs u → wlo u.length ≤ wval u ∧ wval u ≤ whi u.length := by
 refine snoc_ind (P := fun u => Evs u → wlo u.length ≤ wval u ∧ wval u ≤ whi u.length) (fun _ => ⟨Int.le_refl _, Int.le_refl _⟩) (fun u e ih h => ?_) u
 have h1 := h.of_snoc
 have := ih h1.1
 rw [wval_snoc, List.length_append, List.length_singleton, wlo, whi]; omega
theorem whi_lt (n : Nat) : whi n < wlo (n + 1) := by
 induction n with
 | zero => decide
 | succ n ih => rw [whi, wlo]; omega
theorem wlo_mono {m n : Nat} (h : m ≤ n) : wlo m ≤ wlo n := by
 induction n with
 | zero =>
  obtain rfl : m = 0 := by omega
  exact Int.le_refl _
 | succ n ih =>
  by_cases e : m = n + 1
  ·rw [e]; exact Int.le_refl _
  ·have h1 := ih (by omega)
   have h2 : 0 ≤ wlo n := by
    clear h1 ih h e
    induction n with
    | zero => exact Int.le_refl _
    | succ n ih => rw [wlo]; omega
   rw [wlo]; omega
theorem wval_len {u v : List Int} (hu : Evs u) (hv : Evs v) (h : wval u ≤ wval v) : u.length ≤ v.length := by
 by_cases hlt : v.length < u.length
 ·have h1 := (wlo_le u hu).1
  have h2 := (wlo_le v hv).2
  have h3 := whi_lt v.length
  have h4 := wlo_mono (show v.length + 1 ≤ u.length by omega)
  omega
 ·omega

def Leads (es : List Ed) (perm : Ed → Bool) (s : Int) : List Int → Int → Prop
 | [], t => s = t
 | e :: u, t => ∃ x ∈ es, x.f = s ∧ x.e = e ∧ perm x = true ∧ Leads es perm x.t u t
theorem Leads.snoc {es : List Ed} {perm : Ed → Bool} : ∀ {u : List Int} {s t : Int}, Leads es perm s u t → ∀ {x : Ed}, x ∈ es → x.f = t → perm x = true → Leads es perm s (u ++ [x.e]) x.t
 | [], s, t, h, x, hx, hf, hp => ⟨x, hx, by rw [hf]; exact h.symm, rfl, hp, rfl⟩
 | e :: u, s, t, ⟨y, hy, h1, h2, h3, h4⟩, x, hx, hf, hp => ⟨y, hy, h1, h2, h3, h4.snoc hx hf hp⟩
theorem Leads.of_snoc {es : List Ed} {perm : Ed → Bool} {e : Int} : ∀ {u : List Int} {s t : Int}, Leads es perm s (u ++ [e]) t → ∃ x ∈ es, Leads es perm s u x.f ∧ x.e = e ∧ x.t = t ∧ perm x = true
 | [], s, t, ⟨y, hy, h1, h2, h3, h4⟩ => ⟨y, hy, h1.symm, h2, h4, h3⟩
 | a :: u, s, t, ⟨y, hy, h1, h2, h3, h4⟩ => by
  obtain ⟨x, hx, g1, g2, g3, g4⟩ := Leads.of_snoc (u := u) h4
  exact ⟨x, hx, ⟨y, hy, h1, h2, h3, g1⟩, g2, g3, g4⟩
def EvEs (es : List Ed) : Prop := ∀ x ∈ es, 0 ≤ x.e ∧ x.e < 32
theorem Leads.evs {es : List Ed} {perm : Ed → Bool} (he : EvEs es) : ∀ {u : List Int} {s t : Int}, Leads es perm s u t → Evs u
 | [], _, _, _ => Evs.nil
 | e :: u, s, t, ⟨y, hy, h1, h2, h3, h4⟩ => by
  intro z hz
  rcases List.mem_cons.1 hz with rfl | hz
  ·rw [← h2]; exact he y hy
  ·exact Leads.evs he h4 z hz

structure Found (es : List Ed) (perm : Ed → Bool) (s : Int) (L : List (List Int × Int)) (b : Int) : Prop where
 lead : ∀ r ∈ L, Leads es perm s r.1 r.2
 sorted : ∀ j k : Nat, j < k → ∀ r r' : List Int × Int, L[j]? = some r → L[k]? = some r' → wval r.1 < wval r'.1
 bd : ∀ r ∈ L, wval r.1 ≤ b
def Followed (es : List Ed) (perm : Ed → Bool) (L : List (List Int × Int)) (m i : Nat) : Prop :=
 ∀ j : Nat, j < i → ∀ r : List Int × Int, L[j]? = some r → ∀ x ∈ es, x.f = r.2 → perm x = true → ∃ k : Nat, m ≤ k ∧ ∃ r' : List Int × Int, L[k]? = some r' ∧ r'.2 = x.t ∧ wval r'.1 ≤ 33 * wval r.1 + x.e + 1

section
variable {es : List Ed} {perm : Ed → Bool} {s : Int} {L : List (List Int × Int)} {b : Int} {m i : Nat}
theorem Found.push (h : Found es perm s L b) {w : List Int} {t : Int} (hl : Leads es perm s w t) (hb : b < wval w) : Found es perm s (L ++ [(w, t)]) (wval w) := by
 refine ⟨fun r hr => ?_, fun j k hjk r r' hj hk => ?_, fun r hr => ?_⟩
 ·rcases List.mem_append.1 hr with h1 | h1
  ·exact h.lead r h1
  ·rw [List.mem_singleton.1 h1]; exact hl
 ·by_cases hk2 : k < L.length
  ·rw [List.getElem?_append_left hk2] at hk
   rw [List.getElem?_append_left (by omega)] at hj
   exact h.sorted j k hjk r r' hj hk
  ·rw [List.getElem?_append_right (by omega)] at hk
   have h3 : k - L.length = 0 := by
    by_cases h4 : k - L.length = 0
    ·exact h4
    ·rw [List.getElem?_eq_none (by simp; omega)] at hk; cases hk
   rw [h3] at hk
   simp only [List.getElem?_cons_zero, Option.some.injEq] at hk
   subst hk
   rw [List.getElem?_append_left (by omega)] at hj
   have := h.bd r (List.mem_of_getElem? hj)
   dsimp only; omega
 ·rcases List.mem_append.1 hr with h1 | h1
  ·have := h.bd r h1; omega
  ·rw [List.mem_singleton.1 h1]; exact Int.le_refl _
theorem Found.mono (h : Found es perm s L b) {j k : Nat} (hjk : j ≤ k) {r r' : List Int × Int} (hj : L[j]? = some r) (hk : L[k]? = some r') : wval r.1 ≤ wval r'.1 := by
 by_cases e : j = k
 ·subst e; rw [hj] at hk; cases hk; exact Int.le_refl _
 ·exact Int.le_of_lt (h.sorted j k (by omega) r r' hj hk)
theorem Followed.append (h : Followed es perm L m i) (hi : i ≤ L.length) (M : List (List Int × Int)) : Followed es perm (L ++ M) m i := by
 intro j hj r hr x hx hf hp
 rw [List.getElem?_append_left (by omega)] at hr
 obtain ⟨k, hk, r', hr', h1, h2⟩ := h j hj r hr x hx hf hp
 refine ⟨k, hk, r', ?_, h1, h2⟩
 rw [List.getElem?_append_left (by have := (List.getElem?_eq_some_iff.1 hr').1; omega)]
 exact hr'
theorem Followed.place (he : EvEs es) (hF : Found es perm s L b) (hC : Followed es perm L m i) (h0 : L[0]? = some ([], s)) (u : List Int) :
  ∀ t, Leads es perm s u t → (∃ (k : Nat) (r : List Int × Int), (u = [] ∨ m ≤ k) ∧ L[k]? = some r ∧ r.2 = t ∧ wval r.1 ≤ wval u) ∨ (∃ r : List Int × Int, L[i]? = some r ∧ wval r.1 < wval u) ∨ L.length ≤ i := by
 induction u using snoc_ind with
 | h0 =>
  intro t ht
  refine .inl ⟨0, _, .inl rfl, h0, ht, Int.le_refl _⟩
 | h1 u e ih =>
  intro t ht
  by_cases hil : L.length ≤ i
  ·exact .inr (.inr hil)
  obtain ⟨x, hx, g1, rfl, rfl, g4⟩ := ht.of_snoc
  have hxe := he x hx
  have hi : L[i]? = some L[i] := List.getElem?_eq_getElem (by omega)
  have hu := wval_nonneg u (g1.evs he)
  rcases ih x.f g1 with ⟨k, r, hk0, hk, hr, hle⟩ | ⟨r, hk, hle⟩ | h3
  ·by_cases hki : k < i
   ·obtain ⟨k', hk', r', h1, h2, h3⟩ := hC k hki r hk x hx hr.symm g4
    refine .inl ⟨k', r', .inr hk', h1, h2, ?_⟩
    rw [wval_snoc]; omega
   ·refine .inr (.inl ⟨_, hi, ?_⟩)
    have := hF.mono (show i ≤ k by omega) hi hk
    rw [wval_snoc]; omega
  ·refine .inr (.inl ⟨r, hk, ?_⟩)
   rw [wval_snoc]; omega
  ·exact .inr (.inr h3)
theorem Followed.all (_he : EvEs es) (hC : Followed es perm L m L.length) (h0 : L[0]? = some ([], s)) (u : List Int) :
  ∀ t, Leads es perm s u t → ∃ (k : Nat) (r : List Int × Int), (u = [] ∨ m ≤ k) ∧ L[k]? = some r ∧ r.2 = t ∧ wval r.1 ≤ wval u := by
 induction u using snoc_ind with
 | h0 =>
  intro t ht
  exact ⟨0, _, .inl rfl, h0, ht, Int.le_refl _⟩
 | h1 u e ih =>
  intro t ht
  obtain ⟨x, hx, g1, rfl, rfl, g4⟩ := ht.of_snoc
  obtain ⟨k, r, hk0, hk, hr, hle⟩ := ih x.f g1
  obtain ⟨k', hk', r', h1, h2, h3⟩ := hC k (List.getElem?_eq_some_iff.1 hk).1 r hk x hx hr.symm g4
  refine ⟨k', r', .inr hk', h1, h2, ?_⟩
  rw [wval_snoc]; omega

structure Least (es : List Ed) (perm : Ed → Bool) (want : Int → Bool) (s : Int) (least : Nat) (w : List Int) : Prop where
 ev : Evs w
 len : least ≤ w.length
 leads : ∃ t, Leads es perm s w t ∧ want t = true
 le : ∀ u t, Leads es perm s u t → want t = true → least ≤ u.length → wval w ≤ wval u
theorem Found.least {want : Int → Bool} (he : EvEs es) (hF : Found es perm s L b) (hC : Followed es perm L 0 i) (h0 : L[0]? = some ([], s)) {r : List Int × Int} (hi : L[i]? = some r) (hw : want r.2 = true)
  (hn : ∀ j : Nat, j < i → ∀ r : List Int × Int, L[j]? = some r → want r.2 = false) : Least es perm want s 0 r.1 := by
 have hl := hF.lead r (List.mem_of_getElem? hi)
 refine ⟨hl.evs he, Nat.zero_le _, ⟨_, hl, hw⟩, fun u t hu ht _ => ?_⟩
 rcases hC.place he hF h0 u t hu with ⟨k, r', hk0, hk, hr, hle⟩ | ⟨r', hk, hle⟩ | h3
 ·by_cases hki : k < i
  ·have := hn k hki r' hk
   rw [hr, ht] at this; cases this
  ·have := hF.mono (show i ≤ k by omega) hi hk; omega
 ·rw [hi] at hk; cases hk; omega
 ·have := (List.getElem?_eq_some_iff.1 hi).1; omega
theorem Followed.none {want : Int → Bool} (he : EvEs es) (hC : Followed es perm L 0 L.length) (h0 : L[0]? = some ([], s)) (hn : ∀ (j : Nat) (r : List Int × Int), L[j]? = some r → want r.2 = false) :
  ∀ u t, Leads es perm s u t → want t = false := by
 intro u t hu
 obtain ⟨k, r, _, hk, rfl, _⟩ := hC.all he h0 u t hu
 exact hn k r hk
end
end Go.Proofs.YtfbapajcheammaaGreatDoor

namespace Go.Proofs.YtfbapajcheammaaGreatDoor

def edLt (x y : Ed) : Prop := x.f < y.f ∨ (x.f = y.f ∧ x.e < y.e)
def Sorted (es : List Ed) : Prop := es.Pairwise edLt
theorem drop_count : ∀ (es : List Ed), es.Pairwise (fun x y => x.f ≤ y.f) → ∀ s : Int, es.drop (es.countP fun x => decide (x.f < s)) = es.filter fun x => !decide (x.f < s)
 | [], _, _ => rfl
 | x :: l, h, s => by
  obtain ⟨h1, h2⟩ := List.pairwise_cons.1 h
  by_cases hx : x.f < s
  ·rw [List.countP_cons_of_pos (by simpa using hx), List.drop_succ_cons, drop_count l h2 s, List.filter_cons_of_neg (by simpa using hx)]
  ·have h3 : ∀ y ∈ l, ¬ y.f < s := fun y hy => by have := h1 y hy; omega
   have h4 : l.countP (fun x => decide (x.f < s)) = 0 := by
    rw [List.countP_eq_zero]; intro y hy; simpa using h3 y hy
   rw [List.countP_cons_of_neg (by simpa using hx), h4, List.drop_zero]
   symm
   rw [List.filter_eq_self]
   intro y hy
   rcases List.mem_cons.1 hy with rfl | hy
   ·simpa using hx
   ·simpa using h3 y hy
theorem take_count : ∀ (es : List Ed), es.Pairwise (fun x y => x.f ≤ y.f) → ∀ s : Int, es.take (es.countP fun x => decide (x.f < s)) = es.filter fun x => decide (x.f < s)
 | [], _, _ => rfl
 | x :: l, h, s => by
  obtain ⟨h1, h2⟩ := List.pairwise_cons.1 h
  by_cases hx : x.f < s
  ·rw [List.countP_cons_of_pos (by simpa using hx), List.take_succ_cons, take_count l h2 s, List.filter_cons_of_pos (by simpa using hx)]
  ·have h3 : ∀ y ∈ l, ¬ y.f < s := fun y hy => by have := h1 y hy; omega
   have h4 : l.countP (fun x => decide (x.f < s)) = 0 := by
    rw [List.countP_eq_zero]; intro y hy; simpa using h3 y hy
   rw [List.countP_cons_of_neg (by simpa using hx), h4, List.take_zero]
   symm
   rw [List.filter_eq_nil_iff]
   intro y hy
   rcases List.mem_cons.1 hy with rfl | hy
   ·simpa using hx
   ·simpa using h3 y hy
theorem Sorted.le {es : List Ed} (h : Sorted es) : es.Pairwise (fun x y => x.f ≤ y.f) := List.Pairwise.imp (fun {x y} (h : edLt x y) => by unfold edLt at h; omega) h
theorem subOf_eq {es : List Ed} (h : Sorted es) (s : Int) : subOf es s = es.filter fun x => decide (x.f = s) := by
 have h1 := take_count es h.le (s + 1)
 have h2 : (es.filter fun x => decide (x.f < s + 1)).Pairwise (fun x y => x.f ≤ y.f) := h.le.filter _
 have h3 := drop_count _ h2 s
 have h4 : (es.filter fun x => decide (x.f < s + 1)).countP (fun x => decide (x.f < s)) = es.countP fun x => decide (x.f < s) := by
  rw [List.countP_filter]
  apply List.countP_congr
  intro x _
  simp only [Bool.and_eq_true, decide_eq_true_eq]
  omega
 rw [h4, ← h1, List.drop_take] at h3
 rw [subOf, edSub, fstN, fstN, h3, h1, List.filter_filter]
 apply List.filter_congr
 intro x _
 rw [Bool.eq_iff_iff]
 simp only [Bool.and_eq_true, Bool.not_eq_true', decide_eq_true_eq, decide_eq_false_iff_not]
 omega

theorem back_push {steps : List St} {y : St} (hp : ∀ j (h : j < steps.length), -1 ≤ steps[j].p ∧ steps[j].p < j) : ∀ (f k : Nat), k < steps.length → back (steps ++ [y]) f k = back steps f k
 | 0, _, _ => rfl
 | f + 1, k, hk => by
  rw [back, back, Int.toNat_natCast, List.getElem?_append_left hk, List.getElem?_eq_getElem hk]
  dsimp only
  split
  ·rename_i h0
   have := hp k hk
   obtain ⟨p, hpe⟩ := Int.eq_ofNat_of_zero_le h0
   rw [hpe] at this ⊢
   rw [back_push hp f p (by omega)]
  ·rfl

structure PW (es : List Ed) (perm : Ed → Bool) (from_ n i : Nat) (seen : List Bool) (steps : List St) (L : List (List Int × Int)) (b : Int) : Prop where
 pok : POk n seen steps
 len : steps.length = L.length
 st : ∀ (k : Nat) (r : List Int × Int), L[k]? = some r → ∃ x, steps[k]? = some x ∧ x.s = r.2 ∧ ∀ f, k < f → back steps f k = r.1.reverse
 seen : ∀ t : Nat, t < n → seen[t]? = some true → ∃ (k : Nat) (r : List Int × Int), L[k]? = some r ∧ r.2 = t
 found : Found es perm from_ L b
 follow : Followed es perm L 0 i
 zero : L[0]? = some ([], (from_ : Int))
 lt : i ≤ L.length

theorem PW.fold {es : List Ed} {perm : Ed → Bool} {from_ n i : Nat} (hes : ∀ x ∈ es, 0 ≤ x.t ∧ x.t < (n : Int)) (he : EvEs es) (r : List Int × Int) : ∀ (l done : List Ed) {seen : List Bool} {steps : List St} {L : List (List Int × Int)} {b : Int},
  PW es perm from_ n i seen steps L b → L[i]? = some r → es.filter (fun x => decide (x.f = r.2)) = done ++ l → l.Pairwise (fun x y => x.e < y.e) → (∀ x ∈ l, b < 33 * wval r.1 + x.e + 1) → b ≤ 33 * wval r.1 + 32 →
  (∀ x ∈ done, perm x = true → ∃ (k : Nat) (r' : List Int × Int), L[k]? = some r' ∧ r'.2 = x.t ∧ wval r'.1 ≤ 33 * wval r.1 + x.e + 1) →
  ∃ L' b', PW es perm from_ n (i + 1) (l.foldl (pStep perm i) (seen, steps)).1 (l.foldl (pStep perm i) (seen, steps)).2 L' b' ∧ b' ≤ 33 * wval r.1 + 32 ∧ ∃ M, L' = L ++ M
 | [], done, seen, steps, L, b, h, hi, hf, hs, hb, hb2, hd => by
  refine ⟨L, b, ⟨h.pok, h.len, h.st, h.seen, h.found, fun j hj r' hr x hx hxf hp => ?_, h.zero, ?_⟩, hb2, [], (List.append_nil _).symm⟩
  ·by_cases hji : j < i
   ·exact h.follow j hji r' hr x hx hxf hp
   ·obtain rfl : j = i := by omega
    rw [hi] at hr
    cases hr
    have hmem : x ∈ done := by
     have : x ∈ es.filter (fun x => decide (x.f = r.2)) := List.mem_filter.2 ⟨hx, by simpa using hxf⟩
     rw [hf, List.append_nil] at this
     exact this
    obtain ⟨k, r', h1, h2, h3⟩ := hd x hmem hp
    exact ⟨k, Nat.zero_le _, r', h1, h2, h3⟩
  ·have := (List.getElem?_eq_some_iff.1 hi).1; omega
 | x :: l, done, seen, steps, L, b, h, hi, hf, hs, hb, hb2, hd => by
  obtain ⟨hs1, hs2⟩ := List.pairwise_cons.1 hs
  have hxm : x ∈ es.filter (fun x => decide (x.f = r.2)) := by rw [hf]; simp
  obtain ⟨hxe, hxf⟩ := List.mem_filter.1 hxm
  have hxf : x.f = r.2 := by simpa using hxf
  have hxt := hes x hxe
  have hxv := he x hxe
  have hxb := hb x (List.mem_cons_self ..)
  have hf' : es.filter (fun x => decide (x.f = r.2)) = (done ++ [x]) ++ l := by rw [hf]; simp
  have hil : i < L.length := (List.getElem?_eq_some_iff.1 hi).1
  rw [List.foldl_cons]
  have hlt : x.t.toNat < seen.length := by rw [h.pok.len]; omega
  have hsv : seen[x.t.toNat]? = some seen[x.t.toNat] := List.getElem?_eq_getElem hlt
  by_cases hc : seen[x.t.toNat]?.getD true = false ∧ perm x = true
  ·have hst : pStep perm i (seen, steps) x = (seen.set x.t.toNat true, steps ++ [⟨x.t, i, x.e⟩]) := by unfold pStep; rw [if_pos hc]
   have hsf : seen[x.t.toNat]? = some false := by
    have := hc.1; rw [hsv] at this ⊢; simpa using this
   have hpok := h.pok.push (i := i) (by rw [h.len]; exact hil) x.t x.e hxt.1 hxt.2 hsf
   have hlead : Leads es perm from_ r.1 r.2 := h.found.lead r (List.mem_of_getElem? hi)
   have hF := h.found.push (hlead.snoc hxe hxf hc.2) (by rw [wval_snoc]; omega)
   rw [wval_snoc] at hF
   rw [hst]
   have hnew : PW es perm from_ n i (seen.set x.t.toNat true) (steps ++ [⟨x.t, i, x.e⟩]) (L ++ [(r.1 ++ [x.e], x.t)]) (33 * wval r.1 + x.e + 1) := by
    refine ⟨hpok, by simp [h.len], ?_, ?_, hF, h.follow.append h.lt _, ?_, ?_⟩
    ·intro k r' hr'
     by_cases hk : k < L.length
     ·rw [List.getElem?_append_left hk] at hr'
      obtain ⟨y, h1, h2, h3⟩ := h.st k r' hr'
      refine ⟨y, by rw [List.getElem?_append_left (by rw [h.len]; exact hk)]; exact h1, h2, fun f hf => ?_⟩
      rw [back_push h.pok.parent f k (by rw [h.len]; exact hk)]
      exact h3 f hf
     ·have hkl : k = L.length := by
       have := (List.getElem?_eq_some_iff.1 hr').1; simp at this; omega
      subst hkl
      rw [List.getElem?_append_right (Nat.le_refl _), Nat.sub_self] at hr'
      simp only [List.getElem?_cons_zero, Option.some.injEq] at hr'
      subst hr'
      refine ⟨⟨x.t, i, x.e⟩, by rw [List.getElem?_append_right (by rw [h.len]; exact Nat.le_refl _), h.len, Nat.sub_self]; rfl, rfl, fun f hf => ?_⟩
      obtain ⟨f', rfl⟩ : ∃ f', f = f' + 1 := ⟨f - 1, by omega⟩
      obtain ⟨y, h1, h2, h3⟩ := h.st i r hi
      rw [back, Int.toNat_natCast, List.getElem?_append_right (by rw [h.len]; exact Nat.le_refl _), h.len, Nat.sub_self]
      simp only [List.getElem?_cons_zero]
      rw [if_pos (by omega), back_push h.pok.parent f' i (by rw [h.len]; exact hil), h3 f' (by omega)]
      simp
    ·intro t ht hseen
     by_cases htx : x.t.toNat = t
     ·exact ⟨L.length, (r.1 ++ [x.e], x.t), by simp, by dsimp only; omega⟩
     ·rw [List.getElem?_set_ne htx] at hseen
      obtain ⟨k, r', h1, h2⟩ := h.seen t ht hseen
      exact ⟨k, r', by rw [List.getElem?_append_left (List.getElem?_eq_some_iff.1 h1).1]; exact h1, h2⟩
    ·rw [List.getElem?_append_left (by omega)]; exact h.zero
    ·have := h.lt; simp; omega
   obtain ⟨L', b', g1, g2, M, g3⟩ := PW.fold hes he r l (done ++ [x]) hnew (by rw [List.getElem?_append_left hil]; exact hi) hf' hs2 (fun y hy => by have := hs1 y hy; omega) (by omega) (fun y hy hp => by
    rcases List.mem_append.1 hy with hy | hy
    ·obtain ⟨k, r', h1, h2, h3⟩ := hd y hy hp
     exact ⟨k, r', by rw [List.getElem?_append_left (List.getElem?_eq_some_iff.1 h1).1]; exact h1, h2, h3⟩
    ·rw [List.mem_singleton.1 hy]
     exact ⟨L.length, (r.1 ++ [x.e], x.t), by simp, rfl, by rw [wval_snoc]; exact Int.le_refl _⟩)
   exact ⟨L', b', g1, g2, [(r.1 ++ [x.e], x.t)] ++ M, by rw [g3, List.append_assoc]⟩
  ·have hst : pStep perm i (seen, steps) x = (seen, steps) := by unfold pStep; rw [if_neg hc]
   rw [hst]
   refine PW.fold hes he r l (done ++ [x]) h hi hf' hs2 (fun y hy => hb y (List.mem_cons_of_mem _ hy)) hb2 (fun y hy hp => ?_)
   rcases List.mem_append.1 hy with hy | hy
   ·exact hd y hy hp
   ·rw [List.mem_singleton.1 hy] at hp ⊢
    have hst : seen[x.t.toNat]? = some true := by
     rw [hsv] at hc ⊢
     simp only [Option.getD_some] at hc
     cases hb : seen[x.t.toNat] with
     | true => rfl
     | false => exact absurd ⟨hb, hp⟩ hc
    obtain ⟨k, r', h1, h2⟩ := h.seen x.t.toNat (by omega) hst
    refine ⟨k, r', h1, by omega, ?_⟩
    have := h.found.bd r' (List.mem_of_getElem? h1)
    omega

def BfsSays (es : List Ed) (perm : Ed → Bool) (want : Int → Bool) (from_ : Nat) : Option (List St × Nat) → Prop
 | some r => ∃ w, back r.1 (r.2 + 1) r.2 = w.reverse ∧ Least es perm want from_ 0 w
 | none => ∀ u t, Leads es perm from_ u t → want t = false
theorem PW.bfs {es : List Ed} {perm : Ed → Bool} {want : Int → Bool} {from_ n : Nat} (hso : Sorted es) (hes : ∀ x ∈ es, 0 ≤ x.t ∧ x.t < (n : Int)) (he : EvEs es) : ∀ (f i : Nat) {seen : List Bool} {steps : List St} {L : List (List Int × Int)} {b : Int},
  PW es perm from_ n i seen steps L b → n + 1 - i ≤ f → (∀ r, L[i]? = some r → b ≤ 33 * wval r.1) → (∀ j, j < i → ∀ r : List Int × Int, L[j]? = some r → want r.2 = false) →
  BfsSays es perm want from_ (Go.Proofs.YtfbapajcheammaaGreatDoor.bfs (subOf es) want perm f i seen steps)
 | 0, i, seen, steps, L, b, h, hf, _, _ => by
  have h1 := h.pok.le
  have h2 := h.len
  have h3 := h.lt
  omega
 | f + 1, i, seen, steps, L, b, h, hf, hb, hn => by
  by_cases hi : i < steps.length
  ·have hiL : i < L.length := by rw [← h.len]; exact hi
   have hr : L[i]? = some L[i] := List.getElem?_eq_getElem hiL
   obtain ⟨x, h1, h2, h3⟩ := h.st i L[i] hr
   rw [List.getElem?_eq_getElem hi] at h1
   cases h1
   cases hw : want steps[i].s with
   | true =>
    rw [bfs_found hi hw]
    exact ⟨L[i].1, h3 (i + 1) (by omega), h.found.least he h.follow h.zero hr (by rw [← h2]; exact hw) hn⟩
   | false =>
    rw [bfs_next hi hw, subOf_eq hso]
    have hpw : (es.filter fun x => decide (x.f = L[i].2)).Pairwise (fun x y => x.e < y.e) := by
     have h4 : (es.filter fun x => decide (x.f = L[i].2)).Pairwise edLt := List.Pairwise.filter _ hso
     refine List.Pairwise.imp_of_mem ?_ h4
     intro x y hx hy hxy
     have e1 := (List.mem_filter.1 hx).2
     have e2 := (List.mem_filter.1 hy).2
     simp only [decide_eq_true_eq] at e1 e2
     unfold edLt at hxy
     omega
    have hb1 := hb _ hr
    obtain ⟨L', b', g1, g2, M, rfl⟩ := PW.fold hes he L[i] (es.filter fun x => decide (x.f = L[i].2)) [] h hr (by simp) hpw (fun x hx => by have := he x (List.mem_filter.1 hx).1; omega) (by omega) (fun x hx => by cases hx)
    rw [h2]
    refine PW.bfs hso hes he f (i + 1) g1 (by omega) (fun r' hr' => ?_) (fun j hj r' hr' => ?_)
    ·have h5 := g1.found.sorted i (i + 1) (by omega) L[i] r' (by rw [List.getElem?_append_left hiL]; exact hr) hr'
     omega
    ·by_cases hji : j < i
     ·rw [List.getElem?_append_left (by omega)] at hr'
      exact hn j hji r' hr'
     ·obtain rfl : j = i := by omega
      rw [List.getElem?_append_left hiL, hr] at hr'
      cases hr'
      rw [← h2]; exact hw
  ·rw [bfs_end (by omega)]
   have hil : i = L.length := by have := h.lt; have := h.len; omega
   subst hil
   exact h.follow.none he h.zero (fun j r hr => hn j (List.getElem?_eq_some_iff.1 hr).1 r hr)
theorem pathF_says {es : List Ed} {perm : Ed → Bool} {want : Int → Bool} {from_ n : Nat} (hso : Sorted es) (hes : ∀ x ∈ es, 0 ≤ x.t ∧ x.t < (n : Int)) (he : EvEs es) (hf : from_ < n) :
  match pathF n es want perm from_ with
  | some w => Least es perm want from_ 0 w
  | none => ∀ u t, Leads es perm from_ u t → want t = false := by
 have h0 : PW es perm from_ n 0 ((List.replicate n false).set from_ true) [⟨from_, -1, -1⟩] [([], (from_ : Int))] 0 := by
  refine ⟨POk.start n from_ hf, rfl, ?_, ?_, ⟨?_, ?_, ?_⟩, fun j hj => absurd hj (by omega), rfl, Nat.zero_le _⟩
  ·intro k r hr
   cases k with
   | zero =>
    simp only [List.getElem?_cons_zero, Option.some.injEq] at hr
    subst hr
    refine ⟨_, rfl, rfl, fun f hf => ?_⟩
    obtain ⟨f', rfl⟩ : ∃ f', f = f' + 1 := ⟨f - 1, by omega⟩
    rfl
   | succ k => simp at hr
  ·intro t ht hs
   by_cases e : from_ = t
   ·subst e; exact ⟨0, _, rfl, rfl⟩
   ·rw [List.getElem?_set_ne e, List.getElem?_replicate, if_pos ht] at hs
    cases hs
  ·intro r hr
   rw [List.mem_singleton.1 hr]; rfl
  ·intro j k hjk r r' hj hk
   have := (List.getElem?_eq_some_iff.1 hk).1
   simp at this; omega
  ·intro r hr
   rw [List.mem_singleton.1 hr]; exact Int.le_refl 0
 have h1 := h0.bfs (want := want) hso hes he (n + 1) 0 (by omega) (fun r hr => by simp only [List.getElem?_cons_zero, Option.some.injEq] at hr; subst hr; exact Int.le_refl 0) (fun j hj => absurd hj (by omega))
 unfold pathF
 generalize Go.Proofs.YtfbapajcheammaaGreatDoor.bfs (subOf es) want perm (n + 1) 0 ((List.replicate n false).set from_ true) [⟨from_, -1, -1⟩] = r at h1
 cases r with
 | none => exact h1
 | some r =>
  obtain ⟨w, h2, h3⟩ := h1
  simp only [Option.map_some, h2, List.reverse_reverse]
  exact h3
end Go.Proofs.YtfbapajcheammaaGreatDoor

namespace Go.Proofs.YtfbapajcheammaaGreatDoor
open Go.RowKit

theorem bwd_length (inn : Nat → List Int) : ∀ (f : Nat) (ds q : List Int), (bwd inn f ds q).length = ds.length
 | 0, _, _ => rfl
 | _ + 1, _, [] => rfl
 | f + 1, ds, s :: q => by
  rw [bwd, bwd_length inn f]
  generalize inn s.toNat = l
  induction l generalizing ds q with
  | nil => rfl
  | cons p l ih =>
   rw [List.foldl_cons]
   have h1 : (bStep s.toNat (ds, q) p).1.length = ds.length := by unfold bStep; dsimp only; split <;> simp
   generalize hb : bStep s.toNat (ds, q) p = r at *
   obtain ⟨r1, r2⟩ := r
   rw [ih r1 r2, h1]
theorem backward_length (n : Nat) (es : List Ed) (tg : List Int) : (backward n es tg).length = n := by rw [backward, bwd_length, bStart_length]

end Go.Proofs.YtfbapajcheammaaGreatDoor

namespace Go.Proofs.YtfbapajcheammaaGreatDoor

def ReachIn (es : List Ed) (tg : List Int) : Nat → Int → Prop
 | 0, s => s ∈ tg
 | k + 1, s => ∃ x ∈ es, x.f = s ∧ ReachIn es tg k x.t
def IsDist (es : List Ed) (tg : List Int) (s d : Int) : Prop := (d = -1 ∧ ∀ k, ¬ ReachIn es tg k s) ∨ (∃ k : Nat, d = k ∧ ReachIn es tg k s ∧ ∀ j, j < k → ¬ ReachIn es tg j s)
theorem IsDist.unique {es : List Ed} {tg : List Int} {s d d' : Int} (h : IsDist es tg s d) (h' : IsDist es tg s d') : d = d' := by
 rcases h with ⟨rfl, h⟩ | ⟨k, rfl, h1, h2⟩
 ·rcases h' with ⟨rfl, _⟩ | ⟨k, rfl, h1, _⟩
  ·rfl
  ·exact absurd h1 (h k)
 ·rcases h' with ⟨rfl, h'⟩ | ⟨k', rfl, h1', h2'⟩
  ·exact absurd h1 (h' k)
  ·have a1 : ¬ k < k' := fun hlt => h2' k hlt h1
   have a2 : ¬ k' < k := fun hlt => h2 k' hlt h1'
   omega

structure BD (es : List Ed) (tg : List Int) (n : Nat) (ds q : List Int) (c : Int) : Prop where
 ok : BOk n ds q
 fit : ∀ i, i < n → 0 ≤ ds.getD i 0 → ∃ k : Nat, ds.getD i 0 = k ∧ ReachIn es tg k i
 top : ∀ i, i < n → ds.getD i 0 ≤ c + 1
 low : ∀ s ∈ q, c ≤ ds.getD s.toNat 0
 srt : q.Pairwise fun s t => ds.getD s.toNat 0 ≤ ds.getD t.toNat 0
 done : ∀ x ∈ es, 0 ≤ ds.getD x.t.toNat 0 → x.t ∈ q ∨ (0 ≤ ds.getD x.f.toNat 0 ∧ ds.getD x.f.toNat 0 ≤ ds.getD x.t.toNat 0 + 1)
 tgt : ∀ s ∈ tg, ds.getD s.toNat 0 = 0
 bnd : ∀ i, i < n → ds.getD i 0 ≤ n - negs ds

section
variable {es : List Ed} {tg : List Int} {n : Nat}
theorem getD_set_at {ds : List Int} {p : Nat} {d : Int} (h : p < ds.length) : (ds.set p d).getD p 0 = d := by
 rw [List.getD_eq_getElem?_getD, List.getElem?_set_self h]; rfl
structure BDs (es : List Ed) (tg : List Int) (n : Nat) (s : Nat) (c : Int) (ds q l : List Int) : Prop where
 ok : BOk n ds q
 at_ : ds.getD s 0 = c
 c0 : 0 ≤ c
 fit : ∀ i, i < n → 0 ≤ ds.getD i 0 → ∃ k : Nat, ds.getD i 0 = k ∧ ReachIn es tg k i
 top : ∀ i, i < n → ds.getD i 0 ≤ c + 1
 low : ∀ s ∈ q, c ≤ ds.getD s.toNat 0
 srt : q.Pairwise fun s t => ds.getD s.toNat 0 ≤ ds.getD t.toNat 0
 done : ∀ x ∈ es, 0 ≤ ds.getD x.t.toNat 0 → x.t ∈ q ∨ (x.t = s ∧ x.f ∈ l) ∨ (0 ≤ ds.getD x.f.toNat 0 ∧ ds.getD x.f.toNat 0 ≤ ds.getD x.t.toNat 0 + 1)
 tgt : ∀ s ∈ tg, ds.getD s.toNat 0 = 0
 bnd : ∀ i, i < n → ds.getD i 0 ≤ n - negs ds
theorem BDs.fold (hes : ∀ x ∈ es, 0 ≤ x.f ∧ x.f < (n : Int) ∧ 0 ≤ x.t ∧ x.t < (n : Int)) (htg : ∀ s ∈ tg, 0 ≤ s ∧ s < (n : Int)) {s : Nat} (hs : s < n) {c : Int} : ∀ (l : List Int) {ds q : List Int}, BDs es tg n s c ds q l → (∀ p ∈ l, ∃ x ∈ es, x.f = p ∧ x.t = s) →
  BDs es tg n s c (l.foldl (bStep s) (ds, q)).1 (l.foldl (bStep s) (ds, q)).2 []
 | [], _, _, h, _ => h
 | p :: l, ds, q, h, hp => by
  rw [List.foldl_cons]
  obtain ⟨x, hx, rfl, hxt⟩ := hp p (List.mem_cons_self ..)
  have hxr := hes x hx
  have hl := h.ok.len
  by_cases hneg : ds.getD x.f.toNat 0 < 0
  ·have hst : bStep s (ds, q) x.f = (ds.set x.f.toNat (ds.getD s 0 + 1), q ++ [x.f]) := by unfold bStep; rw [if_pos hneg]
   have hstep := h.ok.step hs (by rw [h.at_]; exact h.c0) x.f hxr.1 hxr.2.1
   rw [hst] at hstep ⊢
   rw [h.at_] at hstep ⊢
   have hne : x.f.toNat ≠ s := by
    intro e; rw [e, h.at_] at hneg; have := h.c0; omega
   have hfl : x.f.toNat < ds.length := by omega
   have hself : (ds.set x.f.toNat (c + 1)).getD x.f.toNat 0 = c + 1 := getD_set_at hfl
   have hother : ∀ i, i ≠ x.f.toNat → (ds.set x.f.toNat (c + 1)).getD i 0 = ds.getD i 0 := fun i hi => getD_set_ne (fun e => hi e.symm)
   have hc0 := h.c0
   obtain ⟨k, hk1, hk2⟩ := h.fit s hs (by rw [h.at_]; exact h.c0)
   rw [h.at_] at hk1
   have hq : ∀ t ∈ q, t.toNat ≠ x.f.toNat := by
    intro t ht e
    have := h.ok.nn t ht
    rw [e] at this; omega
   refine BDs.fold hes htg hs l ⟨hstep.1, by rw [hother s (Ne.symm hne)]; exact h.at_, h.c0, ?_, ?_, ?_, ?_, ?_, ?_, ?_⟩ (fun p hp' => hp p (List.mem_cons_of_mem _ hp'))
   ·intro i hi h0
    by_cases e : i = x.f.toNat
    ·subst e
     rw [hself]
     refine ⟨k + 1, by omega, x, hx, by omega, ?_⟩
     rw [hxt]; exact hk2
    ·rw [hother i e] at h0 ⊢; exact h.fit i hi h0
   ·intro i hi
    by_cases e : i = x.f.toNat
    ·subst e; rw [hself]; exact Int.le_refl _
    ·rw [hother i e]; exact h.top i hi
   ·intro t ht
    rcases List.mem_append.1 ht with ht | ht
    ·rw [hother _ (hq t ht)]; exact h.low t ht
    ·rw [List.mem_singleton.1 ht, hself]; omega
   ·rw [List.pairwise_append]
    refine ⟨List.Pairwise.imp_of_mem (fun {a b} ha hb hab => ?_) h.srt, List.pairwise_singleton _ _, fun a ha b hb => ?_⟩
    ·rw [hother _ (hq a ha), hother _ (hq b hb)]; exact hab
    ·rw [List.mem_singleton.1 hb, hself, hother _ (hq a ha)]
     have h1 := h.ok.qr a ha
     exact h.top a.toNat (by omega)
   ·intro y hy h0
    by_cases e : y.t.toNat = x.f.toNat
    ·have : y.t = x.f := by have := hes y hy; omega
     exact .inl (by rw [this]; simp)
    ·rw [hother _ e] at h0 ⊢
     rcases h.done y hy h0 with h1 | ⟨h1, h2⟩ | ⟨h1, h2⟩
     ·exact .inl (List.mem_append_left _ h1)
     ·rcases List.mem_cons.1 h2 with h2 | h2
      ·refine .inr (.inr ?_)
       rw [h2, hself, h1, Int.toNat_natCast, h.at_]; omega
      ·exact .inr (.inl ⟨h1, h2⟩)
     ·refine .inr (.inr ?_)
      by_cases e2 : y.f.toNat = x.f.toNat
      ·rw [e2] at h1; omega
      ·rw [hother _ e2]; exact ⟨h1, h2⟩
   ·intro t ht
    have := h.tgt t ht
    by_cases e : t.toNat = x.f.toNat
    ·rw [e] at this; omega
    ·rw [hother _ e]; exact this
   ·intro i hi
    have h9 : negs (ds.set x.f.toNat (c + 1)) + 1 = negs ds := negs_set hfl (by rw [List.getD_eq_getElem?_getD, List.getElem?_eq_getElem hfl] at hneg; exact hneg) (by omega)
    have h8 := h.bnd s hs
    rw [h.at_] at h8
    by_cases e : i = x.f.toNat
    ·subst e; rw [hself]; omega
    ·rw [hother i e]; have := h.bnd i hi; omega
  ·have hst : bStep s (ds, q) x.f = (ds, q) := by unfold bStep; rw [if_neg hneg]
   rw [hst]
   refine BDs.fold hes htg hs l ⟨h.ok, h.at_, h.c0, h.fit, h.top, h.low, h.srt, ?_, h.tgt, h.bnd⟩ (fun p hp' => hp p (List.mem_cons_of_mem _ hp'))
   intro y hy h0
   rcases h.done y hy h0 with h1 | ⟨h1, h2⟩ | h1
   ·exact .inl h1
   ·rcases List.mem_cons.1 h2 with h2 | h2
    ·refine .inr (.inr ?_)
     rw [h2, h1, Int.toNat_natCast, h.at_]
     exact ⟨by omega, h.top _ (by omega)⟩
    ·exact .inr (.inl ⟨h1, h2⟩)
   ·exact .inr (.inr h1)
theorem BD.bwd (hes : ∀ x ∈ es, 0 ≤ x.f ∧ x.f < (n : Int) ∧ 0 ≤ x.t ∧ x.t < (n : Int)) (htg : ∀ s ∈ tg, 0 ≤ s ∧ s < (n : Int)) : ∀ (f : Nat) {ds q : List Int} {c : Int}, BD es tg n ds q c → 2 * negs ds + q.length < f →
  ∃ c', BD es tg n (Go.Proofs.YtfbapajcheammaaGreatDoor.bwd (inL es) f ds q) [] c'
 | 0, _, _, _, _, hf => absurd hf (by omega)
 | f + 1, ds, [], c, h, _ => ⟨c, h⟩
 | f + 1, ds, s :: q, c, h, hf => by
  rw [Go.Proofs.YtfbapajcheammaaGreatDoor.bwd]
  have hs := h.ok.qr s (List.mem_cons_self ..)
  have h0 := h.ok.nn s (List.mem_cons_self ..)
  have hc := h.low s (List.mem_cons_self ..)
  obtain ⟨hs1, hs2⟩ := List.pairwise_cons.1 h.srt
  have h1 : BDs es tg n s.toNat (ds.getD s.toNat 0) ds q (inL es s.toNat) := by
   refine ⟨h.ok.pop, rfl, h0, h.fit, fun i hi => ?_, hs1, hs2, fun x hx hx0 => ?_, h.tgt, h.bnd⟩
   ·have := h.top i hi; omega
   ·rcases h.done x hx hx0 with h2 | h2
    ·rcases List.mem_cons.1 h2 with h2 | h2
     ·refine .inr (.inl ⟨by omega, ?_⟩)
      unfold inL
      exact List.mem_map.2 ⟨x, List.mem_filter.2 ⟨hx, by rw [h2]; simp; omega⟩, rfl⟩
     ·exact .inl h2
    ·exact .inr (.inr h2)
  have h2 := h1.fold hes htg (by omega) (inL es s.toNat) (fun p hp => inL_mem hp)
  have h3 := BOk.fold (show s.toNat < n by omega) (inL es s.toNat) h.ok.pop h0 (inL_range hes)
  refine BD.bwd hes htg f (c := ds.getD s.toNat 0) ⟨h2.ok, h2.fit, h2.top, h2.low, h2.srt, fun x hx hx0 => ?_, h2.tgt, h2.bnd⟩ ?_
  ·rcases h2.done x hx hx0 with h4 | ⟨_, h4⟩ | h4
   ·exact .inl h4
   ·cases h4
   ·exact .inr h4
  ·have := h3.2.2
   simp only [List.length_cons] at hf
   omega
theorem backward_bd (hn : n ≤ 1000000) (hes : ∀ x ∈ es, 0 ≤ x.f ∧ x.f < (n : Int) ∧ 0 ≤ x.t ∧ x.t < (n : Int)) (htg : ∀ s ∈ tg, 0 ≤ s ∧ s < (n : Int)) (i : Nat) (hi : i < n) : IsDist es tg i ((backward n es tg).getD i 0) ∧ (backward n es tg).getD i 0 ≤ n := by
 have hst := bStart_get n tg (fun s hs => (htg s hs).1)
 have h0 : BD es tg n (bStart n tg) tg 0 := by
  refine ⟨BOk.start n tg hn htg, ?_, ?_, ?_, ?_, ?_, ?_, ?_⟩
  ·intro i hi h0
   rw [hst i hi] at h0 ⊢
   by_cases hm : (i : Int) ∈ tg
   ·rw [if_pos hm]; exact ⟨0, rfl, hm⟩
   ·rw [if_neg hm] at h0; omega
  ·intro i hi
   rw [hst i hi]; split <;> omega
  ·intro s hs
   have h1 := htg s hs
   rw [hst s.toNat (by omega), if_pos (by rw [Int.toNat_of_nonneg h1.1]; exact hs)]; exact Int.le_refl _
  ·refine List.Pairwise.imp_of_mem (R := fun _ _ => True) (fun {a b} ha hb _ => ?_) (List.pairwise_of_forall (fun _ _ => trivial))
   have h1 := htg a ha
   have h2 := htg b hb
   rw [hst a.toNat (by omega), hst b.toNat (by omega), if_pos (by rw [Int.toNat_of_nonneg h1.1]; exact ha), if_pos (by rw [Int.toNat_of_nonneg h2.1]; exact hb)]; exact Int.le_refl _
  ·intro x hx h0
   have h1 := hes x hx
   rw [hst x.t.toNat (by omega)] at h0
   by_cases hm : ((x.t.toNat : Nat) : Int) ∈ tg
   ·exact .inl (by rwa [Int.toNat_of_nonneg h1.2.2.1] at hm)
   ·rw [if_neg hm] at h0; omega
  ·intro s hs
   have h1 := htg s hs
   rw [hst s.toNat (by omega), if_pos (by rw [Int.toNat_of_nonneg h1.1]; exact hs)]
  ·intro i hi
   have h1 := negs_le (bStart n tg)
   rw [bStart_length] at h1
   rw [hst i hi]; split <;> omega
 obtain ⟨c, h⟩ := h0.bwd hes htg (2 * negs (bStart n tg) + tg.length + 1) (by omega)
 have hE : Go.Proofs.YtfbapajcheammaaGreatDoor.bwd (inL es) (2 * negs (bStart n tg) + tg.length + 1) (bStart n tg) tg = backward n es tg := rfl
 rw [hE] at h
 generalize backward n es tg = D at h
 have key : ∀ (k : Nat) (s : Int), 0 ≤ s → s < n → ReachIn es tg k s → 0 ≤ D.getD s.toNat 0 ∧ D.getD s.toNat 0 ≤ k := by
  intro k
  induction k with
  | zero =>
   intro s h0 h1 hr
   rw [h.tgt s hr]; omega
  | succ k ih =>
   rintro s h0 h1 ⟨x, hx, rfl, hr⟩
   have hxr := hes x hx
   obtain ⟨g1, g2⟩ := ih x.t hxr.2.2.1 hxr.2.2.2 hr
   rcases h.done x hx g1 with h3 | ⟨h3, h4⟩
   ·cases h3
   ·omega
 refine ⟨?_, by have := h.bnd i hi; omega⟩
 by_cases hneg : 0 ≤ D.getD i 0
 ·obtain ⟨k, h1, h2⟩ := h.fit i hi hneg
  refine .inr ⟨k, h1, h2, fun j hj hr => ?_⟩
  have := key j i (by omega) (by omega) hr
  rw [Int.toNat_natCast] at this
  omega
 ·refine .inl ⟨?_, fun k hr => ?_⟩
  ·have hl := h.ok.len
   have h1 := h.ok.lo (D.getD i 0) (by rw [List.getD_eq_getElem?_getD, List.getElem?_eq_getElem (by omega)]; exact List.getElem_mem _)
   omega
  ·have := key k i (by omega) (by omega) hr
   rw [Int.toNat_natCast] at this
   omega
theorem backward_dist (hn : n ≤ 1000000) (hes : ∀ x ∈ es, 0 ≤ x.f ∧ x.f < (n : Int) ∧ 0 ≤ x.t ∧ x.t < (n : Int)) (htg : ∀ s ∈ tg, 0 ≤ s ∧ s < (n : Int)) (i : Nat) (hi : i < n) : IsDist es tg i ((backward n es tg).getD i 0) := (backward_bd hn hes htg i hi).1
end
end Go.Proofs.YtfbapajcheammaaGreatDoor

namespace Go.Proofs.YtfbapajcheammaaGreatDoor
open Go Go.RowKit
theorem W_of {x : Int} (h0 : -9223372036854775808 ≤ x) (h1 : x < 9223372036854775808) : W x = x := IntWalk.i64_in _ (by omega)
theorem W_nat {k : Nat} (h : k < 9223372036854775808) : W (k : Int) = k := W_of (by omega) (by omega)
theorem idx_at {α : Type} {xs : List α} {i : Nat} (h : i < xs.length) : idx xs (i : Int) = some xs[i] := by rw [idx_nat, List.getElem?_eq_getElem h]
theorem iter_of {S O : Type} {f : S → Option (S ⊕ O)} {s : S} {o : O} {n : Nat} (hn : n ≤ 18446744073709551616) (h : iterF f n s = some o) : iter f s = some o := by
 have mono : ∀ (n m : Nat) (s : S), n ≤ m → iterF f n s = some o → iterF f m s = some o := by
  intro n
  induction n with
  | zero => intro m s _ h; cases h
  | succ n ih =>
   intro m s hm h
   obtain ⟨k, rfl⟩ : ∃ k, m = k + 1 := ⟨m - 1, by omega⟩
   rw [iterF_succ] at h ⊢
   split at h
   ·cases h
   ·rename_i h1; exact ih k _ (by omega) h
   ·rename_i h1; exact h
 exact mono n _ s hn h
theorem iter_inv {S O : Type} {f : S → Option (S ⊕ O)} (P : Nat → S → Prop) (Q : O → Prop) : ∀ (n i : Nat), n < i + 18446744073709551616 → (∀ i s, i < n → P i s → (∃ s', f s = some (.inl s') ∧ P (i + 1) s') ∨ ∃ o, f s = some (.inr o) ∧ Q o) → (∀ s, P n s → ∃ o, f s = some (.inr o) ∧ Q o) → i ≤ n →
  ∀ s, P i s → ∃ o, iter f s = some o ∧ Q o := by
 have key : ∀ (n : Nat), (∀ i s, i < n → P i s → (∃ s', f s = some (.inl s') ∧ P (i + 1) s') ∨ ∃ o, f s = some (.inr o) ∧ Q o) → (∀ s, P n s → ∃ o, f s = some (.inr o) ∧ Q o) → ∀ (j i : Nat), i + j = n → ∀ s, P i s → ∃ o, iterF f (j + 1) s = some o ∧ Q o := by
  intro n step fin j
  induction j with
  | zero =>
   intro i hi s h
   obtain rfl : i = n := by omega
   obtain ⟨o, h1, h2⟩ := fin s h
   exact ⟨o, by rw [iterF_succ, h1], h2⟩
  | succ j ih =>
   intro i hi s h
   rcases step i s (by omega) h with ⟨s', h1, h2⟩ | ⟨o, h1, h2⟩
   ·obtain ⟨o, h3, h4⟩ := ih (i + 1) (by omega) s' h2
    exact ⟨o, by rw [iterF_succ, h1]; exact h3, h4⟩
   ·exact ⟨o, by rw [iterF_succ, h1], h2⟩
 intro n i hn step fin hi s h
 obtain ⟨o, h1, h2⟩ := key n step fin (n - i) i (by omega) s h
 exact ⟨o, iter_of (by omega) h1, h2⟩
theorem nxt {i : Nat} (h : i < 4611686018427387904) : W ((i : Int) + 1) = ((i + 1 : Nat) : Int) := by rw [show (i : Int) + 1 = ((i + 1 : Nat) : Int) by omega, W_nat (by omega)]
theorem ct_lt {i n : Nat} (h : i < n) : decide ((i : Int) < (n : Int)) = true := by simp; omega
theorem ct_ge {n : Nat} : ¬ decide ((n : Int) < (n : Int)) = true := by simp
def negL (p : List Int) (k : Nat) : List Int := ((List.range k).filter fun i => decide (p.getD i 0 < 0)).map fun (i : Nat) => (i : Int)
theorem negL_succ (p : List Int) (k : Nat) : negL p (k + 1) = if p.getD k 0 < 0 then negL p k ++ [(k : Int)] else negL p k := by
 unfold negL
 rw [List.range_succ, List.filter_append, List.map_append]
 by_cases h : p.getD k 0 < 0
 ·rw [if_pos h, List.filter_cons_of_pos (by simpa using h)]; rfl
 ·rw [if_neg h, List.filter_cons_of_neg (by simpa using h)]; simp
theorem negL_len (p : List Int) (k : Nat) : (negL p k).length ≤ k := by
 unfold negL
 rw [List.length_map]
 exact Nat.le_trans (List.length_filter_le _ _) (by simp)
theorem blocked_eq {p : List Int} (hl : p.length ≤ 1000000) : m_blocking_blocked p = some (negL p p.length) := by
 have h := iter_inv (f := m_blocking_blocked_l1 p) (fun i s => i ≤ p.length ∧ s = ((i : Int), negL p i)) (fun o => o = negL p p.length) p.length 0 (by omega) ?_ ?_ (Nat.zero_le _) (0, []) ⟨Nat.zero_le _, rfl⟩
 ·obtain ⟨o, h1, rfl⟩ := h
  simp [m_blocking_blocked, h1]
 ·rintro i s hi ⟨_, rfl⟩
  refine .inl ⟨_, ?_, by omega, rfl⟩
  have hn := negL_len p i
  rw [m_blocking_blocked_l1]
  simp only [if_pos (show decide ((i : Int) < (p.length : Int)) = true by simp; omega), idx_at hi, Option.bind_some]
  have hg : p.getD i 0 = p[i] := by rw [List.getD_eq_getElem?_getD, List.getElem?_eq_getElem hi]; rfl
  rw [negL_succ, hg]
  by_cases hx : p[i] < 0
  ·rw [if_pos (by simpa using hx), if_pos hx, app_eq (by simp; omega), Option.bind_some, m_blocking_blocked_j1, nxt (by omega)]
  ·rw [if_neg (by simpa using hx), if_neg hx, m_blocking_blocked_j1, nxt (by omega)]
 ·rintro s ⟨_, rfl⟩
  refine ⟨_, ?_, rfl⟩
  rw [m_blocking_blocked_l1]
  simp only [ct_ge, if_false]
  simp
def allL (n : Nat) : List Int := (List.range n).map fun (i : Nat) => (i : Int)
theorem allL_succ (n : Nat) : allL (n + 1) = allL n ++ [(n : Int)] := by simp [allL, List.range_succ]
theorem allL_len (n : Nat) : (allL n).length = n := by simp [allL]
theorem upd_at {α : Type} {xs : List α} {i : Nat} {y : α} (h : i < xs.length) : upd xs (i : Int) y = some (xs.set i y) := by
 unfold upd
 rw [if_pos ⟨by omega, by omega⟩, Int.toNat_natCast]
theorem ball_eq {a : List Int} {n : Nat} {m : List Int} {es : List (Int × Int × Int)} (hn : n ≤ 1000000) : m_blocking_all (a, (n : Int), m, es) = some (allL n) := by
 have hm : mkL (n : Int) (0 : Int) = some (List.replicate n 0) := by unfold mkL; rw [if_pos ⟨by omega, by omega⟩, Int.toNat_natCast]
 have h := iter_inv (f := m_blocking_all_l1 (List.replicate n 0)) (fun i s => i ≤ n ∧ s = ((i : Int), allL i ++ List.replicate (n - i) 0)) (fun o => o = allL n) n 0 (by omega) ?_ ?_ (Nat.zero_le _) (0, List.replicate n 0) ⟨Nat.zero_le _, by simp [allL]⟩
 ·obtain ⟨o, h1, rfl⟩ := h
  simp only [m_blocking_all, hm, Option.bind_some, h1]
 ·rintro i s hi ⟨_, rfl⟩
  refine .inl ⟨_, ?_, by omega, rfl⟩
  have hlen : (allL i ++ List.replicate (n - i) (0 : Int)).length = n := by rw [List.length_append, allL_len, List.length_replicate]; omega
  have hset : (allL i ++ List.replicate (n - i) (0 : Int)).set i (i : Int) = allL (i + 1) ++ List.replicate (n - (i + 1)) 0 := by
   rw [allL_succ, List.set_append_right _ _ (by rw [allL_len]; exact Nat.le_refl _), allL_len, Nat.sub_self, show n - i = (n - (i + 1)) + 1 by omega, List.replicate_succ, List.set_cons_zero]
   simp
  rw [m_blocking_all_l1]
  simp only [List.length_replicate, ct_lt hi, if_true]
  rw [idx_at (by rw [hlen]; exact hi), Option.bind_some, upd_at (by rw [hlen]; exact hi), Option.bind_some, hset, nxt (by omega)]
 ·rintro s ⟨_, rfl⟩
  refine ⟨_, ?_, rfl⟩
  rw [m_blocking_all_l1]
  simp
theorem spread_fill {n : Nat} (hn : n ≤ 1000000) : iter (m_blocking_spread_l1 (List.replicate n 0)) (0, List.replicate n 0) = some (List.replicate n (-1)) := by
 have h := iter_inv (f := m_blocking_spread_l1 (List.replicate n 0)) (fun i s => i ≤ n ∧ s = ((i : Int), List.replicate i (-1) ++ List.replicate (n - i) 0)) (fun o => o = List.replicate n (-1)) n 0 (by omega) ?_ ?_ (Nat.zero_le _) (0, List.replicate n 0) ⟨Nat.zero_le _, by simp⟩
 ·obtain ⟨o, h1, rfl⟩ := h
  exact h1
 ·rintro i s hi ⟨_, rfl⟩
  refine .inl ⟨_, ?_, by omega, rfl⟩
  have hlen : (List.replicate i (-1) ++ List.replicate (n - i) (0 : Int)).length = n := by simp; omega
  have hset : (List.replicate i (-1) ++ List.replicate (n - i) (0 : Int)).set i (-1) = List.replicate (i + 1) (-1) ++ List.replicate (n - (i + 1)) 0 := by
   rw [List.set_append_right _ _ (by simp), List.length_replicate, Nat.sub_self, show n - i = (n - (i + 1)) + 1 by omega, List.replicate_succ, List.set_cons_zero, List.replicate_succ']
   simp
  rw [m_blocking_spread_l1]
  simp only [List.length_replicate, ct_lt hi, if_true]
  rw [idx_at (by rw [hlen]; exact hi), Option.bind_some, upd_at (by rw [hlen]; exact hi), Option.bind_some, hset, nxt (by omega)]
 ·rintro s ⟨_, rfl⟩
  refine ⟨_, ?_, rfl⟩
  rw [m_blocking_spread_l1]
  simp
theorem bStart_len (n : Nat) (tg : List Int) : (bStart n tg).length = n := by
 unfold bStart
 have : ∀ (l : List Int) (ds : List Int), (l.foldl (fun ds (s : Int) => ds.set s.toNat 0) ds).length = ds.length := by
  intro l
  induction l with
  | nil => intro ds; rfl
  | cons s l ih => intro ds; rw [List.foldl_cons, ih, List.length_set]
 rw [this, List.length_replicate]
theorem spread_starts {n : Nat} {tg : List Int} (ht : tg.length ≤ 1000000) (hr : ∀ s ∈ tg, 0 ≤ s ∧ s < (n : Int)) : iter (m_blocking_spread_l2 tg) (0, List.replicate n (-1)) = some (bStart n tg) := by
 have h := iter_inv (f := m_blocking_spread_l2 tg) (fun i s => i ≤ tg.length ∧ s = ((i : Int), bStart n (tg.take i))) (fun o => o = bStart n tg) tg.length 0 (by omega) ?_ ?_ (Nat.zero_le _) (0, List.replicate n (-1)) ⟨Nat.zero_le _, by simp [bStart]⟩
 ·obtain ⟨o, h1, rfl⟩ := h
  exact h1
 ·rintro i s hi ⟨_, rfl⟩
  refine .inl ⟨_, ?_, by omega, rfl⟩
  obtain ⟨h0, h1⟩ := hr _ (List.getElem_mem hi)
  obtain ⟨k, hk⟩ := Int.eq_ofNat_of_zero_le h0
  have hkn : k < (bStart n (tg.take i)).length := by rw [bStart_len]; omega
  have hset : bStart n (tg.take (i + 1)) = (bStart n (tg.take i)).set k 0 := by
   rw [take_snoc tg i hi, hk]
   simp [bStart, List.foldl_append]
  rw [m_blocking_spread_l2]
  simp only [ct_lt hi, if_true, idx_at hi, Option.bind_some, hk]
  rw [idx_at hkn, Option.bind_some, upd_at hkn, Option.bind_some, hset, nxt (by omega)]
 ·rintro s ⟨_, rfl⟩
  refine ⟨_, ?_, rfl⟩
  rw [m_blocking_spread_l2]
  simp
theorem spread_inner {n s i : Nat} {q0 ds0 ps : List Int} (z : List Int × List Int) (hps : ∀ p ∈ ps, 0 ≤ p ∧ p < (n : Int)) (hpl : ps.length ≤ 1000000) (hq : q0[i]? = some (s : Int)) (hs : s < n) (hB : BOk n ds0 q0) (hnn : 0 ≤ ds0.getD s 0) (hsz : 2 * negs ds0 + q0.length ≤ 4000000) :
  ∃ o, iter (m_blocking_spread_l4 ((i : Int), z) ps) (0, q0, ds0) = some o ∧ (o.2, o.1) = ps.foldl (bStep s) (ds0, q0) := by
 refine iter_inv (f := m_blocking_spread_l4 ((i : Int), z) ps) (fun k st => k ≤ ps.length ∧ ∃ ds q, st = ((k : Int), q, ds) ∧ (ds, q) = (ps.take k).foldl (bStep s) (ds0, q0) ∧ BOk n ds q ∧ 0 ≤ ds.getD s 0 ∧ q[i]? = some (s : Int) ∧ 2 * negs ds + q.length ≤ 4000000) (fun o => (o.2, o.1) = ps.foldl (bStep s) (ds0, q0)) ps.length 0 (by omega) ?_ ?_ (Nat.zero_le _) (0, q0, ds0) ⟨Nat.zero_le _, ds0, q0, rfl, by simp, hB, hnn, hq, hsz⟩
 ·rintro k st hk ⟨_, ds, q, rfl, hf, hB, hnn, hq, hsz⟩
  obtain ⟨h0, h1⟩ := hps _ (List.getElem_mem hk)
  have hstep := hB.step hs hnn ps[k] h0 h1
  have hfs : (ps.take (k + 1)).foldl (bStep s) (ds0, q0) = bStep s (ds, q) ps[k] := by rw [take_snoc ps k hk, List.foldl_append, ← hf]; rfl
  obtain ⟨p, hp⟩ := Int.eq_ofNat_of_zero_le h0
  have hpn : p < ds.length := by rw [hB.len]; omega
  have hsn : s < ds.length := by rw [hB.len]; omega
  obtain ⟨hil, hie⟩ := List.getElem?_eq_some_iff.1 hq
  have hgp : ds.getD p 0 = ds[p] := by rw [List.getD_eq_getElem?_getD, List.getElem?_eq_getElem hpn]; rfl
  have hgs : ds.getD s 0 = ds[s] := by rw [List.getD_eq_getElem?_getD, List.getElem?_eq_getElem hsn]; rfl
  have hlo := hB.lo _ (List.getElem_mem hsn)
  refine .inl ⟨((k + 1 : Nat), (bStep s (ds, q) ps[k]).2, (bStep s (ds, q) ps[k]).1), ?_, by omega, _, _, rfl, hfs.symm, hstep.1, hstep.2.1, ?_, by have := hstep.2.2; omega⟩
  ·rw [m_blocking_spread_l4]
   simp only [ct_lt hk, if_true, idx_at hk, Option.bind_some, hp, idx_at hpn, bStep, Int.toNat_natCast, hgp]
   by_cases hx : ds[p] < 0
   ·have happ := app_eq (xs := q) (ys := [(p : Int)]) (by simp; omega)
    simp only [hx, decide_true, if_true, idx_at hil, hie, Option.bind_some, idx_at hsn, upd_at hpn, happ, m_blocking_spread_j1, hgs, W_of (show -9223372036854775808 ≤ ds[s] + 1 by omega) (show ds[s] + 1 < 9223372036854775808 by omega), nxt (show k < 4611686018427387904 by omega)]
   ·simp only [hx, decide_false, if_false, m_blocking_spread_j1, nxt (show k < 4611686018427387904 by omega)]
    simp
  ·unfold bStep
   split
   ·dsimp only; rw [List.getElem?_append_left hil]; exact hq
   ·exact hq
 ·rintro st ⟨_, ds, q, rfl, hf, _⟩
  refine ⟨(q, ds), ?_, by rw [List.take_length] at hf; exact hf⟩
  rw [m_blocking_spread_l4]
  simp
theorem bStep_pre (s : Nat) : ∀ (l : List Int) (ds q1 q2 : List Int), l.foldl (bStep s) (ds, q1 ++ q2) = ((l.foldl (bStep s) (ds, q2)).1, q1 ++ (l.foldl (bStep s) (ds, q2)).2)
 | [], _, _, _ => rfl
 | p :: l, ds, q1, q2 => by
  have h : bStep s (ds, q1 ++ q2) p = ((bStep s (ds, q2) p).1, q1 ++ (bStep s (ds, q2) p).2) := by
   unfold bStep
   dsimp only
   split <;> simp
  rw [List.foldl_cons, h, bStep_pre s l, List.foldl_cons]
theorem spread_queue {n : Nat} {es : List Ed} {ds0 q0 : List Int} (hin : ∀ x ∈ es, 0 ≤ x.f ∧ x.f < n ∧ 0 ≤ x.t ∧ x.t < (n : Int)) (hl : es.length ≤ 1000000) (hB : BOk n ds0 q0) (hsz : 2 * negs ds0 + q0.length ≤ 4000000) :
  iter (m_blocking_spread_l3 ((List.range n).map (inL es))) (0, q0, ds0) = some (bwd (inL es) (2 * negs ds0 + q0.length + 1) ds0 q0) := by
 have h := iter_inv (f := m_blocking_spread_l3 ((List.range n).map (inL es))) (fun i st => ∃ ds q f, st = ((i : Int), q, ds) ∧ i ≤ q.length ∧ BOk n ds q ∧ 2 * negs ds + q.length ≤ 2 * negs ds0 + q0.length ∧ bwd (inL es) f ds (q.drop i) = bwd (inL es) (2 * negs ds0 + q0.length + 1) ds0 q0 ∧ 2 * negs ds + (q.length - i) + 1 ≤ f)
  (fun o => o = bwd (inL es) (2 * negs ds0 + q0.length + 1) ds0 q0) (2 * negs ds0 + q0.length) 0 (by omega) ?_ ?_ (Nat.zero_le _) (0, q0, ds0) ⟨ds0, q0, _, rfl, Nat.zero_le _, hB, Nat.le_refl _, rfl, by omega⟩
 ·obtain ⟨o, h1, rfl⟩ := h
  exact h1
 ·rintro i st _ ⟨ds, q, f, rfl, hi, hB, hm, hR, hf⟩
  by_cases hlt : i < q.length
  ·obtain ⟨g0, g1⟩ := hB.qr _ (List.getElem_mem hlt)
   have hnn := hB.nn _ (List.getElem_mem hlt)
   obtain ⟨s, hs⟩ := Int.eq_ofNat_of_zero_le g0
   have hsn : s < n := by omega
   rw [hs, Int.toNat_natCast] at hnn
   have hps := inL_range (s := s) hin
   have hil := inL_le es s
   obtain ⟨o, h1, h2⟩ := spread_inner (n := n) (s := s) (i := i) (q0 := q) (ds0 := ds) (ps := inL es s) (q, ds) hps (by omega) (by rw [List.getElem?_eq_getElem hlt, hs]) hsn hB hnn (by omega)
   have hfold := BOk.fold hsn (inL es s) hB hnn hps
   rw [← h2] at hfold
   obtain ⟨f, rfl⟩ : ∃ f', f = f' + 1 := ⟨f - 1, by omega⟩
   have hpre := bStep_pre s (inL es s) ds (q.take (i + 1)) (q.drop (i + 1))
   rw [List.take_append_drop, ← h2] at hpre
   have ho1 : o.1 = q.take (i + 1) ++ ((inL es s).foldl (bStep s) (ds, q.drop (i + 1))).2 := congrArg Prod.snd hpre
   have ho2 : o.2 = ((inL es s).foldl (bStep s) (ds, q.drop (i + 1))).1 := congrArg Prod.fst hpre
   have hol : i + 1 ≤ o.1.length := by rw [ho1, List.length_append, List.length_take]; omega
   have hdr : o.1.drop (i + 1) = ((inL es s).foldl (bStep s) (ds, q.drop (i + 1))).2 := by
    rw [ho1, List.drop_append_of_le_length (by rw [List.length_take]; omega), List.drop_eq_nil_of_le (by rw [List.length_take]; omega), List.nil_append]
   refine .inl ⟨((i + 1 : Nat), o.1, o.2), ?_, o.2, o.1, f, rfl, hol, hfold.1, by have := hfold.2.2; dsimp only at this; omega, ?_, by have := hfold.2.2; dsimp only at this; omega⟩
   ·rw [m_blocking_spread_l3]
    simp only [ct_lt hlt, if_true, idx_at hlt, Option.bind_some, hs]
    rw [idx_at (by simpa using hsn), Option.bind_some, List.getElem_map, List.getElem_range, h1, Option.bind_some, nxt (by omega)]
   ·rw [hdr, ho2, ← hR, List.drop_eq_getElem_cons hlt, bwd, hs, Int.toNat_natCast]
  ·have hi' : i = q.length := by omega
   refine .inr ⟨ds, ?_, ?_⟩
   ·subst hi'
    rw [m_blocking_spread_l3]
    simp
   ·obtain ⟨f, rfl⟩ : ∃ f', f = f' + 1 := ⟨f - 1, by omega⟩
    rw [← hR, hi', List.drop_length, bwd]
 ·rintro st ⟨ds, q, f, rfl, hi, hB, hm, hR, hf⟩
  have hi' : 2 * negs ds0 + q0.length = q.length := by omega
  refine ⟨ds, ?_, ?_⟩
  ·rw [m_blocking_spread_l3, hi']
   simp
  ·obtain ⟨f, rfl⟩ : ∃ f', f = f' + 1 := ⟨f - 1, by omega⟩
   rw [← hR, hi', List.drop_length, bwd]
theorem clone_eq {xs : List Int} (h : xs.length ≤ 4294967296) : m_slices_Clone_int xs = some xs := by
 rw [m_slices_Clone_int, app_eq (by simpa using h)]; rfl
theorem spread_eq {a : List Int} {n : Nat} {m : List Int} {es : List (Int × Int × Int)} {tg : List Int} (hn : n ≤ 1000000) (hl : es.length ≤ 1000000) (ht : tg.length ≤ 1000000) (hin : ∀ x ∈ es, 0 ≤ x.1 ∧ x.1 < (n : Int) ∧ 0 ≤ x.2.2 ∧ x.2.2 < (n : Int)) (hr : ∀ s ∈ tg, 0 ≤ s ∧ s < (n : Int)) :
  m_blocking_spread (a, (n : Int), m, es) tg = some (backward n (es.map toEd) tg) := by
 have hm : mkL (n : Int) (0 : Int) = some (List.replicate n 0) := by unfold mkL; rw [if_pos ⟨by omega, by omega⟩, Int.toNat_natCast]
 have hi : m_blocking_into (a, (n : Int), m, es) = some ((List.range n).map (inL (es.map toEd))) := by
  unfold m_blocking_into
  rw [if_pos ⟨hl, by dsimp only; omega, by dsimp only; omega, List.all_eq_true.2 fun x hx => by have := hin x hx; simp; omega⟩]
  simp
 have hB := BOk.start n tg hn hr
 have hq := spread_queue (n := n) (es := es.map toEd) (ds0 := bStart n tg) (q0 := tg) (fun x hx => by
  obtain ⟨y, hy, rfl⟩ := List.mem_map.1 hx
  exact hin y hy) (by simpa using hl) hB (by have := negs_le (bStart n tg); rw [bStart_length] at this; omega)
 simp only [m_blocking_spread, hi, Option.bind_some, hm, spread_fill hn, clone_eq (show tg.length ≤ 4294967296 by omega), spread_starts ht hr, hq, backward]
def errO (e : Int) : Unit ⊕ Int := if e = 0 then .inl () else .inr e
theorem checkSet_go {xs : List Int} {n : Int} (hl : xs.length < 4611686018427387904) : ∀ (j i : Nat), i + j = xs.length →
  iterF (m_automaton_checkSet_l1 xs n) (j + 1) (i : Int) = some (errO (setErr n (prevAt xs i) (xs.drop i))) := by
 intro j
 induction j with
 | zero =>
  intro i hi
  have e : xs.drop i = [] := List.drop_of_length_le (by omega)
  rw [iterF_succ, m_automaton_checkSet_l1, if_neg (by simp; omega), e]
  rfl
 | succ j ih =>
  intro i hi
  have hlt : i < xs.length := by omega
  rw [iterF_succ, m_automaton_checkSet_l1, if_pos (by simp; omega), idx_at hlt, Option.bind_some]
  by_cases h1 : xs[i] < 0 ∨ n ≤ xs[i]
  ·rw [if_pos (by simpa using h1), setErr_2 hlt h1]
   rfl
  ·rw [if_neg (by simpa using h1)]
   by_cases h0 : 0 < i
   ·rw [if_pos (by simp; omega), show (i : Int) - 1 = ((i - 1 : Nat) : Int) by omega, W_nat (by omega), idx_at (show i - 1 < xs.length by omega), Option.bind_some, Option.bind_some]
    by_cases h2 : xs[i] ≤ xs[i - 1]
    ·rw [if_pos (by simpa using h2), setErr_5 hlt h1 h0 h2]
     rfl
    ·rw [if_neg (by simpa using h2), show (i : Int) + 1 = ((i + 1 : Nat) : Int) by omega, W_nat (by omega), setErr_next hlt h1 (fun _ => by omega)]
     exact ih (i + 1) (by omega)
   ·rw [if_neg (by simp; omega), Option.bind_some, if_neg (by simp), show (i : Int) + 1 = ((i + 1 : Nat) : Int) by omega, W_nat (by omega), setErr_next hlt h1 (fun h => absurd h h0)]
    exact ih (i + 1) (by omega)
theorem checkSet_eq {xs : List Int} {n : Int} (hl : xs.length < 4611686018427387904) : m_automaton_checkSet xs n = some (setErr n none xs) := by
 have h : iter (m_automaton_checkSet_l1 xs n) 0 = some (errO (setErr n none xs)) := iter_of (by omega) (checkSet_go (n := n) hl xs.length 0 (by omega))
 rw [m_automaton_checkSet, h, Option.bind_some]
 by_cases h0 : setErr n none xs = 0
 ·rw [h0]; rfl
 ·rw [errO, if_neg h0]
theorem index_go {xs : List Int} {x : Int} (hl : xs.length < 4611686018427387904) : ∀ (j i : Nat), i + j = xs.length →
  ∃ o, iterF (m_slices_Index_int_l1 xs x) (j + 1) (i : Int) = some o ∧ ((o = .inl () ∧ x ∉ xs.drop i) ∨ ∃ k : Nat, i ≤ k ∧ o = .inr (k : Int) ∧ x ∈ xs.drop i) := by
 intro j
 induction j with
 | zero =>
  intro i hi
  have e : xs.drop i = [] := List.drop_of_length_le (by omega)
  refine ⟨.inl (), ?_, .inl ⟨rfl, by rw [e]; simp⟩⟩
  rw [iterF_succ, m_slices_Index_int_l1, if_neg (by simp; omega)]
 | succ j ih =>
  intro i hi
  have hlt : i < xs.length := by omega
  rw [iterF_succ, m_slices_Index_int_l1, if_pos (by simp; omega), idx_at hlt, Option.bind_some]
  by_cases h1 : x = xs[i]
  ·rw [if_pos (by simpa using h1)]
   exact ⟨_, rfl, .inr ⟨i, Nat.le_refl _, rfl, by rw [List.drop_eq_getElem_cons hlt, h1]; exact List.mem_cons_self⟩⟩
  ·rw [if_neg (by simpa using h1), show (i : Int) + 1 = ((i + 1 : Nat) : Int) by omega, W_nat (by omega)]
   obtain ⟨o, h2, h3⟩ := ih (i + 1) (by omega)
   refine ⟨o, h2, ?_⟩
   rw [List.drop_eq_getElem_cons hlt]
   rcases h3 with ⟨h4, h5⟩ | ⟨k, h4, h5, h6⟩
   ·exact .inl ⟨h4, fun hc => (List.mem_cons.1 hc).elim h1 h5⟩
   ·exact .inr ⟨k, by omega, h5, List.mem_cons_of_mem _ h6⟩
theorem contains_eq {xs : List Int} {x : Int} (hl : xs.length < 4611686018427387904) : m_slices_Contains_int xs x = some (hasB xs x) := by
 obtain ⟨o, h1, h2⟩ := index_go (x := x) hl xs.length 0 (by omega)
 have h : iter (m_slices_Index_int_l1 xs x) 0 = some o := iter_of (by omega) h1
 rw [m_slices_Contains_int, m_slices_Index_int, h, Option.bind_some]
 rcases h2 with ⟨rfl, h4⟩ | ⟨k, _, rfl, h4⟩
 ·rw [hasB_false.2 (by simpa using h4)]; rfl
 ·rw [hasB_true.2 (by simpa using h4)]
  show some (decide ((k : Int) ≥ 0)) = some true
  simp
def edP (x : Ed) : Int × Int × Int := (x.f, x.e, x.t)
def autP (a : Aut) : List Int × Int × List Int × List (Int × Int × Int) := (a.al, a.n, a.ms, a.es.map edP)
def prevE (es : List Ed) (k : Nat) : Option Ed := if k = 0 then none else es[k - 1]?
theorem edErr_dropP {al : List Int} {n : Int} {es : List Ed} {k : Nat} (hk : k < es.length) : edErr al n (prevE es k) (es.drop k) =
  if (es[k].f < 0 ∨ n ≤ es[k].f ∨ es[k].t < 0 ∨ n ≤ es[k].t) then 2 else if hasB al es[k].e = false then 9 else if (∃ q, prevE es k = some q ∧ (es[k].f < q.f ∨ (es[k].f = q.f ∧ es[k].e ≤ q.e))) then 5 else edErr al n (prevE es (k + 1)) (es.drop (k + 1)) := by
 rw [List.drop_eq_getElem_cons hk, edErr]
 congr 3
 simp [prevE, List.getElem?_eq_getElem hk]
theorem edges_go {a : Aut} (hl : a.es.length < 4611686018427387904) (hal : a.al.length < 4611686018427387904) : ∀ (j i : Nat), i + j = a.es.length →
  iterF (m_automaton_checkEdges_l1 (autP a)) (j + 1) (i : Int) = some (errO (edErr a.al a.n (prevE a.es i) (a.es.drop i))) := by
 have hlen : (autP a).2.2.2.length = a.es.length := by simp [autP]
 have hat : ∀ (i : Nat) (h : i < a.es.length), idx (autP a).2.2.2 (i : Int) = some (edP a.es[i]) := fun i h => by
  rw [idx_at (by rw [hlen]; exact h)]; simp [autP]
 intro j
 induction j with
 | zero =>
  intro i hi
  have e : a.es.drop i = [] := List.drop_of_length_le (by omega)
  rw [iterF_succ, m_automaton_checkEdges_l1, if_neg (by rw [hlen]; simp; omega), e]
  rfl
 | succ j ih =>
  intro i hi
  have hlt : i < a.es.length := by omega
  have hnext : m_automaton_checkEdges_j1 (i : Int) = some (.inl ((i + 1 : Nat) : Int)) := by
   rw [m_automaton_checkEdges_j1, show (i : Int) + 1 = ((i + 1 : Nat) : Int) by omega, W_nat (by omega)]
  rw [iterF_succ, m_automaton_checkEdges_l1, if_pos (by rw [hlen]; simp; omega), hat i hlt, Option.bind_some, edErr_dropP hlt]
  by_cases h1 : a.es[i].f < 0 ∨ a.n ≤ a.es[i].f ∨ a.es[i].t < 0 ∨ a.n ≤ a.es[i].t
  ·rw [if_pos (by simp only [Bool.or_eq_true, decide_eq_true_eq]; show ((a.es[i].f < 0 ∨ a.es[i].f ≥ a.n) ∨ a.es[i].t < 0) ∨ a.es[i].t ≥ a.n; omega), if_pos h1]
   rfl
  ·rw [if_neg (by simp only [Bool.or_eq_true, decide_eq_true_eq]; show ¬ (((a.es[i].f < 0 ∨ a.es[i].f ≥ a.n) ∨ a.es[i].t < 0) ∨ a.es[i].t ≥ a.n); omega), if_neg h1]
   rw [show m_slices_Contains_int (autP a).1 (edP a.es[i]).2.1 = some (hasB a.al a.es[i].e) from contains_eq hal, Option.bind_some]
   cases h2 : hasB a.al a.es[i].e with
   | false => rfl
   | true =>
    rw [if_neg (show ¬ (!true) = true by simp), if_neg (show ¬ (true = false) by simp)]
    by_cases h0 : i = 0
    ·subst h0
     rw [if_pos (by simp), hnext, if_neg (by rintro ⟨q, hq, _⟩; simp [prevE] at hq)]
     exact ih 1 (by omega)
    ·have hp : prevE a.es i = some a.es[i - 1] := by rw [prevE, if_neg h0, List.getElem?_eq_getElem (by omega)]
     rw [if_neg (by simp; omega), show (i : Int) - 1 = ((i - 1 : Nat) : Int) by omega, W_nat (by omega), hat (i - 1) (by omega), Option.bind_some]
     by_cases h3 : a.es[i].f < a.es[i - 1].f ∨ (a.es[i].f = a.es[i - 1].f ∧ a.es[i].e ≤ a.es[i - 1].e)
     ·rw [if_pos (by simp only [Bool.or_eq_true, Bool.and_eq_true, decide_eq_true_eq, beq_iff_eq]; exact h3), if_pos ⟨_, hp, h3⟩]
      rfl
     ·rw [if_neg (by simp only [Bool.or_eq_true, Bool.and_eq_true, decide_eq_true_eq, beq_iff_eq]; exact h3), hnext, if_neg (by rintro ⟨q, hq, h4⟩; rw [hp] at hq; cases hq; exact h3 h4)]
      exact ih (i + 1) (by omega)
theorem check_eq {a : Aut} (hl : a.es.length < 4611686018427387904) (hal : a.al.length < 4611686018427387904) (hms : a.ms.length < 4611686018427387904) : m_automaton_Check (autP a) = some a.err := by
 have h : iter (m_automaton_checkEdges_l1 (autP a)) 0 = some (errO (edErr a.al a.n none a.es)) := iter_of (by omega) (edges_go hl hal a.es.length 0 (by omega))
 have he : m_automaton_checkEdges (autP a) = some (edErr a.al a.n none a.es) := by
  rw [m_automaton_checkEdges, h, Option.bind_some]
  by_cases h0 : edErr a.al a.n none a.es = 0
  ·rw [h0]; rfl
  ·rw [errO, if_neg h0]
 rw [m_automaton_Check, show m_automaton_checkSet (autP a).1 32 = some (setErr 32 none a.al) from checkSet_eq hal, Option.bind_some, Aut.err]
 by_cases h1 : (setErr 32 none a.al != 0) = true
 ·rw [if_pos h1, if_pos h1]
 ·rw [if_neg h1, if_neg h1]
  by_cases h2 : a.n < 0
  ·rw [if_pos (show decide ((autP a).2.1 < 0) = true from decide_eq_true h2), if_pos h2]
  ·rw [if_neg (show ¬ decide ((autP a).2.1 < 0) = true from fun e => h2 (of_decide_eq_true e)), if_neg h2]
   by_cases h3 : 4096 < a.n
   ·rw [if_pos (show decide ((autP a).2.1 > 4096) = true from decide_eq_true h3), if_pos h3]
   ·rw [if_neg (show ¬ decide ((autP a).2.1 > 4096) = true from fun e => h3 (of_decide_eq_true e)), if_neg h3, show m_automaton_checkSet (autP a).2.2.1 (autP a).2.1 = some (setErr a.n none a.ms) from checkSet_eq hms, Option.bind_some]
    by_cases h4 : (setErr a.n none a.ms != 0) = true
    ·rw [if_pos h4, if_pos h4]
    ·rw [if_neg h4, if_neg h4, he]
     rfl
abbrev Inc (xs : List Int) : Prop := xs.Pairwise (· < ·)
theorem half_eq {i j : Nat} (h : i + j < 9223372036854775808) : W ((IntKind.u64.wrap (W ((i : Int) + (j : Int)))).fdiv (2 ^ (min (1 : Int).toNat 64))) = (((i + j) / 2 : Nat) : Int) := by
 rw [W_of (x := (i : Int) + j) (by omega) (by omega), IntWalk.u64_in _ (by omega), show (2 : Int) ^ (min (1 : Int).toNat 64) = 2 from rfl, Int.fdiv_eq_ediv_of_nonneg _ (by omega), W_of (by omega) (by omega)]
 omega
theorem less_eq (x y : Int) : m_cmp_Less_int x y = some (decide (x < y)) := by
 rw [m_cmp_Less_int, show m_cmp_isNaN_int x = some false by rw [m_cmp_isNaN_int]; simp, Option.bind_some, if_neg (by simp), Option.bind_some, Bool.false_or]
theorem bin_go {xs : List Int} {t : Int} (hl : xs.length < 4294967296) (hs : Inc xs) : ∀ (f i j : Nat), j ≤ i + f → i ≤ j → j ≤ xs.length → (∀ k (h : k < xs.length), k < i → xs[k] < t) → (∀ k (h : k < xs.length), j ≤ k → t ≤ xs[k]) →
  ∃ p : Nat, iterF (m_slices_BinarySearch_int_l1 xs t) (f + 1) ((j : Int), (i : Int)) = some (p : Int) ∧ p ≤ xs.length ∧ (∀ k (h : k < xs.length), k < p → xs[k] < t) ∧ (∀ k (h : k < xs.length), p ≤ k → t ≤ xs[k]) := by
 intro f
 induction f with
 | zero =>
  intro i j h1 h2 h3 h4 h5
  refine ⟨i, ?_, by omega, h4, fun k h hk => h5 k h (by omega)⟩
  rw [iterF_succ, m_slices_BinarySearch_int_l1, if_neg (by simp; omega)]
 | succ f ih =>
  intro i j h1 h2 h3 h4 h5
  rw [iterF_succ, m_slices_BinarySearch_int_l1]
  dsimp only
  by_cases hij : i < j
  ·have hm : (i + j) / 2 < xs.length := by omega
   rw [if_pos (by simp; omega), half_eq (by omega), idx_at hm, Option.bind_some, less_eq, Option.bind_some]
   have mono : ∀ (a b : Nat) (ha : a < xs.length) (hb : b < xs.length), a ≤ b → xs[a] ≤ xs[b] := fun a b ha hb hab => by
    rcases Nat.lt_or_ge a b with h | h
    ·exact Int.le_of_lt (List.pairwise_iff_getElem.1 hs a b ha hb h)
    ·have : a = b := by omega
     subst this
     exact Int.le_refl _
   by_cases hc : xs[(i + j) / 2] < t
   ·rw [if_pos (decide_eq_true hc), show (((i + j) / 2 : Nat) : Int) + 1 = (((i + j) / 2 + 1 : Nat) : Int) by omega, W_nat (by omega)]
    exact ih _ j (by omega) (by omega) h3 (fun k h hk => by have := mono k _ h hm (by omega); omega) h5
   ·rw [if_neg (by simpa using hc)]
    exact ih i _ (by omega) (by omega) (by omega) h4 (fun k h hk => by have := mono _ k hm h hk; omega)
  ·rw [if_neg (by simp; omega)]
   exact ⟨i, rfl, by omega, h4, fun k h hk => h5 k h (by omega)⟩
theorem containsA_eq {xs : List Int} {t : Int} (hl : xs.length < 4294967296) (hs : Inc xs) : m_alphabet_Contains xs t = some (hasB xs t) := by
 obtain ⟨p, hp, hle, hlo, hhi⟩ := bin_go (t := t) hl hs xs.length 0 xs.length (by omega) (by omega) (by omega) (fun k h hk => absurd hk (by omega)) (fun k h hk => absurd hk (by omega))
 have hi : iter (m_slices_BinarySearch_int_l1 xs t) ((xs.length : Int), 0) = some (p : Int) := iter_of (by omega) hp
 rw [m_alphabet_Contains, m_slices_BinarySearch_int, hi, Option.bind_some]
 by_cases hlt : p < xs.length
 ·rw [if_pos (by simpa using hlt), idx_at hlt, Option.bind_some]
  by_cases he : xs[p] = t
  ·rw [if_pos (by simpa using he)]
   show some true = _
   rw [hasB_true.2 (he ▸ List.getElem_mem hlt)]
  ·rw [if_neg (by simpa using he), Option.bind_some, show m_slices_isNaN_int xs[p] = some false by rw [m_slices_isNaN_int]; simp, Option.bind_some, if_neg (by simp)]
   show some false = _
   rw [hasB_false.2]
   intro hm
   obtain ⟨k, hk, hk2⟩ := List.getElem_of_mem hm
   rcases Nat.lt_trichotomy k p with h | h | h
   ·have := hlo k hk h; omega
   ·subst h; exact he hk2
   ·have := hhi p hlt (Nat.le_refl _)
    have := List.pairwise_iff_getElem.1 hs p k hlt hk h
    omega
 ·rw [if_neg (by simpa using hlt)]
  show some false = _
  rw [hasB_false.2]
  intro hm
  obtain ⟨k, hk, hk2⟩ := List.getElem_of_mem hm
  have := hlo k hk (by omega)
  omega
theorem setErr_ok {n : Int} : ∀ {p : Option Int} {xs : List Int}, xs.Pairwise (· < ·) → (∀ x ∈ xs, 0 ≤ x ∧ x < n) → (∀ q, p = some q → ∀ x ∈ xs, q < x) → setErr n p xs = 0
 | _, [], _, _, _ => rfl
 | p, x :: xs, h, hr, hp => by
  obtain ⟨h1, h2⟩ := List.pairwise_cons.1 h
  have h3 := hr x (List.mem_cons_self ..)
  rw [setErr, if_neg (by omega), if_neg ?_]
  ·exact setErr_ok h2 (fun y hy => hr y (List.mem_cons_of_mem _ hy)) (fun q hq y hy => by cases hq; exact h1 y hy)
  ·rintro ⟨q, hq, hle⟩
   have := hp q hq x (List.mem_cons_self ..)
   omega
theorem edErr_ok {al : List Int} {n : Int} : ∀ {p : Option Ed} {es : List Ed}, Sorted es → (∀ x ∈ es, 0 ≤ x.f ∧ x.f < n ∧ 0 ≤ x.t ∧ x.t < n ∧ hasB al x.e = true) → (∀ q, p = some q → ∀ x ∈ es, edLt q x) → edErr al n p es = 0
 | _, [], _, _, _ => rfl
 | p, x :: xs, h, hr, hp => by
  obtain ⟨h1, h2⟩ := List.pairwise_cons.1 h
  have h3 := hr x (List.mem_cons_self ..)
  rw [edErr, if_neg (by omega), if_neg (by rw [h3.2.2.2.2]; simp), if_neg ?_]
  ·exact edErr_ok h2 (fun y hy => hr y (List.mem_cons_of_mem _ hy)) (fun q hq y hy => by cases hq; exact h1 y hy)
  ·rintro ⟨q, hq, hle⟩
   have := hp q hq x (List.mem_cons_self ..)
   unfold edLt at this
   omega
theorem autP_toAut (a : AutT) : autP (toAut a) = a := by
 obtain ⟨x, y, z, es⟩ := a
 simp only [autP, toAut, List.map_map]
 rw [show (edP ∘ toEd) = id from rfl, List.map_id]
structure Right (a : AutT) (n : Nat) : Prop where
 nn : a.2.1 = (n : Int)
 nl : n ≤ 4096
 ali : Inc a.1
 alr : ∀ x ∈ a.1, 0 ≤ x ∧ x < 32
 msi : Inc a.2.2.1
 msr : ∀ x ∈ a.2.2.1, 0 ≤ x ∧ x < (n : Int)
 es : ∀ x ∈ a.2.2.2, 0 ≤ x.1 ∧ x.1 < (n : Int) ∧ 0 ≤ x.2.2 ∧ x.2.2 < (n : Int) ∧ x.2.1 ∈ a.1
 so : a.2.2.2.Pairwise fun x y => x.1 < y.1 ∨ (x.1 = y.1 ∧ x.2.1 < y.2.1)
 l1 : a.1.length ≤ 1000000
 l2 : a.2.2.1.length ≤ 1000000
 l3 : a.2.2.2.length ≤ 1000000
namespace Right
variable {a : AutT} {n : Nat}
theorem sorted (h : Right a n) : Sorted (a.2.2.2.map toEd) := by
 unfold Sorted
 rw [List.pairwise_map]
 exact h.so
theorem ein (h : Right a n) : ∀ x ∈ a.2.2.2.map toEd, 0 ≤ x.f ∧ x.f < (n : Int) ∧ 0 ≤ x.t ∧ x.t < (n : Int) := fun x hx => by
 obtain ⟨y, hy, rfl⟩ := List.mem_map.1 hx
 have := h.es y hy
 exact ⟨this.1, this.2.1, this.2.2.1, this.2.2.2.1⟩
theorem evs (h : Right a n) : EvEs (a.2.2.2.map toEd) := fun x hx => by
 obtain ⟨y, hy, rfl⟩ := List.mem_map.1 hx
 exact h.alr _ (h.es y hy).2.2.2.2
theorem err (h : Right a n) : (toAut a).err = 0 := by
 have h1 : setErr 32 none (toAut a).al = 0 := setErr_ok h.ali h.alr (fun q hq => by cases hq)
 have hn : (toAut a).n = n := h.nn
 have h2 : setErr (toAut a).n none (toAut a).ms = 0 := by rw [hn]; exact setErr_ok h.msi h.msr (fun q hq => by cases hq)
 have h3 : edErr (toAut a).al (toAut a).n none (toAut a).es = 0 := by
  rw [hn]
  refine edErr_ok h.sorted (fun x hx => ?_) (fun q hq => by cases hq)
  obtain ⟨y, hy, rfl⟩ := List.mem_map.1 hx
  have := h.es y hy
  exact ⟨this.1, this.2.1, this.2.2.1, this.2.2.2.1, hasB_true.2 this.2.2.2.2⟩
 have := h.nl
 unfold Aut.err
 rw [h1, if_neg (by decide), if_neg (by rw [hn]; omega), if_neg (by rw [hn]; omega), h2, if_neg (by decide), h3]
theorem check (h : Right a n) : m_automaton_Check a = some 0 := by
 have h1 := h.l1
 have h2 := h.l2
 have h3 := h.l3
 have := check_eq (a := toAut a) (by simp [toAut]; omega) (by simp [toAut]; omega) (by simp [toAut]; omega)
 rwa [autP_toAut, h.err] at this
end Right
theorem inc_len {n : Nat} : ∀ {xs : List Int} {lo : Int}, Inc xs → (∀ x ∈ xs, lo ≤ x ∧ x < (n : Int)) → 0 ≤ lo → xs.length ≤ n - lo.toNat
 | [], _, _, _, _ => Nat.zero_le _
 | x :: xs, lo, h, hr, h0 => by
  obtain ⟨h1, h2⟩ := List.pairwise_cons.1 h
  have hx := hr x (List.mem_cons_self ..)
  have := inc_len (n := n) (lo := x + 1) h2 (fun y hy => ⟨by have := h1 y hy; omega, (hr y (List.mem_cons_of_mem _ hy)).2⟩) (by omega)
  rw [List.length_cons]
  omega
theorem idx_hd {α : Type} (a : α) (us : List α) : idx (a :: us) 0 = some a := rfl
theorem slc_tl {α : Type} (a : α) (us : List α) : slc (a :: us) 1 ((a :: us).length : Int) = some us := by
 rw [slc, if_pos ⟨by omega, by simp; omega, by omega⟩]
 simp
structure Mrg (out us vs : List Int) : Prop where
 o : Inc out
 u : Inc us
 v : Inc vs
 ou : ∀ x ∈ out, ∀ y ∈ us, x < y
 ov : ∀ x ∈ out, ∀ y ∈ vs, x < y
 ro : ∀ x ∈ out, 0 ≤ x ∧ x < 32
 ru : ∀ x ∈ us, 0 ≤ x ∧ x < 32
 rv : ∀ x ∈ vs, 0 ≤ x ∧ x < 32
theorem Mrg.swap {out us vs : List Int} (h : Mrg out us vs) : Mrg out vs us := ⟨h.o, h.v, h.u, h.ov, h.ou, h.ro, h.rv, h.ru⟩
theorem Mrg.push {out us vs : List Int} {a : Int} (h : Mrg out (a :: us) vs) (hv : ∀ y ∈ vs, a < y) : Mrg (out ++ [a]) us vs := by
 obtain ⟨u1, u2⟩ := List.pairwise_cons.1 h.u
 refine ⟨?_, u2, h.v, ?_, ?_, ?_, fun x hx => h.ru x (List.mem_cons_of_mem _ hx), h.rv⟩
 ·unfold Inc; rw [List.pairwise_append]
  exact ⟨h.o, List.pairwise_singleton _ _, fun x hx y hy => by rw [List.mem_singleton.1 hy]; exact h.ou x hx a (List.mem_cons_self ..)⟩
 ·intro x hx y hy
  rcases List.mem_append.1 hx with hx | hx
  ·exact h.ou x hx y (List.mem_cons_of_mem _ hy)
  ·rw [List.mem_singleton.1 hx]; exact u1 y hy
 ·intro x hx y hy
  rcases List.mem_append.1 hx with hx | hx
  ·exact h.ov x hx y hy
  ·rw [List.mem_singleton.1 hx]; exact hv y hy
 ·intro x hx
  rcases List.mem_append.1 hx with hx | hx
  ·exact h.ro x hx
  ·rw [List.mem_singleton.1 hx]; exact h.ru a (List.mem_cons_self ..)
theorem Mrg.tailv {out us vs : List Int} {a : Int} (h : Mrg out us (a :: vs)) : Mrg out us vs :=
 ⟨h.o, h.u, (List.pairwise_cons.1 h.v).2, h.ou, fun x hx y hy => h.ov x hx y (List.mem_cons_of_mem _ hy), h.ro, h.ru, fun x hx => h.rv x (List.mem_cons_of_mem _ hx)⟩
theorem Mrg.len {out us vs : List Int} (h : Mrg out us vs) : out.length ≤ 32 := by
 have := inc_len (n := 32) (lo := 0) h.o h.ro (Int.le_refl _)
 simpa using this
theorem Mrg.lt {out us vs : List Int} {a b : Int} (h : Mrg out us (b :: vs)) (hab : a < b) : ∀ y ∈ b :: vs, a < y := fun y hy => by
 rcases List.mem_cons.1 hy with rfl | hy
 ·exact hab
 ·have := (List.pairwise_cons.1 h.v).1 y hy; omega
theorem union_step {out us vs : List Int} (h : Mrg out us vs) (hne : 0 < us.length + vs.length) :
  ∃ o u v, m_alphabet_merge_l1 m_alphabet_Union_1 (out, us, vs) = some (.inl (o, u, v)) ∧ Mrg o u v ∧ u.length + v.length + 1 ≤ us.length + vs.length := by
 have hl := h.len
 have ho : ∀ a : Int, app out ([a] : List Int) = some (out ++ [a]) := fun a => app_eq (by simp; omega)
 cases us with
 | nil =>
  cases vs with
  | nil => simp at hne
  | cons b vs =>
   refine ⟨out ++ [b], [], vs, ?_, (h.swap.push (fun y hy => by cases hy)).swap, by simp⟩
   rw [m_alphabet_merge_l1]
   dsimp only
   rw [if_pos (by simp), if_neg (by simp), m_alphabet_merge_j1]
   dsimp only
   rw [if_pos (by simp), if_pos (by simp), m_alphabet_merge_j2, if_neg (by simp), m_alphabet_merge_j3, if_pos rfl]
   dsimp only
   rw [idx_hd, Option.bind_some, slc_tl, Option.bind_some, m_alphabet_merge_j4, show m_alphabet_Union_1 false true = some true from rfl, Option.bind_some, if_pos rfl]
   dsimp only
   rw [ho, Option.bind_some]
 | cons a us =>
  cases vs with
  | nil =>
   refine ⟨out ++ [a], us, [], ?_, h.push (fun y hy => by cases hy), by simp⟩
   rw [m_alphabet_merge_l1]
   dsimp only
   rw [if_pos (by simp), if_pos (by simp), if_pos (by simp), m_alphabet_merge_j1]
   dsimp only
   rw [if_neg (by simp), m_alphabet_merge_j2, if_pos rfl]
   dsimp only
   rw [idx_hd, Option.bind_some, slc_tl, Option.bind_some, m_alphabet_merge_j3, if_neg (by simp), m_alphabet_merge_j4, show m_alphabet_Union_1 true false = some true from rfl, Option.bind_some, if_pos rfl]
   dsimp only
   rw [ho, Option.bind_some]
  | cons b vs =>
   have e0 : m_alphabet_merge_l1 m_alphabet_Union_1 (out, a :: us, b :: vs) = m_alphabet_merge_j2 m_alphabet_Union_1 (out, a :: us, b :: vs) (decide (a ≤ b)) (decide (b ≤ a)) := by
    rw [m_alphabet_merge_l1]
    dsimp only
    rw [if_pos (by simp), if_pos (by simp), if_neg (by simp; omega), idx_hd, Option.bind_some, idx_hd, Option.bind_some, m_alphabet_merge_j1]
    dsimp only
    rw [if_pos (by simp), if_neg (by simp; omega), idx_hd, Option.bind_some, idx_hd, Option.bind_some]
   rw [e0, m_alphabet_merge_j2]
   dsimp only
   by_cases h1 : a < b
   ·refine ⟨out ++ [a], us, b :: vs, ?_, h.push (h.lt h1), by simp; omega⟩
    rw [if_pos (show decide (a ≤ b) = true by simp; omega), idx_hd, Option.bind_some, slc_tl, Option.bind_some, m_alphabet_merge_j3, if_neg (by simp; omega), m_alphabet_merge_j4, show decide (a ≤ b) = true by simp; omega, show decide (b ≤ a) = false by simp; omega,
     show m_alphabet_Union_1 true false = some true from rfl, Option.bind_some, if_pos rfl]
    dsimp only
    rw [ho, Option.bind_some]
   ·by_cases h2 : b < a
    ·refine ⟨out ++ [b], a :: us, vs, ?_, (h.swap.push (h.swap.lt h2)).swap, by simp; omega⟩
     rw [if_neg (show ¬ decide (a ≤ b) = true by simp; omega), m_alphabet_merge_j3, if_pos (show decide (b ≤ a) = true by simp; omega)]
     dsimp only
     rw [idx_hd, Option.bind_some, slc_tl, Option.bind_some, m_alphabet_merge_j4, show decide (a ≤ b) = false by simp; omega, show decide (b ≤ a) = true by simp; omega,
      show m_alphabet_Union_1 false true = some true from rfl, Option.bind_some, if_pos rfl]
     dsimp only
     rw [ho, Option.bind_some]
    ·obtain rfl : a = b := by omega
     refine ⟨out ++ [a], us, vs, ?_, h.tailv.push ((List.pairwise_cons.1 h.v).1), by simp; omega⟩
     rw [if_pos (show decide (a ≤ a) = true by simp), idx_hd, Option.bind_some, slc_tl, Option.bind_some, m_alphabet_merge_j3, if_pos (show decide (a ≤ a) = true by simp)]
     dsimp only
     rw [idx_hd, Option.bind_some, slc_tl, Option.bind_some, m_alphabet_merge_j4, show decide (a ≤ a) = true by simp,
      show m_alphabet_Union_1 true true = some true from rfl, Option.bind_some, if_pos rfl]
     dsimp only
     rw [ho, Option.bind_some]
def Alp (xs : List Int) : Prop := Inc xs ∧ ∀ x ∈ xs, 0 ≤ x ∧ x < 32
theorem Alp.nil : Alp [] := ⟨List.Pairwise.nil, fun x hx => by cases hx⟩
theorem Alp.len {xs : List Int} (h : Alp xs) : xs.length ≤ 32 := by
 have := inc_len (n := 32) (lo := 0) h.1 h.2 (Int.le_refl _)
 simpa using this
theorem union_ex {us vs : List Int} (hu : Alp us) (hv : Alp vs) : ∃ o, m_alphabet_Union us vs = some o ∧ Alp o := by
 have h0 : Mrg [] us vs := ⟨List.Pairwise.nil, hu.1, hv.1, fun x hx => (by cases hx), fun x hx => (by cases hx), fun x hx => (by cases hx), hu.2, hv.2⟩
 have l1 := hu.len
 have l2 := hv.len
 obtain ⟨o, h1, h2⟩ := iter_inv (f := m_alphabet_merge_l1 m_alphabet_Union_1) (fun i s => Mrg s.1 s.2.1 s.2.2 ∧ s.2.1.length + s.2.2.length + i ≤ us.length + vs.length) (fun o => Alp o) (us.length + vs.length) 0 (by omega) (fun i s hi ⟨g1, g2⟩ => by
   obtain ⟨out, u, v⟩ := s
   dsimp only at g1 g2
   by_cases hne : 0 < u.length + v.length
   ·obtain ⟨o, u', v', e, g3, g4⟩ := union_step g1 hne
    exact .inl ⟨_, e, g3, by dsimp only; omega⟩
   ·have e1 : u = [] := List.eq_nil_of_length_eq_zero (by omega)
    have e2 : v = [] := List.eq_nil_of_length_eq_zero (by omega)
    subst e1; subst e2
    exact .inr ⟨out, rfl, g1.o, g1.ro⟩) (fun s ⟨g1, g2⟩ => by
   obtain ⟨out, u, v⟩ := s
   dsimp only at g1 g2
   have e1 : u = [] := List.eq_nil_of_length_eq_zero (by omega)
   have e2 : v = [] := List.eq_nil_of_length_eq_zero (by omega)
   subst e1; subst e2
   exact ⟨out, rfl, g1.o, g1.ro⟩) (Nat.zero_le _) ([], us, vs) ⟨h0, by dsimp only; omega⟩
 exact ⟨o, by rw [m_alphabet_Union, m_alphabet_merge, h1]; rfl, h2⟩
theorem events_ex {l : List AutT} (hl : l.length ≤ 1000) (h : ∀ a ∈ l, Alp a.1) : ∃ ev, m_product_events l = some ev ∧ Alp ev := by
 obtain ⟨o, h1, h2⟩ := iter_inv (f := m_product_events_l1 l) (fun i s => s.1 = (i : Int) ∧ Alp s.2) (fun o => Alp o) l.length 0 (by omega) (fun i s hi ⟨e1, g1⟩ => by
   obtain ⟨k, out⟩ := s
   dsimp only at e1 g1
   subst e1
   obtain ⟨o, e, g2⟩ := union_ex g1 (h _ (List.getElem_mem hi))
   refine .inl ⟨(((i + 1 : Nat) : Int), o), ?_, rfl, g2⟩
   rw [m_product_events_l1]
   dsimp only
   rw [if_pos (ct_lt hi), idx_at hi, Option.bind_some, e, Option.bind_some, nxt (by omega)]) (fun s ⟨e1, g1⟩ => by
   obtain ⟨k, out⟩ := s
   dsimp only at e1 g1
   subst e1
   refine ⟨out, ?_, g1⟩
   rw [m_product_events_l1]
   dsimp only
   rw [if_neg ct_ge]) (Nat.zero_le _) (0, []) ⟨rfl, Alp.nil⟩
 exact ⟨o, by rw [m_product_events, h1]; rfl, h2⟩
section
variable {κ β : Type} [BEq κ]
theorem kget_mem {m : List (κ × β)} {k : κ} {v : β} (h : kget m k = some v) : ∃ e ∈ m, e.2 = v := by
 unfold kget at h
 rw [Option.map_eq_some_iff] at h
 obtain ⟨e, h1, h2⟩ := h
 exact ⟨e, List.mem_of_find?_eq_some h1, h2⟩
theorem kput_mem {m : List (κ × β)} {k : κ} {v : β} {e : κ × β} (h : e ∈ kput m k v) : e ∈ m ∨ e = (k, v) := by
 unfold kput at h
 split at h
 ·exact List.mem_or_eq_of_mem_set h
 ·rcases List.mem_append.1 h with h | h
  ·exact .inl h
  ·exact .inr (List.mem_singleton.1 h)
theorem kget_isSome {m : List (κ × β)} {k : κ} : (kget m k).isSome = m.any fun p => k == p.1 := by
 unfold kget
 induction m with
 | nil => rfl
 | cons p m ih =>
  rw [List.any_cons]
  cases h : k == p.1 with
  | true => rw [List.find?_cons_of_pos (by simpa using h)]; rfl
  | false => rw [List.find?_cons_of_neg (by simp [h])]; simpa using ih
end
theorem beqB (k : ByteArray) : (k == k) = true := by rw [beq_toListBytes]; simp
theorem kput_self {β : Type} {m : List (ByteArray × β)} {k : ByteArray} {v : β} : (kget (kput m k v) k).isSome = true := by
 rw [kget_isSome, List.any_eq_true]
 refine ⟨(k, v), ?_, beqB k⟩
 unfold kput
 split
 ·rename_i h; exact List.mem_set h _
 ·exact List.mem_append_right _ (List.mem_singleton.2 rfl)
theorem kput_keep {β : Type} {m : List (ByteArray × β)} {k q : ByteArray} {v : β} (h : (kget m q).isSome = true) : (kget (kput m k v) q).isSome = true := by
 rw [kget_isSome, List.any_eq_true] at h ⊢
 obtain ⟨e, h1, h2⟩ := h
 have hq := eqS h2
 unfold kput
 split
 ·rename_i hlt
  obtain ⟨i, hi, rfl⟩ := List.getElem_of_mem h1
  by_cases e : kidx (m.map (·.1)) k = i
  ·refine ⟨(k, v), List.mem_set hlt _, ?_⟩
   have hk : (fun p => k == p) ((m.map (·.1))[kidx (m.map (·.1)) k]'(by rw [List.length_map]; exact hlt)) = true := List.findIdx_getElem (p := fun p => k == p) (w := by rw [List.length_map]; exact hlt)
   rw [List.getElem_map] at hk
   have hk := eqS hk
   subst e
   rw [hq, ← hk]
   exact beqB k
  ·refine ⟨m[i], ?_, h2⟩
   have := List.getElem_set_ne (l := m) e (a := (k, v)) (by rw [List.length_set]; exact hi)
   rw [← this]
   exact List.getElem_mem _
 ·exact ⟨e, List.mem_append_left _ h1, h2⟩
def InT (l : List AutT) (t : List Int) : Prop := t.length = l.length ∧ ∀ i (h : i < l.length) (h' : i < t.length), 0 ≤ t[i] ∧ t[i] < l[i].2.1
theorem InT.set {l : List AutT} {t : List Int} (h : InT l t) {i : Nat} (hi : i < l.length) {v : Int} (h0 : 0 ≤ v) (h1 : v < l[i].2.1) : InT l (t.set i v) := by
 refine ⟨by rw [List.length_set]; exact h.1, fun k hk hk' => ?_⟩
 rw [List.getElem_set]
 split
 ·rename_i e; subst e; exact ⟨h0, h1⟩
 ·exact h.2 k hk _
structure LOk (l : List AutT) : Prop where
 len : l.length ≤ 3
 right : ∀ a ∈ l, ∃ n : Nat, 1 ≤ n ∧ n ≤ 6 ∧ Right a n
structure MOk (l : List AutT) (m : List AutT × List Int × List (List ((Int × Int) × Int))) : Prop where
 ml : m.1 = l
 ev : Alp m.2.1
 len : m.2.2.length = l.length
 edge : ∀ i (h : i < l.length) (h' : i < m.2.2.length), ∀ e ∈ m.2.2[i], 0 ≤ e.2 ∧ e.2 < l[i].2.1
theorem pcheck_eq {l : List AutT} (h : LOk l) : m_product_Check l = some 0 := by
 have hl := h.len
 obtain ⟨o, h1, rfl⟩ := iter_inv (f := m_product_Check_l1 l) (fun i s => s = (i : Int)) (fun o => o = .inl ()) l.length 0 (by omega) (fun i s hi e1 => by
   subst e1
   obtain ⟨n, _, _, hr⟩ := h.right _ (List.getElem_mem hi)
   refine .inl ⟨((i + 1 : Nat) : Int), ?_, rfl⟩
   rw [m_product_Check_l1, if_pos (ct_lt hi), idx_at hi, Option.bind_some, hr.check, Option.bind_some, if_neg (by simp), nxt (by omega)]) (fun s e1 => by
   subst e1
   exact ⟨_, by rw [m_product_Check_l1, if_neg ct_ge], rfl⟩) (Nat.zero_le _) 0 rfl
 rw [m_product_Check, if_neg (by simp; omega), h1]
 rfl
theorem open_in {a : AutT} {n : Nat} (hr : Right a n) : ∃ o, iter (m_product_open_l2 a) (0, ([] : List ((Int × Int) × Int))) = some o ∧ ∀ e ∈ o, 0 ≤ e.2 ∧ e.2 < (n : Int) := by
 have hl := hr.l3
 refine iter_inv (f := m_product_open_l2 a) (fun i s => s.1 = (i : Int) ∧ ∀ e ∈ s.2, 0 ≤ e.2 ∧ e.2 < (n : Int)) (fun o => ∀ e ∈ o, 0 ≤ e.2 ∧ e.2 < (n : Int)) a.2.2.2.length 0 (by omega) (fun i s hi ⟨e1, g1⟩ => ?_) (fun s ⟨e1, g1⟩ => ?_) (Nat.zero_le _) _ ⟨rfl, fun e he => (by cases he)⟩
 ·obtain ⟨k, out⟩ := s
  dsimp only at e1 g1
  subst e1
  have hx := hr.es _ (List.getElem_mem hi)
  refine .inl ⟨(((i + 1 : Nat) : Int), kput out (a.2.2.2[i].1, a.2.2.2[i].2.1) a.2.2.2[i].2.2), ?_, rfl, fun e he => ?_⟩
  ·rw [m_product_open_l2]
   dsimp only
   rw [if_pos (ct_lt hi), idx_at hi, Option.bind_some, nxt (by omega)]
  ·rcases kput_mem he with he | he
   ·exact g1 e he
   ·rw [he]; exact ⟨hx.2.2.1, hx.2.2.2.1⟩
 ·obtain ⟨k, out⟩ := s
  dsimp only at e1 g1
  subst e1
  refine ⟨out, ?_, g1⟩
  rw [m_product_open_l2]
  dsimp only
  rw [if_neg ct_ge]
theorem open_ex {l : List AutT} (h : LOk l) : ∃ m, m_product_open l = some m ∧ MOk l m := by
 have hl := h.len
 obtain ⟨ev, he, hev⟩ := events_ex (l := l) (by omega) (fun a ha => by
  obtain ⟨n, _, _, hr⟩ := h.right a ha
  exact ⟨hr.ali, hr.alr⟩)
 obtain ⟨o, h1, h2⟩ := iter_inv (f := m_product_open_l1 l) (fun i s => i ≤ l.length ∧ s.1 = (i : Int) ∧ s.2.length = i ∧ ∀ k (h : k < l.length) (h' : k < s.2.length), ∀ e ∈ s.2[k], 0 ≤ e.2 ∧ e.2 < l[k].2.1) (fun o => o.length = l.length ∧ ∀ k (h : k < l.length) (h' : k < o.length), ∀ e ∈ o[k], 0 ≤ e.2 ∧ e.2 < l[k].2.1) l.length 0 (by omega) (fun i s hi ⟨_, e1, g1, g2⟩ => by
   obtain ⟨k, out⟩ := s
   dsimp only at e1 g1 g2
   subst e1
   obtain ⟨n, _, _, hr⟩ := h.right _ (List.getElem_mem hi)
   obtain ⟨o, e, g3⟩ := open_in hr
   refine .inl ⟨(((i + 1 : Nat) : Int), out ++ [o]), ?_, by omega, rfl, by simp [g1], fun k hk hk' x hx => ?_⟩
   ·rw [m_product_open_l1]
    dsimp only
    rw [if_pos (ct_lt hi), idx_at hi, Option.bind_some, e, Option.bind_some, app_eq (by simp; omega), Option.bind_some, nxt (by omega)]
   ·dsimp only at hx
    by_cases hki : k < out.length
    ·rw [List.getElem_append_left hki] at hx; exact g2 k hk hki x hx
    ·have hk2 : k = i := by simp at hk'; omega
     subst hk2
     rw [List.getElem_append_right (by omega)] at hx
     simp only [g1, Nat.sub_self, List.getElem_cons_zero] at hx
     rw [hr.nn]
     exact g3 x hx) (fun s ⟨_, e1, g1, g2⟩ => by
   obtain ⟨k, out⟩ := s
   dsimp only at e1 g1 g2
   subst e1
   refine ⟨out, ?_, g1, g2⟩
   rw [m_product_open_l1]
   dsimp only
   rw [if_neg ct_ge]) (Nat.zero_le _) (0, []) ⟨Nat.zero_le _, rfl, rfl, fun k hk hk' => (by simp at hk')⟩
 exact ⟨(l, ev, o), by rw [m_product_open, he, Option.bind_some, h1]; rfl, rfl, hev, h2.1, h2.2⟩
theorem initial_eq {l : List AutT} (h : LOk l) {m : List AutT × List Int × List (List ((Int × Int) × Int))} (hm : MOk l m) : ∃ t, m_product_machine_initial m = some (t, true) ∧ InT l t := by
 have hl := h.len
 obtain ⟨m1, m2, m3⟩ := m
 obtain ⟨rfl, hev, hlen, _⟩ := hm
 dsimp only at *
 obtain ⟨o, h1, rfl⟩ := iter_inv (f := m_product_machine_initial_l1 (m1, m2, m3)) (fun i s => s = (i : Int)) (fun o => o = .inl ()) m1.length 0 (by omega) (fun i s hi e1 => by
   subst e1
   obtain ⟨n, hn, _, hr⟩ := h.right _ (List.getElem_mem hi)
   refine .inl ⟨((i + 1 : Nat) : Int), ?_, rfl⟩
   rw [m_product_machine_initial_l1]
   dsimp only
   rw [if_pos (ct_lt hi), idx_at hi, Option.bind_some, hr.nn, if_neg (by simp; omega), nxt (by omega)]) (fun s e1 => by
   subst e1
   refine ⟨_, ?_, rfl⟩
   rw [m_product_machine_initial_l1]
   dsimp only
   rw [if_neg ct_ge]) (Nat.zero_le _) 0 rfl
 have hmk : mkL (m1.length : Int) (0 : Int) = some (List.replicate m1.length 0) := by unfold mkL; rw [if_pos ⟨by omega, by omega⟩, Int.toNat_natCast]
 refine ⟨List.replicate m1.length 0, ?_, by simp, fun i hi hi' => ?_⟩
 ·rw [m_product_machine_initial, h1, Option.bind_some]
  dsimp only
  rw [hmk, Option.bind_some]
 ·obtain ⟨n, hn, _, hr⟩ := h.right _ (List.getElem_mem hi)
  rw [List.getElem_replicate, hr.nn]
  omega
theorem step_ex {l : List AutT} (h : LOk l) {m : List AutT × List Int × List (List ((Int × Int) × Int))} (hm : MOk l m) {t : List Int} (ht : InT l t) (e : Int) : ∃ r, m_product_machine_step m t e = some r ∧ (r.2 = true → InT l r.1) := by
 have hl := h.len
 obtain ⟨m1, m2, m3⟩ := m
 obtain ⟨rfl, hev, hlen, hed⟩ := hm
 dsimp only at *
 obtain ⟨o, h1, h2⟩ := iter_inv (f := m_product_machine_step_l1 (m1, m2, m3) t e) (fun i s => s.1 = (i : Int) ∧ InT m1 s.2) (fun o => ∀ u, o = .inl u → InT m1 u) m1.length 0 (by omega) (fun i s hi ⟨e1, g1⟩ => by
   obtain ⟨k, out⟩ := s
   dsimp only at e1 g1
   subst e1
   obtain ⟨n, hn, _, hr⟩ := h.right _ (List.getElem_mem hi)
   have ha : m1[i].1.length < 4294967296 := by have := hr.l1; omega
   have hj : ∀ u : List Int, m_product_machine_step_j1 ((i : Int), out) u = some (.inl (((i + 1 : Nat) : Int), u)) := fun u => by
    rw [m_product_machine_step_j1]; dsimp only; rw [nxt (by omega)]
   rw [m_product_machine_step_l1]
   dsimp only
   rw [if_pos (ct_lt hi), idx_at hi, Option.bind_some, containsA_eq ha hr.ali, Option.bind_some]
   cases hb : hasB m1[i].1 e with
   | false =>
    rw [if_pos (by simp), hj]
    exact .inl ⟨_, rfl, rfl, g1⟩
   | true =>
    rw [if_neg (by simp), idx_at (by omega), Option.bind_some, idx_at (by have := ht.1; omega), Option.bind_some]
    cases hg : kget m3[i] (t[i]'(by have := ht.1; omega), e) with
    | none =>
     rw [if_pos (by simp)]
     exact .inr ⟨_, rfl, fun u hu => by cases hu⟩
    | some v =>
     obtain ⟨x, hx, rfl⟩ := kget_mem hg
     have hv := hed i hi (by omega) x hx
     rw [if_neg (by simp), idx_at (by have := g1.1; omega), Option.bind_some, upd_at (by have := g1.1; omega), Option.bind_some, hj]
     exact .inl ⟨_, rfl, rfl, g1.set hi hv.1 hv.2⟩) (fun s ⟨e1, g1⟩ => by
   obtain ⟨k, out⟩ := s
   dsimp only at e1 g1
   subst e1
   refine ⟨.inl out, ?_, fun u hu => by cases hu; exact g1⟩
   rw [m_product_machine_step_l1]
   dsimp only
   rw [if_neg ct_ge]) (Nat.zero_le _) (0, t) ⟨rfl, ht⟩
 rw [m_product_machine_step, clone_eq (by have := ht.1; omega), Option.bind_some, h1, Option.bind_some]
 cases o with
 | inl u => exact ⟨_, rfl, fun _ => h2 u rfl⟩
 | inr u => exact ⟨_, rfl, fun hb => by cases hb⟩
theorem marked_ex {l : List AutT} (h : LOk l) {m : List AutT × List Int × List (List ((Int × Int) × Int))} (hm : MOk l m) {t : List Int} (ht : InT l t) : ∃ b, m_product_machine_marked m t = some b := by
 have hl := h.len
 obtain ⟨m1, m2, m3⟩ := m
 obtain ⟨rfl, hev, hlen, hed⟩ := hm
 dsimp only at *
 obtain ⟨o, h1, h2⟩ := iter_inv (f := m_product_machine_marked_l1 (m1, m2, m3) t) (fun i s => s = (i : Int)) (fun _ => True) m1.length 0 (by omega) (fun i s hi e1 => by
   subst e1
   obtain ⟨n, hn, _, hr⟩ := h.right _ (List.getElem_mem hi)
   have ha : m1[i].2.2.1.length < 4294967296 := by have := hr.l2; omega
   rw [m_product_machine_marked_l1]
   dsimp only
   rw [if_pos (ct_lt hi), idx_at hi, Option.bind_some, idx_at (by have := ht.1; omega), Option.bind_some, containsA_eq ha hr.msi, Option.bind_some]
   cases hb : hasB m1[i].2.2.1 (t[i]'(by have := ht.1; omega)) with
   | false => rw [if_pos (by simp)]; exact .inr ⟨_, rfl, trivial⟩
   | true => rw [if_neg (by simp), nxt (by omega)]; exact .inl ⟨_, rfl, rfl⟩) (fun s e1 => by
   subst e1
   refine ⟨.inl (), ?_, trivial⟩
   rw [m_product_machine_marked_l1]
   dsimp only
   rw [if_neg ct_ge]) (Nat.zero_le _) 0 rfl
 rw [m_product_machine_marked, h1, Option.bind_some]
 cases o with
 | inl u => exact ⟨_, rfl⟩
 | inr u => exact ⟨_, rfl⟩
def keyK (t : List Int) : ByteArray := ⟨(keyB t).toArray⟩
theorem key_eq {l : List AutT} (h : LOk l) {t : List Int} (ht : InT l t) : m_product_key t = some (keyK t) := by
 have hl := h.len
 have hc : (t.all fun x => decide (0 ≤ x ∧ x < 100)) = true := by
  rw [List.all_eq_true]
  intro x hx
  obtain ⟨i, hi, rfl⟩ := List.getElem_of_mem hx
  have hi' : i < l.length := by have := ht.1; omega
  obtain ⟨n, hn, hn6, hr⟩ := h.right _ (List.getElem_mem hi')
  have := ht.2 i hi' hi
  rw [hr.nn] at this
  simp; omega
 rw [m_product_key, if_pos ⟨hc, by have := ht.1; omega⟩]
 rfl
theorem nodup_len : ∀ (N : Nat) (l : List Nat), l.Nodup → (∀ x ∈ l, x < N) → l.length ≤ N
 | 0, [], _, _ => Nat.le_refl _
 | 0, x :: l, _, h => absurd (h x (List.mem_cons_self ..)) (by omega)
 | N + 1, l, hn, h => by
  by_cases hm : N ∈ l
  ·have h1 := nodup_len N (l.erase N) (hn.erase N) (fun x hx => by
    have h2 := (hn.mem_erase_iff).1 hx
    have := h x h2.2
    omega)
   rw [List.length_erase_of_mem hm] at h1
   omega
  ·have h1 := nodup_len N l hn (fun x hx => by
    have := h x hx
    have : x ≠ N := fun e => hm (e ▸ hx)
    omega)
   omega
def tcode : List Int → Nat
 | [] => 0
 | x :: t => x.toNat + 6 * tcode t
theorem tcode_inj : ∀ {s t : List Int}, s.length = t.length → (∀ x ∈ s, 0 ≤ x ∧ x < 6) → (∀ x ∈ t, 0 ≤ x ∧ x < 6) → tcode s = tcode t → s = t
 | [], [], _, _, _, _ => rfl
 | [], _ :: _, h, _, _, _ => by simp at h
 | _ :: _, [], h, _, _, _ => by simp at h
 | x :: s, y :: t, h, hs, ht, e => by
  have h1 := hs x (List.mem_cons_self ..)
  have h2 := ht y (List.mem_cons_self ..)
  simp only [tcode] at e
  have hxy : x = y := by omega
  subst hxy
  rw [tcode_inj (s := s) (t := t) (by simpa using h) (fun z hz => hs z (List.mem_cons_of_mem _ hz)) (fun z hz => ht z (List.mem_cons_of_mem _ hz)) (by omega)]
theorem tcode_lt : ∀ {t : List Int}, (∀ x ∈ t, 0 ≤ x ∧ x < 6) → tcode t < 6 ^ t.length
 | [], _ => by simp [tcode]
 | x :: t, h => by
  have h1 := h x (List.mem_cons_self ..)
  have h2 := tcode_lt (t := t) (fun z hz => h z (List.mem_cons_of_mem _ hz))
  rw [List.length_cons, Nat.pow_succ, tcode]
  omega
theorem InT.small {l : List AutT} (h : LOk l) {t : List Int} (ht : InT l t) : ∀ x ∈ t, 0 ≤ x ∧ x < 6 := by
 intro x hx
 obtain ⟨i, hi, rfl⟩ := List.getElem_of_mem hx
 have hi' : i < l.length := by have := ht.1; omega
 obtain ⟨n, hn, hn6, hr⟩ := h.right _ (List.getElem_mem hi')
 have := ht.2 i hi' hi
 rw [hr.nn] at this
 omega
theorem tuples_len {l : List AutT} (h : LOk l) {T : List (List Int)} (hn : T.Nodup) (hT : ∀ t ∈ T, InT l t) : T.length ≤ 216 := by
 have h1 := nodup_len (6 ^ l.length) (T.map tcode) ?_ ?_
 ·rw [List.length_map] at h1
  have h2 : 6 ^ l.length ≤ 6 ^ 3 := Nat.pow_le_pow_right (by omega) h.len
  omega
 ·rw [List.Nodup, List.pairwise_map]
  refine List.Pairwise.imp_of_mem (fun {a b} ha hb hab e => hab ?_) hn
  exact tcode_inj ((hT a ha).1.trans (hT b hb).1.symm) ((hT a ha).small h) ((hT b hb).small h) e
 ·intro x hx
  obtain ⟨t, ht, rfl⟩ := List.mem_map.1 hx
  rw [← (hT t ht).1]
  exact tcode_lt ((hT t ht).small h)
abbrev Kno := List (ByteArray × Int)
structure SI (l : List AutT) (ev : List Int) (i j : Nat) (kn : Kno) (T : List (List Int)) (E : List (Int × Int × Int)) : Prop where
 pos : 0 < T.length
 nd : T.Nodup
 inT : ∀ t ∈ T, InT l t
 key : ∀ t ∈ T, (kget kn (keyK t)).isSome = true
 val : ∀ e ∈ kn, 0 ≤ e.2 ∧ e.2 < (T.length : Int)
 er : ∀ x ∈ E, 0 ≤ x.1 ∧ x.1 ≤ (i : Int) ∧ 0 ≤ x.2.2 ∧ x.2.2 < (T.length : Int) ∧ x.2.1 ∈ ev
 es : ∀ x ∈ E, x.1 = (i : Int) → x.2.1 ∈ ev.take j
 so : E.Pairwise fun x y => x.1 < y.1 ∨ (x.1 = y.1 ∧ x.2.1 < y.2.1)
 el : E.length ≤ 32 * i + j
 lk : ∀ k : Nat, 0 < k → k < T.length → ∃ x ∈ E, x.2.2 = (k : Int) ∧ 0 ≤ x.1 ∧ x.1 < (k : Int)
section
variable {l : List AutT} {ev : List Int} {i j : Nat} {kn : Kno} {T : List (List Int)} {E : List (Int × Int × Int)}
theorem SI.skip (h : SI l ev i j kn T E) : SI l ev i (j + 1) kn T E :=
 ⟨h.pos, h.nd, h.inT, h.key, h.val, h.er, fun x hx e => (List.take_subset_take_left ev (Nat.le_succ j)) (h.es x hx e), h.so, by have := h.el; omega, h.lk⟩
theorem SI.next (h : SI l ev i j kn T E) (hj : j ≤ 32) : SI l ev (i + 1) 0 kn T E :=
 ⟨h.pos, h.nd, h.inT, h.key, h.val, fun x hx => by have := h.er x hx; exact ⟨this.1, by omega, this.2.2⟩, fun x hx e => by have := h.er x hx; omega, h.so, by have := h.el; omega, h.lk⟩
theorem take_lt (he : Inc ev) (hj : j < ev.length) : ∀ x ∈ ev.take j, x < ev[j] := fun x hx => by
 obtain ⟨k, hk, rfl⟩ := List.getElem_of_mem hx
 rw [List.length_take] at hk
 rw [List.getElem_take]
 exact List.pairwise_iff_getElem.1 he k j (by omega) hj (by omega)
theorem SI.edge (h : SI l ev i j kn T E) (he : Inc ev) (hi : i < T.length) (hj : j < ev.length) {q : Int} (h0 : 0 ≤ q) (h1 : q < T.length) : SI l ev i (j + 1) kn T (E ++ [((i : Int), ev[j], q)]) := by
 refine ⟨h.pos, h.nd, h.inT, h.key, h.val, fun x hx => ?_, fun x hx e => ?_, ?_, by have := h.el; rw [List.length_append, List.length_singleton]; omega, fun k h2 h3 => ?_⟩
 ·rcases List.mem_append.1 hx with hx | hx
  ·exact h.er x hx
  ·rw [List.mem_singleton.1 hx]; exact ⟨by dsimp only; omega, by dsimp only; omega, h0, h1, List.getElem_mem _⟩
 ·rcases List.mem_append.1 hx with hx | hx
  ·exact (List.take_subset_take_left ev (Nat.le_succ j)) (h.es x hx e)
  ·rw [List.mem_singleton.1 hx, take_snoc ev j hj]; exact List.mem_append_right _ (List.mem_singleton.2 rfl)
 ·rw [List.pairwise_append]
  refine ⟨h.so, List.pairwise_singleton _ _, fun a ha b hb => ?_⟩
  rw [List.mem_singleton.1 hb]
  have h2 := h.er a ha
  by_cases e : a.1 = (i : Int)
  ·exact .inr ⟨e, take_lt he hj _ (h.es a ha e)⟩
  ·exact .inl (by dsimp only; omega)
 ·obtain ⟨x, hx, h4⟩ := h.lk k h2 h3
  exact ⟨x, List.mem_append_left _ hx, h4⟩
theorem SI.new (h : SI l ev i j kn T E) (he : Inc ev) (hi : i < T.length) (hj : j < ev.length) {t : List Int} (ht : InT l t) (hk : (kget kn (keyK t)).isSome = false) : SI l ev i (j + 1) (kput kn (keyK t) (T.length : Int)) (T ++ [t]) (E ++ [((i : Int), ev[j], (T.length : Int))]) := by
 have hlen : (T ++ [t]).length = T.length + 1 := by simp
 have h0 : SI l ev i j (kput kn (keyK t) (T.length : Int)) T E ∨ True := .inr trivial
 refine ⟨by omega, ?_, fun s hs => ?_, fun s hs => ?_, fun e hx => ?_, fun x hx => ?_, fun x hx e => ?_, ?_, by have := h.el; rw [List.length_append, List.length_singleton]; omega, fun k h2 h3 => ?_⟩
 ·rw [List.nodup_append]
  refine ⟨h.nd, by simp, fun a ha b hb => ?_⟩
  rw [List.mem_singleton.1 hb]
  intro e
  subst e
  rw [h.key a ha] at hk
  cases hk
 ·rcases List.mem_append.1 hs with hs | hs
  ·exact h.inT s hs
  ·rw [List.mem_singleton.1 hs]; exact ht
 ·rcases List.mem_append.1 hs with hs | hs
  ·exact kput_keep (h.key s hs)
  ·rw [List.mem_singleton.1 hs]; exact kput_self
 ·rw [hlen]
  rcases kput_mem hx with hx | hx
  ·have := h.val e hx; omega
  ·rw [hx]; dsimp only; omega
 ·rw [hlen]
  rcases List.mem_append.1 hx with hx | hx
  ·have := h.er x hx; exact ⟨this.1, this.2.1, this.2.2.1, by omega, this.2.2.2.2⟩
  ·rw [List.mem_singleton.1 hx]; exact ⟨by dsimp only; omega, by dsimp only; omega, by dsimp only; omega, by dsimp only; omega, List.getElem_mem _⟩
 ·rcases List.mem_append.1 hx with hx | hx
  ·exact (List.take_subset_take_left ev (Nat.le_succ j)) (h.es x hx e)
  ·rw [List.mem_singleton.1 hx, take_snoc ev j hj]; exact List.mem_append_right _ (List.mem_singleton.2 rfl)
 ·rw [List.pairwise_append]
  refine ⟨h.so, List.pairwise_singleton _ _, fun a ha b hb => ?_⟩
  rw [List.mem_singleton.1 hb]
  have h2 := h.er a ha
  by_cases e : a.1 = (i : Int)
  ·exact .inr ⟨e, take_lt he hj _ (h.es a ha e)⟩
  ·exact .inl (by dsimp only; omega)
 ·by_cases h4 : k < T.length
  ·obtain ⟨x, hx, h5⟩ := h.lk k h2 h4
   exact ⟨x, List.mem_append_left _ hx, h5⟩
  ·have : k = T.length := by omega
   subst this
   exact ⟨_, List.mem_append_right _ (List.mem_singleton.2 rfl), rfl, by dsimp only; omega, by dsimp only; omega⟩
end
theorem sync_inner {l : List AutT} (h : LOk l) {m : List AutT × List Int × List (List ((Int × Int) × Int))} (hm : MOk l m) {i : Nat} {kn : Kno} {T : List (List Int)} {E : List (Int × Int × Int)} (z : Kno × List (List Int) × List Int × List (Int × Int × Int)) (hS : SI l m.2.1 i 0 kn T E) (hi : i < T.length) :
  ∃ kn' T' E', iter (m_product_Synchronous_l2 m ((i : Int), z)) (0, kn, T, E) = some (.inl (kn', T', E')) ∧ SI l m.2.1 (i + 1) 0 kn' T' E' ∧ i < T'.length := by
 have hal := hm.ev.len
 obtain ⟨o, h1, h2⟩ := iter_inv (f := m_product_Synchronous_l2 m ((i : Int), z)) (fun j s => s.1 = (j : Int) ∧ j ≤ m.2.1.length ∧ SI l m.2.1 i j s.2.1 s.2.2.1 s.2.2.2 ∧ i < s.2.2.1.length) (fun o => ∃ kn' T' E', o = .inl (kn', T', E') ∧ SI l m.2.1 (i + 1) 0 kn' T' E' ∧ i < T'.length) m.2.1.length 0 (by omega) (fun j s hj ⟨e1, _, hS, hi⟩ => by
   obtain ⟨k, kn, T, E⟩ := s
   dsimp only at e1 hS hi
   subst e1
   have hTl := tuples_len h hS.nd hS.inT
   have hj2 : ∀ a b c, m_product_Synchronous_j2 ((j : Int), kn, T, E) a b c = some (.inl (((j + 1 : Nat) : Int), a, b, c)) := fun a b c => by
    rw [m_product_Synchronous_j2]; dsimp only; rw [nxt (by omega)]
   have hj3 : ∀ x b n c, m_product_Synchronous_j3 ((i : Int), z) ((j : Int), kn, T, E) x b n c = some (.inl (((j + 1 : Nat) : Int), c, b, E ++ [((i : Int), x, n)])) := fun x b n c => by
    have he := hS.el
    have hi' : i < 216 := by omega
    rw [m_product_Synchronous_j3]; dsimp only; rw [app_eq (by simp; omega), Option.bind_some, hj2]
   obtain ⟨r, hr, hrT⟩ := step_ex h hm (hS.inT _ (List.getElem_mem hi)) m.2.1[j]
   left
   rw [m_product_Synchronous_l2]
   dsimp only
   rw [if_pos (ct_lt hj), idx_at hj, Option.bind_some, idx_at hi, Option.bind_some, hr, Option.bind_some]
   cases hb : r.2 with
   | false =>
    rw [if_pos (by simp), hj2]
    exact ⟨_, rfl, rfl, by omega, hS.skip, hi⟩
   | true =>
    have ht := hrT hb
    rw [if_neg (by simp), key_eq h ht, Option.bind_some]
    cases hg : kget kn (keyK r.1) with
    | none =>
     rw [if_pos (by simp), if_neg (by simp; omega), Option.bind_some, app_eq (by simp; omega), Option.bind_some, hj3]
     exact ⟨_, rfl, rfl, by omega, hS.new hm.ev.1 hi hj ht (by rw [hg]; rfl), by simp; omega⟩
    | some v =>
     obtain ⟨x, hx, rfl⟩ := kget_mem hg
     have hv := hS.val x hx
     rw [if_neg (by simp), hj3]
     exact ⟨_, rfl, rfl, by omega, hS.edge hm.ev.1 hi hj hv.1 hv.2, hi⟩) (fun s ⟨e1, _, hS, hi⟩ => by
   obtain ⟨k, kn, T, E⟩ := s
   dsimp only at e1 hS hi
   subst e1
   refine ⟨.inl (kn, T, E), ?_, kn, T, E, rfl, hS.next hal, hi⟩
   rw [m_product_Synchronous_l2]
   dsimp only
   rw [if_neg ct_ge]) (Nat.zero_le _) (0, kn, T, E) ⟨rfl, Nat.zero_le _, hS, hi⟩
 obtain ⟨kn', T', E', rfl, h3, h4⟩ := h2
 exact ⟨kn', T', E', h1, h3, h4⟩
structure Prd (p : AutT) (n : Nat) : Prop where
 right : Right p n
 pos : 1 ≤ n
 le : n ≤ 216
 lk : ∀ k : Nat, 0 < k → k < n → ∃ x ∈ p.2.2.2, x.2.2 = (k : Int) ∧ 0 ≤ x.1 ∧ x.1 < (k : Int)
theorem sync_ex {l : List AutT} (h : LOk l) : ∃ p T n, m_product_Synchronous l = some (p, T, 0) ∧ Prd p n := by
 obtain ⟨m, hm, hM⟩ := open_ex h
 obtain ⟨t0, ht0, hT0⟩ := initial_eq h hM
 have hal := hM.ev.len
 have hS0 : SI l m.2.1 0 0 (kput ([] : Kno) (keyK t0) 0) [t0] [] := by
  refine ⟨by simp, by simp, fun t ht => ?_, fun t ht => ?_, fun e he => ?_, fun x hx => (by cases hx), fun x hx => (by cases hx), List.Pairwise.nil, by simp, fun k h0 h1 => ?_⟩
  ·rw [List.mem_singleton.1 ht]; exact hT0
  ·rw [List.mem_singleton.1 ht]; exact kput_self
  ·rcases kput_mem he with he | he
   ·cases he
   ·rw [he]; simp
  ·simp at h1; omega
 obtain ⟨o, h1, h2⟩ := iter_inv (f := m_product_Synchronous_l1 m) (fun i s => s.1 = (i : Int) ∧ i ≤ s.2.2.1.length ∧ SI l m.2.1 i 0 s.2.1 s.2.2.1 s.2.2.2.2 ∧ Inc s.2.2.2.1 ∧ ∀ x ∈ s.2.2.2.1, 0 ≤ x ∧ x < (i : Int)) (fun o => ∃ T M E, o = .inl (T, M, E) ∧ ∃ kn, SI l m.2.1 T.length 0 kn T E ∧ Inc M ∧ ∀ x ∈ M, 0 ≤ x ∧ x < (T.length : Int)) 216 0 (by omega) (fun i s _ ⟨e1, hle, hS, hi1, hi2⟩ => by
   obtain ⟨k, kn, T, M, E⟩ := s
   dsimp only at e1 hle hS hi1 hi2
   subst e1
   have hTl := tuples_len h hS.nd hS.inT
   by_cases hi : i < T.length
   ·left
    obtain ⟨b, hb⟩ := marked_ex h hM (hS.inT _ (List.getElem_mem hi))
    obtain ⟨kn', T', E', g1, g2, g3⟩ := sync_inner h hM (kn, T, M, E) hS hi
    have hj : ∀ M', m_product_Synchronous_j1 m ((i : Int), kn, T, M, E) M' = some (.inl (((i + 1 : Nat) : Int), kn', T', M', E')) := fun M' => by
     rw [m_product_Synchronous_j1]; dsimp only; rw [g1, Option.bind_some]; dsimp only; rw [nxt (by omega)]
    rw [m_product_Synchronous_l1]
    dsimp only
    rw [if_pos (ct_lt hi), idx_at hi, Option.bind_some, hb, Option.bind_some]
    cases b with
    | false =>
     rw [if_neg (by simp), hj]
     exact ⟨_, rfl, rfl, by dsimp only; omega, g2, hi1, fun x hx => by have := hi2 x hx; omega⟩
    | true =>
     have hMl := inc_len (n := i) (lo := 0) hi1 hi2 (Int.le_refl _)
     rw [if_pos rfl, app_eq (by simp; omega), Option.bind_some, hj]
     refine ⟨_, rfl, rfl, by dsimp only; omega, g2, ?_, fun x hx => ?_⟩
     ·dsimp only
      unfold Inc at hi1 ⊢
      rw [List.pairwise_append]
      exact ⟨hi1, List.pairwise_singleton _ _, fun a ha b hb => by rw [List.mem_singleton.1 hb]; exact (hi2 a ha).2⟩
     ·dsimp only at hx
      rcases List.mem_append.1 hx with hx | hx
      ·have := hi2 x hx; omega
      ·rw [List.mem_singleton.1 hx]; omega
   ·right
    obtain rfl : i = T.length := by omega
    refine ⟨.inl (T, M, E), ?_, T, M, E, rfl, kn, hS, hi1, hi2⟩
    rw [m_product_Synchronous_l1]
    dsimp only
    rw [if_neg ct_ge]) (fun s ⟨e1, hle, hS, hi1, hi2⟩ => by
   obtain ⟨k, kn, T, M, E⟩ := s
   dsimp only at e1 hle hS hi1 hi2
   subst e1
   have hTl := tuples_len h hS.nd hS.inT
   have hT : 216 = T.length := by omega
   refine ⟨.inl (T, M, E), ?_, T, M, E, rfl, kn, by rw [← hT]; exact hS, hi1, by rw [← hT]; exact hi2⟩
   rw [m_product_Synchronous_l1]
   dsimp only
   rw [hT, if_neg ct_ge]) (Nat.zero_le _) (0, kput ([] : Kno) (keyK t0) 0, [t0], [], []) ⟨rfl, by simp, hS0, List.Pairwise.nil, fun x hx => (by cases hx)⟩
 obtain ⟨T, M, E, rfl, kn, hS, hi1, hi2⟩ := h2
 have hTl := tuples_len h hS.nd hS.inT
 refine ⟨(m.2.1, (T.length : Int), M, E), T, T.length, ?_, ⟨rfl, by omega, hM.ev.1, hM.ev.2, hi1, hi2, fun x hx => ?_, hS.so, by dsimp only; omega, ?_, ?_⟩, hS.pos, hTl, hS.lk⟩
 ·rw [m_product_Synchronous, pcheck_eq h, Option.bind_some, if_neg (by simp), hm, Option.bind_some, ht0, Option.bind_some, if_neg (by simp)]
  dsimp only
  rw [key_eq h hT0, Option.bind_some, h1]
  rfl
 ·have := hS.er x hx
  have h3 := hS.es x hx
  refine ⟨this.1, ?_, this.2.2⟩
  rcases Int.lt_or_le x.1 (T.length : Int) with h4 | h4
  ·exact h4
  ·exact absurd (h3 (by omega)) (by simp)
 ·have := inc_len (n := T.length) (lo := 0) hi1 hi2 (Int.le_refl _)
  dsimp only
  omega
 ·have := hS.el
  dsimp only
  omega
def Rch (es : List Ed) (x y : Int) : Prop := ∃ k, ReachIn es [y] k x
theorem reachIn_iff {es : List Ed} {tg : List Int} : ∀ {k : Nat} {x : Int}, ReachIn es tg k x ↔ ∃ y ∈ tg, ReachIn es [y] k x
 | 0, x => by simp [ReachIn]
 | k + 1, x => by
  constructor
  ·rintro ⟨e, he, h1, h2⟩
   obtain ⟨y, hy, h3⟩ := reachIn_iff.1 h2
   exact ⟨y, hy, e, he, h1, h3⟩
  ·rintro ⟨y, hy, e, he, h1, h2⟩
   exact ⟨e, he, h1, reachIn_iff.2 ⟨y, hy, h2⟩⟩
theorem reachIn_closed {es : List Ed} {S : Int → Prop} (hS : ∀ e ∈ es, S e.f → S e.t) {y : Int} : ∀ {k : Nat} {x : Int}, S x → ReachIn es [y] k x → S y
 | 0, x, h, h1 => by rw [← List.mem_singleton.1 h1]; exact h
 | k + 1, x, h, ⟨e, he, h1, h2⟩ => reachIn_closed hS (hS e he (h1 ▸ h)) h2
theorem Rch.closed {es : List Ed} {S : Int → Prop} (hS : ∀ e ∈ es, S e.f → S e.t) {x y : Int} (h : S x) (hr : Rch es x y) : S y := by
 obtain ⟨k, hr⟩ := hr
 exact reachIn_closed hS h hr
theorem leads_reach {es : List Ed} {perm : Ed → Bool} : ∀ {u : List Int} {s t : Int}, Leads es perm s u t → ReachIn es [t] u.length s
 | [], s, t, h => List.mem_singleton.2 h
 | e :: u, s, t, ⟨x, hx, h1, h2, h3, h4⟩ => ⟨x, hx, h1, leads_reach h4⟩
theorem reach_leads {es : List Ed} {perm : Ed → Bool} (hp : ∀ x ∈ es, perm x = true) {t : Int} : ∀ {k : Nat} {s : Int}, ReachIn es [t] k s → ∃ u : List Int, u.length = k ∧ Leads es perm s u t
 | 0, s, h => ⟨[], rfl, List.mem_singleton.1 h⟩
 | k + 1, s, ⟨x, hx, h1, h2⟩ => by
  obtain ⟨u, h3, h4⟩ := reach_leads hp h2
  exact ⟨x.e :: u, by rw [List.length_cons, h3], x, hx, h1, rfl, hp x hx, h4⟩
theorem allL_inc (n : Nat) : Inc (allL n) := by
 unfold allL Inc
 rw [List.pairwise_map]
 exact List.Pairwise.imp (fun {a b} h => by omega) List.pairwise_lt_range
theorem allL_in (n : Nat) : ∀ x ∈ allL n, 0 ≤ x ∧ x < (n : Int) := by
 intro x hx
 obtain ⟨i, hi, rfl⟩ := List.mem_map.1 hx
 have := List.mem_range.1 hi
 omega
theorem allL_has {n : Nat} {s : Int} (h0 : 0 ≤ s) (h1 : s < n) : hasB (allL n) s = true := by
 rw [hasB_true]
 exact List.mem_map.2 ⟨s.toNat, List.mem_range.2 (by omega), by omega⟩
structure PathSays (es : List Ed) (tg : List Int) (x : Int) (r : List Int × Bool × Int) : Prop where
 err : r.2.2 = 0
 no : r.2.1 = false → r.1 = [] ∧ ∀ k, ¬ ReachIn es tg k x
 yes : r.2.1 = true → ReachIn es tg r.1.length x ∧ ∀ j, j < r.1.length → ¬ ReachIn es tg j x
theorem path_ex {p : AutT} {n : Nat} (h : Right p n) {x : Int} (x0 : 0 ≤ x) (x1 : x < (n : Int)) {tg : List Int} (hi : Inc tg) (hr : ∀ y ∈ tg, 0 ≤ y ∧ y < (n : Int)) (hl : tg.length ≤ 1000000) :
  ∃ r, m_reach_Path p x tg (allL n) = some r ∧ PathSays (p.2.2.2.map toEd) tg x r := by
 have hn := h.nl
 have hN : (toAut p).n = n := h.nn
 have hpe : pathErr (toAut p) x tg (allL n) = 0 := by
  unfold pathErr
  rw [h.err, hN, if_neg (by omega), setErr_ok hi hr (fun q hq => by cases hq), setErr_ok (allL_inc n) (allL_in n) (fun q hq => by cases hq)]
  rfl
 have hall := allL_len n
 have hp : ∀ e ∈ (p.2.2.2.map toEd), (fun e : Ed => hasB (allL n) e.t) e = true := fun e he => by
  have := h.ein e he
  exact allL_has this.2.2.1 this.2.2.2
 have hpa : reachPath (toAut p) x tg (allL n) = pathF n (p.2.2.2.map toEd) (hasB tg) (fun e => hasB (allL n) e.t) x.toNat := by
  unfold reachPath
  rw [if_pos (allL_has x0 x1), hN, Int.toNat_natCast]
  rfl
 have hs := pathF_says (es := p.2.2.2.map toEd) (perm := fun e => hasB (allL n) e.t) (want := hasB tg) (from_ := x.toNat) (n := n) h.sorted (fun e he => (h.ein e he).2.2) h.evs (by omega)
 rw [Int.toNat_of_nonneg x0] at hs
 have hc : p.1.length ≤ 1000000 ∧ p.2.2.1.length ≤ 1000000 ∧ p.2.2.2.length ≤ 1000000 ∧ tg.length ≤ 1000000 ∧ (allL n).length ≤ 1000000 := ⟨h.l1, h.l2, h.l3, hl, by omega⟩
 rw [m_reach_Path, if_pos hc, if_pos hpe, hpa]
 generalize pathF n (p.2.2.2.map toEd) (hasB tg) (fun e => hasB (allL n) e.t) x.toNat = r at hs ⊢
 cases r with
 | none =>
  refine ⟨_, rfl, rfl, fun _ => ⟨rfl, fun k hk => ?_⟩, fun e => by cases e⟩
  obtain ⟨y, hy, h1⟩ := reachIn_iff.1 hk
  obtain ⟨u, _, h2⟩ := reach_leads hp h1
  have h3 := hs u y h2
  rw [hasB_true.2 hy] at h3
  cases h3
 | some w =>
  refine ⟨_, rfl, rfl, fun e => (by cases e), fun _ => ⟨?_, fun j hj hk => ?_⟩⟩
  ·obtain ⟨t, h1, h2⟩ := hs.leads
   exact reachIn_iff.2 ⟨t, hasB_true.1 h2, leads_reach h1⟩
  ·obtain ⟨y, hy, h1⟩ := reachIn_iff.1 hk
   obtain ⟨u, hu, h2⟩ := reach_leads hp h1
   have h3 := hs.le u y h2 (hasB_true.2 hy) (Nat.zero_le _)
   have h4 := wval_len hs.ev (h2.evs h.evs) h3
   dsimp only at hj
   omega
abbrev edsOf (p : AutT) : List Ed := p.2.2.2.map toEd
theorem sprd {p : AutT} {n : Nat} (hR : Right p n) {tg : List Int} (hl : tg.length ≤ 1000000) (hr : ∀ s ∈ tg, 0 ≤ s ∧ s < (n : Int)) : m_blocking_spread p tg = some (backward n (edsOf p) tg) := by
 have hnl := hR.nl
 have := spread_eq (a := p.1) (n := n) (m := p.2.2.1) (es := p.2.2.2) (tg := tg) (by omega) hR.l3 hl (fun x hx => by have := hR.es x hx; exact ⟨this.1, this.2.1, this.2.2.1, this.2.2.2.1⟩) hr
 rw [← hR.nn] at this
 exact this
theorem bk_len {p : AutT} {n : Nat} (hR : Right p n) {tg : List Int} (hr : ∀ s ∈ tg, 0 ≤ s ∧ s < (n : Int)) : (backward n (edsOf p) tg).length = n := by
 have hnl := hR.nl
 have hB := BOk.start n tg (by omega) hr
 have h : ∀ (f : Nat) (ds q : List Int), BOk n ds q → (bwd (inL (edsOf p)) f ds q).length = n := by
  intro f
  induction f with
  | zero => intro ds q h; exact h.len
  | succ f ih =>
   intro ds q h
   cases q with
   | nil => exact h.len
   | cons s q =>
    rw [bwd]
    have hs := h.qr s (List.mem_cons_self ..)
    have h0 := h.nn s (List.mem_cons_self ..)
    exact ih _ _ (BOk.fold (show s.toNat < n by omega) (inL (edsOf p) s.toNat) h.pop h0 (inL_range hR.ein)).1
 exact h _ _ _ hB
theorem bk_dist {p : AutT} {n : Nat} (hR : Right p n) {tg : List Int} (hr : ∀ s ∈ tg, 0 ≤ s ∧ s < (n : Int)) {i : Nat} (hi : i < n) : IsDist (edsOf p) tg i ((backward n (edsOf p) tg).getD i 0) := by
 have hnl := hR.nl
 exact backward_dist (by omega) hR.ein hr i hi
abbrev Four := Int × Int × Int × Int
abbrev DesT := Int × Int × (Four × Four × Four × Four × Four × Four)
def desL (d : DesT) : List Int := [d.2.2.1.1, d.2.2.1.2.1, d.2.2.1.2.2.1, d.2.2.1.2.2.2, d.2.2.2.1.1, d.2.2.2.1.2.1, d.2.2.2.1.2.2.1, d.2.2.2.1.2.2.2, d.2.2.2.2.1.1, d.2.2.2.2.1.2.1, d.2.2.2.2.1.2.2.1, d.2.2.2.2.1.2.2.2, d.2.2.2.2.2.1.1, d.2.2.2.2.2.1.2.1, d.2.2.2.2.2.1.2.2.1, d.2.2.2.2.2.1.2.2.2, d.2.2.2.2.2.2.1.1, d.2.2.2.2.2.2.1.2.1, d.2.2.2.2.2.2.1.2.2.1, d.2.2.2.2.2.2.1.2.2.2, d.2.2.2.2.2.2.2.1, d.2.2.2.2.2.2.2.2.1, d.2.2.2.2.2.2.2.2.2.1, d.2.2.2.2.2.2.2.2.2.2]
structure ME (n : Nat) (i j : Nat) (E : List (Int × Int × Int)) : Prop where
 er : ∀ x ∈ E, 0 ≤ x.1 ∧ x.1 ≤ (i : Int) ∧ 0 ≤ x.2.1 ∧ x.2.1 < 4 ∧ 0 ≤ x.2.2 ∧ x.2.2 < (n : Int)
 es : ∀ x ∈ E, x.1 = (i : Int) → x.2.1 < (j : Int)
 so : E.Pairwise fun x y => x.1 < y.1 ∨ (x.1 = y.1 ∧ x.2.1 < y.2.1)
 el : E.length ≤ 4 * i + j
theorem ME.push {n i j : Nat} {E : List (Int × Int × Int)} {q : Int} (h : ME n i j E) (hj : j < 4) (h0 : 0 ≤ q) (h1 : q < (n : Int)) : ME n i (j + 1) (E ++ [((i : Int), (j : Int), q)]) := by
 refine ⟨fun x hx => ?_, fun x hx e => ?_, ?_, by have := h.el; rw [List.length_append, List.length_singleton]; omega⟩
 ·rcases List.mem_append.1 hx with hx | hx
  ·exact h.er x hx
  ·rw [List.mem_singleton.1 hx]; exact ⟨by dsimp only; omega, by dsimp only; omega, by dsimp only; omega, by dsimp only; omega, h0, h1⟩
 ·rcases List.mem_append.1 hx with hx | hx
  ·have := h.es x hx e; omega
  ·rw [List.mem_singleton.1 hx]; dsimp only; omega
 ·rw [List.pairwise_append]
  refine ⟨h.so, List.pairwise_singleton _ _, fun a ha b hb => ?_⟩
  rw [List.mem_singleton.1 hb]
  have h2 := h.er a ha
  by_cases e : a.1 = (i : Int)
  ·exact .inr ⟨e, h.es a ha e⟩
  ·exact .inl (by dsimp only; omega)
theorem ME.skip {n i j : Nat} {E : List (Int × Int × Int)} (h : ME n i j E) : ME n i (j + 1) E := ⟨h.er, fun x hx e => by have := h.es x hx e; omega, h.so, by have := h.el; omega⟩
theorem ME.next {n i : Nat} {E : List (Int × Int × Int)} (h : ME n i 4 E) : ME n (i + 1) 0 E := ⟨fun x hx => by have := h.er x hx; omega, fun x hx e => by have := h.er x hx; omega, h.so, by have := h.el; omega⟩
theorem make_inner {d : DesT} {n i : Nat} (hn : W (1 + W (d.1.tmod 6)) = (n : Int)) (hi : i < 6) {M : List Int} {E : List (Int × Int × Int)} (hE : ME n i 0 E) : ∃ E', iter (m_overseerlaw04_Make_l2 d ((i : Int), M, E)) (0, E) = some E' ∧ ME n i 4 E' := by
 refine iter_inv (f := m_overseerlaw04_Make_l2 d ((i : Int), M, E)) (fun j s => s.1 = (j : Int) ∧ ME n i j s.2) (fun o => ME n i 4 o) 4 0 (by omega) (fun j s hj ⟨e1, g1⟩ => ?_) (fun s ⟨e1, g1⟩ => ?_) (Nat.zero_le _) (0, E) ⟨rfl, hE⟩
 ·obtain ⟨k, E⟩ := s
  dsimp only at e1 g1
  subst e1
  have hj2 : ∀ u, m_overseerlaw04_Make_j2 ((j : Int), E) u = some (.inl (((j + 1 : Nat) : Int), u)) := fun u => by
   rw [m_overseerlaw04_Make_j2]; dsimp only; rw [nxt (by omega)]
  left
  rw [m_overseerlaw04_Make_l2]
  dsimp only
  rw [if_pos (by simp; omega), show rng (i : Int) 6 = some () by unfold rng; rw [if_pos (by simp; omega)], Option.bind_some, show rng (j : Int) 4 = some () by unfold rng; rw [if_pos (by simp; omega)], Option.bind_some]
  obtain ⟨x, hx⟩ : ∃ x, (desL d)[(i : Int).toNat * 4 + (j : Int).toNat * 1]? = some x := ⟨_, List.getElem?_eq_getElem (by simp [desL]; omega)⟩
  unfold desL at hx
  rw [hx, Option.bind_some, hn]
  have hx1 : -7 < x.tmod 7 := Int.lt_tmod_of_pos x (by omega)
  have hx2 : x.tmod 7 < 7 := Int.tmod_lt_of_pos x (by omega)
  rw [W_of (x := x.tmod 7) (by omega) (by omega), W_of (x := x.tmod 7 - 1) (by omega) (by omega)]
  have hel := g1.el
  by_cases hc : 0 ≤ x.tmod 7 - 1 ∧ x.tmod 7 - 1 < (n : Int)
  ·rw [if_pos (by simp; omega), app_eq (by simp; omega), Option.bind_some, hj2]
   exact ⟨_, rfl, rfl, g1.push hj hc.1 hc.2⟩
  ·rw [if_neg (by simp; omega), hj2]
   exact ⟨_, rfl, rfl, g1.skip⟩
 ·obtain ⟨k, E⟩ := s
  dsimp only at e1 g1
  subst e1
  refine ⟨E, ?_, g1⟩
  rw [m_overseerlaw04_Make_l2]
  dsimp only
  rw [if_neg (by simp)]
theorem make_ex {d : DesT} (h0 : 0 ≤ d.1) : ∃ a n, m_overseerlaw04_Make d = some a ∧ 1 ≤ n ∧ n ≤ 6 ∧ Right a n ∧ a.1 = [0, 1, 2, 3] ∧ a.2.2.2.length ≤ 24 := by
 have ht0 := Int.tmod_nonneg 6 h0
 have ht1 : d.1.tmod 6 < 6 := Int.tmod_lt_of_pos d.1 (by omega)
 obtain ⟨n, hn⟩ : ∃ n : Nat, 1 + d.1.tmod 6 = (n : Int) := ⟨(1 + d.1.tmod 6).toNat, by omega⟩
 have hW : W (1 + W (d.1.tmod 6)) = (n : Int) := by rw [W_of (x := d.1.tmod 6) (by omega) (by omega), W_of (by omega) (by omega), hn]
 obtain ⟨o, h1, h2⟩ := iter_inv (f := m_overseerlaw04_Make_l1 d) (fun i s => i ≤ n ∧ s.1 = (i : Int) ∧ Inc s.2.1 ∧ (∀ x ∈ s.2.1, 0 ≤ x ∧ x < (i : Int)) ∧ ME n i 0 s.2.2) (fun o => Inc o.1 ∧ (∀ x ∈ o.1, 0 ≤ x ∧ x < (n : Int)) ∧ ME n n 0 o.2) n 0 (by omega) (fun i s hi ⟨_, e1, g1, g2, g3⟩ => by
   obtain ⟨k, M, E⟩ := s
   dsimp only at e1 g1 g2 g3
   subst e1
   obtain ⟨E', g4, g5⟩ := make_inner (M := M) hW (show i < 6 by omega) g3
   have hMl := inc_len (n := i) (lo := 0) g1 g2 (Int.le_refl _)
   have hj1 : ∀ M', m_overseerlaw04_Make_j1 d ((i : Int), M, E) M' = some (.inl (((i + 1 : Nat) : Int), M', E')) := fun M' => by
    rw [m_overseerlaw04_Make_j1]; dsimp only; rw [g4, Option.bind_some, nxt (by omega)]
   left
   rw [m_overseerlaw04_Make_l1]
   dsimp only
   rw [hW, if_pos (ct_lt hi), show ng (i : Int) = some () from if_neg (by omega), Option.bind_some]
   split
   ·rw [app_eq (by simp; omega), Option.bind_some, hj1]
    refine ⟨_, rfl, by omega, rfl, ?_, fun x hx => ?_, g5.next⟩
    ·dsimp only
     unfold Inc at g1 ⊢
     rw [List.pairwise_append]
     exact ⟨g1, List.pairwise_singleton _ _, fun a ha b hb => by rw [List.mem_singleton.1 hb]; exact (g2 a ha).2⟩
    ·dsimp only at hx
     rcases List.mem_append.1 hx with hx | hx
     ·have := g2 x hx; omega
     ·rw [List.mem_singleton.1 hx]; omega
   ·rw [hj1]
    exact ⟨_, rfl, by omega, rfl, g1, fun x hx => by have := g2 x hx; omega, g5.next⟩) (fun s ⟨_, e1, g1, g2, g3⟩ => by
   obtain ⟨k, M, E⟩ := s
   dsimp only at e1 g1 g2 g3
   subst e1
   refine ⟨(M, E), ?_, g1, g2, g3⟩
   rw [m_overseerlaw04_Make_l1]
   dsimp only
   rw [hW, if_neg ct_ge]) (Nat.zero_le _) (0, [], []) ⟨Nat.zero_le _, rfl, List.Pairwise.nil, fun x hx => (by cases hx), fun x hx => (by cases hx), fun x hx => (by cases hx), List.Pairwise.nil, by simp⟩
 obtain ⟨g1, g2, g3⟩ := h2
 have hMl := inc_len (n := n) (lo := 0) g1 g2 (Int.le_refl _)
 have hel := g3.el
 refine ⟨([0, 1, 2, 3], (n : Int), o), n, by rw [m_overseerlaw04_Make, h1, hW]; rfl, by omega, by omega, ⟨rfl, by omega, ?_, ?_, g1, g2, fun x hx => ?_, g3.so, by simp, by dsimp only; omega, by dsimp only; omega⟩, rfl, by dsimp only; omega⟩
 ·dsimp only; unfold Inc; decide
 ·intro x hx
  have : x = 0 ∨ x = 1 ∨ x = 2 ∨ x = 3 := by simpa using hx
  omega
 ·have := g3.er x hx
  have h3 := g3.es x hx
  refine ⟨this.1, ?_, this.2.2.2.2.1, this.2.2.2.2.2, ?_⟩
  ·rcases Int.lt_or_le x.1 (n : Int) with h4 | h4
   ·exact h4
   ·have := h3 (by omega); omega
  ·show x.2.1 ∈ [0, 1, 2, 3]
   have h5 : x.2.1 = 0 ∨ x.2.1 = 1 ∨ x.2.1 = 2 ∨ x.2.1 = 3 := by omega
   rcases h5 with h | h | h | h <;> rw [h] <;> decide
theorem cast_inc (k : Nat) (p : Nat → Bool) : Inc (((List.range k).filter p).map fun (i : Nat) => (i : Int)) := by
 unfold Inc
 rw [List.pairwise_map]
 refine List.Pairwise.filter _ ?_
 exact List.Pairwise.imp (fun {a b} h => by omega) List.pairwise_lt_range
theorem cast_in (k : Nat) (p : Nat → Bool) : ∀ x ∈ ((List.range k).filter p).map fun (i : Nat) => (i : Int), 0 ≤ x ∧ x < (k : Int) := by
 intro x hx
 obtain ⟨i, hi, rfl⟩ := List.mem_map.1 hx
 have := List.mem_range.1 (List.mem_filter.1 hi).1
 omega
theorem bpath_eq {p : AutT} {n : Nat} (hR : Right p n) {x : Int} (hx : x < (n : Int)) {tg : List Int} {r : List Int × Bool × Int} (h : m_reach_Path p x tg (allL n) = some r) : m_blocking_path p x tg = some (r.1, r.2.1) := by
 have := hR.nl
 have hb := ball_eq (a := p.1) (n := n) (m := p.2.2.1) (es := p.2.2.2) (by omega)
 rw [← hR.nn] at hb
 rw [m_blocking_path, hR.nn, if_neg (by simp; omega), show m_blocking_all p = some (allL n) from hb, Option.bind_some, h]
 rfl
theorem iter_part {S O : Type} {f : S → Option (S ⊕ O)} (I : S → Prop) (P : O → Prop) (hs : ∀ s s', I s → f s = some (.inl s') → I s') (ho : ∀ s o, I s → f s = some (.inr o) → P o) {s : S} {o : O} (h : iter f s = some o) (h0 : I s) : P o := by
 have h2 := iter_some h
 clear h
 revert h0
 induction h2 with
 | next h1 _ ih => exact fun h0 => ih (hs _ _ h0 h1)
 | out h1 => exact fun h0 => ho _ _ h0 h1
theorem kget_mem2 {κ β : Type} [BEq κ] {m : List (κ × β)} {k : κ} {v : β} (h : kget m k = some v) : ∃ e ∈ m, e.2 = v ∧ (k == e.1) = true := by
 unfold kget at h
 rw [Option.map_eq_some_iff] at h
 obtain ⟨e, h1, h2⟩ := h
 exact ⟨e, List.mem_of_find?_eq_some h1, h2, List.find?_some (p := fun p : κ × β => k == p.1) h1⟩
theorem keyIs {t : List Int} {k : ByteArray} (h : m_product_key t = some k) : k = keyK t := by
 unfold m_product_key at h
 split at h
 ·exact (Option.some.inj h).symm
 ·cases h
theorem appS {α : Type} {xs ys zs : List α} (h : app xs ys = some zs) : zs = xs ++ ys := (app_some h).2
structure SX (R : List Int → Prop) (m : List AutT × List Int × List (List ((Int × Int) × Int))) (i j : Nat) (kn : Kno) (T : List (List Int)) (E : List (Int × Int × Int)) : Prop where
 le : i ≤ T.length
 inR : ∀ t ∈ T, R t
 tl : T.length ≤ 4294967296
 kv : ∀ e ∈ kn, ∃ (q : Nat) (t : List Int), e.2 = q ∧ T[q]? = some t ∧ e.1 = keyK t
 ed : ∀ (a b : Nat) (t : List Int) (e : Int) (r : List Int), (a < i ∨ (a = i ∧ b < j)) → T[a]? = some t → m.2.1[b]? = some e → m_product_machine_step m t e = some (r, true) → ∃ (q : Nat) (u : List Int), ((a : Int), e, (q : Int)) ∈ E ∧ T[q]? = some u ∧ keyK u = keyK r
section
variable {R : List Int → Prop} {m : List AutT × List Int × List (List ((Int × Int) × Int))} {i j : Nat} {kn : Kno} {T : List (List Int)} {E : List (Int × Int × Int)}
theorem SX.edge (h : SX R m i j kn T E) (hi : i < T.length) (hj : j < m.2.1.length) {q : Nat} {t u r : List Int} (ht : T[i]? = some t) (hr : m_product_machine_step m t m.2.1[j] = some (r, true)) (hu : T[q]? = some u) (hk : keyK u = keyK r) :
  SX R m i (j + 1) kn T (E ++ [((i : Int), m.2.1[j], (q : Int))]) := by
 refine ⟨h.le, h.inR, h.tl, h.kv, fun a b t' e r' hab ha hb hs => ?_⟩
 by_cases hc : a < i ∨ (a = i ∧ b < j)
 ·obtain ⟨q', u', h1, h2, h3⟩ := h.ed a b t' e r' hc ha hb hs
  exact ⟨q', u', List.mem_append_left _ h1, h2, h3⟩
 ·have e1 : a = i := by omega
  have e2 : b = j := by omega
  subst e1; subst e2
  rw [ht] at ha
  obtain rfl := Option.some.inj ha
  rw [List.getElem?_eq_getElem hj] at hb
  obtain rfl := Option.some.inj hb
  rw [hr] at hs
  simp only [Option.some.injEq, Prod.mk.injEq, and_true] at hs
  subst hs
  exact ⟨q, u, List.mem_append_right _ (List.mem_singleton.2 rfl), hu, hk⟩
theorem SX.none (h : SX R m i j kn T E) {t r : List Int} (hj : j < m.2.1.length) (ht : T[i]? = some t) (hr : m_product_machine_step m t m.2.1[j] = some (r, false)) : SX R m i (j + 1) kn T E := by
 refine ⟨h.le, h.inR, h.tl, h.kv, fun a b t' e r' hab ha hb hs => ?_⟩
 by_cases hc : a < i ∨ (a = i ∧ b < j)
 ·exact h.ed a b t' e r' hc ha hb hs
 ·have e1 : a = i := by omega
  have e2 : b = j := by omega
  subst e1; subst e2
  rw [ht] at ha
  obtain rfl := Option.some.inj ha
  rw [List.getElem?_eq_getElem hj] at hb
  obtain rfl := Option.some.inj hb
  rw [hr] at hs
  simp at hs
theorem SX.more (h : SX R m i j kn T E) (hi : i < T.length) (t : List Int) (hR : R t) (hl : T.length + 1 ≤ 4294967296) : SX R m i j (kput kn (keyK t) (T.length : Int)) (T ++ [t]) E := by
 have hp : ∀ {q : Nat} {u : List Int}, T[q]? = some u → (T ++ [t])[q]? = some u := fun {q u} hq => by
  have := (List.getElem?_eq_some_iff.1 hq).1
  rw [List.getElem?_append_left this]; exact hq
 refine ⟨by rw [List.length_append]; have := h.le; omega, fun u hu => (List.mem_append.1 hu).elim (h.inR u) fun hu => List.mem_singleton.1 hu ▸ hR, by rw [List.length_append]; exact hl, fun e he => ?_, fun a b t' e r' hab ha hb hs => ?_⟩
 ·rcases kput_mem he with he | he
  ·obtain ⟨q, u, h1, h2, h3⟩ := h.kv e he
   exact ⟨q, u, h1, hp h2, h3⟩
  ·rw [he]
   exact ⟨T.length, t, rfl, by simp, rfl⟩
 ·have hl : a < T.length := by omega
  rw [List.getElem?_append_left hl] at ha
  obtain ⟨q, u, h1, h2, h3⟩ := h.ed a b t' e r' hab ha hb hs
  exact ⟨q, u, h1, hp h2, h3⟩
end
theorem sx_inner {R : List Int → Prop} {m : List AutT × List Int × List (List ((Int × Int) × Int))} (hR : ∀ t e r, R t → m_product_machine_step m t e = some (r, true) → R r) (hev : m.2.1.length ≤ 32) {i : Nat} {kn : Kno} {T : List (List Int)} {E : List (Int × Int × Int)} (z : Kno × List (List Int) × List Int × List (Int × Int × Int)) (hS : SX R m i 0 kn T E) (hi : i < T.length) {kn' : Kno} {T' : List (List Int)} {E' : List (Int × Int × Int)}
  (h : iter (m_product_Synchronous_l2 m ((i : Int), z)) (0, kn, T, E) = some (.inl (kn', T', E'))) : SX R m i m.2.1.length kn' T' E' ∧ i < T'.length ∧ ∃ U, T' = T ++ U := by
 refine iter_part (f := m_product_Synchronous_l2 m ((i : Int), z)) (fun s => ∃ j : Nat, s.1 = (j : Int) ∧ j ≤ m.2.1.length ∧ SX R m i j s.2.1 s.2.2.1 s.2.2.2 ∧ i < s.2.2.1.length ∧ ∃ U, s.2.2.1 = T ++ U) (fun o => ∀ a, o = .inl a → SX R m i m.2.1.length a.1 a.2.1 a.2.2 ∧ i < a.2.1.length ∧ ∃ U, a.2.1 = T ++ U) ?_ ?_ h ⟨0, rfl, Nat.zero_le _, hS, hi, [], (List.append_nil _).symm⟩ _ rfl
 ·rintro ⟨k, kn, T1, E⟩ s' ⟨j, hk, hj, hS, hi, U, hU⟩ hs
  dsimp only at hk hS hi hU
  subst hk
  rw [m_product_Synchronous_l2] at hs
  dsimp only at hs
  rcases ifS hs with ⟨hc, hs⟩ | ⟨hc, hs⟩
  ·have hjl : j < m.2.1.length := by simpa using hc
   rw [idx_at hjl, Option.bind_some, idx_at hi, Option.bind_some] at hs
   obtain ⟨r, hr, hs⟩ := bindS hs
   have ht : T1[i]? = some T1[i] := List.getElem?_eq_getElem hi
   have hW : W ((j : Int) + 1) = ((j + 1 : Nat) : Int) := nxt (by omega)
   rcases ifS hs with ⟨hc, hs⟩ | ⟨hc, hs⟩
   ·rw [m_product_Synchronous_j2] at hs
    dsimp only at hs
    rw [hW] at hs
    simp only [Option.some.injEq, Sum.inl.injEq] at hs
    subst hs
    have hr' : m_product_machine_step m T1[i] m.2.1[j] = some (r.1, false) := by rw [hr]; simp at hc; rw [← hc]
    exact ⟨j + 1, rfl, by omega, hS.none hjl ht hr', hi, U, hU⟩
   ·have hr' : m_product_machine_step m T1[i] m.2.1[j] = some (r.1, true) := by rw [hr]; simp at hc; rw [← hc]
    obtain ⟨ky, hky, hs⟩ := bindS hs
    obtain rfl := keyIs hky
    rcases ifS hs with ⟨hc, hs⟩ | ⟨hc, hs⟩
    ·rcases ifS hs with ⟨hc2, hs⟩ | ⟨hc2, hs⟩
     ·cases hs
     ·rw [hky, Option.bind_some] at hs
      obtain ⟨T2, hT2, hs⟩ := bindS hs
      obtain ⟨hl2, rfl⟩ := app_some hT2
      rw [m_product_Synchronous_j3] at hs
      dsimp only at hs
      obtain ⟨E2, hE2, hs⟩ := bindS hs
      obtain rfl := appS hE2
      rw [m_product_Synchronous_j2] at hs
      dsimp only at hs
      rw [hW] at hs
      simp only [Option.some.injEq, Sum.inl.injEq] at hs
      subst hs
      have h1 := hS.more hi r.1 (hR _ _ _ (hS.inR _ (List.getElem_mem hi)) hr') (by simpa using hl2)
      have hi2 : i < (T1 ++ [r.1]).length := by rw [List.length_append]; omega
      refine ⟨j + 1, rfl, by omega, h1.edge hi2 hjl (t := T1[i]) (u := r.1) (by rw [List.getElem?_append_left hi]; exact ht) hr' (by simp) rfl, hi2, U ++ [r.1], by dsimp only; rw [hU, List.append_assoc]⟩
    ·cases hg : kget kn (keyK r.1) with
     | none => rw [hg] at hc; simp at hc
     | some v =>
      rw [hg] at hs
      obtain ⟨e, he, hv, hke⟩ := kget_mem2 hg
      have hke := eqS hke
      obtain ⟨q, u, h1, h2, h3⟩ := hS.kv e he
      rw [m_product_Synchronous_j3] at hs
      dsimp only at hs
      obtain ⟨E2, hE2, hs⟩ := bindS hs
      obtain rfl := appS hE2
      rw [m_product_Synchronous_j2] at hs
      dsimp only at hs
      rw [hW] at hs
      simp only [Option.some.injEq, Sum.inl.injEq, Option.getD_some] at hs
      subst hs
      have hvq : v = (q : Int) := hv ▸ h1
      subst hvq
      exact ⟨j + 1, rfl, by omega, hS.edge hi hjl ht hr' h2 (h3 ▸ hke).symm, hi, U, hU⟩
  ·cases hs
 ·rintro ⟨k, kn, T1, E⟩ o ⟨j, hk, hj, hS, hi, U, hU⟩ ho a rfl
  dsimp only at hk hS hi hU
  subst hk
  rw [m_product_Synchronous_l2] at ho
  dsimp only at ho
  rcases ifS ho with ⟨hc, ho⟩ | ⟨hc, ho⟩
  ·exfalso
   have hjl : j < m.2.1.length := by simpa using hc
   rw [idx_at hjl, Option.bind_some, idx_at hi, Option.bind_some] at ho
   obtain ⟨r, hr, ho⟩ := bindS ho
   rcases ifS ho with ⟨hc, ho⟩ | ⟨hc, ho⟩
   ·cases ho
   ·obtain ⟨ky, hky, ho⟩ := bindS ho
    rcases ifS ho with ⟨hc, ho⟩ | ⟨hc, ho⟩
    ·rcases ifS ho with ⟨hc2, ho⟩ | ⟨hc2, ho⟩
     ·cases ho
     ·obtain ⟨_, _, ho⟩ := bindS ho
      obtain ⟨T2, hT2, ho⟩ := bindS ho
      rw [m_product_Synchronous_j3] at ho
      obtain ⟨E2, hE2, ho⟩ := bindS ho
      cases ho
    ·rw [m_product_Synchronous_j3] at ho
     obtain ⟨E2, hE2, ho⟩ := bindS ho
     cases ho
  ·simp only [Option.some.injEq, Sum.inr.injEq, Sum.inl.injEq] at ho
   subst ho
   have hjl : j = m.2.1.length := by simp at hc; omega
   subst hjl
   exact ⟨hS, hi, U, hU⟩
theorem sx_outer {R : List Int → Prop} {m : List AutT × List Int × List (List ((Int × Int) × Int))} (hR : ∀ t e r, R t → m_product_machine_step m t e = some (r, true) → R r) (hev : m.2.1.length ≤ 32) {t0 : List Int} (h0 : R t0) {T : List (List Int)} {M : List Int} {E : List (Int × Int × Int)}
  (h : iter (m_product_Synchronous_l1 m) (0, kput ([] : Kno) (keyK t0) 0, [t0], [], []) = some (.inl (T, M, E))) :
  (∃ kn, SX R m T.length 0 kn T E) ∧ T[0]? = some t0 ∧ ∀ (a : Nat) (t : List Int), T[a]? = some t → m_product_machine_marked m t = some true → (a : Int) ∈ M := by
 refine iter_part (f := m_product_Synchronous_l1 m) (fun s => ∃ i : Nat, s.1 = (i : Int) ∧ SX R m i 0 s.2.1 s.2.2.1 s.2.2.2.2 ∧ s.2.2.1[0]? = some t0 ∧ ∀ (a : Nat) (t : List Int), a < i → s.2.2.1[a]? = some t → m_product_machine_marked m t = some true → (a : Int) ∈ s.2.2.2.1)
  (fun o => ∀ u, o = .inl u → (∃ kn, SX R m u.1.length 0 kn u.1 u.2.2) ∧ u.1[0]? = some t0 ∧ ∀ (a : Nat) (t : List Int), u.1[a]? = some t → m_product_machine_marked m t = some true → (a : Int) ∈ u.2.1) ?_ ?_ h ⟨0, rfl, ⟨Nat.zero_le _, fun t ht => List.mem_singleton.1 ht ▸ h0, by simp, fun e he => ?_, fun a b t e r hab => by omega⟩, rfl, fun a t ha => by omega⟩ _ rfl
 ·rintro ⟨k, kn, T1, M1, E1⟩ s' ⟨i, hk, hS, hT0, hM⟩ hs
  dsimp only at hk hS hT0 hM
  subst hk
  rw [m_product_Synchronous_l1] at hs
  dsimp only at hs
  rcases ifS hs with ⟨hc, hs⟩ | ⟨hc, hs⟩
  ·have hi : i < T1.length := by simpa using hc
   have hW : W ((i : Int) + 1) = ((i + 1 : Nat) : Int) := nxt (by have := hS.tl; omega)
   rw [idx_at hi, Option.bind_some] at hs
   obtain ⟨b, hb, hs⟩ := bindS hs
   have fin : ∀ M2 : List Int, (∀ x ∈ M1, x ∈ M2) → (b = true → (i : Int) ∈ M2) → m_product_Synchronous_j1 m ((i : Int), kn, T1, M1, E1) M2 = some (.inl s') → ∃ i : Nat, s'.1 = (i : Int) ∧ SX R m i 0 s'.2.1 s'.2.2.1 s'.2.2.2.2 ∧ s'.2.2.1[0]? = some t0 ∧ ∀ (a : Nat) (t : List Int), a < i → s'.2.2.1[a]? = some t → m_product_machine_marked m t = some true → (a : Int) ∈ s'.2.2.2.1 := by
    intro M2 hsub hbi hj
    rw [m_product_Synchronous_j1] at hj
    dsimp only at hj
    obtain ⟨o, ho, hj⟩ := bindS hj
    cases o with
    | inr u => cases hj
    | inl u =>
     obtain ⟨kn', T', E'⟩ := u
     dsimp only at hj
     rw [hW] at hj
     simp only [Option.some.injEq, Sum.inl.injEq] at hj
     subst hj
     obtain ⟨g1, g2, U, rfl⟩ := sx_inner hR hev _ hS hi ho
     refine ⟨i + 1, rfl, ⟨by dsimp only; omega, g1.inR, g1.tl, g1.kv, fun a b t e r hab ha hb hs => ?_⟩, ?_, fun a t ha hat hmt => ?_⟩
     ·have hbl := (List.getElem?_eq_some_iff.1 hb).1
      exact g1.ed a b t e r (by omega) ha hb hs
     ·dsimp only
      rw [List.getElem?_append_left (by omega)]; exact hT0
     ·dsimp only at hat ⊢
      rw [List.getElem?_append_left (by omega)] at hat
      by_cases hai : a < i
      ·exact hsub _ (hM a t hai hat hmt)
      ·have : a = i := by omega
       subst this
       rw [List.getElem?_eq_getElem hi] at hat
       obtain rfl := Option.some.inj hat
       rw [hb] at hmt
       exact hbi (Option.some.inj hmt)
   rcases ifS hs with ⟨hc, hs⟩ | ⟨hc, hs⟩
   ·obtain ⟨M2, hM2, hs⟩ := bindS hs
    obtain rfl := appS hM2
    exact fin _ (fun x hx => List.mem_append_left _ hx) (fun _ => List.mem_append_right _ (List.mem_singleton.2 rfl)) hs
   ·exact fin _ (fun x hx => hx) (fun e => by rw [e] at hc; cases hc) hs
  ·cases hs
 ·rintro ⟨k, kn, T1, M1, E1⟩ o ⟨i, hk, hS, hT0, hM⟩ ho u rfl
  dsimp only at hk hS hT0 hM
  subst hk
  rw [m_product_Synchronous_l1] at ho
  dsimp only at ho
  rcases ifS ho with ⟨hc, ho⟩ | ⟨hc, ho⟩
  ·exfalso
   have hi : i < T1.length := by simpa using hc
   rw [idx_at hi, Option.bind_some] at ho
   obtain ⟨b, hb, ho⟩ := bindS ho
   have fin : ∀ M2 : List Int, m_product_Synchronous_j1 m ((i : Int), kn, T1, M1, E1) M2 ≠ some (.inr (.inl u)) := by
    intro M2 hj
    rw [m_product_Synchronous_j1] at hj
    obtain ⟨o, ho, hj⟩ := bindS hj
    cases o <;> cases hj
   rcases ifS ho with ⟨hc, ho⟩ | ⟨hc, ho⟩
   ·obtain ⟨M2, hM2, ho⟩ := bindS ho
    exact fin _ ho
   ·exact fin _ ho
  ·simp only [Option.some.injEq, Sum.inr.injEq, Sum.inl.injEq] at ho
   subst ho
   have hil : i = T1.length := by have := hS.le; simp at hc; omega
   subst hil
   exact ⟨⟨kn, hS⟩, hT0, fun a t hat hmt => hM a t (List.getElem?_eq_some_iff.1 hat).1 hat hmt⟩
 ·dsimp only at he
  rcases kput_mem he with he | he
  ·cases he
  ·rw [he]
   exact ⟨0, t0, rfl, rfl, rfl⟩
theorem union_nil {xs : List Int} (h : Alp xs) : m_alphabet_Union [] xs = some xs := by
 have hl := h.len
 obtain ⟨o, h1, rfl⟩ := iter_inv (f := m_alphabet_merge_l1 m_alphabet_Union_1) (fun j s => j ≤ xs.length ∧ s = (xs.take j, ([] : List Int), xs.drop j)) (fun o => o = xs) xs.length 0 (by omega) (fun j s hj ⟨_, e1⟩ => by
   subst e1
   refine .inl ⟨(xs.take (j + 1), [], xs.drop (j + 1)), ?_, hj, rfl⟩
   rw [List.drop_eq_getElem_cons hj, m_alphabet_merge_l1]
   dsimp only
   rw [if_pos (by simp; omega), if_neg (by simp), m_alphabet_merge_j1]
   dsimp only
   rw [if_pos (by simp; omega), if_pos (by simp), m_alphabet_merge_j2, if_neg (by simp), m_alphabet_merge_j3, if_pos rfl]
   dsimp only
   rw [idx_hd, Option.bind_some, slc_tl, Option.bind_some, m_alphabet_merge_j4, show m_alphabet_Union_1 false true = some true from rfl, Option.bind_some, if_pos rfl]
   dsimp only
   rw [app_eq (by simp; omega), Option.bind_some, take_snoc xs j hj]) (fun s ⟨_, e1⟩ => by
   subst e1
   refine ⟨xs, ?_, rfl⟩
   rw [List.drop_length, List.take_length, m_alphabet_merge_l1]
   rfl) (Nat.zero_le _) ([], [], xs) ⟨Nat.zero_le _, rfl⟩
 rw [m_alphabet_Union, m_alphabet_merge, h1]
 rfl
theorem events_one {b : AutT} (h : Alp b.1) : m_product_events [b] = some b.1 := by
 obtain ⟨o, h1, rfl⟩ := iter_inv (f := m_product_events_l1 [b]) (fun j s => j ≤ 1 ∧ s = ((j : Int), if j = 0 then [] else b.1)) (fun o => o = b.1) 1 0 (by omega) (fun j s hj ⟨_, e1⟩ => by
   have hj0 : j = 0 := by omega
   subst hj0
   subst e1
   refine .inl ⟨((1 : Nat), b.1), ?_, by omega, rfl⟩
   rw [m_product_events_l1]
   dsimp only
   rw [if_pos (by simp), show idx [b] ((0 : Nat) : Int) = some b from rfl, Option.bind_some, if_pos rfl, union_nil h, Option.bind_some]
   rfl) (fun s ⟨_, e1⟩ => by
   subst e1
   exact ⟨_, rfl, rfl⟩) (by omega) (0, []) ⟨by omega, rfl⟩
 rw [m_product_events, h1]
 rfl
section
variable {κ β : Type} [DecidableEq κ] [BEq κ] [LawfulBEq κ]
theorem kget_cons (p : κ × β) (m : List (κ × β)) (q : κ) : kget (p :: m) q = if q = p.1 then some p.2 else kget m q := by
 unfold kget
 by_cases h : q = p.1
 ·rw [if_pos h, List.find?_cons_of_pos (by simp [h])]; rfl
 ·rw [if_neg h, List.find?_cons_of_neg (by simp [h])]
omit [DecidableEq κ] [LawfulBEq κ] in
theorem kput_nil (k : κ) (v : β) : kput [] k v = [(k, v)] := by
 unfold kput; rw [if_neg (by simp)]; rfl
theorem kput_cons (p : κ × β) (m : List (κ × β)) (k : κ) (v : β) : kput (p :: m) k v = if k = p.1 then (k, v) :: m else p :: kput m k v := by
 unfold kput
 rw [List.map_cons, kidx_cons]
 by_cases h : k = p.1
 ·subst h; rw [if_pos (by simp), if_pos (by simp), if_pos rfl]; rfl
 ·have e : (if (k == p.1) = true then 0 else kidx (m.map (·.1)) k + 1) = kidx (m.map (·.1)) k + 1 := if_neg (by simp [h])
  rw [e, if_neg h]
  by_cases h2 : kidx (m.map (·.1)) k < m.length
  ·rw [if_pos h2, if_pos (by rw [List.length_cons]; omega), List.set_cons_succ]
  ·rw [if_neg h2, if_neg (by rw [List.length_cons]; omega)]; rfl
theorem kget_kput {k q : κ} {v : β} : ∀ (m : List (κ × β)), kget (kput m k v) q = if q = k then some v else kget m q
 | [] => by rw [kput_nil, kget_cons]
 | p :: m => by
  rw [kput_cons]
  by_cases h : k = p.1
  ·rw [if_pos h, kget_cons, kget_cons]
   by_cases h2 : q = k
   ·rw [if_pos h2, if_pos h2]
   ·rw [if_neg h2, if_neg h2, if_neg (by rw [← h]; exact h2)]
  ·rw [if_neg h, kget_cons, kget_cons, kget_kput m]
   by_cases h2 : q = p.1
   ·rw [if_pos h2, if_neg (by rw [h2]; exact fun e => h e.symm), if_pos h2]
   ·rw [if_neg h2, if_neg h2]
end
theorem open_one {b : AutT} {n : Nat} (hr : Right b n) : ∃ o, m_product_open [b] = some ([b], b.1, [o]) ∧ ∀ x ∈ b.2.2.2, kget o (x.1, x.2.1) = some x.2.2 := by
 have hl := hr.l3
 obtain ⟨o, h1, h2⟩ := iter_inv (f := m_product_open_l2 b) (fun i s => s.1 = (i : Int) ∧ ∀ k (h : k < b.2.2.2.length), k < i → kget s.2 (b.2.2.2[k].1, b.2.2.2[k].2.1) = some b.2.2.2[k].2.2) (fun o => ∀ x ∈ b.2.2.2, kget o (x.1, x.2.1) = some x.2.2) b.2.2.2.length 0 (by omega) (fun i s hi ⟨e1, g1⟩ => by
   obtain ⟨k, out⟩ := s
   dsimp only at e1 g1
   subst e1
   refine .inl ⟨(((i + 1 : Nat) : Int), kput out (b.2.2.2[i].1, b.2.2.2[i].2.1) b.2.2.2[i].2.2), ?_, rfl, fun k hk hki => ?_⟩
   ·rw [m_product_open_l2]
    dsimp only
    rw [if_pos (ct_lt hi), idx_at hi, Option.bind_some, nxt (by omega)]
   ·dsimp only
    rw [kget_kput]
    by_cases hk2 : k = i
    ·subst hk2; rw [if_pos rfl]
    ·rw [if_neg ?_, g1 k hk (by omega)]
     intro e
     have h3 := List.pairwise_iff_getElem.1 hr.so k i hk hi (by omega)
     simp only [Prod.mk.injEq] at e
     omega) (fun s ⟨e1, g1⟩ => by
   obtain ⟨k, out⟩ := s
   dsimp only at e1 g1
   subst e1
   refine ⟨out, ?_, fun x hx => ?_⟩
   ·rw [m_product_open_l2]
    dsimp only
    rw [if_neg ct_ge]
   ·obtain ⟨k, hk, rfl⟩ := List.getElem_of_mem hx
    exact g1 k hk hk) (Nat.zero_le _) (0, []) ⟨rfl, fun k hk h => by omega⟩
 obtain ⟨o', h3, rfl⟩ := iter_inv (f := m_product_open_l1 [b]) (fun j s => j ≤ 1 ∧ s = ((j : Int), if j = 0 then [] else [o])) (fun o' => o' = [o]) 1 0 (by omega) (fun j s hj ⟨_, e1⟩ => by
   have hj0 : j = 0 := by omega
   subst hj0
   subst e1
   refine .inl ⟨((1 : Nat), [o]), ?_, by omega, rfl⟩
   rw [m_product_open_l1]
   dsimp only
   rw [if_pos (by simp), show idx [b] ((0 : Nat) : Int) = some b from rfl, Option.bind_some, h1, Option.bind_some, if_pos rfl]
   rfl) (fun s ⟨_, e1⟩ => by
   subst e1
   exact ⟨_, rfl, rfl⟩) (by omega) (0, []) ⟨by omega, rfl⟩
 refine ⟨o, ?_, h2⟩
 rw [m_product_open, events_one ⟨hr.ali, hr.alr⟩, Option.bind_some, h3]
 rfl
theorem step_one {b : AutT} {n : Nat} (hr : Right b n) {o : List ((Int × Int) × Int)} {x e y : Int} (he : hasB b.1 e = true) (hk : kget o (x, e) = some y) : m_product_machine_step ([b], b.1, [o]) [x] e = some ([y], true) := by
 have hl := hr.l1
 obtain ⟨o', h1, rfl⟩ := iter_inv (f := m_product_machine_step_l1 ([b], b.1, [o]) [x] e) (fun j s => j ≤ 1 ∧ s = ((j : Int), if j = 0 then [x] else [y])) (fun o' => o' = .inl [y]) 1 0 (by omega) (fun j s hj ⟨_, e1⟩ => by
   have hj0 : j = 0 := by omega
   subst hj0
   subst e1
   refine .inl ⟨((1 : Nat), [y]), ?_, by omega, rfl⟩
   rw [m_product_machine_step_l1]
   dsimp only
   rw [if_pos (by simp), show idx [b] ((0 : Nat) : Int) = some b from rfl, Option.bind_some, containsA_eq (by omega) hr.ali, Option.bind_some, he, if_neg (by simp), show idx [o] ((0 : Nat) : Int) = some o from rfl, Option.bind_some, show idx [x] ((0 : Nat) : Int) = some x from rfl, Option.bind_some, hk, if_neg (by simp), if_pos rfl, show idx [x] ((0 : Nat) : Int) = some x from rfl, Option.bind_some]
   rfl) (fun s ⟨_, e1⟩ => by
   subst e1
   exact ⟨_, rfl, rfl⟩) (by omega) (0, [x]) ⟨by omega, rfl⟩
 rw [m_product_machine_step, clone_eq (by simp), Option.bind_some, h1, Option.bind_some]
theorem marked_one {b : AutT} {n : Nat} (hr : Right b n) {o : List (List ((Int × Int) × Int))} {x : Int} (hx : hasB b.2.2.1 x = true) : m_product_machine_marked ([b], b.1, o) [x] = some true := by
 have hl := hr.l2
 obtain ⟨o', h1, rfl⟩ := iter_inv (f := m_product_machine_marked_l1 ([b], b.1, o) [x]) (fun j s => j ≤ 1 ∧ s = (j : Int)) (fun o' => o' = .inl ()) 1 0 (by omega) (fun j s hj ⟨_, e1⟩ => by
   have hj0 : j = 0 := by omega
   subst hj0
   subst e1
   refine .inl ⟨((1 : Nat) : Int), ?_, by omega, rfl⟩
   rw [m_product_machine_marked_l1]
   dsimp only
   rw [if_pos (by simp), show idx [b] ((0 : Nat) : Int) = some b from rfl, Option.bind_some, show idx [x] ((0 : Nat) : Int) = some x from rfl, Option.bind_some, containsA_eq (by omega) hr.msi, Option.bind_some, hx, if_neg (by simp)]
   rfl) (fun s ⟨_, e1⟩ => by
   subst e1
   exact ⟨_, rfl, rfl⟩) (by omega) 0 ⟨by omega, rfl⟩
 rw [m_product_machine_marked, h1]
 rfl
theorem key_one {x y : Int} (hx : 0 ≤ x ∧ x < 6) (hy : 0 ≤ y ∧ y < 6) (h : keyK [x] = keyK [y]) : x = y := by
 have hk : ∀ a b : Fin 6, keyK [((a : Nat) : Int)] = keyK [((b : Nat) : Int)] → a = b := by decide
 obtain ⟨a, rfl⟩ : ∃ a : Nat, x = a := ⟨x.toNat, by omega⟩
 obtain ⟨b, rfl⟩ : ∃ b : Nat, y = b := ⟨y.toNat, by omega⟩
 have := hk ⟨a, by omega⟩ ⟨b, by omega⟩ h
 simp only [Fin.mk.injEq] at this
 rw [this]
theorem inT_one {b : AutT} {n : Nat} (hr : Right b n) {t : List Int} (h : InT [b] t) : ∃ x, t = [x] ∧ 0 ≤ x ∧ x < (n : Int) := by
 obtain ⟨h1, h2⟩ := h
 obtain ⟨x, rfl⟩ := List.length_eq_one_iff.1 h1
 have := h2 0 (by simp) (by simp)
 simp only [List.getElem_cons_zero, hr.nn] at this
 exact ⟨x, rfl, this⟩
theorem follow_one {b : AutT} {n : Nat} (hr : Right b n) (h1 : 1 ≤ n) (h6 : n ≤ 6) {p : AutT} {T : List (List Int)} {k : Nat} (hs : m_product_Synchronous [b] = some (p, T, 0)) (hp : Prd p k) :
  T.length = k ∧ (∀ t ∈ T, InT [b] t) ∧ ∀ (j i : Nat) (x : Int), T[i]? = some [x] → ReachIn (edsOf b) b.2.2.1 j x → ReachIn (edsOf p) p.2.2.1 j (i : Int) := by
 have hL : LOk [b] := ⟨by simp, fun a ha => by rw [List.mem_singleton.1 ha]; exact ⟨n, h1, h6, hr⟩⟩
 obtain ⟨m, hm, hM⟩ := open_ex hL
 obtain ⟨o, ho, hk⟩ := open_one hr
 rw [hm] at ho
 obtain rfl := Option.some.inj ho
 obtain ⟨t0, ht0, hT0⟩ := initial_eq hL hM
 rw [m_product_Synchronous, pcheck_eq hL, Option.bind_some, if_neg (by simp), hm, Option.bind_some, ht0, Option.bind_some, if_neg (by simp)] at hs
 obtain ⟨ky, hky, hs⟩ := bindS hs
 obtain rfl := keyIs hky
 obtain ⟨u, hu, hs⟩ := bindS hs
 cases u with
 | inr u => simp at hs
 | inl u =>
  obtain ⟨T', M, E⟩ := u
  simp only [Option.some.injEq, Prod.mk.injEq, and_true] at hs
  obtain ⟨rfl, rfl⟩ := hs
  have hR : ∀ t e r, InT [b] t → m_product_machine_step ([b], b.1, [o]) t e = some (r, true) → InT [b] r := fun t e r ht hst => by
   obtain ⟨r', h3, h4⟩ := step_ex hL hM ht e
   rw [hst] at h3
   obtain rfl := Option.some.inj h3
   exact h4 rfl
  obtain ⟨⟨kn, hS⟩, _, hMk⟩ := sx_outer hR (m := ([b], b.1, [o])) (by have : Alp b.1 := ⟨hr.ali, hr.alr⟩; exact this.len) hT0 hu
  have hTk : T'.length = k := by have := hp.right.nn; dsimp only at this; omega
  refine ⟨hTk, hS.inR, fun j => ?_⟩
  induction j with
  | zero =>
   intro i x hi hx
   exact hMk i _ hi (marked_one hr (hasB_true.2 hx))
  | succ j ih =>
   intro i x hi hx
   obtain ⟨e, he, hef, hrest⟩ := hx
   obtain ⟨z, hz, rfl⟩ := List.mem_map.1 he
   have hzr := hr.es z hz
   obtain ⟨a, ha, hae⟩ := List.getElem_of_mem hzr.2.2.2.2
   have hst := step_one hr (o := o) (x := x) (e := z.2.1) (y := z.2.2) (hasB_true.2 hzr.2.2.2.2) (by rw [← hef]; exact hk z hz)
   obtain ⟨q, u, g1, g2, g3⟩ := hS.ed i a [x] z.2.1 [z.2.2] (.inl (List.getElem?_eq_some_iff.1 hi).1) hi (by rw [List.getElem?_eq_getElem ha, hae]) hst
   obtain ⟨y, rfl, y0, y1⟩ := inT_one hr (hS.inR u (List.mem_of_getElem? g2))
   have := key_one (x := y) (y := z.2.2) (by omega) (by omega) g3
   subst this
   exact ⟨toEd ((i : Int), z.2.1, (q : Int)), List.mem_map.2 ⟨_, g1, rfl⟩, rfl, ih q _ g2 hrest⟩
structure NbA (l : List AutT) (p : AutT) (n : Nat) (T : List (List Int)) (r : List Int × Bool × Int) : Prop where
 sync : m_product_Synchronous l = some (p, T, 0)
 prd : Prd p n
 says : PathSays (edsOf p) (negL (backward n (edsOf p) p.2.2.1) n) 0 r
 nb : m_blocking_Nonblocking l = some (r.1, !r.2.1, 0)
theorem nb_a {l : List AutT} (h : LOk l) : ∃ p n T r, NbA l p n T r := by
 obtain ⟨p, T, n, hs, hP⟩ := sync_ex h
 have hR := hP.right
 have hn := hP.le
 have h1 := hP.pos
 have hni : Inc (negL (backward n (edsOf p) p.2.2.1) n) := cast_inc n _
 have hnr : ∀ y ∈ negL (backward n (edsOf p) p.2.2.1) n, 0 ≤ y ∧ y < (n : Int) := cast_in n _
 have hnl := negL_len (backward n (edsOf p) p.2.2.1) n
 obtain ⟨r, hr, hS⟩ := path_ex hR (x := 0) (Int.le_refl _) (by omega) hni hnr (by omega)
 refine ⟨p, n, T, r, hs, hP, hS, ?_⟩
 rw [m_blocking_Nonblocking, hs, Option.bind_some, if_neg (by simp)]
 dsimp only
 rw [sprd hR hR.l2 hR.msr, Option.bind_some, blocked_eq (by rw [bk_len hR hR.msr]; omega), bk_len hR hR.msr, Option.bind_some, bpath_eq hR (by omega) hr]
 rfl
theorem nb_one {b : AutT} {n : Nat} (hr : Right b n) (h1 : 1 ≤ n) (h6 : n ≤ 6) (hc : ∀ x : Int, 0 ≤ x → x < (n : Int) → ∃ k, ReachIn (edsOf b) b.2.2.1 k x) : ∃ w, m_blocking_Nonblocking [b] = some (w, true, 0) := by
 have hL : LOk [b] := ⟨by simp, fun a ha => by rw [List.mem_singleton.1 ha]; exact ⟨n, h1, h6, hr⟩⟩
 obtain ⟨p, k, T, r, hN⟩ := nb_a hL
 obtain ⟨g1, g2, g3⟩ := follow_one hr h1 h6 hN.sync hN.prd
 have hR := hN.prd.right
 cases hb : r.2.1 with
 | false => exact ⟨r.1, by rw [hN.nb, hb]; rfl⟩
 | true =>
  exfalso
  obtain ⟨g4, _⟩ := hN.says.yes hb
  obtain ⟨y, hy, _⟩ := reachIn_iff.1 g4
  obtain ⟨i, hi, rfl⟩ := List.mem_map.1 hy
  obtain ⟨hi1, hi2⟩ := List.mem_filter.1 hi
  have hik : i < k := List.mem_range.1 hi1
  obtain ⟨x, hx, x0, x1⟩ := inT_one hr (g2 _ (List.getElem_mem (by omega : i < T.length)))
  obtain ⟨j, hj⟩ := hc x x0 x1
  have hreach := g3 j i x (by rw [List.getElem?_eq_getElem (by omega), hx]) hj
  have hd := bk_dist hR hR.msr hik
  rcases hd with ⟨_, h⟩ | ⟨d, e, _⟩
  ·exact h j hreach
  ·have := of_decide_eq_true hi2
   omega
end Go.Proofs.YtfbapajcheammaaGreatDoor

namespace Go.Proofs.YtfbapajcheammaaGreatDoor
def Gd (fl : List Bool) (s : Int) : Prop := fl.getD s.toNat false = true
theorem listL_mem {fl : List Bool} {s : Int} (hs : 0 ≤ s) : s ∈ listL fl ↔ Gd fl s := by
 unfold listL listK Gd
 rw [List.mem_map]
 constructor
 ·rintro ⟨i, hi, rfl⟩
  exact (List.mem_filter.1 hi).2
 ·intro h
  refine ⟨s.toNat, List.mem_filter.2 ⟨List.mem_range.2 ?_, h⟩, by omega⟩
  by_cases hl : s.toNat < fl.length
  ·exact hl
  ·rw [List.getD_eq_getElem?_getD, List.getElem?_eq_none (by omega)] at h; cases h
theorem listL_inc (fl : List Bool) : (listL fl).Pairwise (· < ·) := by
 unfold listL listK
 rw [List.pairwise_map]
 exact ((List.pairwise_lt_range).filter _).imp (fun h => by omega)
theorem listL_in (fl : List Bool) : ∀ s ∈ listL fl, 0 ≤ s ∧ s < (fl.length : Int) := by
 intro s hs
 unfold listL listK at hs
 obtain ⟨i, hi, rfl⟩ := List.mem_map.1 hs
 have := List.mem_range.1 (List.mem_filter.1 hi).1
 omega
theorem listL_len (fl : List Bool) : (listL fl).length ≤ fl.length := by
 unfold listL listK
 rw [List.length_map]
 exact Nat.le_trans (List.length_filter_le _ _) (by simp)
end Go.Proofs.YtfbapajcheammaaGreatDoor

namespace Go.Proofs.YtfbapajcheammaaGreatDoor
open Go Go.RowKit
theorem corea_iff {a : Aut} {n : Nat} (_hn : a.n = n) (hn1 : n ≤ 1000000) (hes : ∀ x ∈ a.es, 0 ≤ x.f ∧ x.f < (n : Int) ∧ 0 ≤ x.t ∧ x.t < (n : Int)) (hms : ∀ s ∈ a.ms, 0 ≤ s ∧ s < (n : Int)) {i : Nat} (hi : i < n) :
  ((backward n a.es a.ms).map fun d => decide (0 ≤ d)).getD i false = true ↔ ∃ k, ReachIn a.es a.ms k i := by
 have hd := backward_dist hn1 hes hms i hi
 have hlen := backward_length n a.es a.ms
 have e : ((backward n a.es a.ms).map fun d => decide (0 ≤ d)).getD i false = decide (0 ≤ (backward n a.es a.ms).getD i 0) := by
  rw [List.getD_eq_getElem?_getD, List.getElem?_map, List.getD_eq_getElem?_getD, List.getElem?_eq_getElem (by omega)]; rfl
 rw [e, decide_eq_true_iff]
 rcases hd with ⟨h2, h3⟩ | ⟨k, h2, h3, _⟩
 ·exact ⟨fun h => by omega, fun ⟨k, h⟩ => absurd h (h3 k)⟩
 ·exact ⟨fun _ => ⟨k, h3⟩, fun _ => by omega⟩
theorem corea_mem {a : Aut} {n : Nat} (hn : a.n = n) (hn1 : n ≤ 1000000) (hes : ∀ x ∈ a.es, 0 ≤ x.f ∧ x.f < (n : Int) ∧ 0 ≤ x.t ∧ x.t < (n : Int)) (hms : ∀ s ∈ a.ms, 0 ≤ s ∧ s < (n : Int)) {i : Nat} (hi : i < n) :
  hasB (corea a) (i : Int) = true ↔ ∃ k, ReachIn a.es a.ms k i := by
 rw [hasB_true, corea, hn, Int.toNat_natCast, listL_mem (by omega)]
 exact corea_iff hn hn1 hes hms hi
theorem mid_filter {α : Type} (q : α → Bool) : ∀ (xs : List α) (i j : Nat), i ≤ j → j ≤ xs.length → (∀ k (h : k < xs.length), q xs[k] = decide (i ≤ k ∧ k < j)) → (xs.take j).drop i = xs.filter q := by
 intro xs i j hij hj h
 have e1 : xs = xs.take i ++ ((xs.take j).drop i ++ xs.drop j) := by
  have h1 : (xs.take j).take i = xs.take i := by rw [List.take_take, Nat.min_eq_left hij]
  rw [← List.append_assoc, ← h1, List.take_append_drop, List.take_append_drop]
 have f1 : (xs.take i).filter q = [] := by
  refine List.filter_eq_nil_iff.2 fun x hx => ?_
  obtain ⟨k, hk, rfl⟩ := List.mem_iff_getElem.1 hx
  rw [List.length_take] at hk
  rw [List.getElem_take, h k (by omega)]
  simp; omega
 have f2 : ((xs.take j).drop i).filter q = (xs.take j).drop i := by
  refine List.filter_eq_self.2 fun x hx => ?_
  obtain ⟨k, hk, rfl⟩ := List.mem_iff_getElem.1 hx
  rw [List.length_drop, List.length_take] at hk
  rw [List.getElem_drop, List.getElem_take, h (i + k) (by omega)]
  simp; omega
 have f3 : (xs.drop j).filter q = [] := by
  refine List.filter_eq_nil_iff.2 fun x hx => ?_
  obtain ⟨k, hk, rfl⟩ := List.mem_iff_getElem.1 hx
  rw [List.length_drop] at hk
  rw [List.getElem_drop, h (j + k) (by omega)]
  simp
 conv => rhs; rw [e1]
 rw [List.filter_append, List.filter_append, f1, f2, f3]
 simp

theorem down_lt {α : Type} (p : α → Bool) : ∀ (xs : List α), (xs.Pairwise fun x y => p y = true → p x = true) → ∀ k (h : k < xs.length), p xs[k] = decide (k < xs.countP p)
 | [], _, k, h => by simp at h
 | x :: xs, hp, k, h => by
  rw [List.pairwise_cons] at hp
  cases hx : p x with
  | true =>
   rw [List.countP_cons_of_pos hx]
   cases k with
   | zero => simp [hx]
   | succ k =>
    rw [List.getElem_cons_succ, down_lt p xs hp.2 k (by simpa using h)]
    simp
  | false =>
   have h0 : xs.countP p = 0 := List.countP_eq_zero.2 fun y hy hpy => by have := hp.1 y hy hpy; rw [hx] at this; cases this
   rw [List.countP_cons_of_neg (by simp [hx]), h0]
   cases k with
   | zero => simp [hx]
   | succ k =>
    rw [List.getElem_cons_succ, down_lt p xs hp.2 k (by simpa using h), h0]
    simp
theorem countP_lt (i : Int) : ∀ es : List (Int × Int × Int), (es.countP fun x => decide (x.1 + 1 = i + 1)) + (es.countP fun x => decide (x.1 < i)) = es.countP fun x => decide (x.1 < i + 1)
 | [] => rfl
 | x :: es => by
  have := countP_lt i es
  simp only [List.countP_cons, decide_eq_true_eq]
  rcases Int.lt_trichotomy x.1 i with h | h | h
  ·rw [if_neg (by omega), if_pos h, if_pos (by omega)]; omega
  ·rw [if_pos (by omega), if_neg (by omega), if_pos (by omega)]; omega
  ·rw [if_neg (by omega), if_neg (by omega), if_neg (by omega)]; omega
theorem newGraph_ex {a : AutT} {n : Nat} (hr : Right a n) : ∃ fs, m_reach_newGraph a = some (a, fs) ∧ ∀ q : Nat, q < n → m_reach_graph_edges (a, fs) (q : Int) = some (a.2.2.2.filter fun x => x.1 == (q : Int)) := by
 have hn := hr.nl
 have hl := hr.l3
 have hnn := hr.nn
 have hW : ∀ i : Nat, i ≤ n → W ((i : Int) + 1) = ((i + 1 : Nat) : Int) := fun i hi => nxt (by omega)
 obtain ⟨o, h1, ho, hv⟩ := iter_inv (f := m_reach_newGraph_l1 a) (fun i s => s.1 = (i : Int) ∧ s.2.length = n + 1 ∧ ∀ u (_ : u < s.2.length), s.2[u] = (((a.2.2.2.take i).countP fun x => decide (x.1 + 1 = (u : Int)) : Nat) : Int)) (fun o => o.length = n + 1 ∧ ∀ u (_ : u < o.length), o[u] = ((a.2.2.2.countP fun x => decide (x.1 + 1 = (u : Int)) : Nat) : Int)) a.2.2.2.length 0 (by omega) (fun i s hi ⟨e1, g1, g2⟩ => by
   obtain ⟨k, fs⟩ := s
   dsimp only at e1 g1 g2
   subst e1
   have hx := hr.es _ (List.getElem_mem hi)
   obtain ⟨f, hf⟩ : ∃ f : Nat, a.2.2.2[i].1 = f := ⟨a.2.2.2[i].1.toNat, by omega⟩
   have hfn : f < n := by omega
   have hc : ((a.2.2.2.take i).countP fun x => decide (x.1 + 1 = ((f + 1 : Nat) : Int))) ≤ i := Nat.le_trans List.countP_le_length (by rw [List.length_take]; omega)
   refine .inl ⟨(((i + 1 : Nat) : Int), fs.set (f + 1) (W (fs[f + 1]'(by omega) + 1))), ?_, rfl, by simp [g1], fun u hu => ?_⟩
   ·rw [m_reach_newGraph_l1]
    dsimp only
    rw [if_pos (ct_lt hi), idx_at hi, Option.bind_some, hf, hW f (by omega), idx_at (by omega), Option.bind_some, Option.bind_some, upd_at (by omega), Option.bind_some, nxt (by omega)]
   ·have hu2 : u < fs.length := by simpa using hu
    rw [List.take_succ_eq_append_getElem hi, List.countP_append, List.countP_singleton, hf]
    dsimp only
    rw [List.getElem_set]
    by_cases h : f + 1 = u
    ·subst h
     rw [if_pos rfl, g2, nxt (by omega), if_pos (by simp)]
    ·rw [if_neg h, g2, if_neg (by simp; omega)]
     rfl) (fun s ⟨e1, g1, g2⟩ => by
   obtain ⟨k, fs⟩ := s
   dsimp only at e1 g1 g2
   subst e1
   refine ⟨fs, ?_, g1, by rw [List.take_length] at g2; exact g2⟩
   rw [m_reach_newGraph_l1]
   dsimp only
   rw [if_neg ct_ge]) (Nat.zero_le _) (0, List.replicate (n + 1) 0) ⟨rfl, by simp, fun u hu => by simp⟩
 have hle : ∀ p : Int × Int × Int → Bool, a.2.2.2.countP p ≤ 1000000 := fun p => Nat.le_trans List.countP_le_length hl
 obtain ⟨o2, h2, ho2, hv2⟩ := iter_inv (f := m_reach_newGraph_l2 a) (fun i s => s.1 = (i : Int) ∧ s.2.length = n + 1 ∧ ∀ u (_ : u < s.2.length), s.2[u] = if u ≤ i then ((a.2.2.2.countP fun x => decide (x.1 < (u : Int)) : Nat) : Int) else ((a.2.2.2.countP fun x => decide (x.1 + 1 = (u : Int)) : Nat) : Int)) (fun o => o.length = n + 1 ∧ ∀ u (_ : u < o.length), o[u] = ((a.2.2.2.countP fun x => decide (x.1 < (u : Int)) : Nat) : Int)) n 0 (by omega) (fun i s hi ⟨e1, g1, g2⟩ => by
   obtain ⟨k, fs⟩ := s
   dsimp only at e1 g1 g2
   subst e1
   refine .inl ⟨(((i + 1 : Nat) : Int), fs.set (i + 1) (W (fs[i + 1]'(by omega) + fs[i]'(by omega)))), ?_, rfl, by simp [g1], fun u hu => ?_⟩
   ·rw [m_reach_newGraph_l2]
    dsimp only
    rw [hnn, if_pos (by simp; omega), hW i (by omega), idx_at (by omega), Option.bind_some, idx_at (by omega), Option.bind_some, Option.bind_some, upd_at (by omega), Option.bind_some]
   ·have hu2 : u < fs.length := by simpa using hu
    dsimp only
    rw [List.getElem_set]
    by_cases h : i + 1 = u
    ·subst h
     have e3 := countP_lt (i : Int) a.2.2.2
     have e4 := hle fun x => decide (x.1 < (i : Int) + 1)
     rw [if_pos rfl, if_pos (Nat.le_refl _), g2, g2, if_neg (by omega), if_pos (Nat.le_refl _), show ((i + 1 : Nat) : Int) = (i : Int) + 1 from rfl, W_of (by omega) (by omega)]
     omega
    ·rw [if_neg h, g2]
     by_cases h3 : u ≤ i
     ·rw [if_pos h3, if_pos (by omega)]
     ·rw [if_neg h3, if_neg (by omega)]) (fun s ⟨e1, g1, g2⟩ => by
   obtain ⟨k, fs⟩ := s
   dsimp only at e1 g1 g2
   subst e1
   refine ⟨fs, ?_, g1, fun u hu => by rw [g2 u hu, if_pos (by omega)]⟩
   rw [m_reach_newGraph_l2]
   dsimp only
   rw [hnn, if_neg (by simp)]) (Nat.zero_le _) (0, o) ⟨rfl, ho, fun u hu => by
   rw [hv u hu]
   by_cases h : u ≤ 0
   ·rw [if_pos h]
    obtain rfl : u = 0 := by omega
    rw [List.countP_eq_zero.2 fun x hx => by have := hr.es x hx; simp; omega, List.countP_eq_zero.2 fun x hx => by have := hr.es x hx; simp; omega]
   ·rw [if_neg h]⟩
 refine ⟨o2, ?_, fun q hq => ?_⟩
 ·rw [m_reach_newGraph, hnn, hW n (Nat.le_refl _), mkL_eq (by omega) (by omega), Option.bind_some, Int.toNat_natCast, h1, Option.bind_some, h2]
  rfl
 ·have hdn : ∀ (u : Nat) k (h : k < a.2.2.2.length), decide (a.2.2.2[k].1 < (u : Int)) = decide (k < a.2.2.2.countP fun x => decide (x.1 < (u : Int))) := fun u k h => down_lt (fun x => decide (x.1 < (u : Int))) a.2.2.2 (hr.so.imp fun {x y} hxy hy => by simp at hy ⊢; omega) k h
  have e3 := countP_lt (q : Int) a.2.2.2
  have hmid := mid_filter (fun x : Int × Int × Int => x.1 == (q : Int)) a.2.2.2 (a.2.2.2.countP fun x => decide (x.1 < (q : Int))) (a.2.2.2.countP fun x => decide (x.1 < ((q + 1 : Nat) : Int))) (by rw [show ((q + 1 : Nat) : Int) = (q : Int) + 1 from rfl]; omega) List.countP_le_length (fun k h => by
   have d1 := hdn q k h
   have d2 := hdn (q + 1) k h
   rw [decide_eq_decide] at d1 d2
   rw [Bool.eq_iff_iff, beq_iff_eq, decide_eq_true_eq]
   omega)
  have hf1 := hv2 q (by omega)
  have hf2 := hv2 (q + 1) (by omega)
  have hL : (a.2.2.2.filter fun x => x.1 == (q : Int)).length ≤ a.2.2.2.length := List.length_filter_le _ _
  have c1 : (a.2.2.2.countP fun x => decide (x.1 < ((q + 1 : Nat) : Int))) ≤ a.2.2.2.length := List.countP_le_length
  rw [m_reach_graph_edges]
  dsimp only
  rw [idx_at (by omega), Option.bind_some, hW q (by omega), idx_at (by omega), Option.bind_some, hf1, hf2, slc, if_pos ⟨by omega, by rw [show ((q + 1 : Nat) : Int) = (q : Int) + 1 from rfl]; omega, by omega⟩, Option.bind_some, Int.toNat_natCast, Int.toNat_natCast, hmid, if_pos (by omega)]
theorem flags_ex {a : AutT} {n : Nat} (hr : Right a n) {xs : List Int} (hx : ∀ x ∈ xs, 0 ≤ x ∧ x < (n : Int)) (hl : xs.length ≤ 1000000) : ∃ F, m_reach_flags a xs = some F ∧ F.length = n ∧ ∀ s (_ : s < F.length), F[s] = hasB xs (s : Int) := by
 have hn := hr.nl
 obtain ⟨o, h1, ho, hv⟩ := iter_inv (f := m_reach_flags_l1 xs) (fun i s => s.1 = (i : Int) ∧ s.2.length = n ∧ ∀ u (_ : u < s.2.length), s.2[u] = hasB (xs.take i) (u : Int)) (fun o => o.length = n ∧ ∀ u (_ : u < o.length), o[u] = hasB xs (u : Int)) xs.length 0 (by omega) (fun i s hi ⟨e1, g1, g2⟩ => by
   obtain ⟨k, fs⟩ := s
   dsimp only at e1 g1 g2
   subst e1
   have h0 := hx _ (List.getElem_mem hi)
   obtain ⟨f, hf⟩ : ∃ f : Nat, xs[i] = f := ⟨xs[i].toNat, by omega⟩
   refine .inl ⟨(((i + 1 : Nat) : Int), fs.set f true), ?_, rfl, by simp [g1], fun u hu => ?_⟩
   ·rw [m_reach_flags_l1]
    dsimp only
    rw [if_pos (ct_lt hi), idx_at hi, Option.bind_some, hf, idx_at (by omega), Option.bind_some, upd_at (by omega), Option.bind_some, nxt (by omega)]
   ·have hu2 : u < fs.length := by simpa using hu
    dsimp only
    rw [List.take_succ_eq_append_getElem hi, hf, List.getElem_set, Bool.eq_iff_iff, hasB_true, List.mem_append, List.mem_singleton]
    by_cases h : f = u
    ·rw [if_pos h]; simp [h]
    ·rw [if_neg h, g2, hasB_true]
     constructor
     ·exact .inl
     ·rintro (h2 | h2)
      ·exact h2
      ·omega) (fun s ⟨e1, g1, g2⟩ => by
   obtain ⟨k, fs⟩ := s
   dsimp only at e1 g1 g2
   subst e1
   refine ⟨fs, ?_, g1, by rw [List.take_length] at g2; exact g2⟩
   rw [m_reach_flags_l1]
   dsimp only
   rw [if_neg ct_ge]) (Nat.zero_le _) (0, List.replicate n false) ⟨rfl, by simp, fun u hu => by simp [hasB]⟩
 refine ⟨o, ?_, ho, hv⟩
 rw [m_reach_flags, hr.nn, mkL_eq (by omega) (by omega), Option.bind_some, Int.toNat_natCast, h1]
 rfl
theorem rset_eq {xs : List Int} {n : Int} (hi : Inc xs) (hx : ∀ x ∈ xs, 0 ≤ x ∧ x < n) (hl : xs.length ≤ 1000000) : m_reach_checkSet xs n = some 0 := by
 obtain ⟨o, h1, rfl⟩ := iter_inv (f := m_reach_checkSet_l1 xs n) (fun i s => s = (i : Int)) (fun o => o = .inl ()) xs.length 0 (by omega) (fun i s hi' e1 => by
   subst e1
   have h0 := hx _ (List.getElem_mem hi')
   refine .inl ⟨((i + 1 : Nat) : Int), ?_, rfl⟩
   rw [m_reach_checkSet_l1, if_pos (ct_lt hi'), idx_at hi', Option.bind_some, if_neg (by simp; omega)]
   by_cases h : i = 0
   ·rw [if_neg (by simp; omega), Option.bind_some, if_neg (by simp), nxt (by omega)]
   ·have := List.pairwise_iff_getElem.1 hi (i - 1) i (by omega) hi' (by omega)
    rw [if_pos (by simp; omega), show (i : Int) - 1 = ((i - 1 : Nat) : Int) by omega, W_nat (by omega), idx_at (by omega), Option.bind_some, Option.bind_some, if_neg (by simp; omega), nxt (by omega)]) (fun s e1 => by
   subst e1
   refine ⟨_, ?_, rfl⟩
   rw [m_reach_checkSet_l1, if_neg ct_ge]) (Nat.zero_le _) 0 rfl
 rw [m_reach_checkSet, h1]
 rfl
theorem rng_inv {S : Type} {f : Nat → S → Option S} (P : Nat → S → Prop) {N : Nat} (hs : ∀ k s, k < N → P k s → ∃ s', f k s = some s' ∧ P (k + 1) s') : ∀ (m k : Nat) (s : S), k + m = N → P k s → ∃ o, rngF f m k s = some o ∧ P N o
 | 0, k, s, e, h => ⟨s, rfl, by rw [← e]; exact h⟩
 | m + 1, k, s, e, h => by
  obtain ⟨s', h1, h2⟩ := hs k s (by omega) h
  obtain ⟨o, h3, h4⟩ := rng_inv P hs m (k + 1) s' (by omega) h2
  exact ⟨o, by rw [rngF, h1]; exact h3, h4⟩
theorem count_setm {l : List Int} {j : Nat} {v c : Int} (h : l[j]? = some c) (hv : v ≠ c) : (l.set j v).count c + 1 = l.count c := by
 induction l generalizing j with
 | nil => simp at h
 | cons a l ih =>
  cases j with
  | zero => simp at h; subst h; simp [hv]
  | succ j =>
   simp at h
   rw [List.set_cons_succ, List.count_cons, List.count_cons, ← ih h]
   omega
structure RI (a : AutT) (n : Nat) (kp : List Int) (os : List (Int × Int × Int)) (i j : Nat) (E : List (Int × Int × Int)) (NM Q : List Int) : Prop where
 pos : 0 < Q.length
 le : i ≤ Q.length
 nl : NM.length = n
 cnt : Q.length + NM.count 0 = n
 qr : ∀ s ∈ Q, 0 ≤ s ∧ s < (n : Int) ∧ s ∈ kp
 nv : ∀ (s : Nat) (h : s < NM.length), NM[s] = 0 ∨ ∃ m : Nat, NM[s] = (m : Int) + 1 ∧ Q[m]? = some (s : Int)
 er : ∀ x ∈ E, 0 ≤ x.1 ∧ x.1 ≤ (i : Int) ∧ 0 ≤ x.2.2 ∧ x.2.2 < (Q.length : Int) ∧ x.2.1 ∈ a.1
 es : ∀ x ∈ E, x.1 = (i : Int) → ∃ k, k < j ∧ ∃ h : k < os.length, x.2.1 = os[k].2.1
 so : E.Pairwise fun x y => x.1 < y.1 ∨ (x.1 = y.1 ∧ x.2.1 < y.2.1)
 el : E.length ≤ 24 * i + j
 fw : ∀ (m : Nat) (y : Int × Int × Int), m < i → y ∈ a.2.2.2 → Q[m]? = some y.1 → y.2.2 ∈ kp → ∃ q : Nat, ((m : Int), y.2.1, (q : Int)) ∈ E ∧ Q[q]? = some y.2.2
 fj : ∀ (k : Nat) (h : k < os.length), k < j → os[k].2.2 ∈ kp → ∃ q : Nat, ((i : Int), os[k].2.1, (q : Int)) ∈ E ∧ Q[q]? = some os[k].2.2
section
variable {a : AutT} {n : Nat} {kp : List Int} {os : List (Int × Int × Int)} {i j : Nat} {Q NM : List Int} {E : List (Int × Int × Int)}
theorem RI.edge (h : RI a n kp os i j E NM Q) (hso : os.Pairwise fun x y => x.2.1 < y.2.1) (hj : j < os.length) (he : os[j].2.1 ∈ a.1) {q : Nat} (hq : Q[q]? = some os[j].2.2) : RI a n kp os i (j + 1) (E ++ [((i : Int), os[j].2.1, (q : Int))]) NM Q := by
 have hql := (List.getElem?_eq_some_iff.1 hq).1
 refine ⟨h.pos, h.le, h.nl, h.cnt, h.qr, h.nv, fun x hx => ?_, fun x hx e => ?_, ?_, by have := h.el; rw [List.length_append, List.length_singleton]; omega, fun m y hm hy h1 h2 => ?_, fun k hk hkj h2 => ?_⟩
 ·rcases List.mem_append.1 hx with hx | hx
  ·exact h.er x hx
  ·rw [List.mem_singleton.1 hx]; exact ⟨by dsimp only; omega, by dsimp only; omega, by dsimp only; omega, by dsimp only; omega, he⟩
 ·rcases List.mem_append.1 hx with hx | hx
  ·obtain ⟨k, hk, hk2, e2⟩ := h.es x hx e
   exact ⟨k, by omega, hk2, e2⟩
  ·rw [List.mem_singleton.1 hx]; exact ⟨j, by omega, hj, rfl⟩
 ·rw [List.pairwise_append]
  refine ⟨h.so, List.pairwise_singleton _ _, fun x hx b hb => ?_⟩
  rw [List.mem_singleton.1 hb]
  have h2 := h.er x hx
  by_cases e : x.1 = (i : Int)
  ·obtain ⟨k, hk, hk2, e2⟩ := h.es x hx e
   exact .inr ⟨e, by dsimp only; rw [e2]; exact List.pairwise_iff_getElem.1 hso k j hk2 hj hk⟩
  ·exact .inl (by dsimp only; omega)
 ·obtain ⟨q, g1, g2⟩ := h.fw m y hm hy h1 h2
  exact ⟨q, List.mem_append_left _ g1, g2⟩
 ·by_cases e : k = j
  ·subst e; exact ⟨q, List.mem_append_right _ (List.mem_singleton.2 rfl), hq⟩
  ·obtain ⟨q, g1, g2⟩ := h.fj k hk (by omega) h2
   exact ⟨q, List.mem_append_left _ g1, g2⟩
theorem RI.skip (h : RI a n kp os i j E NM Q) (hj : j < os.length) (hn : os[j].2.2 ∉ kp) : RI a n kp os i (j + 1) E NM Q :=
 ⟨h.pos, h.le, h.nl, h.cnt, h.qr, h.nv, h.er, fun x hx e => by obtain ⟨k, hk, g⟩ := h.es x hx e; exact ⟨k, by omega, g⟩, h.so, by have := h.el; omega, h.fw, fun k hk hkj h2 => by
  by_cases e : k = j
  ·subst e; exact absurd h2 hn
  ·exact h.fj k hk (by omega) h2⟩
theorem RI.new (h : RI a n kp os i j E NM Q) {t : Nat} (ht : t < n) (hm : NM[t]? = some 0) (hk : (t : Int) ∈ kp) : RI a n kp os i j E (NM.set t ((Q.length : Int) + 1)) (Q ++ [(t : Int)]) := by
 have hc := h.cnt
 have := count_setm (v := (Q.length : Int) + 1) hm (by omega)
 have hp : ∀ {q : Nat} {u : Int}, Q[q]? = some u → (Q ++ [(t : Int)])[q]? = some u := fun {q u} hq => by
  have := (List.getElem?_eq_some_iff.1 hq).1
  rw [List.getElem?_append_left this]; exact hq
 refine ⟨by simp, by rw [List.length_append]; have := h.le; omega, by rw [List.length_set]; exact h.nl, by rw [List.length_append, List.length_singleton]; omega, fun s hs => ?_, fun s hs => ?_, fun x hx => ?_, h.es, h.so, h.el, fun m y hm hy h1 h2 => ?_, fun k hk hkj h2 => ?_⟩
 ·rcases List.mem_append.1 hs with hs | hs
  ·exact h.qr s hs
  ·rw [List.mem_singleton.1 hs]; exact ⟨by omega, by omega, hk⟩
 ·rw [List.getElem_set]
  by_cases e : t = s
  ·rw [if_pos e]; exact .inr ⟨Q.length, rfl, by rw [← e]; simp⟩
  ·rw [if_neg e]
   rcases h.nv s (by simpa using hs) with g | ⟨m, g1, g2⟩
   ·exact .inl g
   ·exact .inr ⟨m, g1, hp g2⟩
 ·rw [List.length_append, List.length_singleton]
  have := h.er x hx
  exact ⟨this.1, this.2.1, this.2.2.1, by omega, this.2.2.2.2⟩
 ·have hle := h.le
  rw [List.getElem?_append_left (by omega)] at h1
  obtain ⟨q, g1, g2⟩ := h.fw m y hm hy h1 h2
  exact ⟨q, g1, hp g2⟩
 ·obtain ⟨q, g1, g2⟩ := h.fj k hk hkj h2
  exact ⟨q, g1, hp g2⟩
theorem RI.next {os' : List (Int × Int × Int)} (h : RI a n kp os i os.length E NM Q) (hi : i < Q.length) (hos : ∀ x, x ∈ a.2.2.2 → x.1 = Q[i] → x ∈ os) (hol : os.length ≤ 24) : RI a n kp os' (i + 1) 0 E NM Q :=
 ⟨h.pos, hi, h.nl, h.cnt, h.qr, h.nv, fun x hx => by have := h.er x hx; exact ⟨this.1, by omega, this.2.2⟩, fun x hx e => by have := h.er x hx; omega, h.so, by have := h.el; omega, fun m y hm hy h1 h2 => by
  by_cases e : m < i
  ·exact h.fw m y e hy h1 h2
  ·obtain rfl : m = i := by omega
   rw [List.getElem?_eq_getElem hi] at h1
   obtain ⟨k, hk, rfl⟩ := List.mem_iff_getElem.1 (hos y hy (Option.some.inj h1).symm)
   exact h.fj k hk hk h2, fun k hk hkj => by omega⟩
end
theorem rest_inner {a : AutT} {n : Nat} {kp : List Int} (hn6 : n ≤ 6) {F : List Bool} (hF : F.length = n) (hFv : ∀ s (_ : s < F.length), F[s] = hasB kp (s : Int)) {os : List (Int × Int × Int)} (hso : os.Pairwise fun x y => x.2.1 < y.2.1) (hos : ∀ x ∈ os, 0 ≤ x.2.2 ∧ x.2.2 < (n : Int) ∧ x.2.1 ∈ a.1) (hl : os.length ≤ 24) {i : Nat} (hi6 : i ≤ 6) (z1 : List Int) (z2 : List (Int × Int × Int)) (z3 z4 : List Int) {Q NM : List Int} {E : List (Int × Int × Int)} (h : RI a n kp os i 0 E NM Q) :
  ∃ E' NM' Q', rngF (fun k => m_reach_Restrict_l2 F (z1, z2, z3, z4, (i : Int)) (os.getD k (0, 0, 0))) os.length 0 (E, NM, Q) = some (E', NM', Q') ∧ RI a n kp os i os.length E' NM' Q' ∧ ∃ U, Q' = Q ++ U := by
 obtain ⟨o, h1, h2⟩ := rng_inv (f := fun k => m_reach_Restrict_l2 F (z1, z2, z3, z4, (i : Int)) (os.getD k (0, 0, 0))) (fun j s => RI a n kp os i j s.1 s.2.1 s.2.2 ∧ ∃ U, s.2.2 = Q ++ U) (N := os.length) (fun j s hj ⟨hC, U, hU⟩ => by
   obtain ⟨E, NM, Q1⟩ := s
   dsimp only at hC hU ⊢
   have hx := hos _ (List.getElem_mem hj)
   obtain ⟨t, ht⟩ : ∃ t : Nat, os[j].2.2 = t := ⟨os[j].2.2.toNat, by omega⟩
   have htn : t < n := by omega
   have hnl := hC.nl
   have hcnt := hC.cnt
   have hel := hC.el
   have htl : t < NM.length := by omega
   have htF : t < F.length := by omega
   rw [List.getD_eq_getElem?_getD, List.getElem?_eq_getElem hj, Option.getD_some]
   have hj2 : ∀ (Q2 NM2 : List Int) (hh : t < NM2.length) (m : Nat), NM2[t] = (m : Int) + 1 → m < 1000 → m_reach_Restrict_j2 (z1, z2, z3, z4, (i : Int)) (E, NM, Q1) os[j] NM2 Q2 = some (E ++ [((i : Int), os[j].2.1, (m : Int))], NM2, Q2) := fun Q2 NM2 hh m hm hm2 => by
    rw [m_reach_Restrict_j2]
    dsimp only
    rw [ht, idx_at hh, Option.bind_some, app_eq (by simp; omega), Option.bind_some, hm, show (m : Int) + 1 - 1 = (m : Int) by omega, W_nat (by omega)]
   rw [m_reach_Restrict_l2]
   dsimp only
   rw [ht, idx_at htF, Option.bind_some, hFv t htF]
   cases hk : hasB kp (t : Int) with
   | false => exact ⟨_, rfl, hC.skip hj (by rw [ht]; exact hasB_false.1 hk), U, hU⟩
   | true =>
    have hk2 := hasB_true.1 hk
    rw [if_neg (by simp), idx_at htl, Option.bind_some]
    rcases hC.nv t htl with hv | ⟨m, hv, hm⟩
    ·have hnew := hC.new htn (by rw [List.getElem?_eq_getElem htl, hv]) hk2
     rw [if_pos (by rw [hv]; rfl), app_eq (by simp; omega), Option.bind_some, Option.bind_some, upd_at htl, Option.bind_some, hj2 _ _ (by rw [List.length_set]; exact htl) Q1.length (by rw [List.getElem_set_self, List.length_append, List.length_singleton]; rfl) (by omega)]
     refine ⟨_, rfl, ?_, U ++ [(t : Int)], by dsimp only; rw [hU, List.append_assoc]⟩
     rw [List.length_append, List.length_singleton]
     exact hnew.edge hso hj hx.2.2 (by rw [ht]; simp)
    ·have hml := (List.getElem?_eq_some_iff.1 hm).1
     rw [if_neg (by rw [hv]; simp; omega), hj2 _ _ htl m hv (by omega)]
     exact ⟨_, rfl, hC.edge hso hj hx.2.2 (by rw [ht]; exact hm), U, hU⟩) os.length 0 (E, NM, Q) (Nat.zero_add _) ⟨h, [], (List.append_nil _).symm⟩
 obtain ⟨E', NM', Q'⟩ := o
 exact ⟨E', NM', Q', h1, h2.1, h2.2⟩
structure RestIs (a : AutT) (n : Nat) (kp : List Int) (t : AutT) (Q : List Int) : Prop where
 pos : 1 ≤ Q.length
 len : Q.length ≤ 6
 right : Right t Q.length
 qr : ∀ s ∈ Q, 0 ≤ s ∧ s < (n : Int) ∧ s ∈ kp
 fw : ∀ (m : Nat) (y : Int × Int × Int), y ∈ a.2.2.2 → Q[m]? = some y.1 → y.2.2 ∈ kp → ∃ q : Nat, ((m : Int), y.2.1, (q : Int)) ∈ t.2.2.2 ∧ Q[q]? = some y.2.2
 ma : ∀ (m : Nat) (s : Int), Q[m]? = some s → s ∈ a.2.2.1 → (m : Int) ∈ t.2.2.1
theorem restrict_ex {a : AutT} {n : Nat} (hr : Right a n) (h1 : 1 ≤ n) (h6 : n ≤ 6) (hE : a.2.2.2.length ≤ 24) {kp : List Int} (ki : Inc kp) (kr : ∀ x ∈ kp, 0 ≤ x ∧ x < (n : Int)) (kl : kp.length ≤ 1000000) :
  ∃ t, m_reach_Restrict a kp = some (t, 0) ∧ (t = (a.1, 0, [], []) ∨ ∃ Q, RestIs a n kp t Q) := by
 have hnn := hr.nn
 have hl1 := hr.l1
 obtain ⟨F, eF, hF, hFv⟩ := flags_ex hr kr kl
 obtain ⟨M, eM, hM, hMv⟩ := flags_ex hr hr.msr hr.l2
 obtain ⟨fs, efs, hfs⟩ := newGraph_ex hr
 have hcl : m_slices_Clone_int a.1 = some a.1 := clone_eq (by omega)
 have hck : m_reach_checkStates a kp = some 0 := by
  rw [m_reach_checkStates, hnn, rset_eq ki kr kl]; rfl
 by_cases h0 : kp = [] ∨ ∃ x us, kp = x :: us ∧ x ≠ 0
 ·refine ⟨_, ?_, .inl rfl⟩
  rw [m_reach_Restrict, hr.check, Option.bind_some, if_neg (by simp), hck, Option.bind_some, if_neg (by simp), hcl, Option.bind_some]
  rcases h0 with rfl | ⟨x, us, rfl, hx⟩
  ·rw [if_pos (by simp), Option.bind_some, if_pos rfl]
  ·rw [if_neg (by simp; omega), idx_hd, Option.bind_some, Option.bind_some, if_pos (by simp [hx])]
 ·obtain ⟨us, rfl⟩ : ∃ us, kp = 0 :: us := by
   cases kp with
   | nil => exact absurd (.inl rfl) h0
   | cons x us =>
    by_cases e : x = 0
    ·exact ⟨us, by rw [e]⟩
    ·exact absurd (.inr ⟨x, us, rfl, e⟩) h0
  have hst : RI a n (0 :: us) [] 0 0 [] ((List.replicate n 0).set 0 1) [0] := by
   have hc := count_setm (l := List.replicate n (0 : Int)) (j := 0) (v := 1) (c := 0) (by rw [List.getElem?_replicate, if_pos (by omega)]) (by omega)
   rw [List.count_replicate_self] at hc
   refine ⟨by simp, by simp, by simp, by simp only [List.length_singleton]; omega, fun s hs => by rw [List.mem_singleton.1 hs]; exact ⟨by omega, by omega, List.mem_cons_self⟩, fun s hs => ?_, fun x hx => (by cases hx), fun x hx => (by cases hx), List.Pairwise.nil, by simp, fun m y hm => by omega, fun k hk => by simp at hk⟩
   rw [List.getElem_set]
   by_cases e : 0 = s
   ·rw [if_pos e]; exact .inr ⟨0, rfl, by rw [← e]; rfl⟩
   ·rw [if_neg e]; exact .inl (by simp)
  obtain ⟨o, g1, g2⟩ := iter_inv (f := m_reach_Restrict_l1 F M (a, fs)) (fun i s => s.2.2.2.2 = (i : Int) ∧ RI a n (0 :: us) [] i 0 s.2.1 s.2.2.1 s.2.2.2.1 ∧ s.1.length ≤ i ∧ Inc s.1 ∧ (∀ x ∈ s.1, 0 ≤ x ∧ x < (i : Int)) ∧ ∀ (m : Nat) (u : Int), m < i → s.2.2.2.1[m]? = some u → u ∈ a.2.2.1 → (m : Int) ∈ s.1) (fun o => ∃ NM, RI a n (0 :: us) [] o.2.2.length 0 o.2.1 NM o.2.2 ∧ Inc o.1 ∧ (∀ x ∈ o.1, 0 ≤ x ∧ x < (o.2.2.length : Int)) ∧ ∀ (m : Nat) (u : Int), m < o.2.2.length → o.2.2[m]? = some u → u ∈ a.2.2.1 → (m : Int) ∈ o.1) n 0 (by omega) (fun i s hi ⟨e1, hC, hML, hMi, hMr, hMm⟩ => by
    obtain ⟨MS, E, NM, Q, k⟩ := s
    dsimp only at e1 hC hML hMi hMr hMm
    subst e1
    have hcnt := hC.cnt
    have hle := hC.le
    by_cases hiq : i < Q.length
    ·left
     have hq := hC.qr _ (List.getElem_mem hiq)
     obtain ⟨s, hs⟩ : ∃ s : Nat, Q[i] = s := ⟨Q[i].toNat, by omega⟩
     have hsn : s < n := by omega
     obtain ⟨os, hos⟩ : ∃ os, os = a.2.2.2.filter fun x => x.1 == (s : Int) := ⟨_, rfl⟩
     have hmem : ∀ x ∈ os, x ∈ a.2.2.2 ∧ x.1 = (s : Int) := fun x hx => by
      rw [hos] at hx
      have := List.mem_filter.1 hx
      exact ⟨this.1, by simpa using this.2⟩
     have hso : os.Pairwise fun x y => x.2.1 < y.2.1 := by
      have h := hr.so.filter (fun x => x.1 == (s : Int))
      rw [← hos] at h
      refine h.imp_of_mem fun {x y} hx hy hxy => ?_
      have := (hmem x hx).2
      have := (hmem y hy).2
      omega
     have hol : os.length ≤ 24 := by rw [hos]; exact Nat.le_trans (List.length_filter_le _ _) hE
     have hC0 : RI a n (0 :: us) os i 0 E NM Q := ⟨hC.pos, hC.le, hC.nl, hC.cnt, hC.qr, hC.nv, hC.er, fun x hx e => by obtain ⟨k, hk, _⟩ := hC.es x hx e; omega, hC.so, hC.el, hC.fw, fun k hk hkj => by omega⟩
     have hw := fun z1 => rest_inner h6 hF hFv hso (fun x hx => by have := hr.es x (hmem x hx).1; exact ⟨this.2.2.1, this.2.2.2.1, this.2.2.2.2⟩) hol (i := i) (by omega) z1 E NM Q hC0
     obtain ⟨E', NM', Q', w1, w2, U, hU⟩ := hw MS
     have hiq' : i < Q'.length := by rw [hU, List.length_append]; omega
     have hqi : Q'[i] = Q[i] := by
      subst hU
      exact List.getElem_append_left hiq
     have hnx : RI a n (0 :: us) [] (i + 1) 0 E' NM' Q' := w2.next hiq' (fun x hx e => by rw [hos]; exact List.mem_filter.2 ⟨hx, by simp [e, hqi, hs]⟩) hol
     have hQm : ∀ m u, m < i + 1 → Q'[m]? = some u → Q[m]? = some u := fun m u hm hu => by
      rw [hU, List.getElem?_append_left (by omega)] at hu; exact hu
     have hj1 : ∀ M' : List Int, m_reach_Restrict_j1 F (a, fs) (MS, E, NM, Q, (i : Int)) M' = some (.inl (M', E', NM', Q', ((i + 1 : Nat) : Int))) := fun M' => by
      rw [m_reach_Restrict_j1]
      dsimp only
      rw [idx_at hiq, Option.bind_some, hs, hfs s hsn, Option.bind_some, ← hos, w1, Option.bind_some, nxt (by omega)]
     rw [m_reach_Restrict_l1]
     dsimp only
     rw [if_pos (ct_lt hiq), idx_at hiq, Option.bind_some, hs, idx_at (by omega), Option.bind_some, hMv s (by omega)]
     cases hb : hasB a.2.2.1 (s : Int) with
     | true =>
      rw [if_pos rfl, app_eq (by simp; omega), Option.bind_some, hj1]
      refine ⟨_, rfl, rfl, hnx, by simp; omega, ?_, fun x hx => ?_, fun m u hm hu hua => ?_⟩
      ·dsimp only
       rw [Inc, List.pairwise_append]
       exact ⟨hMi, List.pairwise_singleton _ _, fun x hx b hb => by rw [List.mem_singleton.1 hb]; exact (hMr x hx).2⟩
      ·rcases List.mem_append.1 hx with hx | hx
       ·have := hMr x hx; omega
       ·rw [List.mem_singleton.1 hx]; omega
      ·by_cases e : m < i
       ·exact List.mem_append_left _ (hMm m u e (hQm m u (by omega) hu) hua)
       ·obtain rfl : m = i := by omega
        exact List.mem_append_right _ (List.mem_singleton.2 rfl)
     | false =>
      rw [if_neg (by simp), hj1]
      refine ⟨_, rfl, rfl, hnx, by dsimp only; omega, hMi, fun x hx => by have := hMr x hx; omega, fun m u hm hu hua => ?_⟩
      by_cases e : m < i
      ·exact hMm m u e (hQm m u (by omega) hu) hua
      ·obtain rfl : m = i := by omega
       have := hQm m u (by omega) hu
       rw [List.getElem?_eq_getElem hiq, hs] at this
       rw [← Option.some.inj this] at hua
       rw [hasB_false] at hb
       exact absurd hua hb
    ·right
     obtain rfl : i = Q.length := by omega
     refine ⟨(MS, E, Q), ?_, NM, hC, hMi, hMr, hMm⟩
     rw [m_reach_Restrict_l1]
     dsimp only
     rw [if_neg ct_ge]) (fun s ⟨e1, hC, hML, hMi, hMr, hMm⟩ => by
    obtain ⟨MS, E, NM, Q, k⟩ := s
    dsimp only at e1 hC hML hMi hMr hMm
    subst e1
    have hcnt := hC.cnt
    have hle := hC.le
    have hnq : n = Q.length := by omega
    refine ⟨(MS, E, Q), ?_, NM, by dsimp only; rw [← hnq]; exact hC, hMi, by dsimp only; rw [← hnq]; exact hMr, by dsimp only; rw [← hnq]; exact hMm⟩
    rw [m_reach_Restrict_l1]
    dsimp only
    rw [if_neg (by simp; omega)]) (Nat.zero_le _) ([], [], (List.replicate n 0).set 0 1, [0], 0) ⟨rfl, hst, Nat.zero_le _, List.Pairwise.nil, fun x hx => (by cases hx), fun m u hm => by omega⟩
  obtain ⟨MS, E, Q⟩ := o
  obtain ⟨NM, hC, hMi, hMr, hMm⟩ := g2
  dsimp only at hC hMi hMr hMm
  have hcnt := hC.cnt
  have hel := hC.el
  refine ⟨(a.1, (Q.length : Int), MS, E), ?_, .inr ⟨Q, hC.pos, by omega, ⟨rfl, by omega, hr.ali, hr.alr, hMi, hMr, fun x hx => ?_, hC.so, hl1, ?_, by dsimp only; omega⟩, hC.qr, fun m y hy hm hk => hC.fw m y (List.getElem?_eq_some_iff.1 hm).1 hy hm hk, fun m s hm hs => hMm m s (List.getElem?_eq_some_iff.1 hm).1 hm hs⟩⟩
  ·rw [m_reach_Restrict, hr.check, Option.bind_some, if_neg (by simp), hck, Option.bind_some, if_neg (by simp), hcl, Option.bind_some, if_neg (by simp; omega), idx_hd, Option.bind_some, Option.bind_some, if_neg (by simp), eF, Option.bind_some, eM, Option.bind_some, hnn, mkL_eq (by omega) (by omega), Option.bind_some, Int.toNat_natCast, efs, Option.bind_some, show idx (List.replicate n (0 : Int)) 0 = some 0 by rw [show (0 : Int) = ((0 : Nat) : Int) from rfl, idx_at (by simp; omega)]; simp, Option.bind_some, show upd (List.replicate n (0 : Int)) 0 1 = some ((List.replicate n 0).set 0 1) from upd_at (i := 0) (by simp; omega), Option.bind_some, g1]
   rfl
  ·have h2 := hC.er x hx
   refine ⟨h2.1, ?_, h2.2.2⟩
   rcases Int.lt_or_le x.1 (Q.length : Int) with h4 | h4
   ·exact h4
   ·obtain ⟨k, hk, _⟩ := hC.es x hx (by omega)
    omega
  ·have := inc_len (n := 6) (lo := 0) hMi (fun x hx => by have := hMr x hx; omega) (Int.le_refl _)
   dsimp only
   omega
end Go.Proofs.YtfbapajcheammaaGreatDoor

namespace Go.Proofs.YtfbapajcheammaaGreatDoor
open Go Go.RowKit
theorem corea_eq {a : AutT} {n : Nat} (hr : Right a n) : m_reach_Coreachable a = some (corea (toAut a), 0) := by
 have hn := hr.nl
 have hnn := hr.nn
 obtain ⟨fs, hfs, _⟩ := newGraph_ex hr
 have hb : m_reach_graph_backward (a, fs) a.2.2.1 = some (backward n (edsOf a) a.2.2.1) := by
  have q1 : (a.2.2.2.all fun x => decide (0 ≤ x.1 ∧ x.1 < a.2.1 ∧ 0 ≤ x.2.2 ∧ x.2.2 < a.2.1)) = true := List.all_eq_true.2 fun x hx => decide_eq_true (by have := hr.es x hx; omega)
  have q2 : (a.2.2.1.all fun x => decide (0 ≤ x ∧ x < a.2.1)) = true := List.all_eq_true.2 fun x hx => decide_eq_true (by have := hr.msr x hx; omega)
  rw [m_reach_graph_backward]
  dsimp only
  rw [if_pos ⟨hr.l3, hr.l2, by omega, by omega, q1, q2⟩, hnn, Int.toNat_natCast]
 have hbl := bk_len hr hr.msr
 obtain ⟨R, hR⟩ : ∃ R, R = backward n (edsOf a) a.2.2.1 := ⟨_, rfl⟩
 rw [← hR] at hb hbl
 have hlist : iter (m_reach_Coreachable_l1 R) (0, ([] : List Int)) = some (listL (R.map fun d => decide (0 ≤ d))) := by
  have e : ∀ i : Nat, listK (R.map fun d => decide (0 ≤ d)) i = ((List.range i).filter fun i => (R.map fun d => decide (0 ≤ d)).getD i false).map fun (i : Nat) => (i : Int) := fun _ => rfl
  obtain ⟨o, h1, rfl⟩ := iter_inv (f := m_reach_Coreachable_l1 R) (fun i s => i ≤ R.length ∧ s = ((i : Int), listK (R.map fun d => decide (0 ≤ d)) i)) (fun o => o = listL (R.map fun d => decide (0 ≤ d))) R.length 0 (by omega) (fun i s hi ⟨_, e1⟩ => by
    subst e1
    have hg : (R.map fun d => decide (0 ≤ d)).getD i false = decide (0 ≤ R[i]) := by
     rw [List.getD_eq_getElem?_getD, List.getElem?_map, List.getElem?_eq_getElem hi]; rfl
    have hlen : (listK (R.map fun d => decide (0 ≤ d)) i).length ≤ i := by
     rw [e, List.length_map]; exact Nat.le_trans (List.length_filter_le _ _) (by simp)
    have hs : listK (R.map fun d => decide (0 ≤ d)) (i + 1) = if 0 ≤ R[i] then listK (R.map fun d => decide (0 ≤ d)) i ++ [(i : Int)] else listK (R.map fun d => decide (0 ≤ d)) i := by
     rw [e, e, List.range_succ, List.filter_append, List.map_append]
     by_cases h : 0 ≤ R[i]
     ·rw [if_pos h, List.filter_cons_of_pos (by rw [hg]; simp [h])]; rfl
     ·rw [if_neg h, List.filter_cons_of_neg (by rw [hg]; simp [h])]; simp
    refine .inl ⟨(((i + 1 : Nat) : Int), listK (R.map fun d => decide (0 ≤ d)) (i + 1)), ?_, hi, rfl⟩
    rw [m_reach_Coreachable_l1]
    dsimp only
    rw [if_pos (ct_lt hi), idx_at hi, Option.bind_some, hs]
    by_cases h : 0 ≤ R[i]
    ·rw [if_pos (by simp; exact h), app_eq (by simp; omega), Option.bind_some, m_reach_Coreachable_j1, if_pos h]
     dsimp only
     rw [nxt (by omega)]
    ·rw [if_neg (by simp; omega), m_reach_Coreachable_j1, if_neg h]
     dsimp only
     rw [nxt (by omega)]) (fun s ⟨_, e1⟩ => by
    subst e1
    refine ⟨listK (R.map fun d => decide (0 ≤ d)) R.length, ?_, ?_⟩
    ·rw [m_reach_Coreachable_l1]
     dsimp only
     rw [if_neg ct_ge]
    ·rw [listL, List.length_map]) (Nat.zero_le _) (0, []) ⟨Nat.zero_le _, rfl⟩
  exact h1
 rw [m_reach_Coreachable, hr.check, Option.bind_some, if_neg (by simp), hfs, Option.bind_some, hb, Option.bind_some, hlist]
 have hN : (toAut a).n.toNat = n := by rw [show (toAut a).n = a.2.1 from rfl, hnn, Int.toNat_natCast]
 show some (listL (R.map fun d => decide (0 ≤ d)), (0 : Int)) = some (corea (toAut a), 0)
 rw [corea, hN, hR]
 rfl
theorem RestIs.reach {a : AutT} {n : Nat} {kp : List Int} {t : AutT} {Q : List Int} (h : RestIs a n kp t Q) (hk : ∀ y ∈ a.2.2.2, ∀ j, ReachIn (edsOf a) a.2.2.1 j y.2.2 → y.2.2 ∈ kp) : ∀ (j i : Nat) (s : Int), Q[i]? = some s → ReachIn (edsOf a) a.2.2.1 j s → ReachIn (edsOf t) t.2.2.1 j (i : Int)
 | 0, i, s, hq, hs => h.ma i s hq hs
 | j + 1, i, s, hq, hs => by
  obtain ⟨x, hx, rfl, hj⟩ := hs
  obtain ⟨y, hy, rfl⟩ := List.mem_map.1 hx
  obtain ⟨q, g1, g2⟩ := h.fw i y hy hq (hk y hy j hj)
  exact ⟨toEd ((i : Int), y.2.1, (q : Int)), List.mem_map_of_mem g1, rfl, h.reach hk j q _ g2 hj⟩
theorem trim_ex {a : AutT} {n : Nat} (hr : Right a n) (h1 : 1 ≤ n) (h6 : n ≤ 6) (hE : a.2.2.2.length ≤ 24) : ∃ t, m_reach_Trim a = some (t, 0) ∧ (t = (a.1, 0, [], []) ∨ ∃ k, 1 ≤ k ∧ k ≤ 6 ∧ Right t k ∧ ∀ x : Int, 0 ≤ x → x < (k : Int) → ∃ j, ReachIn (edsOf t) t.2.2.1 j x) := by
 have hN : (toAut a).n = (n : Int) := hr.nn
 obtain ⟨kp, hkp⟩ : ∃ kp, kp = corea (toAut a) := ⟨_, rfl⟩
 have hes : ∀ x ∈ (toAut a).es, 0 ≤ x.f ∧ x.f < (n : Int) ∧ 0 ≤ x.t ∧ x.t < (n : Int) := hr.ein
 have hki : kp.Pairwise (· < ·) := by rw [hkp]; exact listL_inc _
 have hkr : ∀ x ∈ kp, 0 ≤ x ∧ x < (n : Int) := by
  intro x hx
  rw [hkp] at hx
  have := listL_in _ x hx
  rw [List.length_map, backward_length, hN, Int.toNat_natCast] at this
  exact this
 have hkl : kp.length ≤ 1000000 := by
  have := listL_len ((backward (toAut a).n.toNat (toAut a).es (toAut a).ms).map fun d => decide (0 ≤ d))
  rw [List.length_map, backward_length, hN, Int.toNat_natCast] at this
  rw [hkp, corea, hN, Int.toNat_natCast]
  omega
 obtain ⟨t, hres, htc⟩ := restrict_ex hr h1 h6 hE hki hkr hkl
 refine ⟨t, by rw [m_reach_Trim, corea_eq hr, Option.bind_some, if_neg (by simp), ← hkp]; dsimp only; rw [hres]; rfl, ?_⟩
 rcases htc with htc | ⟨Q, hQ⟩
 ·exact .inl htc
 ·refine .inr ⟨Q.length, hQ.pos, hQ.len, hQ.right, fun x x0 x1 => ?_⟩
  obtain ⟨i, rfl⟩ : ∃ i : Nat, x = i := ⟨x.toNat, by omega⟩
  have hi : i < Q.length := by omega
  have hq := hQ.qr _ (List.getElem_mem hi)
  obtain ⟨s, hs⟩ : ∃ s : Nat, Q[i] = s := ⟨Q[i].toNat, by omega⟩
  obtain ⟨j, hj⟩ := (corea_mem hN (by have := hr.nl; omega) hes hr.msr (i := s) (by omega)).1 (by rw [← hkp, ← hs]; exact hasB_true.2 hq.2.2)
  refine ⟨j, hQ.reach (fun y hy k hk => ?_) j i (s : Int) (by rw [List.getElem?_eq_getElem hi, hs]) hj⟩
  have hy2 := hr.es y hy
  obtain ⟨u, hu⟩ : ∃ u : Nat, y.2.2 = u := ⟨y.2.2.toNat, by omega⟩
  rw [hu] at hk ⊢
  rw [hkp]
  exact hasB_true.1 ((corea_mem hN (by have := hr.nl; omega) hes hr.msr (i := u) (by omega)).2 ⟨k, hk⟩)
theorem nb_empty {al : List Int} (hi : Inc al) (hl : ∀ x ∈ al, 0 ≤ x ∧ x < 32) : m_blocking_Nonblocking [(al, 0, [], [])] = some ([], true, 0) := by
 have hA : Alp al := ⟨hi, hl⟩
 have hll := hA.len
 have hr : Right (al, 0, [], []) 0 := ⟨rfl, by omega, hi, hl, List.Pairwise.nil, fun x hx => (by cases hx), fun x hx => (by cases hx), List.Pairwise.nil, by dsimp only; omega, by simp, by simp⟩
 have hc : m_product_Check [(al, 0, [], [])] = some 0 := by
  obtain ⟨o, h1, rfl⟩ := iter_inv (f := m_product_Check_l1 [(al, 0, [], [])]) (fun i s => i ≤ 1 ∧ s = (i : Int)) (fun o => o = .inl ()) 1 0 (by omega) (fun i s hi ⟨_, e1⟩ => by
    have hi0 : i = 0 := by omega
    subst hi0
    subst e1
    refine .inl ⟨((1 : Nat) : Int), ?_, by omega, rfl⟩
    rw [m_product_Check_l1, if_pos (by simp), show idx [(al, (0 : Int), ([] : List Int), ([] : List (Int × Int × Int)))] ((0 : Nat) : Int) = some (al, 0, [], []) from rfl, Option.bind_some, hr.check, Option.bind_some, if_neg (by simp)]
    rfl) (fun s ⟨_, e1⟩ => by
    subst e1
    exact ⟨_, rfl, rfl⟩) (by omega) 0 ⟨by omega, rfl⟩
  rw [m_product_Check, if_neg (by simp), h1]
  rfl
 obtain ⟨o, ho, _⟩ := open_one hr
 have hin : m_product_machine_initial ([(al, 0, [], [])], al, [o]) = some ([], false) := by
  obtain ⟨o', h1, rfl⟩ := iter_inv (f := m_product_machine_initial_l1 ([(al, (0 : Int), ([] : List Int), ([] : List (Int × Int × Int)))], al, [o])) (fun i s => i = 0 ∧ s = 0) (fun o => o = .inr ()) 1 0 (by omega) (fun i s _ ⟨_, e1⟩ => by
    subst e1
    exact .inr ⟨_, rfl, rfl⟩) (fun s ⟨e0, _⟩ => by omega) (by omega) 0 ⟨rfl, rfl⟩
  rw [m_product_machine_initial, h1]
  rfl
 have hs : m_product_Synchronous [(al, 0, [], [])] = some ((al, 0, [], []), [], 0) := by
  rw [m_product_Synchronous, hc, Option.bind_some, if_neg (by simp), ho, Option.bind_some]
  dsimp only
  rw [hin]
  rfl
 rw [m_blocking_Nonblocking, hs, Option.bind_some, if_neg (by simp)]
 dsimp only
 rw [sprd hr (by simp) (fun s hs => by cases hs), Option.bind_some, blocked_eq (by rw [bk_len hr (fun s hs => by cases hs)]; omega), bk_len hr (fun s hs => by cases hs), Option.bind_some]
 rfl
end Go.Proofs.YtfbapajcheammaaGreatDoor

