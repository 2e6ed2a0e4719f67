/- GenerateWords returns true for all arguments, and leaves its arguments as they were. No conditions. -/
import Derived.Test.YtkkemchihllklaaProg
import Derived.Test.YtkkemchihllklaaQWds6
namespace Go.Proofs.Ytkkemchihllklaa
open Go Go.RowKit
/-- What automaton.checkState computes. -/
noncomputable def m_automaton_checkState (p0 : List Int × Int × List Int × (List (Int × Int × Int))) (p1 : Int) : Option Int :=
  (m_automaton_Check p0).bind fun r7 =>
  if (r7 != 0) then
    some r7
  else
    if ((decide (p1 < 0)) || (decide (p1 ≥ p0.2.1))) then
      some 2
    else
      some 0
set_option maxRecDepth 100000 in
set_option maxHeartbeats 8000000 in
theorem m_automaton_checkState_c {s : Sig} {p0 : List Int × Int × List Int × (List (Int × Int × Int))} {p1 : Int} {a1 : Option Addr} {c1 : Nat} {a2 : Option Addr} {c2 : Nat} {a3 : Option Addr} {c3 : Nat} {r : Int} (h1 : RdL (rK .i64) s a1 c1 p0.1) (h2 : RdL (rK .i64) s a2 c2 p0.2.2.1) (h3 : RdL (rP (rK .i64) (rP (rK .i64) (rK .i64))) s a3 c3 p0.2.2.2) (hm : m_automaton_checkState p0 p1 = some r) :
    Calls Try.prog 65 #[.agg #[.slice a1 p0.1.length c1, .int .i64 p0.2.1, .slice a2 p0.2.2.1.length c2, .slice a3 p0.2.2.2.length c3], .int .i64 p1] s.w (RetS No s fun v s' => v = .int .i64 r) := by
 unfold m_automaton_checkState at hm
 obtain ⟨N, hN, hNb⟩ := s.fresh
 have m0 : Mv (Up N No) s s := Mv.refl _ _
 refine E.entry Try.func65 rfl Try.ntmps65 rfl rfl (E.seq (E.reg (L.box (N + 0) Wt.no rfl rfl rfl fun b4 s5 m6 bx4 => ?_)))
 replace m0 := m0.trans m6.no
 replace h1 := h1.mono (m6.le no_No)
 replace h2 := h2.mono (m6.le no_No)
 replace h3 := h3.mono (m6.le no_No)
 refine L.as Wt.no rfl rfl (L.nil (X.seqN (E.seq (E.seq (E.reg (L.lg (j := 0) (cs := [.slice a1 p0.1.length c1, .int .i64 p0.2.1, .slice a2 p0.2.2.1.length c2, .slice a3 p0.2.2.2.length c3]) bx4.mem ag26 Wt.no rfl rfl rfl rfl rfl ?_))))))
 obtain ⟨r7, er7, hm⟩ := bindS hm
 refine L.ca cf33 rfl rfl Wt.no rfl (m_automaton_Check_c (s := s5) (p0 := p0) h1 h2 h3 er7) rfl ?_
 rintro _ s8 m9 rfl
 replace m0 := m0.trans m9.no
 replace bx4 := bx4.mv m9 no_No
 refine L.as Wt.no rfl rfl (L.nil (X.seqN (E.seq (E.reg (L.mv Wt.no rfl rfl (L.bi Wt.no rfl rfl rfl rfl (L.nil (X.seqN ?_))))))))
 rcases ifS hm with ⟨hc, hm⟩ | ⟨hc, hm⟩
 ·refine E.cT rfl hc (E.seq (E.reg (L.mv Wt.no rfl rfl (L.as Wt.no rfl rfl (L.nil (X.seqN (E.ret (X.seqR ?_))))))))
  obtain rfl := Option.some.inj hm
  exact X.rt (.inl rfl) Try.results65 (Rs.tmp rfl Rs.nil) rfl ⟨_, (s8).ren N (fun _ => 0), rfl, rfl, m0.ren hNb, rfl⟩
 ·refine E.cF rfl hc (E.skip (X.seqN (E.seq (E.seq (E.reg (L.mv Wt.no rfl rfl (L.bi Wt.no rfl rfl rfl rfl (L.mv Wt.no rfl rfl (L.cut 5 (fun e w => ∃ (v10 : Bool), ((decide (p1 < 0)) || (decide (p1 ≥ p0.2.1))) = v10 ∧ e = (18, .bool v10) :: [] ∧ w = s8.w) ?_ ?_)))))))))
  ·rintro _ _ ⟨v10, rfl, rfl, rfl⟩
   refine L.nil (X.seqN ?_)
   rcases ifS hm with ⟨hc, hm⟩ | ⟨hc, hm⟩
   ·refine E.cT rfl hc (E.seq (E.reg (L.as Wt.no rfl rfl (L.nil (X.seqN (E.ret (X.seqR ?_)))))))
    obtain rfl := Option.some.inj hm
    exact X.rt (.inl rfl) Try.results65 (Rs.tmp rfl Rs.nil) rfl ⟨_, (s8).ren N (fun _ => 0), rfl, rfl, m0.ren hNb, rfl⟩
   ·refine E.cF rfl hc (E.skip (X.seqN (E.seq (E.reg (L.as Wt.no rfl rfl (L.nil (X.seqN (E.ret ?_))))))))
    obtain rfl := Option.some.inj hm
    exact X.rt (.inl rfl) Try.results65 (Rs.tmp rfl Rs.nil) rfl ⟨_, (s8).ren N (fun _ => 0), rfl, rfl, m0.ren hNb, rfl⟩
  ·intro J11
   rcases Bool.eq_false_or_eq_true (decide (p1 < 0)) with hc | hc
   ·exact L.know (d := 13) rfl hc (L.skip rfl rfl rfl rfl (L.skip rfl rfl rfl rfl (L.skip rfl rfl rfl rfl (L.skip rfl rfl rfl rfl (L.pkT Wt.no rfl rfl rfl rfl (L.sb (J11 _ _ ⟨true, (orT hc).symm, rfl, rfl⟩) rfl))))))
   ·exact L.know (d := 13) rfl hc (L.mv (Wt.mk rfl rfl) rfl rfl (L.fa fa26_1 (Wt.mk rfl rfl) rfl rfl (L.ld (j := 1) bx4.mem nag3 (Wt.mk rfl rfl) rfl rfl rfl rfl (L.bi (Wt.mk rfl rfl) rfl rfl rfl rfl (L.pkF Wt.no rfl rfl rfl rfl (L.sb (J11 _ _ ⟨(decide (p1 ≥ p0.2.1)), (orF hc).symm, rfl, rfl⟩) rfl))))))

noncomputable def m_slices_BinarySearchFunc_api_Edge_api_Edge_int_l1 (p0 : List (Int × Int × Int)) (p1 : Int) (p2 : (Int × Int × Int) → Int → Option Int) (st11 : Int × Int) : Option ((Int × Int) ⊕ Int) :=
  if decide (st11.2 < st11.1) then
    (idx p0 (W ((IntKind.u64.wrap (W (st11.2 + st11.1))).fdiv (2 ^ (min (1 : Int).toNat 64))))).bind fun x25 =>
    (p2 x25 p1).bind fun r27 =>
    if decide (r27 < 0) then
      some (.inl (st11.1, W ((W ((IntKind.u64.wrap (W (st11.2 + st11.1))).fdiv (2 ^ (min (1 : Int).toNat 64)))) + 1)))
    else
      some (.inl (W ((IntKind.u64.wrap (W (st11.2 + st11.1))).fdiv (2 ^ (min (1 : Int).toNat 64))), st11.2))
  else
    some (.inr st11.2)
/-- What api.Edge,int> computes. -/
noncomputable def m_slices_BinarySearchFunc_api_Edge_api_Edge_int (p0 : List (Int × Int × Int)) (p1 : Int) (p2 : (Int × Int × Int) → Int → Option Int) : Option (Int × Bool) :=
  (iter (m_slices_BinarySearchFunc_api_Edge_api_Edge_int_l1 p0 p1 p2) ((p0.length : Int), 0)).bind fun o11 =>
  (if decide (o11 < (p0.length : Int)) then
    (idx p0 o11).bind fun x19 =>
    (p2 x19 p1).bind fun r21 =>
    some (r21 == 0)
  else
    some false).bind fun b15 =>
  some (o11, b15)
set_option maxRecDepth 100000 in
set_option maxHeartbeats 8000000 in
theorem m_slices_BinarySearchFunc_api_Edge_api_Edge_int_c {s : Sig} {p0 : List (Int × Int × Int)} {p1 : Int} {p2 : (Int × Int × Int) → Int → Option Int} {a1 : Option Addr} {c1 : Nat} {vp2 : Value} {r : Int × Bool} (h1 : RdL (rP (rK .i64) (rP (rK .i64) (rK .i64))) s a1 c1 p0) (hp2 : FV2 Try.prog s vp2 (fun (x0 : Int × Int × Int) (x1 : Int) => [.agg #[.int .i64 x0.1, .int .i64 x0.2.1, .int .i64 x0.2.2], .int .i64 x1]) (fun (r : Int) => .int .i64 r) p2) (hm : m_slices_BinarySearchFunc_api_Edge_api_Edge_int p0 p1 p2 = some r) :
    Calls Try.prog 100 #[.slice a1 p0.length c1, .int .i64 p1, vp2] s.w (RetS No s fun v s' => v = .tuple #[.int .i64 r.1, .bool r.2]) := by
 unfold m_slices_BinarySearchFunc_api_Edge_api_Edge_int at hm
 obtain ⟨N, hN, hNb⟩ := s.fresh
 have m0 : Mv (Up N No) s s := Mv.refl _ _
 refine E.entry Try.func100 rfl Try.ntmps100 rfl rfl (E.seq (E.reg (L.as Wt.no rfl rfl (L.as Wt.no rfl rfl (L.nil (X.seqN (E.seq (E.reg (L.mv Wt.no rfl rfl (L.len sl24 Wt.no rfl rfl (L.as Wt.no rfl rfl (L.nil (X.seqN (E.seq (E.reg (L.mv Wt.no rfl rfl (L.as Wt.no rfl rfl (L.as Wt.no rfl rfl (L.nil (X.seqN (E.seq (E.block ?_))))))))))))))))))))))
 obtain ⟨o11, eo11, hm⟩ := bindS hm
 refine E.cut (x := .exit 0) (fun e w => ∃ (s14 : Sig), Mv (Up N No) s s14 ∧ RdL (rP (rK .i64) (rP (rK .i64) (rK .i64))) s14 a1 c1 p0 ∧ FV2 Try.prog s14 vp2 (fun (x0 : Int × Int × Int) (x1 : Int) => [.agg #[.int .i64 x0.1, .int .i64 x0.2.1, .int .i64 x0.2.2], .int .i64 x1]) (fun (r : Int) => .int .i64 r) p2 ∧ e = [(9, .int .i64 o11), (8, .int .i64 (p0.length : Int)), (0, .slice a1 p0.length c1), (1, .int .i64 p1), (2, vp2)] ∧ w = s14.w) ?_ ?_
 ·rintro _ _ ⟨s14, m0, h1, hp2, rfl, rfl⟩
  refine X.blkE (X.seqN (E.seq (E.reg (L.mv Wt.no rfl rfl (L.mv Wt.no rfl rfl (L.mv Wt.no rfl rfl (L.bi Wt.no rfl rfl rfl rfl (L.mv Wt.no rfl rfl ?_))))))))
  obtain ⟨b15, eb15, hm⟩ := bindS hm
  refine L.cut 9 (fun e w => ∃ (s17 : Sig) (v16 : Bool), b15 = v16 ∧ Mv (Up N No) s s17 ∧ e = (48, .bool v16) :: [(35, .int .i64 o11)] ∧ w = s17.w) ?_ ?_
  ·rintro _ _ ⟨s17, v16, rfl, m0, rfl, rfl⟩
   refine L.as Wt.no rfl rfl (L.as Wt.no rfl rfl (L.nil (X.seqN (E.ret ?_))))
   obtain rfl := Option.some.inj hm
   exact X.rt (.inl rfl) Try.results100 (Rs.tmp rfl (Rs.tmp rfl Rs.nil)) rfl ⟨_, (s17).ren N (fun _ => 0), rfl, rfl, m0.ren hNb, rfl⟩
  ·intro J18
   rcases ifS eb15 with ⟨hc, hm⟩ | ⟨hc, hm⟩
   ·refine L.know (d := 39) rfl hc (L.mv (Wt.mk rfl rfl) rfl rfl (L.mv (Wt.mk rfl rfl) rfl rfl (L.mv (Wt.mk rfl rfl) rfl rfl ?_)))
    obtain ⟨x19, ex19, hm⟩ := bindS hm
    refine L.ix (r := (rP (rK .i64) (rP (rK .i64) (rK .i64)))) sl24 h1 (Wt.mk rfl rfl) rfl rfl ex19 rfl fun b20 o20 cc20 me20 rd20 => ?_
    obtain ⟨_, _, rfl, rfl, ⟨_, _, rfl, rfl, rfl⟩⟩ := rd20
    refine L.lg (j := 0) (cs := [.int .i64 x19.1, .int .i64 x19.2.1, .int .i64 x19.2.2]) me20 ag28 (Wt.mk rfl rfl) rfl rfl rfl rfl rfl (L.mv (Wt.mk rfl rfl) rfl rfl ?_)
    obtain ⟨r21, er21, hm⟩ := bindS hm
    refine L.fv2 (y := x19) (z := p1) hp2 rfl rfl (Wt.mk rfl rfl) rfl rfl er21 rfl fun s22 m23 => ?_
    replace m0 := m0.trans m23.no
    exact L.bi (Wt.mk rfl rfl) rfl rfl rfl rfl (L.pkT Wt.no rfl rfl rfl rfl (L.sb (J18 _ _ ⟨s22, (r21 == 0), (Option.some.inj hm).symm, m0, rfl, rfl⟩) rfl))
   ·exact L.know (d := 39) rfl hc (L.skip rfl rfl rfl rfl (L.skip rfl rfl rfl rfl (L.skip rfl rfl rfl rfl (L.skip rfl rfl rfl rfl (L.skip rfl rfl rfl rfl (L.skip rfl rfl rfl rfl (L.skip rfl rfl rfl rfl (L.skip rfl rfl rfl rfl (L.pkF Wt.no rfl rfl rfl rfl (L.sb (J18 _ _ ⟨s14, false, (Option.some.inj hm).symm, m0, rfl, rfl⟩) rfl))))))))))
 intro K24
 refine E.iter (fun (st11 : Int × Int) (e : List (Nat × Value)) (w : World) => ∃ (s13 : Sig), Mv (Up N No) s s13 ∧ RdL (rP (rK .i64) (rP (rK .i64) (rK .i64))) s13 a1 c1 p0 ∧ FV2 Try.prog s13 vp2 (fun (x0 : Int × Int × Int) (x1 : Int) => [.agg #[.int .i64 x0.1, .int .i64 x0.2.1, .int .i64 x0.2.2], .int .i64 x1]) (fun (r : Int) => .int .i64 r) p2 ∧ e = [(10, .int .i64 st11.1), (9, .int .i64 st11.2), (8, .int .i64 (p0.length : Int)), (0, .slice a1 p0.length c1), (1, .int .i64 p1), (2, vp2)] ∧ w = s13.w) eo11 ⟨s, m0, h1, hp2, rfl, rfl⟩ (Sub.rf rfl) ?_
 rintro st11 res11 hm ih11 ho11 _ _ ⟨s13, m0, h1, hp2, rfl, rfl⟩
 unfold m_slices_BinarySearchFunc_api_Edge_api_Edge_int_l1 at hm
 refine E.seq (E.seq (E.reg (L.mv Wt.no rfl rfl (L.mv Wt.no rfl rfl (L.bi Wt.no rfl rfl rfl rfl (L.nil (X.seqN ?_)))))))
 rcases ifS hm with ⟨hc, hm⟩ | ⟨hc, hm⟩
 ·refine E.cT rfl hc (E.skip (X.seqN (E.block (E.seq (E.reg (L.mv Wt.no rfl rfl (L.mv Wt.no rfl rfl (L.bi Wt.no rfl rfl rfl rfl (L.cv Try.underlying3 Try.underlying136 Wt.no rfl rfl (L.shr Wt.no rfl rfl (by decide) rfl (L.cv Try.underlying136 Try.underlying3 Wt.no rfl rfl (L.as Wt.no rfl rfl (L.nil (X.seqN (E.seq (E.reg (L.mv Wt.no rfl rfl (L.mv Wt.no rfl rfl (L.mv Wt.no rfl rfl ?_)))))))))))))))))))
  obtain ⟨x25, ex25, hm⟩ := bindS hm
  refine L.ix (r := (rP (rK .i64) (rP (rK .i64) (rK .i64)))) sl24 h1 Wt.no rfl rfl ex25 rfl fun b26 o26 cc26 me26 rd26 => ?_
  obtain ⟨_, _, rfl, rfl, ⟨_, _, rfl, rfl, rfl⟩⟩ := rd26
  refine L.lg (j := 0) (cs := [.int .i64 x25.1, .int .i64 x25.2.1, .int .i64 x25.2.2]) me26 ag28 Wt.no rfl rfl rfl rfl rfl (L.mv Wt.no rfl rfl ?_)
  obtain ⟨r27, er27, hm⟩ := bindS hm
  refine L.fv2 (y := x25) (z := p1) hp2 rfl rfl Wt.no rfl rfl er27 rfl fun s28 m29 => ?_
  replace m0 := m0.trans m29.no
  replace h1 := h1.mono (m29.le no_No)
  replace hp2 := hp2.mono (m29.le no_No)
  refine L.bi Wt.no rfl rfl rfl rfl (L.nil (X.seqN ?_))
  rcases ifS hm with ⟨hc, hm⟩ | ⟨hc, hm⟩
  ·exact E.cT rfl hc (E.reg (L.mv Wt.no rfl rfl (L.bi Wt.no rfl rfl rfl rfl (L.as Wt.no rfl rfl (L.nil (X.blkN (X.sub (ih11 _ (Option.some.inj hm).symm _ _ ⟨s28, m0, h1, hp2, rfl, rfl⟩) (Sub.rf rfl))))))))
  ·exact E.cF rfl hc (E.reg (L.mv Wt.no rfl rfl (L.as Wt.no rfl rfl (L.nil (X.blkN (X.sub (ih11 _ (Option.some.inj hm).symm _ _ ⟨s28, m0, h1, hp2, rfl, rfl⟩) (Sub.rf rfl)))))))
 ·refine E.cF rfl hc (E.exit (X.seqX (X.seqX ?_)))
  have hx := ho11 _ (Option.some.inj hm).symm
  subst hx
  exact X.sub (K24 _ _ ⟨s13, m0, h1, hp2, rfl, rfl⟩) (Sub.rf rfl)

/-- What automaton.out$1 computes. -/
noncomputable def m_automaton_out_1 (p0 : Int × Int × Int) (p1 : Int) : Option Int :=
  some (W (p0.1 - p1))
set_option maxRecDepth 100000 in
set_option maxHeartbeats 8000000 in
theorem m_automaton_out_1_c {s : Sig} {p0 : Int × Int × Int} {p1 : Int} {r : Int} (hm : m_automaton_out_1 p0 p1 = some r) :
    Calls Try.prog 101 #[.agg #[.int .i64 p0.1, .int .i64 p0.2.1, .int .i64 p0.2.2], .int .i64 p1] s.w (RetS No s fun v s' => v = .int .i64 r) := by
 unfold m_automaton_out_1 at hm
 obtain ⟨N, hN, hNb⟩ := s.fresh
 have m0 : Mv (Up N No) s s := Mv.refl _ _
 refine E.entry Try.func101 rfl Try.ntmps101 rfl rfl (E.seq (E.reg (L.box (N + 0) Wt.no rfl rfl rfl fun b1 s2 m3 bx1 => ?_)))
 replace m0 := m0.trans m3.no
 refine L.as Wt.no rfl rfl (L.nil (X.seqN (E.seq (E.reg (L.fa fa28_0 Wt.no rfl rfl (L.ld (j := 0) bx1.mem nag3 Wt.no rfl rfl rfl rfl (L.mv Wt.no rfl rfl (L.bi Wt.no rfl rfl rfl rfl (L.as Wt.no rfl rfl (L.nil (X.seqN (E.ret ?_))))))))))))
 obtain rfl := Option.some.inj hm
 exact X.rt (.inl rfl) Try.results101 (Rs.tmp rfl Rs.nil) rfl ⟨_, (s2).ren N (fun _ => 0), rfl, rfl, m0.ren hNb, rfl⟩

/-- What automaton.out$2 computes. -/
noncomputable def m_automaton_out_2 (p0 : Int × Int × Int) (p1 : Int) : Option Int :=
  some (W (p0.1 - p1))
set_option maxRecDepth 100000 in
set_option maxHeartbeats 8000000 in
theorem m_automaton_out_2_c {s : Sig} {p0 : Int × Int × Int} {p1 : Int} {r : Int} (hm : m_automaton_out_2 p0 p1 = some r) :
    Calls Try.prog 102 #[.agg #[.int .i64 p0.1, .int .i64 p0.2.1, .int .i64 p0.2.2], .int .i64 p1] s.w (RetS No s fun v s' => v = .int .i64 r) := by
 unfold m_automaton_out_2 at hm
 obtain ⟨N, hN, hNb⟩ := s.fresh
 have m0 : Mv (Up N No) s s := Mv.refl _ _
 refine E.entry Try.func102 rfl Try.ntmps102 rfl rfl (E.seq (E.reg (L.box (N + 0) Wt.no rfl rfl rfl fun b1 s2 m3 bx1 => ?_)))
 replace m0 := m0.trans m3.no
 refine L.as Wt.no rfl rfl (L.nil (X.seqN (E.seq (E.reg (L.fa fa28_0 Wt.no rfl rfl (L.ld (j := 0) bx1.mem nag3 Wt.no rfl rfl rfl rfl (L.mv Wt.no rfl rfl (L.bi Wt.no rfl rfl rfl rfl (L.as Wt.no rfl rfl (L.nil (X.seqN (E.ret ?_))))))))))))
 obtain rfl := Option.some.inj hm
 exact X.rt (.inl rfl) Try.results102 (Rs.tmp rfl Rs.nil) rfl ⟨_, (s2).ren N (fun _ => 0), rfl, rfl, m0.ren hNb, rfl⟩

theorem cf100 : Cf Try.prog 100 := Cf.mk Try.func100 (by kernel_rfl) (by kernel_rfl)
theorem cf101 : Cf Try.prog 101 := Cf.mk Try.func101 (by kernel_rfl) (by kernel_rfl)
theorem cf102 : Cf Try.prog 102 := Cf.mk Try.func102 (by kernel_rfl) (by kernel_rfl)
theorem fv101 {s : Sig} : FV2 Try.prog s (.func (.func 101) #[] #[]) (fun (x0 : Int × Int × Int) (x1 : Int) => [.agg #[.int .i64 x0.1, .int .i64 x0.2.1, .int .i64 x0.2.2], .int .i64 x1]) (fun r => .int .i64 r) m_automaton_out_1 := ⟨101, #[], #[], rfl, cf101, fun x0 x1 r hm s' hl => by have hh := m_automaton_out_1_c (s := s') hm; simpa using hh⟩
theorem fv102 {s : Sig} : FV2 Try.prog s (.func (.func 102) #[] #[]) (fun (x0 : Int × Int × Int) (x1 : Int) => [.agg #[.int .i64 x0.1, .int .i64 x0.2.1, .int .i64 x0.2.2], .int .i64 x1]) (fun r => .int .i64 r) m_automaton_out_2 := ⟨102, #[], #[], rfl, cf102, fun x0 x1 r hm s' hl => by have hh := m_automaton_out_2_c (s := s') hm; simpa using hh⟩
/-- What automaton.out computes. -/
noncomputable def m_automaton_out (p0 : List Int × Int × List Int × (List (Int × Int × Int))) (p1 : Int) : Option (List (Int × Int × Int)) :=
  (m_slices_BinarySearchFunc_api_Edge_api_Edge_int p0.2.2.2 p1 m_automaton_out_1).bind fun r8 =>
  (m_slices_BinarySearchFunc_api_Edge_api_Edge_int p0.2.2.2 (W (p1 + 1)) m_automaton_out_2).bind fun r11 =>
  (slc p0.2.2.2 r8.1 r11.1).bind fun x14 =>
  some x14
set_option maxRecDepth 100000 in
set_option maxHeartbeats 8000000 in
theorem m_automaton_out_c {s : Sig} {p0 : List Int × Int × List Int × (List (Int × Int × Int))} {p1 : Int} {a1 : Option Addr} {c1 : Nat} {a2 : Option Addr} {c2 : Nat} {a3 : Option Addr} {c3 : Nat} {r : (List (Int × Int × Int))} (h1 : RdL (rK .i64) s a1 c1 p0.1) (h2 : RdL (rK .i64) s a2 c2 p0.2.2.1) (h3 : RdL (rP (rK .i64) (rP (rK .i64) (rK .i64))) s a3 c3 p0.2.2.2) (hm : m_automaton_out p0 p1 = some r) :
    Calls Try.prog 76 #[.agg #[.slice a1 p0.1.length c1, .int .i64 p0.2.1, .slice a2 p0.2.2.1.length c2, .slice a3 p0.2.2.2.length c3], .int .i64 p1] s.w (RetS No s fun v s' => ∃ (a4 : Option Addr) (c4 : Nat), v = .slice a4 r.length c4 ∧ RdL (rP (rK .i64) (rP (rK .i64) (rK .i64))) s' a4 c4 r) := by
 unfold m_automaton_out at hm
 obtain ⟨N, hN, hNb⟩ := s.fresh
 have m0 : Mv (Up N No) s s := Mv.refl _ _
 refine E.entry Try.func76 rfl Try.ntmps76 rfl rfl (E.seq (E.reg (L.box (N + 0) Wt.no rfl rfl rfl fun b5 s6 m7 bx5 => ?_)))
 replace m0 := m0.trans m7.no
 replace h3 := h3.mono (m7.le no_No)
 refine L.as Wt.no rfl rfl (L.nil (X.seqN (E.seq (E.reg (L.fa fa26_3 Wt.no rfl rfl (L.ld (j := 3) bx5.mem nag24 Wt.no rfl rfl rfl rfl (L.mv Wt.no rfl rfl ?_)))))))
 obtain ⟨r8, er8, hm⟩ := bindS hm
 refine L.ca cf100 rfl rfl Wt.no rfl (m_slices_BinarySearchFunc_api_Edge_api_Edge_int_c (s := s6) (p0 := p0.2.2.2) (p1 := p1) (p2 := m_automaton_out_1) h3 fv101 er8) rfl ?_
 rintro _ s9 m10 rfl
 replace m0 := m0.trans m10.no
 replace bx5 := bx5.mv m10 no_No
 replace h3 := h3.mono (m10.le no_No)
 refine L.mv Wt.no rfl rfl (L.ex Wt.no rfl rfl rfl (L.ex Wt.no rfl rfl rfl (L.as Wt.no rfl rfl (L.as Wt.no rfl rfl (L.nil (X.seqN (E.seq (E.reg (L.fa fa26_3 Wt.no rfl rfl (L.ld (j := 3) bx5.mem nag24 Wt.no rfl rfl rfl rfl (L.mv Wt.no rfl rfl (L.bi Wt.no rfl rfl rfl rfl ?_))))))))))))
 obtain ⟨r11, er11, hm⟩ := bindS hm
 refine L.ca cf100 rfl rfl Wt.no rfl (m_slices_BinarySearchFunc_api_Edge_api_Edge_int_c (s := s9) (p0 := p0.2.2.2) (p1 := (W (p1 + 1))) (p2 := m_automaton_out_2) h3 fv102 er11) rfl ?_
 rintro _ s12 m13 rfl
 replace m0 := m0.trans m13.no
 replace bx5 := bx5.mv m13 no_No
 replace h3 := h3.mono (m13.le no_No)
 refine L.mv Wt.no rfl rfl (L.ex Wt.no rfl rfl rfl (L.ex Wt.no rfl rfl rfl (L.as Wt.no rfl rfl (L.as Wt.no rfl rfl (L.nil (X.seqN (E.seq (E.reg (L.fa fa26_3 Wt.no rfl rfl (L.ld (j := 3) bx5.mem nag24 Wt.no rfl rfl rfl rfl (L.mv Wt.no rfl rfl (L.mv Wt.no rfl rfl ?_))))))))))))
 obtain ⟨x14, ex14, hm⟩ := bindS hm
 refine L.sl (r := (rP (rK .i64) (rP (rK .i64) (rK .i64)))) sl24 h3 Wt.no rfl rfl rfl ex14 rfl fun a15 c15 h15 => L.as Wt.no rfl rfl (L.nil (X.seqN (E.ret ?_)))
 obtain rfl := Option.some.inj hm
 exact X.rt (.inl rfl) Try.results76 (Rs.tmp rfl Rs.nil) rfl ⟨_, (s12).ren N (fun _ => 0), rfl, rfl, m0.ren hNb, ⟨a15, c15, rfl, (h15.ren hN)⟩⟩

theorem cf65 : Cf Try.prog 65 := Cf.mk Try.func65 (by kernel_rfl) (by kernel_rfl)
theorem cf76 : Cf Try.prog 76 := Cf.mk Try.func76 (by kernel_rfl) (by kernel_rfl)
/-- What automaton.next$1 computes. -/
noncomputable def m_automaton_next_1 (q0 : Int) (p0 : Int × Int × Int) : Option Bool :=
  some (p0.2.1 == q0)
set_option maxRecDepth 100000 in
set_option maxHeartbeats 8000000 in
theorem m_automaton_next_1_c {s : Sig} {q0 : Int} {p0 : Int × Int × Int} {b1 : Nat} {r : Bool} (bx1 : Bx s 0 b1 #[.int .i64 q0] 3) (hm : m_automaton_next_1 q0 p0 = some r) :
    Calls Try.prog 104 #[.agg #[.int .i64 p0.1, .int .i64 p0.2.1, .int .i64 p0.2.2], .pointer (some ⟨b1, 0, none⟩)] s.w (RetS No s fun v s' => v = .bool r) := by
 unfold m_automaton_next_1 at hm
 obtain ⟨N, hN, hNb⟩ := s.fresh
 have m0 : Mv (Up N No) s s := Mv.refl _ _
 refine E.entry Try.func104 rfl Try.ntmps104 rfl rfl (E.seq (E.reg (L.box (N + 0) Wt.no rfl rfl rfl fun b2 s3 m4 bx2 => ?_)))
 replace m0 := m0.trans m4.no
 replace bx1 := bx1.mv m4 no_No
 refine L.as Wt.no rfl rfl (L.nil (X.seqN (E.seq (E.reg (L.fa fa28_1 Wt.no rfl rfl (L.ld (j := 1) bx2.mem nag3 Wt.no rfl rfl rfl rfl (L.ld (j := 0) bx1.mem nag3 Wt.no rfl rfl rfl rfl (L.bi Wt.no rfl rfl rfl rfl (L.as Wt.no rfl rfl (L.nil (X.seqN (E.ret ?_))))))))))))
 obtain rfl := Option.some.inj hm
 exact X.rt (.inl rfl) Try.results104 (Rs.tmp rfl Rs.nil) rfl ⟨_, (s3).ren N (fun _ => 0), rfl, rfl, m0.ren hNb, rfl⟩

end Go.Proofs.Ytkkemchihllklaa

namespace Go.Proofs.Ytkkemchihllklaa
open Go Go.RowKit
noncomputable def m_slices_IndexFunc_Edge_l1 (p0 : List (Int × Int × Int)) (p1 : (Int × Int × Int) → Option Bool) (st9 : Int) : Option (Int ⊕ (Unit ⊕ Int)) :=
  if decide (st9 < (p0.length : Int)) then
    (idx p0 st9).bind fun x18 =>
    (p1 x18).bind fun r20 =>
    if r20 then
      some (.inr (.inr (st9)))
    else
      some (.inl (W (st9 + 1)))
  else
    some (.inr (.inl ()))
/-- What api.Edge> computes. -/
noncomputable def m_slices_IndexFunc_Edge (p0 : List (Int × Int × Int)) (p1 : (Int × Int × Int) → Option Bool) : Option Int :=
  (iter (m_slices_IndexFunc_Edge_l1 p0 p1) 0).bind fun o9 =>
  match o9 with
  | .inl u12 =>
    some (-1)
  | .inr (u15) =>
    some u15
set_option maxRecDepth 100000 in
set_option maxHeartbeats 8000000 in
theorem m_slices_IndexFunc_Edge_c {s : Sig} {p0 : List (Int × Int × Int)} {p1 : (Int × Int × Int) → Option Bool} {a1 : Option Addr} {c1 : Nat} {vp1 : Value} {r : Int} (h1 : RdL (rP (rK .i64) (rP (rK .i64) (rK .i64))) s a1 c1 p0) (hp1 : FV1 Try.prog s vp1 (fun (x0 : Int × Int × Int) => [.agg #[.int .i64 x0.1, .int .i64 x0.2.1, .int .i64 x0.2.2]]) (fun (r : Bool) => .bool r) p1) (hm : m_slices_IndexFunc_Edge p0 p1 = some r) :
    Calls Try.prog 103 #[.slice a1 p0.length c1, vp1] s.w (RetS No s fun v s' => v = .int .i64 r) := by
 unfold m_slices_IndexFunc_Edge at hm
 obtain ⟨N, hN, hNb⟩ := s.fresh
 have m0 : Mv (Up N No) s s := Mv.refl _ _
 refine E.entry Try.func103 rfl Try.ntmps103 rfl rfl (E.seq (E.reg (L.as Wt.no rfl rfl (L.nil (X.seqN (E.seq (E.seq (E.reg (L.mv Wt.no rfl rfl (L.len sl24 Wt.no rfl rfl (L.mv Wt.no rfl rfl (L.nil (X.seqN (E.block ?_))))))))))))))
 obtain ⟨o9, eo9, hm⟩ := bindS hm
 refine E.cut (x := .exit 0) (fun e w => ∃ (s13 : Sig) (u12 : Unit), o9 = .inl u12 ∧ Mv (Up N No) s s13 ∧ e = [] ∧ w = s13.w) ?_ ?_
 ·rintro _ _ ⟨s13, u12, rfl, m0, rfl, rfl⟩
  dsimp only at hm
  refine X.blkE (X.seqN (E.seq (E.reg (L.as Wt.no rfl rfl (L.nil (X.seqN (E.ret ?_)))))))
  obtain rfl := Option.some.inj hm
  exact X.rt (.inl rfl) Try.results103 (Rs.tmp rfl Rs.nil) rfl ⟨_, (s13).ren N (fun _ => 0), rfl, rfl, m0.ren hNb, rfl⟩
 intro K14
 refine E.cut (x := .ret) (fun e w => ∃ (s16 : Sig) (u15 : Int), o9 = .inr (u15) ∧ Mv (Up N No) s s16 ∧ e = [(4, .int .i64 u15)] ∧ w = s16.w) ?_ ?_
 ·rintro _ _ ⟨s16, u15, rfl, m0, rfl, rfl⟩
  dsimp only at hm
  refine X.blkR (X.seqR ?_)
  obtain rfl := Option.some.inj hm
  exact X.rt (.inl rfl) Try.results103 (Rs.tmp rfl Rs.nil) rfl ⟨_, (s16).ren N (fun _ => 0), rfl, rfl, m0.ren hNb, rfl⟩
 intro K17
 refine E.iter (fun (st9 : Int) (e : List (Nat × Value)) (w : World) => ∃ (s11 : Sig), Mv (Up N No) s s11 ∧ RdL (rP (rK .i64) (rP (rK .i64) (rK .i64))) s11 a1 c1 p0 ∧ FV1 Try.prog s11 vp1 (fun (x0 : Int × Int × Int) => [.agg #[.int .i64 x0.1, .int .i64 x0.2.1, .int .i64 x0.2.2]]) (fun (r : Bool) => .bool r) p1 ∧ e = [(8, .int .i64 st9), (7, .int .i64 (p0.length : Int)), (0, .slice a1 p0.length c1), (1, vp1)] ∧ w = s11.w) eo9 ⟨s, m0, h1, hp1, rfl, rfl⟩ (Sub.rf rfl) ?_
 rintro st9 res9 hm ih9 ho9 _ _ ⟨s11, m0, h1, hp1, rfl, rfl⟩
 unfold m_slices_IndexFunc_Edge_l1 at hm
 refine E.seq (E.reg (L.bi Wt.no rfl rfl rfl rfl (L.nil (X.seqN (E.seq ?_)))))
 rcases ifS hm with ⟨hc, hm⟩ | ⟨hc, hm⟩
 ·refine E.cT rfl hc (E.skip (X.seqN (E.seq (E.block (E.seq (E.reg (L.mv Wt.no rfl rfl (L.as Wt.no rfl rfl (L.nil (X.seqN (E.seq (E.reg (L.mv Wt.no rfl rfl (L.mv Wt.no rfl rfl (L.mv Wt.no rfl rfl ?_)))))))))))))))
  obtain ⟨x18, ex18, hm⟩ := bindS hm
  refine L.ix (r := (rP (rK .i64) (rP (rK .i64) (rK .i64)))) sl24 h1 Wt.no rfl rfl ex18 rfl fun b19 o19 cc19 me19 rd19 => ?_
  obtain ⟨_, _, rfl, rfl, ⟨_, _, rfl, rfl, rfl⟩⟩ := rd19
  refine L.lg (j := 0) (cs := [.int .i64 x18.1, .int .i64 x18.2.1, .int .i64 x18.2.2]) me19 ag28 Wt.no rfl rfl rfl rfl rfl ?_
  obtain ⟨r20, er20, hm⟩ := bindS hm
  refine L.fv1 (y := x18) hp1 rfl rfl Wt.no rfl rfl er20 rfl fun s21 m22 => ?_
  replace m0 := m0.trans m22.no
  replace h1 := h1.mono (m22.le no_No)
  replace hp1 := hp1.mono (m22.le no_No)
  refine L.nil (X.seqN ?_)
  rcases ifS hm with ⟨hc, hm⟩ | ⟨hc, hm⟩
  ·refine E.cT rfl hc (E.seq (E.reg (L.mv Wt.no rfl rfl (L.as Wt.no rfl rfl (L.nil (X.seqN (E.ret (X.blkR (X.seqR (X.seqR ?_))))))))))
   have hx := ho9 _ (Option.some.inj hm).symm
   exact X.sub (K17 _ _ ⟨s21, st9, hx.symm, m0, rfl, rfl⟩) (Sub.rf rfl)
  ·exact E.cF rfl hc (E.skip (X.blkN (X.seqN (E.reg (L.bi Wt.no rfl rfl rfl rfl (L.mv Wt.no rfl rfl (L.nil (X.sub (ih9 _ (Option.some.inj hm).symm _ _ ⟨s21, m0, h1, hp1, rfl, rfl⟩) (Sub.rf rfl)))))))))
 ·refine E.cF rfl hc (E.exit (X.seqX (X.seqX ?_)))
  have hx := ho9 _ (Option.some.inj hm).symm
  exact X.sub (K14 _ _ ⟨s11, (), hx.symm, m0, rfl, rfl⟩) Sub.nil

theorem cf103 : Cf Try.prog 103 := Cf.mk Try.func103 (by kernel_rfl) (by kernel_rfl)
theorem cf104 : Cf Try.prog 104 := Cf.mk Try.func104 (by kernel_rfl) (by kernel_rfl)
/-- What automaton.next computes. -/
noncomputable def m_automaton_next (p0 : List Int × Int × List Int × (List (Int × Int × Int))) (p1 : Int) (p2 : Int) : Option Int :=
  (m_automaton_out p0 p1).bind fun r10 =>
  (m_slices_IndexFunc_Edge r10 (m_automaton_next_1 p2)).bind fun r16 =>
  if decide (r16 < 0) then
    some (-1)
  else
    (idx r10 r16).bind fun x19 =>
    some x19.2.2
set_option maxRecDepth 100000 in
set_option maxHeartbeats 8000000 in
theorem m_automaton_next_c {s : Sig} {p0 : List Int × Int × List Int × (List (Int × Int × Int))} {p1 : Int} {p2 : Int} {a1 : Option Addr} {c1 : Nat} {a2 : Option Addr} {c2 : Nat} {a3 : Option Addr} {c3 : Nat} {r : Int} (h1 : RdL (rK .i64) s a1 c1 p0.1) (h2 : RdL (rK .i64) s a2 c2 p0.2.2.1) (h3 : RdL (rP (rK .i64) (rP (rK .i64) (rK .i64))) s a3 c3 p0.2.2.2) (hm : m_automaton_next p0 p1 p2 = some r) :
    Calls Try.prog 77 #[.agg #[.slice a1 p0.1.length c1, .int .i64 p0.2.1, .slice a2 p0.2.2.1.length c2, .slice a3 p0.2.2.2.length c3], .int .i64 p1, .int .i64 p2] s.w (RetS No s fun v s' => v = .int .i64 r) := by
 unfold m_automaton_next at hm
 obtain ⟨N, hN, hNb⟩ := s.fresh
 have m0 : Mv (Up N No) s s := Mv.refl _ _
 refine E.entry Try.func77 rfl Try.ntmps77 rfl rfl (E.seq (E.reg (L.box (N + 0) Wt.no rfl rfl rfl fun b4 s5 m6 bx4 => ?_)))
 replace m0 := m0.trans m6.no
 replace h1 := h1.mono (m6.le no_No)
 replace h2 := h2.mono (m6.le no_No)
 replace h3 := h3.mono (m6.le no_No)
 refine L.box (N + 1) Wt.no rfl rfl rfl fun b7 s8 m9 bx7 => ?_
 replace m0 := m0.trans m9.no
 replace bx4 := bx4.mv m9 no_No
 replace h1 := h1.mono (m9.le no_No)
 replace h2 := h2.mono (m9.le no_No)
 replace h3 := h3.mono (m9.le no_No)
 refine L.as Wt.no rfl rfl (L.nil (X.seqN (E.seq (E.reg (L.lg (j := 0) (cs := [.slice a1 p0.1.length c1, .int .i64 p0.2.1, .slice a2 p0.2.2.1.length c2, .slice a3 p0.2.2.2.length c3]) bx4.mem ag26 Wt.no rfl rfl rfl rfl rfl (L.mv Wt.no rfl rfl ?_))))))
 obtain ⟨r10, er10, hm⟩ := bindS hm
 refine L.ca cf76 rfl rfl Wt.no rfl (m_automaton_out_c (s := s8) (p0 := p0) (p1 := p1) h1 h2 h3 er10) rfl ?_
 rintro _ s11 m12 ⟨a13, c13, rfl, h13⟩
 replace m0 := m0.trans m12.no
 replace bx7 := bx7.mv m12 no_No
 refine L.as Wt.no rfl rfl (L.nil (X.seqN (E.seq (E.reg (L.mv Wt.no rfl rfl ?_)))))
 have m14 := Sig.fz_mv (N + 1) s11
 replace bx7 := bx7.fz (tgn hN)
 replace m0 := m0.trans (m14.one up)
 replace h13 := h13.mono (m14.le (tg0 hN))
 refine L.toR (s' := (Sig.fz (N + 1) s11)) rfl ?_
 have h15 : FV1 Try.prog (Sig.fz (N + 1) s11) (.func (.func 104) #[] #[.pointer (some ⟨b7, 0, none⟩)]) (fun (x0 : Int × Int × Int) => [.agg #[.int .i64 x0.1, .int .i64 x0.2.1, .int .i64 x0.2.2]]) (fun (r : Bool) => .bool r) (m_automaton_next_1 p2) := ⟨104, #[], #[.pointer (some ⟨b7, 0, none⟩)], rfl, cf104, fun x0 r hm s' hl => by have hh := m_automaton_next_1_c (s := s') (bx7.le hl) hm; simpa using hh⟩
 refine L.mf Wt.no rfl rfl rfl ?_
 obtain ⟨r16, er16, hm⟩ := bindS hm
 refine L.ca cf103 rfl rfl Wt.no rfl (m_slices_IndexFunc_Edge_c (s := (Sig.fz (N + 1) s11)) (p0 := r10) (p1 := (m_automaton_next_1 p2)) h13 h15 er16) rfl ?_
 rintro _ s17 m18 rfl
 replace m0 := m0.trans m18.no
 replace h13 := h13.mono (m18.le no_No)
 refine L.as Wt.no rfl rfl (L.nil (X.seqN (E.seq (E.seq (E.reg (L.mv Wt.no rfl rfl (L.bi Wt.no rfl rfl rfl rfl (L.nil (X.seqN ?_)))))))))
 rcases ifS hm with ⟨hc, hm⟩ | ⟨hc, hm⟩
 ·refine E.cT rfl hc (E.seq (E.reg (L.as Wt.no rfl rfl (L.nil (X.seqN (E.ret (X.seqR ?_)))))))
  obtain rfl := Option.some.inj hm
  exact X.rt (.inl rfl) Try.results77 (Rs.tmp rfl Rs.nil) rfl ⟨_, (s17).ren N (fun _ => 0), rfl, rfl, m0.ren hNb, rfl⟩
 ·refine E.cF rfl hc (E.skip (X.seqN (E.seq (E.reg (L.mv Wt.no rfl rfl (L.mv Wt.no rfl rfl ?_))))))
  obtain ⟨x19, ex19, hm⟩ := bindS hm
  refine L.ix (r := (rP (rK .i64) (rP (rK .i64) (rK .i64)))) sl24 h13 Wt.no rfl rfl ex19 rfl fun b20 o20 cc20 me20 rd20 => ?_
  obtain ⟨_, _, rfl, rfl, ⟨_, _, rfl, rfl, rfl⟩⟩ := rd20
  refine L.fa fa28_2 Wt.no rfl rfl (L.ld (j := 2) me20 nag3 Wt.no rfl rfl rfl rfl (L.as Wt.no rfl rfl (L.nil (X.seqN (E.ret ?_)))))
  obtain rfl := Option.some.inj hm
  exact X.rt (.inl rfl) Try.results77 (Rs.tmp rfl Rs.nil) rfl ⟨_, (s17).ren N (fun _ => 0), rfl, rfl, m0.ren hNb, rfl⟩

theorem cf77 : Cf Try.prog 77 := Cf.mk Try.func77 (by kernel_rfl) (by kernel_rfl)
/-- What automaton.Run$1 computes. -/
noncomputable def m_automaton_Run_1 (q0 : List Int × Int × List Int × (List (Int × Int × Int))) (p0 : Int) : Option Bool :=
  (m_slices_Contains_int q0.1 p0).bind fun r5 =>
  some (!r5)
set_option maxRecDepth 100000 in
set_option maxHeartbeats 8000000 in
theorem m_automaton_Run_1_c {s : Sig} {q0 : List Int × Int × List Int × (List (Int × Int × Int))} {p0 : Int} {a1 : Option Addr} {c1 : Nat} {a2 : Option Addr} {c2 : Nat} {a3 : Option Addr} {c3 : Nat} {b4 : Nat} {r : Bool} (h1 : RdL (rK .i64) s a1 c1 q0.1) (h2 : RdL (rK .i64) s a2 c2 q0.2.2.1) (h3 : RdL (rP (rK .i64) (rP (rK .i64) (rK .i64))) s a3 c3 q0.2.2.2) (bx4 : Bx s 0 b4 #[.slice a1 q0.1.length c1, .int .i64 q0.2.1, .slice a2 q0.2.2.1.length c2, .slice a3 q0.2.2.2.length c3] 26) (hm : m_automaton_Run_1 q0 p0 = some r) :
    Calls Try.prog 66 #[.int .i64 p0, .pointer (some ⟨b4, 0, none⟩)] s.w (RetS No s fun v s' => v = .bool r) := by
 unfold m_automaton_Run_1 at hm
 obtain ⟨N, hN, hNb⟩ := s.fresh
 have m0 : Mv (Up N No) s s := Mv.refl _ _
 refine E.entry Try.func66 rfl Try.ntmps66 rfl rfl (E.seq (E.reg (L.as Wt.no rfl rfl (L.nil (X.seqN (E.seq (E.reg (L.fa fa26_0 Wt.no rfl rfl (L.ld (j := 0) bx4.mem nag23 Wt.no rfl rfl rfl rfl (L.mv Wt.no rfl rfl ?_))))))))))
 obtain ⟨r5, er5, hm⟩ := bindS hm
 refine L.ca cf23 rfl rfl Wt.no rfl (m_slices_Contains_int_c (s := s) (p0 := q0.1) (p1 := p0) h1 er5) rfl ?_
 rintro _ s6 m7 rfl
 replace m0 := m0.trans m7.no
 refine L.not Wt.no rfl rfl (L.as Wt.no rfl rfl (L.nil (X.seqN (E.ret ?_))))
 obtain rfl := Option.some.inj hm
 exact X.rt (.inl rfl) Try.results66 (Rs.tmp rfl Rs.nil) rfl ⟨_, (s6).ren N (fun _ => 0), rfl, rfl, m0.ren hNb, rfl⟩

end Go.Proofs.Ytkkemchihllklaa

namespace Go.Proofs.Ytkkemchihllklaa
open Go Go.RowKit
noncomputable def m_automaton_follow_l1 (p0 : List Int × Int × List Int × (List (Int × Int × Int))) (p2 : List Int) (st17 : Int × Int) : Option ((Int × Int) ⊕ (Int ⊕ (Int × Int))) :=
  if decide (st17.1 < (p2.length : Int)) then
    (idx p2 st17.1).bind fun x28 =>
    (m_automaton_next p0 st17.2 x28).bind fun r30 =>
    if decide (r30 < 0) then
      some (.inr (.inr (st17)))
    else
      some (.inl (W (st17.1 + 1), r30))
  else
    some (.inr (.inl st17.2))
/-- What automaton.follow computes. -/
noncomputable def m_automaton_follow (p0 : List Int × Int × List Int × (List (Int × Int × Int))) (p1 : Int) (p2 : List Int) : Option (Int × Int) :=
  (iter (m_automaton_follow_l1 p0 p2) (0, p1)).bind fun o17 =>
  match o17 with
  | .inl u22 =>
    some (u22, (p2.length : Int))
  | .inr (u25) =>
    some (u25.2, u25.1)
set_option maxRecDepth 100000 in
set_option maxHeartbeats 8000000 in
theorem m_automaton_follow_c {s : Sig} {p0 : List Int × Int × List Int × (List (Int × Int × Int))} {p1 : Int} {p2 : List Int} {a1 : Option Addr} {c1 : Nat} {a2 : Option Addr} {c2 : Nat} {a3 : Option Addr} {c3 : Nat} {a4 : Option Addr} {c4 : Nat} {r : Int × Int} (h1 : RdL (rK .i64) s a1 c1 p0.1) (h2 : RdL (rK .i64) s a2 c2 p0.2.2.1) (h3 : RdL (rP (rK .i64) (rP (rK .i64) (rK .i64))) s a3 c3 p0.2.2.2) (h4 : RdL (rK .i64) s a4 c4 p2) (hm : m_automaton_follow p0 p1 p2 = some r) :
    Calls Try.prog 67 #[.agg #[.slice a1 p0.1.length c1, .int .i64 p0.2.1, .slice a2 p0.2.2.1.length c2, .slice a3 p0.2.2.2.length c3], .int .i64 p1, .slice a4 p2.length c4] s.w (RetS No s fun v s' => v = .tuple #[.int .i64 r.1, .int .i64 r.2]) := by
 unfold m_automaton_follow at hm
 obtain ⟨N, hN, hNb⟩ := s.fresh
 have m0 : Mv (Up N No) s s := Mv.refl _ _
 refine E.entry Try.func67 rfl Try.ntmps67 rfl rfl (E.seq (E.reg (L.box (N + 0) Wt.no rfl rfl rfl fun b5 s6 m7 bx5 => ?_)))
 replace m0 := m0.trans m7.no
 replace h4 := h4.mono (m7.le no_No)
 replace h1 := h1.mono (m7.le no_No)
 replace h2 := h2.mono (m7.le no_No)
 replace h3 := h3.mono (m7.le no_No)
 refine L.as Wt.no rfl rfl (L.as Wt.no rfl rfl (L.nil (X.seqN (E.seq (E.seq (E.reg (L.mv Wt.no rfl rfl (L.len sl23 Wt.no rfl rfl (L.mv Wt.no rfl rfl (L.nil (X.seqN (E.block ?_))))))))))))
 obtain ⟨o17, eo17, hm⟩ := bindS hm
 refine E.cut (x := .exit 0) (fun e w => ∃ (s23 : Sig) (u22 : Int), o17 = .inl u22 ∧ Mv (Up N No) s s23 ∧ RdL (rK .i64) s23 a4 c4 p2 ∧ e = [(1, .int .i64 u22), (2, .slice a4 p2.length c4)] ∧ w = s23.w) ?_ ?_
 ·rintro _ _ ⟨s23, u22, rfl, m0, h4, rfl, rfl⟩
  dsimp only at hm
  refine X.blkE (X.seqN (E.seq (E.reg (L.mv Wt.no rfl rfl (L.mv Wt.no rfl rfl (L.len sl23 Wt.no rfl rfl (L.as Wt.no rfl rfl (L.as Wt.no rfl rfl (L.nil (X.seqN (E.ret ?_)))))))))))
  obtain rfl := Option.some.inj hm
  exact X.rt (.inl rfl) Try.results67 (Rs.tmp rfl (Rs.tmp rfl Rs.nil)) rfl ⟨_, (s23).ren N (fun _ => 0), rfl, rfl, m0.ren hNb, rfl⟩
 intro K24
 refine E.cut (x := .ret) (fun e w => ∃ (s26 : Sig) (u25 : Int × Int), o17 = .inr (u25) ∧ Mv (Up N No) s s26 ∧ e = [(7, .int .i64 u25.1), (6, .int .i64 u25.2)] ∧ w = s26.w) ?_ ?_
 ·rintro _ _ ⟨s26, u25, rfl, m0, rfl, rfl⟩
  dsimp only at hm
  refine X.blkR (X.seqR ?_)
  obtain rfl := Option.some.inj hm
  exact X.rt (.inl rfl) Try.results67 (Rs.tmp rfl (Rs.tmp rfl Rs.nil)) rfl ⟨_, (s26).ren N (fun _ => 0), rfl, rfl, m0.ren hNb, rfl⟩
 intro K27
 refine E.iter (fun (st17 : Int × Int) (e : List (Nat × Value)) (w : World) => ∃ (s21 : Sig), Mv (Up N No) s s21 ∧ RdL (rK .i64) s21 a4 c4 p2 ∧ RdL (rK .i64) s21 a1 c1 p0.1 ∧ RdL (rK .i64) s21 a2 c2 p0.2.2.1 ∧ RdL (rP (rK .i64) (rP (rK .i64) (rK .i64))) s21 a3 c3 p0.2.2.2 ∧ Bx s21 (N + 0) b5 #[.slice a1 p0.1.length c1, .int .i64 p0.2.1, .slice a2 p0.2.2.1.length c2, .slice a3 p0.2.2.2.length c3] 26 ∧ e = [(13, .int .i64 st17.1), (12, .int .i64 (p2.length : Int)), (11, .slice a4 p2.length c4), (3, .pointer (some ⟨b5, 0, none⟩)), (1, .int .i64 st17.2), (2, .slice a4 p2.length c4)] ∧ w = s21.w) eo17 ⟨s6, m0, h4, h1, h2, h3, bx5, rfl, rfl⟩ (Sub.rf rfl) ?_
 rintro st17 res17 hm ih17 ho17 _ _ ⟨s21, m0, h4, h1, h2, h3, bx5, rfl, rfl⟩
 unfold m_automaton_follow_l1 at hm
 refine E.seq (E.reg (L.bi Wt.no rfl rfl rfl rfl (L.nil (X.seqN (E.seq ?_)))))
 rcases ifS hm with ⟨hc, hm⟩ | ⟨hc, hm⟩
 ·refine E.cT rfl hc (E.skip (X.seqN (E.seq (E.block (E.seq (E.reg (L.mv Wt.no rfl rfl ?_)))))))
  obtain ⟨x28, ex28, hm⟩ := bindS hm
  refine L.ix (r := (rK .i64)) sl23 h4 Wt.no rfl rfl ex28 rfl fun b29 o29 cc29 me29 rd29 => ?_
  obtain rfl := rd29
  refine L.ld (j := 0) me29 nag3 Wt.no rfl rfl rfl rfl (L.as Wt.no rfl rfl (L.as Wt.no rfl rfl (L.nil (X.seqN (E.seq (E.reg (L.lg (j := 0) (cs := [.slice a1 p0.1.length c1, .int .i64 p0.2.1, .slice a2 p0.2.2.1.length c2, .slice a3 p0.2.2.2.length c3]) bx5.mem ag26 Wt.no rfl rfl rfl rfl rfl (L.mv Wt.no rfl rfl (L.mv Wt.no rfl rfl ?_)))))))))
  obtain ⟨r30, er30, hm⟩ := bindS hm
  refine L.ca cf77 rfl rfl Wt.no rfl (m_automaton_next_c (s := s21) (p0 := p0) (p1 := st17.2) (p2 := x28) h1 h2 h3 er30) rfl ?_
  rintro _ s31 m32 rfl
  replace m0 := m0.trans m32.no
  replace h4 := h4.mono (m32.le no_No)
  replace bx5 := bx5.mv m32 no_No
  replace h1 := h1.mono (m32.le no_No)
  replace h2 := h2.mono (m32.le no_No)
  replace h3 := h3.mono (m32.le no_No)
  refine L.as Wt.no rfl rfl (L.nil (X.seqN (E.seq (E.seq (E.reg (L.mv Wt.no rfl rfl (L.bi Wt.no rfl rfl rfl rfl (L.nil (X.seqN ?_)))))))))
  rcases ifS hm with ⟨hc, hm⟩ | ⟨hc, hm⟩
  ·refine E.cT rfl hc (E.seq (E.reg (L.mv Wt.no rfl rfl (L.mv Wt.no rfl rfl (L.as Wt.no rfl rfl (L.as Wt.no rfl rfl (L.nil (X.seqN (E.ret (X.seqR (X.blkR (X.seqR (X.seqR ?_)))))))))))))
   have hx := ho17 _ (Option.some.inj hm).symm
   exact X.sub (K27 _ _ ⟨s31, st17, hx.symm, m0, rfl, rfl⟩) (Sub.rf rfl)
  ·exact E.cF rfl hc (E.skip (X.seqN (E.reg (L.mv Wt.no rfl rfl (L.as Wt.no rfl rfl (L.nil (X.blkN (X.seqN (E.reg (L.bi Wt.no rfl rfl rfl rfl (L.mv Wt.no rfl rfl (L.nil (X.sub (ih17 _ (Option.some.inj hm).symm _ _ ⟨s31, m0, h4, h1, h2, h3, bx5, rfl, rfl⟩) (Sub.rf rfl))))))))))))))
 ·refine E.cF rfl hc (E.exit (X.seqX (X.seqX ?_)))
  have hx := ho17 _ (Option.some.inj hm).symm
  exact X.sub (K24 _ _ ⟨s21, st17.2, hx.symm, m0, h4, rfl, rfl⟩) (Sub.rf rfl)

theorem cf66 : Cf Try.prog 66 := Cf.mk Try.func66 (by kernel_rfl) (by kernel_rfl)
theorem cf67 : Cf Try.prog 67 := Cf.mk Try.func67 (by kernel_rfl) (by kernel_rfl)
/-- What automaton.Run computes. -/
noncomputable def m_automaton_Run (p0 : List Int × Int × List Int × (List (Int × Int × Int))) (p1 : Int) (p2 : List Int) : Option (Int × Int × Int) :=
  (m_automaton_checkState p0 p1).bind fun r8 =>
  if (r8 != 0) then
    some (0, 0, r8)
  else
    (m_slices_ContainsFunc_int p2 (m_automaton_Run_1 p0)).bind fun r13 =>
    if r13 then
      some (0, 0, 9)
    else
      (m_automaton_follow p0 p1 p2).bind fun r16 =>
      some (r16.1, r16.2, 0)
set_option maxRecDepth 100000 in
set_option maxHeartbeats 8000000 in
theorem m_automaton_Run_c {s : Sig} {p0 : List Int × Int × List Int × (List (Int × Int × Int))} {p1 : Int} {p2 : List Int} {a1 : Option Addr} {c1 : Nat} {a2 : Option Addr} {c2 : Nat} {a3 : Option Addr} {c3 : Nat} {a4 : Option Addr} {c4 : Nat} {r : Int × Int × Int} (h1 : RdL (rK .i64) s a1 c1 p0.1) (h2 : RdL (rK .i64) s a2 c2 p0.2.2.1) (h3 : RdL (rP (rK .i64) (rP (rK .i64) (rK .i64))) s a3 c3 p0.2.2.2) (h4 : RdL (rK .i64) s a4 c4 p2) (hm : m_automaton_Run p0 p1 p2 = some r) :
    Calls Try.prog 36 #[.agg #[.slice a1 p0.1.length c1, .int .i64 p0.2.1, .slice a2 p0.2.2.1.length c2, .slice a3 p0.2.2.2.length c3], .int .i64 p1, .slice a4 p2.length c4] s.w (RetS No s fun v s' => v = .tuple #[.int .i64 r.1, .int .i64 r.2.1, .int .i64 r.2.2]) := by
 unfold m_automaton_Run at hm
 obtain ⟨N, hN, hNb⟩ := s.fresh
 have m0 : Mv (Up N No) s s := Mv.refl _ _
 refine E.entry Try.func36 rfl Try.ntmps36 rfl rfl (E.seq (E.reg (L.box (N + 0) Wt.no rfl rfl rfl fun b5 s6 m7 bx5 => ?_)))
 replace m0 := m0.trans m7.no
 replace h4 := h4.mono (m7.le no_No)
 replace h1 := h1.mono (m7.le no_No)
 replace h2 := h2.mono (m7.le no_No)
 replace h3 := h3.mono (m7.le no_No)
 refine L.as Wt.no rfl rfl (L.as Wt.no rfl rfl (L.as Wt.no rfl rfl (L.nil (X.seqN (E.seq (E.seq (E.reg (L.lg (j := 0) (cs := [.slice a1 p0.1.length c1, .int .i64 p0.2.1, .slice a2 p0.2.2.1.length c2, .slice a3 p0.2.2.2.length c3]) bx5.mem ag26 Wt.no rfl rfl rfl rfl rfl (L.mv Wt.no rfl rfl ?_)))))))))
 obtain ⟨r8, er8, hm⟩ := bindS hm
 refine L.ca cf65 rfl rfl Wt.no rfl (m_automaton_checkState_c (s := s6) (p0 := p0) (p1 := p1) h1 h2 h3 er8) rfl ?_
 rintro _ s9 m10 rfl
 replace m0 := m0.trans m10.no
 replace h4 := h4.mono (m10.le no_No)
 replace bx5 := bx5.mv m10 no_No
 replace h1 := h1.mono (m10.le no_No)
 replace h2 := h2.mono (m10.le no_No)
 replace h3 := h3.mono (m10.le no_No)
 refine L.as Wt.no rfl rfl (L.nil (X.seqN (E.seq (E.reg (L.mv Wt.no rfl rfl (L.bi Wt.no rfl rfl rfl rfl (L.nil (X.seqN ?_))))))))
 rcases ifS hm with ⟨hc, hm⟩ | ⟨hc, hm⟩
 ·refine E.cT rfl hc (E.seq (E.reg (L.mv Wt.no rfl rfl (L.as Wt.no rfl rfl (L.as Wt.no rfl rfl (L.as Wt.no rfl rfl (L.nil (X.seqN (E.ret (X.seqR ?_))))))))))
  obtain rfl := Option.some.inj hm
  exact X.rt (.inl rfl) Try.results36 (Rs.tmp rfl (Rs.tmp rfl (Rs.tmp rfl Rs.nil))) rfl ⟨_, (s9).ren N (fun _ => 0), rfl, rfl, m0.ren hNb, rfl⟩
 ·refine E.cF rfl hc (E.skip (X.seqN (E.seq (E.seq (E.reg (L.mv Wt.no rfl rfl ?_))))))
  have m11 := Sig.fz_mv (N + 0) s9
  replace bx5 := bx5.fz (tgn hN)
  replace m0 := m0.trans (m11.one up)
  replace h4 := h4.mono (m11.le (tg0 hN))
  replace h1 := h1.mono (m11.le (tg0 hN))
  replace h2 := h2.mono (m11.le (tg0 hN))
  replace h3 := h3.mono (m11.le (tg0 hN))
  refine L.toR (s' := (Sig.fz (N + 0) s9)) rfl ?_
  have h12 : FV1 Try.prog (Sig.fz (N + 0) s9) (.func (.func 66) #[] #[.pointer (some ⟨b5, 0, none⟩)]) (fun (x0 : Int) => [.int .i64 x0]) (fun (r : Bool) => .bool r) (m_automaton_Run_1 p0) := ⟨66, #[], #[.pointer (some ⟨b5, 0, none⟩)], rfl, cf66, fun x0 r hm s' hl => by have hh := m_automaton_Run_1_c (s := s') (h1.mono hl) (h2.mono hl) (h3.mono hl) (bx5.le hl) hm; simpa using hh⟩
  refine L.mf Wt.no rfl rfl rfl ?_
  obtain ⟨r13, er13, hm⟩ := bindS hm
  refine L.ca cf29 rfl rfl Wt.no rfl (m_slices_ContainsFunc_int_c (s := (Sig.fz (N + 0) s9)) (p0 := p2) (p1 := (m_automaton_Run_1 p0)) h4 h12 er13) rfl ?_
  rintro _ s14 m15 rfl
  replace m0 := m0.trans m15.no
  replace h4 := h4.mono (m15.le no_No)
  replace bx5 := bx5.mv m15 no_No
  replace h1 := h1.mono (m15.le no_No)
  replace h2 := h2.mono (m15.le no_No)
  replace h3 := h3.mono (m15.le no_No)
  refine L.nil (X.seqN ?_)
  rcases ifS hm with ⟨hc, hm⟩ | ⟨hc, hm⟩
  ·refine E.cT rfl hc (E.seq (E.reg (L.as Wt.no rfl rfl (L.as Wt.no rfl rfl (L.as Wt.no rfl rfl (L.nil (X.seqN (E.ret (X.seqR ?_)))))))))
   obtain rfl := Option.some.inj hm
   exact X.rt (.inl rfl) Try.results36 (Rs.tmp rfl (Rs.tmp rfl (Rs.tmp rfl Rs.nil))) rfl ⟨_, (s14).ren N (fun _ => 0), rfl, rfl, m0.ren hNb, rfl⟩
  ·refine E.cF rfl hc (E.skip (X.seqN (E.seq (E.reg (L.lg (j := 0) (cs := [.slice a1 p0.1.length c1, .int .i64 p0.2.1, .slice a2 p0.2.2.1.length c2, .slice a3 p0.2.2.2.length c3]) bx5.mem ag26 Wt.no rfl rfl rfl rfl rfl (L.mv Wt.no rfl rfl (L.mv Wt.no rfl rfl ?_)))))))
   obtain ⟨r16, er16, hm⟩ := bindS hm
   refine L.ca cf67 rfl rfl Wt.no rfl (m_automaton_follow_c (s := s14) (p0 := p0) (p1 := p1) (p2 := p2) h1 h2 h3 h4 er16) rfl ?_
   rintro _ s17 m18 rfl
   replace m0 := m0.trans m18.no
   refine L.mv Wt.no rfl rfl (L.ex Wt.no rfl rfl rfl (L.ex Wt.no rfl rfl rfl (L.as Wt.no rfl rfl (L.as Wt.no rfl rfl (L.nil (X.seqN (E.seq (E.reg (L.mv Wt.no rfl rfl (L.mv Wt.no rfl rfl (L.as Wt.no rfl rfl (L.as Wt.no rfl rfl (L.as Wt.no rfl rfl (L.nil (X.seqN (E.ret ?_))))))))))))))))
   obtain rfl := Option.some.inj hm
   exact X.rt (.inl rfl) Try.results36 (Rs.tmp rfl (Rs.tmp rfl (Rs.tmp rfl Rs.nil))) rfl ⟨_, (s17).ren N (fun _ => 0), rfl, rfl, m0.ren hNb, rfl⟩

theorem cf36 : Cf Try.prog 36 := Cf.mk Try.func36 (by kernel_rfl) (by kernel_rfl)
noncomputable def m_overseerlaw53_GenerateWords_j1 (st129 : Int × List Bool × List Bool) (l137 : List Bool) (l139 : List Bool) : Option ((Int × List Bool × List Bool) ⊕ (Unit ⊕ Unit)) :=
  some (.inl (W (st129.1 + 1), l137, l139))
noncomputable def m_overseerlaw53_GenerateWords_l2 (r24 : ((Int × Int × Int × List Bool × (List (Int × Int))) × List Int × List Int × Int) × Int) (o70 : List Int) (r75 : Int × Int × Int) (st129 : Int × List Bool × List Bool) : Option ((Int × List Bool × List Bool) ⊕ (Unit ⊕ Unit)) :=
  if decide (st129.1 < (o70.length : Int)) then
    (idx o70 st129.1).bind fun x143 =>
    (m_generate_Scan r24.1 st129.2 ([x143] : List Int)).bind fun r148 =>
    (m_generate_Alarmed r24.1 r148.1).bind fun r155 =>
    if (((r148.2 != 0) || (r155.2 != 0)) || (r155.1 != (decide (st129.1 ≥ r75.2.1)))) then
      some (.inr (.inr (())))
    else
      if (st129.1 == (W (r75.2.1 - 1))) then
        (m_generate_State r24.1 r148.1).bind fun r160 =>
        if ((r160.2 != 0) || (r160.1 != r75.1)) then
          some (.inr (.inr (())))
        else
          m_overseerlaw53_GenerateWords_j1 st129 r148.1.1 r148.1.2
      else
        m_overseerlaw53_GenerateWords_j1 st129 r148.1.1 r148.1.2
  else
    some (.inr (.inl ()))
noncomputable def m_overseerlaw53_GenerateWords_l1 (p1 : List Int) (r12 : (List Int × Int × List Int × (List (Int × Int × Int))) × List Int) (st70 : Int × List Int) : Option ((Int × List Int) ⊕ (List Int)) :=
  if decide (st70.1 < (p1.length : Int)) then
    (idx p1 st70.1).bind fun x169 =>
    (nz (r12.1.1.length : Int)).bind fun _ =>
    (idx r12.1.1 ((W x169).tmod (r12.1.1.length : Int))).bind fun x182 =>
    (app st70.2 ([x182] : List Int)).bind fun x190 =>
    some (.inl (W (st70.1 + 1), x190))
  else
    some (.inr st70.2)
/-- What overseerlaw53.GenerateWords computes. -/
noncomputable def m_overseerlaw53_GenerateWords (p0 : Int × (Int × Int × ((Int × Int × Int × Int × Int) × (Int × Int × Int × Int × Int) × (Int × Int × Int × Int × Int) × (Int × Int × Int × Int × Int) × (Int × Int × Int × Int × Int))) × Int) (p1 : List Int) : Option Bool :=
  (m_overseerlaw53_known).bind fun r5 =>
  if ((!r5) || (decide ((p1.length : Int) > 12))) then
    (m_overseerlaw53_known).bind fun r9 =>
    some r9
  else
    (m_overseerlaw53_Make p0).bind fun r12 =>
    (m_generate_Generate r12.1 r12.2).bind fun r24 =>
    if ((r24.2 != 0) || ((r12.1.1.length : Int) == 0)) then
      some (r24.2 == 0)
    else
      (iter (m_overseerlaw53_GenerateWords_l1 p1 r12) (0, ([] : List Int))).bind fun o70 =>
      (m_automaton_Run r12.1 0 o70).bind fun r75 =>
      (m_instruction_Start r24.1.1).bind fun r78 =>
      if ((r75.2.2 != 0) || (r78.2 != 0)) then
        some false
      else
        (iter (m_overseerlaw53_GenerateWords_l2 r24 o70 r75) (0, r78.1)).bind fun o129 =>
        match o129 with
        | .inl u131 =>
          some true
        | .inr (u134) =>
          some false
set_option maxRecDepth 100000 in
set_option maxHeartbeats 8000000 in
theorem m_overseerlaw53_GenerateWords_c {s : Sig} {p0 : Int × (Int × Int × ((Int × Int × Int × Int × Int) × (Int × Int × Int × Int × Int) × (Int × Int × Int × Int × Int) × (Int × Int × Int × Int × Int) × (Int × Int × Int × Int × Int))) × Int} {p1 : List Int} {a1 : Option Addr} {c1 : Nat} {r : Bool} (h1 : RdL (rK .u8) s a1 c1 p1) (hm : m_overseerlaw53_GenerateWords p0 p1 = some r) :
    Calls Try.prog 9 #[.agg #[.int .u8 p0.1, .int .u8 p0.2.1.1, .int .u8 p0.2.1.2.1, .int .u8 p0.2.1.2.2.1.1, .int .u8 p0.2.1.2.2.1.2.1, .int .u8 p0.2.1.2.2.1.2.2.1, .int .u8 p0.2.1.2.2.1.2.2.2.1, .int .u8 p0.2.1.2.2.1.2.2.2.2, .int .u8 p0.2.1.2.2.2.1.1, .int .u8 p0.2.1.2.2.2.1.2.1, .int .u8 p0.2.1.2.2.2.1.2.2.1, .int .u8 p0.2.1.2.2.2.1.2.2.2.1, .int .u8 p0.2.1.2.2.2.1.2.2.2.2, .int .u8 p0.2.1.2.2.2.2.1.1, .int .u8 p0.2.1.2.2.2.2.1.2.1, .int .u8 p0.2.1.2.2.2.2.1.2.2.1, .int .u8 p0.2.1.2.2.2.2.1.2.2.2.1, .int .u8 p0.2.1.2.2.2.2.1.2.2.2.2, .int .u8 p0.2.1.2.2.2.2.2.1.1, .int .u8 p0.2.1.2.2.2.2.2.1.2.1, .int .u8 p0.2.1.2.2.2.2.2.1.2.2.1, .int .u8 p0.2.1.2.2.2.2.2.1.2.2.2.1, .int .u8 p0.2.1.2.2.2.2.2.1.2.2.2.2, .int .u8 p0.2.1.2.2.2.2.2.2.1, .int .u8 p0.2.1.2.2.2.2.2.2.2.1, .int .u8 p0.2.1.2.2.2.2.2.2.2.2.1, .int .u8 p0.2.1.2.2.2.2.2.2.2.2.2.1, .int .u8 p0.2.1.2.2.2.2.2.2.2.2.2.2, .int .u8 p0.2.2], .slice a1 p1.length c1] s.w (RetS No s fun v s' => v = .bool r) := by
 unfold m_overseerlaw53_GenerateWords at hm
 obtain ⟨N, hN, hNb⟩ := s.fresh
 have m0 : Mv (Up N No) s s := Mv.refl _ _
 refine E.entry Try.func9 rfl Try.ntmps9 rfl rfl (E.seq (E.reg (L.box (N + 0) Wt.no rfl rfl rfl fun b2 s3 m4 bx2 => ?_)))
 replace m0 := m0.trans m4.no
 replace h1 := h1.mono (m4.le no_No)
 refine L.as Wt.no rfl rfl (L.nil (X.seqN (E.seq (E.seq (E.reg ?_)))))
 obtain ⟨r5, er5, hm⟩ := bindS hm
 refine L.ca cf11 rfl rfl Wt.no rfl (m_overseerlaw53_known_c (s := s3) er5) rfl ?_
 rintro _ s6 m7 rfl
 replace m0 := m0.trans m7.no
 replace h1 := h1.mono (m7.le no_No)
 replace bx2 := bx2.mv m7 no_No
 refine L.not Wt.no rfl rfl (L.mv Wt.no rfl rfl (L.cut 4 (fun e w => ∃ (v8 : Bool), ((!r5) || (decide ((p1.length : Int) > 12))) = v8 ∧ e = (29, .bool v8) :: [(2, .pointer (some ⟨b2, 0, none⟩)), (1, .slice a1 p1.length c1)] ∧ w = s6.w) ?_ ?_))
 ·rintro _ _ ⟨v8, rfl, rfl, rfl⟩
  refine L.nil (X.seqN ?_)
  rcases ifS hm with ⟨hc, hm⟩ | ⟨hc, hm⟩
  ·refine E.cT rfl hc (E.seq (E.reg ?_))
   obtain ⟨r9, er9, hm⟩ := bindS hm
   refine L.ca cf11 rfl rfl Wt.no rfl (m_overseerlaw53_known_c (s := s6) er9) rfl ?_
   rintro _ s10 m11 rfl
   replace m0 := m0.trans m11.no
   refine L.as Wt.no rfl rfl (L.nil (X.seqN (E.ret (X.seqR ?_))))
   obtain rfl := Option.some.inj hm
   exact X.rt (.inl rfl) Try.results9 (Rs.tmp rfl Rs.nil) rfl ⟨_, (s10).ren N (fun _ => 0), rfl, rfl, m0.ren hNb, rfl⟩
  ·refine E.cF rfl hc (E.skip (X.seqN (E.seq (E.reg (L.lg (j := 0) (cs := [.int .u8 p0.1, .int .u8 p0.2.1.1, .int .u8 p0.2.1.2.1, .int .u8 p0.2.1.2.2.1.1, .int .u8 p0.2.1.2.2.1.2.1, .int .u8 p0.2.1.2.2.1.2.2.1, .int .u8 p0.2.1.2.2.1.2.2.2.1, .int .u8 p0.2.1.2.2.1.2.2.2.2, .int .u8 p0.2.1.2.2.2.1.1, .int .u8 p0.2.1.2.2.2.1.2.1, .int .u8 p0.2.1.2.2.2.1.2.2.1, .int .u8 p0.2.1.2.2.2.1.2.2.2.1, .int .u8 p0.2.1.2.2.2.1.2.2.2.2, .int .u8 p0.2.1.2.2.2.2.1.1, .int .u8 p0.2.1.2.2.2.2.1.2.1, .int .u8 p0.2.1.2.2.2.2.1.2.2.1, .int .u8 p0.2.1.2.2.2.2.1.2.2.2.1, .int .u8 p0.2.1.2.2.2.2.1.2.2.2.2, .int .u8 p0.2.1.2.2.2.2.2.1.1, .int .u8 p0.2.1.2.2.2.2.2.1.2.1, .int .u8 p0.2.1.2.2.2.2.2.1.2.2.1, .int .u8 p0.2.1.2.2.2.2.2.1.2.2.2.1, .int .u8 p0.2.1.2.2.2.2.2.1.2.2.2.2, .int .u8 p0.2.1.2.2.2.2.2.2.1, .int .u8 p0.2.1.2.2.2.2.2.2.2.1, .int .u8 p0.2.1.2.2.2.2.2.2.2.2.1, .int .u8 p0.2.1.2.2.2.2.2.2.2.2.2.1, .int .u8 p0.2.1.2.2.2.2.2.2.2.2.2.2, .int .u8 p0.2.2]) bx2.mem ag51 Wt.no rfl rfl rfl rfl rfl ?_)))))
   obtain ⟨r12, er12, hm⟩ := bindS hm
   refine L.ca cf16 rfl rfl Wt.no rfl (m_overseerlaw53_Make_c (s := s6) (p0 := p0) (u3 := 0) er12) rfl ?_
   rintro _ s13 m14 ⟨a15, c15, a16, c16, a17, c17, a18, c18, rfl, h15, h16, h17, h18⟩
   replace h18 := h18.p
   replace m0 := m0.trans m14.no
   replace h1 := h1.mono (m14.le no_No)
   refine L.mv Wt.no rfl rfl (L.ex Wt.no rfl rfl rfl (L.ex Wt.no rfl rfl rfl (L.al (N + 1) zz26 rfl Wt.no rfl fun b19 s20 m21 bx19 => ?_)))
   replace m0 := m0.trans m21.no
   replace h1 := h1.mono (m21.le no_No)
   replace h15 := h15.mono (m21.le no_No)
   replace h16 := h16.mono (m21.le no_No)
   replace h17 := h17.mono (m21.le no_No)
   replace h18 := h18.mono (m21.le no_No)
   refine L.st (c := [.slice a15 r12.1.1.length c15, .int .i64 r12.1.2.1, .slice a16 r12.1.2.2.1.length c16, .slice a17 r12.1.2.2.2.length c17]) (cs' := #[.slice a15 r12.1.1.length c15, .int .i64 r12.1.2.1, .slice a16 r12.1.2.2.1.length c16, .slice a17 r12.1.2.2.2.length c17]) bx19 ag26.sz Wt.no rfl rfl rfl rfl rfl (Nat.le_of_ble_eq_true rfl) rfl fun s22 m23 bx19 => ?_
   replace m0 := m0.trans (m23.one up)
   replace h1 := h1.mono (m23.le (tg0 hN))
   replace h18 := h18.mono (m23.le (tg0 hN))
   replace h15 := h15.mono (m23.le (tg0 hN))
   replace h16 := h16.mono (m23.le (tg0 hN))
   replace h17 := h17.mono (m23.le (tg0 hN))
   refine L.as Wt.no rfl rfl (L.nil (X.seqN (E.seq (E.reg (L.lg (j := 0) (cs := [.slice a15 r12.1.1.length c15, .int .i64 r12.1.2.1, .slice a16 r12.1.2.2.1.length c16, .slice a17 r12.1.2.2.2.length c17]) bx19.mem ag26 Wt.no rfl rfl rfl rfl rfl (L.mv Wt.no rfl rfl ?_))))))
   obtain ⟨r24, er24, hm⟩ := bindS hm
   refine L.ca cf12 rfl rfl Wt.no rfl (m_generate_Generate_c (s := s22) (p0 := r12.1) (p1 := r12.2) (u0 := 0) (u1 := 0) (u2 := 0) (u3 := 0) h15 h16 h17 h18 er24) rfl ?_
   rintro _ s25 m26 ⟨a27, c27, a28, c28, a29, c29, a30, c30, rfl, h27, h28, h29, h30⟩
   replace h27 := h27.p
   replace h28 := h28.p
   replace h29 := h29.p
   replace h30 := h30.p
   replace m0 := m0.trans m26.no
   replace h1 := h1.mono (m26.le no_No)
   replace bx19 := bx19.mv m26 no_No
   replace h15 := h15.mono (m26.le no_No)
   replace h16 := h16.mono (m26.le no_No)
   replace h17 := h17.mono (m26.le no_No)
   refine L.mv Wt.no rfl rfl (L.ex Wt.no rfl rfl rfl (L.ex Wt.no rfl rfl rfl (L.al (N + 2) zz34 rfl Wt.no rfl fun b31 s32 m33 bx31 => ?_)))
   replace m0 := m0.trans m33.no
   replace h1 := h1.mono (m33.le no_No)
   replace h27 := h27.mono (m33.le no_No)
   replace h28 := h28.mono (m33.le no_No)
   replace h29 := h29.mono (m33.le no_No)
   replace h30 := h30.mono (m33.le no_No)
   replace bx19 := bx19.mv m33 no_No
   replace h15 := h15.mono (m33.le no_No)
   replace h16 := h16.mono (m33.le no_No)
   replace h17 := h17.mono (m33.le no_No)
   refine L.st (c := [.int .i64 r24.1.1.1, .int .i64 r24.1.1.2.1, .int .i64 r24.1.1.2.2.1, .slice a27 r24.1.1.2.2.2.1.length c27, .slice a28 r24.1.1.2.2.2.2.length c28, .slice a29 r24.1.2.1.length c29, .slice a30 r24.1.2.2.1.length c30, .int .i64 r24.1.2.2.2]) (cs' := #[.int .i64 r24.1.1.1, .int .i64 r24.1.1.2.1, .int .i64 r24.1.1.2.2.1, .slice a27 r24.1.1.2.2.2.1.length c27, .slice a28 r24.1.1.2.2.2.2.length c28, .slice a29 r24.1.2.1.length c29, .slice a30 r24.1.2.2.1.length c30, .int .i64 r24.1.2.2.2]) bx31 ag34.sz Wt.no rfl rfl rfl rfl rfl (Nat.le_of_ble_eq_true rfl) rfl fun s34 m35 bx31 => ?_
   replace m0 := m0.trans (m35.one up)
   replace h1 := h1.mono (m35.le (tg0 hN))
   replace bx19 := bx19.mv m35 (tgN (by decide))
   replace h15 := h15.mono (m35.le (tg0 hN))
   replace h16 := h16.mono (m35.le (tg0 hN))
   replace h17 := h17.mono (m35.le (tg0 hN))
   replace h27 := h27.mono (m35.le (tg0 hN))
   replace h28 := h28.mono (m35.le (tg0 hN))
   replace h29 := h29.mono (m35.le (tg0 hN))
   replace h30 := h30.mono (m35.le (tg0 hN))
   refine L.as Wt.no rfl rfl (L.nil (X.seqN (E.seq (E.seq (E.reg (L.mv Wt.no rfl rfl (L.bi Wt.no rfl rfl rfl rfl (L.mv Wt.no rfl rfl (L.cut 5 (fun e w => ∃ (v36 : Bool), ((r24.2 != 0) || ((r12.1.1.length : Int) == 0)) = v36 ∧ e = (49, .bool v36) :: [(8, .int .i64 r24.2), (7, .pointer (some ⟨b31, 0, none⟩)), (5, .pointer (some ⟨b19, 0, none⟩)), (1, .slice a1 p1.length c1)] ∧ w = s34.w) ?_ ?_)))))))))
   ·rintro _ _ ⟨v36, rfl, rfl, rfl⟩
    refine L.nil (X.seqN ?_)
    rcases ifS hm with ⟨hc, hm⟩ | ⟨hc, hm⟩
    ·refine E.cT rfl hc (E.seq (E.reg (L.mv Wt.no rfl rfl (L.bi Wt.no rfl rfl rfl rfl (L.as Wt.no rfl rfl (L.nil (X.seqN (E.ret (X.seqR ?_)))))))))
     obtain rfl := Option.some.inj hm
     exact X.rt (.inl rfl) Try.results9 (Rs.tmp rfl Rs.nil) rfl ⟨_, (s34).ren N (fun _ => 0), rfl, rfl, m0.ren hNb, rfl⟩
    ·refine E.cF rfl hc (E.skip (X.seqN (E.seq (E.reg (L.as Wt.no rfl rfl (L.nil (X.seqN (E.seq (E.seq (E.reg (L.mv Wt.no rfl rfl (L.len sl52 Wt.no rfl rfl (L.mv Wt.no rfl rfl (L.nil (X.seqN (E.block ?_))))))))))))))))
     obtain ⟨o70, eo70, hm⟩ := bindS hm
     refine E.cut (x := .exit 0) (fun e w => ∃ (s74 : Sig) (a72 : Option Addr) (c72 : Nat), Mv (Up N No) s s74 ∧ RowT (rK .i64) s74 (N + 3) 3 a72 c72 o70 ∧ RdL (rK .i64) s74 a15 c15 r12.1.1 ∧ RdL (rK .i64) s74 a16 c16 r12.1.2.2.1 ∧ RdL (rP (rK .i64) (rP (rK .i64) (rK .i64))) s74 a17 c17 r12.1.2.2.2 ∧ RdL rB s74 a27 c27 r24.1.1.2.2.2.1 ∧ RdL (rP (rK .i64) (rK .i64)) s74 a28 c28 r24.1.1.2.2.2.2 ∧ RdL (rK .i64) s74 a29 c29 r24.1.2.1 ∧ RdL (rK .i64) s74 a30 c30 r24.1.2.2.1 ∧ Bx s74 (N + 1) b19 #[.slice a15 r12.1.1.length c15, .int .i64 r12.1.2.1, .slice a16 r12.1.2.2.1.length c16, .slice a17 r12.1.2.2.2.length c17] 26 ∧ Bx s74 (N + 2) b31 #[.int .i64 r24.1.1.1, .int .i64 r24.1.1.2.1, .int .i64 r24.1.1.2.2.1, .slice a27 r24.1.1.2.2.2.1.length c27, .slice a28 r24.1.1.2.2.2.2.length c28, .slice a29 r24.1.2.1.length c29, .slice a30 r24.1.2.2.1.length c30, .int .i64 r24.1.2.2.2] 34 ∧ e = [(9, .slice a72 o70.length c72), (7, .pointer (some ⟨b31, 0, none⟩)), (5, .pointer (some ⟨b19, 0, none⟩))] ∧ w = s74.w) ?_ ?_
     ·rintro _ _ ⟨s74, a72, c72, m0, h72, h15, h16, h17, h27, h28, h29, h30, bx19, bx31, rfl, rfl⟩
      refine X.blkE (X.seqN (E.seq (E.reg (L.lg (j := 0) (cs := [.slice a15 r12.1.1.length c15, .int .i64 r12.1.2.1, .slice a16 r12.1.2.2.1.length c16, .slice a17 r12.1.2.2.2.length c17]) bx19.mem ag26 Wt.no rfl rfl rfl rfl rfl (L.mv Wt.no rfl rfl ?_)))))
      obtain ⟨r75, er75, hm⟩ := bindS hm
      refine L.ca cf36 rfl rfl Wt.no rfl (Calls.lendG (s0 := (Sig.drop N s74)) (s := s74) rfl (m_automaton_Run_c (s := (Sig.drop N s74)) (p0 := r12.1) (p1 := 0) (p2 := o70) (h15.mono (Sig.drop_le N _)) (h16.mono (Sig.drop_le N _)) (h17.mono (Sig.drop_le N _)) (h72.drop (Nat.le_add_right _ _)) er75) (fun v s' h => h)) rfl ?_
      rintro _ s76 m77 rfl
      replace m0 := m0.trans m77.no
      replace h72 := h72.mv m77 no_No no_No
      replace bx31 := bx31.mv m77 no_No
      replace h27 := h27.mono (m77.le no_No)
      replace h28 := h28.mono (m77.le no_No)
      replace h29 := h29.mono (m77.le no_No)
      replace h30 := h30.mono (m77.le no_No)
      refine L.mv Wt.no rfl rfl (L.ex Wt.no rfl rfl rfl (L.ex Wt.no rfl rfl rfl (L.ex Wt.no rfl rfl rfl (L.as Wt.no rfl rfl (L.as Wt.no rfl rfl (L.as Wt.no rfl rfl (L.nil (X.seqN (E.seq (E.reg (L.fa fa34_0 Wt.no rfl rfl (L.lg (j := 0) (cs := [.int .i64 r24.1.1.1, .int .i64 r24.1.1.2.1, .int .i64 r24.1.1.2.2.1, .slice a27 r24.1.1.2.2.2.1.length c27, .slice a28 r24.1.1.2.2.2.2.length c28]) bx31.mem ag32 Wt.no rfl rfl rfl rfl rfl ?_))))))))))))
      obtain ⟨r78, er78, hm⟩ := bindS hm
      refine L.ca cf13 rfl rfl Wt.no rfl (m_instruction_Start_c (s := s76) (p0 := r24.1.1) (u0 := 0) (u1 := 0) h27 h28 er78) rfl ?_
      rintro _ s79 m80 ⟨a81, c81, a82, c82, rfl, h81, h82⟩
      replace h81 := h81.p
      replace h82 := h82.p
      replace m0 := m0.trans m80.no
      replace h72 := h72.mv m80 no_No no_No
      replace bx31 := bx31.mv m80 no_No
      replace h27 := h27.mono (m80.le no_No)
      replace h28 := h28.mono (m80.le no_No)
      replace h29 := h29.mono (m80.le no_No)
      replace h30 := h30.mono (m80.le no_No)
      refine L.mv Wt.no rfl rfl (L.ex Wt.no rfl rfl rfl (L.ex Wt.no rfl rfl rfl (L.al (N + 4) zz39 rfl Wt.no rfl fun b83 s84 m85 bx83 => ?_)))
      replace m0 := m0.trans m85.no
      replace h72 := h72.mv m85 no_No no_No
      replace h81 := h81.mono (m85.le no_No)
      replace h82 := h82.mono (m85.le no_No)
      replace bx31 := bx31.mv m85 no_No
      replace h27 := h27.mono (m85.le no_No)
      replace h28 := h28.mono (m85.le no_No)
      replace h29 := h29.mono (m85.le no_No)
      replace h30 := h30.mono (m85.le no_No)
      refine L.st (c := [.slice a81 r78.1.1.length c81, .slice a82 r78.1.2.length c82]) (cs' := #[.slice a81 r78.1.1.length c81, .slice a82 r78.1.2.length c82]) bx83 ag39.sz Wt.no rfl rfl rfl rfl rfl (Nat.le_of_ble_eq_true rfl) rfl fun s86 m87 bx83 => ?_
      replace m0 := m0.trans (m87.one up)
      replace h72 := h72.mv m87 (tgN (by decide)) (tg0 hN)
      replace bx31 := bx31.mv m87 (tgN (by decide))
      replace h27 := h27.mono (m87.le (tg0 hN))
      replace h28 := h28.mono (m87.le (tg0 hN))
      replace h29 := h29.mono (m87.le (tg0 hN))
      replace h30 := h30.mono (m87.le (tg0 hN))
      replace h81 := h81.mono (m87.le (tg0 hN))
      replace h82 := h82.mono (m87.le (tg0 hN))
      refine L.as Wt.no rfl rfl (L.nil (X.seqN (E.seq (E.seq (E.reg (L.mv Wt.no rfl rfl (L.bi Wt.no rfl rfl rfl rfl (L.mv Wt.no rfl rfl (L.cut 3 (fun e w => ∃ (v88 : Bool), ((r75.2.2 != 0) || (r78.2 != 0)) = v88 ∧ e = (90, .bool v88) :: [(15, .pointer (some ⟨b83, 0, none⟩)), (13, .int .i64 r75.2.1), (12, .int .i64 r75.1), (9, .slice a72 o70.length c72), (7, .pointer (some ⟨b31, 0, none⟩))] ∧ w = s86.w) ?_ ?_)))))))))
      ·rintro _ _ ⟨v88, rfl, rfl, rfl⟩
       refine L.nil (X.seqN ?_)
       rcases ifS hm with ⟨hc, hm⟩ | ⟨hc, hm⟩
       ·refine E.cT rfl hc (E.seq (E.reg (L.as Wt.no rfl rfl (L.nil (X.seqN (E.ret (X.seqR ?_)))))))
        obtain rfl := Option.some.inj hm
        exact X.rt (.inl rfl) Try.results9 (Rs.tmp rfl Rs.nil) rfl ⟨_, (s86).ren N (fun _ => 0), rfl, rfl, m0.ren hNb, rfl⟩
       ·refine E.cF rfl hc (E.skip (X.seqN (E.seq (E.seq (E.reg (L.mv Wt.no rfl rfl (L.len sl23 Wt.no rfl rfl (L.mv Wt.no rfl rfl (L.nil (X.seqN (E.block ?_)))))))))))
        obtain ⟨o129, eo129, hm⟩ := bindS hm
        refine E.cut (x := .exit 2) (fun e w => ∃ (s132 : Sig) (u131 : Unit), o129 = .inl u131 ∧ Mv (Up N No) s s132 ∧ e = [] ∧ w = s132.w) ?_ ?_
        ·rintro _ _ ⟨s132, u131, rfl, m0, rfl, rfl⟩
         dsimp only at hm
         refine X.blkE (X.seqN (E.seq (E.reg (L.as Wt.no rfl rfl (L.nil (X.seqN (E.ret ?_)))))))
         obtain rfl := Option.some.inj hm
         exact X.rt (.inl rfl) Try.results9 (Rs.tmp rfl Rs.nil) rfl ⟨_, (s132).ren N (fun _ => 0), rfl, rfl, m0.ren hNb, rfl⟩
        intro K133
        refine E.cut (x := .ret) (fun e w => ∃ (s135 : Sig) (u134 : Unit), o129 = .inr (u134) ∧ Mv (Up N No) s s135 ∧ e = [(4, .bool false)] ∧ w = s135.w) ?_ ?_
        ·rintro _ _ ⟨s135, u134, rfl, m0, rfl, rfl⟩
         dsimp only at hm
         refine X.blkR (X.seqR ?_)
         obtain rfl := Option.some.inj hm
         exact X.rt (.inl rfl) Try.results9 (Rs.tmp rfl Rs.nil) rfl ⟨_, (s135).ren N (fun _ => 0), rfl, rfl, m0.ren hNb, rfl⟩
        intro K136
        refine E.iter (fun (st129 : Int × List Bool × List Bool) (e : List (Nat × Value)) (w : World) => ∃ (s130 : Sig) (a91 : Option Addr) (c91 : Nat) (a93 : Option Addr) (c93 : Nat), Mv (Up N No) s s130 ∧ RowT (rK .i64) s130 (N + 3) 3 a72 c72 o70 ∧ RdL rB s130 a27 c27 r24.1.1.2.2.2.1 ∧ RdL (rP (rK .i64) (rK .i64)) s130 a28 c28 r24.1.1.2.2.2.2 ∧ RdL (rK .i64) s130 a29 c29 r24.1.2.1 ∧ RdL (rK .i64) s130 a30 c30 r24.1.2.2.1 ∧ RdL rB s130 a91 c91 st129.2.1 ∧ RdL rB s130 a93 c93 st129.2.2 ∧ Bx s130 (N + 2) b31 #[.int .i64 r24.1.1.1, .int .i64 r24.1.1.2.1, .int .i64 r24.1.1.2.2.1, .slice a27 r24.1.1.2.2.2.1.length c27, .slice a28 r24.1.1.2.2.2.2.length c28, .slice a29 r24.1.2.1.length c29, .slice a30 r24.1.2.2.1.length c30, .int .i64 r24.1.2.2.2] 34 ∧ Bx s130 (N + 4) b83 #[.slice a91 st129.2.1.length c91, .slice a93 st129.2.2.length c93] 39 ∧ e = [(93, .int .i64 st129.1), (92, .int .i64 (o70.length : Int)), (91, .slice a72 o70.length c72), (15, .pointer (some ⟨b83, 0, none⟩)), (13, .int .i64 r75.2.1), (12, .int .i64 r75.1), (7, .pointer (some ⟨b31, 0, none⟩))] ∧ w = s130.w) eo129 ⟨s86, a81, c81, a82, c82, m0, h72, h27, h28, h29, h30, h81, h82, bx31, bx83, rfl, rfl⟩ (Sub.rf rfl) ?_
        rintro st129 res129 hm ih129 ho129 _ _ ⟨s130, a91, c91, a93, c93, m0, h72, h27, h28, h29, h30, h91, h93, bx31, bx83, rfl, rfl⟩
        unfold m_overseerlaw53_GenerateWords_l2 at hm
        refine E.seq (E.reg (L.bi Wt.no rfl rfl rfl rfl (L.nil (X.seqN (E.seq ?_)))))
        rcases ifS hm with ⟨hc, hm⟩ | ⟨hc, hm⟩
        ·refine E.cT rfl hc (E.skip (X.seqN (E.seqJ (fun e w => ∃ (s141 : Sig) (l137 : List Bool) (l139 : List Bool) (a138 : Option Addr) (c138 : Nat) (a140 : Option Addr) (c140 : Nat), m_overseerlaw53_GenerateWords_j1 st129 l137 l139 = some res129 ∧ Mv (Up N No) s s141 ∧ RowT (rK .i64) s141 (N + 3) 3 a72 c72 o70 ∧ RdL rB s141 a27 c27 r24.1.1.2.2.2.1 ∧ RdL (rP (rK .i64) (rK .i64)) s141 a28 c28 r24.1.1.2.2.2.2 ∧ RdL (rK .i64) s141 a29 c29 r24.1.2.1 ∧ RdL (rK .i64) s141 a30 c30 r24.1.2.2.1 ∧ RdL rB s141 a138 c138 l137 ∧ RdL rB s141 a140 c140 l139 ∧ Bx s141 (N + 2) b31 #[.int .i64 r24.1.1.1, .int .i64 r24.1.1.2.1, .int .i64 r24.1.1.2.2.1, .slice a27 r24.1.1.2.2.2.1.length c27, .slice a28 r24.1.1.2.2.2.2.length c28, .slice a29 r24.1.2.1.length c29, .slice a30 r24.1.2.2.1.length c30, .int .i64 r24.1.2.2.2] 34 ∧ Bx s141 (N + 4) b83 #[.slice a138 l137.length c138, .slice a140 l139.length c140] 39 ∧ e = [(93, .int .i64 st129.1), (92, .int .i64 (o70.length : Int)), (91, .slice a72 o70.length c72), (15, .pointer (some ⟨b83, 0, none⟩)), (13, .int .i64 r75.2.1), (12, .int .i64 r75.1), (7, .pointer (some ⟨b31, 0, none⟩))] ∧ w = s141.w) ?_ ?_)))
         ·rintro _ _ ⟨s141, l137, l139, a138, c138, a140, c140, hm, m0, h72, h27, h28, h29, h30, h138, h140, bx31, bx83, rfl, rfl⟩
          unfold m_overseerlaw53_GenerateWords_j1 at hm
          exact E.reg (L.bi Wt.no rfl rfl rfl rfl (L.mv Wt.no rfl rfl (L.nil (X.sub (ih129 _ (Option.some.inj hm).symm _ _ ⟨s141, a138, c138, a140, c140, m0, h72, h27, h28, h29, h30, h138, h140, bx31, bx83, rfl, rfl⟩) (Sub.rf rfl)))))
         ·intro Jj142
          refine E.block (E.seq (E.reg (L.mv Wt.no rfl rfl ?_)))
          obtain ⟨x143, ex143, hm⟩ := bindS hm
          refine L.ir (r := (rK .i64)) sl23 h72 Wt.no rfl rfl ex143 rfl fun b144 o144 cc144 me144 rd144 sp144 => ?_
          obtain rfl := rd144
          refine L.ld (j := 0) me144 nag3 Wt.no rfl rfl rfl rfl (L.as Wt.no rfl rfl (L.as Wt.no rfl rfl (L.nil (X.seqN (E.seq (E.reg (L.lg (j := 0) (cs := [.int .i64 r24.1.1.1, .int .i64 r24.1.1.2.1, .int .i64 r24.1.1.2.2.1, .slice a27 r24.1.1.2.2.2.1.length c27, .slice a28 r24.1.1.2.2.2.2.length c28, .slice a29 r24.1.2.1.length c29, .slice a30 r24.1.2.2.1.length c30, .int .i64 r24.1.2.2.2]) bx31.mem ag34 Wt.no rfl rfl rfl rfl rfl (L.lg (j := 0) (cs := [.slice a91 st129.2.1.length c91, .slice a93 st129.2.2.length c93]) bx83.mem ag39 Wt.no rfl rfl rfl rfl rfl (L.mv Wt.no rfl rfl (L.bsE (k := 1) (cs := [.int .i64 x143]) 0 bs23 (Nat.le_of_ble_eq_true rfl) Wt.no rfl rfl rfl rfl fun b145 s146 m147 bx145 => ?_))))))))))
          replace m0 := m0.trans m147.no
          replace h27 := h27.mono (m147.le no_No)
          replace h28 := h28.mono (m147.le no_No)
          replace h29 := h29.mono (m147.le no_No)
          replace h30 := h30.mono (m147.le no_No)
          replace h91 := h91.mono (m147.le no_No)
          replace h93 := h93.mono (m147.le no_No)
          replace h72 := h72.mv m147 no_No no_No
          replace bx31 := bx31.mv m147 no_No
          replace bx83 := bx83.mv m147 no_No
          have h145 := Bx.rdL (r := (rK .i64)) (xs := ([x143] : List Int)) bx145 ⟨[.int .i64 x143], _, rfl, rfl, rfl⟩ (Nat.le_of_ble_eq_true rfl)
          obtain ⟨r148, er148, hm⟩ := bindS hm
          refine L.ca cf14 rfl rfl Wt.no rfl (m_generate_Scan_c (s := s146) (p0 := r24.1) (p1 := st129.2) (p2 := ([x143] : List Int)) h27 h28 h29 h30 h91 h93 h145 er148) rfl ?_
          rintro _ s149 m150 ⟨a151, c151, a152, c152, rfl, h151, h152⟩
          replace m0 := m0.trans m150.no
          replace h72 := h72.mv m150 no_No no_No
          replace bx31 := bx31.mv m150 no_No
          replace h27 := h27.mono (m150.le no_No)
          replace h28 := h28.mono (m150.le no_No)
          replace h29 := h29.mono (m150.le no_No)
          replace h30 := h30.mono (m150.le no_No)
          replace bx83 := bx83.mv m150 no_No
          refine L.mv Wt.no rfl rfl (L.ex Wt.no rfl rfl rfl (L.ex Wt.no rfl rfl rfl (L.st (c := [.slice a151 r148.1.1.length c151, .slice a152 r148.1.2.length c152]) (cs' := #[.slice a151 r148.1.1.length c151, .slice a152 r148.1.2.length c152]) bx83 ag39.sz Wt.no rfl rfl rfl rfl rfl (Nat.le_of_ble_eq_true rfl) rfl fun s153 m154 bx83 => ?_)))
          replace m0 := m0.trans (m154.one up)
          replace h72 := h72.mv m154 (tgN (by decide)) (tg0 hN)
          replace bx31 := bx31.mv m154 (tgN (by decide))
          replace h27 := h27.mono (m154.le (tg0 hN))
          replace h28 := h28.mono (m154.le (tg0 hN))
          replace h29 := h29.mono (m154.le (tg0 hN))
          replace h30 := h30.mono (m154.le (tg0 hN))
          replace h151 := h151.mono (m154.le (tg0 hN))
          replace h152 := h152.mono (m154.le (tg0 hN))
          refine L.as Wt.no rfl rfl (L.nil (X.seqN (E.seq (E.reg (L.lg (j := 0) (cs := [.int .i64 r24.1.1.1, .int .i64 r24.1.1.2.1, .int .i64 r24.1.1.2.2.1, .slice a27 r24.1.1.2.2.2.1.length c27, .slice a28 r24.1.1.2.2.2.2.length c28, .slice a29 r24.1.2.1.length c29, .slice a30 r24.1.2.2.1.length c30, .int .i64 r24.1.2.2.2]) bx31.mem ag34 Wt.no rfl rfl rfl rfl rfl (L.lg (j := 0) (cs := [.slice a151 r148.1.1.length c151, .slice a152 r148.1.2.length c152]) bx83.mem ag39 Wt.no rfl rfl rfl rfl rfl ?_))))))
          obtain ⟨r155, er155, hm⟩ := bindS hm
          refine L.ca cf31 rfl rfl Wt.no rfl (m_generate_Alarmed_c (s := s153) (p0 := r24.1) (p1 := r148.1) h27 h28 h29 h30 h151 h152 er155) rfl ?_
          rintro _ s156 m157 rfl
          replace m0 := m0.trans m157.no
          replace h72 := h72.mv m157 no_No no_No
          replace bx31 := bx31.mv m157 no_No
          replace h27 := h27.mono (m157.le no_No)
          replace h28 := h28.mono (m157.le no_No)
          replace h29 := h29.mono (m157.le no_No)
          replace h30 := h30.mono (m157.le no_No)
          replace bx83 := bx83.mv m157 no_No
          replace h151 := h151.mono (m157.le no_No)
          replace h152 := h152.mono (m157.le no_No)
          refine L.mv Wt.no rfl rfl (L.ex Wt.no rfl rfl rfl (L.ex Wt.no rfl rfl rfl (L.as Wt.no rfl rfl (L.as Wt.no rfl rfl (L.nil (X.seqN (E.seq (E.seq (E.reg (L.mv Wt.no rfl rfl (L.bi Wt.no rfl rfl rfl rfl (L.mv Wt.no rfl rfl (L.cut 3 (fun e w => ∃ (v158 : Bool), ((r148.2 != 0) || (r155.2 != 0)) = v158 ∧ e = (117, .bool v158) :: [(19, .bool r155.1), (17, .int .i64 st129.1), (93, .int .i64 st129.1), (92, .int .i64 (o70.length : Int)), (91, .slice a72 o70.length c72), (15, .pointer (some ⟨b83, 0, none⟩)), (13, .int .i64 r75.2.1), (12, .int .i64 r75.1), (7, .pointer (some ⟨b31, 0, none⟩))] ∧ w = s156.w) ?_ ?_)))))))))))))
          ·rintro _ _ ⟨v158, rfl, rfl, rfl⟩
           refine L.mv Wt.no rfl rfl (L.cut 6 (fun e w => ∃ (v159 : Bool), (((r148.2 != 0) || (r155.2 != 0)) || (r155.1 != (decide (st129.1 ≥ r75.2.1)))) = v159 ∧ e = (124, .bool v159) :: [(17, .int .i64 st129.1), (93, .int .i64 st129.1), (92, .int .i64 (o70.length : Int)), (91, .slice a72 o70.length c72), (15, .pointer (some ⟨b83, 0, none⟩)), (13, .int .i64 r75.2.1), (12, .int .i64 r75.1), (7, .pointer (some ⟨b31, 0, none⟩))] ∧ w = s156.w) ?_ ?_)
           ·rintro _ _ ⟨v159, rfl, rfl, rfl⟩
            refine L.nil (X.seqN ?_)
            rcases ifS hm with ⟨hc, hm⟩ | ⟨hc, hm⟩
            ·refine E.cT rfl hc (E.seq (E.reg (L.as Wt.no rfl rfl (L.nil (X.seqN (E.ret (X.seqR (X.blkR (X.seqR (X.seqR ?_))))))))))
             have hx := ho129 _ (Option.some.inj hm).symm
             exact X.sub (K136 _ _ ⟨s156, (), hx.symm, m0, rfl, rfl⟩) (Sub.rf rfl)
            ·refine E.cF rfl hc (E.skip (X.seqN (E.seq (E.reg (L.mv Wt.no rfl rfl (L.mv Wt.no rfl rfl (L.bi Wt.no rfl rfl rfl rfl (L.bi Wt.no rfl rfl rfl rfl (L.nil (X.seqN ?_))))))))))
             rcases ifS hm with ⟨hc, hm⟩ | ⟨hc, hm⟩
             ·refine E.cT rfl hc (E.seq (E.reg (L.lg (j := 0) (cs := [.int .i64 r24.1.1.1, .int .i64 r24.1.1.2.1, .int .i64 r24.1.1.2.2.1, .slice a27 r24.1.1.2.2.2.1.length c27, .slice a28 r24.1.1.2.2.2.2.length c28, .slice a29 r24.1.2.1.length c29, .slice a30 r24.1.2.2.1.length c30, .int .i64 r24.1.2.2.2]) bx31.mem ag34 Wt.no rfl rfl rfl rfl rfl (L.lg (j := 0) (cs := [.slice a151 r148.1.1.length c151, .slice a152 r148.1.2.length c152]) bx83.mem ag39 Wt.no rfl rfl rfl rfl rfl ?_))))
              obtain ⟨r160, er160, hm⟩ := bindS hm
              refine L.ca cf18 rfl rfl Wt.no rfl (m_generate_State_c (s := s156) (p0 := r24.1) (p1 := r148.1) h27 h28 h29 h30 h151 h152 er160) rfl ?_
              rintro _ s161 m162 rfl
              replace m0 := m0.trans m162.no
              replace h72 := h72.mv m162 no_No no_No
              replace bx31 := bx31.mv m162 no_No
              replace h27 := h27.mono (m162.le no_No)
              replace h28 := h28.mono (m162.le no_No)
              replace h29 := h29.mono (m162.le no_No)
              replace h30 := h30.mono (m162.le no_No)
              replace bx83 := bx83.mv m162 no_No
              replace h151 := h151.mono (m162.le no_No)
              replace h152 := h152.mono (m162.le no_No)
              refine L.mv Wt.no rfl rfl (L.ex Wt.no rfl rfl rfl (L.ex Wt.no rfl rfl rfl (L.as Wt.no rfl rfl (L.as Wt.no rfl rfl (L.nil (X.seqN (E.seq (E.reg (L.mv Wt.no rfl rfl (L.bi Wt.no rfl rfl rfl rfl (L.mv Wt.no rfl rfl (L.cut 4 (fun e w => ∃ (v163 : Bool), ((r160.2 != 0) || (r160.1 != r75.1)) = v163 ∧ e = (141, .bool v163) :: [(93, .int .i64 st129.1), (92, .int .i64 (o70.length : Int)), (91, .slice a72 o70.length c72), (15, .pointer (some ⟨b83, 0, none⟩)), (13, .int .i64 r75.2.1), (12, .int .i64 r75.1), (7, .pointer (some ⟨b31, 0, none⟩))] ∧ w = s161.w) ?_ ?_))))))))))))
              ·rintro _ _ ⟨v163, rfl, rfl, rfl⟩
               refine L.nil (X.seqN ?_)
               rcases ifS hm with ⟨hc, hm⟩ | ⟨hc, hm⟩
               ·refine E.cT rfl hc (E.seq (E.reg (L.as Wt.no rfl rfl (L.nil (X.seqN (E.ret (X.blkR (X.seqR (X.seqR ?_)))))))))
                have hx := ho129 _ (Option.some.inj hm).symm
                exact X.sub (K136 _ _ ⟨s161, (), hx.symm, m0, rfl, rfl⟩) (Sub.rf rfl)
               ·exact E.cF rfl hc (E.skip (X.blkN (X.sub (Jj142 _ _ ⟨s161, r148.1.1, r148.1.2, a151, c151, a152, c152, hm, m0, h72, h27, h28, h29, h30, h151, h152, bx31, bx83, rfl, rfl⟩) (Sub.rf rfl))))
              ·intro J164
               rcases Bool.eq_false_or_eq_true (r160.2 != 0) with hc | hc
               ·exact L.know (d := 137) rfl hc (L.skip rfl rfl rfl rfl (L.skip rfl rfl rfl rfl (L.skip rfl rfl rfl rfl (L.pkT Wt.no rfl rfl rfl rfl (L.sb (J164 _ _ ⟨true, (orT hc).symm, rfl, rfl⟩) rfl)))))
               ·exact L.know (d := 137) rfl hc (L.mv (Wt.mk rfl rfl) rfl rfl (L.mv (Wt.mk rfl rfl) rfl rfl (L.bi (Wt.mk rfl rfl) rfl rfl rfl rfl (L.pkF Wt.no rfl rfl rfl rfl (L.sb (J164 _ _ ⟨(r160.1 != r75.1), (orF hc).symm, rfl, rfl⟩) rfl)))))
             ·exact E.cF rfl hc (E.skip (X.blkN (X.sub (Jj142 _ _ ⟨s156, r148.1.1, r148.1.2, a151, c151, a152, c152, hm, m0, h72, h27, h28, h29, h30, h151, h152, bx31, bx83, rfl, rfl⟩) (Sub.rf rfl))))
           ·intro J165
            rcases Bool.eq_false_or_eq_true ((r148.2 != 0) || (r155.2 != 0)) with hc | hc
            ·exact L.know (d := 118) rfl hc (L.skip rfl rfl rfl rfl (L.skip rfl rfl rfl rfl (L.skip rfl rfl rfl rfl (L.skip rfl rfl rfl rfl (L.skip rfl rfl rfl rfl (L.pkT Wt.no rfl rfl rfl rfl (L.sb (J165 _ _ ⟨true, (orT hc).symm, rfl, rfl⟩) rfl)))))))
            ·exact L.know (d := 118) rfl hc (L.mv (Wt.mk rfl rfl) rfl rfl (L.mv (Wt.mk rfl rfl) rfl rfl (L.mv (Wt.mk rfl rfl) rfl rfl (L.bi (Wt.mk rfl rfl) rfl rfl rfl rfl (L.bne Try.underlying4 (Wt.mk rfl rfl) rfl rfl rfl (L.pkF Wt.no rfl rfl rfl rfl (L.sb (J165 _ _ ⟨(r155.1 != (decide (st129.1 ≥ r75.2.1))), (orF hc).symm, rfl, rfl⟩) rfl)))))))
          ·intro J166
           rcases Bool.eq_false_or_eq_true (r148.2 != 0) with hc | hc
           ·exact L.know (d := 114) rfl hc (L.skip rfl rfl rfl rfl (L.skip rfl rfl rfl rfl (L.pkT Wt.no rfl rfl rfl rfl (L.sb (J166 _ _ ⟨true, (orT hc).symm, rfl, rfl⟩) rfl))))
           ·exact L.know (d := 114) rfl hc (L.mv (Wt.mk rfl rfl) rfl rfl (L.bi (Wt.mk rfl rfl) rfl rfl rfl rfl (L.pkF Wt.no rfl rfl rfl rfl (L.sb (J166 _ _ ⟨(r155.2 != 0), (orF hc).symm, rfl, rfl⟩) rfl))))
        ·refine E.cF rfl hc (E.exit (X.seqX (X.seqX ?_)))
         have hx := ho129 _ (Option.some.inj hm).symm
         exact X.sub (K133 _ _ ⟨s130, (), hx.symm, m0, rfl, rfl⟩) Sub.nil
      ·intro J167
       rcases Bool.eq_false_or_eq_true (r75.2.2 != 0) with hc | hc
       ·exact L.know (d := 87) rfl hc (L.skip rfl rfl rfl rfl (L.skip rfl rfl rfl rfl (L.pkT Wt.no rfl rfl rfl rfl (L.sb (J167 _ _ ⟨true, (orT hc).symm, rfl, rfl⟩) rfl))))
       ·exact L.know (d := 87) rfl hc (L.mv (Wt.mk rfl rfl) rfl rfl (L.bi (Wt.mk rfl rfl) rfl rfl rfl rfl (L.pkF Wt.no rfl rfl rfl rfl (L.sb (J167 _ _ ⟨(r78.2 != 0), (orF hc).symm, rfl, rfl⟩) rfl))))
     intro K168
     refine E.iter (fun (st70 : Int × List Int) (e : List (Nat × Value)) (w : World) => ∃ (s73 : Sig) (a39 : Option Addr) (c39 : Nat), Mv (Up N No) s s73 ∧ RdL (rK .u8) s73 a1 c1 p1 ∧ RowT (rK .i64) s73 (N + 3) 3 a39 c39 st70.2 ∧ RdL (rK .i64) s73 a15 c15 r12.1.1 ∧ RdL (rK .i64) s73 a16 c16 r12.1.2.2.1 ∧ RdL (rP (rK .i64) (rP (rK .i64) (rK .i64))) s73 a17 c17 r12.1.2.2.2 ∧ RdL rB s73 a27 c27 r24.1.1.2.2.2.1 ∧ RdL (rP (rK .i64) (rK .i64)) s73 a28 c28 r24.1.1.2.2.2.2 ∧ RdL (rK .i64) s73 a29 c29 r24.1.2.1 ∧ RdL (rK .i64) s73 a30 c30 r24.1.2.2.1 ∧ Bx s73 (N + 1) b19 #[.slice a15 r12.1.1.length c15, .int .i64 r12.1.2.1, .slice a16 r12.1.2.2.1.length c16, .slice a17 r12.1.2.2.2.length c17] 26 ∧ Bx s73 (N + 2) b31 #[.int .i64 r24.1.1.1, .int .i64 r24.1.1.2.1, .int .i64 r24.1.1.2.2.1, .slice a27 r24.1.1.2.2.2.1.length c27, .slice a28 r24.1.1.2.2.2.2.length c28, .slice a29 r24.1.2.1.length c29, .slice a30 r24.1.2.2.1.length c30, .int .i64 r24.1.2.2.2] 34 ∧ e = [(54, .int .i64 st70.1), (53, .int .i64 (p1.length : Int)), (52, .slice a1 p1.length c1), (9, .slice a39 st70.2.length c39), (7, .pointer (some ⟨b31, 0, none⟩)), (5, .pointer (some ⟨b19, 0, none⟩))] ∧ w = s73.w) eo70 ⟨s34, none, 0, m0, h1, RowT.nil, h15, h16, h17, h27, h28, h29, h30, bx19, bx31, rfl, rfl⟩ (Sub.rf rfl) ?_
     rintro st70 res70 hm ih70 ho70 _ _ ⟨s73, a39, c39, m0, h1, h39, h15, h16, h17, h27, h28, h29, h30, bx19, bx31, rfl, rfl⟩
     unfold m_overseerlaw53_GenerateWords_l1 at hm
     refine E.seq (E.reg (L.bi Wt.no rfl rfl rfl rfl (L.nil (X.seqN (E.seq ?_)))))
     rcases ifS hm with ⟨hc, hm⟩ | ⟨hc, hm⟩
     ·refine E.cT rfl hc (E.skip (X.seqN (E.seq (E.block (E.seq (E.reg ?_))))))
      obtain ⟨x169, ex169, hm⟩ := bindS hm
      refine L.ix (r := (rK .u8)) sl52 h1 Wt.no rfl rfl ex169 rfl fun b170 o170 cc170 me170 rd170 => ?_
      obtain rfl := rd170
      refine L.ld (j := 0) me170 nag5 Wt.no rfl rfl rfl rfl (L.as Wt.no rfl rfl (L.nil (X.seqN ?_)))
      obtain ⟨_, z180, hm⟩ := bindS hm
      obtain ⟨x182, ex182, hm⟩ := bindS hm
      obtain ⟨x190, ex190, hm⟩ := bindS hm
      refine E.draw [[], [], [1], [], [3], [], [5], [5, 6], [3, 4, 5, 6, 7], [1, 2, 3, 4, 5, 6, 7, 8], [1, 2, 3, 4, 5, 6, 7, 8, 9], [1, 2, 3, 4, 5, 6, 7, 8, 9, 10], [0, 1, 2, 3, 4, 5, 6, 7, 8, 9, 10, 11], [0, 1, 2, 3, 4, 5, 6, 7, 8, 9, 10, 11, 12]] (fun D e sx => Mv (One (N + 3)) s73 sx ∧ Sub [(11, .int .u8 x169), (54, .int .i64 st70.1), (53, .int .i64 (p1.length : Int)), (52, .slice a1 p1.length c1), (7, .pointer (some ⟨b31, 0, none⟩)), (5, .pointer (some ⟨b19, 0, none⟩))] e ∧ (D 13 = false → Env.get e 9 = some (.slice a39 st70.2.length c39)) ∧ (D 0 = true → (Env.get e 58 = some (.slice a39 st70.2.length c39))) ∧ (D 1 = true → (Env.get e 59 = some (.pointer (some ⟨b19, 0, none⟩)))) ∧ (D 2 = true → (Env.get e 60 = some (.slice a15 r12.1.1.length c15))) ∧ (D 3 = true → (Env.get e 61 = some (.int .u8 x169))) ∧ (D 4 = true → (Env.get e 62 = some (.int .i64 (W x169)))) ∧ (D 5 = true → (Env.get e 63 = some (.pointer (some ⟨b19, 0, none⟩)))) ∧ (D 6 = true → (Env.get e 64 = some (.slice a15 r12.1.1.length c15))) ∧ (D 7 = true → (Env.get e 65 = some (.int .i64 (r12.1.1.length : Int)))) ∧ (D 8 = true → (Env.get e 66 = some (.int .i64 ((W x169).tmod (r12.1.1.length : Int))))) ∧ (D 9 = true → (∃ (b183 : Nat) (o183 : Nat), Env.get e 67 = some (.pointer (some ⟨b183, o183, none⟩)) ∧ Mem sx 0 b183 o183 [.int .i64 x182])) ∧ (D 10 = true → (Env.get e 68 = some (.int .i64 x182))) ∧ (D 11 = true → (∃ (b186 : Nat), Env.get e 69 = some (.slice (some ⟨b186, 0, none⟩) ([x182] : List Int).length (([x182] : List Int).length)) ∧ RdL (rK .i64) sx (some ⟨b186, 0, none⟩) (([x182] : List Int).length) ([x182] : List Int))) ∧ (D 12 = true → (∃ (a191 : Option Addr) (c191 : Nat), Env.get e 70 = some (.slice a191 x190.length c191))) ∧ (D 13 = true → ∀ (a191 : Option Addr) (c191 : Nat), Env.get e 70 = some (.slice a191 x190.length c191) → (Env.get e 9 = some (.slice a191 x190.length c191))) ∧ (D 12 = false → RowT (rK .i64) sx (N + 3) 3 a39 c39 st70.2) ∧ (D 12 = true → ∀ (a191 : Option Addr) (c191 : Nat), Env.get e 70 = some (.slice a191 x190.length c191) → RowT (rK .i64) sx (N + 3) 3 a191 c191 x190)) (by kernel_rfl) (by kernel_rfl) (by kernel_rfl) ?_ ?_ ?_
      ·intro sz mz
       exact ⟨mz.no, (Sub.rf rfl), fun _ => rfl, nofun, nofun, nofun, nofun, nofun, nofun, nofun, nofun, nofun, nofun, nofun, nofun, nofun, nofun, fun _ => h39.mv mz no_No no_No, nofun⟩
      ·refine ⟨?_, ?_, ?_, ?_, ?_, ?_, ?_, ?_, ?_, ?_, ?_, ?_, ?_, ?_, trivial⟩
       ·rintro D e s171 ⟨im, ib, i0, i1, t_⟩ hk hf ha
        have kn : Kn e [(9, .slice a39 st70.2.length c39)] := ⟨(i0 (hf 13 (Nat.le_of_ble_eq_true rfl) rfl)), trivial⟩
        exact L.kns _ kn (L.mv Wt.no rfl rfl (L.nil (X.dk kn ⟨im, Sub.fresh ib rfl, i0, fun _ => rfl, t_⟩)))
       ·rintro D e s172 ⟨im, ib, i0, i1, i2, t_⟩ hk hf ha
        have kn : Kn e [(5, .pointer (some ⟨b19, 0, none⟩))] := ⟨(ib 5 _ rfl), trivial⟩
        exact L.kns _ kn (L.fa fa26_0 Wt.no rfl rfl (L.nil (X.dk kn ⟨im, Sub.fresh ib rfl, i0, i1, fun _ => rfl, t_⟩)))
       ·rintro D e s173 ⟨im, ib, i0, i1, i2, i3, t_⟩ hk hf ha
        obtain ⟨d1, -⟩ := ha
        have g1_ := i2 d1
        have bx19 := bx19.mv im (tgN (by decide))
        have kn : Kn e [(59, .pointer (some ⟨b19, 0, none⟩))] := ⟨g1_, trivial⟩
        exact L.kns _ kn (L.ld (j := 0) bx19.mem nag23 Wt.no rfl rfl rfl rfl (L.nil (X.dk kn ⟨im, Sub.fresh ib rfl, i0, i1, i2, fun _ => rfl, t_⟩)))
       ·rintro D e s174 ⟨im, ib, i0, i1, i2, i3, i4, t_⟩ hk hf ha
        have kn : Kn e [(11, .int .u8 x169)] := ⟨(ib 11 _ rfl), trivial⟩
        exact L.kns _ kn (L.mv Wt.no rfl rfl (L.nil (X.dk kn ⟨im, Sub.fresh ib rfl, i0, i1, i2, i3, fun _ => rfl, t_⟩)))
       ·rintro D e s175 ⟨im, ib, i0, i1, i2, i3, i4, i5, t_⟩ hk hf ha
        obtain ⟨d3, -⟩ := ha
        have g3_ := i4 d3
        have kn : Kn e [(61, .int .u8 x169)] := ⟨g3_, trivial⟩
        exact L.kns _ kn (L.cv Try.underlying5 Try.underlying3 Wt.no rfl rfl (L.nil (X.dk kn ⟨im, Sub.fresh ib rfl, i0, i1, i2, i3, i4, fun _ => rfl, t_⟩)))
       ·rintro D e s176 ⟨im, ib, i0, i1, i2, i3, i4, i5, i6, t_⟩ hk hf ha
        have kn : Kn e [(5, .pointer (some ⟨b19, 0, none⟩))] := ⟨(ib 5 _ rfl), trivial⟩
        exact L.kns _ kn (L.fa fa26_0 Wt.no rfl rfl (L.nil (X.dk kn ⟨im, Sub.fresh ib rfl, i0, i1, i2, i3, i4, i5, fun _ => rfl, t_⟩)))
       ·rintro D e s177 ⟨im, ib, i0, i1, i2, i3, i4, i5, i6, i7, t_⟩ hk hf ha
        obtain ⟨d5, -⟩ := ha
        have g5_ := i6 d5
        have bx19 := bx19.mv im (tgN (by decide))
        have kn : Kn e [(63, .pointer (some ⟨b19, 0, none⟩))] := ⟨g5_, trivial⟩
        exact L.kns _ kn (L.ld (j := 0) bx19.mem nag23 Wt.no rfl rfl rfl rfl (L.nil (X.dk kn ⟨im, Sub.fresh ib rfl, i0, i1, i2, i3, i4, i5, i6, fun _ => rfl, t_⟩)))
       ·rintro D e s178 ⟨im, ib, i0, i1, i2, i3, i4, i5, i6, i7, i8, t_⟩ hk hf ha
        obtain ⟨d5, d6, -⟩ := ha
        have g6_ := i7 d6
        have kn : Kn e [(64, .slice a15 r12.1.1.length c15)] := ⟨g6_, trivial⟩
        exact L.kns _ kn (L.len sl23 Wt.no rfl rfl (L.nil (X.dk kn ⟨im, Sub.fresh ib rfl, i0, i1, i2, i3, i4, i5, i6, i7, fun _ => rfl, t_⟩)))
       ·rintro D e s179 ⟨im, ib, i0, i1, i2, i3, i4, i5, i6, i7, i8, i9, t_⟩ hk hf ha
        obtain ⟨d3, d4, d5, d6, d7, -⟩ := ha
        have g4_ := i5 d4
        have g7_ := i8 d7
        have kn : Kn e [(62, .int .i64 (W x169)), (65, .int .i64 (r12.1.1.length : Int))] := ⟨g4_, g7_, trivial⟩
        exact L.kns _ kn (L.rem Wt.no rfl rfl (nz_some z180) rfl (L.nil (X.dk kn ⟨im, Sub.fresh ib rfl, i0, i1, i2, i3, i4, i5, i6, i7, i8, fun _ => rfl, t_⟩)))
       ·rintro D e s181 ⟨im, ib, i0, i1, i2, i3, i4, i5, i6, i7, i8, i9, i10, t_⟩ hk hf ha
        obtain ⟨d1, d2, d3, d4, d5, d6, d7, d8, -⟩ := ha
        have g2_ := i3 d2
        have g8_ := i9 d8
        have h15 := h15.mono (im.le (tg0 hN))
        have kn : Kn e [(60, .slice a15 r12.1.1.length c15), (66, .int .i64 ((W x169).tmod (r12.1.1.length : Int)))] := ⟨g2_, g8_, trivial⟩
        refine L.kns _ kn (L.ix (r := (rK .i64)) sl23 h15 Wt.no rfl rfl ex182 rfl fun b183 o183 cc183 me183 rd183 => ?_)
        obtain rfl := rd183
        exact L.nil (X.dk kn ⟨im, Sub.fresh ib rfl, i0, i1, i2, i3, i4, i5, i6, i7, i8, i9, fun _ => ⟨b183, o183, rfl, me183⟩, t_⟩)
       ·rintro D e s184 ⟨im, ib, i0, i1, i2, i3, i4, i5, i6, i7, i8, i9, i10, i11, t_⟩ hk hf ha
        obtain ⟨d1, d2, d3, d4, d5, d6, d7, d8, d9, -⟩ := ha
        obtain ⟨b183, o183, g9_, me183⟩ := i10 d9
        have kn : Kn e [(67, .pointer (some ⟨b183, o183, none⟩))] := ⟨g9_, trivial⟩
        exact L.kns _ kn (L.ld (j := 0) me183 nag3 Wt.no rfl rfl rfl rfl (L.nil (X.dk kn ⟨im, Sub.fresh ib rfl, i0, i1, i2, i3, i4, i5, i6, i7, i8, i9, i10, fun _ => rfl, t_⟩)))
       ·rintro D e s185 ⟨im, ib, i0, i1, i2, i3, i4, i5, i6, i7, i8, i9, i10, i11, i12, i13, i14, i15, i16⟩ hk hf ha
        obtain ⟨d1, d2, d3, d4, d5, d6, d7, d8, d9, d10, -⟩ := ha
        have g10_ := i11 d10
        have kn : Kn e [(68, .int .i64 x182)] := ⟨g10_, trivial⟩
        refine L.kns _ kn (L.bsE (k := 1) (cs := [.int .i64 x182]) 0 bs23 (Nat.le_of_ble_eq_true rfl) Wt.no rfl rfl rfl rfl fun b186 s187 m188 bx186 => ?_)
        have h186 := Bx.rdL (r := (rK .i64)) (xs := ([x182] : List Int)) bx186 ⟨[.int .i64 x182], _, rfl, rfl, rfl⟩ (Nat.le_of_ble_eq_true rfl)
        exact L.nil (X.dk kn ⟨im.trans m188.no, Sub.fresh ib rfl, i0, i1, i2, i3, i4, i5, i6, i7, i8, i9, fun z => let ⟨b183, o183, q, me183⟩ := i10 z; ⟨b183, o183, q, (me183.mv m188 no_No)⟩, i11, fun _ => ⟨b186, rfl, h186⟩, i13, i14, fun z2 => ((i15 z2).mv m188 no_No no_No), fun z a191 c191 q12 => ((i16 z a191 c191 q12).mv m188 no_No no_No)⟩)
       ·rintro D e s189 ⟨im, ib, i0, i1, i2, i3, i4, i5, i6, i7, i8, i9, i10, i11, i12, i13, i14, i15, i16⟩ hk hf ha
        obtain ⟨d0, d1, d2, d3, d4, d5, d6, d7, d8, d9, d10, d11, -⟩ := ha
        have g0_ := i1 d0
        obtain ⟨b186, g11_, h186⟩ := i12 d11
        obtain h39 := i15 hk
        have kn : Kn e [(58, .slice a39 st70.2.length c39), (69, .slice (some ⟨b186, 0, none⟩) ([x182] : List Int).length (([x182] : List Int).length))] := ⟨g0_, g11_, trivial⟩
        exact L.kns _ kn (L.ap (r := (rK .i64)) Try.underlying23 el3 rfl (tgp hN) h39 h186.wk Wt.no rfl rfl ex190 rfl fun a191 c191 s192 m193 h191 => L.nil (X.dk kn ⟨im.trans (m193.one rfl), Sub.fresh ib rfl, i0, i1, i2, i3, i4, i5, i6, i7, i8, i9, fun z => let ⟨b183, o183, q, me183⟩ := i10 z; ⟨b183, o183, q, (me183.mv m193 (tg0 hN))⟩, i11, fun z => let ⟨b186, q, h186⟩ := i12 z; ⟨b186, q, (h186.mono (m193.le (tg0 hN)))⟩, fun _ => ⟨a191, c191, rfl⟩, fun z => Bool.noConfusion ((hf 13 (Nat.le_of_ble_eq_true rfl) rfl).symm.trans z), fun z => Bool.noConfusion (show true = false from z), fun _ _ _ q12 => by cases (show some (.slice a191 x190.length c191 : Value) = some _ from q12); exact h191⟩))
       ·rintro D e s194 ⟨im, ib, i0, i1, i2, i3, i4, i5, i6, i7, i8, i9, i10, i11, i12, i13, i14, t_⟩ hk hf ha
        obtain ⟨d0, d1, d2, d3, d4, d5, d6, d7, d8, d9, d10, d11, d12, -⟩ := ha
        obtain ⟨a191, c191, g12_⟩ := i13 d12
        have kn : Kn e [(70, .slice a191 x190.length c191)] := ⟨g12_, trivial⟩
        exact L.kns _ kn (L.as Wt.no rfl rfl (L.nil (X.dk kn ⟨im, Sub.fresh ib rfl, fun z => Bool.noConfusion (show true = false from z), i1, i2, i3, i4, i5, i6, i7, i8, i9, i10, i11, i12, i13, fun _ _ _ q12 => by cases g12_.symm.trans q12; exact rfl, t_⟩)))
      ·rintro D e s195 hD ⟨im, ib, i0, i1, i2, i3, i4, i5, i6, i7, i8, i9, i10, i11, i12, i13, i14, i15, i16⟩
       obtain ⟨a191, c191, g12_⟩ := i13 (hD 12 rfl)
       have g13_ := i14 (hD 13 rfl) a191 c191 g12_
       obtain h191 := i16 (hD 12 rfl) a191 c191 g12_
       have h1 := h1.mono (im.le (tg0 hN))
       have bx31 := bx31.mv im (tgN (by decide))
       have h27 := h27.mono (im.le (tg0 hN))
       have h28 := h28.mono (im.le (tg0 hN))
       have h29 := h29.mono (im.le (tg0 hN))
       have h30 := h30.mono (im.le (tg0 hN))
       have bx19 := bx19.mv im (tgN (by decide))
       have h15 := h15.mono (im.le (tg0 hN))
       have h16 := h16.mono (im.le (tg0 hN))
       have h17 := h17.mono (im.le (tg0 hN))
       have m0 := m0.trans (im.one up)
       refine X.sub (e' := [(9, .slice a191 x190.length c191), (54, .int .i64 st70.1), (53, .int .i64 (p1.length : Int)), (52, .slice a1 p1.length c1), (7, .pointer (some ⟨b31, 0, none⟩)), (5, .pointer (some ⟨b19, 0, none⟩))]) ?_ (Sub.cons g13_ (Sub.cons (ib 54 _ rfl) (Sub.cons (ib 53 _ rfl) (Sub.cons (ib 52 _ rfl) (Sub.cons (ib 7 _ rfl) (Sub.cons (ib 5 _ rfl) Sub.nil))))))
       exact X.blkN (X.seqN (E.reg (L.bi Wt.no rfl rfl rfl rfl (L.mv Wt.no rfl rfl (L.nil (X.sub (ih70 _ (Option.some.inj hm).symm _ _ ⟨s195, a191, c191, m0, h1, h191, h15, h16, h17, h27, h28, h29, h30, bx19, bx31, rfl, rfl⟩) (Sub.rf rfl)))))))
     ·refine E.cF rfl hc (E.exit (X.seqX (X.seqX ?_)))
      have hx := ho70 _ (Option.some.inj hm).symm
      subst hx
      exact X.sub (K168 _ _ ⟨s73, a39, c39, m0, h39, h15, h16, h17, h27, h28, h29, h30, bx19, bx31, rfl, rfl⟩) (Sub.rf rfl)
   ·intro J196
    rcases Bool.eq_false_or_eq_true (r24.2 != 0) with hc | hc
    ·exact L.know (d := 44) rfl hc (L.skip rfl rfl rfl rfl (L.skip rfl rfl rfl rfl (L.skip rfl rfl rfl rfl (L.skip rfl rfl rfl rfl (L.pkT Wt.no rfl rfl rfl rfl (L.sb (J196 _ _ ⟨true, (orT hc).symm, rfl, rfl⟩) rfl))))))
    ·exact L.know (d := 44) rfl hc (L.fa fa26_0 (Wt.mk rfl rfl) rfl rfl (L.ld (j := 0) bx19.mem nag23 (Wt.mk rfl rfl) rfl rfl rfl rfl (L.len sl23 (Wt.mk rfl rfl) rfl rfl (L.bi (Wt.mk rfl rfl) rfl rfl rfl rfl (L.pkF Wt.no rfl rfl rfl rfl (L.sb (J196 _ _ ⟨((r12.1.1.length : Int) == 0), (orF hc).symm, rfl, rfl⟩) rfl))))))
 ·intro J197
  rcases Bool.eq_false_or_eq_true (!r5) with hc | hc
  ·exact L.know (d := 25) rfl hc (L.skip rfl rfl rfl rfl (L.skip rfl rfl rfl rfl (L.skip rfl rfl rfl rfl (L.pkT Wt.no rfl rfl rfl rfl (L.sb (J197 _ _ ⟨true, (orT hc).symm, rfl, rfl⟩) rfl)))))
  ·exact L.know (d := 25) rfl hc (L.mv (Wt.mk rfl rfl) rfl rfl (L.len sl52 (Wt.mk rfl rfl) rfl rfl (L.bi (Wt.mk rfl rfl) rfl rfl rfl rfl (L.pkF Wt.no rfl rfl rfl rfl (L.sb (J197 _ _ ⟨(decide ((p1.length : Int) > 12)), (orF hc).symm, rfl, rfl⟩) rfl)))))

end Go.Proofs.Ytkkemchihllklaa

namespace Go.Proofs.Ytkkemchihllklaa
open Go Go.RowKit

/-- A search by halves among edges. -/
theorem binE_go {xs : List (Int × Int × Int)} {p : (Int × Int × Int) → Int → Option Int} {c : (Int × Int × Int) → Int} {t : Int} (hp : ∀ x ∈ xs, p x t = some (c x)) (hl : xs.length < 4294967296) (hs : ∀ i j (hi : i < xs.length) (hj : j < xs.length), i < j → c xs[j] < 0 → c xs[i] < 0) :
    ∀ (f i j : Nat), j ≤ i + f → i ≤ j → j ≤ xs.length → (∀ k (h : k < xs.length), k < i → c xs[k] < 0) → (∀ k (h : k < xs.length), j ≤ k → 0 ≤ c xs[k]) →
    ∃ q : Nat, iterF (m_slices_BinarySearchFunc_api_Edge_api_Edge_int_l1 xs t p) (f + 1) ((j : Int), (i : Int)) = some (q : Int) ∧ q ≤ xs.length ∧ (∀ k (h : k < xs.length), k < q → c xs[k] < 0) ∧ (∀ k (h : k < xs.length), q ≤ k → 0 ≤ c xs[k])
  | 0, i, j, h1, h2, h3, h4, h5 => by
    obtain rfl : i = j := by omega
    refine ⟨i, ?_, h3, h4, h5⟩
    rw [iterF_succ, m_slices_BinarySearchFunc_api_Edge_api_Edge_int_l1]
    dsimp only
    rw [if_neg ct_ge]
  | f + 1, i, j, h1, h2, h3, h4, h5 => by
    by_cases hlt : i < j
    · have hm : (i + j) / 2 < xs.length := by omega
      rw [iterF_succ, m_slices_BinarySearchFunc_api_Edge_api_Edge_int_l1]
      dsimp only
      rw [if_pos (ct_lt hlt), half_eq (by omega), idx_at hm, Option.bind_some, hp _ (List.getElem_mem hm), Option.bind_some]
      by_cases hc : c xs[(i + j) / 2] < 0
      · rw [if_pos (decide_eq_true hc), nxt (by omega)]
        dsimp only
        refine binE_go hp hl hs f ((i + j) / 2 + 1) j (by omega) (by omega) h3 (fun k hk hlt2 => ?_) h5
        by_cases hk2 : k = (i + j) / 2
        · subst hk2; exact hc
        · exact hs k ((i + j) / 2) hk hm (by omega) hc
      · rw [if_neg (by simpa using hc)]
        dsimp only
        refine binE_go hp hl hs f i ((i + j) / 2) (by omega) (by omega) (by omega) h4 (fun k hk hle => ?_)
        by_cases hk2 : k = (i + j) / 2
        · subst hk2; omega
        · have := mt (hs ((i + j) / 2) k hm hk (by omega)) hc
          omega
    · obtain rfl : i = j := by omega
      refine ⟨i, ?_, h3, h4, h5⟩
      rw [iterF_succ, m_slices_BinarySearchFunc_api_Edge_api_Edge_int_l1]
      dsimp only
      rw [if_neg ct_ge]
/-- What the walks of the package automaton ask. -/
structure AOk (a : Aut) : Prop where
  n0 : 0 ≤ a.n
  n1 : a.n ≤ 4096
  ed : ∀ x ∈ a.es, 0 ≤ x.f ∧ x.f < a.n ∧ 0 ≤ x.t ∧ x.t < a.n
  so : Sorted a.es
  el : a.es.length ≤ 1000000
  al : a.al.length ≤ 1000000
  ml : a.ms.length ≤ 1000000
theorem bin_edges {a : Aut} (h : AOk a) {p : (Int × Int × Int) → Int → Option Int} (hp : ∀ x t, p x t = some (W (x.1 - t))) {t : Nat} (ht : t ≤ 10000) :
    ∃ (q : Nat) (b : Bool), m_slices_BinarySearchFunc_api_Edge_api_Edge_int (a.es.map edP) (t : Int) p = some ((q : Int), b) ∧ q ≤ a.es.length ∧ (∀ k (hk : k < a.es.length), k < q → a.es[k].f < t) ∧ (∀ k (hk : k < a.es.length), q ≤ k → (t : Int) ≤ a.es[k].f) := by
  have hel := h.el; have hn1 := h.n1
  have hlm : (a.es.map edP).length = a.es.length := List.length_map ..
  have hat : ∀ k (hk : k < (a.es.map edP).length), (a.es.map edP)[k].1 = (a.es[k]'(by omega)).f := fun k hk => by rw [List.getElem_map]; rfl
  obtain ⟨q, h1, h2, h3, h4⟩ := binE_go (xs := a.es.map edP) (p := p) (c := fun x => x.1 - t) (t := t) (fun x hx => by
      obtain ⟨y, hy, rfl⟩ := List.mem_map.1 hx
      have := h.ed y hy
      rw [hp, W_of (by show _ ≤ y.f - _; omega) (by show y.f - _ < _; omega)]) (by omega) (fun i j hi hj hij hc => by
      rw [hat] at hc ⊢
      have hs := List.pairwise_iff_getElem.1 h.so i j (by omega) (by omega) hij
      have : (a.es[i]'(by omega)).f ≤ (a.es[j]'(by omega)).f := by rcases hs with hs | ⟨hs, _⟩ <;> omega
      omega) a.es.length 0 a.es.length (by omega) (by omega) (by omega) (fun k hk h0 => absurd h0 (Nat.not_lt_zero _)) (fun k hk h0 => by omega)
  have hr : ∃ b : Bool, (if decide ((q : Int) < ((a.es.map edP).length : Int)) then (idx (a.es.map edP) (q : Int)).bind fun x19 => (p x19 (t : Int)).bind fun r21 => some (r21 == 0) else some false) = some b := by
    by_cases hq : q < (a.es.map edP).length
    · rw [if_pos (ct_lt hq), idx_at hq, Option.bind_some, hp, Option.bind_some]; exact ⟨_, rfl⟩
    · rw [if_neg (by simp at hq ⊢; omega)]; exact ⟨_, rfl⟩
  obtain ⟨b, hb⟩ := hr
  refine ⟨q, b, ?_, by omega, fun k hk hlt => ?_, fun k hk hle => ?_⟩
  · rw [m_slices_BinarySearchFunc_api_Edge_api_Edge_int, hlm, show iter (m_slices_BinarySearchFunc_api_Edge_api_Edge_int_l1 (a.es.map edP) (t : Int) p) ((a.es.length : Int), 0) = some (q : Int) from iter_of (by omega) h1, Option.bind_some]
    rw [hlm] at hb
    rw [hb]
    rfl
  · have := h3 k (by omega) hlt
    rw [hat] at this
    omega
  · have := h4 k (by omega) hle
    rw [hat] at this
    omega
/-- A part of a list between two places. -/
theorem mid_filter {α : Type} (q : α → Bool) : ∀ (xs : List α) (i j : Nat), i ≤ j → j ≤ xs.length → (∀ k (h : k < xs.length), q xs[k] = decide (i ≤ k ∧ k < j)) → (xs.take j).drop i = xs.filter q := by
  intro xs i j hij hj h
  have e1 : xs = xs.take i ++ ((xs.take j).drop i ++ xs.drop j) := by
    have h1 : (xs.take j).take i = xs.take i := by rw [List.take_take, Nat.min_eq_left hij]
    rw [← List.append_assoc, ← h1, List.take_append_drop, List.take_append_drop]
  have f1 : (xs.take i).filter q = [] := by
    refine List.filter_eq_nil_iff.2 fun x hx => ?_
    obtain ⟨k, hk, rfl⟩ := List.mem_iff_getElem.1 hx
    rw [List.length_take] at hk
    rw [List.getElem_take, h k (by omega)]
    simp; omega
  have f2 : ((xs.take j).drop i).filter q = (xs.take j).drop i := by
    refine List.filter_eq_self.2 fun x hx => ?_
    obtain ⟨k, hk, rfl⟩ := List.mem_iff_getElem.1 hx
    rw [List.length_drop, List.length_take] at hk
    rw [List.getElem_drop, List.getElem_take, h (i + k) (by omega)]
    simp; omega
  have f3 : (xs.drop j).filter q = [] := by
    refine List.filter_eq_nil_iff.2 fun x hx => ?_
    obtain ⟨k, hk, rfl⟩ := List.mem_iff_getElem.1 hx
    rw [List.length_drop] at hk
    rw [List.getElem_drop, h (j + k) (by omega)]
    simp
  conv => rhs; rw [e1]
  rw [List.filter_append, List.filter_append, f1, f2, f3]
  simp
def outL (a : Aut) (s : Nat) : List Ed := a.es.filter fun x => x.f == (s : Int)
theorem out_eq {a : Aut} (h : AOk a) {s : Nat} (hs : s ≤ 4096) : m_automaton_out (autP a) (s : Int) = some ((outL a s).map edP) := by
  have hel := h.el
  obtain ⟨q1, b1, h1, h2, h3, h4⟩ := bin_edges h (p := m_automaton_out_1) (fun x t => rfl) (t := s) (by omega)
  obtain ⟨q2, b2, g1, g2, g3, g4⟩ := bin_edges h (p := m_automaton_out_2) (fun x t => rfl) (t := s + 1) (by omega)
  have hle : q1 ≤ q2 := by
    by_cases hc : q1 ≤ q2
    · exact hc
    · have k1 := h3 q2 (by omega) (by omega)
      have k2 := g4 q2 (by omega) (Nat.le_refl _)
      omega
  rw [m_automaton_out, show m_slices_BinarySearchFunc_api_Edge_api_Edge_int (autP a).2.2.2 (s : Int) m_automaton_out_1 = _ from h1, Option.bind_some, nxt (by omega), show m_slices_BinarySearchFunc_api_Edge_api_Edge_int (autP a).2.2.2 ((s + 1 : Nat) : Int) m_automaton_out_2 = _ from g1, Option.bind_some]
  dsimp only
  rw [show (autP a).2.2.2 = a.es.map edP from rfl, slc, if_pos ⟨by omega, by omega, by rw [List.length_map]; omega⟩, Option.bind_some, Int.toNat_natCast, Int.toNat_natCast, ← List.map_take, ← List.map_drop]
  rw [mid_filter (fun x : Ed => x.f == (s : Int)) a.es q1 q2 hle g2 (fun k hk => ?_)]
  · rfl
  · rw [Bool.eq_iff_iff, beq_iff_eq, decide_eq_true_eq]
    constructor
    · intro he
      refine ⟨?_, ?_⟩
      · by_cases hc : q1 ≤ k
        · exact hc
        · have := h3 k hk (by omega); omega
      · by_cases hc : k < q2
        · exact hc
        · have := g4 k hk (by omega); omega
    · rintro ⟨k1, k2⟩
      have := h4 k hk k1
      have := g3 k hk k2
      omega
theorem find_filter2 {es : List Ed} (s e : Int) : (es.filter fun x => x.f == s).find? (fun x => x.e == e) = es.find? fun x => x.f == s && x.e == e := by
  induction es with
  | nil => rfl
  | cons x es ih =>
    cases h1 : x.f == s with
    | false => rw [List.filter_cons_of_neg (by simp [h1]), List.find?_cons_of_neg (by simp [h1]), ih]
    | true =>
      rw [List.filter_cons_of_pos (by simp [h1])]
      cases h2 : x.e == e with
      | true => rw [List.find?_cons_of_pos (by simp [h2]), List.find?_cons_of_pos (by simp [h1, h2])]
      | false => rw [List.find?_cons_of_neg (by simp [h2]), List.find?_cons_of_neg (by simp [h1, h2]), ih]
theorem indexE_eq {xs : List Ed} {e : Int} (hl : xs.length < 4611686018427387904) : m_slices_IndexFunc_Edge (xs.map edP) (m_automaton_next_1 e) = some (if xs.any (fun x => x.e == e) = true then ((xs.findIdx (fun x => x.e == e) : Nat) : Int) else -1) := by
  have hlm : (xs.map edP).length = xs.length := List.length_map ..
  have h := iter_scan (f := m_slices_IndexFunc_Edge_l1 (xs.map edP) (m_automaton_next_1 e)) (xs := xs) (fun i (_ : Unit) => (i : Int)) (fun i _ y => if y.e == e then .inr (.inr (i : Int)) else .inl ()) (fun _ => .inl ()) (fun _ _ => True) (by omega) (fun i h _ _ => by
      rw [m_slices_IndexFunc_Edge_l1, if_pos (show decide ((i : Int) < ((xs.map edP).length : Int)) = true from by rw [hlm]; exact ct_lt h), idx_at (by omega), Option.bind_some, List.getElem_map, show m_automaton_next_1 e (edP xs[i]) = some (xs[i].e == e) from rfl, Option.bind_some, nxt (by omega)]
      refine ⟨fun s' g => ?_, fun o g => ?_⟩
      · split at g
        · cases g
        · rename_i h1; rw [if_neg h1]; exact ⟨rfl, trivial⟩
      · split at g
        · rename_i h1; rw [if_pos h1]; cases g; rfl
        · cases g) (fun _ _ => by rw [m_slices_IndexFunc_Edge_l1, if_neg (by rw [hlm]; exact ct_ge)]) (s := ()) trivial
  have key : ∀ (ys : List Ed) (i : Nat), scanL (O := Unit ⊕ Int) (fun i (_ : Unit) y => if y.e == e then .inr (.inr (i : Int)) else .inl ()) (fun _ => .inl ()) i ys () = if ys.any (fun x => x.e == e) = true then .inr ((i + ys.findIdx (fun x => x.e == e) : Nat) : Int) else .inl () := by
    intro ys
    induction ys with
    | nil => intro i; rfl
    | cons y ys ih =>
      intro i
      rw [scanL, List.any_cons, List.findIdx_cons]
      cases hy : y.e == e with
      | true => rfl
      | false =>
        rw [if_neg (by simp)]
        dsimp only
        rw [ih, Bool.false_or, cond_false]
        split
        · congr 2; omega
        · rfl
  rw [m_slices_IndexFunc_Edge, show iter (m_slices_IndexFunc_Edge_l1 (xs.map edP) (m_automaton_next_1 e)) 0 = _ from h, Option.bind_some, key]
  by_cases hm : xs.any (fun x => x.e == e) = true
  · rw [if_pos hm, if_pos hm]; simp
  · rw [if_neg hm, if_neg hm]
theorem next_eq {a : Aut} (h : AOk a) {s : Nat} (hs : s ≤ 4096) {e : Int} : m_automaton_next (autP a) (s : Int) e = some (stF a.es s e) := by
  have hel := h.el
  have hol : (outL a s).length ≤ a.es.length := List.length_filter_le ..
  rw [m_automaton_next, out_eq h hs, Option.bind_some, indexE_eq (by omega), Option.bind_some, stF, stepF, ← find_filter2, show a.es.filter (fun x => x.f == (s : Int)) = outL a s from rfl]
  by_cases hm : (outL a s).any (fun x => x.e == e) = true
  · have hlt : (outL a s).findIdx (fun x => x.e == e) < (outL a s).length := List.findIdx_lt_length_of_exists (by simpa [List.any_eq_true] using hm)
    rw [if_pos hm, if_neg (by simp), idx_at (by rw [List.length_map]; exact hlt), Option.bind_some, List.getElem_map]
    have hf : (outL a s).find? (fun x => x.e == e) = some ((outL a s)[(outL a s).findIdx (fun x => x.e == e)]) := by
      rw [← List.getElem?_eq_getElem hlt]
      exact (List.find?_eq_getElem?_findIdx).symm ▸ rfl
    rw [hf]
    have hmem := List.getElem_mem hlt
    have hed := h.ed _ (List.mem_filter.1 hmem).1
    show some ((outL a s)[(outL a s).findIdx (fun x => x.e == e)]).t = some ((((outL a s)[(outL a s).findIdx (fun x => x.e == e)]).t.toNat : Nat) : Int)
    rw [Int.toNat_of_nonneg hed.2.2.1]
  · have hf : (outL a s).find? (fun x => x.e == e) = none := by
      refine List.find?_eq_none.2 fun x hx hc => hm (List.any_eq_true.2 ⟨x, hx, hc⟩)
    rw [if_neg hm, if_pos (by simp), hf]
    rfl
theorem stepF_lt {a : Aut} (h : AOk a) {s t : Nat} {e : Int} (hs : stepF a.es s e = some t) : (t : Int) < a.n := by
  obtain ⟨x, hx, _, _, rfl⟩ := stepF_in hs
  have := h.ed x hx
  omega
theorem checkS_eq {a : Aut} (h : AOk a) (he : a.err = 0) (s : Int) : m_automaton_checkState (autP a) s = some (if s < 0 ∨ a.n ≤ s then 2 else 0) := by
  have h1 := h.el; have h2 := h.al; have h3 := h.ml
  rw [m_automaton_checkState, check_eq (by omega) (by omega) (by omega), Option.bind_some, he, if_neg (by simp)]
  by_cases hc : s < 0 ∨ a.n ≤ s
  · rw [if_pos hc, if_pos (by show (decide (s < 0) || decide (s ≥ a.n)) = true; simp; omega)]
  · rw [if_neg hc, if_neg (by show ¬ (decide (s < 0) || decide (s ≥ a.n)) = true; simp; omega)]
theorem SkIn.aok {a : Aut} {l : List Int} {n : Nat} (h : SkIn a l n) : AOk a := by
  have h1 := h.gen.hn; have h2 := h.gen.n1; have h3 := h.gen.es; have h4 := h.gen.al; have h5 := h.ms
  exact ⟨by omega, by omega, fun x hx => by have := h.gen.ed x hx; omega, h.so, by omega, by omega, by omega⟩
/-- The state behind a word. -/
theorem folW_eq {a : Aut} (h : AOk a) {w : List Int} (hl : w.length ≤ 1000000) : ∀ (j i s : Nat), i + j = w.length → (s : Int) < a.n → ∃ o, iterF (m_automaton_follow_l1 (autP a) w) (j + 1) ((i : Int), (s : Int)) = some o ∧
    (match o with | .inl u => (u, (w.length : Int)) | .inr u => (u.2, u.1)) = (((runDone a.es s (w.drop i)).1 : Int), ((i + (runDone a.es s (w.drop i)).2 : Nat) : Int)) := by
  intro j
  have hn1 := h.n1
  induction j with
  | zero =>
    intro i s hi hs
    obtain rfl : i = w.length := by omega
    rw [iterF_succ, m_automaton_follow_l1]
    dsimp only
    rw [if_neg ct_ge, List.drop_length]
    exact ⟨_, rfl, rfl⟩
  | succ j ih =>
    intro i s hi hs
    have hlt : i < w.length := by omega
    rw [iterF_succ, m_automaton_follow_l1, List.drop_eq_getElem_cons hlt, runDone]
    dsimp only
    rw [if_pos (ct_lt hlt), idx_at hlt, Option.bind_some, next_eq h (by omega), Option.bind_some, stF]
    cases hst : stepF a.es s w[i] with
    | none =>
      dsimp only
      rw [if_pos (by simp)]
      exact ⟨_, rfl, rfl⟩
    | some t =>
      dsimp only
      rw [if_neg (by simp), nxt (by omega)]
      dsimp only
      obtain ⟨o, h1, h2⟩ := ih (i + 1) t (by omega) (stepF_lt h hst)
      refine ⟨o, h1, ?_⟩
      rw [h2]
      congr 2; omega
theorem run_eq {a : Aut} (h : AOk a) (he : a.err = 0) (h0 : 0 < a.n) {w : List Int} (hl : w.length ≤ 1000000) (hw : ∀ x ∈ w, x ∈ a.al) : m_automaton_Run (autP a) 0 w = some (((runDone a.es 0 w).1 : Int), ((runDone a.es 0 w).2 : Int), 0) := by
  have hal := h.al
  obtain ⟨o, h1, h2⟩ := folW_eq h hl w.length 0 0 (by omega) (by omega)
  have hany := containsF_eq (xs := w) (p := m_automaton_Run_1 (autP a)) (q := fun y => !hasB a.al y) (by omega) (fun y hy => by
    rw [m_automaton_Run_1, show m_slices_Contains_int (autP a).1 y = some (hasB a.al y) from contains_eq (xs := a.al) (by omega)]; rfl)
  rw [m_automaton_Run, checkS_eq h he, Option.bind_some, if_neg (show ¬ ((0 : Int) < 0 ∨ a.n ≤ 0) by omega), if_neg (by simp), hany, Option.bind_some, any_subB, subB_of hw, if_neg (by simp), m_automaton_follow, show iter (m_automaton_follow_l1 (autP a) w) (0, 0) = some o from iter_of (by omega) h1, Option.bind_some]
  rw [List.drop_zero, Nat.zero_add] at h2
  cases o with
  | inl u =>
    dsimp only at h2 ⊢
    rw [h2]; rfl
  | inr u =>
    dsimp only at h2 ⊢
    rw [h2]; rfl
theorem words_eq {x : Sketch} (hx : SkOk x) {bs : List Int} (hb : ∀ y ∈ bs, 0 ≤ y ∧ y < 256) : m_overseerlaw53_GenerateWords x bs = some true := by
  rw [m_overseerlaw53_GenerateWords, known53, Option.bind_some, Option.bind_some]
  by_cases hl : bs.length > 12
  · rw [if_pos (by simp; omega)]
  · obtain ⟨a, l, n, h1, h⟩ := make53_ex hx
    have hal := h.gen.al
    have hn := h.gen.hn
    have hn0 := h.gen.n0
    rw [if_neg (by simp; omega), h1, Option.bind_some]
    dsimp only
    rw [h.code, Option.bind_some]
    dsimp only
    by_cases h0 : a.al.length = 0
    · rw [if_pos (by rw [Bool.or_eq_true]; right; show ((a.al.length : Int) == 0) = true; simp [h0])]; rfl
    · rw [if_neg (by rw [Bool.or_eq_true, not_or]; refine ⟨by simp, ?_⟩; show ¬ ((a.al.length : Int) == 0) = true; simpa using h0)]
      obtain ⟨w, i1, i2, i3⟩ := iter_inv (f := m_overseerlaw53_GenerateWords_l1 bs (autP a, l)) (fun i t => t.1 = (i : Int) ∧ t.2.length = i ∧ ∀ y ∈ t.2, y ∈ a.al) (fun o => o.length ≤ 12 ∧ ∀ y ∈ o, y ∈ a.al) bs.length 0 (by omega) (fun i t hi ⟨e1, e2, e3⟩ => by
          obtain ⟨t1, t2⟩ := t
          dsimp only at e1 e2 e3
          subst e1
          have hv := hb _ (List.getElem_mem hi)
          have hm0 := Int.emod_nonneg bs[i] (show (a.al.length : Int) ≠ 0 by omega)
          have hm1 := Int.emod_lt_of_pos bs[i] (show 0 < (a.al.length : Int) by omega)
          have hlt : (bs[i] % (a.al.length : Int)).toNat < a.al.length := by omega
          left
          rw [m_overseerlaw53_GenerateWords_l1]
          dsimp only
          rw [if_pos (ct_lt hi), idx_at hi, Option.bind_some, show (autP a).1 = a.al from rfl, show nz (a.al.length : Int) = some () from if_neg (by omega), Option.bind_some, W_of (by omega) (by omega), Int.tmod_eq_emod_of_nonneg hv.1, show bs[i] % (a.al.length : Int) = (((bs[i] % (a.al.length : Int)).toNat : Nat) : Int) by omega, idx_at hlt, Option.bind_some, app_eq (by simp; omega), Option.bind_some, nxt (by omega)]
          refine ⟨_, rfl, rfl, by simp; omega, fun y hy => ?_⟩
          rcases List.mem_append.1 hy with g | g
          · exact e3 y g
          · rw [List.mem_singleton.1 g]; exact List.getElem_mem hlt) (fun t ⟨e1, e2, e3⟩ => by
          obtain ⟨t1, t2⟩ := t
          dsimp only at e1 e2 e3
          subst e1
          rw [m_overseerlaw53_GenerateWords_l1]
          dsimp only
          rw [if_neg ct_ge]
          exact ⟨_, rfl, by omega, e3⟩) (by omega) (0, []) ⟨rfl, rfl, fun y hy => by cases hy⟩
      have hdl := runDone_le (es := a.es) w 0
      rw [i1, Option.bind_some, run_eq h.aok h.err (by omega) (by omega) i3, Option.bind_some, h.start, Option.bind_some]
      dsimp only
      rw [if_neg (by simp)]
      obtain ⟨o, j1, rfl⟩ := iter_inv (f := m_overseerlaw53_GenerateWords_l2 (codeP a l n, 0) w (((runDone a.es 0 w).1 : Int), ((runDone a.es 0 w).2 : Int), 0)) (fun i t => t.1 = (i : Int) ∧ Shows a l n ((w.take i).foldl (folStep a.es) (0, false)).1 ((w.take i).foldl (folStep a.es) (0, false)).2 t.2) (fun o => o = .inl ()) w.length 0 (by omega) (fun i t hi ⟨e1, e2⟩ => by
          obtain ⟨t1, t2⟩ := t
          dsimp only at e1 e2
          subst e1
          have hm := i3 _ (List.getElem_mem hi)
          obtain ⟨st', g4, g5⟩ := h.scan2 (ev := [w[i]]) (List.pairwise_singleton ..) (fun y hy => by rw [List.mem_singleton.1 hy]; exact hm) e2
          have e5 : ([w[i]].foldl (folStep a.es) (((w.take i).foldl (folStep a.es) (0, false)).1, ((w.take i).foldl (folStep a.es) (0, false)).2)) = (w.take (i + 1)).foldl (folStep a.es) (0, false) := by
            rw [List.take_succ_eq_append_getElem hi, List.foldl_append]
          rw [e5] at g5
          have hal2 := words_alarm (es := a.es) w 0 i hi
          have h5 := g5.v
          have hst := h5.state h
          rw [hal2] at h5
          left
          rw [m_overseerlaw53_GenerateWords_l2]
          dsimp only
          rw [if_pos (ct_lt hi), idx_at hi, Option.bind_some, g4, Option.bind_some]
          dsimp only
          rw [h5.alarm h, Option.bind_some]
          dsimp only
          rw [if_neg (by simp)]
          have hj : m_overseerlaw53_GenerateWords_j1 ((i : Int), t2) st'.1 st'.2 = some (.inl (((i + 1 : Nat) : Int), st')) := by
            rw [m_overseerlaw53_GenerateWords_j1]
            dsimp only
            rw [nxt (by omega)]
          by_cases hd : i + 1 = (runDone a.es 0 w).2
          · have hws := words_state (es := a.es) w 0
            rw [← hd] at hws
            rw [hws] at hst
            rw [if_pos (by rw [W_of (by omega) (by omega)]; simp; omega), hst, Option.bind_some]
            dsimp only
            rw [if_neg (by simp), hj]
            exact ⟨_, rfl, rfl, g5.v⟩
          · rw [if_neg (by rw [W_of (by omega) (by omega)]; simp; omega), hj]
            exact ⟨_, rfl, rfl, g5.v⟩) (fun t ⟨e1, e2⟩ => by
          obtain ⟨t1, t2⟩ := t
          dsimp only at e1
          subst e1
          rw [m_overseerlaw53_GenerateWords_l2]
          dsimp only
          rw [if_neg ct_ge]
          exact ⟨_, rfl, rfl⟩) (by omega) (0, List.replicate (l.length + 1) false, true :: List.replicate n false) ⟨rfl, Shows.start h.gen.n0⟩
      rw [j1]
      rfl
end Go.Proofs.Ytkkemchihllklaa

namespace Go.Proofs.Ytkkemchihllklaa
open Go Go.ChangeShapes Go.WideShapes Go.ChangeAt Go.RowKit

set_option maxRecDepth 100000 in
theorem generateWords_lifted (os : Os) (started : os.Started) (H : Type) (enc : TypeId × Value → H) :
    ReturnsInHanded {} Try.checked os 9 .any (Rows.generateWordsSpec.pre6 enc Try.prog Try.f9 Rows.generateWordsRow.domain false) (Rows.generateWordsSpec.post enc Try.prog Try.f9 false true false false) := by
  refine returnsInHanded_of_change (C := Try.checked) Try.own started (by kernel_rfl) Try.func9
    (ChangeSpec.witness6 (enc := enc) (C := Try.checked) false ⟨#[], #[.agg #[.int .u8 0, .int .u8 0, .int .u8 0, .int .u8 0, .int .u8 0, .int .u8 0, .int .u8 0, .int .u8 0, .int .u8 0, .int .u8 0, .int .u8 0, .int .u8 0, .int .u8 0, .int .u8 0, .int .u8 0, .int .u8 0, .int .u8 0, .int .u8 0, .int .u8 0, .int .u8 0, .int .u8 0, .int .u8 0, .int .u8 0, .int .u8 0, .int .u8 0, .int .u8 0, .int .u8 0, .int .u8 0, .int .u8 0], .slice none 0 0], []⟩ 8 (by kernel_rfl) (by kernel_rfl) (by kernel_rfl) (by kernel_rfl)) ?_
  intro W base args ds gs before hval0 hW hcnd _
  have hval : ∀ (j : Nat) t v, Try.f9.params[j]? = some t → args[j]? = some v → Value.okWide Try.prog W .any base t v := hval0
  have hW' := hW
  obtain ⟨p, q, hA0, hV, rfl, hfz, hnd⟩ := hW
  have hA : DataW.TrodAll enc Try.prog W 0 (fun _ => true) true Try.f9.params.toList args.toList ds p := hA0
  rw [Try.params9] at hA hval
  obtain ⟨v0, v1, d0, d1, p0, p1, rfl, rfl, rfl, h0, h1⟩ := trodAll_two hA
  obtain ⟨x, hx, rfl⟩ := arg_sketch (hval 0 51 v0 rfl rfl)
  obtain ⟨a1, c1, xs1, rfl, r1, k1⟩ := arg_bytes (hval 1 52 v1 rfl rfl) h1
  obtain ⟨rfl, rfl⟩ := trodVars_none hV
  clear hA0 hval0
  refine (m_overseerlaw53_GenerateWords_c (s := ⟨W, fun _ => 0⟩) r1 (words_eq hx k1)).mono fun e W' ⟨v, s', hw, he, hm, hv⟩ => ?_
  subst hw
  subst he
  subst hv
  have hbl := hm.below
  exact ⟨_, rfl, law_post Try.laidOut hW' rfl (by kernel_rfl) (by kernel_rfl) Try.underlying4 rfl rfl rfl hbl⟩

/-- The statement. -/
theorem generateWords_holds : Rows.GenerateWordsSaid :=
  OpenClaim.holds_of_wide 9 Try.f9 rfl rfl rfl rfl rfl rfl rfl ⟨rfl, rfl, rfl, rfl, rfl⟩ rfl rfl rfl rfl rfl (by kernel_rfl) Try.func9 (by kernel_rfl)
    (of_decide_eq_true (by kernel_rfl)) (by unfold Func.isWrapper; first | (rw [if_pos (by decide +kernel)]; kernel_rfl) | (rw [if_neg (by decide +kernel)]; exact ⟨rfl, rfl⟩))
    (fun os started H enc _ => generateWords_lifted os started H enc)
end Go.Proofs.Ytkkemchihllklaa
