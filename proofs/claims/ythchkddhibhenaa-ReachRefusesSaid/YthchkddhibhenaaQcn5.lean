/- Parts of the proof, without what nothing here names. -/
import Derived.Test.YthchkddhibhenaaProg
import Derived.Test.YthchkddhibhenaaQcn4
namespace Go.Proofs.Ythchkddhibhenaa
open Go Go.RowKit
theorem nag3 : NAg Try.prog 3 := NAg.mk' Try.underlying3 rfl (by kernel_rfl)
theorem sl28 : Sl Try.prog 28 3 1 := Sl.mk' Try.underlying28 (by kernel_rfl)
noncomputable def m_automaton_checkSet_l1 (p0 : List Int) (p1 : Int) (st13 : Int) : Option (Int ⊕ (Unit ⊕ Int)) :=
  if decide (st13 < (p0.length : Int)) then
    (idx p0 st13).bind fun x22 =>
    if ((decide (x22 < 0)) || (decide (x22 ≥ p1))) then
      some (.inr (.inr (2)))
    else
      (if decide (st13 > 0) then
        (idx p0 (W (st13 - 1))).bind fun x28 =>
        some (decide (x22 ≤ x28))
      else
        some false).bind fun b25 =>
      if b25 then
        some (.inr (.inr (5)))
      else
        some (.inl (W (st13 + 1)))
  else
    some (.inr (.inl ()))
/-- What automaton.checkSet computes. -/
noncomputable def m_automaton_checkSet (p0 : List Int) (p1 : Int) : Option Int :=
  (iter (m_automaton_checkSet_l1 p0 p1) 0).bind fun o13 =>
  match o13 with
  | .inl u16 =>
    some 0
  | .inr (u19) =>
    some u19
set_option maxRecDepth 100000 in
set_option maxHeartbeats 8000000 in
theorem m_automaton_checkSet_c {s : Sig} {p0 : List Int} {p1 : Int} {a1 : Option Addr} {c1 : Nat} {r : Int} (h1 : RdL (rK .i64) s a1 c1 p0) (hm : m_automaton_checkSet p0 p1 = some r) :
    Calls Try.prog 77 #[.slice a1 p0.length c1, .int .i64 p1] s.w (RetS No s fun v s' => v = .int .i64 r) := by
  unfold m_automaton_checkSet at hm
  obtain ⟨N, hN, hNb⟩ := s.fresh
  have m0 : Mv (Up N No) s s := Mv.refl _ _
  refine E.entry (vs := [.slice a1 p0.length c1, .int .i64 p1]) (e := [(0, .slice a1 p0.length c1), (1, .int .i64 p1)]) Try.func77 rfl Try.ntmps77 rfl rfl ?_
  refine E.seq ?_
  refine E.reg ?_
  refine L.as Wt.no rfl rfl ?_
  refine L.nil ?_
  refine X.seqN ?_
  refine E.seq ?_
  refine E.seq ?_
  refine E.reg ?_
  refine L.mv Wt.no rfl rfl ?_
  refine L.len sl28 Wt.no rfl rfl ?_
  refine L.mv Wt.no rfl rfl ?_
  refine L.nil ?_
  refine X.seqN ?_
  refine E.block ?_
  obtain ⟨o13, eo13, hm⟩ := bindS hm
  refine E.cut (x := .exit 0) (fun e w => ∃ (s17 : Sig) (u16 : Unit), o13 = .inl u16 ∧ Mv (Up N No) s s17 ∧ e = [] ∧ w = s17.w) ?_ ?_
  · rintro _ _ ⟨s17, u16, rfl, m0, rfl, rfl⟩
    dsimp only at hm
    refine X.blkE ?_
    refine X.seqN ?_
    refine E.seq ?_
    refine E.reg ?_
    refine L.as Wt.no rfl rfl ?_
    refine L.nil ?_
    refine X.seqN ?_
    refine E.ret ?_
    obtain rfl := Option.some.inj hm
    exact X.rt (.inl rfl) Try.results77 (Rs.tmp rfl Rs.nil) rfl ⟨_, (s17).ren N (fun _ => 0), rfl, rfl, m0.ren hNb, rfl⟩
  intro K18
  refine E.cut (x := .ret) (fun e w => ∃ (s20 : Sig) (u19 : Int), o13 = .inr (u19) ∧ Mv (Up N No) s s20 ∧ e = [(4, .int .i64 u19)] ∧ w = s20.w) ?_ ?_
  · rintro _ _ ⟨s20, u19, rfl, m0, rfl, rfl⟩
    dsimp only at hm
    refine X.blkR ?_
    refine X.seqR ?_
    obtain rfl := Option.some.inj hm
    exact X.rt (.inl rfl) Try.results77 (Rs.tmp rfl Rs.nil) rfl ⟨_, (s20).ren N (fun _ => 0), rfl, rfl, m0.ren hNb, rfl⟩
  intro K21
  refine E.iter (fun (st13 : Int) (e : List (Nat × Value)) (w : World) => ∃ (s15 : Sig), Mv (Up N No) s s15 ∧ RdL (rK .i64) s15 a1 c1 p0 ∧ e = [(9, .int .i64 st13), (8, .int .i64 (p0.length : Int)), (7, .slice a1 p0.length c1), (0, .slice a1 p0.length c1), (1, .int .i64 p1)] ∧ w = s15.w) eo13 ⟨s, m0, h1, rfl, rfl⟩ (Sub.cons rfl (Sub.cons rfl (Sub.cons rfl (Sub.cons rfl (Sub.cons rfl Sub.nil))))) ?_
  rintro st13 res13 hm ih13 ho13 _ _ ⟨s15, m0, h1, rfl, rfl⟩
  unfold m_automaton_checkSet_l1 at hm
  refine E.seq ?_
  refine E.reg ?_
  refine L.bi Wt.no rfl rfl rfl rfl ?_
  refine L.nil ?_
  refine X.seqN ?_
  refine E.seq ?_
  rcases ifS hm with ⟨hc, hm⟩ | ⟨hc, hm⟩
  · refine E.cT rfl hc ?_
    refine E.skip ?_
    refine X.seqN ?_
    refine E.seq ?_
    refine E.block ?_
    refine E.seq ?_
    refine E.reg ?_
    refine L.mv Wt.no rfl rfl ?_
    obtain ⟨x22, ex22, hm⟩ := bindS hm
    refine L.ix (r := (rK .i64)) sl28 h1 Wt.no rfl rfl ex22 rfl ?_
    rintro b23 o23 cc23 me23 rd23
    obtain rfl := rd23
    refine L.ld (j := 0) me23 nag3 Wt.no rfl rfl rfl rfl ?_
    refine L.as Wt.no rfl rfl ?_
    refine L.as Wt.no rfl rfl ?_
    refine L.nil ?_
    refine X.seqN ?_
    refine E.block ?_
    refine E.seq ?_
    refine E.reg ?_
    refine L.mv Wt.no rfl rfl ?_
    refine L.bi Wt.no rfl rfl rfl rfl ?_
    refine L.mv Wt.no rfl rfl ?_
    refine L.cut 4 (fun e w => ∃ (v24 : Bool), ((decide (x22 < 0)) || (decide (x22 ≥ p1))) = v24 ∧ e = (21, .bool v24) :: [(6, .int .i64 x22), (5, .int .i64 st13), (9, .int .i64 st13), (8, .int .i64 (p0.length : Int)), (7, .slice a1 p0.length c1), (0, .slice a1 p0.length c1), (1, .int .i64 p1)] ∧ w = s15.w) ?_ ?_
    · rintro _ _ ⟨v24, rfl, rfl, rfl⟩
      refine L.as Wt.no rfl rfl ?_
      refine L.nil ?_
      refine X.seqN ?_
      rcases ifS hm with ⟨hc, hm⟩ | ⟨hc, hm⟩
      · refine E.cT rfl hc ?_
        refine E.seq ?_
        refine E.reg ?_
        refine L.as Wt.no rfl rfl ?_
        refine L.nil ?_
        refine X.seqN ?_
        refine E.ret ?_
        refine X.blkR ?_
        refine X.blkR ?_
        refine X.seqR ?_
        refine X.seqR ?_
        have hx := ho13 _ (Option.some.inj hm).symm
        exact X.sub (K21 _ _ ⟨s15, 2, hx.symm, m0, rfl, rfl⟩) (Sub.cons rfl Sub.nil)
      · refine E.cF rfl hc ?_
        refine E.seq ?_
        refine E.reg ?_
        refine L.mv Wt.no rfl rfl ?_
        refine L.bi Wt.no rfl rfl rfl rfl ?_
        refine L.mv Wt.no rfl rfl ?_
        obtain ⟨b25, eb25, hm⟩ := bindS hm
        refine L.cut 8 (fun e w => ∃ (v26 : Bool), b25 = v26 ∧ e = (33, .bool v26) :: [(9, .int .i64 st13), (8, .int .i64 (p0.length : Int)), (7, .slice a1 p0.length c1), (0, .slice a1 p0.length c1), (1, .int .i64 p1)] ∧ w = s15.w) ?_ ?_
        · rintro _ _ ⟨v26, rfl, rfl, rfl⟩
          refine L.as Wt.no rfl rfl ?_
          refine L.nil ?_
          refine X.seqN ?_
          rcases ifS hm with ⟨hc, hm⟩ | ⟨hc, hm⟩
          · refine E.cT rfl hc ?_
            refine E.seq ?_
            refine E.reg ?_
            refine L.as Wt.no rfl rfl ?_
            refine L.nil ?_
            refine X.seqN ?_
            refine E.ret ?_
            refine X.blkR ?_
            refine X.blkR ?_
            refine X.seqR ?_
            refine X.seqR ?_
            have hx := ho13 _ (Option.some.inj hm).symm
            exact X.sub (K21 _ _ ⟨s15, 5, hx.symm, m0, rfl, rfl⟩) (Sub.cons rfl Sub.nil)
          · refine E.cF rfl hc ?_
            refine E.skip ?_
            refine X.blkN ?_
            refine X.blkN ?_
            refine X.seqN ?_
            refine E.reg ?_
            refine L.bi Wt.no rfl rfl rfl rfl ?_
            refine L.mv Wt.no rfl rfl ?_
            refine L.nil ?_
            exact X.sub (ih13 _ (Option.some.inj hm).symm _ _ ⟨s15, m0, h1, rfl, rfl⟩) (Sub.cons rfl (Sub.cons rfl (Sub.cons rfl (Sub.cons rfl (Sub.cons rfl Sub.nil)))))
        · intro J27
          rcases ifS eb25 with ⟨hc, hm⟩ | ⟨hc, hm⟩
          · refine L.know (d := 25) rfl hc ?_
            refine L.mv (Wt.mk rfl rfl) rfl rfl ?_
            refine L.mv (Wt.mk rfl rfl) rfl rfl ?_
            refine L.mv (Wt.mk rfl rfl) rfl rfl ?_
            refine L.bi (Wt.mk rfl rfl) rfl rfl rfl rfl ?_
            obtain ⟨x28, ex28, hm⟩ := bindS hm
            refine L.ix (r := (rK .i64)) sl28 h1 (Wt.mk rfl rfl) rfl rfl ex28 rfl ?_
            rintro b29 o29 cc29 me29 rd29
            obtain rfl := rd29
            refine L.ld (j := 0) me29 nag3 (Wt.mk rfl rfl) rfl rfl rfl rfl ?_
            refine L.bi (Wt.mk rfl rfl) rfl rfl rfl rfl ?_
            refine L.pkT Wt.no rfl rfl rfl rfl ?_
            exact L.sub (Sub.cons rfl (Sub.cons rfl (Sub.cons rfl (Sub.cons rfl (Sub.cons rfl (Sub.cons rfl Sub.nil)))))) (J27 _ _ ⟨(decide (x22 ≤ x28)), (Option.some.inj hm).symm, rfl, rfl⟩)
          · refine L.know (d := 25) rfl hc ?_
            refine L.skip rfl rfl rfl rfl ?_
            refine L.skip rfl rfl rfl rfl ?_
            refine L.skip rfl rfl rfl rfl ?_
            refine L.skip rfl rfl rfl rfl ?_
            refine L.skip rfl rfl rfl rfl ?_
            refine L.skip rfl rfl rfl rfl ?_
            refine L.skip rfl rfl rfl rfl ?_
            refine L.pkF Wt.no rfl rfl rfl rfl ?_
            exact L.sub (Sub.cons rfl (Sub.cons rfl (Sub.cons rfl (Sub.cons rfl (Sub.cons rfl (Sub.cons rfl Sub.nil)))))) (J27 _ _ ⟨false, (Option.some.inj hm).symm, rfl, rfl⟩)
    · intro J30
      rcases Bool.eq_false_or_eq_true (decide (x22 < 0)) with hc | hc
      · refine L.know (d := 17) rfl hc ?_
        refine L.skip rfl rfl rfl rfl ?_
        refine L.skip rfl rfl rfl rfl ?_
        refine L.skip rfl rfl rfl rfl ?_
        refine L.pkT Wt.no rfl rfl rfl rfl ?_
        exact L.sub (Sub.cons rfl (Sub.cons rfl (Sub.cons rfl (Sub.cons rfl (Sub.cons rfl (Sub.cons rfl (Sub.cons rfl (Sub.cons rfl Sub.nil)))))))) (J30 _ _ ⟨true, (orT hc).symm, rfl, rfl⟩)
      · refine L.know (d := 17) rfl hc ?_
        refine L.mv (Wt.mk rfl rfl) rfl rfl ?_
        refine L.mv (Wt.mk rfl rfl) rfl rfl ?_
        refine L.bi (Wt.mk rfl rfl) rfl rfl rfl rfl ?_
        refine L.pkF Wt.no rfl rfl rfl rfl ?_
        exact L.sub (Sub.cons rfl (Sub.cons rfl (Sub.cons rfl (Sub.cons rfl (Sub.cons rfl (Sub.cons rfl (Sub.cons rfl (Sub.cons rfl Sub.nil)))))))) (J30 _ _ ⟨(decide (x22 ≥ p1)), (orF hc).symm, rfl, rfl⟩)
  · refine E.cF rfl hc ?_
    refine E.exit ?_
    refine X.seqX ?_
    refine X.seqX ?_
    have hx := ho13 _ (Option.some.inj hm).symm
    exact X.sub (K18 _ _ ⟨s15, (), hx.symm, m0, rfl, rfl⟩) Sub.nil

noncomputable def m_slices_Index_int_l1 (p0 : List Int) (p1 : Int) (st6 : Int) : Option (Int ⊕ (Unit ⊕ Int)) :=
  if decide (st6 < (p0.length : Int)) then
    (idx p0 st6).bind fun x15 =>
    if (p1 == x15) then
      some (.inr (.inr (st6)))
    else
      some (.inl (W (st6 + 1)))
  else
    some (.inr (.inl ()))
/-- What slices.Index<<>int,int> computes. -/
noncomputable def m_slices_Index_int (p0 : List Int) (p1 : Int) : Option Int :=
  (iter (m_slices_Index_int_l1 p0 p1) 0).bind fun o6 =>
  match o6 with
  | .inl u9 =>
    some (-1)
  | .inr (u12) =>
    some u12
set_option maxRecDepth 100000 in
set_option maxHeartbeats 8000000 in
theorem m_slices_Index_int_c {s : Sig} {p0 : List Int} {p1 : Int} {a1 : Option Addr} {c1 : Nat} {r : Int} (h1 : RdL (rK .i64) s a1 c1 p0) (hm : m_slices_Index_int p0 p1 = some r) :
    Calls Try.prog 80 #[.slice a1 p0.length c1, .int .i64 p1] s.w (RetS No s fun v s' => v = .int .i64 r) := by
  unfold m_slices_Index_int at hm
  obtain ⟨N, hN, hNb⟩ := s.fresh
  have m0 : Mv (Up N No) s s := Mv.refl _ _
  refine E.entry (vs := [.slice a1 p0.length c1, .int .i64 p1]) (e := [(0, .slice a1 p0.length c1), (1, .int .i64 p1)]) Try.func80 rfl Try.ntmps80 rfl rfl ?_
  refine E.seq ?_
  refine E.reg ?_
  refine L.as Wt.no rfl rfl ?_
  refine L.nil ?_
  refine X.seqN ?_
  refine E.seq ?_
  refine E.seq ?_
  refine E.reg ?_
  refine L.mv Wt.no rfl rfl ?_
  refine L.len sl28 Wt.no rfl rfl ?_
  refine L.mv Wt.no rfl rfl ?_
  refine L.nil ?_
  refine X.seqN ?_
  refine E.block ?_
  obtain ⟨o6, eo6, hm⟩ := bindS hm
  refine E.cut (x := .exit 0) (fun e w => ∃ (s10 : Sig) (u9 : Unit), o6 = .inl u9 ∧ Mv (Up N No) s s10 ∧ e = [] ∧ w = s10.w) ?_ ?_
  · rintro _ _ ⟨s10, u9, rfl, m0, rfl, rfl⟩
    dsimp only at hm
    refine X.blkE ?_
    refine X.seqN ?_
    refine E.seq ?_
    refine E.reg ?_
    refine L.as Wt.no rfl rfl ?_
    refine L.nil ?_
    refine X.seqN ?_
    refine E.ret ?_
    obtain rfl := Option.some.inj hm
    exact X.rt (.inl rfl) Try.results80 (Rs.tmp rfl Rs.nil) rfl ⟨_, (s10).ren N (fun _ => 0), rfl, rfl, m0.ren hNb, rfl⟩
  intro K11
  refine E.cut (x := .ret) (fun e w => ∃ (s13 : Sig) (u12 : Int), o6 = .inr (u12) ∧ Mv (Up N No) s s13 ∧ e = [(4, .int .i64 u12)] ∧ w = s13.w) ?_ ?_
  · rintro _ _ ⟨s13, u12, rfl, m0, rfl, rfl⟩
    dsimp only at hm
    refine X.blkR ?_
    refine X.seqR ?_
    obtain rfl := Option.some.inj hm
    exact X.rt (.inl rfl) Try.results80 (Rs.tmp rfl Rs.nil) rfl ⟨_, (s13).ren N (fun _ => 0), rfl, rfl, m0.ren hNb, rfl⟩
  intro K14
  refine E.iter (fun (st6 : Int) (e : List (Nat × Value)) (w : World) => ∃ (s8 : Sig), Mv (Up N No) s s8 ∧ RdL (rK .i64) s8 a1 c1 p0 ∧ e = [(8, .int .i64 st6), (7, .int .i64 (p0.length : Int)), (0, .slice a1 p0.length c1), (1, .int .i64 p1)] ∧ w = s8.w) eo6 ⟨s, m0, h1, rfl, rfl⟩ (Sub.cons rfl (Sub.cons rfl (Sub.cons rfl (Sub.cons rfl Sub.nil)))) ?_
  rintro st6 res6 hm ih6 ho6 _ _ ⟨s8, m0, h1, rfl, rfl⟩
  unfold m_slices_Index_int_l1 at hm
  refine E.seq ?_
  refine E.reg ?_
  refine L.bi Wt.no rfl rfl rfl rfl ?_
  refine L.nil ?_
  refine X.seqN ?_
  refine E.seq ?_
  rcases ifS hm with ⟨hc, hm⟩ | ⟨hc, hm⟩
  · refine E.cT rfl hc ?_
    refine E.skip ?_
    refine X.seqN ?_
    refine E.seq ?_
    refine E.block ?_
    refine E.seq ?_
    refine E.reg ?_
    refine L.mv Wt.no rfl rfl ?_
    refine L.as Wt.no rfl rfl ?_
    refine L.nil ?_
    refine X.seqN ?_
    refine E.seq ?_
    refine E.reg ?_
    refine L.mv Wt.no rfl rfl ?_
    refine L.mv Wt.no rfl rfl ?_
    refine L.mv Wt.no rfl rfl ?_
    obtain ⟨x15, ex15, hm⟩ := bindS hm
    refine L.ix (r := (rK .i64)) sl28 h1 Wt.no rfl rfl ex15 rfl ?_
    rintro b16 o16 cc16 me16 rd16
    obtain rfl := rd16
    refine L.ld (j := 0) me16 nag3 Wt.no rfl rfl rfl rfl ?_
    refine L.bi Wt.no rfl rfl rfl rfl ?_
    refine L.nil ?_
    refine X.seqN ?_
    rcases ifS hm with ⟨hc, hm⟩ | ⟨hc, hm⟩
    · refine E.cT rfl hc ?_
      refine E.seq ?_
      refine E.reg ?_
      refine L.mv Wt.no rfl rfl ?_
      refine L.as Wt.no rfl rfl ?_
      refine L.nil ?_
      refine X.seqN ?_
      refine E.ret ?_
      refine X.blkR ?_
      refine X.seqR ?_
      refine X.seqR ?_
      have hx := ho6 _ (Option.some.inj hm).symm
      exact X.sub (K14 _ _ ⟨s8, st6, hx.symm, m0, rfl, rfl⟩) (Sub.cons rfl Sub.nil)
    · refine E.cF rfl hc ?_
      refine E.skip ?_
      refine X.blkN ?_
      refine X.seqN ?_
      refine E.reg ?_
      refine L.bi Wt.no rfl rfl rfl rfl ?_
      refine L.mv Wt.no rfl rfl ?_
      refine L.nil ?_
      exact X.sub (ih6 _ (Option.some.inj hm).symm _ _ ⟨s8, m0, h1, rfl, rfl⟩) (Sub.cons rfl (Sub.cons rfl (Sub.cons rfl (Sub.cons rfl Sub.nil))))
  · refine E.cF rfl hc ?_
    refine E.exit ?_
    refine X.seqX ?_
    refine X.seqX ?_
    have hx := ho6 _ (Option.some.inj hm).symm
    exact X.sub (K11 _ _ ⟨s8, (), hx.symm, m0, rfl, rfl⟩) Sub.nil

theorem cf80 : Cf Try.prog 80 := Cf.mk Try.func80 (by kernel_rfl) (by kernel_rfl)
/-- What slices.Contains<<>int,int> computes. -/
noncomputable def m_slices_Contains_int (p0 : List Int) (p1 : Int) : Option Bool :=
  (m_slices_Index_int p0 p1).bind fun r2 =>
  some (decide (r2 ≥ 0))
set_option maxRecDepth 100000 in
set_option maxHeartbeats 8000000 in
theorem m_slices_Contains_int_c {s : Sig} {p0 : List Int} {p1 : Int} {a1 : Option Addr} {c1 : Nat} {r : Bool} (h1 : RdL (rK .i64) s a1 c1 p0) (hm : m_slices_Contains_int p0 p1 = some r) :
    Calls Try.prog 57 #[.slice a1 p0.length c1, .int .i64 p1] s.w (RetS No s fun v s' => v = .bool r) := by
  unfold m_slices_Contains_int at hm
  obtain ⟨N, hN, hNb⟩ := s.fresh
  have m0 : Mv (Up N No) s s := Mv.refl _ _
  refine E.entry (vs := [.slice a1 p0.length c1, .int .i64 p1]) (e := [(0, .slice a1 p0.length c1), (1, .int .i64 p1)]) Try.func57 rfl Try.ntmps57 rfl rfl ?_
  refine E.seq ?_
  refine E.reg ?_
  refine L.as Wt.no rfl rfl ?_
  refine L.nil ?_
  refine X.seqN ?_
  refine E.seq ?_
  refine E.reg ?_
  refine L.mv Wt.no rfl rfl ?_
  refine L.mv Wt.no rfl rfl ?_
  obtain ⟨r2, er2, hm⟩ := bindS hm
  refine L.ca (vs := [.slice a1 p0.length c1, .int .i64 p1]) cf80 rfl rfl Wt.no rfl (m_slices_Index_int_c (s := s) (p0 := p0) (p1 := p1) h1 er2) rfl ?_
  rintro _ s3 m4 rfl
  replace m0 := m0.trans m4.no
  refine L.bi Wt.no rfl rfl rfl rfl ?_
  refine L.as Wt.no rfl rfl ?_
  refine L.nil ?_
  refine X.seqN ?_
  refine E.ret ?_
  obtain rfl := Option.some.inj hm
  exact X.rt (.inl rfl) Try.results57 (Rs.tmp rfl Rs.nil) rfl ⟨_, (s3).ren N (fun _ => 0), rfl, rfl, m0.ren hNb, rfl⟩

theorem ag45 : Ag Try.prog 45 3 := Ag.mk' Try.underlying45 rfl (by kernel_rfl)
theorem cf57 : Cf Try.prog 57 := Cf.mk Try.func57 (by kernel_rfl) (by kernel_rfl)
theorem fa31_0 : FA Try.prog 31 0 0 := FA.mk Try.underlying31 rfl rfl ⟨1, by decide, by kernel_rfl⟩
theorem fa31_1 : FA Try.prog 31 1 1 := FA.mk Try.underlying31 rfl rfl ⟨1, by decide, by kernel_rfl⟩
theorem fa31_3 : FA Try.prog 31 3 3 := FA.mk Try.underlying31 rfl rfl ⟨1, by decide, by kernel_rfl⟩
theorem fa45_0 : FA Try.prog 45 0 0 := FA.mk Try.underlying45 rfl rfl ⟨1, by decide, by kernel_rfl⟩
theorem fa45_1 : FA Try.prog 45 1 1 := FA.mk Try.underlying45 rfl rfl ⟨1, by decide, by kernel_rfl⟩
theorem fa45_2 : FA Try.prog 45 2 2 := FA.mk Try.underlying45 rfl rfl ⟨1, by decide, by kernel_rfl⟩
theorem nag28 : NAg Try.prog 28 := NAg.mk' Try.underlying28 rfl (by kernel_rfl)
theorem nag29 : NAg Try.prog 29 := NAg.mk' Try.underlying29 rfl (by kernel_rfl)
theorem sl29 : Sl Try.prog 29 45 3 := Sl.mk' Try.underlying29 (by kernel_rfl)
theorem zz45 : (Try.prog.info? 45).bind (·.zero) = some (.agg #[.int .i64 0, .int .i64 0, .int .i64 0]) := by kernel_rfl
noncomputable def m_automaton_checkEdges_j1 (st38 : Int) : Option (Int ⊕ (Unit ⊕ Int)) :=
  some (.inl (W (st38 + 1)))
noncomputable def m_automaton_checkEdges_l1 (p0 : List Int × Int × List Int × (List (Int × Int × Int))) (st38 : Int) : Option (Int ⊕ (Unit ⊕ Int)) :=
  if decide (st38 < (p0.2.2.2.length : Int)) then
    (idx p0.2.2.2 st38).bind fun x49 =>
    if ((((decide (x49.1 < 0)) || (decide (x49.1 ≥ p0.2.1))) || (decide (x49.2.2 < 0))) || (decide (x49.2.2 ≥ p0.2.1))) then
      some (.inr (.inr (2)))
    else
      (m_slices_Contains_int p0.1 x49.2.1).bind fun r59 =>
      if (!r59) then
        some (.inr (.inr (9)))
      else
        if (st38 == 0) then
          m_automaton_checkEdges_j1 st38
        else
          (idx p0.2.2.2 (W (st38 - 1))).bind fun x62 =>
          if ((decide (x49.1 < x62.1)) || ((x49.1 == x62.1) && (decide (x49.2.1 ≤ x62.2.1)))) then
            some (.inr (.inr (5)))
          else
            m_automaton_checkEdges_j1 st38
  else
    some (.inr (.inl ()))
/-- What automaton.checkEdges computes. -/
noncomputable def m_automaton_checkEdges (p0 : List Int × Int × List Int × (List (Int × Int × Int))) : Option Int :=
  (iter (m_automaton_checkEdges_l1 p0) 0).bind fun o38 =>
  match o38 with
  | .inl u41 =>
    some 0
  | .inr (u44) =>
    some u44
set_option maxRecDepth 100000 in
set_option maxHeartbeats 8000000 in
theorem m_automaton_checkEdges_c {s : Sig} {p0 : List Int × Int × List Int × (List (Int × Int × Int))} {a1 : Option Addr} {c1 : Nat} {a2 : Option Addr} {c2 : Nat} {a3 : Option Addr} {c3 : Nat} {r : Int} (h1 : RdL (rK .i64) s a1 c1 p0.1) (h2 : RdL (rK .i64) s a2 c2 p0.2.2.1) (h3 : RdL (rP (rK .i64) (rP (rK .i64) (rK .i64))) s a3 c3 p0.2.2.2) (hm : m_automaton_checkEdges p0 = some r) :
    Calls Try.prog 78 #[.agg #[.slice a1 p0.1.length c1, .int .i64 p0.2.1, .slice a2 p0.2.2.1.length c2, .slice a3 p0.2.2.2.length c3]] s.w (RetS No s fun v s' => v = .int .i64 r) := by
  unfold m_automaton_checkEdges at hm
  obtain ⟨N, hN, hNb⟩ := s.fresh
  have m0 : Mv (Up N No) s s := Mv.refl _ _
  refine E.entry (vs := [.agg #[.slice a1 p0.1.length c1, .int .i64 p0.2.1, .slice a2 p0.2.2.1.length c2, .slice a3 p0.2.2.2.length c3]]) (e := [(0, .agg #[.slice a1 p0.1.length c1, .int .i64 p0.2.1, .slice a2 p0.2.2.1.length c2, .slice a3 p0.2.2.2.length c3])]) Try.func78 rfl Try.ntmps78 rfl rfl ?_
  refine E.seq ?_
  refine E.reg ?_
  refine L.box (N + 0) Wt.no rfl rfl rfl ?_
  intro b4 s5 m6 bx4
  replace m0 := m0.trans m6.no
  replace h1 := h1.mono (m6.le no_No)
  replace h2 := h2.mono (m6.le no_No)
  replace h3 := h3.mono (m6.le no_No)
  refine L.as Wt.no rfl rfl ?_
  refine L.nil ?_
  refine X.seqN ?_
  refine E.seq ?_
  refine E.seq ?_
  refine E.reg ?_
  refine L.fa fa31_3 Wt.no rfl rfl ?_
  refine L.ld (j := 3) bx4.mem nag29 Wt.no rfl rfl rfl rfl ?_
  refine L.len sl29 Wt.no rfl rfl ?_
  refine L.mv Wt.no rfl rfl ?_
  refine L.nil ?_
  refine X.seqN ?_
  refine E.block ?_
  obtain ⟨o38, eo38, hm⟩ := bindS hm
  refine E.cut (x := .exit 0) (fun e w => ∃ (s42 : Sig) (u41 : Unit), o38 = .inl u41 ∧ Mv (Up N No) s s42 ∧ e = [] ∧ w = s42.w) ?_ ?_
  · rintro _ _ ⟨s42, u41, rfl, m0, rfl, rfl⟩
    dsimp only at hm
    refine X.blkE ?_
    refine X.seqN ?_
    refine E.seq ?_
    refine E.reg ?_
    refine L.as Wt.no rfl rfl ?_
    refine L.nil ?_
    refine X.seqN ?_
    refine E.ret ?_
    obtain rfl := Option.some.inj hm
    exact X.rt (.inl rfl) Try.results78 (Rs.tmp rfl Rs.nil) rfl ⟨_, (s42).ren N (fun _ => 0), rfl, rfl, m0.ren hNb, rfl⟩
  intro K43
  refine E.cut (x := .ret) (fun e w => ∃ (s45 : Sig) (u44 : Int), o38 = .inr (u44) ∧ Mv (Up N No) s s45 ∧ e = [(2, .int .i64 u44)] ∧ w = s45.w) ?_ ?_
  · rintro _ _ ⟨s45, u44, rfl, m0, rfl, rfl⟩
    dsimp only at hm
    refine X.blkR ?_
    refine X.seqR ?_
    obtain rfl := Option.some.inj hm
    exact X.rt (.inl rfl) Try.results78 (Rs.tmp rfl Rs.nil) rfl ⟨_, (s45).ren N (fun _ => 0), rfl, rfl, m0.ren hNb, rfl⟩
  intro K46
  refine E.iter (fun (st38 : Int) (e : List (Nat × Value)) (w : World) => ∃ (s40 : Sig), Mv (Up N No) s s40 ∧ RdL (rP (rK .i64) (rP (rK .i64) (rK .i64))) s40 a3 c3 p0.2.2.2 ∧ RdL (rK .i64) s40 a1 c1 p0.1 ∧ RdL (rK .i64) s40 a2 c2 p0.2.2.1 ∧ Bx s40 (N + 0) b4 #[.slice a1 p0.1.length c1, .int .i64 p0.2.1, .slice a2 p0.2.2.1.length c2, .slice a3 p0.2.2.2.length c3] 31 ∧ e = [(9, .int .i64 st38), (8, .int .i64 (p0.2.2.2.length : Int)), (7, .slice a3 p0.2.2.2.length c3), (1, .pointer (some ⟨b4, 0, none⟩))] ∧ w = s40.w) eo38 ⟨s5, m0, h3, h1, h2, bx4, rfl, rfl⟩ (Sub.cons rfl (Sub.cons rfl (Sub.cons rfl (Sub.cons rfl Sub.nil)))) ?_
  rintro st38 res38 hm ih38 ho38 _ _ ⟨s40, m0, h3, h1, h2, bx4, rfl, rfl⟩
  unfold m_automaton_checkEdges_l1 at hm
  refine E.seq ?_
  refine E.reg ?_
  refine L.bi Wt.no rfl rfl rfl rfl ?_
  refine L.nil ?_
  refine X.seqN ?_
  refine E.seq ?_
  rcases ifS hm with ⟨hc, hm⟩ | ⟨hc, hm⟩
  · refine E.cT rfl hc ?_
    refine E.skip ?_
    refine X.seqN ?_
    refine E.seqJ (fun e w => ∃ (s47 : Sig), m_automaton_checkEdges_j1 st38 = some res38 ∧ Mv (Up N No) s s47 ∧ RdL (rP (rK .i64) (rP (rK .i64) (rK .i64))) s47 a3 c3 p0.2.2.2 ∧ RdL (rK .i64) s47 a1 c1 p0.1 ∧ RdL (rK .i64) s47 a2 c2 p0.2.2.1 ∧ Bx s47 (N + 0) b4 #[.slice a1 p0.1.length c1, .int .i64 p0.2.1, .slice a2 p0.2.2.1.length c2, .slice a3 p0.2.2.2.length c3] 31 ∧ e = [(9, .int .i64 st38), (8, .int .i64 (p0.2.2.2.length : Int)), (7, .slice a3 p0.2.2.2.length c3), (1, .pointer (some ⟨b4, 0, none⟩))] ∧ w = s47.w) ?_ ?_
    · rintro _ _ ⟨s47, hm, m0, h3, h1, h2, bx4, rfl, rfl⟩
      unfold m_automaton_checkEdges_j1 at hm
      refine E.reg ?_
      refine L.bi Wt.no rfl rfl rfl rfl ?_
      refine L.mv Wt.no rfl rfl ?_
      refine L.nil ?_
      exact X.sub (ih38 _ (Option.some.inj hm).symm _ _ ⟨s47, m0, h3, h1, h2, bx4, rfl, rfl⟩) (Sub.cons rfl (Sub.cons rfl (Sub.cons rfl (Sub.cons rfl Sub.nil))))
    · intro Jj48
      refine E.block ?_
      refine E.seq ?_
      refine E.reg ?_
      refine L.mv Wt.no rfl rfl ?_
      obtain ⟨x49, ex49, hm⟩ := bindS hm
      refine L.ix (r := (rP (rK .i64) (rP (rK .i64) (rK .i64)))) sl29 h3 Wt.no rfl rfl ex49 rfl ?_
      rintro b50 o50 cc50 me50 rd50
      obtain ⟨_, _, rfl, rfl, ⟨_, _, rfl, rfl, rfl⟩⟩ := rd50
      refine L.lg (j := 0) (cs := [.int .i64 x49.1, .int .i64 x49.2.1, .int .i64 x49.2.2]) me50 ag45 Wt.no rfl rfl rfl rfl rfl ?_
      refine L.al (N + 1) zz45 rfl Wt.no rfl ?_
      intro b51 s52 m53 bx51
      replace m0 := m0.trans m53.no
      replace h3 := h3.mono (m53.le no_No)
      replace bx4 := bx4.mv m53 no_No
      replace h1 := h1.mono (m53.le no_No)
      replace h2 := h2.mono (m53.le no_No)
      refine L.as Wt.no rfl rfl ?_
      refine L.st (c := [.int .i64 x49.1, .int .i64 x49.2.1, .int .i64 x49.2.2]) (cs' := #[.int .i64 x49.1, .int .i64 x49.2.1, .int .i64 x49.2.2]) bx51 ag45.sz Wt.no rfl rfl rfl rfl rfl (Nat.le_of_ble_eq_true rfl) rfl ?_
      intro s54 m55 bx51
      replace m0 := m0.trans (m55.one up)
      replace h3 := h3.mono (m55.le (tg0 hN))
      replace bx4 := bx4.mv m55 (tgN (by decide))
      replace h1 := h1.mono (m55.le (tg0 hN))
      replace h2 := h2.mono (m55.le (tg0 hN))
      refine L.nil ?_
      refine X.seqN ?_
      refine E.seq ?_
      refine E.block ?_
      refine E.seq ?_
      refine E.reg ?_
      refine L.fa fa45_0 Wt.no rfl rfl ?_
      refine L.ld (j := 0) bx51.mem nag3 Wt.no rfl rfl rfl rfl ?_
      refine L.bi Wt.no rfl rfl rfl rfl ?_
      refine L.mv Wt.no rfl rfl ?_
      refine L.cut 6 (fun e w => ∃ (v56 : Bool), ((decide (x49.1 < 0)) || (decide (x49.1 ≥ p0.2.1))) = v56 ∧ e = (24, .bool v56) :: [(3, .int .i64 st38), (4, .pointer (some ⟨b51, 0, none⟩)), (9, .int .i64 st38), (8, .int .i64 (p0.2.2.2.length : Int)), (7, .slice a3 p0.2.2.2.length c3), (1, .pointer (some ⟨b4, 0, none⟩))] ∧ w = s54.w) ?_ ?_
      · rintro _ _ ⟨v56, rfl, rfl, rfl⟩
        refine L.mv Wt.no rfl rfl ?_
        refine L.cut 4 (fun e w => ∃ (v57 : Bool), (((decide (x49.1 < 0)) || (decide (x49.1 ≥ p0.2.1))) || (decide (x49.2.2 < 0))) = v57 ∧ e = (29, .bool v57) :: [(3, .int .i64 st38), (4, .pointer (some ⟨b51, 0, none⟩)), (9, .int .i64 st38), (8, .int .i64 (p0.2.2.2.length : Int)), (7, .slice a3 p0.2.2.2.length c3), (1, .pointer (some ⟨b4, 0, none⟩))] ∧ w = s54.w) ?_ ?_
        · rintro _ _ ⟨v57, rfl, rfl, rfl⟩
          refine L.mv Wt.no rfl rfl ?_
          refine L.cut 6 (fun e w => ∃ (v58 : Bool), ((((decide (x49.1 < 0)) || (decide (x49.1 ≥ p0.2.1))) || (decide (x49.2.2 < 0))) || (decide (x49.2.2 ≥ p0.2.1))) = v58 ∧ e = (36, .bool v58) :: [(3, .int .i64 st38), (4, .pointer (some ⟨b51, 0, none⟩)), (9, .int .i64 st38), (8, .int .i64 (p0.2.2.2.length : Int)), (7, .slice a3 p0.2.2.2.length c3), (1, .pointer (some ⟨b4, 0, none⟩))] ∧ w = s54.w) ?_ ?_
          · rintro _ _ ⟨v58, rfl, rfl, rfl⟩
            refine L.as Wt.no rfl rfl ?_
            refine L.nil ?_
            refine X.seqN ?_
            rcases ifS hm with ⟨hc, hm⟩ | ⟨hc, hm⟩
            · refine E.cT rfl hc ?_
              refine E.seq ?_
              refine E.reg ?_
              refine L.as Wt.no rfl rfl ?_
              refine L.nil ?_
              refine X.seqN ?_
              refine E.ret ?_
              refine X.blkR ?_
              refine X.seqR ?_
              refine X.blkR ?_
              refine X.seqR ?_
              refine X.seqR ?_
              have hx := ho38 _ (Option.some.inj hm).symm
              exact X.sub (K46 _ _ ⟨s54, 2, hx.symm, m0, rfl, rfl⟩) (Sub.cons rfl Sub.nil)
            · refine E.cF rfl hc ?_
              refine E.seq ?_
              refine E.reg ?_
              refine L.fa fa31_0 Wt.no rfl rfl ?_
              refine L.ld (j := 0) bx4.mem nag28 Wt.no rfl rfl rfl rfl ?_
              refine L.fa fa45_1 Wt.no rfl rfl ?_
              refine L.ld (j := 1) bx51.mem nag3 Wt.no rfl rfl rfl rfl ?_
              obtain ⟨r59, er59, hm⟩ := bindS hm
              refine L.ca (vs := [.slice a1 p0.1.length c1, .int .i64 x49.2.1]) cf57 rfl rfl Wt.no rfl (m_slices_Contains_int_c (s := s54) (p0 := p0.1) (p1 := x49.2.1) h1 er59) rfl ?_
              rintro _ s60 m61 rfl
              replace m0 := m0.trans m61.no
              replace h3 := h3.mono (m61.le no_No)
              replace bx4 := bx4.mv m61 no_No
              replace h1 := h1.mono (m61.le no_No)
              replace h2 := h2.mono (m61.le no_No)
              replace bx51 := bx51.mv m61 no_No
              refine L.not Wt.no rfl rfl ?_
              refine L.as Wt.no rfl rfl ?_
              refine L.nil ?_
              refine X.seqN ?_
              rcases ifS hm with ⟨hc, hm⟩ | ⟨hc, hm⟩
              · refine E.cT rfl hc ?_
                refine E.seq ?_
                refine E.reg ?_
                refine L.as Wt.no rfl rfl ?_
                refine L.nil ?_
                refine X.seqN ?_
                refine E.ret ?_
                refine X.blkR ?_
                refine X.seqR ?_
                refine X.blkR ?_
                refine X.seqR ?_
                refine X.seqR ?_
                have hx := ho38 _ (Option.some.inj hm).symm
                exact X.sub (K46 _ _ ⟨s60, 9, hx.symm, m0, rfl, rfl⟩) (Sub.cons rfl Sub.nil)
              · refine E.cF rfl hc ?_
                refine E.skip ?_
                refine X.blkN ?_
                refine X.seqN ?_
                refine E.seq ?_
                refine E.seq ?_
                refine E.reg ?_
                refine L.mv Wt.no rfl rfl ?_
                refine L.bi Wt.no rfl rfl rfl rfl ?_
                refine L.nil ?_
                refine X.seqN ?_
                rcases ifS hm with ⟨hc, hm⟩ | ⟨hc, hm⟩
                · refine E.cT rfl hc ?_
                  refine E.exit ?_
                  refine X.seqX ?_
                  refine X.blkE ?_
                  exact X.sub (Jj48 _ _ ⟨s60, hm, m0, h3, h1, h2, bx4, rfl, rfl⟩) (Sub.cons rfl (Sub.cons rfl (Sub.cons rfl (Sub.cons rfl Sub.nil))))
                · refine E.cF rfl hc ?_
                  refine E.skip ?_
                  refine X.seqN ?_
                  refine E.seq ?_
                  refine E.reg ?_
                  refine L.fa fa31_3 Wt.no rfl rfl ?_
                  refine L.ld (j := 3) bx4.mem nag29 Wt.no rfl rfl rfl rfl ?_
                  refine L.mv Wt.no rfl rfl ?_
                  refine L.bi Wt.no rfl rfl rfl rfl ?_
                  obtain ⟨x62, ex62, hm⟩ := bindS hm
                  refine L.ix (r := (rP (rK .i64) (rP (rK .i64) (rK .i64)))) sl29 h3 Wt.no rfl rfl ex62 rfl ?_
                  rintro b63 o63 cc63 me63 rd63
                  obtain ⟨_, _, rfl, rfl, ⟨_, _, rfl, rfl, rfl⟩⟩ := rd63
                  refine L.lg (j := 0) (cs := [.int .i64 x62.1, .int .i64 x62.2.1, .int .i64 x62.2.2]) me63 ag45 Wt.no rfl rfl rfl rfl rfl ?_
                  refine L.al (N + 2) zz45 rfl Wt.no rfl ?_
                  intro b64 s65 m66 bx64
                  replace m0 := m0.trans m66.no
                  replace h3 := h3.mono (m66.le no_No)
                  replace bx4 := bx4.mv m66 no_No
                  replace h1 := h1.mono (m66.le no_No)
                  replace h2 := h2.mono (m66.le no_No)
                  replace bx51 := bx51.mv m66 no_No
                  refine L.st (c := [.int .i64 x62.1, .int .i64 x62.2.1, .int .i64 x62.2.2]) (cs' := #[.int .i64 x62.1, .int .i64 x62.2.1, .int .i64 x62.2.2]) bx64 ag45.sz Wt.no rfl rfl rfl rfl rfl (Nat.le_of_ble_eq_true rfl) rfl ?_
                  intro s67 m68 bx64
                  replace m0 := m0.trans (m68.one up)
                  replace h3 := h3.mono (m68.le (tg0 hN))
                  replace bx4 := bx4.mv m68 (tgN (by decide))
                  replace h1 := h1.mono (m68.le (tg0 hN))
                  replace h2 := h2.mono (m68.le (tg0 hN))
                  replace bx51 := bx51.mv m68 (tgN (by decide))
                  refine L.nil ?_
                  refine X.seqN ?_
                  refine E.seq ?_
                  refine E.reg ?_
                  refine L.fa fa45_0 Wt.no rfl rfl ?_
                  refine L.ld (j := 0) bx51.mem nag3 Wt.no rfl rfl rfl rfl ?_
                  refine L.fa fa45_0 Wt.no rfl rfl ?_
                  refine L.ld (j := 0) bx64.mem nag3 Wt.no rfl rfl rfl rfl ?_
                  refine L.bi Wt.no rfl rfl rfl rfl ?_
                  refine L.mv Wt.no rfl rfl ?_
                  refine L.cut 13 (fun e w => ∃ (v69 : Bool), ((decide (x49.1 < x62.1)) || ((x49.1 == x62.1) && (decide (x49.2.1 ≤ x62.2.1)))) = v69 ∧ e = (70, .bool v69) :: [(9, .int .i64 st38), (8, .int .i64 (p0.2.2.2.length : Int)), (7, .slice a3 p0.2.2.2.length c3), (1, .pointer (some ⟨b4, 0, none⟩))] ∧ w = s67.w) ?_ ?_
                  · rintro _ _ ⟨v69, rfl, rfl, rfl⟩
                    refine L.nil ?_
                    refine X.seqN ?_
                    rcases ifS hm with ⟨hc, hm⟩ | ⟨hc, hm⟩
                    · refine E.cT rfl hc ?_
                      refine E.seq ?_
                      refine E.reg ?_
                      refine L.as Wt.no rfl rfl ?_
                      refine L.nil ?_
                      refine X.seqN ?_
                      refine E.ret ?_
                      refine X.blkR ?_
                      refine X.seqR ?_
                      refine X.seqR ?_
                      have hx := ho38 _ (Option.some.inj hm).symm
                      exact X.sub (K46 _ _ ⟨s67, 5, hx.symm, m0, rfl, rfl⟩) (Sub.cons rfl Sub.nil)
                    · refine E.cF rfl hc ?_
                      refine E.skip ?_
                      refine X.blkN ?_
                      exact X.sub (Jj48 _ _ ⟨s67, hm, m0, h3, h1, h2, bx4, rfl, rfl⟩) (Sub.cons rfl (Sub.cons rfl (Sub.cons rfl (Sub.cons rfl Sub.nil))))
                  · intro J70
                    rcases Bool.eq_false_or_eq_true (decide (x49.1 < x62.1)) with hc | hc
                    · refine L.know (d := 57) rfl hc ?_
                      refine L.skip rfl rfl rfl rfl ?_
                      refine L.skip rfl rfl rfl rfl ?_
                      refine L.skip rfl rfl rfl rfl ?_
                      refine L.skip rfl rfl rfl rfl ?_
                      refine L.skip rfl rfl rfl rfl ?_
                      refine L.skip rfl rfl rfl rfl ?_
                      refine L.skipU rfl rfl rfl ?_
                      refine L.skipU rfl rfl rfl ?_
                      refine L.skipU rfl rfl rfl ?_
                      refine L.skipU rfl rfl rfl ?_
                      refine L.skipU rfl rfl rfl ?_
                      refine L.skip rfl rfl rfl rfl ?_
                      refine L.pkT Wt.no rfl rfl rfl rfl ?_
                      exact L.sub (Sub.cons rfl (Sub.cons rfl (Sub.cons rfl (Sub.cons rfl (Sub.cons rfl Sub.nil))))) (J70 _ _ ⟨true, (orT hc).symm, rfl, rfl⟩)
                    · refine L.know (d := 57) rfl hc ?_
                      refine L.fa fa45_0 (Wt.mk rfl rfl) rfl rfl ?_
                      refine L.ld (j := 0) bx51.mem nag3 (Wt.mk rfl rfl) rfl rfl rfl rfl ?_
                      refine L.fa fa45_0 (Wt.mk rfl rfl) rfl rfl ?_
                      refine L.ld (j := 0) bx64.mem nag3 (Wt.mk rfl rfl) rfl rfl rfl rfl ?_
                      refine L.bi (Wt.mk rfl rfl) rfl rfl rfl rfl ?_
                      refine L.mv (Wt.mk rfl rfl) rfl rfl ?_
                      refine L.cut 6 (fun e w => ∃ (v71 : Bool), ((x49.1 == x62.1) && (decide (x49.2.1 ≤ x62.2.1))) = v71 ∧ e = (69, .bool v71) :: [(57, .bool false), (9, .int .i64 st38), (8, .int .i64 (p0.2.2.2.length : Int)), (7, .slice a3 p0.2.2.2.length c3), (1, .pointer (some ⟨b4, 0, none⟩))] ∧ w = s67.w) ?_ ?_
                      · rintro _ _ ⟨v71, rfl, rfl, rfl⟩
                        refine L.pkF Wt.no rfl rfl rfl rfl ?_
                        exact L.sub (Sub.cons rfl (Sub.cons rfl (Sub.cons rfl (Sub.cons rfl (Sub.cons rfl Sub.nil))))) (J70 _ _ ⟨((x49.1 == x62.1) && (decide (x49.2.1 ≤ x62.2.1))), (orF hc).symm, rfl, rfl⟩)
                      · intro J72
                        rcases Bool.eq_false_or_eq_true (x49.1 == x62.1) with hc | hc
                        · refine L.know (d := 63) rfl hc ?_
                          refine L.fa fa45_1 (Wt.mk rfl rfl) rfl rfl ?_
                          refine L.ld (j := 1) bx51.mem nag3 (Wt.mk rfl rfl) rfl rfl rfl rfl ?_
                          refine L.fa fa45_1 (Wt.mk rfl rfl) rfl rfl ?_
                          refine L.ld (j := 1) bx64.mem nag3 (Wt.mk rfl rfl) rfl rfl rfl rfl ?_
                          refine L.bi (Wt.mk rfl rfl) rfl rfl rfl rfl ?_
                          refine L.pkT (Wt.mk rfl rfl) rfl rfl rfl rfl ?_
                          exact L.sub (Sub.cons rfl (Sub.cons rfl (Sub.cons rfl (Sub.cons rfl (Sub.cons rfl (Sub.cons rfl Sub.nil)))))) (J72 _ _ ⟨(decide (x49.2.1 ≤ x62.2.1)), (andT hc).symm, rfl, rfl⟩)
                        · refine L.know (d := 63) rfl hc ?_
                          refine L.skip rfl rfl rfl rfl ?_
                          refine L.skip rfl rfl rfl rfl ?_
                          refine L.skip rfl rfl rfl rfl ?_
                          refine L.skip rfl rfl rfl rfl ?_
                          refine L.skip rfl rfl rfl rfl ?_
                          refine L.pkF (Wt.mk rfl rfl) rfl rfl rfl rfl ?_
                          exact L.sub (Sub.cons rfl (Sub.cons rfl (Sub.cons rfl (Sub.cons rfl (Sub.cons rfl (Sub.cons rfl Sub.nil)))))) (J72 _ _ ⟨false, (andF hc).symm, rfl, rfl⟩)
          · intro J73
            rcases Bool.eq_false_or_eq_true (((decide (x49.1 < 0)) || (decide (x49.1 ≥ p0.2.1))) || (decide (x49.2.2 < 0))) with hc | hc
            · refine L.know (d := 30) rfl hc ?_
              refine L.skip rfl rfl rfl rfl ?_
              refine L.skip rfl rfl rfl rfl ?_
              refine L.skip rfl rfl rfl rfl ?_
              refine L.skip rfl rfl rfl rfl ?_
              refine L.skip rfl rfl rfl rfl ?_
              refine L.pkT Wt.no rfl rfl rfl rfl ?_
              exact L.sub (Sub.cons rfl (Sub.cons rfl (Sub.cons rfl (Sub.cons rfl (Sub.cons rfl (Sub.cons rfl (Sub.cons rfl Sub.nil))))))) (J73 _ _ ⟨true, (orT hc).symm, rfl, rfl⟩)
            · refine L.know (d := 30) rfl hc ?_
              refine L.fa fa45_2 (Wt.mk rfl rfl) rfl rfl ?_
              refine L.ld (j := 2) bx51.mem nag3 (Wt.mk rfl rfl) rfl rfl rfl rfl ?_
              refine L.fa fa31_1 (Wt.mk rfl rfl) rfl rfl ?_
              refine L.ld (j := 1) bx4.mem nag3 (Wt.mk rfl rfl) rfl rfl rfl rfl ?_
              refine L.bi (Wt.mk rfl rfl) rfl rfl rfl rfl ?_
              refine L.pkF Wt.no rfl rfl rfl rfl ?_
              exact L.sub (Sub.cons rfl (Sub.cons rfl (Sub.cons rfl (Sub.cons rfl (Sub.cons rfl (Sub.cons rfl (Sub.cons rfl Sub.nil))))))) (J73 _ _ ⟨(decide (x49.2.2 ≥ p0.2.1)), (orF hc).symm, rfl, rfl⟩)
        · intro J74
          rcases Bool.eq_false_or_eq_true ((decide (x49.1 < 0)) || (decide (x49.1 ≥ p0.2.1))) with hc | hc
          · refine L.know (d := 25) rfl hc ?_
            refine L.skip rfl rfl rfl rfl ?_
            refine L.skip rfl rfl rfl rfl ?_
            refine L.skip rfl rfl rfl rfl ?_
            refine L.pkT Wt.no rfl rfl rfl rfl ?_
            exact L.sub (Sub.cons rfl (Sub.cons rfl (Sub.cons rfl (Sub.cons rfl (Sub.cons rfl (Sub.cons rfl (Sub.cons rfl Sub.nil))))))) (J74 _ _ ⟨true, (orT hc).symm, rfl, rfl⟩)
          · refine L.know (d := 25) rfl hc ?_
            refine L.fa fa45_2 (Wt.mk rfl rfl) rfl rfl ?_
            refine L.ld (j := 2) bx51.mem nag3 (Wt.mk rfl rfl) rfl rfl rfl rfl ?_
            refine L.bi (Wt.mk rfl rfl) rfl rfl rfl rfl ?_
            refine L.pkF Wt.no rfl rfl rfl rfl ?_
            exact L.sub (Sub.cons rfl (Sub.cons rfl (Sub.cons rfl (Sub.cons rfl (Sub.cons rfl (Sub.cons rfl (Sub.cons rfl Sub.nil))))))) (J74 _ _ ⟨(decide (x49.2.2 < 0)), (orF hc).symm, rfl, rfl⟩)
      · intro J75
        rcases Bool.eq_false_or_eq_true (decide (x49.1 < 0)) with hc | hc
        · refine L.know (d := 18) rfl hc ?_
          refine L.skip rfl rfl rfl rfl ?_
          refine L.skip rfl rfl rfl rfl ?_
          refine L.skip rfl rfl rfl rfl ?_
          refine L.skip rfl rfl rfl rfl ?_
          refine L.skip rfl rfl rfl rfl ?_
          refine L.pkT Wt.no rfl rfl rfl rfl ?_
          exact L.sub (Sub.cons rfl (Sub.cons rfl (Sub.cons rfl (Sub.cons rfl (Sub.cons rfl (Sub.cons rfl (Sub.cons rfl Sub.nil))))))) (J75 _ _ ⟨true, (orT hc).symm, rfl, rfl⟩)
        · refine L.know (d := 18) rfl hc ?_
          refine L.fa fa45_0 (Wt.mk rfl rfl) rfl rfl ?_
          refine L.ld (j := 0) bx51.mem nag3 (Wt.mk rfl rfl) rfl rfl rfl rfl ?_
          refine L.fa fa31_1 (Wt.mk rfl rfl) rfl rfl ?_
          refine L.ld (j := 1) bx4.mem nag3 (Wt.mk rfl rfl) rfl rfl rfl rfl ?_
          refine L.bi (Wt.mk rfl rfl) rfl rfl rfl rfl ?_
          refine L.pkF Wt.no rfl rfl rfl rfl ?_
          exact L.sub (Sub.cons rfl (Sub.cons rfl (Sub.cons rfl (Sub.cons rfl (Sub.cons rfl (Sub.cons rfl (Sub.cons rfl Sub.nil))))))) (J75 _ _ ⟨(decide (x49.1 ≥ p0.2.1)), (orF hc).symm, rfl, rfl⟩)
  · refine E.cF rfl hc ?_
    refine E.exit ?_
    refine X.seqX ?_
    refine X.seqX ?_
    have hx := ho38 _ (Option.some.inj hm).symm
    exact X.sub (K43 _ _ ⟨s40, (), hx.symm, m0, rfl, rfl⟩) Sub.nil

theorem ag31 : Ag Try.prog 31 4 := Ag.mk' Try.underlying31 rfl (by kernel_rfl)
theorem cf77 : Cf Try.prog 77 := Cf.mk Try.func77 (by kernel_rfl) (by kernel_rfl)
theorem cf78 : Cf Try.prog 78 := Cf.mk Try.func78 (by kernel_rfl) (by kernel_rfl)
theorem fa31_2 : FA Try.prog 31 2 2 := FA.mk Try.underlying31 rfl rfl ⟨1, by decide, by kernel_rfl⟩
/-- What automaton.Check computes. -/
noncomputable def m_automaton_Check (p0 : List Int × Int × List Int × (List (Int × Int × Int))) : Option Int :=
  (m_automaton_checkSet p0.1 32).bind fun r7 =>
  if (r7 != 0) then
    some r7
  else
    if decide (p0.2.1 < 0) then
      some 2
    else
      if decide (p0.2.1 > 4096) then
        some 3
      else
        (m_automaton_checkSet p0.2.2.1 p0.2.1).bind fun r10 =>
        if (r10 != 0) then
          some r10
        else
          (m_automaton_checkEdges p0).bind fun r13 =>
          some r13
set_option maxRecDepth 100000 in
set_option maxHeartbeats 8000000 in
theorem m_automaton_Check_c {s : Sig} {p0 : List Int × Int × List Int × (List (Int × Int × Int))} {a1 : Option Addr} {c1 : Nat} {a2 : Option Addr} {c2 : Nat} {a3 : Option Addr} {c3 : Nat} {r : Int} (h1 : RdL (rK .i64) s a1 c1 p0.1) (h2 : RdL (rK .i64) s a2 c2 p0.2.2.1) (h3 : RdL (rP (rK .i64) (rP (rK .i64) (rK .i64))) s a3 c3 p0.2.2.2) (hm : m_automaton_Check p0 = some r) :
    Calls Try.prog 43 #[.agg #[.slice a1 p0.1.length c1, .int .i64 p0.2.1, .slice a2 p0.2.2.1.length c2, .slice a3 p0.2.2.2.length c3]] s.w (RetS No s fun v s' => v = .int .i64 r) := by
  unfold m_automaton_Check at hm
  obtain ⟨N, hN, hNb⟩ := s.fresh
  have m0 : Mv (Up N No) s s := Mv.refl _ _
  refine E.entry (vs := [.agg #[.slice a1 p0.1.length c1, .int .i64 p0.2.1, .slice a2 p0.2.2.1.length c2, .slice a3 p0.2.2.2.length c3]]) (e := [(0, .agg #[.slice a1 p0.1.length c1, .int .i64 p0.2.1, .slice a2 p0.2.2.1.length c2, .slice a3 p0.2.2.2.length c3])]) Try.func43 rfl Try.ntmps43 rfl rfl ?_
  refine E.seq ?_
  refine E.reg ?_
  refine L.box (N + 0) Wt.no rfl rfl rfl ?_
  intro b4 s5 m6 bx4
  replace m0 := m0.trans m6.no
  replace h1 := h1.mono (m6.le no_No)
  replace h2 := h2.mono (m6.le no_No)
  replace h3 := h3.mono (m6.le no_No)
  refine L.as Wt.no rfl rfl ?_
  refine L.nil ?_
  refine X.seqN ?_
  refine E.seq ?_
  refine E.seq ?_
  refine E.reg ?_
  refine L.fa fa31_0 Wt.no rfl rfl ?_
  refine L.ld (j := 0) bx4.mem nag28 Wt.no rfl rfl rfl rfl ?_
  obtain ⟨r7, er7, hm⟩ := bindS hm
  refine L.ca (vs := [.slice a1 p0.1.length c1, .int .i64 32]) cf77 rfl rfl Wt.no rfl (m_automaton_checkSet_c (s := s5) (p0 := p0.1) (p1 := 32) h1 er7) rfl ?_
  rintro _ s8 m9 rfl
  replace m0 := m0.trans m9.no
  replace bx4 := bx4.mv m9 no_No
  replace h1 := h1.mono (m9.le no_No)
  replace h2 := h2.mono (m9.le no_No)
  replace h3 := h3.mono (m9.le no_No)
  refine L.as Wt.no rfl rfl ?_
  refine L.nil ?_
  refine X.seqN ?_
  refine E.seq ?_
  refine E.reg ?_
  refine L.mv Wt.no rfl rfl ?_
  refine L.bi Wt.no rfl rfl rfl rfl ?_
  refine L.nil ?_
  refine X.seqN ?_
  rcases ifS hm with ⟨hc, hm⟩ | ⟨hc, hm⟩
  · refine E.cT rfl hc ?_
    refine E.seq ?_
    refine E.reg ?_
    refine L.mv Wt.no rfl rfl ?_
    refine L.as Wt.no rfl rfl ?_
    refine L.nil ?_
    refine X.seqN ?_
    refine E.ret ?_
    refine X.seqR ?_
    obtain rfl := Option.some.inj hm
    exact X.rt (.inl rfl) Try.results43 (Rs.tmp rfl Rs.nil) rfl ⟨_, (s8).ren N (fun _ => 0), rfl, rfl, m0.ren hNb, rfl⟩
  · refine E.cF rfl hc ?_
    refine E.skip ?_
    refine X.seqN ?_
    refine E.seq ?_
    refine E.block ?_
    refine E.seq ?_
    refine E.reg ?_
    refine L.fa fa31_1 Wt.no rfl rfl ?_
    refine L.ld (j := 1) bx4.mem nag3 Wt.no rfl rfl rfl rfl ?_
    refine L.bi Wt.no rfl rfl rfl rfl ?_
    refine L.as Wt.no rfl rfl ?_
    refine L.nil ?_
    refine X.seqN ?_
    rcases ifS hm with ⟨hc, hm⟩ | ⟨hc, hm⟩
    · refine E.cT rfl hc ?_
      refine E.seq ?_
      refine E.reg ?_
      refine L.as Wt.no rfl rfl ?_
      refine L.nil ?_
      refine X.seqN ?_
      refine E.ret ?_
      refine X.blkR ?_
      refine X.seqR ?_
      obtain rfl := Option.some.inj hm
      exact X.rt (.inl rfl) Try.results43 (Rs.tmp rfl Rs.nil) rfl ⟨_, (s8).ren N (fun _ => 0), rfl, rfl, m0.ren hNb, rfl⟩
    · refine E.cF rfl hc ?_
      refine E.seq ?_
      refine E.reg ?_
      refine L.fa fa31_1 Wt.no rfl rfl ?_
      refine L.ld (j := 1) bx4.mem nag3 Wt.no rfl rfl rfl rfl ?_
      refine L.bi Wt.no rfl rfl rfl rfl ?_
      refine L.as Wt.no rfl rfl ?_
      refine L.nil ?_
      refine X.seqN ?_
      rcases ifS hm with ⟨hc, hm⟩ | ⟨hc, hm⟩
      · refine E.cT rfl hc ?_
        refine E.seq ?_
        refine E.reg ?_
        refine L.as Wt.no rfl rfl ?_
        refine L.nil ?_
        refine X.seqN ?_
        refine E.ret ?_
        refine X.blkR ?_
        refine X.seqR ?_
        obtain rfl := Option.some.inj hm
        exact X.rt (.inl rfl) Try.results43 (Rs.tmp rfl Rs.nil) rfl ⟨_, (s8).ren N (fun _ => 0), rfl, rfl, m0.ren hNb, rfl⟩
      · refine E.cF rfl hc ?_
        refine E.skip ?_
        refine X.blkN ?_
        refine X.seqN ?_
        refine E.seq ?_
        refine E.seq ?_
        refine E.reg ?_
        refine L.fa fa31_2 Wt.no rfl rfl ?_
        refine L.ld (j := 2) bx4.mem nag28 Wt.no rfl rfl rfl rfl ?_
        refine L.fa fa31_1 Wt.no rfl rfl ?_
        refine L.ld (j := 1) bx4.mem nag3 Wt.no rfl rfl rfl rfl ?_
        obtain ⟨r10, er10, hm⟩ := bindS hm
        refine L.ca (vs := [.slice a2 p0.2.2.1.length c2, .int .i64 p0.2.1]) cf77 rfl rfl Wt.no rfl (m_automaton_checkSet_c (s := s8) (p0 := p0.2.2.1) (p1 := p0.2.1) h2 er10) rfl ?_
        rintro _ s11 m12 rfl
        replace m0 := m0.trans m12.no
        replace bx4 := bx4.mv m12 no_No
        replace h1 := h1.mono (m12.le no_No)
        replace h2 := h2.mono (m12.le no_No)
        replace h3 := h3.mono (m12.le no_No)
        refine L.as Wt.no rfl rfl ?_
        refine L.nil ?_
        refine X.seqN ?_
        refine E.seq ?_
        refine E.reg ?_
        refine L.mv Wt.no rfl rfl ?_
        refine L.bi Wt.no rfl rfl rfl rfl ?_
        refine L.nil ?_
        refine X.seqN ?_
        rcases ifS hm with ⟨hc, hm⟩ | ⟨hc, hm⟩
        · refine E.cT rfl hc ?_
          refine E.seq ?_
          refine E.reg ?_
          refine L.mv Wt.no rfl rfl ?_
          refine L.as Wt.no rfl rfl ?_
          refine L.nil ?_
          refine X.seqN ?_
          refine E.ret ?_
          refine X.seqR ?_
          obtain rfl := Option.some.inj hm
          exact X.rt (.inl rfl) Try.results43 (Rs.tmp rfl Rs.nil) rfl ⟨_, (s11).ren N (fun _ => 0), rfl, rfl, m0.ren hNb, rfl⟩
        · refine E.cF rfl hc ?_
          refine E.skip ?_
          refine X.seqN ?_
          refine E.seq ?_
          refine E.reg ?_
          refine L.lg (j := 0) (cs := [.slice a1 p0.1.length c1, .int .i64 p0.2.1, .slice a2 p0.2.2.1.length c2, .slice a3 p0.2.2.2.length c3]) bx4.mem ag31 Wt.no rfl rfl rfl rfl rfl ?_
          obtain ⟨r13, er13, hm⟩ := bindS hm
          refine L.ca (vs := [.agg #[.slice a1 p0.1.length c1, .int .i64 p0.2.1, .slice a2 p0.2.2.1.length c2, .slice a3 p0.2.2.2.length c3]]) cf78 rfl rfl Wt.no rfl (m_automaton_checkEdges_c (s := s11) (p0 := p0) h1 h2 h3 er13) rfl ?_
          rintro _ s14 m15 rfl
          replace m0 := m0.trans m15.no
          refine L.as Wt.no rfl rfl ?_
          refine L.nil ?_
          refine X.seqN ?_
          refine E.ret ?_
          obtain rfl := Option.some.inj hm
          exact X.rt (.inl rfl) Try.results43 (Rs.tmp rfl Rs.nil) rfl ⟨_, (s14).ren N (fun _ => 0), rfl, rfl, m0.ren hNb, rfl⟩

theorem ag80 : Ag Try.prog 80 5 := Ag.mk' Try.underlying80 rfl (by kernel_rfl)
theorem fa80_1 : FA Try.prog 80 1 4 := FA.mk Try.underlying80 rfl rfl ⟨1, by decide, by kernel_rfl⟩
theorem pl80 : Pl Try.prog 80 [(0, 4), (4, 1)] [.slice none 0 0, .int .i64 0, .slice none 0 0, .slice none 0 0, .slice none 0 0] := Pl.str Try.underlying80 (by kernel_rfl) (by kernel_rfl)
theorem zr3 : Zr Try.prog (rK .i64) 3 8 (0 : Int) := Zr.mk' (v := .int .i64 0) (by kernel_rfl) (by kernel_rfl) (by kernel_rfl) (fun _ => rfl)
theorem zz80 : (Try.prog.info? 80).bind (·.zero) = some (.agg #[.slice none 0 0, .int .i64 0, .slice none 0 0, .slice none 0 0, .slice none 0 0]) := by kernel_rfl
noncomputable def m_reach_newGraph_l2 (p0 : List Int × Int × List Int × (List (Int × Int × Int))) (st82 : Int × List Int) : Option ((Int × List Int) ⊕ (List Int)) :=
  if decide (st82.1 < p0.2.1) then
    (idx st82.2 (W (st82.1 + 1))).bind fun x94 =>
    (idx st82.2 st82.1).bind fun x101 =>
    (idx st82.2 (W (st82.1 + 1))).bind fun x106 =>
    (upd st82.2 (W (st82.1 + 1)) (W (x94 + x101))).bind fun x109 =>
    some (.inl (W (st82.1 + 1), x109))
  else
    some (.inr st82.2)
noncomputable def m_reach_newGraph_l1 (p0 : List Int × Int × List Int × (List (Int × Int × Int))) (st50 : Int × List Int) : Option ((Int × List Int) ⊕ (List Int)) :=
  if decide (st50.1 < (p0.2.2.2.length : Int)) then
    (idx p0.2.2.2 st50.1).bind fun x114 =>
    (idx st50.2 (W (x114.1 + 1))).bind fun x121 =>
    (idx st50.2 (W (x114.1 + 1))).bind fun x123 =>
    (upd st50.2 (W (x114.1 + 1)) (W (x121 + 1))).bind fun x125 =>
    some (.inl (W (st50.1 + 1), x125))
  else
    some (.inr st50.2)
/-- What reach.newGraph computes. -/
noncomputable def m_reach_newGraph (p0 : List Int × Int × List Int × (List (Int × Int × Int))) : Option ((List Int × Int × List Int × (List (Int × Int × Int))) × List Int) :=
  (mkL (W (p0.2.1 + 1)) (0 : Int)).bind fun x19 =>
  (iter (m_reach_newGraph_l1 p0) (0, x19)).bind fun o50 =>
  (iter (m_reach_newGraph_l2 p0) (0, o50)).bind fun o82 =>
  some (p0, o82)
set_option maxRecDepth 100000 in
set_option maxHeartbeats 8000000 in
theorem m_reach_newGraph_c {s : Sig} {p0 : List Int × Int × List Int × (List (Int × Int × Int))} {a1 : Option Addr} {c1 : Nat} {a2 : Option Addr} {c2 : Nat} {a3 : Option Addr} {c3 : Nat} {u3 : Nat} {r : ((List Int × Int × List Int × (List (Int × Int × Int))) × List Int)} (h1 : RdL (rK .i64) s a1 c1 p0.1) (h2 : RdL (rK .i64) s a2 c2 p0.2.2.1) (h3 : RdL (rP (rK .i64) (rP (rK .i64) (rK .i64))) s a3 c3 p0.2.2.2) (hm : m_reach_newGraph p0 = some r) :
    Calls Try.prog 48 #[.agg #[.slice a1 p0.1.length c1, .int .i64 p0.2.1, .slice a2 p0.2.2.1.length c2, .slice a3 p0.2.2.2.length c3]] s.w (RetS No s fun v s' => ∃ (a4 : Option Addr) (c4 : Nat) (a5 : Option Addr) (c5 : Nat) (a6 : Option Addr) (c6 : Nat) (a7 : Option Addr) (c7 : Nat), v = .agg #[.slice a4 r.1.1.length c4, .int .i64 r.1.2.1, .slice a5 r.1.2.2.1.length c5, .slice a6 r.1.2.2.2.length c6, .slice a7 r.2.length c7] ∧ RdL (rK .i64) s' a4 c4 r.1.1 ∧ RdL (rK .i64) s' a5 c5 r.1.2.2.1 ∧ RdL (rP (rK .i64) (rP (rK .i64) (rK .i64))) s' a6 c6 r.1.2.2.2 ∧ RowT (rK .i64) s' u3 3 a7 c7 r.2) := by
  unfold m_reach_newGraph at hm
  obtain ⟨N, hN, hNb⟩ := s.fresh
  have m0 : Mv (Up N No) s s := Mv.refl _ _
  refine E.entry (vs := [.agg #[.slice a1 p0.1.length c1, .int .i64 p0.2.1, .slice a2 p0.2.2.1.length c2, .slice a3 p0.2.2.2.length c3]]) (e := [(0, .agg #[.slice a1 p0.1.length c1, .int .i64 p0.2.1, .slice a2 p0.2.2.1.length c2, .slice a3 p0.2.2.2.length c3])]) Try.func48 rfl Try.ntmps48 rfl rfl ?_
  refine E.seq ?_
  refine E.reg ?_
  refine L.box (N + 0) Wt.no rfl rfl rfl ?_
  intro b8 s9 m10 bx8
  replace m0 := m0.trans m10.no
  replace h1 := h1.mono (m10.le no_No)
  replace h2 := h2.mono (m10.le no_No)
  replace h3 := h3.mono (m10.le no_No)
  refine L.al (N + 1) zz80 rfl Wt.no rfl ?_
  intro b11 s12 m13 bx11
  replace m0 := m0.trans m13.no
  replace bx8 := bx8.mv m13 no_No
  replace h1 := h1.mono (m13.le no_No)
  replace h2 := h2.mono (m13.le no_No)
  replace h3 := h3.mono (m13.le no_No)
  refine L.nil ?_
  refine X.seqN ?_
  refine E.seq ?_
  obtain ⟨x19, ex19, hm⟩ := bindS hm
  refine E.draw [[], [], [1], [1, 2], [1, 2, 3], [0, 1, 2, 3, 4], [], [0, 1, 2, 3, 4, 5, 6]] (fun D e sx => Mv (One (N + 3)) s12 sx ∧ Sub [(2, .pointer (some ⟨b11, 0, none⟩)), (1, .pointer (some ⟨b8, 0, none⟩))] e ∧ AllP [D 0 = true → (Env.get e 7 = some (.agg #[.slice a1 p0.1.length c1, .int .i64 p0.2.1, .slice a2 p0.2.2.1.length c2, .slice a3 p0.2.2.2.length c3])), D 1 = true → (Env.get e 8 = some (.pointer (some ⟨b8, 1, none⟩))), D 2 = true → (Env.get e 9 = some (.int .i64 p0.2.1)), D 3 = true → (Env.get e 10 = some (.int .i64 (W (p0.2.1 + 1)))), D 4 = true → (∃ (b20 : Nat), Env.get e 11 = some (.slice (some ⟨b20, 0, none⟩) x19.length x19.length) ∧ RowT (rK .i64) sx (N + 2) 3 (some ⟨b20, 0, none⟩) x19.length x19), D 5 = true → ∀ (b20 : Nat), Env.get e 11 = some (.slice (some ⟨b20, 0, none⟩) x19.length x19.length) → (Env.get e 12 = some (.agg #[.slice a1 p0.1.length c1, .int .i64 p0.2.1, .slice a2 p0.2.2.1.length c2, .slice a3 p0.2.2.2.length c3, .slice (some ⟨b20, 0, none⟩) x19.length x19.length])), D 6 = true → (∃ (b25 : Nat), Env.get e 3 = some (.pointer (some ⟨b25, 0, none⟩))), D 6 = true → D 7 = false → ∀ (b25 : Nat), Env.get e 3 = some (.pointer (some ⟨b25, 0, none⟩)) → Bx sx (N + 3) b25 #[.slice none 0 0, .int .i64 0, .slice none 0 0, .slice none 0 0, .slice none 0 0] 80, D 7 = true → ∀ (b20 : Nat) (b25 : Nat), Env.get e 11 = some (.slice (some ⟨b20, 0, none⟩) x19.length x19.length) → Env.get e 3 = some (.pointer (some ⟨b25, 0, none⟩)) → Bx sx (N + 3) b25 #[.slice a1 p0.1.length c1, .int .i64 p0.2.1, .slice a2 p0.2.2.1.length c2, .slice a3 p0.2.2.2.length c3, .slice (some ⟨b20, 0, none⟩) x19.length x19.length] 80]) (by kernel_rfl) (by kernel_rfl) (by kernel_rfl) ?_ ?_ ?_
  · intro sz mz
    exact ⟨mz.no, (Sub.cons rfl (Sub.cons rfl Sub.nil)), nofun, nofun, nofun, nofun, nofun, nofun, nofun, nofun, nofun, trivial⟩
  · refine ⟨?_, ?_, ?_, ?_, ?_, ?_, ?_, ?_, trivial⟩
    · rintro D e s14 ⟨im, ib, i⟩ hk hf ha
      have bx8 := bx8.mv im (tgN (by decide))
      have kn : Kn e [(1, .pointer (some ⟨b8, 0, none⟩))] := ⟨(ib 1 _ rfl), trivial⟩
      refine L.kns _ kn ?_
      refine L.lg (j := 0) (cs := [.slice a1 p0.1.length c1, .int .i64 p0.2.1, .slice a2 p0.2.2.1.length c2, .slice a3 p0.2.2.2.length c3]) bx8.mem ag31 Wt.no rfl rfl rfl rfl rfl ?_
      refine L.nil ?_
      exact X.dk kn ⟨im, Sub.fresh ib rfl, i.u 0 (fun _ => rfl)⟩
    · rintro D e s15 ⟨im, ib, i⟩ hk hf ha
      have kn : Kn e [(1, .pointer (some ⟨b8, 0, none⟩))] := ⟨(ib 1 _ rfl), trivial⟩
      refine L.kns _ kn ?_
      refine L.fa fa31_1 Wt.no rfl rfl ?_
      refine L.nil ?_
      exact X.dk kn ⟨im, Sub.fresh ib rfl, i.u 1 (fun _ => rfl)⟩
    · rintro D e s16 ⟨im, ib, i⟩ hk hf ha
      have g1_ := (i.p 1) (ha.at 1 rfl)
      have bx8 := bx8.mv im (tgN (by decide))
      have kn : Kn e [(8, .pointer (some ⟨b8, 1, none⟩))] := ⟨g1_, trivial⟩
      refine L.kns _ kn ?_
      refine L.ld (j := 1) bx8.mem nag3 Wt.no rfl rfl rfl rfl ?_
      refine L.nil ?_
      exact X.dk kn ⟨im, Sub.fresh ib rfl, i.u 2 (fun _ => rfl)⟩
    · rintro D e s17 ⟨im, ib, i⟩ hk hf ha
      have g2_ := (i.p 2) (ha.at 2 rfl)
      have kn : Kn e [(9, .int .i64 p0.2.1)] := ⟨g2_, trivial⟩
      refine L.kns _ kn ?_
      refine L.bi Wt.no rfl rfl rfl rfl ?_
      refine L.nil ?_
      exact X.dk kn ⟨im, Sub.fresh ib rfl, i.u 3 (fun _ => rfl)⟩
    · rintro D e s18 ⟨im, ib, i⟩ hk hf ha
      have g3_ := (i.p 3) (ha.at 3 rfl)
      have kn : Kn e [(10, .int .i64 (W (p0.2.1 + 1)))] := ⟨g3_, trivial⟩
      refine L.kns _ kn ?_
      refine L.mk (z := (0 : Int)) (N + 2) Try.underlying28 zr3 rfl Wt.no rfl rfl ex19 rfl ?_
      intro b20 s21 m22 h20
      refine L.nil ?_
      exact X.dk kn ⟨im.trans m22.no, Sub.fresh ib rfl, (((i.u 4 (fun _ => ⟨b20, rfl, h20⟩)).u 5 (fun z => Bool.noConfusion ((hf 5 (Nat.le_of_ble_eq_true rfl) rfl).symm.trans z))).u 7 (fun z z2 b25 q6 => (((i.p 7) z z2 b25 q6).mv m22 no_No))).u 8 (fun z => Bool.noConfusion ((hf 7 (Nat.le_of_ble_eq_true rfl) rfl).symm.trans z))⟩
    · rintro D e s23 ⟨im, ib, i⟩ hk hf ha
      have g0_ := (i.p 0) (ha.at 0 rfl)
      obtain ⟨b20, g4_, h20⟩ := (i.p 4) (ha.at 4 rfl)
      have kn : Kn e [(7, .agg #[.slice a1 p0.1.length c1, .int .i64 p0.2.1, .slice a2 p0.2.2.1.length c2, .slice a3 p0.2.2.2.length c3]), (11, .slice (some ⟨b20, 0, none⟩) x19.length x19.length)] := ⟨g0_, g4_, trivial⟩
      refine L.kns _ kn ?_
      refine L.bu (cs := [.slice a1 p0.1.length c1, .int .i64 p0.2.1, .slice a2 p0.2.2.1.length c2, .slice a3 p0.2.2.2.length c3, .slice (some ⟨b20, 0, none⟩) x19.length x19.length]) pl80 Wt.no rfl rfl rfl ?_
      refine L.nil ?_
      exact X.dk kn ⟨im, Sub.fresh ib rfl, i.u 5 (fun _ _ q4 => by cases g4_.symm.trans q4; exact rfl)⟩
    · rintro D e s24 ⟨im, ib, i⟩ hk hf ha
      refine L.al (N + 3) zz80 rfl Wt.no rfl ?_
      intro b25 s26 m27 bx25
      refine L.nil ?_
      exact X.dr (s := s26) (e' := (3, .pointer (some ⟨b25, 0, none⟩)) :: e) (Sub.both (Sub.refl)) ⟨im.trans m27.no, Sub.fresh ib rfl, (((i.u 4 (fun z => let ⟨b20, q, h20⟩ := (i.p 4) z; ⟨b20, q, (h20.mv m27 no_No no_No)⟩)).u 6 (fun _ => ⟨b25, rfl⟩)).u 7 (fun _ _ _ q6 => by cases (show some (.pointer (some ⟨b25, 0, none⟩) : Value) = some _ from q6); exact bx25)).u 8 (fun z => Bool.noConfusion ((hf 7 (Nat.le_of_ble_eq_true rfl) rfl).symm.trans z))⟩
    · rintro D e s28 ⟨im, ib, i⟩ hk hf ha
      obtain ⟨b20, g4_, h20⟩ := (i.p 4) (ha.at 4 rfl)
      have g5_ := (i.p 5) (ha.at 5 rfl) b20 g4_
      obtain ⟨b25, g6_⟩ := (i.p 6) (ha.at 6 rfl)
      obtain bx25 := (i.p 7) (ha.at 6 rfl) hk b25 g6_
      have kn : Kn e [(3, .pointer (some ⟨b25, 0, none⟩)), (12, .agg #[.slice a1 p0.1.length c1, .int .i64 p0.2.1, .slice a2 p0.2.2.1.length c2, .slice a3 p0.2.2.2.length c3, .slice (some ⟨b20, 0, none⟩) x19.length x19.length])] := ⟨g6_, g5_, trivial⟩
      refine L.kns _ kn ?_
      refine L.st (c := [.slice a1 p0.1.length c1, .int .i64 p0.2.1, .slice a2 p0.2.2.1.length c2, .slice a3 p0.2.2.2.length c3, .slice (some ⟨b20, 0, none⟩) x19.length x19.length]) (cs' := #[.slice a1 p0.1.length c1, .int .i64 p0.2.1, .slice a2 p0.2.2.1.length c2, .slice a3 p0.2.2.2.length c3, .slice (some ⟨b20, 0, none⟩) x19.length x19.length]) bx25 ag80.sz Wt.no rfl rfl rfl rfl rfl (Nat.le_of_ble_eq_true rfl) rfl ?_
      intro s29 m30 bx25
      refine L.nil ?_
      exact X.dn kn ⟨im.trans (m30.one rfl), ib, ((i.u 4 (fun z => let ⟨b20, q, h20⟩ := (i.p 4) z; ⟨b20, q, (h20.mv m30 (tgN (by decide)) (tg0 hN))⟩)).u 7 (fun _ z => Bool.noConfusion (show true = false from z))).u 8 (fun _ _ _ q4 q6 => by cases g4_.symm.trans q4; cases g6_.symm.trans q6; exact bx25)⟩
  · rintro D e s31 hD ⟨im, ib, i⟩
    obtain ⟨b20, g4_, h20⟩ := (i.p 4) (hD 4 rfl)
    obtain ⟨b25, g6_⟩ := (i.p 6) (hD 6 rfl)
    obtain bx25 := (i.p 8) (hD 7 rfl) b20 b25 g4_ g6_
    have h1 := h1.mono (im.le (tg0 hN))
    have h2 := h2.mono (im.le (tg0 hN))
    have h3 := h3.mono (im.le (tg0 hN))
    have bx11 := bx11.mv im (tgN (by decide))
    have bx8 := bx8.mv im (tgN (by decide))
    have m0 := m0.trans (im.one up)
    refine X.sub (e' := [(3, .pointer (some ⟨b25, 0, none⟩)), (2, .pointer (some ⟨b11, 0, none⟩)), (1, .pointer (some ⟨b8, 0, none⟩))]) ?_ (Sub.cons g6_ (Sub.cons (ib 2 _ rfl) (Sub.cons (ib 1 _ rfl) Sub.nil)))
    refine X.seqN ?_
    refine E.seq ?_
    refine E.seq ?_
    refine E.reg ?_
    refine L.fa fa31_3 Wt.no rfl rfl ?_
    refine L.ld (j := 3) bx8.mem nag29 Wt.no rfl rfl rfl rfl ?_
    refine L.len sl29 Wt.no rfl rfl ?_
    refine L.mv Wt.no rfl rfl ?_
    refine L.nil ?_
    refine X.seqN ?_
    refine E.block ?_
    obtain ⟨o50, eo50, hm⟩ := bindS hm
    refine E.cut (x := .exit 0) (fun e w => ∃ (s53 : Sig), Mv (Up N No) s s53 ∧ RdL (rK .i64) s53 a1 c1 p0.1 ∧ RdL (rK .i64) s53 a2 c2 p0.2.2.1 ∧ RdL (rP (rK .i64) (rP (rK .i64) (rK .i64))) s53 a3 c3 p0.2.2.2 ∧ RowT (rK .i64) s53 (N + 2) 3 (some ⟨b20, 0, none⟩) x19.length o50 ∧ Bx s53 (N + 0) b8 #[.slice a1 p0.1.length c1, .int .i64 p0.2.1, .slice a2 p0.2.2.1.length c2, .slice a3 p0.2.2.2.length c3] 31 ∧ Bx s53 (N + 1) b11 #[.slice none 0 0, .int .i64 0, .slice none 0 0, .slice none 0 0, .slice none 0 0] 80 ∧ Bx s53 (N + 3) b25 #[.slice a1 p0.1.length c1, .int .i64 p0.2.1, .slice a2 p0.2.2.1.length c2, .slice a3 p0.2.2.2.length c3, .slice (some ⟨b20, 0, none⟩) o50.length x19.length] 80 ∧ e = [(3, .pointer (some ⟨b25, 0, none⟩)), (2, .pointer (some ⟨b11, 0, none⟩)), (1, .pointer (some ⟨b8, 0, none⟩))] ∧ w = s53.w) ?_ ?_
    · rintro _ _ ⟨s53, m0, h1, h2, h3, h20, bx8, bx11, bx25, rfl, rfl⟩
      refine X.blkE ?_
      refine X.seqN ?_
      refine E.seq ?_
      refine E.seq ?_
      refine E.reg ?_
      refine L.fa fa31_1 Wt.no rfl rfl ?_
      refine L.ld (j := 1) bx8.mem nag3 Wt.no rfl rfl rfl rfl ?_
      refine L.mv Wt.no rfl rfl ?_
      refine L.nil ?_
      refine X.seqN ?_
      refine E.block ?_
      obtain ⟨o82, eo82, hm⟩ := bindS hm
      refine E.cut (x := .exit 2) (fun e w => ∃ (s85 : Sig), Mv (Up N No) s s85 ∧ RdL (rK .i64) s85 a1 c1 p0.1 ∧ RdL (rK .i64) s85 a2 c2 p0.2.2.1 ∧ RdL (rP (rK .i64) (rP (rK .i64) (rK .i64))) s85 a3 c3 p0.2.2.2 ∧ RowT (rK .i64) s85 (N + 2) 3 (some ⟨b20, 0, none⟩) x19.length o82 ∧ Bx s85 (N + 1) b11 #[.slice none 0 0, .int .i64 0, .slice none 0 0, .slice none 0 0, .slice none 0 0] 80 ∧ Bx s85 (N + 3) b25 #[.slice a1 p0.1.length c1, .int .i64 p0.2.1, .slice a2 p0.2.2.1.length c2, .slice a3 p0.2.2.2.length c3, .slice (some ⟨b20, 0, none⟩) o82.length x19.length] 80 ∧ e = [(3, .pointer (some ⟨b25, 0, none⟩)), (2, .pointer (some ⟨b11, 0, none⟩))] ∧ w = s85.w) ?_ ?_
      · rintro _ _ ⟨s85, m0, h1, h2, h3, h20, bx11, bx25, rfl, rfl⟩
        refine X.blkE ?_
        refine X.seqN ?_
        refine E.seq ?_
        refine E.reg ?_
        refine L.lg (j := 0) (cs := [.slice a1 p0.1.length c1, .int .i64 p0.2.1, .slice a2 p0.2.2.1.length c2, .slice a3 p0.2.2.2.length c3, .slice (some ⟨b20, 0, none⟩) o82.length x19.length]) bx25.mem ag80 Wt.no rfl rfl rfl rfl rfl ?_
        refine L.st (c := [.slice a1 p0.1.length c1, .int .i64 p0.2.1, .slice a2 p0.2.2.1.length c2, .slice a3 p0.2.2.2.length c3, .slice (some ⟨b20, 0, none⟩) o82.length x19.length]) (cs' := #[.slice a1 p0.1.length c1, .int .i64 p0.2.1, .slice a2 p0.2.2.1.length c2, .slice a3 p0.2.2.2.length c3, .slice (some ⟨b20, 0, none⟩) o82.length x19.length]) bx11 ag80.sz Wt.no rfl rfl rfl rfl rfl (Nat.le_of_ble_eq_true rfl) rfl ?_
        intro s86 m87 bx11
        replace m0 := m0.trans (m87.one up)
        replace h1 := h1.mono (m87.le (tg0 hN))
        replace h2 := h2.mono (m87.le (tg0 hN))
        replace h3 := h3.mono (m87.le (tg0 hN))
        replace h20 := h20.mv m87 (tgN (by decide)) (tg0 hN)
        refine L.nil ?_
        refine X.seqN ?_
        refine E.ret ?_
        obtain rfl := Option.some.inj hm
        exact X.rt (.inl rfl) Try.results48 (Rs.cell rfl bx11 ag80 rfl Rs.nil) rfl ⟨_, (s86).ren N (fun k => cond (Nat.beq k 2) u3 (0)), rfl, rfl, m0.ren hNb, ⟨a1, c1, a2, c2, a3, c3, (some ⟨b20, 0, none⟩), x19.length, rfl, (h1.ren hN), (h2.ren hN), (h3.ren hN), (h20.ren hN)⟩⟩
      intro K88
      refine E.iter (fun (st82 : Int × List Int) (e : List (Nat × Value)) (w : World) => ∃ (s84 : Sig), Mv (Up N No) s s84 ∧ RdL (rK .i64) s84 a1 c1 p0.1 ∧ RdL (rK .i64) s84 a2 c2 p0.2.2.1 ∧ RdL (rP (rK .i64) (rP (rK .i64) (rK .i64))) s84 a3 c3 p0.2.2.2 ∧ RowT (rK .i64) s84 (N + 2) 3 (some ⟨b20, 0, none⟩) x19.length st82.2 ∧ Bx s84 (N + 1) b11 #[.slice none 0 0, .int .i64 0, .slice none 0 0, .slice none 0 0, .slice none 0 0] 80 ∧ Bx s84 (N + 3) b25 #[.slice a1 p0.1.length c1, .int .i64 p0.2.1, .slice a2 p0.2.2.1.length c2, .slice a3 p0.2.2.2.length c3, .slice (some ⟨b20, 0, none⟩) st82.2.length x19.length] 80 ∧ e = [(32, .int .i64 st82.1), (31, .int .i64 p0.2.1), (3, .pointer (some ⟨b25, 0, none⟩)), (2, .pointer (some ⟨b11, 0, none⟩))] ∧ w = s84.w) eo82 ⟨s53, m0, h1, h2, h3, h20, bx11, bx25, rfl, rfl⟩ (Sub.cons rfl (Sub.cons rfl (Sub.cons rfl (Sub.cons rfl Sub.nil)))) ?_
      rintro st82 res82 hm ih82 ho82 _ _ ⟨s84, m0, h1, h2, h3, h20, bx11, bx25, rfl, rfl⟩
      unfold m_reach_newGraph_l2 at hm
      refine E.seq ?_
      refine E.reg ?_
      refine L.bi Wt.no rfl rfl rfl rfl ?_
      refine L.nil ?_
      refine X.seqN ?_
      refine E.seq ?_
      rcases ifS hm with ⟨hc, hm⟩ | ⟨hc, hm⟩
      · refine E.cT rfl hc ?_
        refine E.skip ?_
        refine X.seqN ?_
        refine E.seq ?_
        refine E.block ?_
        refine E.seq ?_
        refine E.reg ?_
        refine L.mv Wt.no rfl rfl ?_
        refine L.as Wt.no rfl rfl ?_
        refine L.nil ?_
        refine X.seqN ?_
        obtain ⟨x94, ex94, hm⟩ := bindS hm
        obtain ⟨x101, ex101, hm⟩ := bindS hm
        obtain ⟨x106, ex106, hm⟩ := bindS hm
        obtain ⟨x109, ex109, hm⟩ := bindS hm
        have elx109 := upd_len ex109
        refine E.draw [[], [0], [], [2], [0, 1, 2, 3], [0, 1, 2, 3, 4], [], [6], [], [6, 7, 8], [6, 7, 8, 9], [0, 1, 2, 3, 4, 5, 6, 7, 8, 9, 10], [0, 1, 2, 3, 4, 5, 6, 7, 8, 9, 10, 11], [0, 1, 2, 3, 4, 5, 6, 7, 8, 9, 10, 11, 12]] (fun D e sx => Mv (One (N + 2)) s84 sx ∧ Sub [(6, .int .i64 st82.1), (32, .int .i64 st82.1), (31, .int .i64 p0.2.1), (3, .pointer (some ⟨b25, 0, none⟩)), (2, .pointer (some ⟨b11, 0, none⟩))] e ∧ AllP [D 0 = true → (Env.get e 35 = some (.pointer (some ⟨b25, 4, none⟩))), D 1 = true → (Env.get e 36 = some (.slice (some ⟨b20, 0, none⟩) st82.2.length x19.length)), D 2 = true → (Env.get e 37 = some (.int .i64 st82.1)), D 3 = true → (Env.get e 38 = some (.int .i64 (W (st82.1 + 1)))), D 4 = true → (∃ (b95 : Nat) (o95 : Nat), Env.get e 39 = some (.pointer (some ⟨b95, o95, none⟩)) ∧ Spot (some ⟨b20, 0, none⟩) (rK .i64).sz (W (st82.1 + 1)).toNat b95 o95), D 5 = true → (Env.get e 40 = some (.int .i64 x94)), D 6 = true → (Env.get e 41 = some (.pointer (some ⟨b25, 4, none⟩))), D 7 = true → (Env.get e 42 = some (.slice (some ⟨b20, 0, none⟩) st82.2.length x19.length)), D 8 = true → (Env.get e 43 = some (.int .i64 st82.1)), D 9 = true → (∃ (b102 : Nat) (o102 : Nat), Env.get e 44 = some (.pointer (some ⟨b102, o102, none⟩)) ∧ Spot (some ⟨b20, 0, none⟩) (rK .i64).sz (st82.1).toNat b102 o102), D 10 = true → (Env.get e 45 = some (.int .i64 x101)), D 11 = true → (Env.get e 46 = some (.int .i64 (W (x94 + x101)))), D 12 = true → (∃ (b107 : Nat) (o107 : Nat), Env.get e 47 = some (.pointer (some ⟨b107, o107, none⟩)) ∧ Spot (some ⟨b20, 0, none⟩) (rK .i64).sz (W (st82.1 + 1)).toNat b107 o107), D 13 = false → RowT (rK .i64) sx (N + 2) 3 (some ⟨b20, 0, none⟩) x19.length st82.2, D 13 = true → RowT (rK .i64) sx (N + 2) 3 (some ⟨b20, 0, none⟩) x19.length x109, D 4 = true → D 13 = false → ∀ (b95 : Nat) (o95 : Nat), Env.get e 39 = some (.pointer (some ⟨b95, o95, none⟩)) → Mem sx (N + 2) b95 o95 [.int .i64 x94], D 9 = true → D 13 = false → ∀ (b102 : Nat) (o102 : Nat), Env.get e 44 = some (.pointer (some ⟨b102, o102, none⟩)) → Mem sx (N + 2) b102 o102 [.int .i64 x101], D 12 = true → D 13 = false → ∀ (b107 : Nat) (o107 : Nat), Env.get e 47 = some (.pointer (some ⟨b107, o107, none⟩)) → Mem sx (N + 2) b107 o107 [.int .i64 x106]]) (by kernel_rfl) (by kernel_rfl) (by kernel_rfl) ?_ ?_ ?_
        · intro sz mz
          exact ⟨mz.no, (Sub.cons rfl (Sub.cons rfl (Sub.cons rfl (Sub.cons rfl (Sub.cons rfl Sub.nil))))), nofun, nofun, nofun, nofun, nofun, nofun, nofun, nofun, nofun, nofun, nofun, nofun, nofun, fun _ => h20.mv mz no_No no_No, nofun, nofun, nofun, nofun, trivial⟩
        · refine ⟨?_, ?_, ?_, ?_, ?_, ?_, ?_, ?_, ?_, ?_, ?_, ?_, ?_, ?_, trivial⟩
          · rintro D e s89 ⟨im, ib, i⟩ hk hf ha
            have kn : Kn e [(3, .pointer (some ⟨b25, 0, none⟩))] := ⟨(ib 3 _ rfl), trivial⟩
            refine L.kns _ kn ?_
            refine L.fa fa80_1 Wt.no rfl rfl ?_
            refine L.nil ?_
            exact X.dk kn ⟨im, Sub.fresh ib rfl, i.u 0 (fun _ => rfl)⟩
          · rintro D e s90 ⟨im, ib, i⟩ hk hf ha
            have g0_ := (i.p 0) (ha.at 0 rfl)
            have bx25 := bx25.mv im (tgN (by decide))
            have kn : Kn e [(35, .pointer (some ⟨b25, 4, none⟩))] := ⟨g0_, trivial⟩
            refine L.kns _ kn ?_
            refine L.ld (j := 4) bx25.mem nag28 Wt.no rfl rfl rfl rfl ?_
            refine L.nil ?_
            exact X.dk kn ⟨im, Sub.fresh ib rfl, i.u 1 (fun _ => rfl)⟩
          · rintro D e s91 ⟨im, ib, i⟩ hk hf ha
            have kn : Kn e [(6, .int .i64 st82.1)] := ⟨(ib 6 _ rfl), trivial⟩
            refine L.kns _ kn ?_
            refine L.mv Wt.no rfl rfl ?_
            refine L.nil ?_
            exact X.dk kn ⟨im, Sub.fresh ib rfl, i.u 2 (fun _ => rfl)⟩
          · rintro D e s92 ⟨im, ib, i⟩ hk hf ha
            have g2_ := (i.p 2) (ha.at 2 rfl)
            have kn : Kn e [(37, .int .i64 st82.1)] := ⟨g2_, trivial⟩
            refine L.kns _ kn ?_
            refine L.bi Wt.no rfl rfl rfl rfl ?_
            refine L.nil ?_
            exact X.dk kn ⟨im, Sub.fresh ib rfl, i.u 3 (fun _ => rfl)⟩
          · rintro D e s93 ⟨im, ib, i⟩ hk hf ha
            have g1_ := (i.p 1) (ha.at 1 rfl)
            have g3_ := (i.p 3) (ha.at 3 rfl)
            obtain h20 := (i.p 13) (hf 13 (Nat.le_of_ble_eq_true rfl) rfl)
            have kn : Kn e [(36, .slice (some ⟨b20, 0, none⟩) st82.2.length x19.length), (38, .int .i64 (W (st82.1 + 1)))] := ⟨g1_, g3_, trivial⟩
            refine L.kns _ kn ?_
            refine L.ir (r := (rK .i64)) sl28 h20 Wt.no rfl rfl ex94 rfl ?_
            rintro b95 o95 cc95 me95 rd95 sp95
            obtain rfl := rd95
            refine L.nil ?_
            exact X.dk kn ⟨im, Sub.fresh ib rfl, (i.u 4 (fun _ => ⟨b95, o95, rfl, sp95⟩)).u 15 (fun _ _ _ _ q4 => by cases (show some (.pointer (some ⟨b95, o95, none⟩) : Value) = some _ from q4); exact me95)⟩
          · rintro D e s96 ⟨im, ib, i⟩ hk hf ha
            obtain ⟨b95, o95, g4_, sp95⟩ := (i.p 4) (ha.at 4 rfl)
            have me95 := (i.p 15) (ha.at 4 rfl) (hf 13 (Nat.le_of_ble_eq_true rfl) rfl) b95 o95 g4_
            have kn : Kn e [(39, .pointer (some ⟨b95, o95, none⟩))] := ⟨g4_, trivial⟩
            refine L.kns _ kn ?_
            refine L.ld (j := 0) me95 nag3 Wt.no rfl rfl rfl rfl ?_
            refine L.nil ?_
            exact X.dk kn ⟨im, Sub.fresh ib rfl, i.u 5 (fun _ => rfl)⟩
          · rintro D e s97 ⟨im, ib, i⟩ hk hf ha
            have kn : Kn e [(3, .pointer (some ⟨b25, 0, none⟩))] := ⟨(ib 3 _ rfl), trivial⟩
            refine L.kns _ kn ?_
            refine L.fa fa80_1 Wt.no rfl rfl ?_
            refine L.nil ?_
            exact X.dk kn ⟨im, Sub.fresh ib rfl, i.u 6 (fun _ => rfl)⟩
          · rintro D e s98 ⟨im, ib, i⟩ hk hf ha
            have g6_ := (i.p 6) (ha.at 6 rfl)
            have bx25 := bx25.mv im (tgN (by decide))
            have kn : Kn e [(41, .pointer (some ⟨b25, 4, none⟩))] := ⟨g6_, trivial⟩
            refine L.kns _ kn ?_
            refine L.ld (j := 4) bx25.mem nag28 Wt.no rfl rfl rfl rfl ?_
            refine L.nil ?_
            exact X.dk kn ⟨im, Sub.fresh ib rfl, i.u 7 (fun _ => rfl)⟩
          · rintro D e s99 ⟨im, ib, i⟩ hk hf ha
            have kn : Kn e [(6, .int .i64 st82.1)] := ⟨(ib 6 _ rfl), trivial⟩
            refine L.kns _ kn ?_
            refine L.mv Wt.no rfl rfl ?_
            refine L.nil ?_
            exact X.dk kn ⟨im, Sub.fresh ib rfl, i.u 8 (fun _ => rfl)⟩
          · rintro D e s100 ⟨im, ib, i⟩ hk hf ha
            have g7_ := (i.p 7) (ha.at 7 rfl)
            have g8_ := (i.p 8) (ha.at 8 rfl)
            obtain h20 := (i.p 13) (hf 13 (Nat.le_of_ble_eq_true rfl) rfl)
            have kn : Kn e [(42, .slice (some ⟨b20, 0, none⟩) st82.2.length x19.length), (43, .int .i64 st82.1)] := ⟨g7_, g8_, trivial⟩
            refine L.kns _ kn ?_
            refine L.ir (r := (rK .i64)) sl28 h20 Wt.no rfl rfl ex101 rfl ?_
            rintro b102 o102 cc102 me102 rd102 sp102
            obtain rfl := rd102
            refine L.nil ?_
            exact X.dk kn ⟨im, Sub.fresh ib rfl, (i.u 9 (fun _ => ⟨b102, o102, rfl, sp102⟩)).u 16 (fun _ _ _ _ q9 => by cases (show some (.pointer (some ⟨b102, o102, none⟩) : Value) = some _ from q9); exact me102)⟩
          · rintro D e s103 ⟨im, ib, i⟩ hk hf ha
            obtain ⟨b102, o102, g9_, sp102⟩ := (i.p 9) (ha.at 9 rfl)
            have me102 := (i.p 16) (ha.at 9 rfl) (hf 13 (Nat.le_of_ble_eq_true rfl) rfl) b102 o102 g9_
            have kn : Kn e [(44, .pointer (some ⟨b102, o102, none⟩))] := ⟨g9_, trivial⟩
            refine L.kns _ kn ?_
            refine L.ld (j := 0) me102 nag3 Wt.no rfl rfl rfl rfl ?_
            refine L.nil ?_
            exact X.dk kn ⟨im, Sub.fresh ib rfl, i.u 10 (fun _ => rfl)⟩
          · rintro D e s104 ⟨im, ib, i⟩ hk hf ha
            have g5_ := (i.p 5) (ha.at 5 rfl)
            have g10_ := (i.p 10) (ha.at 10 rfl)
            have kn : Kn e [(40, .int .i64 x94), (45, .int .i64 x101)] := ⟨g5_, g10_, trivial⟩
            refine L.kns _ kn ?_
            refine L.bi Wt.no rfl rfl rfl rfl ?_
            refine L.nil ?_
            exact X.dk kn ⟨im, Sub.fresh ib rfl, i.u 11 (fun _ => rfl)⟩
          · rintro D e s105 ⟨im, ib, i⟩ hk hf ha
            have g1_ := (i.p 1) (ha.at 1 rfl)
            have g3_ := (i.p 3) (ha.at 3 rfl)
            obtain h20 := (i.p 13) (hf 13 (Nat.le_of_ble_eq_true rfl) rfl)
            have kn : Kn e [(36, .slice (some ⟨b20, 0, none⟩) st82.2.length x19.length), (38, .int .i64 (W (st82.1 + 1)))] := ⟨g1_, g3_, trivial⟩
            refine L.kns _ kn ?_
            refine L.ir (r := (rK .i64)) sl28 h20 Wt.no rfl rfl ex106 rfl ?_
            rintro b107 o107 cc107 me107 rd107 sp107
            obtain rfl := rd107
            refine L.nil ?_
            exact X.dk kn ⟨im, Sub.fresh ib rfl, (i.u 12 (fun _ => ⟨b107, o107, rfl, sp107⟩)).u 17 (fun _ _ _ _ q12 => by cases (show some (.pointer (some ⟨b107, o107, none⟩) : Value) = some _ from q12); exact me107)⟩
          · rintro D e s108 ⟨im, ib, i⟩ hk hf ha
            have g11_ := (i.p 11) (ha.at 11 rfl)
            obtain ⟨b107, o107, g12_, sp107⟩ := (i.p 12) (ha.at 12 rfl)
            obtain h20 := (i.p 13) hk
            have kn : Kn e [(47, .pointer (some ⟨b107, o107, none⟩)), (46, .int .i64 (W (x94 + x101)))] := ⟨g12_, g11_, trivial⟩
            refine L.kns _ kn ?_
            refine L.su (fo := 0) (c := [.int .i64 (W (x94 + x101))]) (z := W (x94 + x101)) h20 sp107 ex106 ex109 (tgp hN) nag3.sz Wt.no rfl rfl rfl rfl rfl rfl (fun c0 hc0 => by obtain rfl := hc0; exact rfl) ?_
            intro s110 m111 h20
            refine L.nil ?_
            exact X.dn kn ⟨im.trans (m111.one rfl), ib, (((((((i.u 4 (fun z => let ⟨b95, o95, q, sp95⟩ := (i.p 4) z; ⟨b95, o95, q, sp95⟩)).u 9 (fun z => let ⟨b102, o102, q, sp102⟩ := (i.p 9) z; ⟨b102, o102, q, sp102⟩)).u 12 (fun z => let ⟨b107, o107, q, sp107⟩ := (i.p 12) z; ⟨b107, o107, q, sp107⟩)).u 13 (fun z => Bool.noConfusion (show true = false from z))).u 14 (fun _ => by exact h20)).u 15 (fun _ y13 => Bool.noConfusion (show true = false from y13))).u 16 (fun _ y13 => Bool.noConfusion (show true = false from y13))).u 17 (fun _ y13 => Bool.noConfusion (show true = false from y13))⟩
        · rintro D e s112 hD ⟨im, ib, i⟩
          obtain h20 := (i.p 14) (hD 13 rfl)
          have bx25 := bx25.mv im (tgN (by decide))
          have h1 := h1.mono (im.le (tg0 hN))
          have h2 := h2.mono (im.le (tg0 hN))
          have h3 := h3.mono (im.le (tg0 hN))
          have bx11 := bx11.mv im (tgN (by decide))
          have m0 := m0.trans (im.one up)
          refine X.sub (e' := [(32, .int .i64 st82.1), (31, .int .i64 p0.2.1), (3, .pointer (some ⟨b25, 0, none⟩)), (2, .pointer (some ⟨b11, 0, none⟩))]) ?_ (Sub.cons (ib 32 _ rfl) (Sub.cons (ib 31 _ rfl) (Sub.cons (ib 3 _ rfl) (Sub.cons (ib 2 _ rfl) Sub.nil))))
          replace bx25 : Bx s112 (N + 3) b25 #[.slice a1 p0.1.length c1, .int .i64 p0.2.1, .slice a2 p0.2.2.1.length c2, .slice a3 p0.2.2.2.length c3, .slice (some ⟨b20, 0, none⟩) x109.length x19.length] 80 := by rw [elx109]; exact bx25
          refine X.blkN ?_
          refine X.seqN ?_
          refine E.reg ?_
          refine L.bi Wt.no rfl rfl rfl rfl ?_
          refine L.mv Wt.no rfl rfl ?_
          refine L.nil ?_
          exact X.sub (ih82 _ (Option.some.inj hm).symm _ _ ⟨s112, m0, h1, h2, h3, h20, bx11, bx25, rfl, rfl⟩) (Sub.cons rfl (Sub.cons rfl (Sub.cons rfl (Sub.cons rfl Sub.nil))))
      · refine E.cF rfl hc ?_
        refine E.exit ?_
        refine X.seqX ?_
        refine X.seqX ?_
        have hx := ho82 _ (Option.some.inj hm).symm
        subst hx
        exact X.sub (K88 _ _ ⟨s84, m0, h1, h2, h3, h20, bx11, bx25, rfl, rfl⟩) (Sub.cons rfl (Sub.cons rfl Sub.nil))
    intro K113
    refine E.iter (fun (st50 : Int × List Int) (e : List (Nat × Value)) (w : World) => ∃ (s52 : Sig), Mv (Up N No) s s52 ∧ RdL (rP (rK .i64) (rP (rK .i64) (rK .i64))) s52 a3 c3 p0.2.2.2 ∧ RdL (rK .i64) s52 a1 c1 p0.1 ∧ RdL (rK .i64) s52 a2 c2 p0.2.2.1 ∧ RowT (rK .i64) s52 (N + 2) 3 (some ⟨b20, 0, none⟩) x19.length st50.2 ∧ Bx s52 (N + 0) b8 #[.slice a1 p0.1.length c1, .int .i64 p0.2.1, .slice a2 p0.2.2.1.length c2, .slice a3 p0.2.2.2.length c3] 31 ∧ Bx s52 (N + 1) b11 #[.slice none 0 0, .int .i64 0, .slice none 0 0, .slice none 0 0, .slice none 0 0] 80 ∧ Bx s52 (N + 3) b25 #[.slice a1 p0.1.length c1, .int .i64 p0.2.1, .slice a2 p0.2.2.1.length c2, .slice a3 p0.2.2.2.length c3, .slice (some ⟨b20, 0, none⟩) st50.2.length x19.length] 80 ∧ e = [(16, .int .i64 st50.1), (15, .int .i64 (p0.2.2.2.length : Int)), (14, .slice a3 p0.2.2.2.length c3), (3, .pointer (some ⟨b25, 0, none⟩)), (2, .pointer (some ⟨b11, 0, none⟩)), (1, .pointer (some ⟨b8, 0, none⟩))] ∧ w = s52.w) eo50 ⟨s31, m0, h3, h1, h2, h20, bx8, bx11, bx25, rfl, rfl⟩ (Sub.cons rfl (Sub.cons rfl (Sub.cons rfl (Sub.cons rfl (Sub.cons rfl (Sub.cons rfl Sub.nil)))))) ?_
    rintro st50 res50 hm ih50 ho50 _ _ ⟨s52, m0, h3, h1, h2, h20, bx8, bx11, bx25, rfl, rfl⟩
    unfold m_reach_newGraph_l1 at hm
    refine E.seq ?_
    refine E.reg ?_
    refine L.bi Wt.no rfl rfl rfl rfl ?_
    refine L.nil ?_
    refine X.seqN ?_
    refine E.seq ?_
    rcases ifS hm with ⟨hc, hm⟩ | ⟨hc, hm⟩
    · refine E.cT rfl hc ?_
      refine E.skip ?_
      refine X.seqN ?_
      refine E.seq ?_
      refine E.block ?_
      refine E.seq ?_
      refine E.reg ?_
      obtain ⟨x114, ex114, hm⟩ := bindS hm
      refine L.ix (r := (rP (rK .i64) (rP (rK .i64) (rK .i64)))) sl29 h3 Wt.no rfl rfl ex114 rfl ?_
      rintro b115 o115 cc115 me115 rd115
      obtain ⟨_, _, rfl, rfl, ⟨_, _, rfl, rfl, rfl⟩⟩ := rd115
      refine L.lg (j := 0) (cs := [.int .i64 x114.1, .int .i64 x114.2.1, .int .i64 x114.2.2]) me115 ag45 Wt.no rfl rfl rfl rfl rfl ?_
      refine L.al (N + 4) zz45 rfl Wt.no rfl ?_
      intro b116 s117 m118 bx116
      replace m0 := m0.trans m118.no
      replace h3 := h3.mono (m118.le no_No)
      replace bx8 := bx8.mv m118 no_No
      replace h1 := h1.mono (m118.le no_No)
      replace h2 := h2.mono (m118.le no_No)
      replace bx11 := bx11.mv m118 no_No
      replace bx25 := bx25.mv m118 no_No
      replace h20 := h20.mv m118 no_No no_No
      refine L.st (c := [.int .i64 x114.1, .int .i64 x114.2.1, .int .i64 x114.2.2]) (cs' := #[.int .i64 x114.1, .int .i64 x114.2.1, .int .i64 x114.2.2]) bx116 ag45.sz Wt.no rfl rfl rfl rfl rfl (Nat.le_of_ble_eq_true rfl) rfl ?_
      intro s119 m120 bx116
      replace m0 := m0.trans (m120.one up)
      replace h3 := h3.mono (m120.le (tg0 hN))
      replace bx8 := bx8.mv m120 (tgN (by decide))
      replace h1 := h1.mono (m120.le (tg0 hN))
      replace h2 := h2.mono (m120.le (tg0 hN))
      replace bx11 := bx11.mv m120 (tgN (by decide))
      replace bx25 := bx25.mv m120 (tgN (by decide))
      replace h20 := h20.mv m120 (tgN (by decide)) (tg0 hN)
      refine L.nil ?_
      refine X.seqN ?_
      refine E.reg ?_
      refine L.fa fa80_1 Wt.no rfl rfl ?_
      refine L.ld (j := 4) bx25.mem nag28 Wt.no rfl rfl rfl rfl ?_
      refine L.fa fa45_0 Wt.no rfl rfl ?_
      refine L.ld (j := 0) bx116.mem nag3 Wt.no rfl rfl rfl rfl ?_
      refine L.bi Wt.no rfl rfl rfl rfl ?_
      obtain ⟨x121, ex121, hm⟩ := bindS hm
      refine L.ir (r := (rK .i64)) sl28 h20 Wt.no rfl rfl ex121 rfl ?_
      rintro b122 o122 cc122 me122 rd122 sp122
      obtain rfl := rd122
      refine L.ld (j := 0) me122 nag3 Wt.no rfl rfl rfl rfl ?_
      refine L.bi Wt.no rfl rfl rfl rfl ?_
      obtain ⟨x123, ex123, hm⟩ := bindS hm
      refine L.ir (r := (rK .i64)) sl28 h20 Wt.no rfl rfl ex123 rfl ?_
      rintro b124 o124 cc124 me124 rd124 sp124
      obtain rfl := rd124
      obtain ⟨x125, ex125, hm⟩ := bindS hm
      have elx125 := upd_len ex125
      refine L.su (fo := 0) (c := [.int .i64 (W (x121 + 1))]) (z := W (x121 + 1)) h20 sp124 ex123 ex125 (tgp hN) nag3.sz Wt.no rfl rfl rfl rfl rfl rfl (fun c0 hc0 => by obtain rfl := hc0; exact rfl) ?_
      intro s126 m127 h20
      replace m0 := m0.trans (m127.one up)
      replace h3 := h3.mono (m127.le (tg0 hN))
      replace bx8 := bx8.mv m127 (tgN (by decide))
      replace h1 := h1.mono (m127.le (tg0 hN))
      replace h2 := h2.mono (m127.le (tg0 hN))
      replace bx11 := bx11.mv m127 (tgN (by decide))
      replace bx25 := bx25.mv m127 (tgN (by decide))
      replace bx25 : Bx s126 (N + 3) b25 #[.slice a1 p0.1.length c1, .int .i64 p0.2.1, .slice a2 p0.2.2.1.length c2, .slice a3 p0.2.2.2.length c3, .slice (some ⟨b20, 0, none⟩) x125.length x19.length] 80 := by rw [elx125]; exact bx25
      refine L.nil ?_
      refine X.blkN ?_
      refine X.seqN ?_
      refine E.reg ?_
      refine L.bi Wt.no rfl rfl rfl rfl ?_
      refine L.mv Wt.no rfl rfl ?_
      refine L.nil ?_
      exact X.sub (ih50 _ (Option.some.inj hm).symm _ _ ⟨s126, m0, h3, h1, h2, h20, bx8, bx11, bx25, rfl, rfl⟩) (Sub.cons rfl (Sub.cons rfl (Sub.cons rfl (Sub.cons rfl (Sub.cons rfl (Sub.cons rfl Sub.nil))))))
    · refine E.cF rfl hc ?_
      refine E.exit ?_
      refine X.seqX ?_
      refine X.seqX ?_
      have hx := ho50 _ (Option.some.inj hm).symm
      subst hx
      exact X.sub (K113 _ _ ⟨s52, m0, h1, h2, h3, h20, bx8, bx11, bx25, rfl, rfl⟩) (Sub.cons rfl (Sub.cons rfl (Sub.cons rfl Sub.nil)))

theorem bs28 : Bs Try.prog 28 3 1 [.int .i64 0] := Bs.mk' Try.underlying28 (by kernel_rfl) (by kernel_rfl) rfl
theorem el3 : El Try.prog 3 1 8 := El.mk' (z := .int .i64 0) (by kernel_rfl) (by kernel_rfl) (by kernel_rfl) rfl
theorem bs125 : Bs Try.prog 125 124 2 [.int .i64 0, .int .i64 0] := Bs.mk' Try.underlying125 (by kernel_rfl) (by kernel_rfl) rfl
theorem el124 : El Try.prog 124 2 16 := El.mk' (z := .agg #[.int .i64 0, .int .i64 0]) (by kernel_rfl) (by kernel_rfl) (by kernel_rfl) rfl
theorem fa124_0 : FA Try.prog 124 0 0 := FA.mk Try.underlying124 rfl rfl ⟨1, by decide, by kernel_rfl⟩
theorem fa124_1 : FA Try.prog 124 1 1 := FA.mk Try.underlying124 rfl rfl ⟨1, by decide, by kernel_rfl⟩
theorem fa80_0 : FA Try.prog 80 0 0 := FA.mk Try.underlying80 rfl rfl ⟨4, by decide, by kernel_rfl⟩
theorem nag4 : NAg Try.prog 4 := NAg.mk' Try.underlying4 rfl (by kernel_rfl)
theorem pl124 : Pl Try.prog 124 [(0, 1), (1, 1)] [.int .i64 0, .int .i64 0] := Pl.str Try.underlying124 (by kernel_rfl) (by kernel_rfl)
theorem sl125 : Sl Try.prog 125 124 2 := Sl.mk' Try.underlying125 (by kernel_rfl)
theorem sl86 : Sl Try.prog 86 4 1 := Sl.mk' Try.underlying86 (by kernel_rfl)
noncomputable def m_reach_graph_finish_l1 (p0 : (List Int × Int × List Int × (List (Int × Int × Int))) × List Int) (st92 : List Bool × (List (Int × Int)) × List Int) : Option ((List Bool × (List (Int × Int)) × List Int) ⊕ (List Int × List Bool)) :=
  if decide ((st92.2.1.length : Int) > 0) then
    (idx st92.2.1 (W ((st92.2.1.length : Int) - 1))).bind fun x99 =>
    (idx p0.2 (W (x99.1 + 1))).bind fun x113 =>
    if (x99.2 == x113) then
      (app st92.2.2 ([x99.1] : List Int)).bind fun x121 =>
      (slc st92.2.1 0 (W ((st92.2.1.length : Int) - 1))).bind fun x125 =>
      some (.inl (st92.1, x125, x121))
    else
      (idx p0.1.2.2.2 x99.2).bind fun x135 =>
      (upd st92.2.1 (W ((st92.2.1.length : Int) - 1)) (x99.1, W (x99.2 + 1))).bind fun x141 =>
      (idx st92.1 x135.2.2).bind fun x144 =>
      if (!x144) then
        (idx st92.1 x135.2.2).bind fun x146 =>
        (upd st92.1 x135.2.2 true).bind fun x148 =>
        (idx p0.2 x135.2.2).bind fun x151 =>
        (app x141 ([(x135.2.2, x151)] : List (Int × Int))).bind fun x156 =>
        some (.inl (x148, x156, st92.2.2))
      else
        some (.inl (st92.1, x141, st92.2.2))
  else
    some (.inr (st92.2.2, st92.1))
/-- What reach.graph).finish computes. -/
noncomputable def m_reach_graph_finish (p0 : (List Int × Int × List Int × (List (Int × Int × Int))) × List Int) (p1 : Int) (p2 : List Bool) (p3 : List Int) : Option (List Int × List Bool) :=
  (idx p0.2 p1).bind fun x11 =>
  (idx p2 p1).bind fun x16 =>
  (upd p2 p1 true).bind fun x18 =>
  (iter (m_reach_graph_finish_l1 p0) (x18, ([(p1, x11)] : List (Int × Int)), p3)).bind fun o92 =>
  some o92
set_option maxRecDepth 100000 in
set_option maxHeartbeats 8000000 in
theorem m_reach_graph_finish_c {s : Sig} {p0 : (List Int × Int × List Int × (List (Int × Int × Int))) × List Int} {p1 : Int} {p2 : List Bool} {p3 : List Int} {a1 : Option Addr} {c1 : Nat} {a2 : Option Addr} {c2 : Nat} {a3 : Option Addr} {c3 : Nat} {a4 : Option Addr} {c4 : Nat} {t2 : Nat} {a5 : Option Addr} {c5 : Nat} {t3 : Nat} {a6 : Option Addr} {c6 : Nat} {r : List Int × List Bool} (nt2_t3 : t2 ≠ t3) (nt3_t2 : t3 ≠ t2) (zt2 : 0 < t2) (zt3 : 0 < t3) (h1 : RdL (rK .i64) s a1 c1 p0.1.1) (h2 : RdL (rK .i64) s a2 c2 p0.1.2.2.1) (h3 : RdL (rP (rK .i64) (rP (rK .i64) (rK .i64))) s a3 c3 p0.1.2.2.2) (h4 : RdL (rK .i64) s a4 c4 p0.2) (h5 : RowT rB s t2 4 a5 c5 p2) (h6 : RowT (rK .i64) s t3 3 a6 c6 p3) (hm : m_reach_graph_finish p0 p1 p2 p3 = some r) :
    Calls Try.prog 72 #[.agg #[.slice a1 p0.1.1.length c1, .int .i64 p0.1.2.1, .slice a2 p0.1.2.2.1.length c2, .slice a3 p0.1.2.2.2.length c3, .slice a4 p0.2.length c4], .int .i64 p1, .slice a5 p2.length c5, .slice a6 p3.length c6] s.w (RetS (fun t => t = t2 ∨ t = t3) s fun v s' => ∃ (a7 : Option Addr) (c7 : Nat), v = .slice a7 r.1.length c7 ∧ RowT (rK .i64) s' t3 3 a7 c7 r.1 ∧ RowT rB s' t2 4 a5 c5 r.2) := by
  unfold m_reach_graph_finish at hm
  obtain ⟨N, hN, hNb, lt2, lt3, -⟩ := s.freshL [t2, t3]
  have m0 : Mv (Up N (fun t => t = t2 ∨ t = t3)) s s := Mv.refl _ _
  refine E.entry (vs := [.agg #[.slice a1 p0.1.1.length c1, .int .i64 p0.1.2.1, .slice a2 p0.1.2.2.1.length c2, .slice a3 p0.1.2.2.2.length c3, .slice a4 p0.2.length c4], .int .i64 p1, .slice a5 p2.length c5, .slice a6 p3.length c6]) (e := [(0, .agg #[.slice a1 p0.1.1.length c1, .int .i64 p0.1.2.1, .slice a2 p0.1.2.2.1.length c2, .slice a3 p0.1.2.2.2.length c3, .slice a4 p0.2.length c4]), (1, .int .i64 p1), (2, .slice a5 p2.length c5), (3, .slice a6 p3.length c6)]) Try.func72 rfl Try.ntmps72 rfl rfl ?_
  refine E.seq ?_
  refine E.reg ?_
  refine L.box (N + 0) Wt.no rfl rfl rfl ?_
  intro b8 s9 m10 bx8
  replace m0 := m0.trans m10.no
  replace h5 := h5.mv m10 no_No no_No
  replace h6 := h6.mv m10 no_No no_No
  replace h1 := h1.mono (m10.le no_No)
  replace h2 := h2.mono (m10.le no_No)
  replace h3 := h3.mono (m10.le no_No)
  replace h4 := h4.mono (m10.le no_No)
  refine L.as Wt.no rfl rfl ?_
  refine L.nil ?_
  refine X.seqN ?_
  refine E.seq ?_
  refine E.reg ?_
  refine L.mv Wt.no rfl rfl ?_
  refine L.fa fa80_1 Wt.no rfl rfl ?_
  refine L.ld (j := 4) bx8.mem nag28 Wt.no rfl rfl rfl rfl ?_
  refine L.mv Wt.no rfl rfl ?_
  obtain ⟨x11, ex11, hm⟩ := bindS hm
  refine L.ix (r := (rK .i64)) sl28 h4 Wt.no rfl rfl ex11 rfl ?_
  rintro b12 o12 cc12 me12 rd12
  obtain rfl := rd12
  refine L.ld (j := 0) me12 nag3 Wt.no rfl rfl rfl rfl ?_
  refine L.bu (cs := [.int .i64 p1, .int .i64 x11]) pl124 Wt.no rfl rfl rfl ?_
  refine L.bsE (k := 1) (cs := [.int .i64 p1, .int .i64 x11]) (N + 1) bs125 (Nat.le_of_ble_eq_true rfl) Wt.no rfl rfl rfl rfl ?_
  intro b13 s14 m15 bx13
  replace m0 := m0.trans m15.no
  replace h5 := h5.mv m15 no_No no_No
  replace h6 := h6.mv m15 no_No no_No
  replace bx8 := bx8.mv m15 no_No
  replace h1 := h1.mono (m15.le no_No)
  replace h2 := h2.mono (m15.le no_No)
  replace h3 := h3.mono (m15.le no_No)
  replace h4 := h4.mono (m15.le no_No)
  have h13 := Bx.row (r := (rP (rK .i64) (rK .i64))) (xs := ([(p1, x11)] : List (Int × Int))) bx13 ⟨[.int .i64 p1, .int .i64 x11], _, rfl, ⟨[.int .i64 p1], [.int .i64 x11], rfl, rfl, rfl⟩, rfl⟩ (Nat.le_of_ble_eq_true rfl)
  refine L.as Wt.no rfl rfl ?_
  refine L.nil ?_
  refine X.seqN ?_
  refine E.seq ?_
  refine E.reg ?_
  refine L.mv Wt.no rfl rfl ?_
  refine L.mv Wt.no rfl rfl ?_
  obtain ⟨x16, ex16, hm⟩ := bindS hm
  refine L.ir (r := rB) sl86 h5 Wt.no rfl rfl ex16 rfl ?_
  rintro b17 o17 cc17 me17 rd17 sp17
  obtain rfl := rd17
  obtain ⟨x18, ex18, hm⟩ := bindS hm
  have elx18 := upd_len ex18
  refine L.su (fo := 0) (c := [.bool true]) (z := true) h5 sp17 ex16 ex18 (tgpV zt2) nag4.sz Wt.no rfl rfl rfl rfl rfl rfl (fun c0 hc0 => by obtain rfl := hc0; exact rfl) ?_
  intro s19 m20 h5
  replace m0 := m0.trans (m20.one (.inr (.inl rfl)))
  replace h13 := h13.mv m20 (tgW lt2) (tgz zt2)
  replace h6 := h6.mv m20 nt3_t2 (tgz zt2)
  replace bx8 := bx8.mv m20 (tgW lt2)
  replace h1 := h1.mono (m20.le (tgz zt2))
  replace h2 := h2.mono (m20.le (tgz zt2))
  replace h3 := h3.mono (m20.le (tgz zt2))
  replace h4 := h4.mono (m20.le (tgz zt2))
  refine L.reval (d := 2) rfl elx18 ?_
  refine L.nil ?_
  refine X.seqN ?_
  refine E.seq ?_
  refine E.block ?_
  obtain ⟨o92, eo92, hm⟩ := bindS hm
  refine E.cut (x := .exit 0) (fun e w => ∃ (s97 : Sig) (a94 : Option Addr) (c94 : Nat), Mv (Up N (fun t => t = t2 ∨ t = t3)) s s97 ∧ RowT (rK .i64) s97 t3 3 a94 c94 o92.1 ∧ RowT rB s97 t2 4 a5 c5 o92.2 ∧ e = [(3, .slice a94 o92.1.length c94)] ∧ w = s97.w) ?_ ?_
  · rintro _ _ ⟨s97, a94, c94, m0, h94, h5, rfl, rfl⟩
    refine X.blkE ?_
    refine X.seqN ?_
    refine E.seq ?_
    refine E.reg ?_
    refine L.mv Wt.no rfl rfl ?_
    refine L.as Wt.no rfl rfl ?_
    refine L.nil ?_
    refine X.seqN ?_
    refine E.ret ?_
    obtain rfl := Option.some.inj hm
    exact X.rt (.inl rfl) Try.results72 (Rs.tmp rfl Rs.nil) rfl ⟨_, (s97).ren N (fun _ => 0), rfl, rfl, m0.ren hNb, ⟨a94, c94, rfl, (h94.renV hN lt3), (h5.renV hN lt2)⟩⟩
  intro K98
  refine E.iter (fun (st92 : List Bool × (List (Int × Int)) × List Int) (e : List (Nat × Value)) (w : World) => ∃ (s96 : Sig) (a23 : Option Addr) (c23 : Nat) (a25 : Option Addr) (c25 : Nat), Mv (Up N (fun t => t = t2 ∨ t = t3)) s s96 ∧ RowT rB s96 t2 4 a5 c5 st92.1 ∧ RowT (rP (rK .i64) (rK .i64)) s96 (N + 1) 124 a23 c23 st92.2.1 ∧ RowT (rK .i64) s96 t3 3 a25 c25 st92.2.2 ∧ RdL (rK .i64) s96 a1 c1 p0.1.1 ∧ RdL (rK .i64) s96 a2 c2 p0.1.2.2.1 ∧ RdL (rP (rK .i64) (rP (rK .i64) (rK .i64))) s96 a3 c3 p0.1.2.2.2 ∧ RdL (rK .i64) s96 a4 c4 p0.2 ∧ Bx s96 (N + 0) b8 #[.slice a1 p0.1.1.length c1, .int .i64 p0.1.2.1, .slice a2 p0.1.2.2.1.length c2, .slice a3 p0.1.2.2.2.length c3, .slice a4 p0.2.length c4] 80 ∧ e = [(2, .slice a5 st92.1.length c5), (9, .slice a23 st92.2.1.length c23), (4, .pointer (some ⟨b8, 0, none⟩)), (3, .slice a25 st92.2.2.length c25)] ∧ w = s96.w) eo92 ⟨s19, (some ⟨b13, 0, none⟩), ([(p1, x11)] : List (Int × Int)).length, a6, c6, m0, h5, h13, h6, h1, h2, h3, h4, bx8, rfl, rfl⟩ (Sub.cons rfl (Sub.cons rfl (Sub.cons rfl (Sub.cons rfl Sub.nil)))) ?_
  rintro st92 res92 hm ih92 ho92 _ _ ⟨s96, a23, c23, a25, c25, m0, h5, h23, h25, h1, h2, h3, h4, bx8, rfl, rfl⟩
  unfold m_reach_graph_finish_l1 at hm
  refine E.seq ?_
  refine E.seq ?_
  refine E.reg ?_
  refine L.mv Wt.no rfl rfl ?_
  refine L.len sl125 Wt.no rfl rfl ?_
  refine L.bi Wt.no rfl rfl rfl rfl ?_
  refine L.nil ?_
  refine X.seqN ?_
  rcases ifS hm with ⟨hc, hm⟩ | ⟨hc, hm⟩
  · refine E.cT rfl hc ?_
    refine E.skip ?_
    refine X.seqN ?_
    refine E.block ?_
    refine E.seq ?_
    refine E.reg ?_
    refine L.mv Wt.no rfl rfl ?_
    refine L.mv Wt.no rfl rfl ?_
    refine L.len sl125 Wt.no rfl rfl ?_
    refine L.bi Wt.no rfl rfl rfl rfl ?_
    obtain ⟨x99, ex99, hm⟩ := bindS hm
    refine L.ir (r := (rP (rK .i64) (rK .i64))) sl125 h23 Wt.no rfl rfl ex99 rfl ?_
    rintro b100 o100 cc100 me100 rd100 sp100
    obtain ⟨_, _, rfl, rfl, rfl⟩ := rd100
    refine L.as Wt.no rfl rfl ?_
    refine L.nil ?_
    refine X.seqN ?_
    refine E.seq ?_
    refine E.seq ?_
    obtain ⟨x113, ex113, hm⟩ := bindS hm
    refine E.draw [[], [0], [0, 1], [0, 1, 2], [], [4], [], [6], [6, 7], [6, 7, 8], [6, 7, 8, 9], [4, 5, 6, 7, 8, 9, 10], [4, 5, 6, 7, 8, 9, 10, 11], [0, 1, 2, 3, 4, 5, 6, 7, 8, 9, 10, 11, 12]] (fun D e sx => Mv No s96 sx ∧ Sub [(10, .pointer (some ⟨b100, o100, none⟩)), (2, .slice a5 st92.1.length c5), (9, .slice a23 st92.2.1.length c23), (4, .pointer (some ⟨b8, 0, none⟩)), (3, .slice a25 st92.2.2.length c25)] e ∧ AllP [D 0 = true → (Env.get e 31 = some (.pointer (some ⟨b100, o100, none⟩))), D 1 = true → (Env.get e 32 = some (.pointer (some ⟨b100, o100, none⟩))), D 2 = true → (Env.get e 33 = some (.pointer (some ⟨b100, o100 + 1, none⟩))), D 3 = true → (Env.get e 34 = some (.int .i64 x99.2)), D 4 = true → (Env.get e 35 = some (.pointer (some ⟨b8, 4, none⟩))), D 5 = true → (Env.get e 36 = some (.slice a4 p0.2.length c4)), D 6 = true → (Env.get e 37 = some (.pointer (some ⟨b100, o100, none⟩))), D 7 = true → (Env.get e 38 = some (.pointer (some ⟨b100, o100, none⟩))), D 8 = true → (Env.get e 39 = some (.pointer (some ⟨b100, o100 + 0, none⟩))), D 9 = true → (Env.get e 40 = some (.int .i64 x99.1)), D 10 = true → (Env.get e 41 = some (.int .i64 (W (x99.1 + 1)))), D 11 = true → (∃ (b114 : Nat) (o114 : Nat), Env.get e 42 = some (.pointer (some ⟨b114, o114, none⟩)) ∧ Mem sx 0 b114 o114 [.int .i64 x113]), D 12 = true → (Env.get e 43 = some (.int .i64 x113)), D 13 = true → (Env.get e 44 = some (.bool (x99.2 == x113)))]) (by kernel_rfl) (by kernel_rfl) (by kernel_rfl) ?_ ?_ ?_
    · intro sz mz
      exact ⟨mz, (Sub.cons rfl (Sub.cons rfl (Sub.cons rfl (Sub.cons rfl (Sub.cons rfl Sub.nil))))), nofun, nofun, nofun, nofun, nofun, nofun, nofun, nofun, nofun, nofun, nofun, nofun, nofun, nofun, trivial⟩
    · refine ⟨?_, ?_, ?_, ?_, ?_, ?_, ?_, ?_, ?_, ?_, ?_, ?_, ?_, ?_, trivial⟩
      · rintro D e s101 ⟨im, ib, i⟩ hk hf ha
        have kn : Kn e [(10, .pointer (some ⟨b100, o100, none⟩))] := ⟨(ib 10 _ rfl), trivial⟩
        refine L.kns _ kn ?_
        refine L.mv Wt.no rfl rfl ?_
        refine L.nil ?_
        exact X.dk kn ⟨im, Sub.fresh ib rfl, i.u 0 (fun _ => rfl)⟩
      · rintro D e s102 ⟨im, ib, i⟩ hk hf ha
        have g0_ := (i.p 0) (ha.at 0 rfl)
        have kn : Kn e [(31, .pointer (some ⟨b100, o100, none⟩))] := ⟨g0_, trivial⟩
        refine L.kns _ kn ?_
        refine L.nc Wt.no rfl rfl ?_
        refine L.nil ?_
        exact X.dk kn ⟨im, Sub.fresh ib rfl, i.u 1 (fun _ => rfl)⟩
      · rintro D e s103 ⟨im, ib, i⟩ hk hf ha
        have g1_ := (i.p 1) (ha.at 1 rfl)
        have kn : Kn e [(32, .pointer (some ⟨b100, o100, none⟩))] := ⟨g1_, trivial⟩
        refine L.kns _ kn ?_
        refine L.fa fa124_1 Wt.no rfl rfl ?_
        refine L.nil ?_
        exact X.dk kn ⟨im, Sub.fresh ib rfl, i.u 2 (fun _ => rfl)⟩
      · rintro D e s104 ⟨im, ib, i⟩ hk hf ha
        have g2_ := (i.p 2) (ha.at 2 rfl)
        have me100 := me100.mv im no_No
        have kn : Kn e [(33, .pointer (some ⟨b100, o100 + 1, none⟩))] := ⟨g2_, trivial⟩
        refine L.kns _ kn ?_
        refine L.ld (j := 1) me100 nag3 Wt.no rfl rfl rfl rfl ?_
        refine L.nil ?_
        exact X.dk kn ⟨im, Sub.fresh ib rfl, i.u 3 (fun _ => rfl)⟩
      · rintro D e s105 ⟨im, ib, i⟩ hk hf ha
        have kn : Kn e [(4, .pointer (some ⟨b8, 0, none⟩))] := ⟨(ib 4 _ rfl), trivial⟩
        refine L.kns _ kn ?_
        refine L.fa fa80_1 Wt.no rfl rfl ?_
        refine L.nil ?_
        exact X.dk kn ⟨im, Sub.fresh ib rfl, i.u 4 (fun _ => rfl)⟩
      · rintro D e s106 ⟨im, ib, i⟩ hk hf ha
        have g4_ := (i.p 4) (ha.at 4 rfl)
        have bx8 := bx8.mv im no_No
        have kn : Kn e [(35, .pointer (some ⟨b8, 4, none⟩))] := ⟨g4_, trivial⟩
        refine L.kns _ kn ?_
        refine L.ld (j := 4) bx8.mem nag28 Wt.no rfl rfl rfl rfl ?_
        refine L.nil ?_
        exact X.dk kn ⟨im, Sub.fresh ib rfl, i.u 5 (fun _ => rfl)⟩
      · rintro D e s107 ⟨im, ib, i⟩ hk hf ha
        have kn : Kn e [(10, .pointer (some ⟨b100, o100, none⟩))] := ⟨(ib 10 _ rfl), trivial⟩
        refine L.kns _ kn ?_
        refine L.mv Wt.no rfl rfl ?_
        refine L.nil ?_
        exact X.dk kn ⟨im, Sub.fresh ib rfl, i.u 6 (fun _ => rfl)⟩
      · rintro D e s108 ⟨im, ib, i⟩ hk hf ha
        have g6_ := (i.p 6) (ha.at 6 rfl)
        have kn : Kn e [(37, .pointer (some ⟨b100, o100, none⟩))] := ⟨g6_, trivial⟩
        refine L.kns _ kn ?_
        refine L.nc Wt.no rfl rfl ?_
        refine L.nil ?_
        exact X.dk kn ⟨im, Sub.fresh ib rfl, i.u 7 (fun _ => rfl)⟩
      · rintro D e s109 ⟨im, ib, i⟩ hk hf ha
        have g7_ := (i.p 7) (ha.at 7 rfl)
        have kn : Kn e [(38, .pointer (some ⟨b100, o100, none⟩))] := ⟨g7_, trivial⟩
        refine L.kns _ kn ?_
        refine L.fa fa124_0 Wt.no rfl rfl ?_
        refine L.nil ?_
        exact X.dk kn ⟨im, Sub.fresh ib rfl, i.u 8 (fun _ => rfl)⟩
      · rintro D e s110 ⟨im, ib, i⟩ hk hf ha
        have g8_ := (i.p 8) (ha.at 8 rfl)
        have me100 := me100.mv im no_No
        have kn : Kn e [(39, .pointer (some ⟨b100, o100 + 0, none⟩))] := ⟨g8_, trivial⟩
        refine L.kns _ kn ?_
        refine L.ld (j := 0) me100 nag3 Wt.no rfl rfl rfl rfl ?_
        refine L.nil ?_
        exact X.dk kn ⟨im, Sub.fresh ib rfl, i.u 9 (fun _ => rfl)⟩
      · rintro D e s111 ⟨im, ib, i⟩ hk hf ha
        have g9_ := (i.p 9) (ha.at 9 rfl)
        have kn : Kn e [(40, .int .i64 x99.1)] := ⟨g9_, trivial⟩
        refine L.kns _ kn ?_
        refine L.bi Wt.no rfl rfl rfl rfl ?_
        refine L.nil ?_
        exact X.dk kn ⟨im, Sub.fresh ib rfl, i.u 10 (fun _ => rfl)⟩
      · rintro D e s112 ⟨im, ib, i⟩ hk hf ha
        have g5_ := (i.p 5) (ha.at 5 rfl)
        have g10_ := (i.p 10) (ha.at 10 rfl)
        have h4 := h4.mono (im.le no_No)
        have kn : Kn e [(36, .slice a4 p0.2.length c4), (41, .int .i64 (W (x99.1 + 1)))] := ⟨g5_, g10_, trivial⟩
        refine L.kns _ kn ?_
        refine L.ix (r := (rK .i64)) sl28 h4 Wt.no rfl rfl ex113 rfl ?_
        rintro b114 o114 cc114 me114 rd114
        obtain rfl := rd114
        refine L.nil ?_
        exact X.dk kn ⟨im, Sub.fresh ib rfl, i.u 11 (fun _ => ⟨b114, o114, rfl, me114⟩)⟩
      · rintro D e s115 ⟨im, ib, i⟩ hk hf ha
        obtain ⟨b114, o114, g11_, me114⟩ := (i.p 11) (ha.at 11 rfl)
        have kn : Kn e [(42, .pointer (some ⟨b114, o114, none⟩))] := ⟨g11_, trivial⟩
        refine L.kns _ kn ?_
        refine L.ld (j := 0) me114 nag3 Wt.no rfl rfl rfl rfl ?_
        refine L.nil ?_
        exact X.dk kn ⟨im, Sub.fresh ib rfl, i.u 12 (fun _ => rfl)⟩
      · rintro D e s116 ⟨im, ib, i⟩ hk hf ha
        have g3_ := (i.p 3) (ha.at 3 rfl)
        have g12_ := (i.p 12) (ha.at 12 rfl)
        have kn : Kn e [(34, .int .i64 x99.2), (43, .int .i64 x113)] := ⟨g3_, g12_, trivial⟩
        refine L.kns _ kn ?_
        refine L.bi Wt.no rfl rfl rfl rfl ?_
        refine L.nil ?_
        exact X.dk kn ⟨im, Sub.fresh ib rfl, i.u 13 (fun _ => rfl)⟩
    · rintro D e s117 hD ⟨im, ib, i⟩
      have g13_ := (i.p 13) (hD 13 rfl)
      have me100 := me100.mv im no_No
      have h5 := h5.mv im no_No no_No
      have h23 := h23.mv im no_No no_No
      have bx8 := bx8.mv im no_No
      have h1 := h1.mono (im.le no_No)
      have h2 := h2.mono (im.le no_No)
      have h3 := h3.mono (im.le no_No)
      have h4 := h4.mono (im.le no_No)
      have h25 := h25.mv im no_No no_No
      have m0 := m0.trans im.no
      refine X.sub (e' := [(44, .bool (x99.2 == x113)), (10, .pointer (some ⟨b100, o100, none⟩)), (2, .slice a5 st92.1.length c5), (9, .slice a23 st92.2.1.length c23), (4, .pointer (some ⟨b8, 0, none⟩)), (3, .slice a25 st92.2.2.length c25)]) ?_ (Sub.cons g13_ (Sub.cons (ib 10 _ rfl) (Sub.cons (ib 2 _ rfl) (Sub.cons (ib 9 _ rfl) (Sub.cons (ib 4 _ rfl) (Sub.cons (ib 3 _ rfl) Sub.nil))))))
      refine X.seqN ?_
      rcases ifS hm with ⟨hc, hm⟩ | ⟨hc, hm⟩
      · refine E.cT rfl hc ?_
        refine E.seq ?_
        refine E.reg ?_
        refine L.mv Wt.no rfl rfl ?_
        refine L.mv Wt.no rfl rfl ?_
        refine L.nc Wt.no rfl rfl ?_
        refine L.fa fa124_0 Wt.no rfl rfl ?_
        refine L.ld (j := 0) me100 nag3 Wt.no rfl rfl rfl rfl ?_
        refine L.bsE (k := 1) (cs := [.int .i64 x99.1]) 0 bs28 (Nat.le_of_ble_eq_true rfl) Wt.no rfl rfl rfl rfl ?_
        intro b118 s119 m120 bx118
        replace m0 := m0.trans m120.no
        replace h5 := h5.mv m120 no_No no_No
        replace h23 := h23.mv m120 no_No no_No
        replace h25 := h25.mv m120 no_No no_No
        replace bx8 := bx8.mv m120 no_No
        replace h1 := h1.mono (m120.le no_No)
        replace h2 := h2.mono (m120.le no_No)
        replace h3 := h3.mono (m120.le no_No)
        replace h4 := h4.mono (m120.le no_No)
        have h118 := Bx.rdL (r := (rK .i64)) (xs := ([x99.1] : List Int)) bx118 ⟨[.int .i64 x99.1], _, rfl, rfl, rfl⟩ (Nat.le_of_ble_eq_true rfl)
        obtain ⟨x121, ex121, hm⟩ := bindS hm
        refine L.ap (r := (rK .i64)) Try.underlying28 el3 rfl (tgpV zt3) h25 h118.wk Wt.no rfl rfl ex121 rfl ?_
        intro a122 c122 s123 m124 h122
        replace m0 := m0.trans (m124.one (.inr (.inr rfl)))
        replace h23 := h23.mv m124 (tgW lt3) (tgz zt3)
        replace h5 := h5.mv m124 nt2_t3 (tgz zt3)
        replace bx8 := bx8.mv m124 (tgW lt3)
        replace h1 := h1.mono (m124.le (tgz zt3))
        replace h2 := h2.mono (m124.le (tgz zt3))
        replace h3 := h3.mono (m124.le (tgz zt3))
        replace h4 := h4.mono (m124.le (tgz zt3))
        refine L.as Wt.no rfl rfl ?_
        refine L.nil ?_
        refine X.seqN ?_
        refine E.seq ?_
        refine E.reg ?_
        refine L.mv Wt.no rfl rfl ?_
        refine L.mv Wt.no rfl rfl ?_
        refine L.len sl125 Wt.no rfl rfl ?_
        refine L.bi Wt.no rfl rfl rfl rfl ?_
        obtain ⟨x125, ex125, hm⟩ := bindS hm
        refine L.sho (r := (rP (rK .i64) (rK .i64))) sl125 h23 Wt.no rfl rfl ex125 rfl ?_
        intro a126 c126 h126
        refine L.as Wt.no rfl rfl ?_
        refine L.nil ?_
        refine X.seqN ?_
        refine E.exit ?_
        refine X.seqX ?_
        refine X.blkE ?_
        exact X.sub (ih92 _ (Option.some.inj hm).symm _ _ ⟨s123, a126, c126, a122, c122, m0, h5, h126, h122, h1, h2, h3, h4, bx8, rfl, rfl⟩) (Sub.cons rfl (Sub.cons rfl (Sub.cons rfl (Sub.cons rfl Sub.nil))))
      · refine E.cF rfl hc ?_
        refine E.skip ?_
        refine X.seqN ?_
        refine E.seq ?_
        obtain ⟨x135, ex135, hm⟩ := bindS hm
        refine E.draw [[], [0], [0, 1], [], [3], [3, 4], [3, 4, 5], [0, 1, 2, 3, 4, 5, 6], [0, 1, 2, 3, 4, 5, 6, 7], [0, 1, 2, 3, 4, 5, 6, 7, 8], [0, 1, 2, 3, 4, 5, 6, 7, 8, 9]] (fun D e sx => Mv No s117 sx ∧ Sub [(10, .pointer (some ⟨b100, o100, none⟩)), (2, .slice a5 st92.1.length c5), (9, .slice a23 st92.2.1.length c23), (4, .pointer (some ⟨b8, 0, none⟩)), (3, .slice a25 st92.2.2.length c25)] e ∧ AllP [D 0 = true → (Env.get e 57 = some (.pointer (some ⟨b8, 0, none⟩))), D 1 = true → (Env.get e 58 = some (.pointer (some ⟨b8, 3, none⟩))), D 2 = true → (Env.get e 59 = some (.slice a3 p0.1.2.2.2.length c3)), D 3 = true → (Env.get e 60 = some (.pointer (some ⟨b100, o100, none⟩))), D 4 = true → (Env.get e 61 = some (.pointer (some ⟨b100, o100, none⟩))), D 5 = true → (Env.get e 62 = some (.pointer (some ⟨b100, o100 + 1, none⟩))), D 6 = true → (Env.get e 63 = some (.int .i64 x99.2)), D 7 = true → (∃ (b136 : Nat) (o136 : Nat), Env.get e 64 = some (.pointer (some ⟨b136, o136, none⟩)) ∧ Mem sx 0 b136 o136 [.int .i64 x135.1, .int .i64 x135.2.1, .int .i64 x135.2.2]), D 8 = true → ∀ (b136 : Nat) (o136 : Nat), Env.get e 64 = some (.pointer (some ⟨b136, o136, none⟩)) → (Env.get e 65 = some (.pointer (some ⟨b136, o136 + 2, none⟩))), D 9 = true → (Env.get e 66 = some (.int .i64 x135.2.2)), D 10 = true → (Env.get e 11 = some (.int .i64 x135.2.2))]) (by kernel_rfl) (by kernel_rfl) (by kernel_rfl) ?_ ?_ ?_
        · intro sz mz
          exact ⟨mz, (Sub.cons rfl (Sub.cons rfl (Sub.cons rfl (Sub.cons rfl (Sub.cons rfl Sub.nil))))), nofun, nofun, nofun, nofun, nofun, nofun, nofun, nofun, nofun, nofun, nofun, trivial⟩
        · refine ⟨?_, ?_, ?_, ?_, ?_, ?_, ?_, ?_, ?_, ?_, ?_, trivial⟩
          · rintro D e s127 ⟨im, ib, i⟩ hk hf ha
            have kn : Kn e [(4, .pointer (some ⟨b8, 0, none⟩))] := ⟨(ib 4 _ rfl), trivial⟩
            refine L.kns _ kn ?_
            refine L.fa fa80_0 Wt.no rfl rfl ?_
            refine L.nil ?_
            exact X.dk kn ⟨im, Sub.fresh ib rfl, i.u 0 (fun _ => rfl)⟩
          · rintro D e s128 ⟨im, ib, i⟩ hk hf ha
            have g0_ := (i.p 0) (ha.at 0 rfl)
            have kn : Kn e [(57, .pointer (some ⟨b8, 0, none⟩))] := ⟨g0_, trivial⟩
            refine L.kns _ kn ?_
            refine L.fa fa31_3 Wt.no rfl rfl ?_
            refine L.nil ?_
            exact X.dk kn ⟨im, Sub.fresh ib rfl, i.u 1 (fun _ => rfl)⟩
          · rintro D e s129 ⟨im, ib, i⟩ hk hf ha
            have g1_ := (i.p 1) (ha.at 1 rfl)
            have bx8 := bx8.mv im no_No
            have kn : Kn e [(58, .pointer (some ⟨b8, 3, none⟩))] := ⟨g1_, trivial⟩
            refine L.kns _ kn ?_
            refine L.ld (j := 3) bx8.mem nag29 Wt.no rfl rfl rfl rfl ?_
            refine L.nil ?_
            exact X.dk kn ⟨im, Sub.fresh ib rfl, i.u 2 (fun _ => rfl)⟩
          · rintro D e s130 ⟨im, ib, i⟩ hk hf ha
            have kn : Kn e [(10, .pointer (some ⟨b100, o100, none⟩))] := ⟨(ib 10 _ rfl), trivial⟩
            refine L.kns _ kn ?_
            refine L.mv Wt.no rfl rfl ?_
            refine L.nil ?_
            exact X.dk kn ⟨im, Sub.fresh ib rfl, i.u 3 (fun _ => rfl)⟩
          · rintro D e s131 ⟨im, ib, i⟩ hk hf ha
            have g3_ := (i.p 3) (ha.at 3 rfl)
            have kn : Kn e [(60, .pointer (some ⟨b100, o100, none⟩))] := ⟨g3_, trivial⟩
            refine L.kns _ kn ?_
            refine L.nc Wt.no rfl rfl ?_
            refine L.nil ?_
            exact X.dk kn ⟨im, Sub.fresh ib rfl, i.u 4 (fun _ => rfl)⟩
          · rintro D e s132 ⟨im, ib, i⟩ hk hf ha
            have g4_ := (i.p 4) (ha.at 4 rfl)
            have kn : Kn e [(61, .pointer (some ⟨b100, o100, none⟩))] := ⟨g4_, trivial⟩
            refine L.kns _ kn ?_
            refine L.fa fa124_1 Wt.no rfl rfl ?_
            refine L.nil ?_
            exact X.dk kn ⟨im, Sub.fresh ib rfl, i.u 5 (fun _ => rfl)⟩
          · rintro D e s133 ⟨im, ib, i⟩ hk hf ha
            have g5_ := (i.p 5) (ha.at 5 rfl)
            have me100 := me100.mv im no_No
            have kn : Kn e [(62, .pointer (some ⟨b100, o100 + 1, none⟩))] := ⟨g5_, trivial⟩
            refine L.kns _ kn ?_
            refine L.ld (j := 1) me100 nag3 Wt.no rfl rfl rfl rfl ?_
            refine L.nil ?_
            exact X.dk kn ⟨im, Sub.fresh ib rfl, i.u 6 (fun _ => rfl)⟩
          · rintro D e s134 ⟨im, ib, i⟩ hk hf ha
            have g2_ := (i.p 2) (ha.at 2 rfl)
            have g6_ := (i.p 6) (ha.at 6 rfl)
            have h3 := h3.mono (im.le no_No)
            have kn : Kn e [(59, .slice a3 p0.1.2.2.2.length c3), (63, .int .i64 x99.2)] := ⟨g2_, g6_, trivial⟩
            refine L.kns _ kn ?_
            refine L.ix (r := (rP (rK .i64) (rP (rK .i64) (rK .i64)))) sl29 h3 Wt.no rfl rfl ex135 rfl ?_
            rintro b136 o136 cc136 me136 rd136
            obtain ⟨_, _, rfl, rfl, ⟨_, _, rfl, rfl, rfl⟩⟩ := rd136
            refine L.nil ?_
            exact X.dk kn ⟨im, Sub.fresh ib rfl, (i.u 7 (fun _ => ⟨b136, o136, rfl, me136⟩)).u 8 (fun z => Bool.noConfusion ((hf 8 (Nat.le_of_ble_eq_true rfl) rfl).symm.trans z))⟩
          · rintro D e s137 ⟨im, ib, i⟩ hk hf ha
            obtain ⟨b136, o136, g7_, me136⟩ := (i.p 7) (ha.at 7 rfl)
            have kn : Kn e [(64, .pointer (some ⟨b136, o136, none⟩))] := ⟨g7_, trivial⟩
            refine L.kns _ kn ?_
            refine L.fa fa45_2 Wt.no rfl rfl ?_
            refine L.nil ?_
            exact X.dk kn ⟨im, Sub.fresh ib rfl, i.u 8 (fun _ _ _ q7 => by cases g7_.symm.trans q7; exact rfl)⟩
          · rintro D e s138 ⟨im, ib, i⟩ hk hf ha
            obtain ⟨b136, o136, g7_, me136⟩ := (i.p 7) (ha.at 7 rfl)
            have g8_ := (i.p 8) (ha.at 8 rfl) b136 o136 g7_
            have kn : Kn e [(65, .pointer (some ⟨b136, o136 + 2, none⟩))] := ⟨g8_, trivial⟩
            refine L.kns _ kn ?_
            refine L.ld (j := 2) me136 nag3 Wt.no rfl rfl rfl rfl ?_
            refine L.nil ?_
            exact X.dk kn ⟨im, Sub.fresh ib rfl, i.u 9 (fun _ => rfl)⟩
          · rintro D e s139 ⟨im, ib, i⟩ hk hf ha
            have g9_ := (i.p 9) (ha.at 9 rfl)
            have kn : Kn e [(66, .int .i64 x135.2.2)] := ⟨g9_, trivial⟩
            refine L.kns _ kn ?_
            refine L.as Wt.no rfl rfl ?_
            refine L.nil ?_
            exact X.dk kn ⟨im, Sub.fresh ib rfl, i.u 10 (fun _ => rfl)⟩
        · rintro D e s140 hD ⟨im, ib, i⟩
          have g10_ := (i.p 10) (hD 10 rfl)
          have me100 := me100.mv im no_No
          have h5 := h5.mv im no_No no_No
          have h23 := h23.mv im no_No no_No
          have bx8 := bx8.mv im no_No
          have h1 := h1.mono (im.le no_No)
          have h2 := h2.mono (im.le no_No)
          have h3 := h3.mono (im.le no_No)
          have h4 := h4.mono (im.le no_No)
          have h25 := h25.mv im no_No no_No
          have m0 := m0.trans im.no
          refine X.sub (e' := [(11, .int .i64 x135.2.2), (10, .pointer (some ⟨b100, o100, none⟩)), (2, .slice a5 st92.1.length c5), (9, .slice a23 st92.2.1.length c23), (4, .pointer (some ⟨b8, 0, none⟩)), (3, .slice a25 st92.2.2.length c25)]) ?_ (Sub.cons g10_ (Sub.cons (ib 10 _ rfl) (Sub.cons (ib 2 _ rfl) (Sub.cons (ib 9 _ rfl) (Sub.cons (ib 4 _ rfl) (Sub.cons (ib 3 _ rfl) Sub.nil))))))
          refine X.seqN ?_
          refine E.seq ?_
          refine E.reg ?_
          refine L.mv Wt.no rfl rfl ?_
          refine L.nc Wt.no rfl rfl ?_
          refine L.fa fa124_1 Wt.no rfl rfl ?_
          refine L.ld (j := 1) me100 nag3 Wt.no rfl rfl rfl rfl ?_
          refine L.bi Wt.no rfl rfl rfl rfl ?_
          refine L.nc Wt.no rfl rfl ?_
          refine L.fa fa124_1 Wt.no rfl rfl ?_
          obtain ⟨x141, ex141, hm⟩ := bindS hm
          have elx141 := upd_len ex141
          refine L.su (fo := 1) (c := [.int .i64 (W (x99.2 + 1))]) (z := (x99.1, W (x99.2 + 1))) h23 sp100 ex99 ex141 (tgp hN) nag3.sz Wt.no rfl rfl rfl rfl rfl rfl (fun c0 hc0 => by obtain ⟨_, _, rfl, rfl, rfl⟩ := hc0; exact ⟨[.int .i64 x99.1], [.int .i64 (W (x99.2 + 1))], rfl, rfl, rfl⟩) ?_
          intro s142 m143 h23
          replace m0 := m0.trans (m143.one up)
          replace h5 := h5.mv m143 (tgV lt2) (tg0 hN)
          replace h25 := h25.mv m143 (tgV lt3) (tg0 hN)
          replace bx8 := bx8.mv m143 (tgN (by decide))
          replace h1 := h1.mono (m143.le (tg0 hN))
          replace h2 := h2.mono (m143.le (tg0 hN))
          replace h3 := h3.mono (m143.le (tg0 hN))
          replace h4 := h4.mono (m143.le (tg0 hN))
          refine L.reval (d := 9) rfl elx141 ?_
          refine L.nil ?_
          refine X.seqN ?_
          refine E.seq ?_
          refine E.reg ?_
          refine L.mv Wt.no rfl rfl ?_
          refine L.mv Wt.no rfl rfl ?_
          obtain ⟨x144, ex144, hm⟩ := bindS hm
          refine L.ir (r := rB) sl86 h5 Wt.no rfl rfl ex144 rfl ?_
          rintro b145 o145 cc145 me145 rd145 sp145
          obtain rfl := rd145
          refine L.ld (j := 0) me145 nag4 Wt.no rfl rfl rfl rfl ?_
          refine L.not Wt.no rfl rfl ?_
          refine L.nil ?_
          refine X.seqN ?_
          rcases ifS hm with ⟨hc, hm⟩ | ⟨hc, hm⟩
          · refine E.cT rfl hc ?_
            refine E.seq ?_
            refine E.reg ?_
            refine L.mv Wt.no rfl rfl ?_
            refine L.mv Wt.no rfl rfl ?_
            obtain ⟨x146, ex146, hm⟩ := bindS hm
            refine L.ir (r := rB) sl86 h5 Wt.no rfl rfl ex146 rfl ?_
            rintro b147 o147 cc147 me147 rd147 sp147
            obtain rfl := rd147
            obtain ⟨x148, ex148, hm⟩ := bindS hm
            have elx148 := upd_len ex148
            refine L.su (fo := 0) (c := [.bool true]) (z := true) h5 sp147 ex146 ex148 (tgpV zt2) nag4.sz Wt.no rfl rfl rfl rfl rfl rfl (fun c0 hc0 => by obtain rfl := hc0; exact rfl) ?_
            intro s149 m150 h5
            replace m0 := m0.trans (m150.one (.inr (.inl rfl)))
            replace h25 := h25.mv m150 nt3_t2 (tgz zt2)
            replace h23 := h23.mv m150 (tgW lt2) (tgz zt2)
            replace bx8 := bx8.mv m150 (tgW lt2)
            replace h1 := h1.mono (m150.le (tgz zt2))
            replace h2 := h2.mono (m150.le (tgz zt2))
            replace h3 := h3.mono (m150.le (tgz zt2))
            replace h4 := h4.mono (m150.le (tgz zt2))
            refine L.reval (d := 2) rfl elx148 ?_
            refine L.nil ?_
            refine X.seqN ?_
            refine E.reg ?_
            refine L.mv Wt.no rfl rfl ?_
            refine L.mv Wt.no rfl rfl ?_
            refine L.fa fa80_1 Wt.no rfl rfl ?_
            refine L.ld (j := 4) bx8.mem nag28 Wt.no rfl rfl rfl rfl ?_
            refine L.mv Wt.no rfl rfl ?_
            obtain ⟨x151, ex151, hm⟩ := bindS hm
            refine L.ix (r := (rK .i64)) sl28 h4 Wt.no rfl rfl ex151 rfl ?_
            rintro b152 o152 cc152 me152 rd152
            obtain rfl := rd152
            refine L.ld (j := 0) me152 nag3 Wt.no rfl rfl rfl rfl ?_
            refine L.bu (cs := [.int .i64 x135.2.2, .int .i64 x151]) pl124 Wt.no rfl rfl rfl ?_
            refine L.bsE (k := 1) (cs := [.int .i64 x135.2.2, .int .i64 x151]) 0 bs125 (Nat.le_of_ble_eq_true rfl) Wt.no rfl rfl rfl rfl ?_
            intro b153 s154 m155 bx153
            replace m0 := m0.trans m155.no
            replace h5 := h5.mv m155 no_No no_No
            replace h25 := h25.mv m155 no_No no_No
            replace h23 := h23.mv m155 no_No no_No
            replace bx8 := bx8.mv m155 no_No
            replace h1 := h1.mono (m155.le no_No)
            replace h2 := h2.mono (m155.le no_No)
            replace h3 := h3.mono (m155.le no_No)
            replace h4 := h4.mono (m155.le no_No)
            have h153 := Bx.rdL (r := (rP (rK .i64) (rK .i64))) (xs := ([(x135.2.2, x151)] : List (Int × Int))) bx153 ⟨[.int .i64 x135.2.2, .int .i64 x151], _, rfl, ⟨[.int .i64 x135.2.2], [.int .i64 x151], rfl, rfl, rfl⟩, rfl⟩ (Nat.le_of_ble_eq_true rfl)
            obtain ⟨x156, ex156, hm⟩ := bindS hm
            refine L.ap (r := (rP (rK .i64) (rK .i64))) Try.underlying125 el124 rfl (tgp hN) h23 h153.wk Wt.no rfl rfl ex156 rfl ?_
            intro a157 c157 s158 m159 h157
            replace m0 := m0.trans (m159.one up)
            replace h5 := h5.mv m159 (tgV lt2) (tg0 hN)
            replace h25 := h25.mv m159 (tgV lt3) (tg0 hN)
            replace bx8 := bx8.mv m159 (tgN (by decide))
            replace h1 := h1.mono (m159.le (tg0 hN))
            replace h2 := h2.mono (m159.le (tg0 hN))
            replace h3 := h3.mono (m159.le (tg0 hN))
            replace h4 := h4.mono (m159.le (tg0 hN))
            refine L.as Wt.no rfl rfl ?_
            refine L.nil ?_
            refine X.blkN ?_
            exact X.sub (ih92 _ (Option.some.inj hm).symm _ _ ⟨s158, a157, c157, a25, c25, m0, h5, h157, h25, h1, h2, h3, h4, bx8, rfl, rfl⟩) (Sub.cons rfl (Sub.cons rfl (Sub.cons rfl (Sub.cons rfl Sub.nil))))
          · refine E.cF rfl hc ?_
            refine E.skip ?_
            refine X.blkN ?_
            exact X.sub (ih92 _ (Option.some.inj hm).symm _ _ ⟨s142, a23, c23, a25, c25, m0, h5, h23, h25, h1, h2, h3, h4, bx8, rfl, rfl⟩) (Sub.cons rfl (Sub.cons rfl (Sub.cons rfl (Sub.cons rfl Sub.nil))))
  · refine E.cF rfl hc ?_
    refine E.exit ?_
    refine X.seqX ?_
    refine X.seqX ?_
    have hx := ho92 _ (Option.some.inj hm).symm
    subst hx
    exact X.sub (K98 _ _ ⟨s96, a25, c25, m0, h25, h5, rfl, rfl⟩) (Sub.cons rfl Sub.nil)

theorem bs65 : Bs Try.prog 65 28 1 [.slice none 0 0] := Bs.mk' Try.underlying65 (by kernel_rfl) (by kernel_rfl) rfl
theorem cf43 : Cf Try.prog 43 := Cf.mk Try.func43 (by kernel_rfl) (by kernel_rfl)
theorem cf48 : Cf Try.prog 48 := Cf.mk Try.func48 (by kernel_rfl) (by kernel_rfl)
theorem cf72 : Cf Try.prog 72 := Cf.mk Try.func72 (by kernel_rfl) (by kernel_rfl)
theorem cf73 : Cf Try.prog 73 := Cf.mk Try.func73 (by kernel_rfl) (by kernel_rfl)
theorem cf74 : Cf Try.prog 74 := Cf.mk Try.func74 (by kernel_rfl) (by kernel_rfl)
theorem cf75 : Cf Try.prog 75 := Cf.mk Try.func75 (by kernel_rfl) (by kernel_rfl)
theorem el28 : El Try.prog 28 1 24 := El.mk' (z := .slice none 0 0) (by kernel_rfl) (by kernel_rfl) (by kernel_rfl) rfl
theorem nag65 : NAg Try.prog 65 := NAg.mk' Try.underlying65 rfl (by kernel_rfl)
theorem sl65 : Sl Try.prog 65 28 1 := Sl.mk' Try.underlying65 (by kernel_rfl)
theorem zr4 : Zr Try.prog rB 4 1 false := Zr.mk' (v := .bool false) (by kernel_rfl) (by kernel_rfl) (by kernel_rfl) (fun _ => rfl)
theorem zrn28 : Zr Try.prog (rNil (α := Int)) 28 24 [] := Zr.mk' (v := .slice none 0 0) (by kernel_rfl) (by kernel_rfl) (by kernel_rfl) (fun _ => ⟨rfl, rfl⟩)
theorem zz28 : (Try.prog.info? 28).bind (·.zero) = some (.slice none 0 0) := by kernel_rfl
theorem zz65 : (Try.prog.info? 65).bind (·.zero) = some (.slice none 0 0) := by kernel_rfl
noncomputable def m_reach_Components_j1 (st484 : Int × List Int × List Int) (l491 : List Int) (l493 : List Int) : Option ((Int × List Int × List Int) ⊕ (List Int × List Int)) :=
  some (.inl (W (st484.1 + 1), l491, l493))
noncomputable def m_reach_Components_l5 (st318 : List Int × List (List Int)) (x447 : List Int) (st484 : Int × List Int × List Int) : Option ((Int × List Int × List Int) ⊕ (List Int × List Int)) :=
  if decide (st484.1 < (x447.length : Int)) then
    (idx x447 st484.1).bind fun x496 =>
    (idx st484.2.2 x496).bind fun x498 =>
    if (x498 == 0) then
      (idx st484.2.2 x496).bind fun x500 =>
      (upd st484.2.2 x496 (W ((st318.2.length : Int) + 1))).bind fun x502 =>
      (app st484.2.1 ([x496] : List Int)).bind fun x508 =>
      m_reach_Components_j1 st484 x508 x502
    else
      m_reach_Components_j1 st484 st484.2.1 st484.2.2
  else
    some (.inr st484.2)
noncomputable def m_reach_Components_l4 (o104 : List (List Int)) (st318 : List Int × List (List Int)) (st418 : Int × List Int × List Int) : Option ((Int × List Int × List Int) ⊕ (List Int × List Int)) :=
  if decide (st418.1 < (st418.2.1.length : Int)) then
    (idx st418.2.1 st418.1).bind fun x443 =>
    (idx o104 x443).bind fun x447 =>
    (iter (m_reach_Components_l5 st318 x447) (0, st418.2)).bind fun o484 =>
    some (.inl (W (st418.1 + 1), o484))
  else
    some (.inr st418.2)
noncomputable def m_reach_Components_l3 (o104 : List (List Int)) (x320 : Int × Int) (st318 : List Int × List (List Int)) : Option (List Int × List (List Int)) :=
  (idx st318.1 x320.2).bind fun x327 =>
  if decide (x327 > 0) then
    some st318
  else
    (idx st318.1 x320.2).bind fun x329 =>
    (upd st318.1 x320.2 (W ((st318.2.length : Int) + 1))).bind fun x331 =>
    (iter (m_reach_Components_l4 o104 st318) (0, ([x320.2] : List Int), x331)).bind fun o418 =>
    (m_slices_Sort_int o418.1).bind fun r424 =>
    (lenEq r424 o418.1).bind fun _ =>
    (app st318.2 ([r424] : List (List Int))).bind fun x432 =>
    some (o418.2, x432)
noncomputable def m_reach_Components_l2 (p0 : List Int × Int × List Int × (List (Int × Int × Int))) (st104 : Int × List (List Int)) : Option ((Int × List (List Int)) ⊕ (List (List Int))) :=
  if decide (st104.1 < (p0.2.2.2.length : Int)) then
    (idx p0.2.2.2 st104.1).bind fun x519 =>
    (idx st104.2 x519.2.2).bind fun x533 =>
    (app x533 ([x519.1] : List Int)).bind fun x544 =>
    (idx st104.2 x519.2.2).bind fun x549 =>
    (upd st104.2 x519.2.2 x544).bind fun x552 =>
    some (.inl (W (st104.1 + 1), x552))
  else
    some (.inr st104.2)
noncomputable def m_reach_Components_j2 (st49 : Int × List Bool × List Int) (l557 : List Int) (l559 : List Bool) : Option ((Int × List Bool × List Int) ⊕ (List Int)) :=
  some (.inl (W (st49.1 + 1), l559, l557))
noncomputable def m_reach_Components_l1 (p0 : List Int × Int × List Int × (List (Int × Int × Int))) (r13 : ((List Int × Int × List Int × (List (Int × Int × Int))) × List Int)) (st49 : Int × List Bool × List Int) : Option ((Int × List Bool × List Int) ⊕ (List Int)) :=
  if decide (st49.1 < p0.2.1) then
    (idx st49.2.1 st49.1).bind fun x562 =>
    if (!x562) then
      (m_reach_graph_finish r13 st49.1 st49.2.1 st49.2.2).bind fun r564 =>
      (lenEq r564.2 st49.2.1).bind fun _ =>
      m_reach_Components_j2 st49 r564.1 r564.2
    else
      m_reach_Components_j2 st49 st49.2.2 st49.2.1
  else
    some (.inr st49.2.2)
/-- What reach.Components computes. -/
noncomputable def m_reach_Components (p0 : List Int × Int × List Int × (List (Int × Int × Int))) : Option (List (List Int) × Int) :=
  (m_automaton_Check p0).bind fun r8 =>
  if (r8 != 0) then
    some (([] : List (List Int)), r8)
  else
    (m_reach_newGraph p0).bind fun r13 =>
    (mkL p0.2.1 false).bind fun x25 =>
    (iter (m_reach_Components_l1 p0 r13) (0, x25, ([] : List Int))).bind fun o49 =>
    (mkL p0.2.1 ([] : List Int)).bind fun x54 =>
    (iter (m_reach_Components_l2 p0) (0, x54)).bind fun o104 =>
    (mkL p0.2.1 (0 : Int)).bind fun x109 =>
    (m_slices_Backward_int o49).bind fun r122 =>
    (rngF (fun k => m_reach_Components_l3 o104 (r122.getD k (0, 0))) r122.length 0 (x109, ([] : List (List Int)))).bind fun o318 =>
    (m_slices_SortFunc_int o318.2).bind fun r512 =>
    (lenEq r512 o318.2).bind fun _ =>
    some (r512, 0)
set_option maxRecDepth 100000 in
set_option maxHeartbeats 8000000 in
theorem m_reach_Components_c {s : Sig} {p0 : List Int × Int × List Int × (List (Int × Int × Int))} {a1 : Option Addr} {c1 : Nat} {a2 : Option Addr} {c2 : Nat} {a3 : Option Addr} {c3 : Nat} {u0 : Nat} {r : List (List Int) × Int} (h1 : RdL (rK .i64) s a1 c1 p0.1) (h2 : RdL (rK .i64) s a2 c2 p0.2.2.1) (h3 : RdL (rP (rK .i64) (rP (rK .i64) (rK .i64))) s a3 c3 p0.2.2.2) (hm : m_reach_Components p0 = some r) :
    Calls Try.prog 40 #[.agg #[.slice a1 p0.1.length c1, .int .i64 p0.2.1, .slice a2 p0.2.2.1.length c2, .slice a3 p0.2.2.2.length c3]] s.w (RetS No s fun v s' => ∃ (a4 : Option Addr) (c4 : Nat), v = .tuple #[.slice a4 r.1.length c4, .int .i64 r.2] ∧ RowT (rL (rK .i64)) s' u0 28 a4 c4 r.1) := by
  unfold m_reach_Components at hm
  obtain ⟨N, hN, hNb⟩ := s.fresh
  have m0 : Mv (Up N No) s s := Mv.refl _ _
  have mk0 : Mks s (N + 0) [] := Mks.nil
  refine E.entryM (vs := [.agg #[.slice a1 p0.1.length c1, .int .i64 p0.2.1, .slice a2 p0.2.2.1.length c2, .slice a3 p0.2.2.2.length c3]]) (e := [(0, .agg #[.slice a1 p0.1.length c1, .int .i64 p0.2.1, .slice a2 p0.2.2.1.length c2, .slice a3 p0.2.2.2.length c3])]) Try.func40 rfl Try.ntmps40 rfl rfl ?_
  refine E.seq ?_
  refine E.reg ?_
  refine L.box (N + 1) Wt.no rfl rfl rfl ?_
  intro b5 s6 m7 bx5
  replace m0 := m0.trans m7.no
  replace mk0 := mk0.mv m7 no_No
  replace h1 := h1.mono (m7.le no_No)
  replace h2 := h2.mono (m7.le no_No)
  replace h3 := h3.mono (m7.le no_No)
  refine L.as Wt.no rfl rfl ?_
  refine L.as Wt.no rfl rfl ?_
  refine L.nil ?_
  refine X.seqN ?_
  refine E.seq ?_
  refine E.seq ?_
  refine E.reg ?_
  refine L.lg (j := 0) (cs := [.slice a1 p0.1.length c1, .int .i64 p0.2.1, .slice a2 p0.2.2.1.length c2, .slice a3 p0.2.2.2.length c3]) bx5.mem ag31 Wt.no rfl rfl rfl rfl rfl ?_
  obtain ⟨r8, er8, hm⟩ := bindS hm
  refine L.ca (vs := [.agg #[.slice a1 p0.1.length c1, .int .i64 p0.2.1, .slice a2 p0.2.2.1.length c2, .slice a3 p0.2.2.2.length c3]]) cf43 rfl rfl Wt.no rfl (m_automaton_Check_c (s := s6) (p0 := p0) h1 h2 h3 er8) rfl ?_
  rintro _ s9 m10 rfl
  replace m0 := m0.trans m10.no
  replace mk0 := mk0.mv m10 no_No
  replace bx5 := bx5.mv m10 no_No
  replace h1 := h1.mono (m10.le no_No)
  replace h2 := h2.mono (m10.le no_No)
  replace h3 := h3.mono (m10.le no_No)
  refine L.as Wt.no rfl rfl ?_
  refine L.nil ?_
  refine X.seqN ?_
  refine E.seq ?_
  refine E.reg ?_
  refine L.mv Wt.no rfl rfl ?_
  refine L.bi Wt.no rfl rfl rfl rfl ?_
  refine L.nil ?_
  refine X.seqN ?_
  rcases ifS hm with ⟨hc, hm⟩ | ⟨hc, hm⟩
  · refine E.cT rfl hc ?_
    refine E.seq ?_
    refine E.reg ?_
    refine L.mv Wt.no rfl rfl ?_
    refine L.as Wt.no rfl rfl ?_
    refine L.as Wt.no rfl rfl ?_
    refine L.nil ?_
    refine X.seqN ?_
    refine E.ret ?_
    refine X.seqR ?_
    refine X.lv (.inl rfl) mk0 fun s11 m12 => ?_
    replace m0 := m0.trans (m12.one up)
    obtain rfl := Option.some.inj hm
    exact X.rt (.inl rfl) Try.results40 (Rs.tmp rfl (Rs.tmp rfl Rs.nil)) rfl ⟨_, (s11).ren N (fun _ => 0), rfl, rfl, m0.ren hNb, ⟨none, 0, rfl, RowT.nil⟩⟩
  · refine E.cF rfl hc ?_
    refine E.skip ?_
    refine X.seqN ?_
    refine E.seq ?_
    refine E.reg ?_
    refine L.lg (j := 0) (cs := [.slice a1 p0.1.length c1, .int .i64 p0.2.1, .slice a2 p0.2.2.1.length c2, .slice a3 p0.2.2.2.length c3]) bx5.mem ag31 Wt.no rfl rfl rfl rfl rfl ?_
    obtain ⟨r13, er13, hm⟩ := bindS hm
    refine L.ca (vs := [.agg #[.slice a1 p0.1.length c1, .int .i64 p0.2.1, .slice a2 p0.2.2.1.length c2, .slice a3 p0.2.2.2.length c3]]) cf48 rfl rfl Wt.no rfl (m_reach_newGraph_c (s := s9) (p0 := p0) (u3 := 0) h1 h2 h3 er13) rfl ?_
    rintro _ s14 m15 ⟨a16, c16, a17, c17, a18, c18, a19, c19, rfl, h16, h17, h18, h19⟩
    replace h19 := h19.p
    replace m0 := m0.trans m15.no
    replace mk0 := mk0.mv m15 no_No
    replace bx5 := bx5.mv m15 no_No
    replace h1 := h1.mono (m15.le no_No)
    replace h2 := h2.mono (m15.le no_No)
    replace h3 := h3.mono (m15.le no_No)
    refine L.al (N + 2) zz80 rfl Wt.no rfl ?_
    intro b20 s21 m22 bx20
    replace m0 := m0.trans m22.no
    replace h16 := h16.mono (m22.le no_No)
    replace h17 := h17.mono (m22.le no_No)
    replace h18 := h18.mono (m22.le no_No)
    replace h19 := h19.mono (m22.le no_No)
    replace mk0 := mk0.mv m22 no_No
    replace bx5 := bx5.mv m22 no_No
    replace h1 := h1.mono (m22.le no_No)
    replace h2 := h2.mono (m22.le no_No)
    replace h3 := h3.mono (m22.le no_No)
    refine L.st (c := [.slice a16 r13.1.1.length c16, .int .i64 r13.1.2.1, .slice a17 r13.1.2.2.1.length c17, .slice a18 r13.1.2.2.2.length c18, .slice a19 r13.2.length c19]) (cs' := #[.slice a16 r13.1.1.length c16, .int .i64 r13.1.2.1, .slice a17 r13.1.2.2.1.length c17, .slice a18 r13.1.2.2.2.length c18, .slice a19 r13.2.length c19]) bx20 ag80.sz Wt.no rfl rfl rfl rfl rfl (Nat.le_of_ble_eq_true rfl) rfl ?_
    intro s23 m24 bx20
    replace m0 := m0.trans (m24.one up)
    replace mk0 := mk0.mv m24 (tgN (by decide))
    replace bx5 := bx5.mv m24 (tgN (by decide))
    replace h1 := h1.mono (m24.le (tg0 hN))
    replace h2 := h2.mono (m24.le (tg0 hN))
    replace h3 := h3.mono (m24.le (tg0 hN))
    replace h16 := h16.mono (m24.le (tg0 hN))
    replace h17 := h17.mono (m24.le (tg0 hN))
    replace h18 := h18.mono (m24.le (tg0 hN))
    replace h19 := h19.mono (m24.le (tg0 hN))
    refine L.nil ?_
    refine X.seqN ?_
    refine E.seq ?_
    refine E.reg ?_
    refine L.as Wt.no rfl rfl ?_
    refine L.nil ?_
    refine X.seqN ?_
    refine E.seq ?_
    refine E.reg ?_
    refine L.fa fa31_1 Wt.no rfl rfl ?_
    refine L.ld (j := 1) bx5.mem nag3 Wt.no rfl rfl rfl rfl ?_
    obtain ⟨x25, ex25, hm⟩ := bindS hm
    refine L.mk (z := false) (N + 3) Try.underlying86 zr4 rfl Wt.no rfl rfl ex25 rfl ?_
    intro b26 s27 m28 h26
    replace m0 := m0.trans m28.no
    replace mk0 := mk0.mv m28 no_No
    replace bx5 := bx5.mv m28 no_No
    replace h1 := h1.mono (m28.le no_No)
    replace h2 := h2.mono (m28.le no_No)
    replace h3 := h3.mono (m28.le no_No)
    replace bx20 := bx20.mv m28 no_No
    replace h16 := h16.mono (m28.le no_No)
    replace h17 := h17.mono (m28.le no_No)
    replace h18 := h18.mono (m28.le no_No)
    replace h19 := h19.mono (m28.le no_No)
    refine L.as Wt.no rfl rfl ?_
    refine L.nil ?_
    refine X.seqN ?_
    refine E.seq ?_
    refine E.seq ?_
    refine E.reg ?_
    refine L.fa fa31_1 Wt.no rfl rfl ?_
    refine L.ld (j := 1) bx5.mem nag3 Wt.no rfl rfl rfl rfl ?_
    refine L.mv Wt.no rfl rfl ?_
    refine L.nil ?_
    refine X.seqN ?_
    refine E.block ?_
    obtain ⟨o49, eo49, hm⟩ := bindS hm
    refine E.cutM (x := .exit 0) (fun e w ds => ∃ (s53 : Sig) (a51 : Option Addr) (c51 : Nat), Mv (Up N No) s s53 ∧ RowT (rK .i64) s53 (N + 4) 3 a51 c51 o49 ∧ RdL (rK .i64) s53 a1 c1 p0.1 ∧ RdL (rK .i64) s53 a2 c2 p0.2.2.1 ∧ RdL (rP (rK .i64) (rP (rK .i64) (rK .i64))) s53 a3 c3 p0.2.2.2 ∧ Mks s53 (N + 0) ds ∧ Bx s53 (N + 1) b5 #[.slice a1 p0.1.length c1, .int .i64 p0.2.1, .slice a2 p0.2.2.1.length c2, .slice a3 p0.2.2.2.length c3] 31 ∧ e = [(6, .slice a51 o49.length c51), (1, .pointer (some ⟨b5, 0, none⟩))] ∧ w = s53.w) ?_ ?_
    · rintro _ _ ds ⟨s53, a51, c51, m0, h51, h1, h2, h3, mk0, bx5, rfl, rfl⟩
      refine X.blkE ?_
      refine X.seqN ?_
      refine E.seq ?_
      refine E.reg ?_
      refine L.fa fa31_1 Wt.no rfl rfl ?_
      refine L.ld (j := 1) bx5.mem nag3 Wt.no rfl rfl rfl rfl ?_
      obtain ⟨x54, ex54, hm⟩ := bindS hm
      refine L.mk (r := rNil) (z := ([] : List Int)) (N + 5) Try.underlying65 zrn28 rfl Wt.no rfl rfl ex54 rfl ?_
      intro b55 s56 m57 h55
      replace m0 := m0.trans m57.no
      replace h51 := h51.mv m57 no_No no_No
      replace mk0 := mk0.mv m57 no_No
      replace bx5 := bx5.mv m57 no_No
      replace h1 := h1.mono (m57.le no_No)
      replace h2 := h2.mono (m57.le no_No)
      replace h3 := h3.mono (m57.le no_No)
      have mp55 := RowR.start (r := (rK .i64)) (N := N) (q := 5) (U := 3) h55 (by simp)
      refine L.al (N + 6) zz65 rfl Wt.no rfl ?_
      intro b58 s59 m60 bx58
      replace m0 := m0.trans m60.no
      replace h51 := h51.mv m60 no_No no_No
      replace mp55 := mp55.mv m60 no_No no_No (fun _ _ => no_No)
      replace mk0 := mk0.mv m60 no_No
      replace bx5 := bx5.mv m60 no_No
      replace h1 := h1.mono (m60.le no_No)
      replace h2 := h2.mono (m60.le no_No)
      replace h3 := h3.mono (m60.le no_No)
      refine L.st (c := [.slice (some ⟨b55, 0, none⟩) x54.length x54.length]) (cs' := #[.slice (some ⟨b55, 0, none⟩) x54.length x54.length]) bx58 nag65.sz Wt.no rfl rfl rfl rfl rfl (Nat.le_of_ble_eq_true rfl) rfl ?_
      intro s61 m62 bx58
      replace m0 := m0.trans (m62.one up)
      replace h51 := h51.mv m62 (tgN (by decide)) (tg0 hN)
      replace mk0 := mk0.mv m62 (tgN (by decide))
      replace bx5 := bx5.mv m62 (tgN (by decide))
      replace h1 := h1.mono (m62.le (tg0 hN))
      replace h2 := h2.mono (m62.le (tg0 hN))
      replace h3 := h3.mono (m62.le (tg0 hN))
      replace mp55 := mp55.mv m62 (tgN (by decide)) (tg0 hN) (fun i ho => (fmM (by decide)))
      refine L.nil ?_
      refine X.seqN ?_
      refine E.seq ?_
      refine E.seq ?_
      refine E.reg ?_
      refine L.fa fa31_3 Wt.no rfl rfl ?_
      refine L.ld (j := 3) bx5.mem nag29 Wt.no rfl rfl rfl rfl ?_
      refine L.len sl29 Wt.no rfl rfl ?_
      refine L.mv Wt.no rfl rfl ?_
      refine L.nil ?_
      refine X.seqN ?_
      refine E.block ?_
      obtain ⟨o104, eo104, hm⟩ := bindS hm
      refine E.cutM (x := .exit 2) (fun e w ds => ∃ (s107 : Sig), Mv (Up N No) s s107 ∧ RowT (rK .i64) s107 (N + 4) 3 a51 c51 o49 ∧ RdL (rK .i64) s107 a1 c1 p0.1 ∧ RdL (rK .i64) s107 a2 c2 p0.2.2.1 ∧ RdL (rP (rK .i64) (rP (rK .i64) (rK .i64))) s107 a3 c3 p0.2.2.2 ∧ RowR (rK .i64) s107 N 5 (N + 5) 28 3 (some ⟨b55, 0, none⟩) x54.length x54.length o104 none ∧ Mks s107 (N + 0) ds ∧ Bx s107 (N + 1) b5 #[.slice a1 p0.1.length c1, .int .i64 p0.2.1, .slice a2 p0.2.2.1.length c2, .slice a3 p0.2.2.2.length c3] 31 ∧ Bx s107 (N + 6) b58 #[.slice (some ⟨b55, 0, none⟩) x54.length x54.length] 65 ∧ e = [(9, .pointer (some ⟨b58, 0, none⟩)), (6, .slice a51 o49.length c51), (1, .pointer (some ⟨b5, 0, none⟩))] ∧ w = s107.w) ?_ ?_
      · rintro _ _ ds ⟨s107, m0, h51, h1, h2, h3, mp55, mk0, bx5, bx58, rfl, rfl⟩
        refine X.blkE ?_
        refine X.seqN ?_
        refine E.seq ?_
        have m108 := Sig.fzP_mv (pF N [5]) s107
        have elmp55 := mp55.is.1
        have h55 := mp55.fz (p := (pF N [5])) (pF_0 hN) (pF_k rfl) (fun _ => pF_f)
        replace bx58 : Bx s107 (N + 6) b58 #[.slice (some ⟨b55, 0, none⟩) o104.length x54.length] 65 := by rw [elmp55]; exact bx58
        replace m0 := m0.trans (m108.weak fun _ e => pF_up e)
        replace h51 := h51.mv m108 (pF_no (by decide)) (pF_n0 hN)
        replace mk0 := mk0.mv m108 (pF_no (by decide))
        replace bx58 := bx58.mv m108 (pF_no (by decide))
        replace bx5 := bx5.mv m108 (pF_no (by decide))
        replace h1 := h1.mono (m108.le (pF_n0 hN))
        replace h2 := h2.mono (m108.le (pF_n0 hN))
        replace h3 := h3.mono (m108.le (pF_n0 hN))
        refine E.toR (s' := (Sig.fzP (pF N [5]) s107)) rfl ?_
        refine E.reg ?_
        refine L.fa fa31_1 Wt.no rfl rfl ?_
        refine L.ld (j := 1) bx5.mem nag3 Wt.no rfl rfl rfl rfl ?_
        obtain ⟨x109, ex109, hm⟩ := bindS hm
        refine L.mk (z := (0 : Int)) (N + 8) Try.underlying28 zr3 rfl Wt.no rfl rfl ex109 rfl ?_
        intro b110 s111 m112 h110
        replace m0 := m0.trans m112.no
        replace h51 := h51.mv m112 no_No no_No
        replace mk0 := mk0.mv m112 no_No
        replace bx58 := bx58.mv m112 no_No
        replace h55 := h55.mono (m112.le no_No)
        refine L.al (N + 9) zz28 rfl Wt.no rfl ?_
        intro b113 s114 m115 bx113
        replace m0 := m0.trans m115.no
        replace h110 := h110.mv m115 no_No no_No
        replace h51 := h51.mv m115 no_No no_No
        replace mk0 := mk0.mv m115 no_No
        replace bx58 := bx58.mv m115 no_No
        replace h55 := h55.mono (m115.le no_No)
        refine L.st (c := [.slice (some ⟨b110, 0, none⟩) x109.length x109.length]) (cs' := #[.slice (some ⟨b110, 0, none⟩) x109.length x109.length]) bx113 nag28.sz Wt.no rfl rfl rfl rfl rfl (Nat.le_of_ble_eq_true rfl) rfl ?_
        intro s116 m117 bx113
        replace m0 := m0.trans (m117.one up)
        replace h51 := h51.mv m117 (tgN (by decide)) (tg0 hN)
        replace mk0 := mk0.mv m117 (tgN (by decide))
        replace bx58 := bx58.mv m117 (tgN (by decide))
        replace h55 := h55.mono (m117.le (tg0 hN))
        replace h110 := h110.mv m117 (tgN (by decide)) (tg0 hN)
        refine L.nil ?_
        refine X.seqN ?_
        refine E.seq ?_
        refine E.reg ?_
        refine L.al (N + 10) zz65 rfl Wt.no rfl ?_
        intro b118 s119 m120 bx118
        replace m0 := m0.trans m120.no
        replace h51 := h51.mv m120 no_No no_No
        replace mk0 := mk0.mv m120 no_No
        replace bx58 := bx58.mv m120 no_No
        replace h55 := h55.mono (m120.le no_No)
        replace bx113 := bx113.mv m120 no_No
        replace h110 := h110.mv m120 no_No no_No
        refine L.nil ?_
        refine X.seqN ?_
        refine E.seq ?_
        refine E.seq ?_
        refine E.reg ?_
        refine L.mv Wt.no rfl rfl ?_
        have m121 := Sig.fz_mv (N + 4) s119
        replace h51 := h51.fz (tgn hN)
        replace m0 := m0.trans (m121.one up)
        replace mk0 := mk0.mv m121 (tgN (by decide))
        replace bx58 := bx58.mv m121 (tgN (by decide))
        replace h55 := h55.mono (m121.le (tg0 hN))
        replace bx113 := bx113.mv m121 (tgN (by decide))
        replace h110 := h110.mv m121 (tgN (by decide)) (tg0 hN)
        replace bx118 := bx118.mv m121 (tgN (by decide))
        refine L.toR (s' := (Sig.fz (N + 4) s119)) rfl ?_
        obtain ⟨r122, er122, hm⟩ := bindS hm
        refine L.ca (vs := [.slice a51 o49.length c51]) cf73 rfl rfl Wt.no rfl (m_slices_Backward_int_c (s := (Sig.fz (N + 4) s119)) (p0 := o49) h51 er122) rfl ?_
        rintro v125 s123 m124 h125
        replace m0 := m0.trans m124.no
        replace mk0 := mk0.mv m124 no_No
        replace bx58 := bx58.mv m124 no_No
        replace h55 := h55.mono (m124.le no_No)
        replace bx113 := bx113.mv m124 no_No
        replace h110 := h110.mv m124 no_No no_No
        replace bx118 := bx118.mv m124 no_No
        refine L.nil ?_
        refine X.seqN ?_
        refine E.block ?_
        obtain ⟨o318, eo318, hm⟩ := bindS hm
        have mko318 := mk0.old
        refine E.range (N + 11) (N + 0) (tgn hN) (by omega) (fun (k : Nat) (s319 : Sig) => ∃ (st318 : List Int × List (List Int)) (a128 : Option Addr) (c128 : Nat), rngF (fun k => m_reach_Components_l3 o104 (r122.getD k (0, 0))) (r122.length - k) k st318 = some o318 ∧ Mv (Up N No) s s319 ∧ RdL (rL (rK .i64)) s319 (some ⟨b55, 0, none⟩) x54.length o104 ∧ RowT (rK .i64) s319 (N + 8) 3 (some ⟨b110, 0, none⟩) x109.length st318.1 ∧ RowT (rL (rK .i64)) s319 (N + 13) 28 a128 c128 st318.2 ∧ Mks s319 (N + 0) ds ∧ Bx s319 (N + 6) b58 #[.slice (some ⟨b55, 0, none⟩) o104.length x54.length] 65 ∧ Bx s319 (N + 9) b113 #[.slice (some ⟨b110, 0, none⟩) st318.1.length x109.length] 28 ∧ Bx s319 (N + 10) b118 #[.slice a128 st318.2.length c128] 65) rfl h125 (fun _ => rfl) (by decide) ⟨(x109, ([] : List (List Int))), none, 0, eo318, m0, h55, h110, RowT.nil, mk0, bx58, bx113, bx118⟩ ?_ ?_
        · rintro k318 D318 r318 s319 s321 hk318 ⟨st318, a128, c128, hj318, m0, h55, h110, h128, mk0, bx58, bx113, bx118⟩ m322 rc323 hr318
          obtain ⟨res318, hm, hj318⟩ := rng_step hk318 hj318
          have hm : m_reach_Components_l3 o104 (r122.getD k318 (0, 0)) st318 = some res318 := hm
          show E _ _ _ _ _ (Env.zp _ (encB (r122.getD k318 (0, 0))) _) _
          generalize r122.getD k318 (0, 0) = x320 at hm ⊢
          refine E.sub (e' := [(13, .pointer (some ⟨b118, 0, none⟩)), (12, .pointer (some ⟨b113, 0, none⟩)), (9, .pointer (some ⟨b58, 0, none⟩)), (76, .int .i64 x320.1), (77, .int .i64 x320.2)]) (Sub.rf rfl) ?_
          unfold m_reach_Components_l3 at hm
          replace m0 := m0.trans (m322.one up)
          replace mk0 := mk0.mv m322 (tgN (by decide))
          replace bx118 := bx118.mv m322 (tgN (by decide))
          replace h128 := h128.mv m322 (tgN (by decide)) (tg0 hN)
          replace bx113 := bx113.mv m322 (tgN (by decide))
          replace h110 := h110.mv m322 (tgN (by decide)) (tg0 hN)
          replace bx58 := bx58.mv m322 (tgN (by decide))
          replace h55 := h55.mono (m322.le (tg0 hN))
          have h324 : Lf s321 s321 := Le.refl _
          refine E.reg ?_
          refine L.as Wt.no rfl rfl ?_
          refine L.nil ?_
          refine X.beg rc323 hr318 fun s325 m326 rc323 => ?_
          replace m0 := m0.trans (m326.one up)
          replace mk0 := mk0.mv m326 (tgN (by decide))
          replace h324 := h324.mono (m326.le (tg0 hN))
          replace bx118 := bx118.mv m326 (tgN (by decide))
          replace h128 := h128.mv m326 (tgN (by decide)) (tg0 hN)
          replace bx113 := bx113.mv m326 (tgN (by decide))
          replace h110 := h110.mv m326 (tgN (by decide)) (tg0 hN)
          replace bx58 := bx58.mv m326 (tgN (by decide))
          replace h55 := h55.mono (m326.le (tg0 hN))
          refine E.block ?_
          refine E.seq ?_
          refine E.seq ?_
          refine E.reg ?_
          refine L.ld (j := 0) bx113.mem nag28 Wt.no rfl rfl rfl rfl ?_
          refine L.mv Wt.no rfl rfl ?_
          obtain ⟨x327, ex327, hm⟩ := bindS hm
          refine L.ir (r := (rK .i64)) sl28 h110 Wt.no rfl rfl ex327 rfl ?_
          rintro b328 o328 cc328 me328 rd328 sp328
          obtain rfl := rd328
          refine L.ld (j := 0) me328 nag3 Wt.no rfl rfl rfl rfl ?_
          refine L.bi Wt.no rfl rfl rfl rfl ?_
          refine L.nil ?_
          refine X.seqN ?_
          rcases ifS hm with ⟨hc, hm⟩ | ⟨hc, hm⟩
          · refine E.cT rfl hc ?_
            refine E.exit ?_
            refine X.seqX ?_
            refine X.blkE ?_
            obtain rfl := Option.some.inj hm
            exact X.rnd ⟨⟨st318, a128, c128, hj318, m0, h55, h110, h128, mk0, bx58, bx113, bx118⟩, rc323, h324⟩
          · refine E.cF rfl hc ?_
            refine E.skip ?_
            refine X.seqN ?_
            refine E.seq ?_
            refine E.reg ?_
            refine L.ld (j := 0) bx118.mem nag65 Wt.no rfl rfl rfl rfl ?_
            refine L.len sl65 Wt.no rfl rfl ?_
            refine L.bi Wt.no rfl rfl rfl rfl ?_
            refine L.as Wt.no rfl rfl ?_
            refine L.nil ?_
            refine X.seqN ?_
            refine E.seq ?_
            refine E.reg ?_
            refine L.ld (j := 0) bx113.mem nag28 Wt.no rfl rfl rfl rfl ?_
            refine L.mv Wt.no rfl rfl ?_
            refine L.mv Wt.no rfl rfl ?_
            obtain ⟨x329, ex329, hm⟩ := bindS hm
            refine L.ir (r := (rK .i64)) sl28 h110 Wt.no rfl rfl ex329 rfl ?_
            rintro b330 o330 cc330 me330 rd330 sp330
            obtain rfl := rd330
            obtain ⟨x331, ex331, hm⟩ := bindS hm
            have elx331 := upd_len ex331
            refine L.su (fo := 0) (c := [.int .i64 (W ((st318.2.length : Int) + 1))]) (z := W ((st318.2.length : Int) + 1)) h110 sp330 ex329 ex331 (tgp hN) nag3.sz Wt.no rfl rfl rfl rfl rfl rfl (fun c0 hc0 => by obtain rfl := hc0; exact rfl) ?_
            intro s332 m333 h110
            replace m0 := m0.trans (m333.one up)
            replace mk0 := mk0.mv m333 (tgN (by decide))
            replace h324 := h324.mono (m333.le (tg0 hN))
            replace rc323 := rc323.mv m333 (tgN (by decide)) (tgN (by decide))
            replace bx58 := bx58.mv m333 (tgN (by decide))
            replace h55 := h55.mono (m333.le (tg0 hN))
            replace bx113 := bx113.mv m333 (tgN (by decide))
            replace bx118 := bx118.mv m333 (tgN (by decide))
            replace h128 := h128.mv m333 (tgN (by decide)) (tg0 hN)
            replace bx113 : Bx s332 (N + 9) b113 #[.slice (some ⟨b110, 0, none⟩) x331.length x109.length] 28 := by rw [elx331]; exact bx113
            refine L.nil ?_
            refine X.seqN ?_
            refine E.seq ?_
            refine E.reg ?_
            refine L.mv Wt.no rfl rfl ?_
            refine L.bsE (k := 1) (cs := [.int .i64 x320.2]) (N + 12) bs28 (Nat.le_of_ble_eq_true rfl) Wt.no rfl rfl rfl rfl ?_
            intro b334 s335 m336 bx334
            replace m0 := m0.trans m336.no
            replace mk0 := mk0.mv m336 no_No
            replace h324 := h324.mono (m336.le no_No)
            replace rc323 := rc323.mv m336 no_No no_No
            replace bx58 := bx58.mv m336 no_No
            replace h55 := h55.mono (m336.le no_No)
            replace bx113 := bx113.mv m336 no_No
            replace h110 := h110.mv m336 no_No no_No
            replace bx118 := bx118.mv m336 no_No
            replace h128 := h128.mv m336 no_No no_No
            have h334 := Bx.row (r := (rK .i64)) (xs := ([x320.2] : List Int)) bx334 ⟨[.int .i64 x320.2], _, rfl, rfl, rfl⟩ (Nat.le_of_ble_eq_true rfl)
            refine L.as Wt.no rfl rfl ?_
            refine L.nil ?_
            refine X.seqN ?_
            refine E.seq ?_
            refine E.seq ?_
            refine E.reg ?_
            refine L.as Wt.no rfl rfl ?_
            refine L.nil ?_
            refine X.seqN ?_
            refine E.block ?_
            obtain ⟨o418, eo418, hm⟩ := bindS hm
            refine E.cut (x := .exit 6) (fun e w => ∃ (s423 : Sig) (a420 : Option Addr) (c420 : Nat), Mv (Up N No) s s423 ∧ RowT (rK .i64) s423 (N + 12) 3 a420 c420 o418.1 ∧ RdL (rL (rK .i64)) s423 (some ⟨b55, 0, none⟩) x54.length o104 ∧ RowT (rK .i64) s423 (N + 8) 3 (some ⟨b110, 0, none⟩) x109.length o418.2 ∧ RowT (rL (rK .i64)) s423 (N + 13) 28 a128 c128 st318.2 ∧ Lf s321 s423 ∧ Mks s423 (N + 0) ds ∧ Bx s423 (N + 6) b58 #[.slice (some ⟨b55, 0, none⟩) o104.length x54.length] 65 ∧ Bx s423 (N + 9) b113 #[.slice (some ⟨b110, 0, none⟩) o418.2.length x109.length] 28 ∧ Bx s423 (N + 10) b118 #[.slice a128 st318.2.length c128] 65 ∧ Rc s423 (N + 11) (N + 0) D318 { r318 with state := .busy } ∧ e = [(17, .slice a420 o418.1.length c420), (13, .pointer (some ⟨b118, 0, none⟩)), (12, .pointer (some ⟨b113, 0, none⟩)), (9, .pointer (some ⟨b58, 0, none⟩))] ∧ w = s423.w) ?_ ?_
            · rintro _ _ ⟨s423, a420, c420, m0, h420, h55, h110, h128, h324, mk0, bx58, bx113, bx118, rc323, rfl, rfl⟩
              refine X.blkE ?_
              refine X.seqN ?_
              refine E.seq ?_
              refine E.reg ?_
              refine L.mv Wt.no rfl rfl ?_
              obtain ⟨r424, er424, hm⟩ := bindS hm
              refine L.ca (vs := [.slice a420 o418.1.length c420]) cf74 rfl rfl Wt.no rfl (m_slices_Sort_int_c (s := s423) (p0 := o418.1) (t0 := (N + 12)) (tpos hN) h420 er424) rfl ?_
              rintro _ s425 m426 ⟨rfl, h420⟩
              obtain ⟨_, qz427, hm⟩ := bindS hm
              have elz427 := len_some qz427
              replace m0 := m0.trans (m426.one up)
              replace mk0 := mk0.mv m426 (tgN (by decide))
              replace h324 := h324.mono (m426.le (tg0 hN))
              replace rc323 := rc323.mv m426 (tgN (by decide)) (tgN (by decide))
              replace bx113 := bx113.mv m426 (tgN (by decide))
              replace h110 := h110.mv m426 (tgN (by decide)) (tg0 hN)
              replace bx118 := bx118.mv m426 (tgN (by decide))
              replace h128 := h128.mv m426 (tgN (by decide)) (tg0 hN)
              replace bx58 := bx58.mv m426 (tgN (by decide))
              replace h55 := h55.mono (m426.le (tg0 hN))
              refine L.reval (d := 17) rfl elz427 ?_
              refine L.nil ?_
              refine X.seqN ?_
              refine E.reg ?_
              refine L.ld (j := 0) bx118.mem nag65 Wt.no rfl rfl rfl rfl ?_
              refine L.mv Wt.no rfl rfl ?_
              have m428 := Sig.fz_mv (N + 12) s425
              replace h420 := h420.fz (tgn hN)
              replace m0 := m0.trans (m428.one up)
              replace h128 := h128.mv m428 (tgN (by decide)) (tg0 hN)
              replace mk0 := mk0.mv m428 (tgN (by decide))
              replace h324 := h324.mono (m428.le (tg0 hN))
              replace rc323 := rc323.mv m428 (tgN (by decide)) (tgN (by decide))
              replace bx58 := bx58.mv m428 (tgN (by decide))
              replace h55 := h55.mono (m428.le (tg0 hN))
              replace bx113 := bx113.mv m428 (tgN (by decide))
              replace h110 := h110.mv m428 (tgN (by decide)) (tg0 hN)
              replace bx118 := bx118.mv m428 (tgN (by decide))
              refine L.toR (s' := (Sig.fz (N + 12) s425)) rfl ?_
              refine L.bsE (k := 1) (cs := [.slice a420 r424.length c420]) 0 bs65 (Nat.le_of_ble_eq_true rfl) Wt.no rfl rfl rfl rfl ?_
              intro b429 s430 m431 bx429
              replace m0 := m0.trans m431.no
              replace h128 := h128.mv m431 no_No no_No
              replace mk0 := mk0.mv m431 no_No
              replace h324 := h324.mono (m431.le no_No)
              replace rc323 := rc323.mv m431 no_No no_No
              replace bx58 := bx58.mv m431 no_No
              replace h55 := h55.mono (m431.le no_No)
              replace bx113 := bx113.mv m431 no_No
              replace h110 := h110.mv m431 no_No no_No
              replace bx118 := bx118.mv m431 no_No
              replace h420 := h420.mono (m431.le no_No)
              have h429 := Bx.rdL (r := (rL (rK .i64))) (xs := ([r424] : List (List Int))) bx429 ⟨[.slice a420 r424.length c420], _, rfl, ⟨_, _, rfl, h420⟩, rfl⟩ (Nat.le_of_ble_eq_true rfl)
              obtain ⟨x432, ex432, hm⟩ := bindS hm
              refine L.ap (r := (rL (rK .i64))) Try.underlying65 el28 rfl (tgp hN) h128 h429.wk Wt.no rfl rfl ex432 rfl ?_
              intro a433 c433 s434 m435 h433
              replace m0 := m0.trans (m435.one up)
              replace mk0 := mk0.mv m435 (tgN (by decide))
              replace h324 := h324.mono (m435.le (tg0 hN))
              replace rc323 := rc323.mv m435 (tgN (by decide)) (tgN (by decide))
              replace bx113 := bx113.mv m435 (tgN (by decide))
              replace h110 := h110.mv m435 (tgN (by decide)) (tg0 hN)
              replace bx118 := bx118.mv m435 (tgN (by decide))
              replace bx58 := bx58.mv m435 (tgN (by decide))
              replace h55 := h55.mono (m435.le (tg0 hN))
              refine L.st (c := [.slice a433 x432.length c433]) (cs' := #[.slice a433 x432.length c433]) bx118 nag65.sz Wt.no rfl rfl rfl rfl rfl (Nat.le_of_ble_eq_true rfl) rfl ?_
              intro s436 m437 bx118
              replace m0 := m0.trans (m437.one up)
              replace mk0 := mk0.mv m437 (tgN (by decide))
              replace h324 := h324.mono (m437.le (tg0 hN))
              replace rc323 := rc323.mv m437 (tgN (by decide)) (tgN (by decide))
              replace bx58 := bx58.mv m437 (tgN (by decide))
              replace h55 := h55.mono (m437.le (tg0 hN))
              replace bx113 := bx113.mv m437 (tgN (by decide))
              replace h110 := h110.mv m437 (tgN (by decide)) (tg0 hN)
              replace h433 := h433.mv m437 (tgN (by decide)) (tg0 hN)
              refine L.nil ?_
              refine X.blkN ?_
              obtain rfl := Option.some.inj hm
              exact X.rnd ⟨⟨(o418.2, x432), a433, c433, hj318, m0, h55, h110, h433, mk0, bx58, bx113, bx118⟩, rc323, h324⟩
            intro K438
            refine E.iter (fun (st418 : Int × List Int × List Int) (e : List (Nat × Value)) (w : World) => ∃ (s422 : Sig) (a339 : Option Addr) (c339 : Nat), Mv (Up N No) s s422 ∧ RowT (rK .i64) s422 (N + 12) 3 a339 c339 st418.2.1 ∧ RdL (rL (rK .i64)) s422 (some ⟨b55, 0, none⟩) x54.length o104 ∧ RowT (rK .i64) s422 (N + 8) 3 (some ⟨b110, 0, none⟩) x109.length st418.2.2 ∧ RowT (rL (rK .i64)) s422 (N + 13) 28 a128 c128 st318.2 ∧ Lf s321 s422 ∧ Mks s422 (N + 0) ds ∧ Bx s422 (N + 6) b58 #[.slice (some ⟨b55, 0, none⟩) o104.length x54.length] 65 ∧ Bx s422 (N + 9) b113 #[.slice (some ⟨b110, 0, none⟩) st418.2.2.length x109.length] 28 ∧ Bx s422 (N + 10) b118 #[.slice a128 st318.2.length c128] 65 ∧ Rc s422 (N + 11) (N + 0) D318 { r318 with state := .busy } ∧ e = [(18, .int .i64 st418.1), (17, .slice a339 st418.2.1.length c339), (16, .int .i64 (W ((st318.2.length : Int) + 1))), (13, .pointer (some ⟨b118, 0, none⟩)), (12, .pointer (some ⟨b113, 0, none⟩)), (9, .pointer (some ⟨b58, 0, none⟩))] ∧ w = s422.w) eo418 ⟨s335, (some ⟨b334, 0, none⟩), ([x320.2] : List Int).length, m0, h334, h55, h110, h128, h324, mk0, bx58, bx113, bx118, rc323, rfl, rfl⟩ (Sub.cons rfl (Sub.cons rfl (Sub.cons rfl (Sub.cons rfl (Sub.cons rfl (Sub.cons rfl Sub.nil)))))) ?_
            rintro st418 res418 hm ih418 ho418 _ _ ⟨s422, a339, c339, m0, h339, h55, h110, h128, h324, mk0, bx58, bx113, bx118, rc323, rfl, rfl⟩
            unfold m_reach_Components_l4 at hm
            refine E.seq ?_
            refine E.seq ?_
            refine E.reg ?_
            refine L.mv Wt.no rfl rfl ?_
            refine L.mv Wt.no rfl rfl ?_
            refine L.len sl28 Wt.no rfl rfl ?_
            refine L.bi Wt.no rfl rfl rfl rfl ?_
            refine L.nil ?_
            refine X.seqN ?_
            rcases ifS hm with ⟨hc, hm⟩ | ⟨hc, hm⟩
            · refine E.cT rfl hc ?_
              refine E.skip ?_
              refine X.seqN ?_
              refine E.seq ?_
              refine E.block ?_
              refine E.seq ?_
              obtain ⟨x443, ex443, hm⟩ := bindS hm
              obtain ⟨x447, ex447, hm⟩ := bindS hm
              refine E.draw [[], [], [], [1, 2], [1, 2, 3], [0, 1, 2, 3, 4], [0, 1, 2, 3, 4, 5], [0, 1, 2, 3, 4, 5, 6], []] (fun D e sx => Mv No s422 sx ∧ Sub [(18, .int .i64 st418.1), (17, .slice a339 st418.2.1.length c339), (16, .int .i64 (W ((st318.2.length : Int) + 1))), (13, .pointer (some ⟨b118, 0, none⟩)), (12, .pointer (some ⟨b113, 0, none⟩)), (9, .pointer (some ⟨b58, 0, none⟩))] e ∧ AllP [D 0 = true → (Env.get e 98 = some (.slice (some ⟨b55, 0, none⟩) o104.length x54.length)), D 1 = true → (Env.get e 99 = some (.slice a339 st418.2.1.length c339)), D 2 = true → (Env.get e 100 = some (.int .i64 st418.1)), D 3 = true → (∃ (b444 : Nat) (o444 : Nat), Env.get e 101 = some (.pointer (some ⟨b444, o444, none⟩)) ∧ Mem sx (N + 12) b444 o444 [.int .i64 x443] ∧ Spot a339 (rK .i64).sz (st418.1).toNat b444 o444), D 4 = true → (Env.get e 102 = some (.int .i64 x443)), D 5 = true → (∃ (b448 : Nat) (o448 : Nat) (a449 : Option Addr) (c449 : Nat), Env.get e 103 = some (.pointer (some ⟨b448, o448, none⟩)) ∧ Mem sx 0 b448 o448 [.slice a449 x447.length c449] ∧ RdL (rK .i64) sx a449 c449 x447), D 6 = true → (∃ (a451 : Option Addr) (c451 : Nat), Env.get e 104 = some (.slice a451 x447.length c451) ∧ RdL (rK .i64) sx a451 c451 x447), D 7 = true → (Env.get e 105 = some (.int .i64 (x447.length : Int))), D 8 = true → (Env.get e 106 = some (.int .i64 0))]) (by kernel_rfl) (by kernel_rfl) (by kernel_rfl) ?_ ?_ ?_
              · intro sz mz
                exact ⟨mz, (Sub.cons rfl (Sub.cons rfl (Sub.cons rfl (Sub.cons rfl (Sub.cons rfl (Sub.cons rfl Sub.nil)))))), nofun, nofun, nofun, nofun, nofun, nofun, nofun, nofun, nofun, trivial⟩
              · refine ⟨?_, ?_, ?_, ?_, ?_, ?_, ?_, ?_, ?_, trivial⟩
                · rintro D e s439 ⟨im, ib, i⟩ hk hf ha
                  have bx58 := bx58.mv im no_No
                  have kn : Kn e [(9, .pointer (some ⟨b58, 0, none⟩))] := ⟨(ib 9 _ rfl), trivial⟩
                  refine L.kns _ kn ?_
                  refine L.ld (j := 0) bx58.mem nag65 Wt.no rfl rfl rfl rfl ?_
                  refine L.nil ?_
                  exact X.dk kn ⟨im, Sub.fresh ib rfl, i.u 0 (fun _ => rfl)⟩
                · rintro D e s440 ⟨im, ib, i⟩ hk hf ha
                  have kn : Kn e [(17, .slice a339 st418.2.1.length c339)] := ⟨(ib 17 _ rfl), trivial⟩
                  refine L.kns _ kn ?_
                  refine L.mv Wt.no rfl rfl ?_
                  refine L.nil ?_
                  exact X.dk kn ⟨im, Sub.fresh ib rfl, i.u 1 (fun _ => rfl)⟩
                · rintro D e s441 ⟨im, ib, i⟩ hk hf ha
                  have kn : Kn e [(18, .int .i64 st418.1)] := ⟨(ib 18 _ rfl), trivial⟩
                  refine L.kns _ kn ?_
                  refine L.mv Wt.no rfl rfl ?_
                  refine L.nil ?_
                  exact X.dk kn ⟨im, Sub.fresh ib rfl, i.u 2 (fun _ => rfl)⟩
                · rintro D e s442 ⟨im, ib, i⟩ hk hf ha
                  have g1_ := (i.p 1) (ha.at 1 rfl)
                  have g2_ := (i.p 2) (ha.at 2 rfl)
                  have h339 := h339.mv im no_No no_No
                  have kn : Kn e [(99, .slice a339 st418.2.1.length c339), (100, .int .i64 st418.1)] := ⟨g1_, g2_, trivial⟩
                  refine L.kns _ kn ?_
                  refine L.ir (r := (rK .i64)) sl28 h339 Wt.no rfl rfl ex443 rfl ?_
                  rintro b444 o444 cc444 me444 rd444 sp444
                  obtain rfl := rd444
                  refine L.nil ?_
                  exact X.dk kn ⟨im, Sub.fresh ib rfl, i.u 3 (fun _ => ⟨b444, o444, rfl, me444, sp444⟩)⟩
                · rintro D e s445 ⟨im, ib, i⟩ hk hf ha
                  obtain ⟨b444, o444, g3_, me444, sp444⟩ := (i.p 3) (ha.at 3 rfl)
                  have kn : Kn e [(101, .pointer (some ⟨b444, o444, none⟩))] := ⟨g3_, trivial⟩
                  refine L.kns _ kn ?_
                  refine L.ld (j := 0) me444 nag3 Wt.no rfl rfl rfl rfl ?_
                  refine L.nil ?_
                  exact X.dk kn ⟨im, Sub.fresh ib rfl, i.u 4 (fun _ => rfl)⟩
                · rintro D e s446 ⟨im, ib, i⟩ hk hf ha
                  have g0_ := (i.p 0) (ha.at 0 rfl)
                  have g4_ := (i.p 4) (ha.at 4 rfl)
                  have h55 := h55.mono (im.le no_No)
                  have kn : Kn e [(98, .slice (some ⟨b55, 0, none⟩) o104.length x54.length), (102, .int .i64 x443)] := ⟨g0_, g4_, trivial⟩
                  refine L.kns _ kn ?_
                  refine L.ix (r := (rL (rK .i64))) sl65 h55 Wt.no rfl rfl ex447 rfl ?_
                  rintro b448 o448 cc448 me448 rd448
                  obtain ⟨a449, c449, rfl, h449⟩ := rd448
                  refine L.nil ?_
                  exact X.dk kn ⟨im, Sub.fresh ib rfl, i.u 5 (fun _ => ⟨b448, o448, a449, c449, rfl, me448, h449⟩)⟩
                · rintro D e s450 ⟨im, ib, i⟩ hk hf ha
                  obtain ⟨b448, o448, a449, c449, g5_, me448, h449⟩ := (i.p 5) (ha.at 5 rfl)
                  have kn : Kn e [(103, .pointer (some ⟨b448, o448, none⟩))] := ⟨g5_, trivial⟩
                  refine L.kns _ kn ?_
                  refine L.ld (j := 0) me448 nag28 Wt.no rfl rfl rfl rfl ?_
                  obtain ⟨a451, c451, ea451, ec451, h451⟩ : ∃ a c, a = a449 ∧ c = c449 ∧ RdL (rK .i64) s450 a c x447 := ⟨_, _, rfl, rfl, h449⟩
                  subst ea451 ec451
                  refine L.nil ?_
                  exact X.dk kn ⟨im, Sub.fresh ib rfl, i.u 6 (fun _ => ⟨a451, c451, rfl, h451⟩)⟩
                · rintro D e s452 ⟨im, ib, i⟩ hk hf ha
                  obtain ⟨a451, c451, g6_, h451⟩ := (i.p 6) (ha.at 6 rfl)
                  have kn : Kn e [(104, .slice a451 x447.length c451)] := ⟨g6_, trivial⟩
                  refine L.kns _ kn ?_
                  refine L.len sl28 Wt.no rfl rfl ?_
                  refine L.nil ?_
                  exact X.dk kn ⟨im, Sub.fresh ib rfl, i.u 7 (fun _ => rfl)⟩
                · rintro D e s453 ⟨im, ib, i⟩ hk hf ha
                  refine L.mv Wt.no rfl rfl ?_
                  refine L.nil ?_
                  exact X.dr (s := s453) (e' := (106, .int .i64 0) :: e) (Sub.both (Sub.refl)) ⟨im, Sub.fresh ib rfl, i.u 8 (fun _ => rfl)⟩
              · rintro D e s454 hD ⟨im, ib, i⟩
                obtain ⟨a451, c451, g6_, h451⟩ := (i.p 6) (hD 6 rfl)
                have g7_ := (i.p 7) (hD 7 rfl)
                have g8_ := (i.p 8) (hD 8 rfl)
                have h339 := h339.mv im no_No no_No
                have bx118 := bx118.mv im no_No
                have h128 := h128.mv im no_No no_No
                have bx113 := bx113.mv im no_No
                have h110 := h110.mv im no_No no_No
                have bx58 := bx58.mv im no_No
                have h55 := h55.mono (im.le no_No)
                have mk0 := mk0.mv im no_No
                have h324 := h324.mono (im.le no_No)
                have rc323 := rc323.mv im no_No no_No
                have m0 := m0.trans im.no
                refine X.sub (e' := [(106, .int .i64 0), (105, .int .i64 (x447.length : Int)), (104, .slice a451 x447.length c451), (18, .int .i64 st418.1), (17, .slice a339 st418.2.1.length c339), (16, .int .i64 (W ((st318.2.length : Int) + 1))), (13, .pointer (some ⟨b118, 0, none⟩)), (12, .pointer (some ⟨b113, 0, none⟩)), (9, .pointer (some ⟨b58, 0, none⟩))]) ?_ (Sub.cons g8_ (Sub.cons g7_ (Sub.cons g6_ (Sub.cons (ib 18 _ rfl) (Sub.cons (ib 17 _ rfl) (Sub.cons (ib 16 _ rfl) (Sub.cons (ib 13 _ rfl) (Sub.cons (ib 12 _ rfl) (Sub.cons (ib 9 _ rfl) Sub.nil)))))))))
                refine X.seqN ?_
                refine E.block ?_
                obtain ⟨o484, eo484, hm⟩ := bindS hm
                refine E.cut (x := .exit 8) (fun e w => ∃ (s489 : Sig) (a486 : Option Addr) (c486 : Nat), Mv (Up N No) s s489 ∧ RowT (rK .i64) s489 (N + 12) 3 a486 c486 o484.1 ∧ RdL (rL (rK .i64)) s489 (some ⟨b55, 0, none⟩) x54.length o104 ∧ RowT (rK .i64) s489 (N + 8) 3 (some ⟨b110, 0, none⟩) x109.length o484.2 ∧ RowT (rL (rK .i64)) s489 (N + 13) 28 a128 c128 st318.2 ∧ Lf s321 s489 ∧ Mks s489 (N + 0) ds ∧ Bx s489 (N + 6) b58 #[.slice (some ⟨b55, 0, none⟩) o104.length x54.length] 65 ∧ Bx s489 (N + 9) b113 #[.slice (some ⟨b110, 0, none⟩) o484.2.length x109.length] 28 ∧ Bx s489 (N + 10) b118 #[.slice a128 st318.2.length c128] 65 ∧ Rc s489 (N + 11) (N + 0) D318 { r318 with state := .busy } ∧ e = [(18, .int .i64 st418.1), (17, .slice a486 o484.1.length c486), (16, .int .i64 (W ((st318.2.length : Int) + 1))), (13, .pointer (some ⟨b118, 0, none⟩)), (12, .pointer (some ⟨b113, 0, none⟩)), (9, .pointer (some ⟨b58, 0, none⟩))] ∧ w = s489.w) ?_ ?_
                · rintro _ _ ⟨s489, a486, c486, m0, h486, h55, h110, h128, h324, mk0, bx58, bx113, bx118, rc323, rfl, rfl⟩
                  refine X.blkE ?_
                  refine X.blkN ?_
                  refine X.seqN ?_
                  refine E.reg ?_
                  refine L.mv Wt.no rfl rfl ?_
                  refine L.bi Wt.no rfl rfl rfl rfl ?_
                  refine L.as Wt.no rfl rfl ?_
                  refine L.nil ?_
                  exact X.sub (ih418 _ (Option.some.inj hm).symm _ _ ⟨s489, a486, c486, m0, h486, h55, h110, h128, h324, mk0, bx58, bx113, bx118, rc323, rfl, rfl⟩) (Sub.cons rfl (Sub.cons rfl (Sub.cons rfl (Sub.cons rfl (Sub.cons rfl (Sub.cons rfl Sub.nil))))))
                intro K490
                refine E.iter (fun (st484 : Int × List Int × List Int) (e : List (Nat × Value)) (w : World) => ∃ (s488 : Sig) (a457 : Option Addr) (c457 : Nat), Mv (Up N No) s s488 ∧ RdL (rK .i64) s488 a451 c451 x447 ∧ RowT (rK .i64) s488 (N + 12) 3 a457 c457 st484.2.1 ∧ RdL (rL (rK .i64)) s488 (some ⟨b55, 0, none⟩) x54.length o104 ∧ RowT (rK .i64) s488 (N + 8) 3 (some ⟨b110, 0, none⟩) x109.length st484.2.2 ∧ RowT (rL (rK .i64)) s488 (N + 13) 28 a128 c128 st318.2 ∧ Lf s321 s488 ∧ Mks s488 (N + 0) ds ∧ Bx s488 (N + 6) b58 #[.slice (some ⟨b55, 0, none⟩) o104.length x54.length] 65 ∧ Bx s488 (N + 9) b113 #[.slice (some ⟨b110, 0, none⟩) st484.2.2.length x109.length] 28 ∧ Bx s488 (N + 10) b118 #[.slice a128 st318.2.length c128] 65 ∧ Rc s488 (N + 11) (N + 0) D318 { r318 with state := .busy } ∧ e = [(106, .int .i64 st484.1), (105, .int .i64 (x447.length : Int)), (104, .slice a451 x447.length c451), (18, .int .i64 st418.1), (17, .slice a457 st484.2.1.length c457), (16, .int .i64 (W ((st318.2.length : Int) + 1))), (13, .pointer (some ⟨b118, 0, none⟩)), (12, .pointer (some ⟨b113, 0, none⟩)), (9, .pointer (some ⟨b58, 0, none⟩))] ∧ w = s488.w) eo484 ⟨s454, a339, c339, m0, h451, h339, h55, h110, h128, h324, mk0, bx58, bx113, bx118, rc323, rfl, rfl⟩ (Sub.cons rfl (Sub.cons rfl (Sub.cons rfl (Sub.cons rfl (Sub.cons rfl (Sub.cons rfl (Sub.cons rfl (Sub.cons rfl (Sub.cons rfl Sub.nil))))))))) ?_
                rintro st484 res484 hm ih484 ho484 _ _ ⟨s488, a457, c457, m0, h451, h457, h55, h110, h128, h324, mk0, bx58, bx113, bx118, rc323, rfl, rfl⟩
                unfold m_reach_Components_l5 at hm
                refine E.seq ?_
                refine E.reg ?_
                refine L.bi Wt.no rfl rfl rfl rfl ?_
                refine L.nil ?_
                refine X.seqN ?_
                refine E.seq ?_
                rcases ifS hm with ⟨hc, hm⟩ | ⟨hc, hm⟩
                · refine E.cT rfl hc ?_
                  refine E.skip ?_
                  refine X.seqN ?_
                  refine E.seqJ (fun e w => ∃ (s494 : Sig) (l491 : List Int) (l493 : List Int) (a492 : Option Addr) (c492 : Nat), m_reach_Components_j1 st484 l491 l493 = some res484 ∧ Mv (Up N No) s s494 ∧ RowT (rK .i64) s494 (N + 12) 3 a492 c492 l491 ∧ RdL (rK .i64) s494 a451 c451 x447 ∧ RdL (rL (rK .i64)) s494 (some ⟨b55, 0, none⟩) x54.length o104 ∧ RowT (rK .i64) s494 (N + 8) 3 (some ⟨b110, 0, none⟩) x109.length l493 ∧ RowT (rL (rK .i64)) s494 (N + 13) 28 a128 c128 st318.2 ∧ Lf s321 s494 ∧ Mks s494 (N + 0) ds ∧ Bx s494 (N + 6) b58 #[.slice (some ⟨b55, 0, none⟩) o104.length x54.length] 65 ∧ Bx s494 (N + 9) b113 #[.slice (some ⟨b110, 0, none⟩) l493.length x109.length] 28 ∧ Bx s494 (N + 10) b118 #[.slice a128 st318.2.length c128] 65 ∧ Rc s494 (N + 11) (N + 0) D318 { r318 with state := .busy } ∧ e = [(17, .slice a492 l491.length c492), (106, .int .i64 st484.1), (105, .int .i64 (x447.length : Int)), (104, .slice a451 x447.length c451), (18, .int .i64 st418.1), (16, .int .i64 (W ((st318.2.length : Int) + 1))), (13, .pointer (some ⟨b118, 0, none⟩)), (12, .pointer (some ⟨b113, 0, none⟩)), (9, .pointer (some ⟨b58, 0, none⟩))] ∧ w = s494.w) ?_ ?_
                  · rintro _ _ ⟨s494, l491, l493, a492, c492, hm, m0, h492, h451, h55, h110, h128, h324, mk0, bx58, bx113, bx118, rc323, rfl, rfl⟩
                    unfold m_reach_Components_j1 at hm
                    refine E.reg ?_
                    refine L.bi Wt.no rfl rfl rfl rfl ?_
                    refine L.mv Wt.no rfl rfl ?_
                    refine L.nil ?_
                    exact X.sub (ih484 _ (Option.some.inj hm).symm _ _ ⟨s494, a492, c492, m0, h451, h492, h55, h110, h128, h324, mk0, bx58, bx113, bx118, rc323, rfl, rfl⟩) (Sub.cons rfl (Sub.cons rfl (Sub.cons rfl (Sub.cons rfl (Sub.cons rfl (Sub.cons rfl (Sub.cons rfl (Sub.cons rfl (Sub.cons rfl Sub.nil)))))))))
                  · intro Jj495
                    refine E.block ?_
                    refine E.seq ?_
                    refine E.reg ?_
                    obtain ⟨x496, ex496, hm⟩ := bindS hm
                    refine L.ix (r := (rK .i64)) sl28 h451 Wt.no rfl rfl ex496 rfl ?_
                    rintro b497 o497 cc497 me497 rd497
                    obtain rfl := rd497
                    refine L.ld (j := 0) me497 nag3 Wt.no rfl rfl rfl rfl ?_
                    refine L.as Wt.no rfl rfl ?_
                    refine L.nil ?_
                    refine X.seqN ?_
                    refine E.seq ?_
                    refine E.reg ?_
                    refine L.ld (j := 0) bx113.mem nag28 Wt.no rfl rfl rfl rfl ?_
                    refine L.mv Wt.no rfl rfl ?_
                    obtain ⟨x498, ex498, hm⟩ := bindS hm
                    refine L.ir (r := (rK .i64)) sl28 h110 Wt.no rfl rfl ex498 rfl ?_
                    rintro b499 o499 cc499 me499 rd499 sp499
                    obtain rfl := rd499
                    refine L.ld (j := 0) me499 nag3 Wt.no rfl rfl rfl rfl ?_
                    refine L.bi Wt.no rfl rfl rfl rfl ?_
                    refine L.nil ?_
                    refine X.seqN ?_
                    rcases ifS hm with ⟨hc, hm⟩ | ⟨hc, hm⟩
                    · refine E.cT rfl hc ?_
                      refine E.seq ?_
                      refine E.reg ?_
                      refine L.ld (j := 0) bx113.mem nag28 Wt.no rfl rfl rfl rfl ?_
                      refine L.mv Wt.no rfl rfl ?_
                      refine L.mv Wt.no rfl rfl ?_
                      obtain ⟨x500, ex500, hm⟩ := bindS hm
                      refine L.ir (r := (rK .i64)) sl28 h110 Wt.no rfl rfl ex500 rfl ?_
                      rintro b501 o501 cc501 me501 rd501 sp501
                      obtain rfl := rd501
                      obtain ⟨x502, ex502, hm⟩ := bindS hm
                      have elx502 := upd_len ex502
                      refine L.su (fo := 0) (c := [.int .i64 (W ((st318.2.length : Int) + 1))]) (z := W ((st318.2.length : Int) + 1)) h110 sp501 ex500 ex502 (tgp hN) nag3.sz Wt.no rfl rfl rfl rfl rfl rfl (fun c0 hc0 => by obtain rfl := hc0; exact rfl) ?_
                      intro s503 m504 h110
                      replace m0 := m0.trans (m504.one up)
                      replace h451 := h451.mono (m504.le (tg0 hN))
                      replace h457 := h457.mv m504 (tgN (by decide)) (tg0 hN)
                      replace mk0 := mk0.mv m504 (tgN (by decide))
                      replace h324 := h324.mono (m504.le (tg0 hN))
                      replace rc323 := rc323.mv m504 (tgN (by decide)) (tgN (by decide))
                      replace bx58 := bx58.mv m504 (tgN (by decide))
                      replace h55 := h55.mono (m504.le (tg0 hN))
                      replace bx113 := bx113.mv m504 (tgN (by decide))
                      replace bx118 := bx118.mv m504 (tgN (by decide))
                      replace h128 := h128.mv m504 (tgN (by decide)) (tg0 hN)
                      replace bx113 : Bx s503 (N + 9) b113 #[.slice (some ⟨b110, 0, none⟩) x502.length x109.length] 28 := by rw [elx502]; exact bx113
                      refine L.nil ?_
                      refine X.seqN ?_
                      refine E.reg ?_
                      refine L.mv Wt.no rfl rfl ?_
                      refine L.mv Wt.no rfl rfl ?_
                      refine L.bsE (k := 1) (cs := [.int .i64 x496]) 0 bs28 (Nat.le_of_ble_eq_true rfl) Wt.no rfl rfl rfl rfl ?_
                      intro b505 s506 m507 bx505
                      replace m0 := m0.trans m507.no
                      replace h451 := h451.mono (m507.le no_No)
                      replace h457 := h457.mv m507 no_No no_No
                      replace mk0 := mk0.mv m507 no_No
                      replace h324 := h324.mono (m507.le no_No)
                      replace rc323 := rc323.mv m507 no_No no_No
                      replace bx58 := bx58.mv m507 no_No
                      replace h55 := h55.mono (m507.le no_No)
                      replace bx113 := bx113.mv m507 no_No
                      replace h110 := h110.mv m507 no_No no_No
                      replace bx118 := bx118.mv m507 no_No
                      replace h128 := h128.mv m507 no_No no_No
                      have h505 := Bx.rdL (r := (rK .i64)) (xs := ([x496] : List Int)) bx505 ⟨[.int .i64 x496], _, rfl, rfl, rfl⟩ (Nat.le_of_ble_eq_true rfl)
                      obtain ⟨x508, ex508, hm⟩ := bindS hm
                      refine L.ap (r := (rK .i64)) Try.underlying28 el3 rfl (tgp hN) h457 h505.wk Wt.no rfl rfl ex508 rfl ?_
                      intro a509 c509 s510 m511 h509
                      replace m0 := m0.trans (m511.one up)
                      replace h451 := h451.mono (m511.le (tg0 hN))
                      replace mk0 := mk0.mv m511 (tgN (by decide))
                      replace h324 := h324.mono (m511.le (tg0 hN))
                      replace rc323 := rc323.mv m511 (tgN (by decide)) (tgN (by decide))
                      replace bx58 := bx58.mv m511 (tgN (by decide))
                      replace h55 := h55.mono (m511.le (tg0 hN))
                      replace bx113 := bx113.mv m511 (tgN (by decide))
                      replace h110 := h110.mv m511 (tgN (by decide)) (tg0 hN)
                      replace bx118 := bx118.mv m511 (tgN (by decide))
                      replace h128 := h128.mv m511 (tgN (by decide)) (tg0 hN)
                      refine L.as Wt.no rfl rfl ?_
                      refine L.nil ?_
                      refine X.blkN ?_
                      exact X.sub (Jj495 _ _ ⟨s510, x508, x502, a509, c509, hm, m0, h509, h451, h55, h110, h128, h324, mk0, bx58, bx113, bx118, rc323, rfl, rfl⟩) (Sub.cons rfl (Sub.cons rfl (Sub.cons rfl (Sub.cons rfl (Sub.cons rfl (Sub.cons rfl (Sub.cons rfl (Sub.cons rfl (Sub.cons rfl Sub.nil)))))))))
                    · refine E.cF rfl hc ?_
                      refine E.skip ?_
                      refine X.blkN ?_
                      exact X.sub (Jj495 _ _ ⟨s488, st484.2.1, st484.2.2, a457, c457, hm, m0, h457, h451, h55, h110, h128, h324, mk0, bx58, bx113, bx118, rc323, rfl, rfl⟩) (Sub.cons rfl (Sub.cons rfl (Sub.cons rfl (Sub.cons rfl (Sub.cons rfl (Sub.cons rfl (Sub.cons rfl (Sub.cons rfl (Sub.cons rfl Sub.nil)))))))))
                · refine E.cF rfl hc ?_
                  refine E.exit ?_
                  refine X.seqX ?_
                  refine X.seqX ?_
                  have hx := ho484 _ (Option.some.inj hm).symm
                  subst hx
                  exact X.sub (K490 _ _ ⟨s488, a457, c457, m0, h457, h55, h110, h128, h324, mk0, bx58, bx113, bx118, rc323, rfl, rfl⟩) (Sub.cons rfl (Sub.cons rfl (Sub.cons rfl (Sub.cons rfl (Sub.cons rfl (Sub.cons rfl Sub.nil))))))
            · refine E.cF rfl hc ?_
              refine E.exit ?_
              refine X.seqX ?_
              refine X.seqX ?_
              have hx := ho418 _ (Option.some.inj hm).symm
              subst hx
              exact X.sub (K438 _ _ ⟨s422, a339, c339, m0, h339, h55, h110, h128, h324, mk0, bx58, bx113, bx118, rc323, rfl, rfl⟩) (Sub.cons rfl (Sub.cons rfl (Sub.cons rfl (Sub.cons rfl Sub.nil))))
        · rintro D318 s319 s321 hD318 ⟨st318, a128, c128, hj318, m0, h55, h110, h128, mk0, bx58, bx113, bx118⟩ m322 mk318
          have hx := (rng_end hj318).symm
          subst hx
          replace m0 := m0.trans (m322.one up)
          replace mk0 := mk0.mv m322 (tgN (by decide))
          replace bx118 := bx118.mv m322 (tgN (by decide))
          replace h128 := h128.mv m322 (tgN (by decide)) (tg0 hN)
          replace bx113 := bx113.mv m322 (tgN (by decide))
          replace h110 := h110.mv m322 (tgN (by decide)) (tg0 hN)
          replace bx58 := bx58.mv m322 (tgN (by decide))
          replace h55 := h55.mono (m322.le (tg0 hN))
          replace mk0 := mk0.cons mko318 hD318 mk318
          refine X.blkN ?_
          refine X.seqN ?_
          refine E.seq ?_
          refine E.reg ?_
          refine L.ld (j := 0) bx118.mem nag65 Wt.no rfl rfl rfl rfl ?_
          obtain ⟨r512, er512, hm⟩ := bindS hm
          refine L.ca (vs := [.slice a128 o318.2.length c128, (.func (.func 76) #[] #[])]) cf75 rfl rfl Wt.no rfl (m_slices_SortFunc_int_c (s := s321) (p0 := o318.2) (t0 := (N + 13)) (tpos hN) h128 er512) rfl ?_
          rintro _ s513 m514 ⟨rfl, h128⟩
          obtain ⟨_, qz515, hm⟩ := bindS hm
          have elz515 := len_some qz515
          replace m0 := m0.trans (m514.one up)
          replace mk0 := mk0.mv m514 (tgN (by decide))
          replace bx118 := bx118.mv m514 (tgN (by decide))
          replace bx118 : Bx s513 (N + 10) b118 #[.slice a128 r512.length c128] 65 := by rw [elz515]; exact bx118
          refine L.nil ?_
          refine X.seqN ?_
          refine E.seq ?_
          refine E.reg ?_
          refine L.ld (j := 0) bx118.mem nag65 Wt.no rfl rfl rfl rfl ?_
          refine L.as Wt.no rfl rfl ?_
          refine L.as Wt.no rfl rfl ?_
          refine L.nil ?_
          refine X.seqN ?_
          refine E.ret ?_
          refine X.lv (.inl rfl) mk0 fun s516 m517 => ?_
          replace m0 := m0.trans (m517.one up)
          replace h128 := h128.mv m517 (tgN (by decide)) (tg0 hN)
          obtain rfl := Option.some.inj hm
          exact X.rt (.inl rfl) Try.results40 (Rs.tmp rfl (Rs.tmp rfl Rs.nil)) rfl ⟨_, (s516).ren N (fun k => cond (Nat.beq k 13) u0 (0)), rfl, rfl, m0.ren hNb, ⟨a128, c128, rfl, (h128.ren hN)⟩⟩
      intro K518
      refine EiterM (fun (st104 : Int × List (List Int)) (e : List (Nat × Value)) (w : World) (ds : List Deferred) => ∃ (s106 : Sig), Mv (Up N No) s s106 ∧ RdL (rP (rK .i64) (rP (rK .i64) (rK .i64))) s106 a3 c3 p0.2.2.2 ∧ RowT (rK .i64) s106 (N + 4) 3 a51 c51 o49 ∧ RdL (rK .i64) s106 a1 c1 p0.1 ∧ RdL (rK .i64) s106 a2 c2 p0.2.2.1 ∧ RowR (rK .i64) s106 N 5 (N + 5) 28 3 (some ⟨b55, 0, none⟩) x54.length x54.length st104.2 none ∧ Mks s106 (N + 0) ds ∧ Bx s106 (N + 1) b5 #[.slice a1 p0.1.length c1, .int .i64 p0.2.1, .slice a2 p0.2.2.1.length c2, .slice a3 p0.2.2.2.length c3] 31 ∧ Bx s106 (N + 6) b58 #[.slice (some ⟨b55, 0, none⟩) x54.length x54.length] 65 ∧ e = [(53, .int .i64 st104.1), (52, .int .i64 (p0.2.2.2.length : Int)), (51, .slice a3 p0.2.2.2.length c3), (9, .pointer (some ⟨b58, 0, none⟩)), (6, .slice a51 o49.length c51), (1, .pointer (some ⟨b5, 0, none⟩))] ∧ w = s106.w) eo104 ⟨s61, m0, h3, h51, h1, h2, mp55, mk0, bx5, bx58, rfl, rfl⟩ (Sub.cons rfl (Sub.cons rfl (Sub.cons rfl (Sub.cons rfl (Sub.cons rfl (Sub.cons rfl Sub.nil)))))) ?_
      rintro st104 res104 hm ih104 ho104 _ _ ds ⟨s106, m0, h3, h51, h1, h2, mp55, mk0, bx5, bx58, rfl, rfl⟩
      unfold m_reach_Components_l2 at hm
      refine E.seq ?_
      refine E.reg ?_
      refine L.bi Wt.no rfl rfl rfl rfl ?_
      refine L.nil ?_
      refine X.seqN ?_
      refine E.seq ?_
      rcases ifS hm with ⟨hc, hm⟩ | ⟨hc, hm⟩
      · refine E.cT rfl hc ?_
        refine E.skip ?_
        refine X.seqN ?_
        refine E.seq ?_
        refine E.block ?_
        refine E.seq ?_
        refine E.reg ?_
        obtain ⟨x519, ex519, hm⟩ := bindS hm
        refine L.ix (r := (rP (rK .i64) (rP (rK .i64) (rK .i64)))) sl29 h3 Wt.no rfl rfl ex519 rfl ?_
        rintro b520 o520 cc520 me520 rd520
        obtain ⟨_, _, rfl, rfl, ⟨_, _, rfl, rfl, rfl⟩⟩ := rd520
        refine L.lg (j := 0) (cs := [.int .i64 x519.1, .int .i64 x519.2.1, .int .i64 x519.2.2]) me520 ag45 Wt.no rfl rfl rfl rfl rfl ?_
        refine L.al (N + 7) zz45 rfl Wt.no rfl ?_
        intro b521 s522 m523 bx521
        replace m0 := m0.trans m523.no
        replace h51 := h51.mv m523 no_No no_No
        replace h3 := h3.mono (m523.le no_No)
        replace mk0 := mk0.mv m523 no_No
        replace bx5 := bx5.mv m523 no_No
        replace h1 := h1.mono (m523.le no_No)
        replace h2 := h2.mono (m523.le no_No)
        replace bx58 := bx58.mv m523 no_No
        replace mp55 := mp55.mv m523 no_No no_No (fun _ _ => no_No)
        refine L.st (c := [.int .i64 x519.1, .int .i64 x519.2.1, .int .i64 x519.2.2]) (cs' := #[.int .i64 x519.1, .int .i64 x519.2.1, .int .i64 x519.2.2]) bx521 ag45.sz Wt.no rfl rfl rfl rfl rfl (Nat.le_of_ble_eq_true rfl) rfl ?_
        intro s524 m525 bx521
        replace m0 := m0.trans (m525.one up)
        replace h3 := h3.mono (m525.le (tg0 hN))
        replace h51 := h51.mv m525 (tgN (by decide)) (tg0 hN)
        replace mk0 := mk0.mv m525 (tgN (by decide))
        replace bx5 := bx5.mv m525 (tgN (by decide))
        replace h1 := h1.mono (m525.le (tg0 hN))
        replace h2 := h2.mono (m525.le (tg0 hN))
        replace bx58 := bx58.mv m525 (tgN (by decide))
        replace mp55 := mp55.mv m525 (tgN (by decide)) (tg0 hN) (fun i ho => (fmM (by decide)))
        refine L.nil ?_
        refine X.seqN ?_
        obtain ⟨x533, ex533, hm⟩ := bindS hm
        obtain ⟨x544, ex544, hm⟩ := bindS hm
        obtain ⟨x549, ex549, hm⟩ := bindS hm
        obtain ⟨x552, ex552, hm⟩ := bindS hm
        refine E.draw [[], [], [1], [], [], [4], [3, 4, 5], [3, 4, 5, 6], [], [8], [8, 9], [3, 4, 5, 6, 7, 8, 9, 10], [0, 1, 2, 3, 4, 5, 6, 7, 8, 9, 10, 11], [0, 1, 2, 3, 4, 5, 6, 7, 8, 9, 10, 11, 12]] (fun D e sx => Mv (fun t => t = (fam N 5 (x519.2.2.toNat)) ∨ t = (N + 5)) s524 sx ∧ Sub [(11, .pointer (some ⟨b521, 0, none⟩)), (53, .int .i64 st104.1), (52, .int .i64 (p0.2.2.2.length : Int)), (51, .slice a3 p0.2.2.2.length c3), (9, .pointer (some ⟨b58, 0, none⟩)), (6, .slice a51 o49.length c51), (1, .pointer (some ⟨b5, 0, none⟩))] e ∧ AllP [D 0 = true → (Env.get e 57 = some (.slice (some ⟨b55, 0, none⟩) x54.length x54.length)), D 1 = true → (Env.get e 58 = some (.pointer (some ⟨b521, 2, none⟩))), D 2 = true → (Env.get e 59 = some (.int .i64 x519.2.2)), D 3 = true → (Env.get e 60 = some (.slice (some ⟨b55, 0, none⟩) x54.length x54.length)), D 4 = true → (Env.get e 61 = some (.pointer (some ⟨b521, 2, none⟩))), D 5 = true → (Env.get e 62 = some (.int .i64 x519.2.2)), D 6 = true → (∃ (b534 : Nat) (o534 : Nat), Env.get e 63 = some (.pointer (some ⟨b534, o534, none⟩)) ∧ Spot (some ⟨b55, 0, none⟩) 1 (x519.2.2).toNat b534 o534), D 7 = true → (∃ (a536 : Option Addr) (c536 : Nat), Env.get e 64 = some (.slice a536 x533.length c536)), D 8 = true → (Env.get e 65 = some (.pointer (some ⟨b521, 0, none⟩))), D 9 = true → (Env.get e 66 = some (.int .i64 x519.1)), D 10 = true → (∃ (b540 : Nat), Env.get e 67 = some (.slice (some ⟨b540, 0, none⟩) ([x519.1] : List Int).length (([x519.1] : List Int).length)) ∧ RdL (rK .i64) sx (some ⟨b540, 0, none⟩) (([x519.1] : List Int).length) ([x519.1] : List Int)), D 11 = true → (∃ (a545 : Option Addr) (c545 : Nat), Env.get e 68 = some (.slice a545 x544.length c545)), D 12 = true → (∃ (b550 : Nat) (o550 : Nat), Env.get e 69 = some (.pointer (some ⟨b550, o550, none⟩)) ∧ Spot (some ⟨b55, 0, none⟩) 1 (x519.2.2).toNat b550 o550), D 7 = false → RowR (rK .i64) sx N 5 (N + 5) 28 3 (some ⟨b55, 0, none⟩) x54.length x54.length st104.2 none, D 7 = true → D 11 = false → ∀ (a536 : Option Addr) (c536 : Nat), Env.get e 64 = some (.slice a536 x533.length c536) → RowT (rK .i64) sx (fam N 5 (x519.2.2.toNat)) 3 a536 c536 x533 ∧ RowR (rK .i64) sx N 5 (N + 5) 28 3 (some ⟨b55, 0, none⟩) x54.length x54.length st104.2 (some x519.2.2.toNat), D 11 = true → D 13 = false → ∀ (a545 : Option Addr) (c545 : Nat), Env.get e 68 = some (.slice a545 x544.length c545) → RowT (rK .i64) sx (fam N 5 (x519.2.2.toNat)) 3 a545 c545 x544 ∧ RowR (rK .i64) sx N 5 (N + 5) 28 3 (some ⟨b55, 0, none⟩) x54.length x54.length st104.2 (some x519.2.2.toNat), D 13 = true → RowR (rK .i64) sx N 5 (N + 5) 28 3 (some ⟨b55, 0, none⟩) x54.length x54.length x552 none]) (by kernel_rfl) (by kernel_rfl) (by kernel_rfl) ?_ ?_ ?_
        · intro sz mz
          exact ⟨mz.no, (Sub.cons rfl (Sub.cons rfl (Sub.cons rfl (Sub.cons rfl (Sub.cons rfl (Sub.cons rfl (Sub.cons rfl Sub.nil))))))), nofun, nofun, nofun, nofun, nofun, nofun, nofun, nofun, nofun, nofun, nofun, nofun, nofun, fun _ => mp55.mv mz no_No no_No (fun _ _ => no_No), nofun, nofun, nofun, trivial⟩
        · refine ⟨?_, ?_, ?_, ?_, ?_, ?_, ?_, ?_, ?_, ?_, ?_, ?_, ?_, ?_, trivial⟩
          · rintro D e s526 ⟨im, ib, i⟩ hk hf ha
            have bx58 := bx58.mv im (nor (fmN (by decide)) (tgN (by decide)))
            have kn : Kn e [(9, .pointer (some ⟨b58, 0, none⟩))] := ⟨(ib 9 _ rfl), trivial⟩
            refine L.kns _ kn ?_
            refine L.ld (j := 0) bx58.mem nag65 Wt.no rfl rfl rfl rfl ?_
            refine L.nil ?_
            exact X.dk kn ⟨im, Sub.fresh ib rfl, i.u 0 (fun _ => rfl)⟩
          · rintro D e s527 ⟨im, ib, i⟩ hk hf ha
            have kn : Kn e [(11, .pointer (some ⟨b521, 0, none⟩))] := ⟨(ib 11 _ rfl), trivial⟩
            refine L.kns _ kn ?_
            refine L.fa fa45_2 Wt.no rfl rfl ?_
            refine L.nil ?_
            exact X.dk kn ⟨im, Sub.fresh ib rfl, i.u 1 (fun _ => rfl)⟩
          · rintro D e s528 ⟨im, ib, i⟩ hk hf ha
            have g1_ := (i.p 1) (ha.at 1 rfl)
            have bx521 := bx521.mv im (nor (fmN (by decide)) (tgN (by decide)))
            have kn : Kn e [(58, .pointer (some ⟨b521, 2, none⟩))] := ⟨g1_, trivial⟩
            refine L.kns _ kn ?_
            refine L.ld (j := 2) bx521.mem nag3 Wt.no rfl rfl rfl rfl ?_
            refine L.nil ?_
            exact X.dk kn ⟨im, Sub.fresh ib rfl, i.u 2 (fun _ => rfl)⟩
          · rintro D e s529 ⟨im, ib, i⟩ hk hf ha
            have bx58 := bx58.mv im (nor (fmN (by decide)) (tgN (by decide)))
            have kn : Kn e [(9, .pointer (some ⟨b58, 0, none⟩))] := ⟨(ib 9 _ rfl), trivial⟩
            refine L.kns _ kn ?_
            refine L.ld (j := 0) bx58.mem nag65 Wt.no rfl rfl rfl rfl ?_
            refine L.nil ?_
            exact X.dk kn ⟨im, Sub.fresh ib rfl, i.u 3 (fun _ => rfl)⟩
          · rintro D e s530 ⟨im, ib, i⟩ hk hf ha
            have kn : Kn e [(11, .pointer (some ⟨b521, 0, none⟩))] := ⟨(ib 11 _ rfl), trivial⟩
            refine L.kns _ kn ?_
            refine L.fa fa45_2 Wt.no rfl rfl ?_
            refine L.nil ?_
            exact X.dk kn ⟨im, Sub.fresh ib rfl, i.u 4 (fun _ => rfl)⟩
          · rintro D e s531 ⟨im, ib, i⟩ hk hf ha
            have g4_ := (i.p 4) (ha.at 4 rfl)
            have bx521 := bx521.mv im (nor (fmN (by decide)) (tgN (by decide)))
            have kn : Kn e [(61, .pointer (some ⟨b521, 2, none⟩))] := ⟨g4_, trivial⟩
            refine L.kns _ kn ?_
            refine L.ld (j := 2) bx521.mem nag3 Wt.no rfl rfl rfl rfl ?_
            refine L.nil ?_
            exact X.dk kn ⟨im, Sub.fresh ib rfl, i.u 5 (fun _ => rfl)⟩
          · rintro D e s532 ⟨im, ib, i⟩ hk hf ha
            have g3_ := (i.p 3) (ha.at 3 rfl)
            have g5_ := (i.p 5) (ha.at 5 rfl)
            obtain mp55 := (i.p 13) (hf 7 (Nat.le_of_ble_eq_true rfl) rfl)
            have kn : Kn e [(60, .slice (some ⟨b55, 0, none⟩) x54.length x54.length), (62, .int .i64 x519.2.2)] := ⟨g3_, g5_, trivial⟩
            refine L.kns _ kn ?_
            refine L.irR sl65 mp55 Wt.no rfl rfl ex533 rfl ?_
            intro b534 o534 sp534
            refine L.nil ?_
            exact X.dk kn ⟨im, Sub.fresh ib rfl, i.u 6 (fun _ => ⟨b534, o534, rfl, sp534⟩)⟩
          · rintro D e s535 ⟨im, ib, i⟩ hk hf ha
            obtain ⟨b534, o534, g6_, sp534⟩ := (i.p 6) (ha.at 6 rfl)
            obtain mp55 := (i.p 13) hk
            have kn : Kn e [(63, .pointer (some ⟨b534, o534, none⟩))] := ⟨g6_, trivial⟩
            refine L.kns _ kn ?_
            refine L.ldR mp55 sp534 ex533 nag28 Wt.no rfl rfl ?_
            intro a536 c536 h536 mp55
            refine L.nil ?_
            exact X.dk kn ⟨im, Sub.fresh ib rfl, ((i.u 7 (fun _ => ⟨a536, c536, rfl⟩)).u 13 (fun z => Bool.noConfusion (show true = false from z))).u 14 (fun _ _ _ _ q7 => by cases (show some (.slice a536 x533.length c536 : Value) = some _ from q7); exact ⟨h536, mp55⟩)⟩
          · rintro D e s537 ⟨im, ib, i⟩ hk hf ha
            have kn : Kn e [(11, .pointer (some ⟨b521, 0, none⟩))] := ⟨(ib 11 _ rfl), trivial⟩
            refine L.kns _ kn ?_
            refine L.fa fa45_0 Wt.no rfl rfl ?_
            refine L.nil ?_
            exact X.dk kn ⟨im, Sub.fresh ib rfl, i.u 8 (fun _ => rfl)⟩
          · rintro D e s538 ⟨im, ib, i⟩ hk hf ha
            have g8_ := (i.p 8) (ha.at 8 rfl)
            have bx521 := bx521.mv im (nor (fmN (by decide)) (tgN (by decide)))
            have kn : Kn e [(65, .pointer (some ⟨b521, 0, none⟩))] := ⟨g8_, trivial⟩
            refine L.kns _ kn ?_
            refine L.ld (j := 0) bx521.mem nag3 Wt.no rfl rfl rfl rfl ?_
            refine L.nil ?_
            exact X.dk kn ⟨im, Sub.fresh ib rfl, i.u 9 (fun _ => rfl)⟩
          · rintro D e s539 ⟨im, ib, i⟩ hk hf ha
            have g9_ := (i.p 9) (ha.at 9 rfl)
            have kn : Kn e [(66, .int .i64 x519.1)] := ⟨g9_, trivial⟩
            refine L.kns _ kn ?_
            refine L.bsE (k := 1) (cs := [.int .i64 x519.1]) 0 bs28 (Nat.le_of_ble_eq_true rfl) Wt.no rfl rfl rfl rfl ?_
            intro b540 s541 m542 bx540
            have h540 := Bx.rdL (r := (rK .i64)) (xs := ([x519.1] : List Int)) bx540 ⟨[.int .i64 x519.1], _, rfl, rfl, rfl⟩ (Nat.le_of_ble_eq_true rfl)
            refine L.nil ?_
            exact X.dk kn ⟨im.trans m542.no, Sub.fresh ib rfl, ((((((i.u 6 (fun z => let ⟨b534, o534, q, sp534⟩ := (i.p 6) z; ⟨b534, o534, q, sp534⟩)).u 10 (fun _ => ⟨b540, rfl, h540⟩)).u 12 (fun z => let ⟨b550, o550, q, sp550⟩ := (i.p 12) z; ⟨b550, o550, q, sp550⟩)).u 13 (fun z2 => (((i.p 13) z2).mv m542 no_No no_No (fun _ _ => no_No)))).u 14 (fun z z2 a536 c536 q7 => let ⟨h536, mp55⟩ := (i.p 14) z z2 a536 c536 q7; ⟨(h536.mv m542 no_No no_No), (mp55.mv m542 no_No no_No (fun _ _ => no_No))⟩)).u 15 (fun z z2 a545 c545 q11 => let ⟨h545, mp55⟩ := (i.p 15) z z2 a545 c545 q11; ⟨(h545.mv m542 no_No no_No), (mp55.mv m542 no_No no_No (fun _ _ => no_No))⟩)).u 16 (fun z => (((i.p 16) z).mv m542 no_No no_No (fun _ _ => no_No)))⟩
          · rintro D e s543 ⟨im, ib, i⟩ hk hf ha
            obtain ⟨a536, c536, g7_⟩ := (i.p 7) (ha.at 7 rfl)
            obtain ⟨b540, g10_, h540⟩ := (i.p 10) (ha.at 10 rfl)
            obtain ⟨h536, mp55⟩ := (i.p 14) (ha.at 7 rfl) hk a536 c536 g7_
            have kn : Kn e [(64, .slice a536 x533.length c536), (67, .slice (some ⟨b540, 0, none⟩) ([x519.1] : List Int).length (([x519.1] : List Int).length))] := ⟨g7_, g10_, trivial⟩
            refine L.kns _ kn ?_
            refine L.ap (r := (rK .i64)) Try.underlying28 el3 rfl (tgpF hN) h536 h540.wk Wt.no rfl rfl ex544 rfl ?_
            intro a545 c545 s546 m547 h545
            refine L.nil ?_
            exact X.dk kn ⟨im.trans (m547.one (.inl rfl)), Sub.fresh ib rfl, (((((((i.u 6 (fun z => let ⟨b534, o534, q, sp534⟩ := (i.p 6) z; ⟨b534, o534, q, sp534⟩)).u 10 (fun z => let ⟨b540, q, h540⟩ := (i.p 10) z; ⟨b540, q, (h540.mono (m547.le (fm0 hN)))⟩)).u 11 (fun _ => ⟨a545, c545, rfl⟩)).u 12 (fun z => let ⟨b550, o550, q, sp550⟩ := (i.p 12) z; ⟨b550, o550, q, sp550⟩)).u 13 (fun z2 => absurd (show D 7 = false from z2) (by rw [(ha.at 7 rfl)]; exact Bool.noConfusion))).u 14 (fun _ z => Bool.noConfusion (show true = false from z))).u 15 (fun _ _ _ _ q11 => by cases (show some (.slice a545 x544.length c545 : Value) = some _ from q11); exact ⟨h545, (mp55.mv m547 (fmN (by decide)) (fm0 hN) (fun i ho => (fam_ne (Ne.symm (ho _ rfl)))))⟩)).u 16 (fun z => Bool.noConfusion ((hf 13 (Nat.le_of_ble_eq_true rfl) rfl).symm.trans z))⟩
          · rintro D e s548 ⟨im, ib, i⟩ hk hf ha
            have g0_ := (i.p 0) (ha.at 0 rfl)
            have g2_ := (i.p 2) (ha.at 2 rfl)
            obtain ⟨a545, c545, g11_⟩ := (i.p 11) (ha.at 11 rfl)
            obtain ⟨h545, mp55⟩ := (i.p 15) (ha.at 11 rfl) (hf 13 (Nat.le_of_ble_eq_true rfl) rfl) a545 c545 g11_
            have kn : Kn e [(57, .slice (some ⟨b55, 0, none⟩) x54.length x54.length), (59, .int .i64 x519.2.2)] := ⟨g0_, g2_, trivial⟩
            refine L.kns _ kn ?_
            refine L.irR sl65 mp55 Wt.no rfl rfl ex549 rfl ?_
            intro b550 o550 sp550
            refine L.nil ?_
            exact X.dk kn ⟨im, Sub.fresh ib rfl, i.u 12 (fun _ => ⟨b550, o550, rfl, sp550⟩)⟩
          · rintro D e s551 ⟨im, ib, i⟩ hk hf ha
            obtain ⟨a545, c545, g11_⟩ := (i.p 11) (ha.at 11 rfl)
            obtain ⟨b550, o550, g12_, sp550⟩ := (i.p 12) (ha.at 12 rfl)
            obtain ⟨h545, mp55⟩ := (i.p 15) (ha.at 11 rfl) hk a545 c545 g11_
            have kn : Kn e [(69, .pointer (some ⟨b550, o550, none⟩)), (68, .slice a545 x544.length c545)] := ⟨g12_, g11_, trivial⟩
            refine L.kns _ kn ?_
            refine L.suR mp55 h545 sp550 ex549 ex552 (tgp hN) (fun _ => fam_neN (by decide)) nag28.sz Wt.no rfl rfl ?_
            intro s553 m554 mp55
            refine L.nil ?_
            exact X.dn kn ⟨im.trans (m554.one (.inr rfl)), ib, ((((((i.u 6 (fun z => let ⟨b534, o534, q, sp534⟩ := (i.p 6) z; ⟨b534, o534, q, sp534⟩)).u 10 (fun z => let ⟨b540, q, h540⟩ := (i.p 10) z; ⟨b540, q, (h540.mono (m554.le (tg0 hN)))⟩)).u 12 (fun z => let ⟨b550, o550, q, sp550⟩ := (i.p 12) z; ⟨b550, o550, q, sp550⟩)).u 13 (fun z2 => absurd (show D 7 = false from z2) (by rw [(ha.at 7 rfl)]; exact Bool.noConfusion))).u 14 (fun z z2 a536 c536 q7 => absurd (show D 11 = false from z2) (by rw [(ha.at 11 rfl)]; exact Bool.noConfusion))).u 15 (fun _ z => Bool.noConfusion (show true = false from z))).u 16 (fun _ => by exact mp55)⟩
        · rintro D e s555 hD ⟨im, ib, i⟩
          obtain mp55 := (i.p 16) (hD 13 rfl)
          have h3 := h3.mono (im.le (nor (fm0 hN) (tg0 hN)))
          have bx58 := bx58.mv im (nor (fmN (by decide)) (tgN (by decide)))
          have h51 := h51.mv im (nor (fmN (by decide)) (tgN (by decide))) (nor (fm0 hN) (tg0 hN))
          have bx5 := bx5.mv im (nor (fmN (by decide)) (tgN (by decide)))
          have h1 := h1.mono (im.le (nor (fm0 hN) (tg0 hN)))
          have h2 := h2.mono (im.le (nor (fm0 hN) (tg0 hN)))
          have mk0 := mk0.mv im (nor (fmN (by decide)) (tgN (by decide)))
          have m0 := m0.trans (im.weak fun _ e => by rcases e with e | e; (rw [e]; exact upF); (rw [e]; exact up))
          refine X.sub (e' := [(53, .int .i64 st104.1), (52, .int .i64 (p0.2.2.2.length : Int)), (51, .slice a3 p0.2.2.2.length c3), (9, .pointer (some ⟨b58, 0, none⟩)), (6, .slice a51 o49.length c51), (1, .pointer (some ⟨b5, 0, none⟩))]) ?_ (Sub.cons (ib 53 _ rfl) (Sub.cons (ib 52 _ rfl) (Sub.cons (ib 51 _ rfl) (Sub.cons (ib 9 _ rfl) (Sub.cons (ib 6 _ rfl) (Sub.cons (ib 1 _ rfl) Sub.nil))))))
          refine X.blkN ?_
          refine X.seqN ?_
          refine E.reg ?_
          refine L.bi Wt.no rfl rfl rfl rfl ?_
          refine L.mv Wt.no rfl rfl ?_
          refine L.nil ?_
          exact X.sub (ih104 _ (Option.some.inj hm).symm _ _ _ ⟨s555, m0, h3, h51, h1, h2, mp55, mk0, bx5, bx58, rfl, rfl⟩) (Sub.cons rfl (Sub.cons rfl (Sub.cons rfl (Sub.cons rfl (Sub.cons rfl (Sub.cons rfl Sub.nil))))))
      · refine E.cF rfl hc ?_
        refine E.exit ?_
        refine X.seqX ?_
        refine X.seqX ?_
        have hx := ho104 _ (Option.some.inj hm).symm
        subst hx
        exact X.sub (K518 _ _ _ ⟨s106, m0, h51, h1, h2, h3, mp55, mk0, bx5, bx58, rfl, rfl⟩) (Sub.cons rfl (Sub.cons rfl (Sub.cons rfl Sub.nil)))
    intro K556
    refine EiterM (fun (st49 : Int × List Bool × List Int) (e : List (Nat × Value)) (w : World) (ds : List Deferred) => ∃ (s52 : Sig) (a32 : Option Addr) (c32 : Nat), Mv (Up N No) s s52 ∧ RowT rB s52 (N + 3) 4 (some ⟨b26, 0, none⟩) x25.length st49.2.1 ∧ RowT (rK .i64) s52 (N + 4) 3 a32 c32 st49.2.2 ∧ RdL (rK .i64) s52 a1 c1 p0.1 ∧ RdL (rK .i64) s52 a2 c2 p0.2.2.1 ∧ RdL (rP (rK .i64) (rP (rK .i64) (rK .i64))) s52 a3 c3 p0.2.2.2 ∧ RdL (rK .i64) s52 a16 c16 r13.1.1 ∧ RdL (rK .i64) s52 a17 c17 r13.1.2.2.1 ∧ RdL (rP (rK .i64) (rP (rK .i64) (rK .i64))) s52 a18 c18 r13.1.2.2.2 ∧ RdL (rK .i64) s52 a19 c19 r13.2 ∧ Mks s52 (N + 0) ds ∧ Bx s52 (N + 1) b5 #[.slice a1 p0.1.length c1, .int .i64 p0.2.1, .slice a2 p0.2.2.1.length c2, .slice a3 p0.2.2.2.length c3] 31 ∧ Bx s52 (N + 2) b20 #[.slice a16 r13.1.1.length c16, .int .i64 r13.1.2.1, .slice a17 r13.1.2.2.1.length c17, .slice a18 r13.1.2.2.2.length c18, .slice a19 r13.2.length c19] 80 ∧ e = [(33, .int .i64 st49.1), (32, .int .i64 p0.2.1), (7, .slice (some ⟨b26, 0, none⟩) st49.2.1.length x25.length), (6, .slice a32 st49.2.2.length c32), (5, .pointer (some ⟨b20, 0, none⟩)), (1, .pointer (some ⟨b5, 0, none⟩))] ∧ w = s52.w) eo49 ⟨s27, none, 0, m0, h26, RowT.nil, h1, h2, h3, h16, h17, h18, h19, mk0, bx5, bx20, rfl, rfl⟩ (Sub.cons rfl (Sub.cons rfl (Sub.cons rfl (Sub.cons rfl (Sub.cons rfl (Sub.cons rfl Sub.nil)))))) ?_
    rintro st49 res49 hm ih49 ho49 _ _ ds ⟨s52, a32, c32, m0, h26, h32, h1, h2, h3, h16, h17, h18, h19, mk0, bx5, bx20, rfl, rfl⟩
    unfold m_reach_Components_l1 at hm
    refine E.seq ?_
    refine E.reg ?_
    refine L.bi Wt.no rfl rfl rfl rfl ?_
    refine L.nil ?_
    refine X.seqN ?_
    refine E.seq ?_
    rcases ifS hm with ⟨hc, hm⟩ | ⟨hc, hm⟩
    · refine E.cT rfl hc ?_
      refine E.skip ?_
      refine X.seqN ?_
      refine E.seqJM (fun e w ds => ∃ (s560 : Sig) (l557 : List Int) (l559 : List Bool) (a558 : Option Addr) (c558 : Nat), m_reach_Components_j2 st49 l557 l559 = some res49 ∧ Mv (Up N No) s s560 ∧ RowT (rK .i64) s560 (N + 4) 3 a558 c558 l557 ∧ RowT rB s560 (N + 3) 4 (some ⟨b26, 0, none⟩) x25.length l559 ∧ RdL (rK .i64) s560 a1 c1 p0.1 ∧ RdL (rK .i64) s560 a2 c2 p0.2.2.1 ∧ RdL (rP (rK .i64) (rP (rK .i64) (rK .i64))) s560 a3 c3 p0.2.2.2 ∧ RdL (rK .i64) s560 a16 c16 r13.1.1 ∧ RdL (rK .i64) s560 a17 c17 r13.1.2.2.1 ∧ RdL (rP (rK .i64) (rP (rK .i64) (rK .i64))) s560 a18 c18 r13.1.2.2.2 ∧ RdL (rK .i64) s560 a19 c19 r13.2 ∧ Mks s560 (N + 0) ds ∧ Bx s560 (N + 1) b5 #[.slice a1 p0.1.length c1, .int .i64 p0.2.1, .slice a2 p0.2.2.1.length c2, .slice a3 p0.2.2.2.length c3] 31 ∧ Bx s560 (N + 2) b20 #[.slice a16 r13.1.1.length c16, .int .i64 r13.1.2.1, .slice a17 r13.1.2.2.1.length c17, .slice a18 r13.1.2.2.2.length c18, .slice a19 r13.2.length c19] 80 ∧ e = [(6, .slice a558 l557.length c558), (7, .slice (some ⟨b26, 0, none⟩) l559.length x25.length), (33, .int .i64 st49.1), (32, .int .i64 p0.2.1), (5, .pointer (some ⟨b20, 0, none⟩)), (1, .pointer (some ⟨b5, 0, none⟩))] ∧ w = s560.w) ?_ ?_
      · rintro _ _ ds ⟨s560, l557, l559, a558, c558, hm, m0, h558, h26, h1, h2, h3, h16, h17, h18, h19, mk0, bx5, bx20, rfl, rfl⟩
        unfold m_reach_Components_j2 at hm
        refine E.reg ?_
        refine L.bi Wt.no rfl rfl rfl rfl ?_
        refine L.mv Wt.no rfl rfl ?_
        refine L.nil ?_
        exact X.sub (ih49 _ (Option.some.inj hm).symm _ _ _ ⟨s560, a558, c558, m0, h26, h558, h1, h2, h3, h16, h17, h18, h19, mk0, bx5, bx20, rfl, rfl⟩) (Sub.cons rfl (Sub.cons rfl (Sub.cons rfl (Sub.cons rfl (Sub.cons rfl (Sub.cons rfl Sub.nil))))))
      · intro Jj561
        refine E.block ?_
        refine E.seq ?_
        refine E.reg ?_
        refine L.mv Wt.no rfl rfl ?_
        refine L.as Wt.no rfl rfl ?_
        refine L.nil ?_
        refine X.seqN ?_
        refine E.seq ?_
        refine E.reg ?_
        refine L.mv Wt.no rfl rfl ?_
        refine L.mv Wt.no rfl rfl ?_
        obtain ⟨x562, ex562, hm⟩ := bindS hm
        refine L.ir (r := rB) sl86 h26 Wt.no rfl rfl ex562 rfl ?_
        rintro b563 o563 cc563 me563 rd563 sp563
        obtain rfl := rd563
        refine L.ld (j := 0) me563 nag4 Wt.no rfl rfl rfl rfl ?_
        refine L.not Wt.no rfl rfl ?_
        refine L.nil ?_
        refine X.seqN ?_
        rcases ifS hm with ⟨hc, hm⟩ | ⟨hc, hm⟩
        · refine E.cT rfl hc ?_
          refine E.reg ?_
          refine L.lg (j := 0) (cs := [.slice a16 r13.1.1.length c16, .int .i64 r13.1.2.1, .slice a17 r13.1.2.2.1.length c17, .slice a18 r13.1.2.2.2.length c18, .slice a19 r13.2.length c19]) bx20.mem ag80 Wt.no rfl rfl rfl rfl rfl ?_
          refine L.mv Wt.no rfl rfl ?_
          refine L.mv Wt.no rfl rfl ?_
          refine L.mv Wt.no rfl rfl ?_
          obtain ⟨r564, er564, hm⟩ := bindS hm
          refine L.ca (vs := [.agg #[.slice a16 r13.1.1.length c16, .int .i64 r13.1.2.1, .slice a17 r13.1.2.2.1.length c17, .slice a18 r13.1.2.2.2.length c18, .slice a19 r13.2.length c19], .int .i64 st49.1, .slice (some ⟨b26, 0, none⟩) st49.2.1.length x25.length, .slice a32 st49.2.2.length c32]) cf72 rfl rfl Wt.no rfl (m_reach_graph_finish_c (s := s52) (p0 := r13) (p1 := st49.1) (p2 := st49.2.1) (p3 := st49.2.2) (t2 := (N + 3)) (t3 := (N + 4)) (tne (by decide)) (tne (by decide)) (tpos hN) (tpos hN) h16 h17 h18 h19 h26 h32 er564) rfl ?_
          rintro _ s565 m566 ⟨a567, c567, rfl, h567, h26⟩
          obtain ⟨_, qz568, hm⟩ := bindS hm
          have elz568 := len_some qz568
          replace m0 := m0.trans (m566.weak fun _ e => by rcases e with e | e; (rw [e]; exact up); (rw [e]; exact up))
          replace mk0 := mk0.mv m566 (nor (tgN (by decide)) (tgN (by decide)))
          replace bx5 := bx5.mv m566 (nor (tgN (by decide)) (tgN (by decide)))
          replace h1 := h1.mono (m566.le (nor (tg0 hN) (tg0 hN)))
          replace h2 := h2.mono (m566.le (nor (tg0 hN) (tg0 hN)))
          replace h3 := h3.mono (m566.le (nor (tg0 hN) (tg0 hN)))
          replace bx20 := bx20.mv m566 (nor (tgN (by decide)) (tgN (by decide)))
          replace h16 := h16.mono (m566.le (nor (tg0 hN) (tg0 hN)))
          replace h17 := h17.mono (m566.le (nor (tg0 hN) (tg0 hN)))
          replace h18 := h18.mono (m566.le (nor (tg0 hN) (tg0 hN)))
          replace h19 := h19.mono (m566.le (nor (tg0 hN) (tg0 hN)))
          refine L.reval (d := 7) rfl elz568 ?_
          refine L.as Wt.no rfl rfl ?_
          refine L.nil ?_
          refine X.blkN ?_
          exact X.sub (Jj561 _ _ _ ⟨s565, r564.1, r564.2, a567, c567, hm, m0, h567, h26, h1, h2, h3, h16, h17, h18, h19, mk0, bx5, bx20, rfl, rfl⟩) (Sub.cons rfl (Sub.cons rfl (Sub.cons rfl (Sub.cons rfl (Sub.cons rfl (Sub.cons rfl Sub.nil))))))
        · refine E.cF rfl hc ?_
          refine E.skip ?_
          refine X.blkN ?_
          exact X.sub (Jj561 _ _ _ ⟨s52, st49.2.2, st49.2.1, a32, c32, hm, m0, h32, h26, h1, h2, h3, h16, h17, h18, h19, mk0, bx5, bx20, rfl, rfl⟩) (Sub.cons rfl (Sub.cons rfl (Sub.cons rfl (Sub.cons rfl (Sub.cons rfl (Sub.cons rfl Sub.nil))))))
    · refine E.cF rfl hc ?_
      refine E.exit ?_
      refine X.seqX ?_
      refine X.seqX ?_
      have hx := ho49 _ (Option.some.inj hm).symm
      subst hx
      exact X.sub (K556 _ _ _ ⟨s52, a32, c32, m0, h32, h1, h2, h3, mk0, bx5, rfl, rfl⟩) (Sub.cons rfl (Sub.cons rfl Sub.nil))

end Go.Proofs.Ythchkddhibhenaa

