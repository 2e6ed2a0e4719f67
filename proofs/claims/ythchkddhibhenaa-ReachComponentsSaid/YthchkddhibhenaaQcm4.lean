/- Parts of the proof, without what nothing here names. -/
import Derived.Test.YthchkddhibhenaaProg
import Derived.Test.YthchkddhibhenaaQcm3
namespace Go.Proofs.Ythchkddhibhenaa
open Go Go.RowKit
noncomputable def m_reach_list_j1 (st22 : Int × List Int) (l28 : List Int) : Option ((Int × List Int) ⊕ (List Int)) :=
  some (.inl (W (st22.1 + 1), l28))
noncomputable def m_reach_list_l1 (p0 : List Bool) (st22 : Int × List Int) : Option ((Int × List Int) ⊕ (List Int)) :=
  if decide (st22.1 < (p0.length : Int)) then
    (idx p0 st22.1).bind fun x32 =>
    if x32 then
      (app st22.2 ([st22.1] : List Int)).bind fun x37 =>
      m_reach_list_j1 st22 x37
    else
      m_reach_list_j1 st22 st22.2
  else
    some (.inr st22.2)
/-- What reach.list computes. -/
noncomputable def m_reach_list (p0 : List Bool) : Option (List Int) :=
  (iter (m_reach_list_l1 p0) (0, ([] : List Int))).bind fun o22 =>
  some o22
set_option maxRecDepth 100000 in
set_option maxHeartbeats 8000000 in
theorem m_reach_list_c {s : Sig} {p0 : List Bool} {a1 : Option Addr} {c1 : Nat} {u0 : Nat} {r : List Int} (h1 : RdL rB s a1 c1 p0) (hm : m_reach_list p0 = some r) :
    Calls Try.prog 58 #[.slice a1 p0.length c1] s.w (RetS No s fun v s' => ∃ (a2 : Option Addr) (c2 : Nat), v = .slice a2 r.length c2 ∧ RowT (rK .i64) s' u0 3 a2 c2 r) := by
  unfold m_reach_list at hm
  obtain ⟨N, hN, hNb⟩ := s.fresh
  have m0 : Mv (Up N No) s s := Mv.refl _ _
  refine E.entry (vs := [.slice a1 p0.length c1]) (e := [(0, .slice a1 p0.length c1)]) Try.func58 rfl Try.ntmps58 rfl rfl ?_
  refine E.seq ?_
  refine E.reg ?_
  refine L.as Wt.no rfl rfl ?_
  refine L.nil ?_
  refine X.seqN ?_
  refine E.seq ?_
  refine E.reg ?_
  refine L.as Wt.no rfl rfl ?_
  refine L.nil ?_
  refine X.seqN ?_
  refine E.seq ?_
  refine E.seq ?_
  refine E.reg ?_
  refine L.mv Wt.no rfl rfl ?_
  refine L.len sl86 Wt.no rfl rfl ?_
  refine L.mv Wt.no rfl rfl ?_
  refine L.nil ?_
  refine X.seqN ?_
  refine E.block ?_
  obtain ⟨o22, eo22, hm⟩ := bindS hm
  refine E.cut (x := .exit 0) (fun e w => ∃ (s26 : Sig) (a24 : Option Addr) (c24 : Nat), Mv (Up N No) s s26 ∧ RowT (rK .i64) s26 (N + 0) 3 a24 c24 o22 ∧ e = [(3, .slice a24 o22.length c24)] ∧ w = s26.w) ?_ ?_
  · rintro _ _ ⟨s26, a24, c24, m0, h24, rfl, rfl⟩
    refine X.blkE ?_
    refine X.seqN ?_
    refine E.seq ?_
    refine E.reg ?_
    refine L.mv Wt.no rfl rfl ?_
    refine L.as Wt.no rfl rfl ?_
    refine L.nil ?_
    refine X.seqN ?_
    refine E.ret ?_
    obtain rfl := Option.some.inj hm
    exact X.rt (.inl rfl) Try.results58 (Rs.tmp rfl Rs.nil) rfl ⟨_, (s26).ren N (fun k => cond (Nat.beq k 0) u0 (0)), rfl, rfl, m0.ren hNb, ⟨a24, c24, rfl, (h24.ren hN)⟩⟩
  intro K27
  refine E.iter (fun (st22 : Int × List Int) (e : List (Nat × Value)) (w : World) => ∃ (s25 : Sig) (a5 : Option Addr) (c5 : Nat), Mv (Up N No) s s25 ∧ RdL rB s25 a1 c1 p0 ∧ RowT (rK .i64) s25 (N + 0) 3 a5 c5 st22.2 ∧ e = [(8, .int .i64 st22.1), (7, .int .i64 (p0.length : Int)), (6, .slice a1 p0.length c1), (3, .slice a5 st22.2.length c5)] ∧ w = s25.w) eo22 ⟨s, none, 0, m0, h1, RowT.nil, rfl, rfl⟩ (Sub.cons rfl (Sub.cons rfl (Sub.cons rfl (Sub.cons rfl Sub.nil)))) ?_
  rintro st22 res22 hm ih22 ho22 _ _ ⟨s25, a5, c5, m0, h1, h5, rfl, rfl⟩
  unfold m_reach_list_l1 at hm
  refine E.seq ?_
  refine E.reg ?_
  refine L.bi Wt.no rfl rfl rfl rfl ?_
  refine L.nil ?_
  refine X.seqN ?_
  refine E.seq ?_
  rcases ifS hm with ⟨hc, hm⟩ | ⟨hc, hm⟩
  · refine E.cT rfl hc ?_
    refine E.skip ?_
    refine X.seqN ?_
    refine E.seqJ (fun e w => ∃ (s30 : Sig) (l28 : List Int) (a29 : Option Addr) (c29 : Nat), m_reach_list_j1 st22 l28 = some res22 ∧ Mv (Up N No) s s30 ∧ RowT (rK .i64) s30 (N + 0) 3 a29 c29 l28 ∧ RdL rB s30 a1 c1 p0 ∧ e = [(3, .slice a29 l28.length c29), (8, .int .i64 st22.1), (7, .int .i64 (p0.length : Int)), (6, .slice a1 p0.length c1)] ∧ w = s30.w) ?_ ?_
    · rintro _ _ ⟨s30, l28, a29, c29, hm, m0, h29, h1, rfl, rfl⟩
      unfold m_reach_list_j1 at hm
      refine E.reg ?_
      refine L.bi Wt.no rfl rfl rfl rfl ?_
      refine L.mv Wt.no rfl rfl ?_
      refine L.nil ?_
      exact X.sub (ih22 _ (Option.some.inj hm).symm _ _ ⟨s30, a29, c29, m0, h1, h29, rfl, rfl⟩) (Sub.cons rfl (Sub.cons rfl (Sub.cons rfl (Sub.cons rfl Sub.nil))))
    · intro Jj31
      refine E.block ?_
      refine E.seq ?_
      refine E.reg ?_
      refine L.mv Wt.no rfl rfl ?_
      obtain ⟨x32, ex32, hm⟩ := bindS hm
      refine L.ix (r := rB) sl86 h1 Wt.no rfl rfl ex32 rfl ?_
      rintro b33 o33 cc33 me33 rd33
      obtain rfl := rd33
      refine L.ld (j := 0) me33 nag4 Wt.no rfl rfl rfl rfl ?_
      refine L.as Wt.no rfl rfl ?_
      refine L.as Wt.no rfl rfl ?_
      refine L.nil ?_
      refine X.seqN ?_
      refine E.seq ?_
      refine E.reg ?_
      refine L.mv Wt.no rfl rfl ?_
      refine L.nil ?_
      refine X.seqN ?_
      rcases ifS hm with ⟨hc, hm⟩ | ⟨hc, hm⟩
      · refine E.cT rfl hc ?_
        refine E.reg ?_
        refine L.mv Wt.no rfl rfl ?_
        refine L.mv Wt.no rfl rfl ?_
        refine L.bsE (k := 1) (cs := [.int .i64 st22.1]) 0 bs28 (Nat.le_of_ble_eq_true rfl) Wt.no rfl rfl rfl rfl ?_
        intro b34 s35 m36 bx34
        replace m0 := m0.trans m36.no
        replace h1 := h1.mono (m36.le no_No)
        replace h5 := h5.mv m36 no_No no_No
        have h34 := Bx.rdL (r := (rK .i64)) (xs := ([st22.1] : List Int)) bx34 ⟨[.int .i64 st22.1], _, rfl, rfl, rfl⟩ (Nat.le_of_ble_eq_true rfl)
        obtain ⟨x37, ex37, hm⟩ := bindS hm
        refine L.ap (r := (rK .i64)) Try.underlying28 el3 rfl (tgp hN) h5 h34.wk Wt.no rfl rfl ex37 rfl ?_
        intro a38 c38 s39 m40 h38
        replace m0 := m0.trans (m40.one up)
        replace h1 := h1.mono (m40.le (tg0 hN))
        refine L.as Wt.no rfl rfl ?_
        refine L.nil ?_
        refine X.blkN ?_
        exact X.sub (Jj31 _ _ ⟨s39, x37, a38, c38, hm, m0, h38, h1, rfl, rfl⟩) (Sub.cons rfl (Sub.cons rfl (Sub.cons rfl (Sub.cons rfl Sub.nil))))
      · refine E.cF rfl hc ?_
        refine E.skip ?_
        refine X.blkN ?_
        exact X.sub (Jj31 _ _ ⟨s25, st22.2, a5, c5, hm, m0, h5, h1, rfl, rfl⟩) (Sub.cons rfl (Sub.cons rfl (Sub.cons rfl (Sub.cons rfl Sub.nil))))
  · refine E.cF rfl hc ?_
    refine E.exit ?_
    refine X.seqX ?_
    refine X.seqX ?_
    have hx := ho22 _ (Option.some.inj hm).symm
    subst hx
    exact X.sub (K27 _ _ ⟨s25, a5, c5, m0, h5, rfl, rfl⟩) (Sub.cons rfl Sub.nil)

theorem cf52 : Cf Try.prog 52 := Cf.mk Try.func52 (by kernel_rfl) (by kernel_rfl)
theorem cf56 : Cf Try.prog 56 := Cf.mk Try.func56 (by kernel_rfl) (by kernel_rfl)
theorem cf58 : Cf Try.prog 58 := Cf.mk Try.func58 (by kernel_rfl) (by kernel_rfl)
noncomputable def m_reach_Interior_j1 (st139 : Int × Bool × List Bool) (b145 : Bool) (l146 : List Bool) : Option ((Int × Bool × List Bool) ⊕ (Bool × List Bool)) :=
  some (.inl (W (st139.1 + 1), b145, l146))
noncomputable def m_reach_Interior_l2 (p0 : List Int × Int × List Int × (List (Int × Int × Int))) (p2 : List Int) (st139 : Int × Bool × List Bool) : Option ((Int × Bool × List Bool) ⊕ (Bool × List Bool)) :=
  if decide (st139.1 < (p0.2.2.2.length : Int)) then
    (idx p0.2.2.2 st139.1).bind fun x149 =>
    (idx st139.2.2 x149.1).bind fun x156 =>
    (if x156 then
      (idx st139.2.2 x149.2.2).bind fun x173 =>
      some (!x173)
    else
      some false).bind fun b158 =>
    (if b158 then
      (m_slices_Contains_int p2 x149.2.1).bind fun r169 =>
      some r169
    else
      some false).bind fun b160 =>
    if b160 then
      (idx st139.2.2 x149.1).bind fun x163 =>
      (upd st139.2.2 x149.1 false).bind fun x165 =>
      m_reach_Interior_j1 st139 true x165
    else
      m_reach_Interior_j1 st139 st139.2.1 st139.2.2
  else
    some (.inr st139.2)
noncomputable def m_reach_Interior_l1 (p0 : List Int × Int × List Int × (List (Int × Int × Int))) (p2 : List Int) (st93 : Bool × List Bool) : Option ((Bool × List Bool) ⊕ (List Bool)) :=
  if st93.1 then
    (iter (m_reach_Interior_l2 p0 p2) (0, false, st93.2)).bind fun o139 =>
    some (.inl o139)
  else
    some (.inr st93.2)
/-- What reach.Interior computes. -/
noncomputable def m_reach_Interior (p0 : List Int × Int × List Int × (List (Int × Int × Int))) (p1 : List Int) (p2 : List Int) : Option (List Int × Int) :=
  (m_reach_closure p0 p1 p2).bind fun r10 =>
  if (r10 != 0) then
    some (([] : List Int), r10)
  else
    (m_reach_flags p0 p1).bind fun r13 =>
    (iter (m_reach_Interior_l1 p0 p2) (true, r13)).bind fun o93 =>
    (m_reach_list o93).bind fun r98 =>
    some (r98, 0)
set_option maxRecDepth 100000 in
set_option maxHeartbeats 8000000 in
theorem m_reach_Interior_c {s : Sig} {p0 : List Int × Int × List Int × (List (Int × Int × Int))} {p1 : List Int} {p2 : List Int} {a1 : Option Addr} {c1 : Nat} {a2 : Option Addr} {c2 : Nat} {a3 : Option Addr} {c3 : Nat} {a4 : Option Addr} {c4 : Nat} {a5 : Option Addr} {c5 : Nat} {u0 : Nat} {r : List Int × Int} (h1 : RdL (rK .i64) s a1 c1 p0.1) (h2 : RdL (rK .i64) s a2 c2 p0.2.2.1) (h3 : RdL (rP (rK .i64) (rP (rK .i64) (rK .i64))) s a3 c3 p0.2.2.2) (h4 : RdL (rK .i64) s a4 c4 p1) (h5 : RdL (rK .i64) s a5 c5 p2) (hm : m_reach_Interior p0 p1 p2 = some r) :
    Calls Try.prog 23 #[.agg #[.slice a1 p0.1.length c1, .int .i64 p0.2.1, .slice a2 p0.2.2.1.length c2, .slice a3 p0.2.2.2.length c3], .slice a4 p1.length c4, .slice a5 p2.length c5] s.w (RetS No s fun v s' => ∃ (a6 : Option Addr) (c6 : Nat), v = .tuple #[.slice a6 r.1.length c6, .int .i64 r.2] ∧ RowT (rK .i64) s' u0 3 a6 c6 r.1) := by
  unfold m_reach_Interior at hm
  obtain ⟨N, hN, hNb⟩ := s.fresh
  have m0 : Mv (Up N No) s s := Mv.refl _ _
  refine E.entry (vs := [.agg #[.slice a1 p0.1.length c1, .int .i64 p0.2.1, .slice a2 p0.2.2.1.length c2, .slice a3 p0.2.2.2.length c3], .slice a4 p1.length c4, .slice a5 p2.length c5]) (e := [(0, .agg #[.slice a1 p0.1.length c1, .int .i64 p0.2.1, .slice a2 p0.2.2.1.length c2, .slice a3 p0.2.2.2.length c3]), (1, .slice a4 p1.length c4), (2, .slice a5 p2.length c5)]) Try.func23 rfl Try.ntmps23 rfl rfl ?_
  refine E.seq ?_
  refine E.reg ?_
  refine L.box (N + 0) Wt.no rfl rfl rfl ?_
  intro b7 s8 m9 bx7
  replace m0 := m0.trans m9.no
  replace h4 := h4.mono (m9.le no_No)
  replace h5 := h5.mono (m9.le no_No)
  replace h1 := h1.mono (m9.le no_No)
  replace h2 := h2.mono (m9.le no_No)
  replace h3 := h3.mono (m9.le no_No)
  refine L.as Wt.no rfl rfl ?_
  refine L.as Wt.no rfl rfl ?_
  refine L.nil ?_
  refine X.seqN ?_
  refine E.seq ?_
  refine E.seq ?_
  refine E.reg ?_
  refine L.lg (j := 0) (cs := [.slice a1 p0.1.length c1, .int .i64 p0.2.1, .slice a2 p0.2.2.1.length c2, .slice a3 p0.2.2.2.length c3]) bx7.mem ag31 Wt.no rfl rfl rfl rfl rfl ?_
  refine L.mv Wt.no rfl rfl ?_
  refine L.mv Wt.no rfl rfl ?_
  obtain ⟨r10, er10, hm⟩ := bindS hm
  refine L.ca (vs := [.agg #[.slice a1 p0.1.length c1, .int .i64 p0.2.1, .slice a2 p0.2.2.1.length c2, .slice a3 p0.2.2.2.length c3], .slice a4 p1.length c4, .slice a5 p2.length c5]) cf56 rfl rfl Wt.no rfl (m_reach_closure_c (s := s8) (p0 := p0) (p1 := p1) (p2 := p2) h1 h2 h3 h4 h5 er10) rfl ?_
  rintro _ s11 m12 rfl
  replace m0 := m0.trans m12.no
  replace h4 := h4.mono (m12.le no_No)
  replace h5 := h5.mono (m12.le no_No)
  replace bx7 := bx7.mv m12 no_No
  replace h1 := h1.mono (m12.le no_No)
  replace h2 := h2.mono (m12.le no_No)
  replace h3 := h3.mono (m12.le no_No)
  refine L.as Wt.no rfl rfl ?_
  refine L.nil ?_
  refine X.seqN ?_
  refine E.seq ?_
  refine E.reg ?_
  refine L.mv Wt.no rfl rfl ?_
  refine L.bi Wt.no rfl rfl rfl rfl ?_
  refine L.nil ?_
  refine X.seqN ?_
  rcases ifS hm with ⟨hc, hm⟩ | ⟨hc, hm⟩
  · refine E.cT rfl hc ?_
    refine E.seq ?_
    refine E.reg ?_
    refine L.mv Wt.no rfl rfl ?_
    refine L.as Wt.no rfl rfl ?_
    refine L.as Wt.no rfl rfl ?_
    refine L.nil ?_
    refine X.seqN ?_
    refine E.ret ?_
    refine X.seqR ?_
    obtain rfl := Option.some.inj hm
    exact X.rt (.inl rfl) Try.results23 (Rs.tmp rfl (Rs.tmp rfl Rs.nil)) rfl ⟨_, (s11).ren N (fun _ => 0), rfl, rfl, m0.ren hNb, ⟨none, 0, rfl, RowT.nil⟩⟩
  · refine E.cF rfl hc ?_
    refine E.skip ?_
    refine X.seqN ?_
    refine E.seq ?_
    refine E.reg ?_
    refine L.lg (j := 0) (cs := [.slice a1 p0.1.length c1, .int .i64 p0.2.1, .slice a2 p0.2.2.1.length c2, .slice a3 p0.2.2.2.length c3]) bx7.mem ag31 Wt.no rfl rfl rfl rfl rfl ?_
    refine L.mv Wt.no rfl rfl ?_
    obtain ⟨r13, er13, hm⟩ := bindS hm
    refine L.ca (vs := [.agg #[.slice a1 p0.1.length c1, .int .i64 p0.2.1, .slice a2 p0.2.2.1.length c2, .slice a3 p0.2.2.2.length c3], .slice a4 p1.length c4]) cf52 rfl rfl Wt.no rfl (m_reach_flags_c (s := s11) (p0 := p0) (p1 := p1) (u0 := (N + 2)) h1 h2 h3 h4 er13) rfl ?_
    rintro _ s14 m15 ⟨a16, c16, rfl, h16⟩
    replace m0 := m0.trans m15.no
    replace h5 := h5.mono (m15.le no_No)
    replace bx7 := bx7.mv m15 no_No
    replace h1 := h1.mono (m15.le no_No)
    replace h2 := h2.mono (m15.le no_No)
    replace h3 := h3.mono (m15.le no_No)
    refine L.as Wt.no rfl rfl ?_
    refine L.nil ?_
    refine X.seqN ?_
    refine E.seq ?_
    refine E.seq ?_
    refine E.reg ?_
    refine L.as Wt.no rfl rfl ?_
    refine L.nil ?_
    refine X.seqN ?_
    refine E.block ?_
    obtain ⟨o93, eo93, hm⟩ := bindS hm
    refine E.cut (x := .exit 0) (fun e w => ∃ (s96 : Sig), Mv (Up N No) s s96 ∧ RowT rB s96 (N + 2) 4 a16 c16 o93 ∧ e = [(9, .slice a16 o93.length c16)] ∧ w = s96.w) ?_ ?_
    · rintro _ _ ⟨s96, m0, h16, rfl, rfl⟩
      refine X.blkE ?_
      refine X.seqN ?_
      refine E.seq ?_
      refine E.reg ?_
      refine L.mv Wt.no rfl rfl ?_
      have m97 := Sig.fz_mv (N + 2) s96
      replace h16 := h16.fz (tgn hN)
      replace m0 := m0.trans (m97.one up)
      refine L.toR (s' := (Sig.fz (N + 2) s96)) rfl ?_
      obtain ⟨r98, er98, hm⟩ := bindS hm
      refine L.ca (vs := [.slice a16 o93.length c16]) cf58 rfl rfl Wt.no rfl (m_reach_list_c (s := (Sig.fz (N + 2) s96)) (p0 := o93) (u0 := (N + 3)) h16 er98) rfl ?_
      rintro _ s99 m100 ⟨a101, c101, rfl, h101⟩
      replace m0 := m0.trans m100.no
      refine L.as Wt.no rfl rfl ?_
      refine L.as Wt.no rfl rfl ?_
      refine L.nil ?_
      refine X.seqN ?_
      refine E.ret ?_
      obtain rfl := Option.some.inj hm
      exact X.rt (.inl rfl) Try.results23 (Rs.tmp rfl (Rs.tmp rfl Rs.nil)) rfl ⟨_, (s99).ren N (fun k => cond (Nat.beq k 3) u0 (0)), rfl, rfl, m0.ren hNb, ⟨a101, c101, rfl, (h101.ren hN)⟩⟩
    intro K102
    refine E.iter (fun (st93 : Bool × List Bool) (e : List (Nat × Value)) (w : World) => ∃ (s95 : Sig), Mv (Up N No) s s95 ∧ RowT rB s95 (N + 2) 4 a16 c16 st93.2 ∧ RdL (rK .i64) s95 a5 c5 p2 ∧ RdL (rK .i64) s95 a1 c1 p0.1 ∧ RdL (rK .i64) s95 a2 c2 p0.2.2.1 ∧ RdL (rP (rK .i64) (rP (rK .i64) (rK .i64))) s95 a3 c3 p0.2.2.2 ∧ Bx s95 (N + 0) b7 #[.slice a1 p0.1.length c1, .int .i64 p0.2.1, .slice a2 p0.2.2.1.length c2, .slice a3 p0.2.2.2.length c3] 31 ∧ e = [(10, .bool st93.1), (9, .slice a16 st93.2.length c16), (3, .pointer (some ⟨b7, 0, none⟩)), (2, .slice a5 p2.length c5)] ∧ w = s95.w) eo93 ⟨s14, m0, h16, h5, h1, h2, h3, bx7, rfl, rfl⟩ (Sub.cons rfl (Sub.cons rfl (Sub.cons rfl (Sub.cons rfl Sub.nil)))) ?_
    rintro st93 res93 hm ih93 ho93 _ _ ⟨s95, m0, h16, h5, h1, h2, h3, bx7, rfl, rfl⟩
    unfold m_reach_Interior_l1 at hm
    refine E.seq ?_
    refine E.seq ?_
    refine E.reg ?_
    refine L.mv Wt.no rfl rfl ?_
    refine L.nil ?_
    refine X.seqN ?_
    rcases ifS hm with ⟨hc, hm⟩ | ⟨hc, hm⟩
    · refine E.cT rfl hc ?_
      refine E.skip ?_
      refine X.seqN ?_
      refine E.block ?_
      refine E.seq ?_
      refine E.reg ?_
      refine L.as Wt.no rfl rfl ?_
      refine L.nil ?_
      refine X.seqN ?_
      refine E.seq ?_
      refine E.reg ?_
      refine L.fa fa31_3 Wt.no rfl rfl ?_
      refine L.ld (j := 3) bx7.mem nag29 Wt.no rfl rfl rfl rfl ?_
      refine L.len sl29 Wt.no rfl rfl ?_
      refine L.mv Wt.no rfl rfl ?_
      refine L.nil ?_
      refine X.seqN ?_
      refine E.block ?_
      obtain ⟨o139, eo139, hm⟩ := bindS hm
      refine E.cut (x := .exit 2) (fun e w => ∃ (s143 : Sig), Mv (Up N No) s s143 ∧ RowT rB s143 (N + 2) 4 a16 c16 o139.2 ∧ RdL (rK .i64) s143 a5 c5 p2 ∧ RdL (rK .i64) s143 a1 c1 p0.1 ∧ RdL (rK .i64) s143 a2 c2 p0.2.2.1 ∧ RdL (rP (rK .i64) (rP (rK .i64) (rK .i64))) s143 a3 c3 p0.2.2.2 ∧ Bx s143 (N + 0) b7 #[.slice a1 p0.1.length c1, .int .i64 p0.2.1, .slice a2 p0.2.2.1.length c2, .slice a3 p0.2.2.2.length c3] 31 ∧ e = [(10, .bool o139.1), (9, .slice a16 o139.2.length c16), (3, .pointer (some ⟨b7, 0, none⟩)), (2, .slice a5 p2.length c5)] ∧ w = s143.w) ?_ ?_
      · rintro _ _ ⟨s143, m0, h16, h5, h1, h2, h3, bx7, rfl, rfl⟩
        refine X.blkE ?_
        refine X.blkN ?_
        exact X.sub (ih93 _ (Option.some.inj hm).symm _ _ ⟨s143, m0, h16, h5, h1, h2, h3, bx7, rfl, rfl⟩) (Sub.cons rfl (Sub.cons rfl (Sub.cons rfl (Sub.cons rfl Sub.nil))))
      intro K144
      refine E.iter (fun (st139 : Int × Bool × List Bool) (e : List (Nat × Value)) (w : World) => ∃ (s142 : Sig), Mv (Up N No) s s142 ∧ RdL (rP (rK .i64) (rP (rK .i64) (rK .i64))) s142 a3 c3 p0.2.2.2 ∧ RowT rB s142 (N + 2) 4 a16 c16 st139.2.2 ∧ RdL (rK .i64) s142 a5 c5 p2 ∧ RdL (rK .i64) s142 a1 c1 p0.1 ∧ RdL (rK .i64) s142 a2 c2 p0.2.2.1 ∧ Bx s142 (N + 0) b7 #[.slice a1 p0.1.length c1, .int .i64 p0.2.1, .slice a2 p0.2.2.1.length c2, .slice a3 p0.2.2.2.length c3] 31 ∧ e = [(27, .int .i64 st139.1), (26, .int .i64 (p0.2.2.2.length : Int)), (25, .slice a3 p0.2.2.2.length c3), (10, .bool st139.2.1), (9, .slice a16 st139.2.2.length c16), (3, .pointer (some ⟨b7, 0, none⟩)), (2, .slice a5 p2.length c5)] ∧ w = s142.w) eo139 ⟨s95, m0, h3, h16, h5, h1, h2, bx7, rfl, rfl⟩ (Sub.cons rfl (Sub.cons rfl (Sub.cons rfl (Sub.cons rfl (Sub.cons rfl (Sub.cons rfl (Sub.cons rfl Sub.nil))))))) ?_
      rintro st139 res139 hm ih139 ho139 _ _ ⟨s142, m0, h3, h16, h5, h1, h2, bx7, rfl, rfl⟩
      unfold m_reach_Interior_l2 at hm
      refine E.seq ?_
      refine E.reg ?_
      refine L.bi Wt.no rfl rfl rfl rfl ?_
      refine L.nil ?_
      refine X.seqN ?_
      refine E.seq ?_
      rcases ifS hm with ⟨hc, hm⟩ | ⟨hc, hm⟩
      · refine E.cT rfl hc ?_
        refine E.skip ?_
        refine X.seqN ?_
        refine E.seqJ (fun e w => ∃ (s147 : Sig) (b145 : Bool) (l146 : List Bool), m_reach_Interior_j1 st139 b145 l146 = some res139 ∧ Mv (Up N No) s s147 ∧ RowT rB s147 (N + 2) 4 a16 c16 l146 ∧ RdL (rP (rK .i64) (rP (rK .i64) (rK .i64))) s147 a3 c3 p0.2.2.2 ∧ RdL (rK .i64) s147 a5 c5 p2 ∧ RdL (rK .i64) s147 a1 c1 p0.1 ∧ RdL (rK .i64) s147 a2 c2 p0.2.2.1 ∧ Bx s147 (N + 0) b7 #[.slice a1 p0.1.length c1, .int .i64 p0.2.1, .slice a2 p0.2.2.1.length c2, .slice a3 p0.2.2.2.length c3] 31 ∧ e = [(10, .bool b145), (9, .slice a16 l146.length c16), (27, .int .i64 st139.1), (26, .int .i64 (p0.2.2.2.length : Int)), (25, .slice a3 p0.2.2.2.length c3), (3, .pointer (some ⟨b7, 0, none⟩)), (2, .slice a5 p2.length c5)] ∧ w = s147.w) ?_ ?_
        · rintro _ _ ⟨s147, b145, l146, hm, m0, h16, h3, h5, h1, h2, bx7, rfl, rfl⟩
          unfold m_reach_Interior_j1 at hm
          refine E.reg ?_
          refine L.bi Wt.no rfl rfl rfl rfl ?_
          refine L.mv Wt.no rfl rfl ?_
          refine L.nil ?_
          exact X.sub (ih139 _ (Option.some.inj hm).symm _ _ ⟨s147, m0, h3, h16, h5, h1, h2, bx7, rfl, rfl⟩) (Sub.cons rfl (Sub.cons rfl (Sub.cons rfl (Sub.cons rfl (Sub.cons rfl (Sub.cons rfl (Sub.cons rfl Sub.nil)))))))
        · intro Jj148
          refine E.block ?_
          refine E.seq ?_
          refine E.reg ?_
          obtain ⟨x149, ex149, hm⟩ := bindS hm
          refine L.ix (r := (rP (rK .i64) (rP (rK .i64) (rK .i64)))) sl29 h3 Wt.no rfl rfl ex149 rfl ?_
          rintro b150 o150 cc150 me150 rd150
          obtain ⟨_, _, rfl, rfl, ⟨_, _, rfl, rfl, rfl⟩⟩ := rd150
          refine L.lg (j := 0) (cs := [.int .i64 x149.1, .int .i64 x149.2.1, .int .i64 x149.2.2]) me150 ag45 Wt.no rfl rfl rfl rfl rfl ?_
          refine L.al (N + 1) zz45 rfl Wt.no rfl ?_
          intro b151 s152 m153 bx151
          replace m0 := m0.trans m153.no
          replace h5 := h5.mono (m153.le no_No)
          replace h16 := h16.mv m153 no_No no_No
          replace h3 := h3.mono (m153.le no_No)
          replace bx7 := bx7.mv m153 no_No
          replace h1 := h1.mono (m153.le no_No)
          replace h2 := h2.mono (m153.le no_No)
          refine L.st (c := [.int .i64 x149.1, .int .i64 x149.2.1, .int .i64 x149.2.2]) (cs' := #[.int .i64 x149.1, .int .i64 x149.2.1, .int .i64 x149.2.2]) bx151 ag45.sz Wt.no rfl rfl rfl rfl rfl (Nat.le_of_ble_eq_true rfl) rfl ?_
          intro s154 m155 bx151
          replace m0 := m0.trans (m155.one up)
          replace h5 := h5.mono (m155.le (tg0 hN))
          replace h16 := h16.mv m155 (tgN (by decide)) (tg0 hN)
          replace h3 := h3.mono (m155.le (tg0 hN))
          replace bx7 := bx7.mv m155 (tgN (by decide))
          replace h1 := h1.mono (m155.le (tg0 hN))
          replace h2 := h2.mono (m155.le (tg0 hN))
          refine L.nil ?_
          refine X.seqN ?_
          refine E.seq ?_
          refine E.reg ?_
          refine L.mv Wt.no rfl rfl ?_
          refine L.fa fa45_0 Wt.no rfl rfl ?_
          refine L.ld (j := 0) bx151.mem nag3 Wt.no rfl rfl rfl rfl ?_
          obtain ⟨x156, ex156, hm⟩ := bindS hm
          refine L.ir (r := rB) sl86 h16 Wt.no rfl rfl ex156 rfl ?_
          rintro b157 o157 cc157 me157 rd157 sp157
          obtain rfl := rd157
          refine L.ld (j := 0) me157 nag4 Wt.no rfl rfl rfl rfl ?_
          refine L.mv Wt.no rfl rfl ?_
          obtain ⟨b158, eb158, hm⟩ := bindS hm
          refine L.cut 7 (fun e w => ∃ (v159 : Bool), b158 = v159 ∧ e = (43, .bool v159) :: [(12, .pointer (some ⟨b151, 0, none⟩)), (27, .int .i64 st139.1), (26, .int .i64 (p0.2.2.2.length : Int)), (25, .slice a3 p0.2.2.2.length c3), (10, .bool st139.2.1), (9, .slice a16 st139.2.2.length c16), (3, .pointer (some ⟨b7, 0, none⟩)), (2, .slice a5 p2.length c5)] ∧ w = s154.w) ?_ ?_
          · rintro _ _ ⟨v159, rfl, rfl, rfl⟩
            refine L.mv Wt.no rfl rfl ?_
            obtain ⟨b160, eb160, hm⟩ := bindS hm
            refine L.cut 5 (fun e w => ∃ (s162 : Sig) (v161 : Bool), b160 = v161 ∧ Mv (Up N No) s s162 ∧ RdL (rP (rK .i64) (rP (rK .i64) (rK .i64))) s162 a3 c3 p0.2.2.2 ∧ RowT rB s162 (N + 2) 4 a16 c16 st139.2.2 ∧ RdL (rK .i64) s162 a5 c5 p2 ∧ RdL (rK .i64) s162 a1 c1 p0.1 ∧ RdL (rK .i64) s162 a2 c2 p0.2.2.1 ∧ Bx s162 (N + 0) b7 #[.slice a1 p0.1.length c1, .int .i64 p0.2.1, .slice a2 p0.2.2.1.length c2, .slice a3 p0.2.2.2.length c3] 31 ∧ Bx s162 (N + 1) b151 #[.int .i64 x149.1, .int .i64 x149.2.1, .int .i64 x149.2.2] 45 ∧ e = (49, .bool v161) :: [(12, .pointer (some ⟨b151, 0, none⟩)), (27, .int .i64 st139.1), (26, .int .i64 (p0.2.2.2.length : Int)), (25, .slice a3 p0.2.2.2.length c3), (10, .bool st139.2.1), (9, .slice a16 st139.2.2.length c16), (3, .pointer (some ⟨b7, 0, none⟩)), (2, .slice a5 p2.length c5)] ∧ w = s162.w) ?_ ?_
            · rintro _ _ ⟨s162, v161, rfl, m0, h3, h16, h5, h1, h2, bx7, bx151, rfl, rfl⟩
              refine L.nil ?_
              refine X.seqN ?_
              rcases ifS hm with ⟨hc, hm⟩ | ⟨hc, hm⟩
              · refine E.cT rfl hc ?_
                refine E.seq ?_
                refine E.reg ?_
                refine L.mv Wt.no rfl rfl ?_
                refine L.fa fa45_0 Wt.no rfl rfl ?_
                refine L.ld (j := 0) bx151.mem nag3 Wt.no rfl rfl rfl rfl ?_
                obtain ⟨x163, ex163, hm⟩ := bindS hm
                refine L.ir (r := rB) sl86 h16 Wt.no rfl rfl ex163 rfl ?_
                rintro b164 o164 cc164 me164 rd164 sp164
                obtain rfl := rd164
                obtain ⟨x165, ex165, hm⟩ := bindS hm
                have elx165 := upd_len ex165
                refine L.su (fo := 0) (c := [.bool false]) (z := false) h16 sp164 ex163 ex165 (tgp hN) nag4.sz Wt.no rfl rfl rfl rfl rfl rfl (fun c0 hc0 => by obtain rfl := hc0; exact rfl) ?_
                intro s166 m167 h16
                replace m0 := m0.trans (m167.one up)
                replace h5 := h5.mono (m167.le (tg0 hN))
                replace h3 := h3.mono (m167.le (tg0 hN))
                replace bx7 := bx7.mv m167 (tgN (by decide))
                replace h1 := h1.mono (m167.le (tg0 hN))
                replace h2 := h2.mono (m167.le (tg0 hN))
                refine L.reval (d := 9) rfl elx165 ?_
                refine L.nil ?_
                refine X.seqN ?_
                refine E.reg ?_
                refine L.as Wt.no rfl rfl ?_
                refine L.nil ?_
                refine X.blkN ?_
                exact X.sub (Jj148 _ _ ⟨s166, true, x165, hm, m0, h16, h3, h5, h1, h2, bx7, rfl, rfl⟩) (Sub.cons rfl (Sub.cons rfl (Sub.cons rfl (Sub.cons rfl (Sub.cons rfl (Sub.cons rfl (Sub.cons rfl Sub.nil)))))))
              · refine E.cF rfl hc ?_
                refine E.skip ?_
                refine X.blkN ?_
                exact X.sub (Jj148 _ _ ⟨s162, st139.2.1, st139.2.2, hm, m0, h16, h3, h5, h1, h2, bx7, rfl, rfl⟩) (Sub.cons rfl (Sub.cons rfl (Sub.cons rfl (Sub.cons rfl (Sub.cons rfl (Sub.cons rfl (Sub.cons rfl Sub.nil)))))))
            · intro J168
              rcases ifS eb160 with ⟨hc, hm⟩ | ⟨hc, hm⟩
              · refine L.know (d := 44) rfl hc ?_
                refine L.mv (Wt.mk rfl rfl) rfl rfl ?_
                refine L.fa fa45_1 (Wt.mk rfl rfl) rfl rfl ?_
                refine L.ld (j := 1) bx151.mem nag3 (Wt.mk rfl rfl) rfl rfl rfl rfl ?_
                obtain ⟨r169, er169, hm⟩ := bindS hm
                refine L.ca (vs := [.slice a5 p2.length c5, .int .i64 x149.2.1]) cf57 rfl rfl (Wt.mk rfl rfl) rfl (m_slices_Contains_int_c (s := s154) (p0 := p2) (p1 := x149.2.1) h5 er169) rfl ?_
                rintro _ s170 m171 rfl
                replace m0 := m0.trans m171.no
                replace h5 := h5.mono (m171.le no_No)
                replace h16 := h16.mv m171 no_No no_No
                replace h3 := h3.mono (m171.le no_No)
                replace bx7 := bx7.mv m171 no_No
                replace h1 := h1.mono (m171.le no_No)
                replace h2 := h2.mono (m171.le no_No)
                replace bx151 := bx151.mv m171 no_No
                refine L.pkT Wt.no rfl rfl rfl rfl ?_
                exact L.sub (Sub.cons rfl (Sub.cons rfl (Sub.cons rfl (Sub.cons rfl (Sub.cons rfl (Sub.cons rfl (Sub.cons rfl (Sub.cons rfl (Sub.cons rfl Sub.nil))))))))) (J168 _ _ ⟨s170, r169, (Option.some.inj hm).symm, m0, h3, h16, h5, h1, h2, bx7, bx151, rfl, rfl⟩)
              · refine L.know (d := 44) rfl hc ?_
                refine L.skip rfl rfl rfl rfl ?_
                refine L.skip rfl rfl rfl rfl ?_
                refine L.skip rfl rfl rfl rfl ?_
                refine L.skip rfl rfl rfl rfl ?_
                refine L.pkF Wt.no rfl rfl rfl rfl ?_
                exact L.sub (Sub.cons rfl (Sub.cons rfl (Sub.cons rfl (Sub.cons rfl (Sub.cons rfl (Sub.cons rfl (Sub.cons rfl (Sub.cons rfl (Sub.cons rfl Sub.nil))))))))) (J168 _ _ ⟨s154, false, (Option.some.inj hm).symm, m0, h3, h16, h5, h1, h2, bx7, bx151, rfl, rfl⟩)
          · intro J172
            rcases ifS eb158 with ⟨hc, hm⟩ | ⟨hc, hm⟩
            · refine L.know (d := 36) rfl hc ?_
              refine L.mv (Wt.mk rfl rfl) rfl rfl ?_
              refine L.fa fa45_2 (Wt.mk rfl rfl) rfl rfl ?_
              refine L.ld (j := 2) bx151.mem nag3 (Wt.mk rfl rfl) rfl rfl rfl rfl ?_
              obtain ⟨x173, ex173, hm⟩ := bindS hm
              refine L.ir (r := rB) sl86 h16 (Wt.mk rfl rfl) rfl rfl ex173 rfl ?_
              rintro b174 o174 cc174 me174 rd174 sp174
              obtain rfl := rd174
              refine L.ld (j := 0) me174 nag4 (Wt.mk rfl rfl) rfl rfl rfl rfl ?_
              refine L.not (Wt.mk rfl rfl) rfl rfl ?_
              refine L.pkT Wt.no rfl rfl rfl rfl ?_
              exact L.sub (Sub.cons rfl (Sub.cons rfl (Sub.cons rfl (Sub.cons rfl (Sub.cons rfl (Sub.cons rfl (Sub.cons rfl (Sub.cons rfl (Sub.cons rfl Sub.nil))))))))) (J172 _ _ ⟨(!x173), (Option.some.inj hm).symm, rfl, rfl⟩)
            · refine L.know (d := 36) rfl hc ?_
              refine L.skip rfl rfl rfl rfl ?_
              refine L.skip rfl rfl rfl rfl ?_
              refine L.skip rfl rfl rfl rfl ?_
              refine L.skip rfl rfl rfl rfl ?_
              refine L.skip rfl rfl rfl rfl ?_
              refine L.skip rfl rfl rfl rfl ?_
              refine L.pkF Wt.no rfl rfl rfl rfl ?_
              exact L.sub (Sub.cons rfl (Sub.cons rfl (Sub.cons rfl (Sub.cons rfl (Sub.cons rfl (Sub.cons rfl (Sub.cons rfl (Sub.cons rfl (Sub.cons rfl Sub.nil))))))))) (J172 _ _ ⟨false, (Option.some.inj hm).symm, rfl, rfl⟩)
      · refine E.cF rfl hc ?_
        refine E.exit ?_
        refine X.seqX ?_
        refine X.seqX ?_
        have hx := ho139 _ (Option.some.inj hm).symm
        subst hx
        exact X.sub (K144 _ _ ⟨s142, m0, h16, h5, h1, h2, h3, bx7, rfl, rfl⟩) (Sub.cons rfl (Sub.cons rfl (Sub.cons rfl (Sub.cons rfl Sub.nil))))
    · refine E.cF rfl hc ?_
      refine E.exit ?_
      refine X.seqX ?_
      refine X.seqX ?_
      have hx := ho93 _ (Option.some.inj hm).symm
      subst hx
      exact X.sub (K102 _ _ ⟨s95, m0, h16, rfl, rfl⟩) (Sub.cons rfl Sub.nil)

noncomputable def m_overseerlaw04_same_l1 (p0 : List Int) (p1 : List Int) (st19 : Int) : Option (Int ⊕ (Unit ⊕ Unit)) :=
  if decide (st19 < (p0.length : Int)) then
    (idx p0 st19).bind fun x30 =>
    (idx p1 st19).bind fun x36 =>
    if (x30 != x36) then
      some (.inr (.inr (())))
    else
      some (.inl (W (st19 + 1)))
  else
    some (.inr (.inl ()))
/-- What overseerlaw04.same computes. -/
noncomputable def m_overseerlaw04_same (p0 : List Int) (p1 : List Int) : Option Bool :=
  if ((p0.length : Int) != (p1.length : Int)) then
    some false
  else
    (iter (m_overseerlaw04_same_l1 p0 p1) 0).bind fun o19 =>
    match o19 with
    | .inl u21 =>
      some true
    | .inr (u24) =>
      some false
set_option maxRecDepth 100000 in
set_option maxHeartbeats 8000000 in
theorem m_overseerlaw04_same_c {s : Sig} {p0 : List Int} {p1 : List Int} {a1 : Option Addr} {c1 : Nat} {a2 : Option Addr} {c2 : Nat} {r : Bool} (h1 : RdL (rK .i64) s a1 c1 p0) (h2 : RdL (rK .i64) s a2 c2 p1) (hm : m_overseerlaw04_same p0 p1 = some r) :
    Calls Try.prog 19 #[.slice a1 p0.length c1, .slice a2 p1.length c2] s.w (RetS No s fun v s' => v = .bool r) := by
  unfold m_overseerlaw04_same at hm
  obtain ⟨N, hN, hNb⟩ := s.fresh
  have m0 : Mv (Up N No) s s := Mv.refl _ _
  refine E.entry (vs := [.slice a1 p0.length c1, .slice a2 p1.length c2]) (e := [(0, .slice a1 p0.length c1), (1, .slice a2 p1.length c2)]) Try.func19 rfl Try.ntmps19 rfl rfl ?_
  refine E.seq ?_
  refine E.reg ?_
  refine L.as Wt.no rfl rfl ?_
  refine L.nil ?_
  refine X.seqN ?_
  refine E.seq ?_
  refine E.seq ?_
  refine E.reg ?_
  refine L.mv Wt.no rfl rfl ?_
  refine L.len sl28 Wt.no rfl rfl ?_
  refine L.mv Wt.no rfl rfl ?_
  refine L.len sl28 Wt.no rfl rfl ?_
  refine L.bi Wt.no rfl rfl rfl rfl ?_
  refine L.nil ?_
  refine X.seqN ?_
  rcases ifS hm with ⟨hc, hm⟩ | ⟨hc, hm⟩
  · refine E.cT rfl hc ?_
    refine E.seq ?_
    refine E.reg ?_
    refine L.as Wt.no rfl rfl ?_
    refine L.nil ?_
    refine X.seqN ?_
    refine E.ret ?_
    refine X.seqR ?_
    obtain rfl := Option.some.inj hm
    exact X.rt (.inl rfl) Try.results19 (Rs.tmp rfl Rs.nil) rfl ⟨_, (s).ren N (fun _ => 0), rfl, rfl, m0.ren hNb, rfl⟩
  · refine E.cF rfl hc ?_
    refine E.skip ?_
    refine X.seqN ?_
    refine E.seq ?_
    refine E.seq ?_
    refine E.reg ?_
    refine L.as Wt.no rfl rfl ?_
    refine L.nil ?_
    refine X.seqN ?_
    refine E.block ?_
    obtain ⟨o19, eo19, hm⟩ := bindS hm
    refine E.cut (x := .exit 0) (fun e w => ∃ (s22 : Sig) (u21 : Unit), o19 = .inl u21 ∧ Mv (Up N No) s s22 ∧ e = [] ∧ w = s22.w) ?_ ?_
    · rintro _ _ ⟨s22, u21, rfl, m0, rfl, rfl⟩
      dsimp only at hm
      refine X.blkE ?_
      refine X.seqN ?_
      refine E.seq ?_
      refine E.reg ?_
      refine L.as Wt.no rfl rfl ?_
      refine L.nil ?_
      refine X.seqN ?_
      refine E.ret ?_
      obtain rfl := Option.some.inj hm
      exact X.rt (.inl rfl) Try.results19 (Rs.tmp rfl Rs.nil) rfl ⟨_, (s22).ren N (fun _ => 0), rfl, rfl, m0.ren hNb, rfl⟩
    intro K23
    refine E.cut (x := .ret) (fun e w => ∃ (s25 : Sig) (u24 : Unit), o19 = .inr (u24) ∧ Mv (Up N No) s s25 ∧ e = [(4, .bool false)] ∧ w = s25.w) ?_ ?_
    · rintro _ _ ⟨s25, u24, rfl, m0, rfl, rfl⟩
      dsimp only at hm
      refine X.blkR ?_
      refine X.seqR ?_
      obtain rfl := Option.some.inj hm
      exact X.rt (.inl rfl) Try.results19 (Rs.tmp rfl Rs.nil) rfl ⟨_, (s25).ren N (fun _ => 0), rfl, rfl, m0.ren hNb, rfl⟩
    intro K26
    refine E.iter (fun (st19 : Int) (e : List (Nat × Value)) (w : World) => ∃ (s20 : Sig), Mv (Up N No) s s20 ∧ RdL (rK .i64) s20 a1 c1 p0 ∧ RdL (rK .i64) s20 a2 c2 p1 ∧ e = [(5, .int .i64 st19), (0, .slice a1 p0.length c1), (1, .slice a2 p1.length c2)] ∧ w = s20.w) eo19 ⟨s, m0, h1, h2, rfl, rfl⟩ (Sub.cons rfl (Sub.cons rfl (Sub.cons rfl Sub.nil))) ?_
    rintro st19 res19 hm ih19 ho19 _ _ ⟨s20, m0, h1, h2, rfl, rfl⟩
    unfold m_overseerlaw04_same_l1 at hm
    refine E.seq ?_
    refine E.seq ?_
    refine E.reg ?_
    refine L.mv Wt.no rfl rfl ?_
    refine L.mv Wt.no rfl rfl ?_
    refine L.len sl28 Wt.no rfl rfl ?_
    refine L.bi Wt.no rfl rfl rfl rfl ?_
    refine L.nil ?_
    refine X.seqN ?_
    rcases ifS hm with ⟨hc, hm⟩ | ⟨hc, hm⟩
    · refine E.cT rfl hc ?_
      refine E.skip ?_
      refine X.seqN ?_
      refine E.seq ?_
      refine E.block ?_
      refine E.seq ?_
      obtain ⟨x30, ex30, hm⟩ := bindS hm
      obtain ⟨x36, ex36, hm⟩ := bindS hm
      refine E.draw [[], [], [0, 1], [0, 1, 2], [], [], [4, 5], [4, 5, 6], [0, 1, 2, 3, 4, 5, 6, 7]] (fun D e sx => Mv No s20 sx ∧ Sub [(5, .int .i64 st19), (0, .slice a1 p0.length c1), (1, .slice a2 p1.length c2)] e ∧ AllP [D 0 = true → (Env.get e 17 = some (.slice a1 p0.length c1)), D 1 = true → (Env.get e 18 = some (.int .i64 st19)), D 2 = true → (∃ (b31 : Nat) (o31 : Nat), Env.get e 19 = some (.pointer (some ⟨b31, o31, none⟩)) ∧ Mem sx 0 b31 o31 [.int .i64 x30]), D 3 = true → (Env.get e 20 = some (.int .i64 x30)), D 4 = true → (Env.get e 21 = some (.slice a2 p1.length c2)), D 5 = true → (Env.get e 22 = some (.int .i64 st19)), D 6 = true → (∃ (b37 : Nat) (o37 : Nat), Env.get e 23 = some (.pointer (some ⟨b37, o37, none⟩)) ∧ Mem sx 0 b37 o37 [.int .i64 x36]), D 7 = true → (Env.get e 24 = some (.int .i64 x36)), D 8 = true → (Env.get e 25 = some (.bool (x30 != x36)))]) (by kernel_rfl) (by kernel_rfl) (by kernel_rfl) ?_ ?_ ?_
      · intro sz mz
        exact ⟨mz, (Sub.cons rfl (Sub.cons rfl (Sub.cons rfl Sub.nil))), nofun, nofun, nofun, nofun, nofun, nofun, nofun, nofun, nofun, trivial⟩
      · refine ⟨?_, ?_, ?_, ?_, ?_, ?_, ?_, ?_, ?_, trivial⟩
        · rintro D e s27 ⟨im, ib, i⟩ hk hf ha
          have kn : Kn e [(0, .slice a1 p0.length c1)] := ⟨(ib 0 _ rfl), trivial⟩
          refine L.kns _ kn ?_
          refine L.mv Wt.no rfl rfl ?_
          refine L.nil ?_
          exact X.dk kn ⟨im, Sub.fresh ib rfl, i.u 0 (fun _ => rfl)⟩
        · rintro D e s28 ⟨im, ib, i⟩ hk hf ha
          have kn : Kn e [(5, .int .i64 st19)] := ⟨(ib 5 _ rfl), trivial⟩
          refine L.kns _ kn ?_
          refine L.mv Wt.no rfl rfl ?_
          refine L.nil ?_
          exact X.dk kn ⟨im, Sub.fresh ib rfl, i.u 1 (fun _ => rfl)⟩
        · rintro D e s29 ⟨im, ib, i⟩ hk hf ha
          have g0_ := (i.p 0) (ha.at 0 rfl)
          have g1_ := (i.p 1) (ha.at 1 rfl)
          have h1 := h1.mono (im.le no_No)
          have kn : Kn e [(17, .slice a1 p0.length c1), (18, .int .i64 st19)] := ⟨g0_, g1_, trivial⟩
          refine L.kns _ kn ?_
          refine L.ix (r := (rK .i64)) sl28 h1 Wt.no rfl rfl ex30 rfl ?_
          rintro b31 o31 cc31 me31 rd31
          obtain rfl := rd31
          refine L.nil ?_
          exact X.dk kn ⟨im, Sub.fresh ib rfl, i.u 2 (fun _ => ⟨b31, o31, rfl, me31⟩)⟩
        · rintro D e s32 ⟨im, ib, i⟩ hk hf ha
          obtain ⟨b31, o31, g2_, me31⟩ := (i.p 2) (ha.at 2 rfl)
          have kn : Kn e [(19, .pointer (some ⟨b31, o31, none⟩))] := ⟨g2_, trivial⟩
          refine L.kns _ kn ?_
          refine L.ld (j := 0) me31 nag3 Wt.no rfl rfl rfl rfl ?_
          refine L.nil ?_
          exact X.dk kn ⟨im, Sub.fresh ib rfl, i.u 3 (fun _ => rfl)⟩
        · rintro D e s33 ⟨im, ib, i⟩ hk hf ha
          have kn : Kn e [(1, .slice a2 p1.length c2)] := ⟨(ib 1 _ rfl), trivial⟩
          refine L.kns _ kn ?_
          refine L.mv Wt.no rfl rfl ?_
          refine L.nil ?_
          exact X.dk kn ⟨im, Sub.fresh ib rfl, i.u 4 (fun _ => rfl)⟩
        · rintro D e s34 ⟨im, ib, i⟩ hk hf ha
          have kn : Kn e [(5, .int .i64 st19)] := ⟨(ib 5 _ rfl), trivial⟩
          refine L.kns _ kn ?_
          refine L.mv Wt.no rfl rfl ?_
          refine L.nil ?_
          exact X.dk kn ⟨im, Sub.fresh ib rfl, i.u 5 (fun _ => rfl)⟩
        · rintro D e s35 ⟨im, ib, i⟩ hk hf ha
          have g4_ := (i.p 4) (ha.at 4 rfl)
          have g5_ := (i.p 5) (ha.at 5 rfl)
          have h2 := h2.mono (im.le no_No)
          have kn : Kn e [(21, .slice a2 p1.length c2), (22, .int .i64 st19)] := ⟨g4_, g5_, trivial⟩
          refine L.kns _ kn ?_
          refine L.ix (r := (rK .i64)) sl28 h2 Wt.no rfl rfl ex36 rfl ?_
          rintro b37 o37 cc37 me37 rd37
          obtain rfl := rd37
          refine L.nil ?_
          exact X.dk kn ⟨im, Sub.fresh ib rfl, i.u 6 (fun _ => ⟨b37, o37, rfl, me37⟩)⟩
        · rintro D e s38 ⟨im, ib, i⟩ hk hf ha
          obtain ⟨b37, o37, g6_, me37⟩ := (i.p 6) (ha.at 6 rfl)
          have kn : Kn e [(23, .pointer (some ⟨b37, o37, none⟩))] := ⟨g6_, trivial⟩
          refine L.kns _ kn ?_
          refine L.ld (j := 0) me37 nag3 Wt.no rfl rfl rfl rfl ?_
          refine L.nil ?_
          exact X.dk kn ⟨im, Sub.fresh ib rfl, i.u 7 (fun _ => rfl)⟩
        · rintro D e s39 ⟨im, ib, i⟩ hk hf ha
          have g3_ := (i.p 3) (ha.at 3 rfl)
          have g7_ := (i.p 7) (ha.at 7 rfl)
          have kn : Kn e [(20, .int .i64 x30), (24, .int .i64 x36)] := ⟨g3_, g7_, trivial⟩
          refine L.kns _ kn ?_
          refine L.bi Wt.no rfl rfl rfl rfl ?_
          refine L.nil ?_
          exact X.dk kn ⟨im, Sub.fresh ib rfl, i.u 8 (fun _ => rfl)⟩
      · rintro D e s40 hD ⟨im, ib, i⟩
        have g8_ := (i.p 8) (hD 8 rfl)
        have h1 := h1.mono (im.le no_No)
        have h2 := h2.mono (im.le no_No)
        have m0 := m0.trans im.no
        refine X.sub (e' := [(25, .bool (x30 != x36)), (5, .int .i64 st19), (0, .slice a1 p0.length c1), (1, .slice a2 p1.length c2)]) ?_ (Sub.cons g8_ (Sub.cons (ib 5 _ rfl) (Sub.cons (ib 0 _ rfl) (Sub.cons (ib 1 _ rfl) Sub.nil))))
        refine X.seqN ?_
        rcases ifS hm with ⟨hc, hm⟩ | ⟨hc, hm⟩
        · refine E.cT rfl hc ?_
          refine E.seq ?_
          refine E.reg ?_
          refine L.as Wt.no rfl rfl ?_
          refine L.nil ?_
          refine X.seqN ?_
          refine E.ret ?_
          refine X.blkR ?_
          refine X.seqR ?_
          refine X.seqR ?_
          have hx := ho19 _ (Option.some.inj hm).symm
          exact X.sub (K26 _ _ ⟨s40, (), hx.symm, m0, rfl, rfl⟩) (Sub.cons rfl Sub.nil)
        · refine E.cF rfl hc ?_
          refine E.skip ?_
          refine X.blkN ?_
          refine X.seqN ?_
          refine E.reg ?_
          refine L.mv Wt.no rfl rfl ?_
          refine L.bi Wt.no rfl rfl rfl rfl ?_
          refine L.as Wt.no rfl rfl ?_
          refine L.nil ?_
          exact X.sub (ih19 _ (Option.some.inj hm).symm _ _ ⟨s40, m0, h1, h2, rfl, rfl⟩) (Sub.cons rfl (Sub.cons rfl (Sub.cons rfl Sub.nil)))
    · refine E.cF rfl hc ?_
      refine E.exit ?_
      refine X.seqX ?_
      refine X.seqX ?_
      have hx := ho19 _ (Option.some.inj hm).symm
      exact X.sub (K23 _ _ ⟨s20, (), hx.symm, m0, rfl, rfl⟩) Sub.nil

theorem cf15 : Cf Try.prog 15 := Cf.mk Try.func15 (by kernel_rfl) (by kernel_rfl)
theorem cf17 : Cf Try.prog 17 := Cf.mk Try.func17 (by kernel_rfl) (by kernel_rfl)
theorem cf19 : Cf Try.prog 19 := Cf.mk Try.func19 (by kernel_rfl) (by kernel_rfl)
theorem cf23 : Cf Try.prog 23 := Cf.mk Try.func23 (by kernel_rfl) (by kernel_rfl)
theorem cf27 : Cf Try.prog 27 := Cf.mk Try.func27 (by kernel_rfl) (by kernel_rfl)
theorem cf46 : Cf Try.prog 46 := Cf.mk Try.func46 (by kernel_rfl) (by kernel_rfl)
/-- What overseerlaw04.known computes. -/
noncomputable def m_overseerlaw04_known : Option Bool :=
  (m_overseerlaw04_example).bind fun r1 =>
  (m_reach_Coreachable r1).bind fun r7 =>
  (m_overseerlaw04_example).bind fun r11 =>
  (m_reach_Distances r11 ([3] : List Int)).bind fun r20 =>
  (m_overseerlaw04_example).bind fun r24 =>
  (m_reach_Path r24 0 ([3] : List Int) ([0, 1, 2, 3] : List Int)).bind fun r36 =>
  (m_overseerlaw04_example).bind fun r40 =>
  (m_reach_Interior r40 ([0, 1, 2] : List Int) ([0] : List Int)).bind fun r52 =>
  (if (r7.2 == 0) then
    (m_overseerlaw04_same r7.1 ([0, 1] : List Int)).bind fun r101 =>
    some r101
  else
    some false).bind fun b56 =>
  (if (b56 && (r20.2 == 0)) then
    (m_overseerlaw04_same r20.1 ([2, (-1), 1, 0] : List Int)).bind fun r93 =>
    some r93
  else
    some false).bind fun b60 =>
  (if ((b60 && (r36.2.2 == 0)) && r36.2.1) then
    (m_overseerlaw04_same r36.1 ([1, 0] : List Int)).bind fun r84 =>
    some r84
  else
    some false).bind fun b65 =>
  (if (b65 && (r52.2 == 0)) then
    (m_overseerlaw04_same r52.1 ([0, 1] : List Int)).bind fun r76 =>
    some r76
  else
    some false).bind fun b69 =>
  some b69
set_option maxRecDepth 100000 in
set_option maxHeartbeats 8000000 in
theorem m_overseerlaw04_known_c {s : Sig} {r : Bool} (hm : m_overseerlaw04_known = some r) :
    Calls Try.prog 12 #[] s.w (RetS No s fun v s' => v = .bool r) := by
  unfold m_overseerlaw04_known at hm
  obtain ⟨N, hN, hNb⟩ := s.fresh
  have m0 : Mv (Up N No) s s := Mv.refl _ _
  refine E.entry (vs := []) (e := []) Try.func12 rfl Try.ntmps12 rfl rfl ?_
  refine E.seq ?_
  refine E.reg ?_
  refine L.as Wt.no rfl rfl ?_
  refine L.nil ?_
  refine X.seqN ?_
  refine E.seq ?_
  refine E.reg ?_
  obtain ⟨r1, er1, hm⟩ := bindS hm
  refine L.ca (vs := []) cf46 rfl rfl Wt.no rfl (m_overseerlaw04_example_c (s := s) er1) rfl ?_
  rintro _ s2 m3 ⟨a4, c4, a5, c5, a6, c6, rfl, h4, h5, h6⟩
  replace m0 := m0.trans m3.no
  obtain ⟨r7, er7, hm⟩ := bindS hm
  refine L.ca (vs := [.agg #[.slice a4 r1.1.length c4, .int .i64 r1.2.1, .slice a5 r1.2.2.1.length c5, .slice a6 r1.2.2.2.length c6]]) cf27 rfl rfl Wt.no rfl (m_reach_Coreachable_c (s := s2) (p0 := r1) (u0 := 0) h4 h5 h6 er7) rfl ?_
  rintro _ s8 m9 ⟨a10, c10, rfl, h10⟩
  replace h10 := h10.p
  replace m0 := m0.trans m9.no
  refine L.mv Wt.no rfl rfl ?_
  refine L.ex Wt.no rfl rfl rfl ?_
  refine L.ex Wt.no rfl rfl rfl ?_
  refine L.as Wt.no rfl rfl ?_
  refine L.as Wt.no rfl rfl ?_
  refine L.nil ?_
  refine X.seqN ?_
  refine E.seq ?_
  refine E.reg ?_
  obtain ⟨r11, er11, hm⟩ := bindS hm
  refine L.ca (vs := []) cf46 rfl rfl Wt.no rfl (m_overseerlaw04_example_c (s := s8) er11) rfl ?_
  rintro _ s12 m13 ⟨a14, c14, a15, c15, a16, c16, rfl, h14, h15, h16⟩
  replace m0 := m0.trans m13.no
  replace h10 := h10.mono (m13.le no_No)
  refine L.bsE (k := 1) (cs := [.int .i64 3]) 0 bs28 (Nat.le_of_ble_eq_true rfl) Wt.no rfl rfl rfl rfl ?_
  intro b17 s18 m19 bx17
  replace m0 := m0.trans m19.no
  replace h14 := h14.mono (m19.le no_No)
  replace h15 := h15.mono (m19.le no_No)
  replace h16 := h16.mono (m19.le no_No)
  replace h10 := h10.mono (m19.le no_No)
  have h17 := Bx.rdL (r := (rK .i64)) (xs := ([3] : List Int)) bx17 ⟨[.int .i64 3], _, rfl, rfl, rfl⟩ (Nat.le_of_ble_eq_true rfl)
  obtain ⟨r20, er20, hm⟩ := bindS hm
  refine L.ca (vs := [.agg #[.slice a14 r11.1.length c14, .int .i64 r11.2.1, .slice a15 r11.2.2.1.length c15, .slice a16 r11.2.2.2.length c16], .slice (some ⟨b17, 0, none⟩) ([3] : List Int).length (([3] : List Int).length)]) cf15 rfl rfl Wt.no rfl (m_reach_Distances_c (s := s18) (p0 := r11) (p1 := ([3] : List Int)) h14 h15 h16 h17 er20) rfl ?_
  rintro _ s21 m22 ⟨a23, c23, rfl, h23⟩
  replace m0 := m0.trans m22.no
  replace h10 := h10.mono (m22.le no_No)
  refine L.mv Wt.no rfl rfl ?_
  refine L.ex Wt.no rfl rfl rfl ?_
  refine L.ex Wt.no rfl rfl rfl ?_
  refine L.as Wt.no rfl rfl ?_
  refine L.as Wt.no rfl rfl ?_
  refine L.nil ?_
  refine X.seqN ?_
  refine E.seq ?_
  refine E.reg ?_
  obtain ⟨r24, er24, hm⟩ := bindS hm
  refine L.ca (vs := []) cf46 rfl rfl Wt.no rfl (m_overseerlaw04_example_c (s := s21) er24) rfl ?_
  rintro _ s25 m26 ⟨a27, c27, a28, c28, a29, c29, rfl, h27, h28, h29⟩
  replace m0 := m0.trans m26.no
  replace h10 := h10.mono (m26.le no_No)
  replace h23 := h23.mono (m26.le no_No)
  refine L.bsE (k := 1) (cs := [.int .i64 3]) 0 bs28 (Nat.le_of_ble_eq_true rfl) Wt.no rfl rfl rfl rfl ?_
  intro b30 s31 m32 bx30
  replace m0 := m0.trans m32.no
  replace h10 := h10.mono (m32.le no_No)
  replace h23 := h23.mono (m32.le no_No)
  replace h27 := h27.mono (m32.le no_No)
  replace h28 := h28.mono (m32.le no_No)
  replace h29 := h29.mono (m32.le no_No)
  have h30 := Bx.rdL (r := (rK .i64)) (xs := ([3] : List Int)) bx30 ⟨[.int .i64 3], _, rfl, rfl, rfl⟩ (Nat.le_of_ble_eq_true rfl)
  refine L.bsE (k := 4) (cs := [.int .i64 0, .int .i64 1, .int .i64 2, .int .i64 3]) 0 bs28 (Nat.le_of_ble_eq_true rfl) Wt.no rfl rfl rfl rfl ?_
  intro b33 s34 m35 bx33
  replace m0 := m0.trans m35.no
  replace h10 := h10.mono (m35.le no_No)
  replace h23 := h23.mono (m35.le no_No)
  replace h27 := h27.mono (m35.le no_No)
  replace h28 := h28.mono (m35.le no_No)
  replace h29 := h29.mono (m35.le no_No)
  replace h30 := h30.mono (m35.le no_No)
  have h33 := Bx.rdL (r := (rK .i64)) (xs := ([0, 1, 2, 3] : List Int)) bx33 ⟨[.int .i64 0], _, rfl, rfl, ⟨[.int .i64 1], _, rfl, rfl, ⟨[.int .i64 2], _, rfl, rfl, ⟨[.int .i64 3], _, rfl, rfl, rfl⟩⟩⟩⟩ (Nat.le_of_ble_eq_true rfl)
  obtain ⟨r36, er36, hm⟩ := bindS hm
  refine L.ca (vs := [.agg #[.slice a27 r24.1.length c27, .int .i64 r24.2.1, .slice a28 r24.2.2.1.length c28, .slice a29 r24.2.2.2.length c29], .int .i64 0, .slice (some ⟨b30, 0, none⟩) ([3] : List Int).length (([3] : List Int).length), .slice (some ⟨b33, 0, none⟩) ([0, 1, 2, 3] : List Int).length (([0, 1, 2, 3] : List Int).length)]) cf17 rfl rfl Wt.no rfl (m_reach_Path_c (s := s34) (p0 := r24) (p1 := 0) (p2 := ([3] : List Int)) (p3 := ([0, 1, 2, 3] : List Int)) h27 h28 h29 h30 h33 er36) rfl ?_
  rintro _ s37 m38 ⟨a39, c39, rfl, h39⟩
  replace m0 := m0.trans m38.no
  replace h10 := h10.mono (m38.le no_No)
  replace h23 := h23.mono (m38.le no_No)
  refine L.mv Wt.no rfl rfl ?_
  refine L.ex Wt.no rfl rfl rfl ?_
  refine L.ex Wt.no rfl rfl rfl ?_
  refine L.ex Wt.no rfl rfl rfl ?_
  refine L.as Wt.no rfl rfl ?_
  refine L.as Wt.no rfl rfl ?_
  refine L.as Wt.no rfl rfl ?_
  refine L.nil ?_
  refine X.seqN ?_
  refine E.seq ?_
  refine E.reg ?_
  obtain ⟨r40, er40, hm⟩ := bindS hm
  refine L.ca (vs := []) cf46 rfl rfl Wt.no rfl (m_overseerlaw04_example_c (s := s37) er40) rfl ?_
  rintro _ s41 m42 ⟨a43, c43, a44, c44, a45, c45, rfl, h43, h44, h45⟩
  replace m0 := m0.trans m42.no
  replace h10 := h10.mono (m42.le no_No)
  replace h23 := h23.mono (m42.le no_No)
  replace h39 := h39.mono (m42.le no_No)
  refine L.bsE (k := 3) (cs := [.int .i64 0, .int .i64 1, .int .i64 2]) 0 bs28 (Nat.le_of_ble_eq_true rfl) Wt.no rfl rfl rfl rfl ?_
  intro b46 s47 m48 bx46
  replace m0 := m0.trans m48.no
  replace h10 := h10.mono (m48.le no_No)
  replace h23 := h23.mono (m48.le no_No)
  replace h39 := h39.mono (m48.le no_No)
  replace h43 := h43.mono (m48.le no_No)
  replace h44 := h44.mono (m48.le no_No)
  replace h45 := h45.mono (m48.le no_No)
  have h46 := Bx.rdL (r := (rK .i64)) (xs := ([0, 1, 2] : List Int)) bx46 ⟨[.int .i64 0], _, rfl, rfl, ⟨[.int .i64 1], _, rfl, rfl, ⟨[.int .i64 2], _, rfl, rfl, rfl⟩⟩⟩ (Nat.le_of_ble_eq_true rfl)
  refine L.bsE (k := 1) (cs := [.int .i64 0]) 0 bs28 (Nat.le_of_ble_eq_true rfl) Wt.no rfl rfl rfl rfl ?_
  intro b49 s50 m51 bx49
  replace m0 := m0.trans m51.no
  replace h10 := h10.mono (m51.le no_No)
  replace h23 := h23.mono (m51.le no_No)
  replace h39 := h39.mono (m51.le no_No)
  replace h43 := h43.mono (m51.le no_No)
  replace h44 := h44.mono (m51.le no_No)
  replace h45 := h45.mono (m51.le no_No)
  replace h46 := h46.mono (m51.le no_No)
  have h49 := Bx.rdL (r := (rK .i64)) (xs := ([0] : List Int)) bx49 ⟨[.int .i64 0], _, rfl, rfl, rfl⟩ (Nat.le_of_ble_eq_true rfl)
  obtain ⟨r52, er52, hm⟩ := bindS hm
  refine L.ca (vs := [.agg #[.slice a43 r40.1.length c43, .int .i64 r40.2.1, .slice a44 r40.2.2.1.length c44, .slice a45 r40.2.2.2.length c45], .slice (some ⟨b46, 0, none⟩) ([0, 1, 2] : List Int).length (([0, 1, 2] : List Int).length), .slice (some ⟨b49, 0, none⟩) ([0] : List Int).length (([0] : List Int).length)]) cf23 rfl rfl Wt.no rfl (m_reach_Interior_c (s := s50) (p0 := r40) (p1 := ([0, 1, 2] : List Int)) (p2 := ([0] : List Int)) (u0 := 0) h43 h44 h45 h46 h49 er52) rfl ?_
  rintro _ s53 m54 ⟨a55, c55, rfl, h55⟩
  replace h55 := h55.p
  replace m0 := m0.trans m54.no
  replace h10 := h10.mono (m54.le no_No)
  replace h23 := h23.mono (m54.le no_No)
  replace h39 := h39.mono (m54.le no_No)
  refine L.mv Wt.no rfl rfl ?_
  refine L.ex Wt.no rfl rfl rfl ?_
  refine L.ex Wt.no rfl rfl rfl ?_
  refine L.as Wt.no rfl rfl ?_
  refine L.as Wt.no rfl rfl ?_
  refine L.nil ?_
  refine X.seqN ?_
  refine E.seq ?_
  refine E.reg ?_
  refine L.mv Wt.no rfl rfl ?_
  refine L.bi Wt.no rfl rfl rfl rfl ?_
  refine L.mv Wt.no rfl rfl ?_
  obtain ⟨b56, eb56, hm⟩ := bindS hm
  refine L.cut 4 (fun e w => ∃ (s58 : Sig) (v57 : Bool), b56 = v57 ∧ Mv (Up N No) s s58 ∧ RdL (rK .i64) s58 a55 c55 r52.1 ∧ RdL (rK .i64) s58 a39 c39 r36.1 ∧ RdL (rK .i64) s58 a23 c23 r20.1 ∧ e = (42, .bool v57) :: [(9, .int .i64 r52.2), (8, .slice a55 r52.1.length c55), (7, .int .i64 r36.2.2), (6, .bool r36.2.1), (5, .slice a39 r36.1.length c39), (4, .int .i64 r20.2), (3, .slice a23 r20.1.length c23)] ∧ w = s58.w) ?_ ?_
  · rintro _ _ ⟨s58, v57, rfl, m0, h55, h39, h23, rfl, rfl⟩
    refine L.mv Wt.no rfl rfl ?_
    refine L.cut 3 (fun e w => ∃ (v59 : Bool), (b56 && (r20.2 == 0)) = v59 ∧ e = (46, .bool v59) :: [(9, .int .i64 r52.2), (8, .slice a55 r52.1.length c55), (7, .int .i64 r36.2.2), (6, .bool r36.2.1), (5, .slice a39 r36.1.length c39), (3, .slice a23 r20.1.length c23)] ∧ w = s58.w) ?_ ?_
    · rintro _ _ ⟨v59, rfl, rfl, rfl⟩
      refine L.mv Wt.no rfl rfl ?_
      obtain ⟨b60, eb60, hm⟩ := bindS hm
      refine L.cut 4 (fun e w => ∃ (s62 : Sig) (v61 : Bool), b60 = v61 ∧ Mv (Up N No) s s62 ∧ RdL (rK .i64) s62 a55 c55 r52.1 ∧ RdL (rK .i64) s62 a39 c39 r36.1 ∧ e = (51, .bool v61) :: [(9, .int .i64 r52.2), (8, .slice a55 r52.1.length c55), (7, .int .i64 r36.2.2), (6, .bool r36.2.1), (5, .slice a39 r36.1.length c39)] ∧ w = s62.w) ?_ ?_
      · rintro _ _ ⟨s62, v61, rfl, m0, h55, h39, rfl, rfl⟩
        refine L.mv Wt.no rfl rfl ?_
        refine L.cut 3 (fun e w => ∃ (v63 : Bool), (b60 && (r36.2.2 == 0)) = v63 ∧ e = (55, .bool v63) :: [(9, .int .i64 r52.2), (8, .slice a55 r52.1.length c55), (6, .bool r36.2.1), (5, .slice a39 r36.1.length c39)] ∧ w = s62.w) ?_ ?_
        · rintro _ _ ⟨v63, rfl, rfl, rfl⟩
          refine L.mv Wt.no rfl rfl ?_
          refine L.cut 2 (fun e w => ∃ (v64 : Bool), ((b60 && (r36.2.2 == 0)) && r36.2.1) = v64 ∧ e = (58, .bool v64) :: [(9, .int .i64 r52.2), (8, .slice a55 r52.1.length c55), (5, .slice a39 r36.1.length c39)] ∧ w = s62.w) ?_ ?_
          · rintro _ _ ⟨v64, rfl, rfl, rfl⟩
            refine L.mv Wt.no rfl rfl ?_
            obtain ⟨b65, eb65, hm⟩ := bindS hm
            refine L.cut 4 (fun e w => ∃ (s67 : Sig) (v66 : Bool), b65 = v66 ∧ Mv (Up N No) s s67 ∧ RdL (rK .i64) s67 a55 c55 r52.1 ∧ e = (63, .bool v66) :: [(9, .int .i64 r52.2), (8, .slice a55 r52.1.length c55)] ∧ w = s67.w) ?_ ?_
            · rintro _ _ ⟨s67, v66, rfl, m0, h55, rfl, rfl⟩
              refine L.mv Wt.no rfl rfl ?_
              refine L.cut 3 (fun e w => ∃ (v68 : Bool), (b65 && (r52.2 == 0)) = v68 ∧ e = (67, .bool v68) :: [(8, .slice a55 r52.1.length c55)] ∧ w = s67.w) ?_ ?_
              · rintro _ _ ⟨v68, rfl, rfl, rfl⟩
                refine L.mv Wt.no rfl rfl ?_
                obtain ⟨b69, eb69, hm⟩ := bindS hm
                refine L.cut 4 (fun e w => ∃ (s71 : Sig) (v70 : Bool), b69 = v70 ∧ Mv (Up N No) s s71 ∧ e = (72, .bool v70) :: [] ∧ w = s71.w) ?_ ?_
                · rintro _ _ ⟨s71, v70, rfl, m0, rfl, rfl⟩
                  refine L.as Wt.no rfl rfl ?_
                  refine L.nil ?_
                  refine X.seqN ?_
                  refine E.ret ?_
                  obtain rfl := Option.some.inj hm
                  exact X.rt (.inl rfl) Try.results12 (Rs.tmp rfl Rs.nil) rfl ⟨_, (s71).ren N (fun _ => 0), rfl, rfl, m0.ren hNb, rfl⟩
                · intro J72
                  rcases ifS eb69 with ⟨hc, hm⟩ | ⟨hc, hm⟩
                  · refine L.know (d := 68) rfl hc ?_
                    refine L.mv (Wt.mk rfl rfl) rfl rfl ?_
                    refine L.bsE (k := 2) (cs := [.int .i64 0, .int .i64 1]) 0 bs28 (Nat.le_of_ble_eq_true rfl) (Wt.mk rfl rfl) rfl rfl rfl rfl ?_
                    intro b73 s74 m75 bx73
                    replace m0 := m0.trans m75.no
                    replace h55 := h55.mono (m75.le no_No)
                    have h73 := Bx.rdL (r := (rK .i64)) (xs := ([0, 1] : List Int)) bx73 ⟨[.int .i64 0], _, rfl, rfl, ⟨[.int .i64 1], _, rfl, rfl, rfl⟩⟩ (Nat.le_of_ble_eq_true rfl)
                    obtain ⟨r76, er76, hm⟩ := bindS hm
                    refine L.ca (vs := [.slice a55 r52.1.length c55, .slice (some ⟨b73, 0, none⟩) ([0, 1] : List Int).length (([0, 1] : List Int).length)]) cf19 rfl rfl (Wt.mk rfl rfl) rfl (m_overseerlaw04_same_c (s := s74) (p0 := r52.1) (p1 := ([0, 1] : List Int)) h55 h73 er76) rfl ?_
                    rintro _ s77 m78 rfl
                    replace m0 := m0.trans m78.no
                    refine L.pkT Wt.no rfl rfl rfl rfl ?_
                    exact L.sub (Sub.cons rfl Sub.nil) (J72 _ _ ⟨s77, r76, (Option.some.inj hm).symm, m0, rfl, rfl⟩)
                  · refine L.know (d := 68) rfl hc ?_
                    refine L.skip rfl rfl rfl rfl ?_
                    refine L.skip rfl rfl rfl rfl ?_
                    refine L.skip rfl rfl rfl rfl ?_
                    refine L.pkF Wt.no rfl rfl rfl rfl ?_
                    exact L.sub (Sub.cons rfl Sub.nil) (J72 _ _ ⟨s67, false, (Option.some.inj hm).symm, m0, rfl, rfl⟩)
              · intro J79
                rcases Bool.eq_false_or_eq_true b65 with hc | hc
                · refine L.know (d := 64) rfl hc ?_
                  refine L.mv (Wt.mk rfl rfl) rfl rfl ?_
                  refine L.bi (Wt.mk rfl rfl) rfl rfl rfl rfl ?_
                  refine L.pkT Wt.no rfl rfl rfl rfl ?_
                  exact L.sub (Sub.cons rfl (Sub.cons rfl Sub.nil)) (J79 _ _ ⟨(r52.2 == 0), (andT hc).symm, rfl, rfl⟩)
                · refine L.know (d := 64) rfl hc ?_
                  refine L.skip rfl rfl rfl rfl ?_
                  refine L.skip rfl rfl rfl rfl ?_
                  refine L.pkF Wt.no rfl rfl rfl rfl ?_
                  exact L.sub (Sub.cons rfl (Sub.cons rfl Sub.nil)) (J79 _ _ ⟨false, (andF hc).symm, rfl, rfl⟩)
            · intro J80
              rcases ifS eb65 with ⟨hc, hm⟩ | ⟨hc, hm⟩
              · refine L.know (d := 59) rfl hc ?_
                refine L.mv (Wt.mk rfl rfl) rfl rfl ?_
                refine L.bsE (k := 2) (cs := [.int .i64 1, .int .i64 0]) 0 bs28 (Nat.le_of_ble_eq_true rfl) (Wt.mk rfl rfl) rfl rfl rfl rfl ?_
                intro b81 s82 m83 bx81
                replace m0 := m0.trans m83.no
                replace h55 := h55.mono (m83.le no_No)
                replace h39 := h39.mono (m83.le no_No)
                have h81 := Bx.rdL (r := (rK .i64)) (xs := ([1, 0] : List Int)) bx81 ⟨[.int .i64 1], _, rfl, rfl, ⟨[.int .i64 0], _, rfl, rfl, rfl⟩⟩ (Nat.le_of_ble_eq_true rfl)
                obtain ⟨r84, er84, hm⟩ := bindS hm
                refine L.ca (vs := [.slice a39 r36.1.length c39, .slice (some ⟨b81, 0, none⟩) ([1, 0] : List Int).length (([1, 0] : List Int).length)]) cf19 rfl rfl (Wt.mk rfl rfl) rfl (m_overseerlaw04_same_c (s := s82) (p0 := r36.1) (p1 := ([1, 0] : List Int)) h39 h81 er84) rfl ?_
                rintro _ s85 m86 rfl
                replace m0 := m0.trans m86.no
                replace h55 := h55.mono (m86.le no_No)
                refine L.pkT Wt.no rfl rfl rfl rfl ?_
                exact L.sub (Sub.cons rfl (Sub.cons rfl (Sub.cons rfl Sub.nil))) (J80 _ _ ⟨s85, r84, (Option.some.inj hm).symm, m0, h55, rfl, rfl⟩)
              · refine L.know (d := 59) rfl hc ?_
                refine L.skip rfl rfl rfl rfl ?_
                refine L.skip rfl rfl rfl rfl ?_
                refine L.skip rfl rfl rfl rfl ?_
                refine L.pkF Wt.no rfl rfl rfl rfl ?_
                exact L.sub (Sub.cons rfl (Sub.cons rfl (Sub.cons rfl Sub.nil))) (J80 _ _ ⟨s62, false, (Option.some.inj hm).symm, m0, h55, rfl, rfl⟩)
          · intro J87
            rcases Bool.eq_false_or_eq_true (b60 && (r36.2.2 == 0)) with hc | hc
            · refine L.know (d := 56) rfl hc ?_
              refine L.mv (Wt.mk rfl rfl) rfl rfl ?_
              refine L.pkT Wt.no rfl rfl rfl rfl ?_
              exact L.sub (Sub.cons rfl (Sub.cons rfl (Sub.cons rfl (Sub.cons rfl Sub.nil)))) (J87 _ _ ⟨r36.2.1, (andT hc).symm, rfl, rfl⟩)
            · refine L.know (d := 56) rfl hc ?_
              refine L.skip rfl rfl rfl rfl ?_
              refine L.pkF Wt.no rfl rfl rfl rfl ?_
              exact L.sub (Sub.cons rfl (Sub.cons rfl (Sub.cons rfl (Sub.cons rfl Sub.nil)))) (J87 _ _ ⟨false, (andF hc).symm, rfl, rfl⟩)
        · intro J88
          rcases Bool.eq_false_or_eq_true b60 with hc | hc
          · refine L.know (d := 52) rfl hc ?_
            refine L.mv (Wt.mk rfl rfl) rfl rfl ?_
            refine L.bi (Wt.mk rfl rfl) rfl rfl rfl rfl ?_
            refine L.pkT Wt.no rfl rfl rfl rfl ?_
            exact L.sub (Sub.cons rfl (Sub.cons rfl (Sub.cons rfl (Sub.cons rfl (Sub.cons rfl Sub.nil))))) (J88 _ _ ⟨(r36.2.2 == 0), (andT hc).symm, rfl, rfl⟩)
          · refine L.know (d := 52) rfl hc ?_
            refine L.skip rfl rfl rfl rfl ?_
            refine L.skip rfl rfl rfl rfl ?_
            refine L.pkF Wt.no rfl rfl rfl rfl ?_
            exact L.sub (Sub.cons rfl (Sub.cons rfl (Sub.cons rfl (Sub.cons rfl (Sub.cons rfl Sub.nil))))) (J88 _ _ ⟨false, (andF hc).symm, rfl, rfl⟩)
      · intro J89
        rcases ifS eb60 with ⟨hc, hm⟩ | ⟨hc, hm⟩
        · refine L.know (d := 47) rfl hc ?_
          refine L.mv (Wt.mk rfl rfl) rfl rfl ?_
          refine L.bsE (k := 4) (cs := [.int .i64 2, .int .i64 (-1), .int .i64 1, .int .i64 0]) 0 bs28 (Nat.le_of_ble_eq_true rfl) (Wt.mk rfl rfl) rfl rfl rfl rfl ?_
          intro b90 s91 m92 bx90
          replace m0 := m0.trans m92.no
          replace h39 := h39.mono (m92.le no_No)
          replace h55 := h55.mono (m92.le no_No)
          replace h23 := h23.mono (m92.le no_No)
          have h90 := Bx.rdL (r := (rK .i64)) (xs := ([2, (-1), 1, 0] : List Int)) bx90 ⟨[.int .i64 2], _, rfl, rfl, ⟨[.int .i64 (-1)], _, rfl, rfl, ⟨[.int .i64 1], _, rfl, rfl, ⟨[.int .i64 0], _, rfl, rfl, rfl⟩⟩⟩⟩ (Nat.le_of_ble_eq_true rfl)
          obtain ⟨r93, er93, hm⟩ := bindS hm
          refine L.ca (vs := [.slice a23 r20.1.length c23, .slice (some ⟨b90, 0, none⟩) ([2, (-1), 1, 0] : List Int).length (([2, (-1), 1, 0] : List Int).length)]) cf19 rfl rfl (Wt.mk rfl rfl) rfl (m_overseerlaw04_same_c (s := s91) (p0 := r20.1) (p1 := ([2, (-1), 1, 0] : List Int)) h23 h90 er93) rfl ?_
          rintro _ s94 m95 rfl
          replace m0 := m0.trans m95.no
          replace h39 := h39.mono (m95.le no_No)
          replace h55 := h55.mono (m95.le no_No)
          refine L.pkT Wt.no rfl rfl rfl rfl ?_
          exact L.sub (Sub.cons rfl (Sub.cons rfl (Sub.cons rfl (Sub.cons rfl (Sub.cons rfl (Sub.cons rfl Sub.nil)))))) (J89 _ _ ⟨s94, r93, (Option.some.inj hm).symm, m0, h55, h39, rfl, rfl⟩)
        · refine L.know (d := 47) rfl hc ?_
          refine L.skip rfl rfl rfl rfl ?_
          refine L.skip rfl rfl rfl rfl ?_
          refine L.skip rfl rfl rfl rfl ?_
          refine L.pkF Wt.no rfl rfl rfl rfl ?_
          exact L.sub (Sub.cons rfl (Sub.cons rfl (Sub.cons rfl (Sub.cons rfl (Sub.cons rfl (Sub.cons rfl Sub.nil)))))) (J89 _ _ ⟨s58, false, (Option.some.inj hm).symm, m0, h55, h39, rfl, rfl⟩)
    · intro J96
      rcases Bool.eq_false_or_eq_true b56 with hc | hc
      · refine L.know (d := 43) rfl hc ?_
        refine L.mv (Wt.mk rfl rfl) rfl rfl ?_
        refine L.bi (Wt.mk rfl rfl) rfl rfl rfl rfl ?_
        refine L.pkT Wt.no rfl rfl rfl rfl ?_
        exact L.sub (Sub.cons rfl (Sub.cons rfl (Sub.cons rfl (Sub.cons rfl (Sub.cons rfl (Sub.cons rfl (Sub.cons rfl Sub.nil))))))) (J96 _ _ ⟨(r20.2 == 0), (andT hc).symm, rfl, rfl⟩)
      · refine L.know (d := 43) rfl hc ?_
        refine L.skip rfl rfl rfl rfl ?_
        refine L.skip rfl rfl rfl rfl ?_
        refine L.pkF Wt.no rfl rfl rfl rfl ?_
        exact L.sub (Sub.cons rfl (Sub.cons rfl (Sub.cons rfl (Sub.cons rfl (Sub.cons rfl (Sub.cons rfl (Sub.cons rfl Sub.nil))))))) (J96 _ _ ⟨false, (andF hc).symm, rfl, rfl⟩)
  · intro J97
    rcases ifS eb56 with ⟨hc, hm⟩ | ⟨hc, hm⟩
    · refine L.know (d := 38) rfl hc ?_
      refine L.mv (Wt.mk rfl rfl) rfl rfl ?_
      refine L.bsE (k := 2) (cs := [.int .i64 0, .int .i64 1]) 0 bs28 (Nat.le_of_ble_eq_true rfl) (Wt.mk rfl rfl) rfl rfl rfl rfl ?_
      intro b98 s99 m100 bx98
      replace m0 := m0.trans m100.no
      replace h23 := h23.mono (m100.le no_No)
      replace h39 := h39.mono (m100.le no_No)
      replace h55 := h55.mono (m100.le no_No)
      replace h10 := h10.mono (m100.le no_No)
      have h98 := Bx.rdL (r := (rK .i64)) (xs := ([0, 1] : List Int)) bx98 ⟨[.int .i64 0], _, rfl, rfl, ⟨[.int .i64 1], _, rfl, rfl, rfl⟩⟩ (Nat.le_of_ble_eq_true rfl)
      obtain ⟨r101, er101, hm⟩ := bindS hm
      refine L.ca (vs := [.slice a10 r7.1.length c10, .slice (some ⟨b98, 0, none⟩) ([0, 1] : List Int).length (([0, 1] : List Int).length)]) cf19 rfl rfl (Wt.mk rfl rfl) rfl (m_overseerlaw04_same_c (s := s99) (p0 := r7.1) (p1 := ([0, 1] : List Int)) h10 h98 er101) rfl ?_
      rintro _ s102 m103 rfl
      replace m0 := m0.trans m103.no
      replace h23 := h23.mono (m103.le no_No)
      replace h39 := h39.mono (m103.le no_No)
      replace h55 := h55.mono (m103.le no_No)
      refine L.pkT Wt.no rfl rfl rfl rfl ?_
      exact L.sub (Sub.cons rfl (Sub.cons rfl (Sub.cons rfl (Sub.cons rfl (Sub.cons rfl (Sub.cons rfl (Sub.cons rfl (Sub.cons rfl Sub.nil)))))))) (J97 _ _ ⟨s102, r101, (Option.some.inj hm).symm, m0, h55, h39, h23, rfl, rfl⟩)
    · refine L.know (d := 38) rfl hc ?_
      refine L.skip rfl rfl rfl rfl ?_
      refine L.skip rfl rfl rfl rfl ?_
      refine L.skip rfl rfl rfl rfl ?_
      refine L.pkF Wt.no rfl rfl rfl rfl ?_
      exact L.sub (Sub.cons rfl (Sub.cons rfl (Sub.cons rfl (Sub.cons rfl (Sub.cons rfl (Sub.cons rfl (Sub.cons rfl (Sub.cons rfl Sub.nil)))))))) (J97 _ _ ⟨s53, false, (Option.some.inj hm).symm, m0, h55, h39, h23, rfl, rfl⟩)

theorem fa25_0 : FA Try.prog 25 0 0 := FA.mk Try.underlying25 rfl rfl ⟨1, by decide, by kernel_rfl⟩
theorem fa25_1 : FA Try.prog 25 1 1 := FA.mk Try.underlying25 rfl rfl ⟨1, by decide, by kernel_rfl⟩
theorem fa25_2 : FA Try.prog 25 2 2 := FA.mk Try.underlying25 rfl rfl ⟨24, by decide, by kernel_rfl⟩
theorem ia22 : IA Try.prog 22 4 1 := IA.mk Try.underlying22 (by kernel_rfl)
theorem ia23 : IA Try.prog 23 6 4 := IA.mk Try.underlying23 (by kernel_rfl)
theorem nag5 : NAg Try.prog 5 := NAg.mk' Try.underlying5 rfl (by kernel_rfl)
noncomputable def m_overseerlaw04_Make_j2 (st128 : Int × (List (Int × Int × Int))) (l134 : List (Int × Int × Int)) : Option ((Int × (List (Int × Int × Int))) ⊕ (List (Int × Int × Int))) :=
  some (.inl (W (st128.1 + 1), l134))
noncomputable def m_overseerlaw04_Make_l2 (p0 : Int × Int × ((Int × Int × Int × Int) × (Int × Int × Int × Int) × (Int × Int × Int × Int) × (Int × Int × Int × Int) × (Int × Int × Int × Int) × (Int × Int × Int × Int))) (st90 : Int × List Int × (List (Int × Int × Int))) (st128 : Int × (List (Int × Int × Int))) : Option ((Int × (List (Int × Int × Int))) ⊕ (List (Int × Int × Int))) :=
  if decide (st128.1 < 4) then
    (rng st90.1 6).bind fun _ =>
    (rng st128.1 4).bind fun _ =>
    (([p0.2.2.1.1, p0.2.2.1.2.1, p0.2.2.1.2.2.1, p0.2.2.1.2.2.2, p0.2.2.2.1.1, p0.2.2.2.1.2.1, p0.2.2.2.1.2.2.1, p0.2.2.2.1.2.2.2, p0.2.2.2.2.1.1, p0.2.2.2.2.1.2.1, p0.2.2.2.2.1.2.2.1, p0.2.2.2.2.1.2.2.2, p0.2.2.2.2.2.1.1, p0.2.2.2.2.2.1.2.1, p0.2.2.2.2.2.1.2.2.1, p0.2.2.2.2.2.1.2.2.2, p0.2.2.2.2.2.2.1.1, p0.2.2.2.2.2.2.1.2.1, p0.2.2.2.2.2.2.1.2.2.1, p0.2.2.2.2.2.2.1.2.2.2, p0.2.2.2.2.2.2.2.1, p0.2.2.2.2.2.2.2.2.1, p0.2.2.2.2.2.2.2.2.2.1, p0.2.2.2.2.2.2.2.2.2.2] : List Int)[st90.1.toNat * 4 + st128.1.toNat * 1]?).bind fun x140 =>
    if ((decide ((W ((W (x140.tmod 7)) - 1)) ≥ 0)) && (decide ((W ((W (x140.tmod 7)) - 1)) < (W (1 + (W (p0.1.tmod 6))))))) then
      (app st128.2 ([(st90.1, st128.1, W ((W (x140.tmod 7)) - 1))] : List (Int × Int × Int))).bind fun x145 =>
      m_overseerlaw04_Make_j2 st128 x145
    else
      m_overseerlaw04_Make_j2 st128 st128.2
  else
    some (.inr st128.2)
noncomputable def m_overseerlaw04_Make_j1 (p0 : Int × Int × ((Int × Int × Int × Int) × (Int × Int × Int × Int) × (Int × Int × Int × Int) × (Int × Int × Int × Int) × (Int × Int × Int × Int) × (Int × Int × Int × Int))) (st90 : Int × List Int × (List (Int × Int × Int))) (l100 : List Int) : Option ((Int × List Int × (List (Int × Int × Int))) ⊕ (List Int × (List (Int × Int × Int)))) :=
  (iter (m_overseerlaw04_Make_l2 p0 st90) (0, st90.2.2)).bind fun o128 =>
  some (.inl (W (st90.1 + 1), l100, o128))
noncomputable def m_overseerlaw04_Make_l1 (p0 : Int × Int × ((Int × Int × Int × Int) × (Int × Int × Int × Int) × (Int × Int × Int × Int) × (Int × Int × Int × Int) × (Int × Int × Int × Int) × (Int × Int × Int × Int))) (st90 : Int × List Int × (List (Int × Int × Int))) : Option ((Int × List Int × (List (Int × Int × Int))) ⊕ (List Int × (List (Int × Int × Int)))) :=
  if decide (st90.1 < (W (1 + (W (p0.1.tmod 6))))) then
    (ng st90.1).bind fun _ =>
    if ((IntKind.u8.wrap (((BitVec.ofInt 8 (p0.2.1.fdiv (2 ^ (min st90.1.toNat 8))) &&& BitVec.ofInt 8 1).toNat : Int))) == 1) then
      (app st90.2.1 ([st90.1] : List Int)).bind fun x156 =>
      m_overseerlaw04_Make_j1 p0 st90 x156
    else
      m_overseerlaw04_Make_j1 p0 st90 st90.2.1
  else
    some (.inr st90.2)
/-- What overseerlaw04.Make computes. -/
noncomputable def m_overseerlaw04_Make (p0 : Int × Int × ((Int × Int × Int × Int) × (Int × Int × Int × Int) × (Int × Int × Int × Int) × (Int × Int × Int × Int) × (Int × Int × Int × Int) × (Int × Int × Int × Int))) : Option (List Int × Int × List Int × (List (Int × Int × Int))) :=
  (iter (m_overseerlaw04_Make_l1 p0) (0, ([] : List Int), ([] : List (Int × Int × Int)))).bind fun o90 =>
  some (([0, 1, 2, 3] : List Int), W (1 + (W (p0.1.tmod 6))), o90)
set_option maxRecDepth 100000 in
set_option maxHeartbeats 8000000 in
theorem m_overseerlaw04_Make_c {s : Sig} {p0 : Int × Int × ((Int × Int × Int × Int) × (Int × Int × Int × Int) × (Int × Int × Int × Int) × (Int × Int × Int × Int) × (Int × Int × Int × Int) × (Int × Int × Int × Int))} {u1 : Nat} {u2 : Nat} {r : (List Int × Int × List Int × (List (Int × Int × Int)))} (hm : m_overseerlaw04_Make p0 = some r) :
    Calls Try.prog 13 #[.agg #[.int .u8 p0.1, .int .u8 p0.2.1, .int .u8 p0.2.2.1.1, .int .u8 p0.2.2.1.2.1, .int .u8 p0.2.2.1.2.2.1, .int .u8 p0.2.2.1.2.2.2, .int .u8 p0.2.2.2.1.1, .int .u8 p0.2.2.2.1.2.1, .int .u8 p0.2.2.2.1.2.2.1, .int .u8 p0.2.2.2.1.2.2.2, .int .u8 p0.2.2.2.2.1.1, .int .u8 p0.2.2.2.2.1.2.1, .int .u8 p0.2.2.2.2.1.2.2.1, .int .u8 p0.2.2.2.2.1.2.2.2, .int .u8 p0.2.2.2.2.2.1.1, .int .u8 p0.2.2.2.2.2.1.2.1, .int .u8 p0.2.2.2.2.2.1.2.2.1, .int .u8 p0.2.2.2.2.2.1.2.2.2, .int .u8 p0.2.2.2.2.2.2.1.1, .int .u8 p0.2.2.2.2.2.2.1.2.1, .int .u8 p0.2.2.2.2.2.2.1.2.2.1, .int .u8 p0.2.2.2.2.2.2.1.2.2.2, .int .u8 p0.2.2.2.2.2.2.2.1, .int .u8 p0.2.2.2.2.2.2.2.2.1, .int .u8 p0.2.2.2.2.2.2.2.2.2.1, .int .u8 p0.2.2.2.2.2.2.2.2.2.2]] s.w (RetS No s fun v s' => ∃ (a1 : Option Addr) (c1 : Nat) (a2 : Option Addr) (c2 : Nat) (a3 : Option Addr) (c3 : Nat), v = .agg #[.slice a1 r.1.length c1, .int .i64 r.2.1, .slice a2 r.2.2.1.length c2, .slice a3 r.2.2.2.length c3] ∧ RdL (rK .i64) s' a1 c1 r.1 ∧ RowT (rK .i64) s' u1 3 a2 c2 r.2.2.1 ∧ RowT (rP (rK .i64) (rP (rK .i64) (rK .i64))) s' u2 45 a3 c3 r.2.2.2) := by
  unfold m_overseerlaw04_Make at hm
  obtain ⟨N, hN, hNb⟩ := s.fresh
  have m0 : Mv (Up N No) s s := Mv.refl _ _
  refine E.entry (vs := [.agg #[.int .u8 p0.1, .int .u8 p0.2.1, .int .u8 p0.2.2.1.1, .int .u8 p0.2.2.1.2.1, .int .u8 p0.2.2.1.2.2.1, .int .u8 p0.2.2.1.2.2.2, .int .u8 p0.2.2.2.1.1, .int .u8 p0.2.2.2.1.2.1, .int .u8 p0.2.2.2.1.2.2.1, .int .u8 p0.2.2.2.1.2.2.2, .int .u8 p0.2.2.2.2.1.1, .int .u8 p0.2.2.2.2.1.2.1, .int .u8 p0.2.2.2.2.1.2.2.1, .int .u8 p0.2.2.2.2.1.2.2.2, .int .u8 p0.2.2.2.2.2.1.1, .int .u8 p0.2.2.2.2.2.1.2.1, .int .u8 p0.2.2.2.2.2.1.2.2.1, .int .u8 p0.2.2.2.2.2.1.2.2.2, .int .u8 p0.2.2.2.2.2.2.1.1, .int .u8 p0.2.2.2.2.2.2.1.2.1, .int .u8 p0.2.2.2.2.2.2.1.2.2.1, .int .u8 p0.2.2.2.2.2.2.1.2.2.2, .int .u8 p0.2.2.2.2.2.2.2.1, .int .u8 p0.2.2.2.2.2.2.2.2.1, .int .u8 p0.2.2.2.2.2.2.2.2.2.1, .int .u8 p0.2.2.2.2.2.2.2.2.2.2]]) (e := [(0, .agg #[.int .u8 p0.1, .int .u8 p0.2.1, .int .u8 p0.2.2.1.1, .int .u8 p0.2.2.1.2.1, .int .u8 p0.2.2.1.2.2.1, .int .u8 p0.2.2.1.2.2.2, .int .u8 p0.2.2.2.1.1, .int .u8 p0.2.2.2.1.2.1, .int .u8 p0.2.2.2.1.2.2.1, .int .u8 p0.2.2.2.1.2.2.2, .int .u8 p0.2.2.2.2.1.1, .int .u8 p0.2.2.2.2.1.2.1, .int .u8 p0.2.2.2.2.1.2.2.1, .int .u8 p0.2.2.2.2.1.2.2.2, .int .u8 p0.2.2.2.2.2.1.1, .int .u8 p0.2.2.2.2.2.1.2.1, .int .u8 p0.2.2.2.2.2.1.2.2.1, .int .u8 p0.2.2.2.2.2.1.2.2.2, .int .u8 p0.2.2.2.2.2.2.1.1, .int .u8 p0.2.2.2.2.2.2.1.2.1, .int .u8 p0.2.2.2.2.2.2.1.2.2.1, .int .u8 p0.2.2.2.2.2.2.1.2.2.2, .int .u8 p0.2.2.2.2.2.2.2.1, .int .u8 p0.2.2.2.2.2.2.2.2.1, .int .u8 p0.2.2.2.2.2.2.2.2.2.1, .int .u8 p0.2.2.2.2.2.2.2.2.2.2])]) Try.func13 rfl Try.ntmps13 rfl rfl ?_
  refine E.seq ?_
  refine E.reg ?_
  refine L.box (N + 0) Wt.no rfl rfl rfl ?_
  intro b4 s5 m6 bx4
  replace m0 := m0.trans m6.no
  refine L.al (N + 1) zz31 rfl Wt.no rfl ?_
  intro b7 s8 m9 bx7
  replace m0 := m0.trans m9.no
  replace bx4 := bx4.mv m9 no_No
  refine L.nil ?_
  refine X.seqN ?_
  refine E.seq ?_
  refine E.reg ?_
  refine L.bsE (k := 4) (cs := [.int .i64 0, .int .i64 1, .int .i64 2, .int .i64 3]) 0 bs28 (Nat.le_of_ble_eq_true rfl) Wt.no rfl rfl rfl rfl ?_
  intro b10 s11 m12 bx10
  replace m0 := m0.trans m12.no
  replace bx4 := bx4.mv m12 no_No
  replace bx7 := bx7.mv m12 no_No
  have h10 := Bx.rdL (r := (rK .i64)) (xs := ([0, 1, 2, 3] : List Int)) bx10 ⟨[.int .i64 0], _, rfl, rfl, ⟨[.int .i64 1], _, rfl, rfl, ⟨[.int .i64 2], _, rfl, rfl, ⟨[.int .i64 3], _, rfl, rfl, rfl⟩⟩⟩⟩ (Nat.le_of_ble_eq_true rfl)
  refine L.fa fa25_0 Wt.no rfl rfl ?_
  refine L.ld (j := 0) bx4.mem nag5 Wt.no rfl rfl rfl rfl ?_
  refine L.rem Wt.no rfl rfl (by decide) rfl ?_
  refine L.cv Try.underlying5 Try.underlying3 Wt.no rfl rfl ?_
  refine L.bi Wt.no rfl rfl rfl rfl ?_
  refine L.bu (cs := [.slice (some ⟨b10, 0, none⟩) ([0, 1, 2, 3] : List Int).length (([0, 1, 2, 3] : List Int).length), .int .i64 (W (1 + (W (p0.1.tmod 6)))), .slice none 0 0, .slice none 0 0]) pl31 Wt.no rfl rfl rfl ?_
  refine L.al (N + 2) zz31 rfl Wt.no rfl ?_
  intro b13 s14 m15 bx13
  replace m0 := m0.trans m15.no
  replace h10 := h10.mono (m15.le no_No)
  replace bx4 := bx4.mv m15 no_No
  replace bx7 := bx7.mv m15 no_No
  refine L.st (c := [.slice (some ⟨b10, 0, none⟩) ([0, 1, 2, 3] : List Int).length (([0, 1, 2, 3] : List Int).length), .int .i64 (W (1 + (W (p0.1.tmod 6)))), .slice none 0 0, .slice none 0 0]) (cs' := #[.slice (some ⟨b10, 0, none⟩) ([0, 1, 2, 3] : List Int).length (([0, 1, 2, 3] : List Int).length), .int .i64 (W (1 + (W (p0.1.tmod 6)))), .slice none 0 0, .slice none 0 0]) bx13 ag31.sz Wt.no rfl rfl rfl rfl rfl (Nat.le_of_ble_eq_true rfl) rfl ?_
  intro s16 m17 bx13
  replace m0 := m0.trans (m17.one up)
  replace bx4 := bx4.mv m17 (tgN (by decide))
  replace bx7 := bx7.mv m17 (tgN (by decide))
  replace h10 := h10.mono (m17.le (tg0 hN))
  refine L.nil ?_
  refine X.seqN ?_
  refine E.seq ?_
  refine E.seq ?_
  refine E.reg ?_
  refine L.as Wt.no rfl rfl ?_
  refine L.nil ?_
  refine X.seqN ?_
  refine E.block ?_
  obtain ⟨o90, eo90, hm⟩ := bindS hm
  refine E.cut (x := .exit 0) (fun e w => ∃ (s96 : Sig) (a92 : Option Addr) (c92 : Nat) (a94 : Option Addr) (c94 : Nat), Mv (Up N No) s s96 ∧ RdL (rK .i64) s96 (some ⟨b10, 0, none⟩) (([0, 1, 2, 3] : List Int).length) ([0, 1, 2, 3] : List Int) ∧ RowT (rK .i64) s96 (N + 3) 3 a92 c92 o90.1 ∧ RowT (rP (rK .i64) (rP (rK .i64) (rK .i64))) s96 (N + 4) 45 a94 c94 o90.2 ∧ Bx s96 (N + 1) b7 #[.slice none 0 0, .int .i64 0, .slice none 0 0, .slice none 0 0] 31 ∧ Bx s96 (N + 2) b13 #[.slice (some ⟨b10, 0, none⟩) ([0, 1, 2, 3] : List Int).length (([0, 1, 2, 3] : List Int).length), .int .i64 (W (1 + (W (p0.1.tmod 6)))), .slice a92 o90.1.length c92, .slice a94 o90.2.length c94] 31 ∧ e = [(3, .pointer (some ⟨b13, 0, none⟩)), (2, .pointer (some ⟨b7, 0, none⟩))] ∧ w = s96.w) ?_ ?_
  · rintro _ _ ⟨s96, a92, c92, a94, c94, m0, h10, h92, h94, bx7, bx13, rfl, rfl⟩
    refine X.blkE ?_
    refine X.seqN ?_
    refine E.seq ?_
    refine E.reg ?_
    refine L.lg (j := 0) (cs := [.slice (some ⟨b10, 0, none⟩) ([0, 1, 2, 3] : List Int).length (([0, 1, 2, 3] : List Int).length), .int .i64 (W (1 + (W (p0.1.tmod 6)))), .slice a92 o90.1.length c92, .slice a94 o90.2.length c94]) bx13.mem ag31 Wt.no rfl rfl rfl rfl rfl ?_
    refine L.st (c := [.slice (some ⟨b10, 0, none⟩) ([0, 1, 2, 3] : List Int).length (([0, 1, 2, 3] : List Int).length), .int .i64 (W (1 + (W (p0.1.tmod 6)))), .slice a92 o90.1.length c92, .slice a94 o90.2.length c94]) (cs' := #[.slice (some ⟨b10, 0, none⟩) ([0, 1, 2, 3] : List Int).length (([0, 1, 2, 3] : List Int).length), .int .i64 (W (1 + (W (p0.1.tmod 6)))), .slice a92 o90.1.length c92, .slice a94 o90.2.length c94]) bx7 ag31.sz Wt.no rfl rfl rfl rfl rfl (Nat.le_of_ble_eq_true rfl) rfl ?_
    intro s97 m98 bx7
    replace m0 := m0.trans (m98.one up)
    replace h10 := h10.mono (m98.le (tg0 hN))
    replace h92 := h92.mv m98 (tgN (by decide)) (tg0 hN)
    replace h94 := h94.mv m98 (tgN (by decide)) (tg0 hN)
    refine L.nil ?_
    refine X.seqN ?_
    refine E.ret ?_
    obtain rfl := Option.some.inj hm
    exact X.rt (.inl rfl) Try.results13 (Rs.cell rfl bx7 ag31 rfl Rs.nil) rfl ⟨_, (s97).ren N (fun k => cond (Nat.beq k 4) u2 (cond (Nat.beq k 3) u1 (0))), rfl, rfl, m0.ren hNb, ⟨(some ⟨b10, 0, none⟩), ([0, 1, 2, 3] : List Int).length, a92, c92, a94, c94, rfl, (h10.ren hN), (h92.ren hN), (h94.ren hN)⟩⟩
  intro K99
  refine E.iter (fun (st90 : Int × List Int × (List (Int × Int × Int))) (e : List (Nat × Value)) (w : World) => ∃ (s95 : Sig) (a20 : Option Addr) (c20 : Nat) (a22 : Option Addr) (c22 : Nat), Mv (Up N No) s s95 ∧ RdL (rK .i64) s95 (some ⟨b10, 0, none⟩) (([0, 1, 2, 3] : List Int).length) ([0, 1, 2, 3] : List Int) ∧ RowT (rK .i64) s95 (N + 3) 3 a20 c20 st90.2.1 ∧ RowT (rP (rK .i64) (rP (rK .i64) (rK .i64))) s95 (N + 4) 45 a22 c22 st90.2.2 ∧ Bx s95 (N + 0) b4 #[.int .u8 p0.1, .int .u8 p0.2.1, .int .u8 p0.2.2.1.1, .int .u8 p0.2.2.1.2.1, .int .u8 p0.2.2.1.2.2.1, .int .u8 p0.2.2.1.2.2.2, .int .u8 p0.2.2.2.1.1, .int .u8 p0.2.2.2.1.2.1, .int .u8 p0.2.2.2.1.2.2.1, .int .u8 p0.2.2.2.1.2.2.2, .int .u8 p0.2.2.2.2.1.1, .int .u8 p0.2.2.2.2.1.2.1, .int .u8 p0.2.2.2.2.1.2.2.1, .int .u8 p0.2.2.2.2.1.2.2.2, .int .u8 p0.2.2.2.2.2.1.1, .int .u8 p0.2.2.2.2.2.1.2.1, .int .u8 p0.2.2.2.2.2.1.2.2.1, .int .u8 p0.2.2.2.2.2.1.2.2.2, .int .u8 p0.2.2.2.2.2.2.1.1, .int .u8 p0.2.2.2.2.2.2.1.2.1, .int .u8 p0.2.2.2.2.2.2.1.2.2.1, .int .u8 p0.2.2.2.2.2.2.1.2.2.2, .int .u8 p0.2.2.2.2.2.2.2.1, .int .u8 p0.2.2.2.2.2.2.2.2.1, .int .u8 p0.2.2.2.2.2.2.2.2.2.1, .int .u8 p0.2.2.2.2.2.2.2.2.2.2] 25 ∧ Bx s95 (N + 1) b7 #[.slice none 0 0, .int .i64 0, .slice none 0 0, .slice none 0 0] 31 ∧ Bx s95 (N + 2) b13 #[.slice (some ⟨b10, 0, none⟩) ([0, 1, 2, 3] : List Int).length (([0, 1, 2, 3] : List Int).length), .int .i64 (W (1 + (W (p0.1.tmod 6)))), .slice a20 st90.2.1.length c20, .slice a22 st90.2.2.length c22] 31 ∧ e = [(4, .int .i64 st90.1), (3, .pointer (some ⟨b13, 0, none⟩)), (2, .pointer (some ⟨b7, 0, none⟩)), (1, .pointer (some ⟨b4, 0, none⟩))] ∧ w = s95.w) eo90 ⟨s16, none, 0, none, 0, m0, h10, RowT.nil, RowT.nil, bx4, bx7, bx13, rfl, rfl⟩ (Sub.cons rfl (Sub.cons rfl (Sub.cons rfl (Sub.cons rfl Sub.nil)))) ?_
  rintro st90 res90 hm ih90 ho90 _ _ ⟨s95, a20, c20, a22, c22, m0, h10, h20, h22, bx4, bx7, bx13, rfl, rfl⟩
  unfold m_overseerlaw04_Make_l1 at hm
  refine E.seq ?_
  refine E.seq ?_
  refine E.reg ?_
  refine L.mv Wt.no rfl rfl ?_
  refine L.fa fa31_1 Wt.no rfl rfl ?_
  refine L.ld (j := 1) bx13.mem nag3 Wt.no rfl rfl rfl rfl ?_
  refine L.bi Wt.no rfl rfl rfl rfl ?_
  refine L.nil ?_
  refine X.seqN ?_
  rcases ifS hm with ⟨hc, hm⟩ | ⟨hc, hm⟩
  · refine E.cT rfl hc ?_
    refine E.skip ?_
    refine X.seqN ?_
    refine E.seq ?_
    refine E.block ?_
    refine E.seqJ (fun e w => ∃ (s102 : Sig) (l100 : List Int) (a101 : Option Addr) (c101 : Nat), m_overseerlaw04_Make_j1 p0 st90 l100 = some res90 ∧ Mv (Up N No) s s102 ∧ RdL (rK .i64) s102 (some ⟨b10, 0, none⟩) (([0, 1, 2, 3] : List Int).length) ([0, 1, 2, 3] : List Int) ∧ RowT (rK .i64) s102 (N + 3) 3 a101 c101 l100 ∧ RowT (rP (rK .i64) (rP (rK .i64) (rK .i64))) s102 (N + 4) 45 a22 c22 st90.2.2 ∧ Bx s102 (N + 0) b4 #[.int .u8 p0.1, .int .u8 p0.2.1, .int .u8 p0.2.2.1.1, .int .u8 p0.2.2.1.2.1, .int .u8 p0.2.2.1.2.2.1, .int .u8 p0.2.2.1.2.2.2, .int .u8 p0.2.2.2.1.1, .int .u8 p0.2.2.2.1.2.1, .int .u8 p0.2.2.2.1.2.2.1, .int .u8 p0.2.2.2.1.2.2.2, .int .u8 p0.2.2.2.2.1.1, .int .u8 p0.2.2.2.2.1.2.1, .int .u8 p0.2.2.2.2.1.2.2.1, .int .u8 p0.2.2.2.2.1.2.2.2, .int .u8 p0.2.2.2.2.2.1.1, .int .u8 p0.2.2.2.2.2.1.2.1, .int .u8 p0.2.2.2.2.2.1.2.2.1, .int .u8 p0.2.2.2.2.2.1.2.2.2, .int .u8 p0.2.2.2.2.2.2.1.1, .int .u8 p0.2.2.2.2.2.2.1.2.1, .int .u8 p0.2.2.2.2.2.2.1.2.2.1, .int .u8 p0.2.2.2.2.2.2.1.2.2.2, .int .u8 p0.2.2.2.2.2.2.2.1, .int .u8 p0.2.2.2.2.2.2.2.2.1, .int .u8 p0.2.2.2.2.2.2.2.2.2.1, .int .u8 p0.2.2.2.2.2.2.2.2.2.2] 25 ∧ Bx s102 (N + 1) b7 #[.slice none 0 0, .int .i64 0, .slice none 0 0, .slice none 0 0] 31 ∧ Bx s102 (N + 2) b13 #[.slice (some ⟨b10, 0, none⟩) ([0, 1, 2, 3] : List Int).length (([0, 1, 2, 3] : List Int).length), .int .i64 (W (1 + (W (p0.1.tmod 6)))), .slice a101 l100.length c101, .slice a22 st90.2.2.length c22] 31 ∧ e = [(4, .int .i64 st90.1), (3, .pointer (some ⟨b13, 0, none⟩)), (2, .pointer (some ⟨b7, 0, none⟩)), (1, .pointer (some ⟨b4, 0, none⟩))] ∧ w = s102.w) ?_ ?_
    · rintro _ _ ⟨s102, l100, a101, c101, hm, m0, h10, h101, h22, bx4, bx7, bx13, rfl, rfl⟩
      unfold m_overseerlaw04_Make_j1 at hm
      refine E.seq ?_
      refine E.reg ?_
      refine L.as Wt.no rfl rfl ?_
      refine L.nil ?_
      refine X.seqN ?_
      refine E.block ?_
      obtain ⟨o128, eo128, hm⟩ := bindS hm
      refine E.cut (x := .exit 2) (fun e w => ∃ (s132 : Sig) (a130 : Option Addr) (c130 : Nat), Mv (Up N No) s s132 ∧ RdL (rK .i64) s132 (some ⟨b10, 0, none⟩) (([0, 1, 2, 3] : List Int).length) ([0, 1, 2, 3] : List Int) ∧ RowT (rK .i64) s132 (N + 3) 3 a101 c101 l100 ∧ RowT (rP (rK .i64) (rP (rK .i64) (rK .i64))) s132 (N + 4) 45 a130 c130 o128 ∧ Bx s132 (N + 0) b4 #[.int .u8 p0.1, .int .u8 p0.2.1, .int .u8 p0.2.2.1.1, .int .u8 p0.2.2.1.2.1, .int .u8 p0.2.2.1.2.2.1, .int .u8 p0.2.2.1.2.2.2, .int .u8 p0.2.2.2.1.1, .int .u8 p0.2.2.2.1.2.1, .int .u8 p0.2.2.2.1.2.2.1, .int .u8 p0.2.2.2.1.2.2.2, .int .u8 p0.2.2.2.2.1.1, .int .u8 p0.2.2.2.2.1.2.1, .int .u8 p0.2.2.2.2.1.2.2.1, .int .u8 p0.2.2.2.2.1.2.2.2, .int .u8 p0.2.2.2.2.2.1.1, .int .u8 p0.2.2.2.2.2.1.2.1, .int .u8 p0.2.2.2.2.2.1.2.2.1, .int .u8 p0.2.2.2.2.2.1.2.2.2, .int .u8 p0.2.2.2.2.2.2.1.1, .int .u8 p0.2.2.2.2.2.2.1.2.1, .int .u8 p0.2.2.2.2.2.2.1.2.2.1, .int .u8 p0.2.2.2.2.2.2.1.2.2.2, .int .u8 p0.2.2.2.2.2.2.2.1, .int .u8 p0.2.2.2.2.2.2.2.2.1, .int .u8 p0.2.2.2.2.2.2.2.2.2.1, .int .u8 p0.2.2.2.2.2.2.2.2.2.2] 25 ∧ Bx s132 (N + 1) b7 #[.slice none 0 0, .int .i64 0, .slice none 0 0, .slice none 0 0] 31 ∧ Bx s132 (N + 2) b13 #[.slice (some ⟨b10, 0, none⟩) ([0, 1, 2, 3] : List Int).length (([0, 1, 2, 3] : List Int).length), .int .i64 (W (1 + (W (p0.1.tmod 6)))), .slice a101 l100.length c101, .slice a130 o128.length c130] 31 ∧ e = [(4, .int .i64 st90.1), (3, .pointer (some ⟨b13, 0, none⟩)), (2, .pointer (some ⟨b7, 0, none⟩)), (1, .pointer (some ⟨b4, 0, none⟩))] ∧ w = s132.w) ?_ ?_
      · rintro _ _ ⟨s132, a130, c130, m0, h10, h101, h130, bx4, bx7, bx13, rfl, rfl⟩
        refine X.blkE ?_
        refine X.blkN ?_
        refine X.seqN ?_
        refine E.reg ?_
        refine L.mv Wt.no rfl rfl ?_
        refine L.bi Wt.no rfl rfl rfl rfl ?_
        refine L.as Wt.no rfl rfl ?_
        refine L.nil ?_
        exact X.sub (ih90 _ (Option.some.inj hm).symm _ _ ⟨s132, a101, c101, a130, c130, m0, h10, h101, h130, bx4, bx7, bx13, rfl, rfl⟩) (Sub.cons rfl (Sub.cons rfl (Sub.cons rfl (Sub.cons rfl Sub.nil))))
      intro K133
      refine E.iter (fun (st128 : Int × (List (Int × Int × Int))) (e : List (Nat × Value)) (w : World) => ∃ (s131 : Sig) (a106 : Option Addr) (c106 : Nat), Mv (Up N No) s s131 ∧ RdL (rK .i64) s131 (some ⟨b10, 0, none⟩) (([0, 1, 2, 3] : List Int).length) ([0, 1, 2, 3] : List Int) ∧ RowT (rK .i64) s131 (N + 3) 3 a101 c101 l100 ∧ RowT (rP (rK .i64) (rP (rK .i64) (rK .i64))) s131 (N + 4) 45 a106 c106 st128.2 ∧ Bx s131 (N + 0) b4 #[.int .u8 p0.1, .int .u8 p0.2.1, .int .u8 p0.2.2.1.1, .int .u8 p0.2.2.1.2.1, .int .u8 p0.2.2.1.2.2.1, .int .u8 p0.2.2.1.2.2.2, .int .u8 p0.2.2.2.1.1, .int .u8 p0.2.2.2.1.2.1, .int .u8 p0.2.2.2.1.2.2.1, .int .u8 p0.2.2.2.1.2.2.2, .int .u8 p0.2.2.2.2.1.1, .int .u8 p0.2.2.2.2.1.2.1, .int .u8 p0.2.2.2.2.1.2.2.1, .int .u8 p0.2.2.2.2.1.2.2.2, .int .u8 p0.2.2.2.2.2.1.1, .int .u8 p0.2.2.2.2.2.1.2.1, .int .u8 p0.2.2.2.2.2.1.2.2.1, .int .u8 p0.2.2.2.2.2.1.2.2.2, .int .u8 p0.2.2.2.2.2.2.1.1, .int .u8 p0.2.2.2.2.2.2.1.2.1, .int .u8 p0.2.2.2.2.2.2.1.2.2.1, .int .u8 p0.2.2.2.2.2.2.1.2.2.2, .int .u8 p0.2.2.2.2.2.2.2.1, .int .u8 p0.2.2.2.2.2.2.2.2.1, .int .u8 p0.2.2.2.2.2.2.2.2.2.1, .int .u8 p0.2.2.2.2.2.2.2.2.2.2] 25 ∧ Bx s131 (N + 1) b7 #[.slice none 0 0, .int .i64 0, .slice none 0 0, .slice none 0 0] 31 ∧ Bx s131 (N + 2) b13 #[.slice (some ⟨b10, 0, none⟩) ([0, 1, 2, 3] : List Int).length (([0, 1, 2, 3] : List Int).length), .int .i64 (W (1 + (W (p0.1.tmod 6)))), .slice a101 l100.length c101, .slice a106 st128.2.length c106] 31 ∧ e = [(5, .int .i64 st128.1), (4, .int .i64 st90.1), (3, .pointer (some ⟨b13, 0, none⟩)), (2, .pointer (some ⟨b7, 0, none⟩)), (1, .pointer (some ⟨b4, 0, none⟩))] ∧ w = s131.w) eo128 ⟨s102, a22, c22, m0, h10, h101, h22, bx4, bx7, bx13, rfl, rfl⟩ (Sub.cons rfl (Sub.cons rfl (Sub.cons rfl (Sub.cons rfl (Sub.cons rfl Sub.nil))))) ?_
      rintro st128 res128 hm ih128 ho128 _ _ ⟨s131, a106, c106, m0, h10, h101, h106, bx4, bx7, bx13, rfl, rfl⟩
      unfold m_overseerlaw04_Make_l2 at hm
      refine E.seq ?_
      refine E.seq ?_
      refine E.reg ?_
      refine L.mv Wt.no rfl rfl ?_
      refine L.bi Wt.no rfl rfl rfl rfl ?_
      refine L.nil ?_
      refine X.seqN ?_
      rcases ifS hm with ⟨hc, hm⟩ | ⟨hc, hm⟩
      · refine E.cT rfl hc ?_
        refine E.skip ?_
        refine X.seqN ?_
        refine E.seqJ (fun e w => ∃ (s136 : Sig) (l134 : List (Int × Int × Int)) (a135 : Option Addr) (c135 : Nat), m_overseerlaw04_Make_j2 st128 l134 = some res128 ∧ Mv (Up N No) s s136 ∧ RdL (rK .i64) s136 (some ⟨b10, 0, none⟩) (([0, 1, 2, 3] : List Int).length) ([0, 1, 2, 3] : List Int) ∧ RowT (rK .i64) s136 (N + 3) 3 a101 c101 l100 ∧ RowT (rP (rK .i64) (rP (rK .i64) (rK .i64))) s136 (N + 4) 45 a135 c135 l134 ∧ Bx s136 (N + 0) b4 #[.int .u8 p0.1, .int .u8 p0.2.1, .int .u8 p0.2.2.1.1, .int .u8 p0.2.2.1.2.1, .int .u8 p0.2.2.1.2.2.1, .int .u8 p0.2.2.1.2.2.2, .int .u8 p0.2.2.2.1.1, .int .u8 p0.2.2.2.1.2.1, .int .u8 p0.2.2.2.1.2.2.1, .int .u8 p0.2.2.2.1.2.2.2, .int .u8 p0.2.2.2.2.1.1, .int .u8 p0.2.2.2.2.1.2.1, .int .u8 p0.2.2.2.2.1.2.2.1, .int .u8 p0.2.2.2.2.1.2.2.2, .int .u8 p0.2.2.2.2.2.1.1, .int .u8 p0.2.2.2.2.2.1.2.1, .int .u8 p0.2.2.2.2.2.1.2.2.1, .int .u8 p0.2.2.2.2.2.1.2.2.2, .int .u8 p0.2.2.2.2.2.2.1.1, .int .u8 p0.2.2.2.2.2.2.1.2.1, .int .u8 p0.2.2.2.2.2.2.1.2.2.1, .int .u8 p0.2.2.2.2.2.2.1.2.2.2, .int .u8 p0.2.2.2.2.2.2.2.1, .int .u8 p0.2.2.2.2.2.2.2.2.1, .int .u8 p0.2.2.2.2.2.2.2.2.2.1, .int .u8 p0.2.2.2.2.2.2.2.2.2.2] 25 ∧ Bx s136 (N + 1) b7 #[.slice none 0 0, .int .i64 0, .slice none 0 0, .slice none 0 0] 31 ∧ Bx s136 (N + 2) b13 #[.slice (some ⟨b10, 0, none⟩) ([0, 1, 2, 3] : List Int).length (([0, 1, 2, 3] : List Int).length), .int .i64 (W (1 + (W (p0.1.tmod 6)))), .slice a101 l100.length c101, .slice a135 l134.length c135] 31 ∧ e = [(5, .int .i64 st128.1), (4, .int .i64 st90.1), (3, .pointer (some ⟨b13, 0, none⟩)), (2, .pointer (some ⟨b7, 0, none⟩)), (1, .pointer (some ⟨b4, 0, none⟩))] ∧ w = s136.w) ?_ ?_
        · rintro _ _ ⟨s136, l134, a135, c135, hm, m0, h10, h101, h135, bx4, bx7, bx13, rfl, rfl⟩
          unfold m_overseerlaw04_Make_j2 at hm
          refine E.reg ?_
          refine L.mv Wt.no rfl rfl ?_
          refine L.bi Wt.no rfl rfl rfl rfl ?_
          refine L.as Wt.no rfl rfl ?_
          refine L.nil ?_
          exact X.sub (ih128 _ (Option.some.inj hm).symm _ _ ⟨s136, a135, c135, m0, h10, h101, h135, bx4, bx7, bx13, rfl, rfl⟩) (Sub.cons rfl (Sub.cons rfl (Sub.cons rfl (Sub.cons rfl (Sub.cons rfl Sub.nil)))))
        · intro Jj137
          refine E.block ?_
          refine E.seq ?_
          refine E.reg ?_
          refine L.mv Wt.no rfl rfl ?_
          refine L.mv Wt.no rfl rfl ?_
          refine L.fa fa25_2 Wt.no rfl rfl ?_
          obtain ⟨_, z138, hm⟩ := bindS hm
          refine L.ia ia23 Wt.no rfl rfl (rng_some z138) rfl ?_
          obtain ⟨_, z139, hm⟩ := bindS hm
          refine L.ia ia22 Wt.no rfl rfl (rng_some z139) rfl ?_
          obtain ⟨x140, ex140, hm⟩ := bindS hm
          refine L.ld (j := st90.1.toNat * 4 + st128.1.toNat * 1) (c := [.int .u8 p0.2.2.1.1, .int .u8 p0.2.2.1.2.1, .int .u8 p0.2.2.1.2.2.1, .int .u8 p0.2.2.1.2.2.2, .int .u8 p0.2.2.2.1.1, .int .u8 p0.2.2.2.1.2.1, .int .u8 p0.2.2.2.1.2.2.1, .int .u8 p0.2.2.2.1.2.2.2, .int .u8 p0.2.2.2.2.1.1, .int .u8 p0.2.2.2.2.1.2.1, .int .u8 p0.2.2.2.2.1.2.2.1, .int .u8 p0.2.2.2.2.1.2.2.2, .int .u8 p0.2.2.2.2.2.1.1, .int .u8 p0.2.2.2.2.2.1.2.1, .int .u8 p0.2.2.2.2.2.1.2.2.1, .int .u8 p0.2.2.2.2.2.1.2.2.2, .int .u8 p0.2.2.2.2.2.2.1.1, .int .u8 p0.2.2.2.2.2.2.1.2.1, .int .u8 p0.2.2.2.2.2.2.1.2.2.1, .int .u8 p0.2.2.2.2.2.2.1.2.2.2, .int .u8 p0.2.2.2.2.2.2.2.1, .int .u8 p0.2.2.2.2.2.2.2.2.1, .int .u8 p0.2.2.2.2.2.2.2.2.2.1, .int .u8 p0.2.2.2.2.2.2.2.2.2.2]) (v := Value.int .u8 x140) (Mem.sub bx4.mem 2 24 (Nat.le_of_ble_eq_true rfl)) nag5 Wt.no rfl (by omega) (show [Value.int .u8 p0.2.2.1.1, Value.int .u8 p0.2.2.1.2.1, Value.int .u8 p0.2.2.1.2.2.1, Value.int .u8 p0.2.2.1.2.2.2, Value.int .u8 p0.2.2.2.1.1, Value.int .u8 p0.2.2.2.1.2.1, Value.int .u8 p0.2.2.2.1.2.2.1, Value.int .u8 p0.2.2.2.1.2.2.2, Value.int .u8 p0.2.2.2.2.1.1, Value.int .u8 p0.2.2.2.2.1.2.1, Value.int .u8 p0.2.2.2.2.1.2.2.1, Value.int .u8 p0.2.2.2.2.1.2.2.2, Value.int .u8 p0.2.2.2.2.2.1.1, Value.int .u8 p0.2.2.2.2.2.1.2.1, Value.int .u8 p0.2.2.2.2.2.1.2.2.1, Value.int .u8 p0.2.2.2.2.2.1.2.2.2, Value.int .u8 p0.2.2.2.2.2.2.1.1, Value.int .u8 p0.2.2.2.2.2.2.1.2.1, Value.int .u8 p0.2.2.2.2.2.2.1.2.2.1, Value.int .u8 p0.2.2.2.2.2.2.1.2.2.2, Value.int .u8 p0.2.2.2.2.2.2.2.1, Value.int .u8 p0.2.2.2.2.2.2.2.2.1, Value.int .u8 p0.2.2.2.2.2.2.2.2.2.1, Value.int .u8 p0.2.2.2.2.2.2.2.2.2.2][st90.1.toNat * 4 + st128.1.toNat * 1]? = some (Value.int .u8 x140) from getMap (f := fun z => Value.int .u8 z) ex140) rfl ?_
          refine L.rem Wt.no rfl rfl (by decide) rfl ?_
          refine L.cv Try.underlying5 Try.underlying3 Wt.no rfl rfl ?_
          refine L.bi Wt.no rfl rfl rfl rfl ?_
          refine L.as Wt.no rfl rfl ?_
          refine L.nil ?_
          refine X.seqN ?_
          refine E.seq ?_
          refine E.reg ?_
          refine L.mv Wt.no rfl rfl ?_
          refine L.bi Wt.no rfl rfl rfl rfl ?_
          refine L.mv Wt.no rfl rfl ?_
          refine L.cut 5 (fun e w => ∃ (v141 : Bool), ((decide ((W ((W (x140.tmod 7)) - 1)) ≥ 0)) && (decide ((W ((W (x140.tmod 7)) - 1)) < (W (1 + (W (p0.1.tmod 6))))))) = v141 ∧ e = (52, .bool v141) :: [(6, .int .i64 (W ((W (x140.tmod 7)) - 1))), (5, .int .i64 st128.1), (4, .int .i64 st90.1), (3, .pointer (some ⟨b13, 0, none⟩)), (2, .pointer (some ⟨b7, 0, none⟩)), (1, .pointer (some ⟨b4, 0, none⟩))] ∧ w = s131.w) ?_ ?_
          · rintro _ _ ⟨v141, rfl, rfl, rfl⟩
            refine L.nil ?_
            refine X.seqN ?_
            rcases ifS hm with ⟨hc, hm⟩ | ⟨hc, hm⟩
            · refine E.cT rfl hc ?_
              refine E.reg ?_
              refine L.fa fa31_3 Wt.no rfl rfl ?_
              refine L.ld (j := 3) bx13.mem nag29 Wt.no rfl rfl rfl rfl ?_
              refine L.mv Wt.no rfl rfl ?_
              refine L.mv Wt.no rfl rfl ?_
              refine L.mv Wt.no rfl rfl ?_
              refine L.bu (cs := [.int .i64 st90.1, .int .i64 st128.1, .int .i64 (W ((W (x140.tmod 7)) - 1))]) pl45 Wt.no rfl rfl rfl ?_
              refine L.bsE (k := 1) (cs := [.int .i64 st90.1, .int .i64 st128.1, .int .i64 (W ((W (x140.tmod 7)) - 1))]) 0 bs29 (Nat.le_of_ble_eq_true rfl) Wt.no rfl rfl rfl rfl ?_
              intro b142 s143 m144 bx142
              replace m0 := m0.trans m144.no
              replace h106 := h106.mv m144 no_No no_No
              replace bx4 := bx4.mv m144 no_No
              replace bx7 := bx7.mv m144 no_No
              replace bx13 := bx13.mv m144 no_No
              replace h10 := h10.mono (m144.le no_No)
              replace h101 := h101.mv m144 no_No no_No
              have h142 := Bx.rdL (r := (rP (rK .i64) (rP (rK .i64) (rK .i64)))) (xs := ([(st90.1, st128.1, W ((W (x140.tmod 7)) - 1))] : List (Int × Int × Int))) bx142 ⟨[.int .i64 st90.1, .int .i64 st128.1, .int .i64 (W ((W (x140.tmod 7)) - 1))], _, rfl, ⟨[.int .i64 st90.1], [.int .i64 st128.1, .int .i64 (W ((W (x140.tmod 7)) - 1))], rfl, rfl, ⟨[.int .i64 st128.1], [.int .i64 (W ((W (x140.tmod 7)) - 1))], rfl, rfl, rfl⟩⟩, rfl⟩ (Nat.le_of_ble_eq_true rfl)
              obtain ⟨x145, ex145, hm⟩ := bindS hm
              refine L.ap (r := (rP (rK .i64) (rP (rK .i64) (rK .i64)))) Try.underlying29 el45 rfl (tgp hN) h106 h142.wk Wt.no rfl rfl ex145 rfl ?_
              intro a146 c146 s147 m148 h146
              replace m0 := m0.trans (m148.one up)
              replace bx4 := bx4.mv m148 (tgN (by decide))
              replace bx7 := bx7.mv m148 (tgN (by decide))
              replace bx13 := bx13.mv m148 (tgN (by decide))
              replace h10 := h10.mono (m148.le (tg0 hN))
              replace h101 := h101.mv m148 (tgN (by decide)) (tg0 hN)
              refine L.fa fa31_3 Wt.no rfl rfl ?_
              refine L.st (c := [.slice a146 x145.length c146]) (cs' := #[.slice (some ⟨b10, 0, none⟩) ([0, 1, 2, 3] : List Int).length (([0, 1, 2, 3] : List Int).length), .int .i64 (W (1 + (W (p0.1.tmod 6)))), .slice a101 l100.length c101, .slice a146 x145.length c146]) bx13 nag29.sz Wt.no rfl rfl rfl rfl rfl (Nat.le_of_ble_eq_true rfl) rfl ?_
              intro s149 m150 bx13
              replace m0 := m0.trans (m150.one up)
              replace bx4 := bx4.mv m150 (tgN (by decide))
              replace bx7 := bx7.mv m150 (tgN (by decide))
              replace h10 := h10.mono (m150.le (tg0 hN))
              replace h101 := h101.mv m150 (tgN (by decide)) (tg0 hN)
              replace h146 := h146.mv m150 (tgN (by decide)) (tg0 hN)
              refine L.nil ?_
              refine X.blkN ?_
              exact X.sub (Jj137 _ _ ⟨s149, x145, a146, c146, hm, m0, h10, h101, h146, bx4, bx7, bx13, rfl, rfl⟩) (Sub.cons rfl (Sub.cons rfl (Sub.cons rfl (Sub.cons rfl (Sub.cons rfl Sub.nil)))))
            · refine E.cF rfl hc ?_
              refine E.skip ?_
              refine X.blkN ?_
              exact X.sub (Jj137 _ _ ⟨s131, st128.2, a106, c106, hm, m0, h10, h101, h106, bx4, bx7, bx13, rfl, rfl⟩) (Sub.cons rfl (Sub.cons rfl (Sub.cons rfl (Sub.cons rfl (Sub.cons rfl Sub.nil)))))
          · intro J151
            rcases Bool.eq_false_or_eq_true (decide ((W ((W (x140.tmod 7)) - 1)) ≥ 0)) with hc | hc
            · refine L.know (d := 47) rfl hc ?_
              refine L.mv (Wt.mk rfl rfl) rfl rfl ?_
              refine L.fa fa31_1 (Wt.mk rfl rfl) rfl rfl ?_
              refine L.ld (j := 1) bx13.mem nag3 (Wt.mk rfl rfl) rfl rfl rfl rfl ?_
              refine L.bi (Wt.mk rfl rfl) rfl rfl rfl rfl ?_
              refine L.pkT Wt.no rfl rfl rfl rfl ?_
              exact L.sub (Sub.cons rfl (Sub.cons rfl (Sub.cons rfl (Sub.cons rfl (Sub.cons rfl (Sub.cons rfl (Sub.cons rfl Sub.nil))))))) (J151 _ _ ⟨(decide ((W ((W (x140.tmod 7)) - 1)) < (W (1 + (W (p0.1.tmod 6)))))), (andT hc).symm, rfl, rfl⟩)
            · refine L.know (d := 47) rfl hc ?_
              refine L.skip rfl rfl rfl rfl ?_
              refine L.skip rfl rfl rfl rfl ?_
              refine L.skip rfl rfl rfl rfl ?_
              refine L.skip rfl rfl rfl rfl ?_
              refine L.pkF Wt.no rfl rfl rfl rfl ?_
              exact L.sub (Sub.cons rfl (Sub.cons rfl (Sub.cons rfl (Sub.cons rfl (Sub.cons rfl (Sub.cons rfl (Sub.cons rfl Sub.nil))))))) (J151 _ _ ⟨false, (andF hc).symm, rfl, rfl⟩)
      · refine E.cF rfl hc ?_
        refine E.exit ?_
        refine X.seqX ?_
        refine X.seqX ?_
        have hx := ho128 _ (Option.some.inj hm).symm
        subst hx
        exact X.sub (K133 _ _ ⟨s131, a106, c106, m0, h10, h101, h106, bx4, bx7, bx13, rfl, rfl⟩) (Sub.cons rfl (Sub.cons rfl (Sub.cons rfl (Sub.cons rfl Sub.nil))))
    · intro Jj103
      refine E.seq ?_
      refine E.reg ?_
      refine L.fa fa25_1 Wt.no rfl rfl ?_
      refine L.ld (j := 1) bx4.mem nag5 Wt.no rfl rfl rfl rfl ?_
      refine L.mv Wt.no rfl rfl ?_
      obtain ⟨_, z152, hm⟩ := bindS hm
      refine L.shr Wt.no rfl rfl (ng_some z152) rfl ?_
      refine L.bi Wt.no rfl rfl rfl rfl ?_
      refine L.bi Wt.no rfl rfl rfl rfl ?_
      refine L.nil ?_
      refine X.seqN ?_
      rcases ifS hm with ⟨hc, hm⟩ | ⟨hc, hm⟩
      · refine E.cT rfl hc ?_
        refine E.reg ?_
        refine L.fa fa31_2 Wt.no rfl rfl ?_
        refine L.ld (j := 2) bx13.mem nag28 Wt.no rfl rfl rfl rfl ?_
        refine L.mv Wt.no rfl rfl ?_
        refine L.bsE (k := 1) (cs := [.int .i64 st90.1]) 0 bs28 (Nat.le_of_ble_eq_true rfl) Wt.no rfl rfl rfl rfl ?_
        intro b153 s154 m155 bx153
        replace m0 := m0.trans m155.no
        replace h20 := h20.mv m155 no_No no_No
        replace bx4 := bx4.mv m155 no_No
        replace bx7 := bx7.mv m155 no_No
        replace bx13 := bx13.mv m155 no_No
        replace h10 := h10.mono (m155.le no_No)
        replace h22 := h22.mv m155 no_No no_No
        have h153 := Bx.rdL (r := (rK .i64)) (xs := ([st90.1] : List Int)) bx153 ⟨[.int .i64 st90.1], _, rfl, rfl, rfl⟩ (Nat.le_of_ble_eq_true rfl)
        obtain ⟨x156, ex156, hm⟩ := bindS hm
        refine L.ap (r := (rK .i64)) Try.underlying28 el3 rfl (tgp hN) h20 h153.wk Wt.no rfl rfl ex156 rfl ?_
        intro a157 c157 s158 m159 h157
        replace m0 := m0.trans (m159.one up)
        replace bx4 := bx4.mv m159 (tgN (by decide))
        replace bx7 := bx7.mv m159 (tgN (by decide))
        replace bx13 := bx13.mv m159 (tgN (by decide))
        replace h10 := h10.mono (m159.le (tg0 hN))
        replace h22 := h22.mv m159 (tgN (by decide)) (tg0 hN)
        refine L.fa fa31_2 Wt.no rfl rfl ?_
        refine L.st (c := [.slice a157 x156.length c157]) (cs' := #[.slice (some ⟨b10, 0, none⟩) ([0, 1, 2, 3] : List Int).length (([0, 1, 2, 3] : List Int).length), .int .i64 (W (1 + (W (p0.1.tmod 6)))), .slice a157 x156.length c157, .slice a22 st90.2.2.length c22]) bx13 nag28.sz Wt.no rfl rfl rfl rfl rfl (Nat.le_of_ble_eq_true rfl) rfl ?_
        intro s160 m161 bx13
        replace m0 := m0.trans (m161.one up)
        replace bx4 := bx4.mv m161 (tgN (by decide))
        replace bx7 := bx7.mv m161 (tgN (by decide))
        replace h10 := h10.mono (m161.le (tg0 hN))
        replace h157 := h157.mv m161 (tgN (by decide)) (tg0 hN)
        replace h22 := h22.mv m161 (tgN (by decide)) (tg0 hN)
        refine L.nil ?_
        exact X.sub (Jj103 _ _ ⟨s160, x156, a157, c157, hm, m0, h10, h157, h22, bx4, bx7, bx13, rfl, rfl⟩) (Sub.cons rfl (Sub.cons rfl (Sub.cons rfl (Sub.cons rfl Sub.nil))))
      · refine E.cF rfl hc ?_
        refine E.skip ?_
        exact X.sub (Jj103 _ _ ⟨s95, st90.2.1, a20, c20, hm, m0, h10, h20, h22, bx4, bx7, bx13, rfl, rfl⟩) (Sub.cons rfl (Sub.cons rfl (Sub.cons rfl (Sub.cons rfl Sub.nil))))
  · refine E.cF rfl hc ?_
    refine E.exit ?_
    refine X.seqX ?_
    refine X.seqX ?_
    have hx := ho90 _ (Option.some.inj hm).symm
    subst hx
    exact X.sub (K99 _ _ ⟨s95, a20, c20, a22, c22, m0, h10, h20, h22, bx7, bx13, rfl, rfl⟩) (Sub.cons rfl (Sub.cons rfl Sub.nil))

theorem bs125 : Bs Try.prog 125 124 2 [.int .i64 0, .int .i64 0] := Bs.mk' Try.underlying125 (by kernel_rfl) (by kernel_rfl) rfl
theorem el124 : El Try.prog 124 2 16 := El.mk' (z := .agg #[.int .i64 0, .int .i64 0]) (by kernel_rfl) (by kernel_rfl) (by kernel_rfl) rfl
theorem fa124_0 : FA Try.prog 124 0 0 := FA.mk Try.underlying124 rfl rfl ⟨1, by decide, by kernel_rfl⟩
theorem fa124_1 : FA Try.prog 124 1 1 := FA.mk Try.underlying124 rfl rfl ⟨1, by decide, by kernel_rfl⟩
theorem fa80_0 : FA Try.prog 80 0 0 := FA.mk Try.underlying80 rfl rfl ⟨4, by decide, by kernel_rfl⟩
theorem pl124 : Pl Try.prog 124 [(0, 1), (1, 1)] [.int .i64 0, .int .i64 0] := Pl.str Try.underlying124 (by kernel_rfl) (by kernel_rfl)
theorem sl125 : Sl Try.prog 125 124 2 := Sl.mk' Try.underlying125 (by kernel_rfl)
noncomputable def m_reach_graph_finish_l1 (p0 : (List Int × Int × List Int × (List (Int × Int × Int))) × List Int) (st92 : List Bool × (List (Int × Int)) × List Int) : Option ((List Bool × (List (Int × Int)) × List Int) ⊕ (List Int × List Bool)) :=
  if decide ((st92.2.1.length : Int) > 0) then
    (idx st92.2.1 (W ((st92.2.1.length : Int) - 1))).bind fun x99 =>
    (idx p0.2 (W (x99.1 + 1))).bind fun x113 =>
    if (x99.2 == x113) then
      (app st92.2.2 ([x99.1] : List Int)).bind fun x121 =>
      (slc st92.2.1 0 (W ((st92.2.1.length : Int) - 1))).bind fun x125 =>
      some (.inl (st92.1, x125, x121))
    else
      (idx p0.1.2.2.2 x99.2).bind fun x135 =>
      (upd st92.2.1 (W ((st92.2.1.length : Int) - 1)) (x99.1, W (x99.2 + 1))).bind fun x141 =>
      (idx st92.1 x135.2.2).bind fun x144 =>
      if (!x144) then
        (idx st92.1 x135.2.2).bind fun x146 =>
        (upd st92.1 x135.2.2 true).bind fun x148 =>
        (idx p0.2 x135.2.2).bind fun x151 =>
        (app x141 ([(x135.2.2, x151)] : List (Int × Int))).bind fun x156 =>
        some (.inl (x148, x156, st92.2.2))
      else
        some (.inl (st92.1, x141, st92.2.2))
  else
    some (.inr (st92.2.2, st92.1))
/-- What reach.graph).finish computes. -/
noncomputable def m_reach_graph_finish (p0 : (List Int × Int × List Int × (List (Int × Int × Int))) × List Int) (p1 : Int) (p2 : List Bool) (p3 : List Int) : Option (List Int × List Bool) :=
  (idx p0.2 p1).bind fun x11 =>
  (idx p2 p1).bind fun x16 =>
  (upd p2 p1 true).bind fun x18 =>
  (iter (m_reach_graph_finish_l1 p0) (x18, ([(p1, x11)] : List (Int × Int)), p3)).bind fun o92 =>
  some o92
set_option maxRecDepth 100000 in
set_option maxHeartbeats 8000000 in
theorem m_reach_graph_finish_c {s : Sig} {p0 : (List Int × Int × List Int × (List (Int × Int × Int))) × List Int} {p1 : Int} {p2 : List Bool} {p3 : List Int} {a1 : Option Addr} {c1 : Nat} {a2 : Option Addr} {c2 : Nat} {a3 : Option Addr} {c3 : Nat} {a4 : Option Addr} {c4 : Nat} {t2 : Nat} {a5 : Option Addr} {c5 : Nat} {t3 : Nat} {a6 : Option Addr} {c6 : Nat} {r : List Int × List Bool} (nt2_t3 : t2 ≠ t3) (nt3_t2 : t3 ≠ t2) (zt2 : 0 < t2) (zt3 : 0 < t3) (h1 : RdL (rK .i64) s a1 c1 p0.1.1) (h2 : RdL (rK .i64) s a2 c2 p0.1.2.2.1) (h3 : RdL (rP (rK .i64) (rP (rK .i64) (rK .i64))) s a3 c3 p0.1.2.2.2) (h4 : RdL (rK .i64) s a4 c4 p0.2) (h5 : RowT rB s t2 4 a5 c5 p2) (h6 : RowT (rK .i64) s t3 3 a6 c6 p3) (hm : m_reach_graph_finish p0 p1 p2 p3 = some r) :
    Calls Try.prog 72 #[.agg #[.slice a1 p0.1.1.length c1, .int .i64 p0.1.2.1, .slice a2 p0.1.2.2.1.length c2, .slice a3 p0.1.2.2.2.length c3, .slice a4 p0.2.length c4], .int .i64 p1, .slice a5 p2.length c5, .slice a6 p3.length c6] s.w (RetS (fun t => t = t2 ∨ t = t3) s fun v s' => ∃ (a7 : Option Addr) (c7 : Nat), v = .slice a7 r.1.length c7 ∧ RowT (rK .i64) s' t3 3 a7 c7 r.1 ∧ RowT rB s' t2 4 a5 c5 r.2) := by
  unfold m_reach_graph_finish at hm
  obtain ⟨N, hN, hNb, lt2, lt3, -⟩ := s.freshL [t2, t3]
  have m0 : Mv (Up N (fun t => t = t2 ∨ t = t3)) s s := Mv.refl _ _
  refine E.entry (vs := [.agg #[.slice a1 p0.1.1.length c1, .int .i64 p0.1.2.1, .slice a2 p0.1.2.2.1.length c2, .slice a3 p0.1.2.2.2.length c3, .slice a4 p0.2.length c4], .int .i64 p1, .slice a5 p2.length c5, .slice a6 p3.length c6]) (e := [(0, .agg #[.slice a1 p0.1.1.length c1, .int .i64 p0.1.2.1, .slice a2 p0.1.2.2.1.length c2, .slice a3 p0.1.2.2.2.length c3, .slice a4 p0.2.length c4]), (1, .int .i64 p1), (2, .slice a5 p2.length c5), (3, .slice a6 p3.length c6)]) Try.func72 rfl Try.ntmps72 rfl rfl ?_
  refine E.seq ?_
  refine E.reg ?_
  refine L.box (N + 0) Wt.no rfl rfl rfl ?_
  intro b8 s9 m10 bx8
  replace m0 := m0.trans m10.no
  replace h5 := h5.mv m10 no_No no_No
  replace h6 := h6.mv m10 no_No no_No
  replace h1 := h1.mono (m10.le no_No)
  replace h2 := h2.mono (m10.le no_No)
  replace h3 := h3.mono (m10.le no_No)
  replace h4 := h4.mono (m10.le no_No)
  refine L.as Wt.no rfl rfl ?_
  refine L.nil ?_
  refine X.seqN ?_
  refine E.seq ?_
  refine E.reg ?_
  refine L.mv Wt.no rfl rfl ?_
  refine L.fa fa80_1 Wt.no rfl rfl ?_
  refine L.ld (j := 4) bx8.mem nag28 Wt.no rfl rfl rfl rfl ?_
  refine L.mv Wt.no rfl rfl ?_
  obtain ⟨x11, ex11, hm⟩ := bindS hm
  refine L.ix (r := (rK .i64)) sl28 h4 Wt.no rfl rfl ex11 rfl ?_
  rintro b12 o12 cc12 me12 rd12
  obtain rfl := rd12
  refine L.ld (j := 0) me12 nag3 Wt.no rfl rfl rfl rfl ?_
  refine L.bu (cs := [.int .i64 p1, .int .i64 x11]) pl124 Wt.no rfl rfl rfl ?_
  refine L.bsE (k := 1) (cs := [.int .i64 p1, .int .i64 x11]) (N + 1) bs125 (Nat.le_of_ble_eq_true rfl) Wt.no rfl rfl rfl rfl ?_
  intro b13 s14 m15 bx13
  replace m0 := m0.trans m15.no
  replace h5 := h5.mv m15 no_No no_No
  replace h6 := h6.mv m15 no_No no_No
  replace bx8 := bx8.mv m15 no_No
  replace h1 := h1.mono (m15.le no_No)
  replace h2 := h2.mono (m15.le no_No)
  replace h3 := h3.mono (m15.le no_No)
  replace h4 := h4.mono (m15.le no_No)
  have h13 := Bx.row (r := (rP (rK .i64) (rK .i64))) (xs := ([(p1, x11)] : List (Int × Int))) bx13 ⟨[.int .i64 p1, .int .i64 x11], _, rfl, ⟨[.int .i64 p1], [.int .i64 x11], rfl, rfl, rfl⟩, rfl⟩ (Nat.le_of_ble_eq_true rfl)
  refine L.as Wt.no rfl rfl ?_
  refine L.nil ?_
  refine X.seqN ?_
  refine E.seq ?_
  refine E.reg ?_
  refine L.mv Wt.no rfl rfl ?_
  refine L.mv Wt.no rfl rfl ?_
  obtain ⟨x16, ex16, hm⟩ := bindS hm
  refine L.ir (r := rB) sl86 h5 Wt.no rfl rfl ex16 rfl ?_
  rintro b17 o17 cc17 me17 rd17 sp17
  obtain rfl := rd17
  obtain ⟨x18, ex18, hm⟩ := bindS hm
  have elx18 := upd_len ex18
  refine L.su (fo := 0) (c := [.bool true]) (z := true) h5 sp17 ex16 ex18 (tgpV zt2) nag4.sz Wt.no rfl rfl rfl rfl rfl rfl (fun c0 hc0 => by obtain rfl := hc0; exact rfl) ?_
  intro s19 m20 h5
  replace m0 := m0.trans (m20.one (.inr (.inl rfl)))
  replace h13 := h13.mv m20 (tgW lt2) (tgz zt2)
  replace h6 := h6.mv m20 nt3_t2 (tgz zt2)
  replace bx8 := bx8.mv m20 (tgW lt2)
  replace h1 := h1.mono (m20.le (tgz zt2))
  replace h2 := h2.mono (m20.le (tgz zt2))
  replace h3 := h3.mono (m20.le (tgz zt2))
  replace h4 := h4.mono (m20.le (tgz zt2))
  refine L.reval (d := 2) rfl elx18 ?_
  refine L.nil ?_
  refine X.seqN ?_
  refine E.seq ?_
  refine E.block ?_
  obtain ⟨o92, eo92, hm⟩ := bindS hm
  refine E.cut (x := .exit 0) (fun e w => ∃ (s97 : Sig) (a94 : Option Addr) (c94 : Nat), Mv (Up N (fun t => t = t2 ∨ t = t3)) s s97 ∧ RowT (rK .i64) s97 t3 3 a94 c94 o92.1 ∧ RowT rB s97 t2 4 a5 c5 o92.2 ∧ e = [(3, .slice a94 o92.1.length c94)] ∧ w = s97.w) ?_ ?_
  · rintro _ _ ⟨s97, a94, c94, m0, h94, h5, rfl, rfl⟩
    refine X.blkE ?_
    refine X.seqN ?_
    refine E.seq ?_
    refine E.reg ?_
    refine L.mv Wt.no rfl rfl ?_
    refine L.as Wt.no rfl rfl ?_
    refine L.nil ?_
    refine X.seqN ?_
    refine E.ret ?_
    obtain rfl := Option.some.inj hm
    exact X.rt (.inl rfl) Try.results72 (Rs.tmp rfl Rs.nil) rfl ⟨_, (s97).ren N (fun _ => 0), rfl, rfl, m0.ren hNb, ⟨a94, c94, rfl, (h94.renV hN lt3), (h5.renV hN lt2)⟩⟩
  intro K98
  refine E.iter (fun (st92 : List Bool × (List (Int × Int)) × List Int) (e : List (Nat × Value)) (w : World) => ∃ (s96 : Sig) (a23 : Option Addr) (c23 : Nat) (a25 : Option Addr) (c25 : Nat), Mv (Up N (fun t => t = t2 ∨ t = t3)) s s96 ∧ RowT rB s96 t2 4 a5 c5 st92.1 ∧ RowT (rP (rK .i64) (rK .i64)) s96 (N + 1) 124 a23 c23 st92.2.1 ∧ RowT (rK .i64) s96 t3 3 a25 c25 st92.2.2 ∧ RdL (rK .i64) s96 a1 c1 p0.1.1 ∧ RdL (rK .i64) s96 a2 c2 p0.1.2.2.1 ∧ RdL (rP (rK .i64) (rP (rK .i64) (rK .i64))) s96 a3 c3 p0.1.2.2.2 ∧ RdL (rK .i64) s96 a4 c4 p0.2 ∧ Bx s96 (N + 0) b8 #[.slice a1 p0.1.1.length c1, .int .i64 p0.1.2.1, .slice a2 p0.1.2.2.1.length c2, .slice a3 p0.1.2.2.2.length c3, .slice a4 p0.2.length c4] 80 ∧ e = [(2, .slice a5 st92.1.length c5), (9, .slice a23 st92.2.1.length c23), (4, .pointer (some ⟨b8, 0, none⟩)), (3, .slice a25 st92.2.2.length c25)] ∧ w = s96.w) eo92 ⟨s19, (some ⟨b13, 0, none⟩), ([(p1, x11)] : List (Int × Int)).length, a6, c6, m0, h5, h13, h6, h1, h2, h3, h4, bx8, rfl, rfl⟩ (Sub.cons rfl (Sub.cons rfl (Sub.cons rfl (Sub.cons rfl Sub.nil)))) ?_
  rintro st92 res92 hm ih92 ho92 _ _ ⟨s96, a23, c23, a25, c25, m0, h5, h23, h25, h1, h2, h3, h4, bx8, rfl, rfl⟩
  unfold m_reach_graph_finish_l1 at hm
  refine E.seq ?_
  refine E.seq ?_
  refine E.reg ?_
  refine L.mv Wt.no rfl rfl ?_
  refine L.len sl125 Wt.no rfl rfl ?_
  refine L.bi Wt.no rfl rfl rfl rfl ?_
  refine L.nil ?_
  refine X.seqN ?_
  rcases ifS hm with ⟨hc, hm⟩ | ⟨hc, hm⟩
  · refine E.cT rfl hc ?_
    refine E.skip ?_
    refine X.seqN ?_
    refine E.block ?_
    refine E.seq ?_
    refine E.reg ?_
    refine L.mv Wt.no rfl rfl ?_
    refine L.mv Wt.no rfl rfl ?_
    refine L.len sl125 Wt.no rfl rfl ?_
    refine L.bi Wt.no rfl rfl rfl rfl ?_
    obtain ⟨x99, ex99, hm⟩ := bindS hm
    refine L.ir (r := (rP (rK .i64) (rK .i64))) sl125 h23 Wt.no rfl rfl ex99 rfl ?_
    rintro b100 o100 cc100 me100 rd100 sp100
    obtain ⟨_, _, rfl, rfl, rfl⟩ := rd100
    refine L.as Wt.no rfl rfl ?_
    refine L.nil ?_
    refine X.seqN ?_
    refine E.seq ?_
    refine E.seq ?_
    obtain ⟨x113, ex113, hm⟩ := bindS hm
    refine E.draw [[], [0], [0, 1], [0, 1, 2], [], [4], [], [6], [6, 7], [6, 7, 8], [6, 7, 8, 9], [4, 5, 6, 7, 8, 9, 10], [4, 5, 6, 7, 8, 9, 10, 11], [0, 1, 2, 3, 4, 5, 6, 7, 8, 9, 10, 11, 12]] (fun D e sx => Mv No s96 sx ∧ Sub [(10, .pointer (some ⟨b100, o100, none⟩)), (2, .slice a5 st92.1.length c5), (9, .slice a23 st92.2.1.length c23), (4, .pointer (some ⟨b8, 0, none⟩)), (3, .slice a25 st92.2.2.length c25)] e ∧ AllP [D 0 = true → (Env.get e 31 = some (.pointer (some ⟨b100, o100, none⟩))), D 1 = true → (Env.get e 32 = some (.pointer (some ⟨b100, o100, none⟩))), D 2 = true → (Env.get e 33 = some (.pointer (some ⟨b100, o100 + 1, none⟩))), D 3 = true → (Env.get e 34 = some (.int .i64 x99.2)), D 4 = true → (Env.get e 35 = some (.pointer (some ⟨b8, 4, none⟩))), D 5 = true → (Env.get e 36 = some (.slice a4 p0.2.length c4)), D 6 = true → (Env.get e 37 = some (.pointer (some ⟨b100, o100, none⟩))), D 7 = true → (Env.get e 38 = some (.pointer (some ⟨b100, o100, none⟩))), D 8 = true → (Env.get e 39 = some (.pointer (some ⟨b100, o100 + 0, none⟩))), D 9 = true → (Env.get e 40 = some (.int .i64 x99.1)), D 10 = true → (Env.get e 41 = some (.int .i64 (W (x99.1 + 1)))), D 11 = true → (∃ (b114 : Nat) (o114 : Nat), Env.get e 42 = some (.pointer (some ⟨b114, o114, none⟩)) ∧ Mem sx 0 b114 o114 [.int .i64 x113]), D 12 = true → (Env.get e 43 = some (.int .i64 x113)), D 13 = true → (Env.get e 44 = some (.bool (x99.2 == x113)))]) (by kernel_rfl) (by kernel_rfl) (by kernel_rfl) ?_ ?_ ?_
    · intro sz mz
      exact ⟨mz, (Sub.cons rfl (Sub.cons rfl (Sub.cons rfl (Sub.cons rfl (Sub.cons rfl Sub.nil))))), nofun, nofun, nofun, nofun, nofun, nofun, nofun, nofun, nofun, nofun, nofun, nofun, nofun, nofun, trivial⟩
    · refine ⟨?_, ?_, ?_, ?_, ?_, ?_, ?_, ?_, ?_, ?_, ?_, ?_, ?_, ?_, trivial⟩
      · rintro D e s101 ⟨im, ib, i⟩ hk hf ha
        have kn : Kn e [(10, .pointer (some ⟨b100, o100, none⟩))] := ⟨(ib 10 _ rfl), trivial⟩
        refine L.kns _ kn ?_
        refine L.mv Wt.no rfl rfl ?_
        refine L.nil ?_
        exact X.dk kn ⟨im, Sub.fresh ib rfl, i.u 0 (fun _ => rfl)⟩
      · rintro D e s102 ⟨im, ib, i⟩ hk hf ha
        have g0_ := (i.p 0) (ha.at 0 rfl)
        have kn : Kn e [(31, .pointer (some ⟨b100, o100, none⟩))] := ⟨g0_, trivial⟩
        refine L.kns _ kn ?_
        refine L.nc Wt.no rfl rfl ?_
        refine L.nil ?_
        exact X.dk kn ⟨im, Sub.fresh ib rfl, i.u 1 (fun _ => rfl)⟩
      · rintro D e s103 ⟨im, ib, i⟩ hk hf ha
        have g1_ := (i.p 1) (ha.at 1 rfl)
        have kn : Kn e [(32, .pointer (some ⟨b100, o100, none⟩))] := ⟨g1_, trivial⟩
        refine L.kns _ kn ?_
        refine L.fa fa124_1 Wt.no rfl rfl ?_
        refine L.nil ?_
        exact X.dk kn ⟨im, Sub.fresh ib rfl, i.u 2 (fun _ => rfl)⟩
      · rintro D e s104 ⟨im, ib, i⟩ hk hf ha
        have g2_ := (i.p 2) (ha.at 2 rfl)
        have me100 := me100.mv im no_No
        have kn : Kn e [(33, .pointer (some ⟨b100, o100 + 1, none⟩))] := ⟨g2_, trivial⟩
        refine L.kns _ kn ?_
        refine L.ld (j := 1) me100 nag3 Wt.no rfl rfl rfl rfl ?_
        refine L.nil ?_
        exact X.dk kn ⟨im, Sub.fresh ib rfl, i.u 3 (fun _ => rfl)⟩
      · rintro D e s105 ⟨im, ib, i⟩ hk hf ha
        have kn : Kn e [(4, .pointer (some ⟨b8, 0, none⟩))] := ⟨(ib 4 _ rfl), trivial⟩
        refine L.kns _ kn ?_
        refine L.fa fa80_1 Wt.no rfl rfl ?_
        refine L.nil ?_
        exact X.dk kn ⟨im, Sub.fresh ib rfl, i.u 4 (fun _ => rfl)⟩
      · rintro D e s106 ⟨im, ib, i⟩ hk hf ha
        have g4_ := (i.p 4) (ha.at 4 rfl)
        have bx8 := bx8.mv im no_No
        have kn : Kn e [(35, .pointer (some ⟨b8, 4, none⟩))] := ⟨g4_, trivial⟩
        refine L.kns _ kn ?_
        refine L.ld (j := 4) bx8.mem nag28 Wt.no rfl rfl rfl rfl ?_
        refine L.nil ?_
        exact X.dk kn ⟨im, Sub.fresh ib rfl, i.u 5 (fun _ => rfl)⟩
      · rintro D e s107 ⟨im, ib, i⟩ hk hf ha
        have kn : Kn e [(10, .pointer (some ⟨b100, o100, none⟩))] := ⟨(ib 10 _ rfl), trivial⟩
        refine L.kns _ kn ?_
        refine L.mv Wt.no rfl rfl ?_
        refine L.nil ?_
        exact X.dk kn ⟨im, Sub.fresh ib rfl, i.u 6 (fun _ => rfl)⟩
      · rintro D e s108 ⟨im, ib, i⟩ hk hf ha
        have g6_ := (i.p 6) (ha.at 6 rfl)
        have kn : Kn e [(37, .pointer (some ⟨b100, o100, none⟩))] := ⟨g6_, trivial⟩
        refine L.kns _ kn ?_
        refine L.nc Wt.no rfl rfl ?_
        refine L.nil ?_
        exact X.dk kn ⟨im, Sub.fresh ib rfl, i.u 7 (fun _ => rfl)⟩
      · rintro D e s109 ⟨im, ib, i⟩ hk hf ha
        have g7_ := (i.p 7) (ha.at 7 rfl)
        have kn : Kn e [(38, .pointer (some ⟨b100, o100, none⟩))] := ⟨g7_, trivial⟩
        refine L.kns _ kn ?_
        refine L.fa fa124_0 Wt.no rfl rfl ?_
        refine L.nil ?_
        exact X.dk kn ⟨im, Sub.fresh ib rfl, i.u 8 (fun _ => rfl)⟩
      · rintro D e s110 ⟨im, ib, i⟩ hk hf ha
        have g8_ := (i.p 8) (ha.at 8 rfl)
        have me100 := me100.mv im no_No
        have kn : Kn e [(39, .pointer (some ⟨b100, o100 + 0, none⟩))] := ⟨g8_, trivial⟩
        refine L.kns _ kn ?_
        refine L.ld (j := 0) me100 nag3 Wt.no rfl rfl rfl rfl ?_
        refine L.nil ?_
        exact X.dk kn ⟨im, Sub.fresh ib rfl, i.u 9 (fun _ => rfl)⟩
      · rintro D e s111 ⟨im, ib, i⟩ hk hf ha
        have g9_ := (i.p 9) (ha.at 9 rfl)
        have kn : Kn e [(40, .int .i64 x99.1)] := ⟨g9_, trivial⟩
        refine L.kns _ kn ?_
        refine L.bi Wt.no rfl rfl rfl rfl ?_
        refine L.nil ?_
        exact X.dk kn ⟨im, Sub.fresh ib rfl, i.u 10 (fun _ => rfl)⟩
      · rintro D e s112 ⟨im, ib, i⟩ hk hf ha
        have g5_ := (i.p 5) (ha.at 5 rfl)
        have g10_ := (i.p 10) (ha.at 10 rfl)
        have h4 := h4.mono (im.le no_No)
        have kn : Kn e [(36, .slice a4 p0.2.length c4), (41, .int .i64 (W (x99.1 + 1)))] := ⟨g5_, g10_, trivial⟩
        refine L.kns _ kn ?_
        refine L.ix (r := (rK .i64)) sl28 h4 Wt.no rfl rfl ex113 rfl ?_
        rintro b114 o114 cc114 me114 rd114
        obtain rfl := rd114
        refine L.nil ?_
        exact X.dk kn ⟨im, Sub.fresh ib rfl, i.u 11 (fun _ => ⟨b114, o114, rfl, me114⟩)⟩
      · rintro D e s115 ⟨im, ib, i⟩ hk hf ha
        obtain ⟨b114, o114, g11_, me114⟩ := (i.p 11) (ha.at 11 rfl)
        have kn : Kn e [(42, .pointer (some ⟨b114, o114, none⟩))] := ⟨g11_, trivial⟩
        refine L.kns _ kn ?_
        refine L.ld (j := 0) me114 nag3 Wt.no rfl rfl rfl rfl ?_
        refine L.nil ?_
        exact X.dk kn ⟨im, Sub.fresh ib rfl, i.u 12 (fun _ => rfl)⟩
      · rintro D e s116 ⟨im, ib, i⟩ hk hf ha
        have g3_ := (i.p 3) (ha.at 3 rfl)
        have g12_ := (i.p 12) (ha.at 12 rfl)
        have kn : Kn e [(34, .int .i64 x99.2), (43, .int .i64 x113)] := ⟨g3_, g12_, trivial⟩
        refine L.kns _ kn ?_
        refine L.bi Wt.no rfl rfl rfl rfl ?_
        refine L.nil ?_
        exact X.dk kn ⟨im, Sub.fresh ib rfl, i.u 13 (fun _ => rfl)⟩
    · rintro D e s117 hD ⟨im, ib, i⟩
      have g13_ := (i.p 13) (hD 13 rfl)
      have me100 := me100.mv im no_No
      have h5 := h5.mv im no_No no_No
      have h23 := h23.mv im no_No no_No
      have bx8 := bx8.mv im no_No
      have h1 := h1.mono (im.le no_No)
      have h2 := h2.mono (im.le no_No)
      have h3 := h3.mono (im.le no_No)
      have h4 := h4.mono (im.le no_No)
      have h25 := h25.mv im no_No no_No
      have m0 := m0.trans im.no
      refine X.sub (e' := [(44, .bool (x99.2 == x113)), (10, .pointer (some ⟨b100, o100, none⟩)), (2, .slice a5 st92.1.length c5), (9, .slice a23 st92.2.1.length c23), (4, .pointer (some ⟨b8, 0, none⟩)), (3, .slice a25 st92.2.2.length c25)]) ?_ (Sub.cons g13_ (Sub.cons (ib 10 _ rfl) (Sub.cons (ib 2 _ rfl) (Sub.cons (ib 9 _ rfl) (Sub.cons (ib 4 _ rfl) (Sub.cons (ib 3 _ rfl) Sub.nil))))))
      refine X.seqN ?_
      rcases ifS hm with ⟨hc, hm⟩ | ⟨hc, hm⟩
      · refine E.cT rfl hc ?_
        refine E.seq ?_
        refine E.reg ?_
        refine L.mv Wt.no rfl rfl ?_
        refine L.mv Wt.no rfl rfl ?_
        refine L.nc Wt.no rfl rfl ?_
        refine L.fa fa124_0 Wt.no rfl rfl ?_
        refine L.ld (j := 0) me100 nag3 Wt.no rfl rfl rfl rfl ?_
        refine L.bsE (k := 1) (cs := [.int .i64 x99.1]) 0 bs28 (Nat.le_of_ble_eq_true rfl) Wt.no rfl rfl rfl rfl ?_
        intro b118 s119 m120 bx118
        replace m0 := m0.trans m120.no
        replace h5 := h5.mv m120 no_No no_No
        replace h23 := h23.mv m120 no_No no_No
        replace h25 := h25.mv m120 no_No no_No
        replace bx8 := bx8.mv m120 no_No
        replace h1 := h1.mono (m120.le no_No)
        replace h2 := h2.mono (m120.le no_No)
        replace h3 := h3.mono (m120.le no_No)
        replace h4 := h4.mono (m120.le no_No)
        have h118 := Bx.rdL (r := (rK .i64)) (xs := ([x99.1] : List Int)) bx118 ⟨[.int .i64 x99.1], _, rfl, rfl, rfl⟩ (Nat.le_of_ble_eq_true rfl)
        obtain ⟨x121, ex121, hm⟩ := bindS hm
        refine L.ap (r := (rK .i64)) Try.underlying28 el3 rfl (tgpV zt3) h25 h118.wk Wt.no rfl rfl ex121 rfl ?_
        intro a122 c122 s123 m124 h122
        replace m0 := m0.trans (m124.one (.inr (.inr rfl)))
        replace h23 := h23.mv m124 (tgW lt3) (tgz zt3)
        replace h5 := h5.mv m124 nt2_t3 (tgz zt3)
        replace bx8 := bx8.mv m124 (tgW lt3)
        replace h1 := h1.mono (m124.le (tgz zt3))
        replace h2 := h2.mono (m124.le (tgz zt3))
        replace h3 := h3.mono (m124.le (tgz zt3))
        replace h4 := h4.mono (m124.le (tgz zt3))
        refine L.as Wt.no rfl rfl ?_
        refine L.nil ?_
        refine X.seqN ?_
        refine E.seq ?_
        refine E.reg ?_
        refine L.mv Wt.no rfl rfl ?_
        refine L.mv Wt.no rfl rfl ?_
        refine L.len sl125 Wt.no rfl rfl ?_
        refine L.bi Wt.no rfl rfl rfl rfl ?_
        obtain ⟨x125, ex125, hm⟩ := bindS hm
        refine L.sho (r := (rP (rK .i64) (rK .i64))) sl125 h23 Wt.no rfl rfl ex125 rfl ?_
        intro a126 c126 h126
        refine L.as Wt.no rfl rfl ?_
        refine L.nil ?_
        refine X.seqN ?_
        refine E.exit ?_
        refine X.seqX ?_
        refine X.blkE ?_
        exact X.sub (ih92 _ (Option.some.inj hm).symm _ _ ⟨s123, a126, c126, a122, c122, m0, h5, h126, h122, h1, h2, h3, h4, bx8, rfl, rfl⟩) (Sub.cons rfl (Sub.cons rfl (Sub.cons rfl (Sub.cons rfl Sub.nil))))
      · refine E.cF rfl hc ?_
        refine E.skip ?_
        refine X.seqN ?_
        refine E.seq ?_
        obtain ⟨x135, ex135, hm⟩ := bindS hm
        refine E.draw [[], [0], [0, 1], [], [3], [3, 4], [3, 4, 5], [0, 1, 2, 3, 4, 5, 6], [0, 1, 2, 3, 4, 5, 6, 7], [0, 1, 2, 3, 4, 5, 6, 7, 8], [0, 1, 2, 3, 4, 5, 6, 7, 8, 9]] (fun D e sx => Mv No s117 sx ∧ Sub [(10, .pointer (some ⟨b100, o100, none⟩)), (2, .slice a5 st92.1.length c5), (9, .slice a23 st92.2.1.length c23), (4, .pointer (some ⟨b8, 0, none⟩)), (3, .slice a25 st92.2.2.length c25)] e ∧ AllP [D 0 = true → (Env.get e 57 = some (.pointer (some ⟨b8, 0, none⟩))), D 1 = true → (Env.get e 58 = some (.pointer (some ⟨b8, 3, none⟩))), D 2 = true → (Env.get e 59 = some (.slice a3 p0.1.2.2.2.length c3)), D 3 = true → (Env.get e 60 = some (.pointer (some ⟨b100, o100, none⟩))), D 4 = true → (Env.get e 61 = some (.pointer (some ⟨b100, o100, none⟩))), D 5 = true → (Env.get e 62 = some (.pointer (some ⟨b100, o100 + 1, none⟩))), D 6 = true → (Env.get e 63 = some (.int .i64 x99.2)), D 7 = true → (∃ (b136 : Nat) (o136 : Nat), Env.get e 64 = some (.pointer (some ⟨b136, o136, none⟩)) ∧ Mem sx 0 b136 o136 [.int .i64 x135.1, .int .i64 x135.2.1, .int .i64 x135.2.2]), D 8 = true → ∀ (b136 : Nat) (o136 : Nat), Env.get e 64 = some (.pointer (some ⟨b136, o136, none⟩)) → (Env.get e 65 = some (.pointer (some ⟨b136, o136 + 2, none⟩))), D 9 = true → (Env.get e 66 = some (.int .i64 x135.2.2)), D 10 = true → (Env.get e 11 = some (.int .i64 x135.2.2))]) (by kernel_rfl) (by kernel_rfl) (by kernel_rfl) ?_ ?_ ?_
        · intro sz mz
          exact ⟨mz, (Sub.cons rfl (Sub.cons rfl (Sub.cons rfl (Sub.cons rfl (Sub.cons rfl Sub.nil))))), nofun, nofun, nofun, nofun, nofun, nofun, nofun, nofun, nofun, nofun, nofun, trivial⟩
        · refine ⟨?_, ?_, ?_, ?_, ?_, ?_, ?_, ?_, ?_, ?_, ?_, trivial⟩
          · rintro D e s127 ⟨im, ib, i⟩ hk hf ha
            have kn : Kn e [(4, .pointer (some ⟨b8, 0, none⟩))] := ⟨(ib 4 _ rfl), trivial⟩
            refine L.kns _ kn ?_
            refine L.fa fa80_0 Wt.no rfl rfl ?_
            refine L.nil ?_
            exact X.dk kn ⟨im, Sub.fresh ib rfl, i.u 0 (fun _ => rfl)⟩
          · rintro D e s128 ⟨im, ib, i⟩ hk hf ha
            have g0_ := (i.p 0) (ha.at 0 rfl)
            have kn : Kn e [(57, .pointer (some ⟨b8, 0, none⟩))] := ⟨g0_, trivial⟩
            refine L.kns _ kn ?_
            refine L.fa fa31_3 Wt.no rfl rfl ?_
            refine L.nil ?_
            exact X.dk kn ⟨im, Sub.fresh ib rfl, i.u 1 (fun _ => rfl)⟩
          · rintro D e s129 ⟨im, ib, i⟩ hk hf ha
            have g1_ := (i.p 1) (ha.at 1 rfl)
            have bx8 := bx8.mv im no_No
            have kn : Kn e [(58, .pointer (some ⟨b8, 3, none⟩))] := ⟨g1_, trivial⟩
            refine L.kns _ kn ?_
            refine L.ld (j := 3) bx8.mem nag29 Wt.no rfl rfl rfl rfl ?_
            refine L.nil ?_
            exact X.dk kn ⟨im, Sub.fresh ib rfl, i.u 2 (fun _ => rfl)⟩
          · rintro D e s130 ⟨im, ib, i⟩ hk hf ha
            have kn : Kn e [(10, .pointer (some ⟨b100, o100, none⟩))] := ⟨(ib 10 _ rfl), trivial⟩
            refine L.kns _ kn ?_
            refine L.mv Wt.no rfl rfl ?_
            refine L.nil ?_
            exact X.dk kn ⟨im, Sub.fresh ib rfl, i.u 3 (fun _ => rfl)⟩
          · rintro D e s131 ⟨im, ib, i⟩ hk hf ha
            have g3_ := (i.p 3) (ha.at 3 rfl)
            have kn : Kn e [(60, .pointer (some ⟨b100, o100, none⟩))] := ⟨g3_, trivial⟩
            refine L.kns _ kn ?_
            refine L.nc Wt.no rfl rfl ?_
            refine L.nil ?_
            exact X.dk kn ⟨im, Sub.fresh ib rfl, i.u 4 (fun _ => rfl)⟩
          · rintro D e s132 ⟨im, ib, i⟩ hk hf ha
            have g4_ := (i.p 4) (ha.at 4 rfl)
            have kn : Kn e [(61, .pointer (some ⟨b100, o100, none⟩))] := ⟨g4_, trivial⟩
            refine L.kns _ kn ?_
            refine L.fa fa124_1 Wt.no rfl rfl ?_
            refine L.nil ?_
            exact X.dk kn ⟨im, Sub.fresh ib rfl, i.u 5 (fun _ => rfl)⟩
          · rintro D e s133 ⟨im, ib, i⟩ hk hf ha
            have g5_ := (i.p 5) (ha.at 5 rfl)
            have me100 := me100.mv im no_No
            have kn : Kn e [(62, .pointer (some ⟨b100, o100 + 1, none⟩))] := ⟨g5_, trivial⟩
            refine L.kns _ kn ?_
            refine L.ld (j := 1) me100 nag3 Wt.no rfl rfl rfl rfl ?_
            refine L.nil ?_
            exact X.dk kn ⟨im, Sub.fresh ib rfl, i.u 6 (fun _ => rfl)⟩
          · rintro D e s134 ⟨im, ib, i⟩ hk hf ha
            have g2_ := (i.p 2) (ha.at 2 rfl)
            have g6_ := (i.p 6) (ha.at 6 rfl)
            have h3 := h3.mono (im.le no_No)
            have kn : Kn e [(59, .slice a3 p0.1.2.2.2.length c3), (63, .int .i64 x99.2)] := ⟨g2_, g6_, trivial⟩
            refine L.kns _ kn ?_
            refine L.ix (r := (rP (rK .i64) (rP (rK .i64) (rK .i64)))) sl29 h3 Wt.no rfl rfl ex135 rfl ?_
            rintro b136 o136 cc136 me136 rd136
            obtain ⟨_, _, rfl, rfl, ⟨_, _, rfl, rfl, rfl⟩⟩ := rd136
            refine L.nil ?_
            exact X.dk kn ⟨im, Sub.fresh ib rfl, (i.u 7 (fun _ => ⟨b136, o136, rfl, me136⟩)).u 8 (fun z => Bool.noConfusion ((hf 8 (Nat.le_of_ble_eq_true rfl) rfl).symm.trans z))⟩
          · rintro D e s137 ⟨im, ib, i⟩ hk hf ha
            obtain ⟨b136, o136, g7_, me136⟩ := (i.p 7) (ha.at 7 rfl)
            have kn : Kn e [(64, .pointer (some ⟨b136, o136, none⟩))] := ⟨g7_, trivial⟩
            refine L.kns _ kn ?_
            refine L.fa fa45_2 Wt.no rfl rfl ?_
            refine L.nil ?_
            exact X.dk kn ⟨im, Sub.fresh ib rfl, i.u 8 (fun _ _ _ q7 => by cases g7_.symm.trans q7; exact rfl)⟩
          · rintro D e s138 ⟨im, ib, i⟩ hk hf ha
            obtain ⟨b136, o136, g7_, me136⟩ := (i.p 7) (ha.at 7 rfl)
            have g8_ := (i.p 8) (ha.at 8 rfl) b136 o136 g7_
            have kn : Kn e [(65, .pointer (some ⟨b136, o136 + 2, none⟩))] := ⟨g8_, trivial⟩
            refine L.kns _ kn ?_
            refine L.ld (j := 2) me136 nag3 Wt.no rfl rfl rfl rfl ?_
            refine L.nil ?_
            exact X.dk kn ⟨im, Sub.fresh ib rfl, i.u 9 (fun _ => rfl)⟩
          · rintro D e s139 ⟨im, ib, i⟩ hk hf ha
            have g9_ := (i.p 9) (ha.at 9 rfl)
            have kn : Kn e [(66, .int .i64 x135.2.2)] := ⟨g9_, trivial⟩
            refine L.kns _ kn ?_
            refine L.as Wt.no rfl rfl ?_
            refine L.nil ?_
            exact X.dk kn ⟨im, Sub.fresh ib rfl, i.u 10 (fun _ => rfl)⟩
        · rintro D e s140 hD ⟨im, ib, i⟩
          have g10_ := (i.p 10) (hD 10 rfl)
          have me100 := me100.mv im no_No
          have h5 := h5.mv im no_No no_No
          have h23 := h23.mv im no_No no_No
          have bx8 := bx8.mv im no_No
          have h1 := h1.mono (im.le no_No)
          have h2 := h2.mono (im.le no_No)
          have h3 := h3.mono (im.le no_No)
          have h4 := h4.mono (im.le no_No)
          have h25 := h25.mv im no_No no_No
          have m0 := m0.trans im.no
          refine X.sub (e' := [(11, .int .i64 x135.2.2), (10, .pointer (some ⟨b100, o100, none⟩)), (2, .slice a5 st92.1.length c5), (9, .slice a23 st92.2.1.length c23), (4, .pointer (some ⟨b8, 0, none⟩)), (3, .slice a25 st92.2.2.length c25)]) ?_ (Sub.cons g10_ (Sub.cons (ib 10 _ rfl) (Sub.cons (ib 2 _ rfl) (Sub.cons (ib 9 _ rfl) (Sub.cons (ib 4 _ rfl) (Sub.cons (ib 3 _ rfl) Sub.nil))))))
          refine X.seqN ?_
          refine E.seq ?_
          refine E.reg ?_
          refine L.mv Wt.no rfl rfl ?_
          refine L.nc Wt.no rfl rfl ?_
          refine L.fa fa124_1 Wt.no rfl rfl ?_
          refine L.ld (j := 1) me100 nag3 Wt.no rfl rfl rfl rfl ?_
          refine L.bi Wt.no rfl rfl rfl rfl ?_
          refine L.nc Wt.no rfl rfl ?_
          refine L.fa fa124_1 Wt.no rfl rfl ?_
          obtain ⟨x141, ex141, hm⟩ := bindS hm
          have elx141 := upd_len ex141
          refine L.su (fo := 1) (c := [.int .i64 (W (x99.2 + 1))]) (z := (x99.1, W (x99.2 + 1))) h23 sp100 ex99 ex141 (tgp hN) nag3.sz Wt.no rfl rfl rfl rfl rfl rfl (fun c0 hc0 => by obtain ⟨_, _, rfl, rfl, rfl⟩ := hc0; exact ⟨[.int .i64 x99.1], [.int .i64 (W (x99.2 + 1))], rfl, rfl, rfl⟩) ?_
          intro s142 m143 h23
          replace m0 := m0.trans (m143.one up)
          replace h5 := h5.mv m143 (tgV lt2) (tg0 hN)
          replace h25 := h25.mv m143 (tgV lt3) (tg0 hN)
          replace bx8 := bx8.mv m143 (tgN (by decide))
          replace h1 := h1.mono (m143.le (tg0 hN))
          replace h2 := h2.mono (m143.le (tg0 hN))
          replace h3 := h3.mono (m143.le (tg0 hN))
          replace h4 := h4.mono (m143.le (tg0 hN))
          refine L.reval (d := 9) rfl elx141 ?_
          refine L.nil ?_
          refine X.seqN ?_
          refine E.seq ?_
          refine E.reg ?_
          refine L.mv Wt.no rfl rfl ?_
          refine L.mv Wt.no rfl rfl ?_
          obtain ⟨x144, ex144, hm⟩ := bindS hm
          refine L.ir (r := rB) sl86 h5 Wt.no rfl rfl ex144 rfl ?_
          rintro b145 o145 cc145 me145 rd145 sp145
          obtain rfl := rd145
          refine L.ld (j := 0) me145 nag4 Wt.no rfl rfl rfl rfl ?_
          refine L.not Wt.no rfl rfl ?_
          refine L.nil ?_
          refine X.seqN ?_
          rcases ifS hm with ⟨hc, hm⟩ | ⟨hc, hm⟩
          · refine E.cT rfl hc ?_
            refine E.seq ?_
            refine E.reg ?_
            refine L.mv Wt.no rfl rfl ?_
            refine L.mv Wt.no rfl rfl ?_
            obtain ⟨x146, ex146, hm⟩ := bindS hm
            refine L.ir (r := rB) sl86 h5 Wt.no rfl rfl ex146 rfl ?_
            rintro b147 o147 cc147 me147 rd147 sp147
            obtain rfl := rd147
            obtain ⟨x148, ex148, hm⟩ := bindS hm
            have elx148 := upd_len ex148
            refine L.su (fo := 0) (c := [.bool true]) (z := true) h5 sp147 ex146 ex148 (tgpV zt2) nag4.sz Wt.no rfl rfl rfl rfl rfl rfl (fun c0 hc0 => by obtain rfl := hc0; exact rfl) ?_
            intro s149 m150 h5
            replace m0 := m0.trans (m150.one (.inr (.inl rfl)))
            replace h25 := h25.mv m150 nt3_t2 (tgz zt2)
            replace h23 := h23.mv m150 (tgW lt2) (tgz zt2)
            replace bx8 := bx8.mv m150 (tgW lt2)
            replace h1 := h1.mono (m150.le (tgz zt2))
            replace h2 := h2.mono (m150.le (tgz zt2))
            replace h3 := h3.mono (m150.le (tgz zt2))
            replace h4 := h4.mono (m150.le (tgz zt2))
            refine L.reval (d := 2) rfl elx148 ?_
            refine L.nil ?_
            refine X.seqN ?_
            refine E.reg ?_
            refine L.mv Wt.no rfl rfl ?_
            refine L.mv Wt.no rfl rfl ?_
            refine L.fa fa80_1 Wt.no rfl rfl ?_
            refine L.ld (j := 4) bx8.mem nag28 Wt.no rfl rfl rfl rfl ?_
            refine L.mv Wt.no rfl rfl ?_
            obtain ⟨x151, ex151, hm⟩ := bindS hm
            refine L.ix (r := (rK .i64)) sl28 h4 Wt.no rfl rfl ex151 rfl ?_
            rintro b152 o152 cc152 me152 rd152
            obtain rfl := rd152
            refine L.ld (j := 0) me152 nag3 Wt.no rfl rfl rfl rfl ?_
            refine L.bu (cs := [.int .i64 x135.2.2, .int .i64 x151]) pl124 Wt.no rfl rfl rfl ?_
            refine L.bsE (k := 1) (cs := [.int .i64 x135.2.2, .int .i64 x151]) 0 bs125 (Nat.le_of_ble_eq_true rfl) Wt.no rfl rfl rfl rfl ?_
            intro b153 s154 m155 bx153
            replace m0 := m0.trans m155.no
            replace h5 := h5.mv m155 no_No no_No
            replace h25 := h25.mv m155 no_No no_No
            replace h23 := h23.mv m155 no_No no_No
            replace bx8 := bx8.mv m155 no_No
            replace h1 := h1.mono (m155.le no_No)
            replace h2 := h2.mono (m155.le no_No)
            replace h3 := h3.mono (m155.le no_No)
            replace h4 := h4.mono (m155.le no_No)
            have h153 := Bx.rdL (r := (rP (rK .i64) (rK .i64))) (xs := ([(x135.2.2, x151)] : List (Int × Int))) bx153 ⟨[.int .i64 x135.2.2, .int .i64 x151], _, rfl, ⟨[.int .i64 x135.2.2], [.int .i64 x151], rfl, rfl, rfl⟩, rfl⟩ (Nat.le_of_ble_eq_true rfl)
            obtain ⟨x156, ex156, hm⟩ := bindS hm
            refine L.ap (r := (rP (rK .i64) (rK .i64))) Try.underlying125 el124 rfl (tgp hN) h23 h153.wk Wt.no rfl rfl ex156 rfl ?_
            intro a157 c157 s158 m159 h157
            replace m0 := m0.trans (m159.one up)
            replace h5 := h5.mv m159 (tgV lt2) (tg0 hN)
            replace h25 := h25.mv m159 (tgV lt3) (tg0 hN)
            replace bx8 := bx8.mv m159 (tgN (by decide))
            replace h1 := h1.mono (m159.le (tg0 hN))
            replace h2 := h2.mono (m159.le (tg0 hN))
            replace h3 := h3.mono (m159.le (tg0 hN))
            replace h4 := h4.mono (m159.le (tg0 hN))
            refine L.as Wt.no rfl rfl ?_
            refine L.nil ?_
            refine X.blkN ?_
            exact X.sub (ih92 _ (Option.some.inj hm).symm _ _ ⟨s158, a157, c157, a25, c25, m0, h5, h157, h25, h1, h2, h3, h4, bx8, rfl, rfl⟩) (Sub.cons rfl (Sub.cons rfl (Sub.cons rfl (Sub.cons rfl Sub.nil))))
          · refine E.cF rfl hc ?_
            refine E.skip ?_
            refine X.blkN ?_
            exact X.sub (ih92 _ (Option.some.inj hm).symm _ _ ⟨s142, a23, c23, a25, c25, m0, h5, h23, h25, h1, h2, h3, h4, bx8, rfl, rfl⟩) (Sub.cons rfl (Sub.cons rfl (Sub.cons rfl (Sub.cons rfl Sub.nil))))
  · refine E.cF rfl hc ?_
    refine E.exit ?_
    refine X.seqX ?_
    refine X.seqX ?_
    have hx := ho92 _ (Option.some.inj hm).symm
    subst hx
    exact X.sub (K98 _ _ ⟨s96, a25, c25, m0, h25, h5, rfl, rfl⟩) (Sub.cons rfl Sub.nil)

theorem bs65 : Bs Try.prog 65 28 1 [.slice none 0 0] := Bs.mk' Try.underlying65 (by kernel_rfl) (by kernel_rfl) rfl
theorem cf72 : Cf Try.prog 72 := Cf.mk Try.func72 (by kernel_rfl) (by kernel_rfl)
theorem cf73 : Cf Try.prog 73 := Cf.mk Try.func73 (by kernel_rfl) (by kernel_rfl)
theorem cf74 : Cf Try.prog 74 := Cf.mk Try.func74 (by kernel_rfl) (by kernel_rfl)
theorem cf75 : Cf Try.prog 75 := Cf.mk Try.func75 (by kernel_rfl) (by kernel_rfl)
theorem el28 : El Try.prog 28 1 24 := El.mk' (z := .slice none 0 0) (by kernel_rfl) (by kernel_rfl) (by kernel_rfl) rfl
theorem nag65 : NAg Try.prog 65 := NAg.mk' Try.underlying65 rfl (by kernel_rfl)
theorem sl65 : Sl Try.prog 65 28 1 := Sl.mk' Try.underlying65 (by kernel_rfl)
theorem zrn28 : Zr Try.prog (rNil (α := Int)) 28 24 [] := Zr.mk' (v := .slice none 0 0) (by kernel_rfl) (by kernel_rfl) (by kernel_rfl) (fun _ => ⟨rfl, rfl⟩)
theorem zz28 : (Try.prog.info? 28).bind (·.zero) = some (.slice none 0 0) := by kernel_rfl
theorem zz65 : (Try.prog.info? 65).bind (·.zero) = some (.slice none 0 0) := by kernel_rfl
noncomputable def m_reach_Components_j1 (st484 : Int × List Int × List Int) (l491 : List Int) (l493 : List Int) : Option ((Int × List Int × List Int) ⊕ (List Int × List Int)) :=
  some (.inl (W (st484.1 + 1), l491, l493))
noncomputable def m_reach_Components_l5 (st318 : List Int × List (List Int)) (x447 : List Int) (st484 : Int × List Int × List Int) : Option ((Int × List Int × List Int) ⊕ (List Int × List Int)) :=
  if decide (st484.1 < (x447.length : Int)) then
    (idx x447 st484.1).bind fun x496 =>
    (idx st484.2.2 x496).bind fun x498 =>
    if (x498 == 0) then
      (idx st484.2.2 x496).bind fun x500 =>
      (upd st484.2.2 x496 (W ((st318.2.length : Int) + 1))).bind fun x502 =>
      (app st484.2.1 ([x496] : List Int)).bind fun x508 =>
      m_reach_Components_j1 st484 x508 x502
    else
      m_reach_Components_j1 st484 st484.2.1 st484.2.2
  else
    some (.inr st484.2)
noncomputable def m_reach_Components_l4 (o104 : List (List Int)) (st318 : List Int × List (List Int)) (st418 : Int × List Int × List Int) : Option ((Int × List Int × List Int) ⊕ (List Int × List Int)) :=
  if decide (st418.1 < (st418.2.1.length : Int)) then
    (idx st418.2.1 st418.1).bind fun x443 =>
    (idx o104 x443).bind fun x447 =>
    (iter (m_reach_Components_l5 st318 x447) (0, st418.2)).bind fun o484 =>
    some (.inl (W (st418.1 + 1), o484))
  else
    some (.inr st418.2)
noncomputable def m_reach_Components_l3 (o104 : List (List Int)) (x320 : Int × Int) (st318 : List Int × List (List Int)) : Option (List Int × List (List Int)) :=
  (idx st318.1 x320.2).bind fun x327 =>
  if decide (x327 > 0) then
    some st318
  else
    (idx st318.1 x320.2).bind fun x329 =>
    (upd st318.1 x320.2 (W ((st318.2.length : Int) + 1))).bind fun x331 =>
    (iter (m_reach_Components_l4 o104 st318) (0, ([x320.2] : List Int), x331)).bind fun o418 =>
    (m_slices_Sort_int o418.1).bind fun r424 =>
    (lenEq r424 o418.1).bind fun _ =>
    (app st318.2 ([r424] : List (List Int))).bind fun x432 =>
    some (o418.2, x432)
noncomputable def m_reach_Components_l2 (p0 : List Int × Int × List Int × (List (Int × Int × Int))) (st104 : Int × List (List Int)) : Option ((Int × List (List Int)) ⊕ (List (List Int))) :=
  if decide (st104.1 < (p0.2.2.2.length : Int)) then
    (idx p0.2.2.2 st104.1).bind fun x519 =>
    (idx st104.2 x519.2.2).bind fun x533 =>
    (app x533 ([x519.1] : List Int)).bind fun x544 =>
    (idx st104.2 x519.2.2).bind fun x549 =>
    (upd st104.2 x519.2.2 x544).bind fun x552 =>
    some (.inl (W (st104.1 + 1), x552))
  else
    some (.inr st104.2)
noncomputable def m_reach_Components_j2 (st49 : Int × List Bool × List Int) (l557 : List Int) (l559 : List Bool) : Option ((Int × List Bool × List Int) ⊕ (List Int)) :=
  some (.inl (W (st49.1 + 1), l559, l557))
noncomputable def m_reach_Components_l1 (p0 : List Int × Int × List Int × (List (Int × Int × Int))) (r13 : ((List Int × Int × List Int × (List (Int × Int × Int))) × List Int)) (st49 : Int × List Bool × List Int) : Option ((Int × List Bool × List Int) ⊕ (List Int)) :=
  if decide (st49.1 < p0.2.1) then
    (idx st49.2.1 st49.1).bind fun x562 =>
    if (!x562) then
      (m_reach_graph_finish r13 st49.1 st49.2.1 st49.2.2).bind fun r564 =>
      (lenEq r564.2 st49.2.1).bind fun _ =>
      m_reach_Components_j2 st49 r564.1 r564.2
    else
      m_reach_Components_j2 st49 st49.2.2 st49.2.1
  else
    some (.inr st49.2.2)
/-- What reach.Components computes. -/
noncomputable def m_reach_Components (p0 : List Int × Int × List Int × (List (Int × Int × Int))) : Option (List (List Int) × Int) :=
  (m_automaton_Check p0).bind fun r8 =>
  if (r8 != 0) then
    some (([] : List (List Int)), r8)
  else
    (m_reach_newGraph p0).bind fun r13 =>
    (mkL p0.2.1 false).bind fun x25 =>
    (iter (m_reach_Components_l1 p0 r13) (0, x25, ([] : List Int))).bind fun o49 =>
    (mkL p0.2.1 ([] : List Int)).bind fun x54 =>
    (iter (m_reach_Components_l2 p0) (0, x54)).bind fun o104 =>
    (mkL p0.2.1 (0 : Int)).bind fun x109 =>
    (m_slices_Backward_int o49).bind fun r122 =>
    (rngF (fun k => m_reach_Components_l3 o104 (r122.getD k (0, 0))) r122.length 0 (x109, ([] : List (List Int)))).bind fun o318 =>
    (m_slices_SortFunc_int o318.2).bind fun r512 =>
    (lenEq r512 o318.2).bind fun _ =>
    some (r512, 0)
set_option maxRecDepth 100000 in
set_option maxHeartbeats 8000000 in
theorem m_reach_Components_c {s : Sig} {p0 : List Int × Int × List Int × (List (Int × Int × Int))} {a1 : Option Addr} {c1 : Nat} {a2 : Option Addr} {c2 : Nat} {a3 : Option Addr} {c3 : Nat} {u0 : Nat} {r : List (List Int) × Int} (h1 : RdL (rK .i64) s a1 c1 p0.1) (h2 : RdL (rK .i64) s a2 c2 p0.2.2.1) (h3 : RdL (rP (rK .i64) (rP (rK .i64) (rK .i64))) s a3 c3 p0.2.2.2) (hm : m_reach_Components p0 = some r) :
    Calls Try.prog 40 #[.agg #[.slice a1 p0.1.length c1, .int .i64 p0.2.1, .slice a2 p0.2.2.1.length c2, .slice a3 p0.2.2.2.length c3]] s.w (RetS No s fun v s' => ∃ (a4 : Option Addr) (c4 : Nat), v = .tuple #[.slice a4 r.1.length c4, .int .i64 r.2] ∧ RowT (rL (rK .i64)) s' u0 28 a4 c4 r.1) := by
  unfold m_reach_Components at hm
  obtain ⟨N, hN, hNb⟩ := s.fresh
  have m0 : Mv (Up N No) s s := Mv.refl _ _
  have mk0 : Mks s (N + 0) [] := Mks.nil
  refine E.entryM (vs := [.agg #[.slice a1 p0.1.length c1, .int .i64 p0.2.1, .slice a2 p0.2.2.1.length c2, .slice a3 p0.2.2.2.length c3]]) (e := [(0, .agg #[.slice a1 p0.1.length c1, .int .i64 p0.2.1, .slice a2 p0.2.2.1.length c2, .slice a3 p0.2.2.2.length c3])]) Try.func40 rfl Try.ntmps40 rfl rfl ?_
  refine E.seq ?_
  refine E.reg ?_
  refine L.box (N + 1) Wt.no rfl rfl rfl ?_
  intro b5 s6 m7 bx5
  replace m0 := m0.trans m7.no
  replace mk0 := mk0.mv m7 no_No
  replace h1 := h1.mono (m7.le no_No)
  replace h2 := h2.mono (m7.le no_No)
  replace h3 := h3.mono (m7.le no_No)
  refine L.as Wt.no rfl rfl ?_
  refine L.as Wt.no rfl rfl ?_
  refine L.nil ?_
  refine X.seqN ?_
  refine E.seq ?_
  refine E.seq ?_
  refine E.reg ?_
  refine L.lg (j := 0) (cs := [.slice a1 p0.1.length c1, .int .i64 p0.2.1, .slice a2 p0.2.2.1.length c2, .slice a3 p0.2.2.2.length c3]) bx5.mem ag31 Wt.no rfl rfl rfl rfl rfl ?_
  obtain ⟨r8, er8, hm⟩ := bindS hm
  refine L.ca (vs := [.agg #[.slice a1 p0.1.length c1, .int .i64 p0.2.1, .slice a2 p0.2.2.1.length c2, .slice a3 p0.2.2.2.length c3]]) cf43 rfl rfl Wt.no rfl (m_automaton_Check_c (s := s6) (p0 := p0) h1 h2 h3 er8) rfl ?_
  rintro _ s9 m10 rfl
  replace m0 := m0.trans m10.no
  replace mk0 := mk0.mv m10 no_No
  replace bx5 := bx5.mv m10 no_No
  replace h1 := h1.mono (m10.le no_No)
  replace h2 := h2.mono (m10.le no_No)
  replace h3 := h3.mono (m10.le no_No)
  refine L.as Wt.no rfl rfl ?_
  refine L.nil ?_
  refine X.seqN ?_
  refine E.seq ?_
  refine E.reg ?_
  refine L.mv Wt.no rfl rfl ?_
  refine L.bi Wt.no rfl rfl rfl rfl ?_
  refine L.nil ?_
  refine X.seqN ?_
  rcases ifS hm with ⟨hc, hm⟩ | ⟨hc, hm⟩
  · refine E.cT rfl hc ?_
    refine E.seq ?_
    refine E.reg ?_
    refine L.mv Wt.no rfl rfl ?_
    refine L.as Wt.no rfl rfl ?_
    refine L.as Wt.no rfl rfl ?_
    refine L.nil ?_
    refine X.seqN ?_
    refine E.ret ?_
    refine X.seqR ?_
    refine X.lv (.inl rfl) mk0 fun s11 m12 => ?_
    replace m0 := m0.trans (m12.one up)
    obtain rfl := Option.some.inj hm
    exact X.rt (.inl rfl) Try.results40 (Rs.tmp rfl (Rs.tmp rfl Rs.nil)) rfl ⟨_, (s11).ren N (fun _ => 0), rfl, rfl, m0.ren hNb, ⟨none, 0, rfl, RowT.nil⟩⟩
  · refine E.cF rfl hc ?_
    refine E.skip ?_
    refine X.seqN ?_
    refine E.seq ?_
    refine E.reg ?_
    refine L.lg (j := 0) (cs := [.slice a1 p0.1.length c1, .int .i64 p0.2.1, .slice a2 p0.2.2.1.length c2, .slice a3 p0.2.2.2.length c3]) bx5.mem ag31 Wt.no rfl rfl rfl rfl rfl ?_
    obtain ⟨r13, er13, hm⟩ := bindS hm
    refine L.ca (vs := [.agg #[.slice a1 p0.1.length c1, .int .i64 p0.2.1, .slice a2 p0.2.2.1.length c2, .slice a3 p0.2.2.2.length c3]]) cf48 rfl rfl Wt.no rfl (m_reach_newGraph_c (s := s9) (p0 := p0) (u3 := 0) h1 h2 h3 er13) rfl ?_
    rintro _ s14 m15 ⟨a16, c16, a17, c17, a18, c18, a19, c19, rfl, h16, h17, h18, h19⟩
    replace h19 := h19.p
    replace m0 := m0.trans m15.no
    replace mk0 := mk0.mv m15 no_No
    replace bx5 := bx5.mv m15 no_No
    replace h1 := h1.mono (m15.le no_No)
    replace h2 := h2.mono (m15.le no_No)
    replace h3 := h3.mono (m15.le no_No)
    refine L.al (N + 2) zz80 rfl Wt.no rfl ?_
    intro b20 s21 m22 bx20
    replace m0 := m0.trans m22.no
    replace h16 := h16.mono (m22.le no_No)
    replace h17 := h17.mono (m22.le no_No)
    replace h18 := h18.mono (m22.le no_No)
    replace h19 := h19.mono (m22.le no_No)
    replace mk0 := mk0.mv m22 no_No
    replace bx5 := bx5.mv m22 no_No
    replace h1 := h1.mono (m22.le no_No)
    replace h2 := h2.mono (m22.le no_No)
    replace h3 := h3.mono (m22.le no_No)
    refine L.st (c := [.slice a16 r13.1.1.length c16, .int .i64 r13.1.2.1, .slice a17 r13.1.2.2.1.length c17, .slice a18 r13.1.2.2.2.length c18, .slice a19 r13.2.length c19]) (cs' := #[.slice a16 r13.1.1.length c16, .int .i64 r13.1.2.1, .slice a17 r13.1.2.2.1.length c17, .slice a18 r13.1.2.2.2.length c18, .slice a19 r13.2.length c19]) bx20 ag80.sz Wt.no rfl rfl rfl rfl rfl (Nat.le_of_ble_eq_true rfl) rfl ?_
    intro s23 m24 bx20
    replace m0 := m0.trans (m24.one up)
    replace mk0 := mk0.mv m24 (tgN (by decide))
    replace bx5 := bx5.mv m24 (tgN (by decide))
    replace h1 := h1.mono (m24.le (tg0 hN))
    replace h2 := h2.mono (m24.le (tg0 hN))
    replace h3 := h3.mono (m24.le (tg0 hN))
    replace h16 := h16.mono (m24.le (tg0 hN))
    replace h17 := h17.mono (m24.le (tg0 hN))
    replace h18 := h18.mono (m24.le (tg0 hN))
    replace h19 := h19.mono (m24.le (tg0 hN))
    refine L.nil ?_
    refine X.seqN ?_
    refine E.seq ?_
    refine E.reg ?_
    refine L.as Wt.no rfl rfl ?_
    refine L.nil ?_
    refine X.seqN ?_
    refine E.seq ?_
    refine E.reg ?_
    refine L.fa fa31_1 Wt.no rfl rfl ?_
    refine L.ld (j := 1) bx5.mem nag3 Wt.no rfl rfl rfl rfl ?_
    obtain ⟨x25, ex25, hm⟩ := bindS hm
    refine L.mk (z := false) (N + 3) Try.underlying86 zr4 rfl Wt.no rfl rfl ex25 rfl ?_
    intro b26 s27 m28 h26
    replace m0 := m0.trans m28.no
    replace mk0 := mk0.mv m28 no_No
    replace bx5 := bx5.mv m28 no_No
    replace h1 := h1.mono (m28.le no_No)
    replace h2 := h2.mono (m28.le no_No)
    replace h3 := h3.mono (m28.le no_No)
    replace bx20 := bx20.mv m28 no_No
    replace h16 := h16.mono (m28.le no_No)
    replace h17 := h17.mono (m28.le no_No)
    replace h18 := h18.mono (m28.le no_No)
    replace h19 := h19.mono (m28.le no_No)
    refine L.as Wt.no rfl rfl ?_
    refine L.nil ?_
    refine X.seqN ?_
    refine E.seq ?_
    refine E.seq ?_
    refine E.reg ?_
    refine L.fa fa31_1 Wt.no rfl rfl ?_
    refine L.ld (j := 1) bx5.mem nag3 Wt.no rfl rfl rfl rfl ?_
    refine L.mv Wt.no rfl rfl ?_
    refine L.nil ?_
    refine X.seqN ?_
    refine E.block ?_
    obtain ⟨o49, eo49, hm⟩ := bindS hm
    refine E.cutM (x := .exit 0) (fun e w ds => ∃ (s53 : Sig) (a51 : Option Addr) (c51 : Nat), Mv (Up N No) s s53 ∧ RowT (rK .i64) s53 (N + 4) 3 a51 c51 o49 ∧ RdL (rK .i64) s53 a1 c1 p0.1 ∧ RdL (rK .i64) s53 a2 c2 p0.2.2.1 ∧ RdL (rP (rK .i64) (rP (rK .i64) (rK .i64))) s53 a3 c3 p0.2.2.2 ∧ Mks s53 (N + 0) ds ∧ Bx s53 (N + 1) b5 #[.slice a1 p0.1.length c1, .int .i64 p0.2.1, .slice a2 p0.2.2.1.length c2, .slice a3 p0.2.2.2.length c3] 31 ∧ e = [(6, .slice a51 o49.length c51), (1, .pointer (some ⟨b5, 0, none⟩))] ∧ w = s53.w) ?_ ?_
    · rintro _ _ ds ⟨s53, a51, c51, m0, h51, h1, h2, h3, mk0, bx5, rfl, rfl⟩
      refine X.blkE ?_
      refine X.seqN ?_
      refine E.seq ?_
      refine E.reg ?_
      refine L.fa fa31_1 Wt.no rfl rfl ?_
      refine L.ld (j := 1) bx5.mem nag3 Wt.no rfl rfl rfl rfl ?_
      obtain ⟨x54, ex54, hm⟩ := bindS hm
      refine L.mk (r := rNil) (z := ([] : List Int)) (N + 5) Try.underlying65 zrn28 rfl Wt.no rfl rfl ex54 rfl ?_
      intro b55 s56 m57 h55
      replace m0 := m0.trans m57.no
      replace h51 := h51.mv m57 no_No no_No
      replace mk0 := mk0.mv m57 no_No
      replace bx5 := bx5.mv m57 no_No
      replace h1 := h1.mono (m57.le no_No)
      replace h2 := h2.mono (m57.le no_No)
      replace h3 := h3.mono (m57.le no_No)
      have mp55 := RowR.start (r := (rK .i64)) (N := N) (q := 5) (U := 3) h55 (by simp)
      refine L.al (N + 6) zz65 rfl Wt.no rfl ?_
      intro b58 s59 m60 bx58
      replace m0 := m0.trans m60.no
      replace h51 := h51.mv m60 no_No no_No
      replace mp55 := mp55.mv m60 no_No no_No (fun _ _ => no_No)
      replace mk0 := mk0.mv m60 no_No
      replace bx5 := bx5.mv m60 no_No
      replace h1 := h1.mono (m60.le no_No)
      replace h2 := h2.mono (m60.le no_No)
      replace h3 := h3.mono (m60.le no_No)
      refine L.st (c := [.slice (some ⟨b55, 0, none⟩) x54.length x54.length]) (cs' := #[.slice (some ⟨b55, 0, none⟩) x54.length x54.length]) bx58 nag65.sz Wt.no rfl rfl rfl rfl rfl (Nat.le_of_ble_eq_true rfl) rfl ?_
      intro s61 m62 bx58
      replace m0 := m0.trans (m62.one up)
      replace h51 := h51.mv m62 (tgN (by decide)) (tg0 hN)
      replace mk0 := mk0.mv m62 (tgN (by decide))
      replace bx5 := bx5.mv m62 (tgN (by decide))
      replace h1 := h1.mono (m62.le (tg0 hN))
      replace h2 := h2.mono (m62.le (tg0 hN))
      replace h3 := h3.mono (m62.le (tg0 hN))
      replace mp55 := mp55.mv m62 (tgN (by decide)) (tg0 hN) (fun i ho => (fmM (by decide)))
      refine L.nil ?_
      refine X.seqN ?_
      refine E.seq ?_
      refine E.seq ?_
      refine E.reg ?_
      refine L.fa fa31_3 Wt.no rfl rfl ?_
      refine L.ld (j := 3) bx5.mem nag29 Wt.no rfl rfl rfl rfl ?_
      refine L.len sl29 Wt.no rfl rfl ?_
      refine L.mv Wt.no rfl rfl ?_
      refine L.nil ?_
      refine X.seqN ?_
      refine E.block ?_
      obtain ⟨o104, eo104, hm⟩ := bindS hm
      refine E.cutM (x := .exit 2) (fun e w ds => ∃ (s107 : Sig), Mv (Up N No) s s107 ∧ RowT (rK .i64) s107 (N + 4) 3 a51 c51 o49 ∧ RdL (rK .i64) s107 a1 c1 p0.1 ∧ RdL (rK .i64) s107 a2 c2 p0.2.2.1 ∧ RdL (rP (rK .i64) (rP (rK .i64) (rK .i64))) s107 a3 c3 p0.2.2.2 ∧ RowR (rK .i64) s107 N 5 (N + 5) 28 3 (some ⟨b55, 0, none⟩) x54.length x54.length o104 none ∧ Mks s107 (N + 0) ds ∧ Bx s107 (N + 1) b5 #[.slice a1 p0.1.length c1, .int .i64 p0.2.1, .slice a2 p0.2.2.1.length c2, .slice a3 p0.2.2.2.length c3] 31 ∧ Bx s107 (N + 6) b58 #[.slice (some ⟨b55, 0, none⟩) x54.length x54.length] 65 ∧ e = [(9, .pointer (some ⟨b58, 0, none⟩)), (6, .slice a51 o49.length c51), (1, .pointer (some ⟨b5, 0, none⟩))] ∧ w = s107.w) ?_ ?_
      · rintro _ _ ds ⟨s107, m0, h51, h1, h2, h3, mp55, mk0, bx5, bx58, rfl, rfl⟩
        refine X.blkE ?_
        refine X.seqN ?_
        refine E.seq ?_
        have m108 := Sig.fzP_mv (pF N [5]) s107
        have elmp55 := mp55.is.1
        have h55 := mp55.fz (p := (pF N [5])) (pF_0 hN) (pF_k rfl) (fun _ => pF_f)
        replace bx58 : Bx s107 (N + 6) b58 #[.slice (some ⟨b55, 0, none⟩) o104.length x54.length] 65 := by rw [elmp55]; exact bx58
        replace m0 := m0.trans (m108.weak fun _ e => pF_up e)
        replace h51 := h51.mv m108 (pF_no (by decide)) (pF_n0 hN)
        replace mk0 := mk0.mv m108 (pF_no (by decide))
        replace bx58 := bx58.mv m108 (pF_no (by decide))
        replace bx5 := bx5.mv m108 (pF_no (by decide))
        replace h1 := h1.mono (m108.le (pF_n0 hN))
        replace h2 := h2.mono (m108.le (pF_n0 hN))
        replace h3 := h3.mono (m108.le (pF_n0 hN))
        refine E.toR (s' := (Sig.fzP (pF N [5]) s107)) rfl ?_
        refine E.reg ?_
        refine L.fa fa31_1 Wt.no rfl rfl ?_
        refine L.ld (j := 1) bx5.mem nag3 Wt.no rfl rfl rfl rfl ?_
        obtain ⟨x109, ex109, hm⟩ := bindS hm
        refine L.mk (z := (0 : Int)) (N + 8) Try.underlying28 zr3 rfl Wt.no rfl rfl ex109 rfl ?_
        intro b110 s111 m112 h110
        replace m0 := m0.trans m112.no
        replace h51 := h51.mv m112 no_No no_No
        replace mk0 := mk0.mv m112 no_No
        replace bx58 := bx58.mv m112 no_No
        replace h55 := h55.mono (m112.le no_No)
        refine L.al (N + 9) zz28 rfl Wt.no rfl ?_
        intro b113 s114 m115 bx113
        replace m0 := m0.trans m115.no
        replace h110 := h110.mv m115 no_No no_No
        replace h51 := h51.mv m115 no_No no_No
        replace mk0 := mk0.mv m115 no_No
        replace bx58 := bx58.mv m115 no_No
        replace h55 := h55.mono (m115.le no_No)
        refine L.st (c := [.slice (some ⟨b110, 0, none⟩) x109.length x109.length]) (cs' := #[.slice (some ⟨b110, 0, none⟩) x109.length x109.length]) bx113 nag28.sz Wt.no rfl rfl rfl rfl rfl (Nat.le_of_ble_eq_true rfl) rfl ?_
        intro s116 m117 bx113
        replace m0 := m0.trans (m117.one up)
        replace h51 := h51.mv m117 (tgN (by decide)) (tg0 hN)
        replace mk0 := mk0.mv m117 (tgN (by decide))
        replace bx58 := bx58.mv m117 (tgN (by decide))
        replace h55 := h55.mono (m117.le (tg0 hN))
        replace h110 := h110.mv m117 (tgN (by decide)) (tg0 hN)
        refine L.nil ?_
        refine X.seqN ?_
        refine E.seq ?_
        refine E.reg ?_
        refine L.al (N + 10) zz65 rfl Wt.no rfl ?_
        intro b118 s119 m120 bx118
        replace m0 := m0.trans m120.no
        replace h51 := h51.mv m120 no_No no_No
        replace mk0 := mk0.mv m120 no_No
        replace bx58 := bx58.mv m120 no_No
        replace h55 := h55.mono (m120.le no_No)
        replace bx113 := bx113.mv m120 no_No
        replace h110 := h110.mv m120 no_No no_No
        refine L.nil ?_
        refine X.seqN ?_
        refine E.seq ?_
        refine E.seq ?_
        refine E.reg ?_
        refine L.mv Wt.no rfl rfl ?_
        have m121 := Sig.fz_mv (N + 4) s119
        replace h51 := h51.fz (tgn hN)
        replace m0 := m0.trans (m121.one up)
        replace mk0 := mk0.mv m121 (tgN (by decide))
        replace bx58 := bx58.mv m121 (tgN (by decide))
        replace h55 := h55.mono (m121.le (tg0 hN))
        replace bx113 := bx113.mv m121 (tgN (by decide))
        replace h110 := h110.mv m121 (tgN (by decide)) (tg0 hN)
        replace bx118 := bx118.mv m121 (tgN (by decide))
        refine L.toR (s' := (Sig.fz (N + 4) s119)) rfl ?_
        obtain ⟨r122, er122, hm⟩ := bindS hm
        refine L.ca (vs := [.slice a51 o49.length c51]) cf73 rfl rfl Wt.no rfl (m_slices_Backward_int_c (s := (Sig.fz (N + 4) s119)) (p0 := o49) h51 er122) rfl ?_
        rintro v125 s123 m124 h125
        replace m0 := m0.trans m124.no
        replace mk0 := mk0.mv m124 no_No
        replace bx58 := bx58.mv m124 no_No
        replace h55 := h55.mono (m124.le no_No)
        replace bx113 := bx113.mv m124 no_No
        replace h110 := h110.mv m124 no_No no_No
        replace bx118 := bx118.mv m124 no_No
        refine L.nil ?_
        refine X.seqN ?_
        refine E.block ?_
        obtain ⟨o318, eo318, hm⟩ := bindS hm
        have mko318 := mk0.old
        refine E.range (N + 11) (N + 0) (tgn hN) (by omega) (fun (k : Nat) (s319 : Sig) => ∃ (st318 : List Int × List (List Int)) (a128 : Option Addr) (c128 : Nat), rngF (fun k => m_reach_Components_l3 o104 (r122.getD k (0, 0))) (r122.length - k) k st318 = some o318 ∧ Mv (Up N No) s s319 ∧ RdL (rL (rK .i64)) s319 (some ⟨b55, 0, none⟩) x54.length o104 ∧ RowT (rK .i64) s319 (N + 8) 3 (some ⟨b110, 0, none⟩) x109.length st318.1 ∧ RowT (rL (rK .i64)) s319 (N + 13) 28 a128 c128 st318.2 ∧ Mks s319 (N + 0) ds ∧ Bx s319 (N + 6) b58 #[.slice (some ⟨b55, 0, none⟩) o104.length x54.length] 65 ∧ Bx s319 (N + 9) b113 #[.slice (some ⟨b110, 0, none⟩) st318.1.length x109.length] 28 ∧ Bx s319 (N + 10) b118 #[.slice a128 st318.2.length c128] 65) rfl h125 (fun _ => rfl) (by decide) ⟨(x109, ([] : List (List Int))), none, 0, eo318, m0, h55, h110, RowT.nil, mk0, bx58, bx113, bx118⟩ ?_ ?_
        · rintro k318 D318 r318 s319 s321 hk318 ⟨st318, a128, c128, hj318, m0, h55, h110, h128, mk0, bx58, bx113, bx118⟩ m322 rc323 hr318
          obtain ⟨res318, hm, hj318⟩ := rng_step hk318 hj318
          have hm : m_reach_Components_l3 o104 (r122.getD k318 (0, 0)) st318 = some res318 := hm
          show E _ _ _ _ _ (Env.zp _ (encB (r122.getD k318 (0, 0))) _) _
          generalize r122.getD k318 (0, 0) = x320 at hm ⊢
          refine E.sub (e' := [(13, .pointer (some ⟨b118, 0, none⟩)), (12, .pointer (some ⟨b113, 0, none⟩)), (9, .pointer (some ⟨b58, 0, none⟩)), (76, .int .i64 x320.1), (77, .int .i64 x320.2)]) (Sub.rf rfl) ?_
          unfold m_reach_Components_l3 at hm
          replace m0 := m0.trans (m322.one up)
          replace mk0 := mk0.mv m322 (tgN (by decide))
          replace bx118 := bx118.mv m322 (tgN (by decide))
          replace h128 := h128.mv m322 (tgN (by decide)) (tg0 hN)
          replace bx113 := bx113.mv m322 (tgN (by decide))
          replace h110 := h110.mv m322 (tgN (by decide)) (tg0 hN)
          replace bx58 := bx58.mv m322 (tgN (by decide))
          replace h55 := h55.mono (m322.le (tg0 hN))
          have h324 : Lf s321 s321 := Le.refl _
          refine E.reg ?_
          refine L.as Wt.no rfl rfl ?_
          refine L.nil ?_
          refine X.beg rc323 hr318 fun s325 m326 rc323 => ?_
          replace m0 := m0.trans (m326.one up)
          replace mk0 := mk0.mv m326 (tgN (by decide))
          replace h324 := h324.mono (m326.le (tg0 hN))
          replace bx118 := bx118.mv m326 (tgN (by decide))
          replace h128 := h128.mv m326 (tgN (by decide)) (tg0 hN)
          replace bx113 := bx113.mv m326 (tgN (by decide))
          replace h110 := h110.mv m326 (tgN (by decide)) (tg0 hN)
          replace bx58 := bx58.mv m326 (tgN (by decide))
          replace h55 := h55.mono (m326.le (tg0 hN))
          refine E.block ?_
          refine E.seq ?_
          refine E.seq ?_
          refine E.reg ?_
          refine L.ld (j := 0) bx113.mem nag28 Wt.no rfl rfl rfl rfl ?_
          refine L.mv Wt.no rfl rfl ?_
          obtain ⟨x327, ex327, hm⟩ := bindS hm
          refine L.ir (r := (rK .i64)) sl28 h110 Wt.no rfl rfl ex327 rfl ?_
          rintro b328 o328 cc328 me328 rd328 sp328
          obtain rfl := rd328
          refine L.ld (j := 0) me328 nag3 Wt.no rfl rfl rfl rfl ?_
          refine L.bi Wt.no rfl rfl rfl rfl ?_
          refine L.nil ?_
          refine X.seqN ?_
          rcases ifS hm with ⟨hc, hm⟩ | ⟨hc, hm⟩
          · refine E.cT rfl hc ?_
            refine E.exit ?_
            refine X.seqX ?_
            refine X.blkE ?_
            obtain rfl := Option.some.inj hm
            exact X.rnd ⟨⟨st318, a128, c128, hj318, m0, h55, h110, h128, mk0, bx58, bx113, bx118⟩, rc323, h324⟩
          · refine E.cF rfl hc ?_
            refine E.skip ?_
            refine X.seqN ?_
            refine E.seq ?_
            refine E.reg ?_
            refine L.ld (j := 0) bx118.mem nag65 Wt.no rfl rfl rfl rfl ?_
            refine L.len sl65 Wt.no rfl rfl ?_
            refine L.bi Wt.no rfl rfl rfl rfl ?_
            refine L.as Wt.no rfl rfl ?_
            refine L.nil ?_
            refine X.seqN ?_
            refine E.seq ?_
            refine E.reg ?_
            refine L.ld (j := 0) bx113.mem nag28 Wt.no rfl rfl rfl rfl ?_
            refine L.mv Wt.no rfl rfl ?_
            refine L.mv Wt.no rfl rfl ?_
            obtain ⟨x329, ex329, hm⟩ := bindS hm
            refine L.ir (r := (rK .i64)) sl28 h110 Wt.no rfl rfl ex329 rfl ?_
            rintro b330 o330 cc330 me330 rd330 sp330
            obtain rfl := rd330
            obtain ⟨x331, ex331, hm⟩ := bindS hm
            have elx331 := upd_len ex331
            refine L.su (fo := 0) (c := [.int .i64 (W ((st318.2.length : Int) + 1))]) (z := W ((st318.2.length : Int) + 1)) h110 sp330 ex329 ex331 (tgp hN) nag3.sz Wt.no rfl rfl rfl rfl rfl rfl (fun c0 hc0 => by obtain rfl := hc0; exact rfl) ?_
            intro s332 m333 h110
            replace m0 := m0.trans (m333.one up)
            replace mk0 := mk0.mv m333 (tgN (by decide))
            replace h324 := h324.mono (m333.le (tg0 hN))
            replace rc323 := rc323.mv m333 (tgN (by decide)) (tgN (by decide))
            replace bx58 := bx58.mv m333 (tgN (by decide))
            replace h55 := h55.mono (m333.le (tg0 hN))
            replace bx113 := bx113.mv m333 (tgN (by decide))
            replace bx118 := bx118.mv m333 (tgN (by decide))
            replace h128 := h128.mv m333 (tgN (by decide)) (tg0 hN)
            replace bx113 : Bx s332 (N + 9) b113 #[.slice (some ⟨b110, 0, none⟩) x331.length x109.length] 28 := by rw [elx331]; exact bx113
            refine L.nil ?_
            refine X.seqN ?_
            refine E.seq ?_
            refine E.reg ?_
            refine L.mv Wt.no rfl rfl ?_
            refine L.bsE (k := 1) (cs := [.int .i64 x320.2]) (N + 12) bs28 (Nat.le_of_ble_eq_true rfl) Wt.no rfl rfl rfl rfl ?_
            intro b334 s335 m336 bx334
            replace m0 := m0.trans m336.no
            replace mk0 := mk0.mv m336 no_No
            replace h324 := h324.mono (m336.le no_No)
            replace rc323 := rc323.mv m336 no_No no_No
            replace bx58 := bx58.mv m336 no_No
            replace h55 := h55.mono (m336.le no_No)
            replace bx113 := bx113.mv m336 no_No
            replace h110 := h110.mv m336 no_No no_No
            replace bx118 := bx118.mv m336 no_No
            replace h128 := h128.mv m336 no_No no_No
            have h334 := Bx.row (r := (rK .i64)) (xs := ([x320.2] : List Int)) bx334 ⟨[.int .i64 x320.2], _, rfl, rfl, rfl⟩ (Nat.le_of_ble_eq_true rfl)
            refine L.as Wt.no rfl rfl ?_
            refine L.nil ?_
            refine X.seqN ?_
            refine E.seq ?_
            refine E.seq ?_
            refine E.reg ?_
            refine L.as Wt.no rfl rfl ?_
            refine L.nil ?_
            refine X.seqN ?_
            refine E.block ?_
            obtain ⟨o418, eo418, hm⟩ := bindS hm
            refine E.cut (x := .exit 6) (fun e w => ∃ (s423 : Sig) (a420 : Option Addr) (c420 : Nat), Mv (Up N No) s s423 ∧ RowT (rK .i64) s423 (N + 12) 3 a420 c420 o418.1 ∧ RdL (rL (rK .i64)) s423 (some ⟨b55, 0, none⟩) x54.length o104 ∧ RowT (rK .i64) s423 (N + 8) 3 (some ⟨b110, 0, none⟩) x109.length o418.2 ∧ RowT (rL (rK .i64)) s423 (N + 13) 28 a128 c128 st318.2 ∧ Lf s321 s423 ∧ Mks s423 (N + 0) ds ∧ Bx s423 (N + 6) b58 #[.slice (some ⟨b55, 0, none⟩) o104.length x54.length] 65 ∧ Bx s423 (N + 9) b113 #[.slice (some ⟨b110, 0, none⟩) o418.2.length x109.length] 28 ∧ Bx s423 (N + 10) b118 #[.slice a128 st318.2.length c128] 65 ∧ Rc s423 (N + 11) (N + 0) D318 { r318 with state := .busy } ∧ e = [(17, .slice a420 o418.1.length c420), (13, .pointer (some ⟨b118, 0, none⟩)), (12, .pointer (some ⟨b113, 0, none⟩)), (9, .pointer (some ⟨b58, 0, none⟩))] ∧ w = s423.w) ?_ ?_
            · rintro _ _ ⟨s423, a420, c420, m0, h420, h55, h110, h128, h324, mk0, bx58, bx113, bx118, rc323, rfl, rfl⟩
              refine X.blkE ?_
              refine X.seqN ?_
              refine E.seq ?_
              refine E.reg ?_
              refine L.mv Wt.no rfl rfl ?_
              obtain ⟨r424, er424, hm⟩ := bindS hm
              refine L.ca (vs := [.slice a420 o418.1.length c420]) cf74 rfl rfl Wt.no rfl (m_slices_Sort_int_c (s := s423) (p0 := o418.1) (t0 := (N + 12)) (tpos hN) h420 er424) rfl ?_
              rintro _ s425 m426 ⟨rfl, h420⟩
              obtain ⟨_, qz427, hm⟩ := bindS hm
              have elz427 := len_some qz427
              replace m0 := m0.trans (m426.one up)
              replace mk0 := mk0.mv m426 (tgN (by decide))
              replace h324 := h324.mono (m426.le (tg0 hN))
              replace rc323 := rc323.mv m426 (tgN (by decide)) (tgN (by decide))
              replace bx113 := bx113.mv m426 (tgN (by decide))
              replace h110 := h110.mv m426 (tgN (by decide)) (tg0 hN)
              replace bx118 := bx118.mv m426 (tgN (by decide))
              replace h128 := h128.mv m426 (tgN (by decide)) (tg0 hN)
              replace bx58 := bx58.mv m426 (tgN (by decide))
              replace h55 := h55.mono (m426.le (tg0 hN))
              refine L.reval (d := 17) rfl elz427 ?_
              refine L.nil ?_
              refine X.seqN ?_
              refine E.reg ?_
              refine L.ld (j := 0) bx118.mem nag65 Wt.no rfl rfl rfl rfl ?_
              refine L.mv Wt.no rfl rfl ?_
              have m428 := Sig.fz_mv (N + 12) s425
              replace h420 := h420.fz (tgn hN)
              replace m0 := m0.trans (m428.one up)
              replace h128 := h128.mv m428 (tgN (by decide)) (tg0 hN)
              replace mk0 := mk0.mv m428 (tgN (by decide))
              replace h324 := h324.mono (m428.le (tg0 hN))
              replace rc323 := rc323.mv m428 (tgN (by decide)) (tgN (by decide))
              replace bx58 := bx58.mv m428 (tgN (by decide))
              replace h55 := h55.mono (m428.le (tg0 hN))
              replace bx113 := bx113.mv m428 (tgN (by decide))
              replace h110 := h110.mv m428 (tgN (by decide)) (tg0 hN)
              replace bx118 := bx118.mv m428 (tgN (by decide))
              refine L.toR (s' := (Sig.fz (N + 12) s425)) rfl ?_
              refine L.bsE (k := 1) (cs := [.slice a420 r424.length c420]) 0 bs65 (Nat.le_of_ble_eq_true rfl) Wt.no rfl rfl rfl rfl ?_
              intro b429 s430 m431 bx429
              replace m0 := m0.trans m431.no
              replace h128 := h128.mv m431 no_No no_No
              replace mk0 := mk0.mv m431 no_No
              replace h324 := h324.mono (m431.le no_No)
              replace rc323 := rc323.mv m431 no_No no_No
              replace bx58 := bx58.mv m431 no_No
              replace h55 := h55.mono (m431.le no_No)
              replace bx113 := bx113.mv m431 no_No
              replace h110 := h110.mv m431 no_No no_No
              replace bx118 := bx118.mv m431 no_No
              replace h420 := h420.mono (m431.le no_No)
              have h429 := Bx.rdL (r := (rL (rK .i64))) (xs := ([r424] : List (List Int))) bx429 ⟨[.slice a420 r424.length c420], _, rfl, ⟨_, _, rfl, h420⟩, rfl⟩ (Nat.le_of_ble_eq_true rfl)
              obtain ⟨x432, ex432, hm⟩ := bindS hm
              refine L.ap (r := (rL (rK .i64))) Try.underlying65 el28 rfl (tgp hN) h128 h429.wk Wt.no rfl rfl ex432 rfl ?_
              intro a433 c433 s434 m435 h433
              replace m0 := m0.trans (m435.one up)
              replace mk0 := mk0.mv m435 (tgN (by decide))
              replace h324 := h324.mono (m435.le (tg0 hN))
              replace rc323 := rc323.mv m435 (tgN (by decide)) (tgN (by decide))
              replace bx113 := bx113.mv m435 (tgN (by decide))
              replace h110 := h110.mv m435 (tgN (by decide)) (tg0 hN)
              replace bx118 := bx118.mv m435 (tgN (by decide))
              replace bx58 := bx58.mv m435 (tgN (by decide))
              replace h55 := h55.mono (m435.le (tg0 hN))
              refine L.st (c := [.slice a433 x432.length c433]) (cs' := #[.slice a433 x432.length c433]) bx118 nag65.sz Wt.no rfl rfl rfl rfl rfl (Nat.le_of_ble_eq_true rfl) rfl ?_
              intro s436 m437 bx118
              replace m0 := m0.trans (m437.one up)
              replace mk0 := mk0.mv m437 (tgN (by decide))
              replace h324 := h324.mono (m437.le (tg0 hN))
              replace rc323 := rc323.mv m437 (tgN (by decide)) (tgN (by decide))
              replace bx58 := bx58.mv m437 (tgN (by decide))
              replace h55 := h55.mono (m437.le (tg0 hN))
              replace bx113 := bx113.mv m437 (tgN (by decide))
              replace h110 := h110.mv m437 (tgN (by decide)) (tg0 hN)
              replace h433 := h433.mv m437 (tgN (by decide)) (tg0 hN)
              refine L.nil ?_
              refine X.blkN ?_
              obtain rfl := Option.some.inj hm
              exact X.rnd ⟨⟨(o418.2, x432), a433, c433, hj318, m0, h55, h110, h433, mk0, bx58, bx113, bx118⟩, rc323, h324⟩
            intro K438
            refine E.iter (fun (st418 : Int × List Int × List Int) (e : List (Nat × Value)) (w : World) => ∃ (s422 : Sig) (a339 : Option Addr) (c339 : Nat), Mv (Up N No) s s422 ∧ RowT (rK .i64) s422 (N + 12) 3 a339 c339 st418.2.1 ∧ RdL (rL (rK .i64)) s422 (some ⟨b55, 0, none⟩) x54.length o104 ∧ RowT (rK .i64) s422 (N + 8) 3 (some ⟨b110, 0, none⟩) x109.length st418.2.2 ∧ RowT (rL (rK .i64)) s422 (N + 13) 28 a128 c128 st318.2 ∧ Lf s321 s422 ∧ Mks s422 (N + 0) ds ∧ Bx s422 (N + 6) b58 #[.slice (some ⟨b55, 0, none⟩) o104.length x54.length] 65 ∧ Bx s422 (N + 9) b113 #[.slice (some ⟨b110, 0, none⟩) st418.2.2.length x109.length] 28 ∧ Bx s422 (N + 10) b118 #[.slice a128 st318.2.length c128] 65 ∧ Rc s422 (N + 11) (N + 0) D318 { r318 with state := .busy } ∧ e = [(18, .int .i64 st418.1), (17, .slice a339 st418.2.1.length c339), (16, .int .i64 (W ((st318.2.length : Int) + 1))), (13, .pointer (some ⟨b118, 0, none⟩)), (12, .pointer (some ⟨b113, 0, none⟩)), (9, .pointer (some ⟨b58, 0, none⟩))] ∧ w = s422.w) eo418 ⟨s335, (some ⟨b334, 0, none⟩), ([x320.2] : List Int).length, m0, h334, h55, h110, h128, h324, mk0, bx58, bx113, bx118, rc323, rfl, rfl⟩ (Sub.cons rfl (Sub.cons rfl (Sub.cons rfl (Sub.cons rfl (Sub.cons rfl (Sub.cons rfl Sub.nil)))))) ?_
            rintro st418 res418 hm ih418 ho418 _ _ ⟨s422, a339, c339, m0, h339, h55, h110, h128, h324, mk0, bx58, bx113, bx118, rc323, rfl, rfl⟩
            unfold m_reach_Components_l4 at hm
            refine E.seq ?_
            refine E.seq ?_
            refine E.reg ?_
            refine L.mv Wt.no rfl rfl ?_
            refine L.mv Wt.no rfl rfl ?_
            refine L.len sl28 Wt.no rfl rfl ?_
            refine L.bi Wt.no rfl rfl rfl rfl ?_
            refine L.nil ?_
            refine X.seqN ?_
            rcases ifS hm with ⟨hc, hm⟩ | ⟨hc, hm⟩
            · refine E.cT rfl hc ?_
              refine E.skip ?_
              refine X.seqN ?_
              refine E.seq ?_
              refine E.block ?_
              refine E.seq ?_
              obtain ⟨x443, ex443, hm⟩ := bindS hm
              obtain ⟨x447, ex447, hm⟩ := bindS hm
              refine E.draw [[], [], [], [1, 2], [1, 2, 3], [0, 1, 2, 3, 4], [0, 1, 2, 3, 4, 5], [0, 1, 2, 3, 4, 5, 6], []] (fun D e sx => Mv No s422 sx ∧ Sub [(18, .int .i64 st418.1), (17, .slice a339 st418.2.1.length c339), (16, .int .i64 (W ((st318.2.length : Int) + 1))), (13, .pointer (some ⟨b118, 0, none⟩)), (12, .pointer (some ⟨b113, 0, none⟩)), (9, .pointer (some ⟨b58, 0, none⟩))] e ∧ AllP [D 0 = true → (Env.get e 98 = some (.slice (some ⟨b55, 0, none⟩) o104.length x54.length)), D 1 = true → (Env.get e 99 = some (.slice a339 st418.2.1.length c339)), D 2 = true → (Env.get e 100 = some (.int .i64 st418.1)), D 3 = true → (∃ (b444 : Nat) (o444 : Nat), Env.get e 101 = some (.pointer (some ⟨b444, o444, none⟩)) ∧ Mem sx (N + 12) b444 o444 [.int .i64 x443] ∧ Spot a339 (rK .i64).sz (st418.1).toNat b444 o444), D 4 = true → (Env.get e 102 = some (.int .i64 x443)), D 5 = true → (∃ (b448 : Nat) (o448 : Nat) (a449 : Option Addr) (c449 : Nat), Env.get e 103 = some (.pointer (some ⟨b448, o448, none⟩)) ∧ Mem sx 0 b448 o448 [.slice a449 x447.length c449] ∧ RdL (rK .i64) sx a449 c449 x447), D 6 = true → (∃ (a451 : Option Addr) (c451 : Nat), Env.get e 104 = some (.slice a451 x447.length c451) ∧ RdL (rK .i64) sx a451 c451 x447), D 7 = true → (Env.get e 105 = some (.int .i64 (x447.length : Int))), D 8 = true → (Env.get e 106 = some (.int .i64 0))]) (by kernel_rfl) (by kernel_rfl) (by kernel_rfl) ?_ ?_ ?_
              · intro sz mz
                exact ⟨mz, (Sub.cons rfl (Sub.cons rfl (Sub.cons rfl (Sub.cons rfl (Sub.cons rfl (Sub.cons rfl Sub.nil)))))), nofun, nofun, nofun, nofun, nofun, nofun, nofun, nofun, nofun, trivial⟩
              · refine ⟨?_, ?_, ?_, ?_, ?_, ?_, ?_, ?_, ?_, trivial⟩
                · rintro D e s439 ⟨im, ib, i⟩ hk hf ha
                  have bx58 := bx58.mv im no_No
                  have kn : Kn e [(9, .pointer (some ⟨b58, 0, none⟩))] := ⟨(ib 9 _ rfl), trivial⟩
                  refine L.kns _ kn ?_
                  refine L.ld (j := 0) bx58.mem nag65 Wt.no rfl rfl rfl rfl ?_
                  refine L.nil ?_
                  exact X.dk kn ⟨im, Sub.fresh ib rfl, i.u 0 (fun _ => rfl)⟩
                · rintro D e s440 ⟨im, ib, i⟩ hk hf ha
                  have kn : Kn e [(17, .slice a339 st418.2.1.length c339)] := ⟨(ib 17 _ rfl), trivial⟩
                  refine L.kns _ kn ?_
                  refine L.mv Wt.no rfl rfl ?_
                  refine L.nil ?_
                  exact X.dk kn ⟨im, Sub.fresh ib rfl, i.u 1 (fun _ => rfl)⟩
                · rintro D e s441 ⟨im, ib, i⟩ hk hf ha
                  have kn : Kn e [(18, .int .i64 st418.1)] := ⟨(ib 18 _ rfl), trivial⟩
                  refine L.kns _ kn ?_
                  refine L.mv Wt.no rfl rfl ?_
                  refine L.nil ?_
                  exact X.dk kn ⟨im, Sub.fresh ib rfl, i.u 2 (fun _ => rfl)⟩
                · rintro D e s442 ⟨im, ib, i⟩ hk hf ha
                  have g1_ := (i.p 1) (ha.at 1 rfl)
                  have g2_ := (i.p 2) (ha.at 2 rfl)
                  have h339 := h339.mv im no_No no_No
                  have kn : Kn e [(99, .slice a339 st418.2.1.length c339), (100, .int .i64 st418.1)] := ⟨g1_, g2_, trivial⟩
                  refine L.kns _ kn ?_
                  refine L.ir (r := (rK .i64)) sl28 h339 Wt.no rfl rfl ex443 rfl ?_
                  rintro b444 o444 cc444 me444 rd444 sp444
                  obtain rfl := rd444
                  refine L.nil ?_
                  exact X.dk kn ⟨im, Sub.fresh ib rfl, i.u 3 (fun _ => ⟨b444, o444, rfl, me444, sp444⟩)⟩
                · rintro D e s445 ⟨im, ib, i⟩ hk hf ha
                  obtain ⟨b444, o444, g3_, me444, sp444⟩ := (i.p 3) (ha.at 3 rfl)
                  have kn : Kn e [(101, .pointer (some ⟨b444, o444, none⟩))] := ⟨g3_, trivial⟩
                  refine L.kns _ kn ?_
                  refine L.ld (j := 0) me444 nag3 Wt.no rfl rfl rfl rfl ?_
                  refine L.nil ?_
                  exact X.dk kn ⟨im, Sub.fresh ib rfl, i.u 4 (fun _ => rfl)⟩
                · rintro D e s446 ⟨im, ib, i⟩ hk hf ha
                  have g0_ := (i.p 0) (ha.at 0 rfl)
                  have g4_ := (i.p 4) (ha.at 4 rfl)
                  have h55 := h55.mono (im.le no_No)
                  have kn : Kn e [(98, .slice (some ⟨b55, 0, none⟩) o104.length x54.length), (102, .int .i64 x443)] := ⟨g0_, g4_, trivial⟩
                  refine L.kns _ kn ?_
                  refine L.ix (r := (rL (rK .i64))) sl65 h55 Wt.no rfl rfl ex447 rfl ?_
                  rintro b448 o448 cc448 me448 rd448
                  obtain ⟨a449, c449, rfl, h449⟩ := rd448
                  refine L.nil ?_
                  exact X.dk kn ⟨im, Sub.fresh ib rfl, i.u 5 (fun _ => ⟨b448, o448, a449, c449, rfl, me448, h449⟩)⟩
                · rintro D e s450 ⟨im, ib, i⟩ hk hf ha
                  obtain ⟨b448, o448, a449, c449, g5_, me448, h449⟩ := (i.p 5) (ha.at 5 rfl)
                  have kn : Kn e [(103, .pointer (some ⟨b448, o448, none⟩))] := ⟨g5_, trivial⟩
                  refine L.kns _ kn ?_
                  refine L.ld (j := 0) me448 nag28 Wt.no rfl rfl rfl rfl ?_
                  obtain ⟨a451, c451, ea451, ec451, h451⟩ : ∃ a c, a = a449 ∧ c = c449 ∧ RdL (rK .i64) s450 a c x447 := ⟨_, _, rfl, rfl, h449⟩
                  subst ea451 ec451
                  refine L.nil ?_
                  exact X.dk kn ⟨im, Sub.fresh ib rfl, i.u 6 (fun _ => ⟨a451, c451, rfl, h451⟩)⟩
                · rintro D e s452 ⟨im, ib, i⟩ hk hf ha
                  obtain ⟨a451, c451, g6_, h451⟩ := (i.p 6) (ha.at 6 rfl)
                  have kn : Kn e [(104, .slice a451 x447.length c451)] := ⟨g6_, trivial⟩
                  refine L.kns _ kn ?_
                  refine L.len sl28 Wt.no rfl rfl ?_
                  refine L.nil ?_
                  exact X.dk kn ⟨im, Sub.fresh ib rfl, i.u 7 (fun _ => rfl)⟩
                · rintro D e s453 ⟨im, ib, i⟩ hk hf ha
                  refine L.mv Wt.no rfl rfl ?_
                  refine L.nil ?_
                  exact X.dr (s := s453) (e' := (106, .int .i64 0) :: e) (Sub.both (Sub.refl)) ⟨im, Sub.fresh ib rfl, i.u 8 (fun _ => rfl)⟩
              · rintro D e s454 hD ⟨im, ib, i⟩
                obtain ⟨a451, c451, g6_, h451⟩ := (i.p 6) (hD 6 rfl)
                have g7_ := (i.p 7) (hD 7 rfl)
                have g8_ := (i.p 8) (hD 8 rfl)
                have h339 := h339.mv im no_No no_No
                have bx118 := bx118.mv im no_No
                have h128 := h128.mv im no_No no_No
                have bx113 := bx113.mv im no_No
                have h110 := h110.mv im no_No no_No
                have bx58 := bx58.mv im no_No
                have h55 := h55.mono (im.le no_No)
                have mk0 := mk0.mv im no_No
                have h324 := h324.mono (im.le no_No)
                have rc323 := rc323.mv im no_No no_No
                have m0 := m0.trans im.no
                refine X.sub (e' := [(106, .int .i64 0), (105, .int .i64 (x447.length : Int)), (104, .slice a451 x447.length c451), (18, .int .i64 st418.1), (17, .slice a339 st418.2.1.length c339), (16, .int .i64 (W ((st318.2.length : Int) + 1))), (13, .pointer (some ⟨b118, 0, none⟩)), (12, .pointer (some ⟨b113, 0, none⟩)), (9, .pointer (some ⟨b58, 0, none⟩))]) ?_ (Sub.cons g8_ (Sub.cons g7_ (Sub.cons g6_ (Sub.cons (ib 18 _ rfl) (Sub.cons (ib 17 _ rfl) (Sub.cons (ib 16 _ rfl) (Sub.cons (ib 13 _ rfl) (Sub.cons (ib 12 _ rfl) (Sub.cons (ib 9 _ rfl) Sub.nil)))))))))
                refine X.seqN ?_
                refine E.block ?_
                obtain ⟨o484, eo484, hm⟩ := bindS hm
                refine E.cut (x := .exit 8) (fun e w => ∃ (s489 : Sig) (a486 : Option Addr) (c486 : Nat), Mv (Up N No) s s489 ∧ RowT (rK .i64) s489 (N + 12) 3 a486 c486 o484.1 ∧ RdL (rL (rK .i64)) s489 (some ⟨b55, 0, none⟩) x54.length o104 ∧ RowT (rK .i64) s489 (N + 8) 3 (some ⟨b110, 0, none⟩) x109.length o484.2 ∧ RowT (rL (rK .i64)) s489 (N + 13) 28 a128 c128 st318.2 ∧ Lf s321 s489 ∧ Mks s489 (N + 0) ds ∧ Bx s489 (N + 6) b58 #[.slice (some ⟨b55, 0, none⟩) o104.length x54.length] 65 ∧ Bx s489 (N + 9) b113 #[.slice (some ⟨b110, 0, none⟩) o484.2.length x109.length] 28 ∧ Bx s489 (N + 10) b118 #[.slice a128 st318.2.length c128] 65 ∧ Rc s489 (N + 11) (N + 0) D318 { r318 with state := .busy } ∧ e = [(18, .int .i64 st418.1), (17, .slice a486 o484.1.length c486), (16, .int .i64 (W ((st318.2.length : Int) + 1))), (13, .pointer (some ⟨b118, 0, none⟩)), (12, .pointer (some ⟨b113, 0, none⟩)), (9, .pointer (some ⟨b58, 0, none⟩))] ∧ w = s489.w) ?_ ?_
                · rintro _ _ ⟨s489, a486, c486, m0, h486, h55, h110, h128, h324, mk0, bx58, bx113, bx118, rc323, rfl, rfl⟩
                  refine X.blkE ?_
                  refine X.blkN ?_
                  refine X.seqN ?_
                  refine E.reg ?_
                  refine L.mv Wt.no rfl rfl ?_
                  refine L.bi Wt.no rfl rfl rfl rfl ?_
                  refine L.as Wt.no rfl rfl ?_
                  refine L.nil ?_
                  exact X.sub (ih418 _ (Option.some.inj hm).symm _ _ ⟨s489, a486, c486, m0, h486, h55, h110, h128, h324, mk0, bx58, bx113, bx118, rc323, rfl, rfl⟩) (Sub.cons rfl (Sub.cons rfl (Sub.cons rfl (Sub.cons rfl (Sub.cons rfl (Sub.cons rfl Sub.nil))))))
                intro K490
                refine E.iter (fun (st484 : Int × List Int × List Int) (e : List (Nat × Value)) (w : World) => ∃ (s488 : Sig) (a457 : Option Addr) (c457 : Nat), Mv (Up N No) s s488 ∧ RdL (rK .i64) s488 a451 c451 x447 ∧ RowT (rK .i64) s488 (N + 12) 3 a457 c457 st484.2.1 ∧ RdL (rL (rK .i64)) s488 (some ⟨b55, 0, none⟩) x54.length o104 ∧ RowT (rK .i64) s488 (N + 8) 3 (some ⟨b110, 0, none⟩) x109.length st484.2.2 ∧ RowT (rL (rK .i64)) s488 (N + 13) 28 a128 c128 st318.2 ∧ Lf s321 s488 ∧ Mks s488 (N + 0) ds ∧ Bx s488 (N + 6) b58 #[.slice (some ⟨b55, 0, none⟩) o104.length x54.length] 65 ∧ Bx s488 (N + 9) b113 #[.slice (some ⟨b110, 0, none⟩) st484.2.2.length x109.length] 28 ∧ Bx s488 (N + 10) b118 #[.slice a128 st318.2.length c128] 65 ∧ Rc s488 (N + 11) (N + 0) D318 { r318 with state := .busy } ∧ e = [(106, .int .i64 st484.1), (105, .int .i64 (x447.length : Int)), (104, .slice a451 x447.length c451), (18, .int .i64 st418.1), (17, .slice a457 st484.2.1.length c457), (16, .int .i64 (W ((st318.2.length : Int) + 1))), (13, .pointer (some ⟨b118, 0, none⟩)), (12, .pointer (some ⟨b113, 0, none⟩)), (9, .pointer (some ⟨b58, 0, none⟩))] ∧ w = s488.w) eo484 ⟨s454, a339, c339, m0, h451, h339, h55, h110, h128, h324, mk0, bx58, bx113, bx118, rc323, rfl, rfl⟩ (Sub.cons rfl (Sub.cons rfl (Sub.cons rfl (Sub.cons rfl (Sub.cons rfl (Sub.cons rfl (Sub.cons rfl (Sub.cons rfl (Sub.cons rfl Sub.nil))))))))) ?_
                rintro st484 res484 hm ih484 ho484 _ _ ⟨s488, a457, c457, m0, h451, h457, h55, h110, h128, h324, mk0, bx58, bx113, bx118, rc323, rfl, rfl⟩
                unfold m_reach_Components_l5 at hm
                refine E.seq ?_
                refine E.reg ?_
                refine L.bi Wt.no rfl rfl rfl rfl ?_
                refine L.nil ?_
                refine X.seqN ?_
                refine E.seq ?_
                rcases ifS hm with ⟨hc, hm⟩ | ⟨hc, hm⟩
                · refine E.cT rfl hc ?_
                  refine E.skip ?_
                  refine X.seqN ?_
                  refine E.seqJ (fun e w => ∃ (s494 : Sig) (l491 : List Int) (l493 : List Int) (a492 : Option Addr) (c492 : Nat), m_reach_Components_j1 st484 l491 l493 = some res484 ∧ Mv (Up N No) s s494 ∧ RowT (rK .i64) s494 (N + 12) 3 a492 c492 l491 ∧ RdL (rK .i64) s494 a451 c451 x447 ∧ RdL (rL (rK .i64)) s494 (some ⟨b55, 0, none⟩) x54.length o104 ∧ RowT (rK .i64) s494 (N + 8) 3 (some ⟨b110, 0, none⟩) x109.length l493 ∧ RowT (rL (rK .i64)) s494 (N + 13) 28 a128 c128 st318.2 ∧ Lf s321 s494 ∧ Mks s494 (N + 0) ds ∧ Bx s494 (N + 6) b58 #[.slice (some ⟨b55, 0, none⟩) o104.length x54.length] 65 ∧ Bx s494 (N + 9) b113 #[.slice (some ⟨b110, 0, none⟩) l493.length x109.length] 28 ∧ Bx s494 (N + 10) b118 #[.slice a128 st318.2.length c128] 65 ∧ Rc s494 (N + 11) (N + 0) D318 { r318 with state := .busy } ∧ e = [(17, .slice a492 l491.length c492), (106, .int .i64 st484.1), (105, .int .i64 (x447.length : Int)), (104, .slice a451 x447.length c451), (18, .int .i64 st418.1), (16, .int .i64 (W ((st318.2.length : Int) + 1))), (13, .pointer (some ⟨b118, 0, none⟩)), (12, .pointer (some ⟨b113, 0, none⟩)), (9, .pointer (some ⟨b58, 0, none⟩))] ∧ w = s494.w) ?_ ?_
                  · rintro _ _ ⟨s494, l491, l493, a492, c492, hm, m0, h492, h451, h55, h110, h128, h324, mk0, bx58, bx113, bx118, rc323, rfl, rfl⟩
                    unfold m_reach_Components_j1 at hm
                    refine E.reg ?_
                    refine L.bi Wt.no rfl rfl rfl rfl ?_
                    refine L.mv Wt.no rfl rfl ?_
                    refine L.nil ?_
                    exact X.sub (ih484 _ (Option.some.inj hm).symm _ _ ⟨s494, a492, c492, m0, h451, h492, h55, h110, h128, h324, mk0, bx58, bx113, bx118, rc323, rfl, rfl⟩) (Sub.cons rfl (Sub.cons rfl (Sub.cons rfl (Sub.cons rfl (Sub.cons rfl (Sub.cons rfl (Sub.cons rfl (Sub.cons rfl (Sub.cons rfl Sub.nil)))))))))
                  · intro Jj495
                    refine E.block ?_
                    refine E.seq ?_
                    refine E.reg ?_
                    obtain ⟨x496, ex496, hm⟩ := bindS hm
                    refine L.ix (r := (rK .i64)) sl28 h451 Wt.no rfl rfl ex496 rfl ?_
                    rintro b497 o497 cc497 me497 rd497
                    obtain rfl := rd497
                    refine L.ld (j := 0) me497 nag3 Wt.no rfl rfl rfl rfl ?_
                    refine L.as Wt.no rfl rfl ?_
                    refine L.nil ?_
                    refine X.seqN ?_
                    refine E.seq ?_
                    refine E.reg ?_
                    refine L.ld (j := 0) bx113.mem nag28 Wt.no rfl rfl rfl rfl ?_
                    refine L.mv Wt.no rfl rfl ?_
                    obtain ⟨x498, ex498, hm⟩ := bindS hm
                    refine L.ir (r := (rK .i64)) sl28 h110 Wt.no rfl rfl ex498 rfl ?_
                    rintro b499 o499 cc499 me499 rd499 sp499
                    obtain rfl := rd499
                    refine L.ld (j := 0) me499 nag3 Wt.no rfl rfl rfl rfl ?_
                    refine L.bi Wt.no rfl rfl rfl rfl ?_
                    refine L.nil ?_
                    refine X.seqN ?_
                    rcases ifS hm with ⟨hc, hm⟩ | ⟨hc, hm⟩
                    · refine E.cT rfl hc ?_
                      refine E.seq ?_
                      refine E.reg ?_
                      refine L.ld (j := 0) bx113.mem nag28 Wt.no rfl rfl rfl rfl ?_
                      refine L.mv Wt.no rfl rfl ?_
                      refine L.mv Wt.no rfl rfl ?_
                      obtain ⟨x500, ex500, hm⟩ := bindS hm
                      refine L.ir (r := (rK .i64)) sl28 h110 Wt.no rfl rfl ex500 rfl ?_
                      rintro b501 o501 cc501 me501 rd501 sp501
                      obtain rfl := rd501
                      obtain ⟨x502, ex502, hm⟩ := bindS hm
                      have elx502 := upd_len ex502
                      refine L.su (fo := 0) (c := [.int .i64 (W ((st318.2.length : Int) + 1))]) (z := W ((st318.2.length : Int) + 1)) h110 sp501 ex500 ex502 (tgp hN) nag3.sz Wt.no rfl rfl rfl rfl rfl rfl (fun c0 hc0 => by obtain rfl := hc0; exact rfl) ?_
                      intro s503 m504 h110
                      replace m0 := m0.trans (m504.one up)
                      replace h451 := h451.mono (m504.le (tg0 hN))
                      replace h457 := h457.mv m504 (tgN (by decide)) (tg0 hN)
                      replace mk0 := mk0.mv m504 (tgN (by decide))
                      replace h324 := h324.mono (m504.le (tg0 hN))
                      replace rc323 := rc323.mv m504 (tgN (by decide)) (tgN (by decide))
                      replace bx58 := bx58.mv m504 (tgN (by decide))
                      replace h55 := h55.mono (m504.le (tg0 hN))
                      replace bx113 := bx113.mv m504 (tgN (by decide))
                      replace bx118 := bx118.mv m504 (tgN (by decide))
                      replace h128 := h128.mv m504 (tgN (by decide)) (tg0 hN)
                      replace bx113 : Bx s503 (N + 9) b113 #[.slice (some ⟨b110, 0, none⟩) x502.length x109.length] 28 := by rw [elx502]; exact bx113
                      refine L.nil ?_
                      refine X.seqN ?_
                      refine E.reg ?_
                      refine L.mv Wt.no rfl rfl ?_
                      refine L.mv Wt.no rfl rfl ?_
                      refine L.bsE (k := 1) (cs := [.int .i64 x496]) 0 bs28 (Nat.le_of_ble_eq_true rfl) Wt.no rfl rfl rfl rfl ?_
                      intro b505 s506 m507 bx505
                      replace m0 := m0.trans m507.no
                      replace h451 := h451.mono (m507.le no_No)
                      replace h457 := h457.mv m507 no_No no_No
                      replace mk0 := mk0.mv m507 no_No
                      replace h324 := h324.mono (m507.le no_No)
                      replace rc323 := rc323.mv m507 no_No no_No
                      replace bx58 := bx58.mv m507 no_No
                      replace h55 := h55.mono (m507.le no_No)
                      replace bx113 := bx113.mv m507 no_No
                      replace h110 := h110.mv m507 no_No no_No
                      replace bx118 := bx118.mv m507 no_No
                      replace h128 := h128.mv m507 no_No no_No
                      have h505 := Bx.rdL (r := (rK .i64)) (xs := ([x496] : List Int)) bx505 ⟨[.int .i64 x496], _, rfl, rfl, rfl⟩ (Nat.le_of_ble_eq_true rfl)
                      obtain ⟨x508, ex508, hm⟩ := bindS hm
                      refine L.ap (r := (rK .i64)) Try.underlying28 el3 rfl (tgp hN) h457 h505.wk Wt.no rfl rfl ex508 rfl ?_
                      intro a509 c509 s510 m511 h509
                      replace m0 := m0.trans (m511.one up)
                      replace h451 := h451.mono (m511.le (tg0 hN))
                      replace mk0 := mk0.mv m511 (tgN (by decide))
                      replace h324 := h324.mono (m511.le (tg0 hN))
                      replace rc323 := rc323.mv m511 (tgN (by decide)) (tgN (by decide))
                      replace bx58 := bx58.mv m511 (tgN (by decide))
                      replace h55 := h55.mono (m511.le (tg0 hN))
                      replace bx113 := bx113.mv m511 (tgN (by decide))
                      replace h110 := h110.mv m511 (tgN (by decide)) (tg0 hN)
                      replace bx118 := bx118.mv m511 (tgN (by decide))
                      replace h128 := h128.mv m511 (tgN (by decide)) (tg0 hN)
                      refine L.as Wt.no rfl rfl ?_
                      refine L.nil ?_
                      refine X.blkN ?_
                      exact X.sub (Jj495 _ _ ⟨s510, x508, x502, a509, c509, hm, m0, h509, h451, h55, h110, h128, h324, mk0, bx58, bx113, bx118, rc323, rfl, rfl⟩) (Sub.cons rfl (Sub.cons rfl (Sub.cons rfl (Sub.cons rfl (Sub.cons rfl (Sub.cons rfl (Sub.cons rfl (Sub.cons rfl (Sub.cons rfl Sub.nil)))))))))
                    · refine E.cF rfl hc ?_
                      refine E.skip ?_
                      refine X.blkN ?_
                      exact X.sub (Jj495 _ _ ⟨s488, st484.2.1, st484.2.2, a457, c457, hm, m0, h457, h451, h55, h110, h128, h324, mk0, bx58, bx113, bx118, rc323, rfl, rfl⟩) (Sub.cons rfl (Sub.cons rfl (Sub.cons rfl (Sub.cons rfl (Sub.cons rfl (Sub.cons rfl (Sub.cons rfl (Sub.cons rfl (Sub.cons rfl Sub.nil)))))))))
                · refine E.cF rfl hc ?_
                  refine E.exit ?_
                  refine X.seqX ?_
                  refine X.seqX ?_
                  have hx := ho484 _ (Option.some.inj hm).symm
                  subst hx
                  exact X.sub (K490 _ _ ⟨s488, a457, c457, m0, h457, h55, h110, h128, h324, mk0, bx58, bx113, bx118, rc323, rfl, rfl⟩) (Sub.cons rfl (Sub.cons rfl (Sub.cons rfl (Sub.cons rfl (Sub.cons rfl (Sub.cons rfl Sub.nil))))))
            · refine E.cF rfl hc ?_
              refine E.exit ?_
              refine X.seqX ?_
              refine X.seqX ?_
              have hx := ho418 _ (Option.some.inj hm).symm
              subst hx
              exact X.sub (K438 _ _ ⟨s422, a339, c339, m0, h339, h55, h110, h128, h324, mk0, bx58, bx113, bx118, rc323, rfl, rfl⟩) (Sub.cons rfl (Sub.cons rfl (Sub.cons rfl (Sub.cons rfl Sub.nil))))
        · rintro D318 s319 s321 hD318 ⟨st318, a128, c128, hj318, m0, h55, h110, h128, mk0, bx58, bx113, bx118⟩ m322 mk318
          have hx := (rng_end hj318).symm
          subst hx
          replace m0 := m0.trans (m322.one up)
          replace mk0 := mk0.mv m322 (tgN (by decide))
          replace bx118 := bx118.mv m322 (tgN (by decide))
          replace h128 := h128.mv m322 (tgN (by decide)) (tg0 hN)
          replace bx113 := bx113.mv m322 (tgN (by decide))
          replace h110 := h110.mv m322 (tgN (by decide)) (tg0 hN)
          replace bx58 := bx58.mv m322 (tgN (by decide))
          replace h55 := h55.mono (m322.le (tg0 hN))
          replace mk0 := mk0.cons mko318 hD318 mk318
          refine X.blkN ?_
          refine X.seqN ?_
          refine E.seq ?_
          refine E.reg ?_
          refine L.ld (j := 0) bx118.mem nag65 Wt.no rfl rfl rfl rfl ?_
          obtain ⟨r512, er512, hm⟩ := bindS hm
          refine L.ca (vs := [.slice a128 o318.2.length c128, (.func (.func 76) #[] #[])]) cf75 rfl rfl Wt.no rfl (m_slices_SortFunc_int_c (s := s321) (p0 := o318.2) (t0 := (N + 13)) (tpos hN) h128 er512) rfl ?_
          rintro _ s513 m514 ⟨rfl, h128⟩
          obtain ⟨_, qz515, hm⟩ := bindS hm
          have elz515 := len_some qz515
          replace m0 := m0.trans (m514.one up)
          replace mk0 := mk0.mv m514 (tgN (by decide))
          replace bx118 := bx118.mv m514 (tgN (by decide))
          replace bx118 : Bx s513 (N + 10) b118 #[.slice a128 r512.length c128] 65 := by rw [elz515]; exact bx118
          refine L.nil ?_
          refine X.seqN ?_
          refine E.seq ?_
          refine E.reg ?_
          refine L.ld (j := 0) bx118.mem nag65 Wt.no rfl rfl rfl rfl ?_
          refine L.as Wt.no rfl rfl ?_
          refine L.as Wt.no rfl rfl ?_
          refine L.nil ?_
          refine X.seqN ?_
          refine E.ret ?_
          refine X.lv (.inl rfl) mk0 fun s516 m517 => ?_
          replace m0 := m0.trans (m517.one up)
          replace h128 := h128.mv m517 (tgN (by decide)) (tg0 hN)
          obtain rfl := Option.some.inj hm
          exact X.rt (.inl rfl) Try.results40 (Rs.tmp rfl (Rs.tmp rfl Rs.nil)) rfl ⟨_, (s516).ren N (fun k => cond (Nat.beq k 13) u0 (0)), rfl, rfl, m0.ren hNb, ⟨a128, c128, rfl, (h128.ren hN)⟩⟩
      intro K518
      refine EiterM (fun (st104 : Int × List (List Int)) (e : List (Nat × Value)) (w : World) (ds : List Deferred) => ∃ (s106 : Sig), Mv (Up N No) s s106 ∧ RdL (rP (rK .i64) (rP (rK .i64) (rK .i64))) s106 a3 c3 p0.2.2.2 ∧ RowT (rK .i64) s106 (N + 4) 3 a51 c51 o49 ∧ RdL (rK .i64) s106 a1 c1 p0.1 ∧ RdL (rK .i64) s106 a2 c2 p0.2.2.1 ∧ RowR (rK .i64) s106 N 5 (N + 5) 28 3 (some ⟨b55, 0, none⟩) x54.length x54.length st104.2 none ∧ Mks s106 (N + 0) ds ∧ Bx s106 (N + 1) b5 #[.slice a1 p0.1.length c1, .int .i64 p0.2.1, .slice a2 p0.2.2.1.length c2, .slice a3 p0.2.2.2.length c3] 31 ∧ Bx s106 (N + 6) b58 #[.slice (some ⟨b55, 0, none⟩) x54.length x54.length] 65 ∧ e = [(53, .int .i64 st104.1), (52, .int .i64 (p0.2.2.2.length : Int)), (51, .slice a3 p0.2.2.2.length c3), (9, .pointer (some ⟨b58, 0, none⟩)), (6, .slice a51 o49.length c51), (1, .pointer (some ⟨b5, 0, none⟩))] ∧ w = s106.w) eo104 ⟨s61, m0, h3, h51, h1, h2, mp55, mk0, bx5, bx58, rfl, rfl⟩ (Sub.cons rfl (Sub.cons rfl (Sub.cons rfl (Sub.cons rfl (Sub.cons rfl (Sub.cons rfl Sub.nil)))))) ?_
      rintro st104 res104 hm ih104 ho104 _ _ ds ⟨s106, m0, h3, h51, h1, h2, mp55, mk0, bx5, bx58, rfl, rfl⟩
      unfold m_reach_Components_l2 at hm
      refine E.seq ?_
      refine E.reg ?_
      refine L.bi Wt.no rfl rfl rfl rfl ?_
      refine L.nil ?_
      refine X.seqN ?_
      refine E.seq ?_
      rcases ifS hm with ⟨hc, hm⟩ | ⟨hc, hm⟩
      · refine E.cT rfl hc ?_
        refine E.skip ?_
        refine X.seqN ?_
        refine E.seq ?_
        refine E.block ?_
        refine E.seq ?_
        refine E.reg ?_
        obtain ⟨x519, ex519, hm⟩ := bindS hm
        refine L.ix (r := (rP (rK .i64) (rP (rK .i64) (rK .i64)))) sl29 h3 Wt.no rfl rfl ex519 rfl ?_
        rintro b520 o520 cc520 me520 rd520
        obtain ⟨_, _, rfl, rfl, ⟨_, _, rfl, rfl, rfl⟩⟩ := rd520
        refine L.lg (j := 0) (cs := [.int .i64 x519.1, .int .i64 x519.2.1, .int .i64 x519.2.2]) me520 ag45 Wt.no rfl rfl rfl rfl rfl ?_
        refine L.al (N + 7) zz45 rfl Wt.no rfl ?_
        intro b521 s522 m523 bx521
        replace m0 := m0.trans m523.no
        replace h51 := h51.mv m523 no_No no_No
        replace h3 := h3.mono (m523.le no_No)
        replace mk0 := mk0.mv m523 no_No
        replace bx5 := bx5.mv m523 no_No
        replace h1 := h1.mono (m523.le no_No)
        replace h2 := h2.mono (m523.le no_No)
        replace bx58 := bx58.mv m523 no_No
        replace mp55 := mp55.mv m523 no_No no_No (fun _ _ => no_No)
        refine L.st (c := [.int .i64 x519.1, .int .i64 x519.2.1, .int .i64 x519.2.2]) (cs' := #[.int .i64 x519.1, .int .i64 x519.2.1, .int .i64 x519.2.2]) bx521 ag45.sz Wt.no rfl rfl rfl rfl rfl (Nat.le_of_ble_eq_true rfl) rfl ?_
        intro s524 m525 bx521
        replace m0 := m0.trans (m525.one up)
        replace h3 := h3.mono (m525.le (tg0 hN))
        replace h51 := h51.mv m525 (tgN (by decide)) (tg0 hN)
        replace mk0 := mk0.mv m525 (tgN (by decide))
        replace bx5 := bx5.mv m525 (tgN (by decide))
        replace h1 := h1.mono (m525.le (tg0 hN))
        replace h2 := h2.mono (m525.le (tg0 hN))
        replace bx58 := bx58.mv m525 (tgN (by decide))
        replace mp55 := mp55.mv m525 (tgN (by decide)) (tg0 hN) (fun i ho => (fmM (by decide)))
        refine L.nil ?_
        refine X.seqN ?_
        obtain ⟨x533, ex533, hm⟩ := bindS hm
        obtain ⟨x544, ex544, hm⟩ := bindS hm
        obtain ⟨x549, ex549, hm⟩ := bindS hm
        obtain ⟨x552, ex552, hm⟩ := bindS hm
        refine E.draw [[], [], [1], [], [], [4], [3, 4, 5], [3, 4, 5, 6], [], [8], [8, 9], [3, 4, 5, 6, 7, 8, 9, 10], [0, 1, 2, 3, 4, 5, 6, 7, 8, 9, 10, 11], [0, 1, 2, 3, 4, 5, 6, 7, 8, 9, 10, 11, 12]] (fun D e sx => Mv (fun t => t = (fam N 5 (x519.2.2.toNat)) ∨ t = (N + 5)) s524 sx ∧ Sub [(11, .pointer (some ⟨b521, 0, none⟩)), (53, .int .i64 st104.1), (52, .int .i64 (p0.2.2.2.length : Int)), (51, .slice a3 p0.2.2.2.length c3), (9, .pointer (some ⟨b58, 0, none⟩)), (6, .slice a51 o49.length c51), (1, .pointer (some ⟨b5, 0, none⟩))] e ∧ AllP [D 0 = true → (Env.get e 57 = some (.slice (some ⟨b55, 0, none⟩) x54.length x54.length)), D 1 = true → (Env.get e 58 = some (.pointer (some ⟨b521, 2, none⟩))), D 2 = true → (Env.get e 59 = some (.int .i64 x519.2.2)), D 3 = true → (Env.get e 60 = some (.slice (some ⟨b55, 0, none⟩) x54.length x54.length)), D 4 = true → (Env.get e 61 = some (.pointer (some ⟨b521, 2, none⟩))), D 5 = true → (Env.get e 62 = some (.int .i64 x519.2.2)), D 6 = true → (∃ (b534 : Nat) (o534 : Nat), Env.get e 63 = some (.pointer (some ⟨b534, o534, none⟩)) ∧ Spot (some ⟨b55, 0, none⟩) 1 (x519.2.2).toNat b534 o534), D 7 = true → (∃ (a536 : Option Addr) (c536 : Nat), Env.get e 64 = some (.slice a536 x533.length c536)), D 8 = true → (Env.get e 65 = some (.pointer (some ⟨b521, 0, none⟩))), D 9 = true → (Env.get e 66 = some (.int .i64 x519.1)), D 10 = true → (∃ (b540 : Nat), Env.get e 67 = some (.slice (some ⟨b540, 0, none⟩) ([x519.1] : List Int).length (([x519.1] : List Int).length)) ∧ RdL (rK .i64) sx (some ⟨b540, 0, none⟩) (([x519.1] : List Int).length) ([x519.1] : List Int)), D 11 = true → (∃ (a545 : Option Addr) (c545 : Nat), Env.get e 68 = some (.slice a545 x544.length c545)), D 12 = true → (∃ (b550 : Nat) (o550 : Nat), Env.get e 69 = some (.pointer (some ⟨b550, o550, none⟩)) ∧ Spot (some ⟨b55, 0, none⟩) 1 (x519.2.2).toNat b550 o550), D 7 = false → RowR (rK .i64) sx N 5 (N + 5) 28 3 (some ⟨b55, 0, none⟩) x54.length x54.length st104.2 none, D 7 = true → D 11 = false → ∀ (a536 : Option Addr) (c536 : Nat), Env.get e 64 = some (.slice a536 x533.length c536) → RowT (rK .i64) sx (fam N 5 (x519.2.2.toNat)) 3 a536 c536 x533 ∧ RowR (rK .i64) sx N 5 (N + 5) 28 3 (some ⟨b55, 0, none⟩) x54.length x54.length st104.2 (some x519.2.2.toNat), D 11 = true → D 13 = false → ∀ (a545 : Option Addr) (c545 : Nat), Env.get e 68 = some (.slice a545 x544.length c545) → RowT (rK .i64) sx (fam N 5 (x519.2.2.toNat)) 3 a545 c545 x544 ∧ RowR (rK .i64) sx N 5 (N + 5) 28 3 (some ⟨b55, 0, none⟩) x54.length x54.length st104.2 (some x519.2.2.toNat), D 13 = true → RowR (rK .i64) sx N 5 (N + 5) 28 3 (some ⟨b55, 0, none⟩) x54.length x54.length x552 none]) (by kernel_rfl) (by kernel_rfl) (by kernel_rfl) ?_ ?_ ?_
        · intro sz mz
          exact ⟨mz.no, (Sub.cons rfl (Sub.cons rfl (Sub.cons rfl (Sub.cons rfl (Sub.cons rfl (Sub.cons rfl (Sub.cons rfl Sub.nil))))))), nofun, nofun, nofun, nofun, nofun, nofun, nofun, nofun, nofun, nofun, nofun, nofun, nofun, fun _ => mp55.mv mz no_No no_No (fun _ _ => no_No), nofun, nofun, nofun, trivial⟩
        · refine ⟨?_, ?_, ?_, ?_, ?_, ?_, ?_, ?_, ?_, ?_, ?_, ?_, ?_, ?_, trivial⟩
          · rintro D e s526 ⟨im, ib, i⟩ hk hf ha
            have bx58 := bx58.mv im (nor (fmN (by decide)) (tgN (by decide)))
            have kn : Kn e [(9, .pointer (some ⟨b58, 0, none⟩))] := ⟨(ib 9 _ rfl), trivial⟩
            refine L.kns _ kn ?_
            refine L.ld (j := 0) bx58.mem nag65 Wt.no rfl rfl rfl rfl ?_
            refine L.nil ?_
            exact X.dk kn ⟨im, Sub.fresh ib rfl, i.u 0 (fun _ => rfl)⟩
          · rintro D e s527 ⟨im, ib, i⟩ hk hf ha
            have kn : Kn e [(11, .pointer (some ⟨b521, 0, none⟩))] := ⟨(ib 11 _ rfl), trivial⟩
            refine L.kns _ kn ?_
            refine L.fa fa45_2 Wt.no rfl rfl ?_
            refine L.nil ?_
            exact X.dk kn ⟨im, Sub.fresh ib rfl, i.u 1 (fun _ => rfl)⟩
          · rintro D e s528 ⟨im, ib, i⟩ hk hf ha
            have g1_ := (i.p 1) (ha.at 1 rfl)
            have bx521 := bx521.mv im (nor (fmN (by decide)) (tgN (by decide)))
            have kn : Kn e [(58, .pointer (some ⟨b521, 2, none⟩))] := ⟨g1_, trivial⟩
            refine L.kns _ kn ?_
            refine L.ld (j := 2) bx521.mem nag3 Wt.no rfl rfl rfl rfl ?_
            refine L.nil ?_
            exact X.dk kn ⟨im, Sub.fresh ib rfl, i.u 2 (fun _ => rfl)⟩
          · rintro D e s529 ⟨im, ib, i⟩ hk hf ha
            have bx58 := bx58.mv im (nor (fmN (by decide)) (tgN (by decide)))
            have kn : Kn e [(9, .pointer (some ⟨b58, 0, none⟩))] := ⟨(ib 9 _ rfl), trivial⟩
            refine L.kns _ kn ?_
            refine L.ld (j := 0) bx58.mem nag65 Wt.no rfl rfl rfl rfl ?_
            refine L.nil ?_
            exact X.dk kn ⟨im, Sub.fresh ib rfl, i.u 3 (fun _ => rfl)⟩
          · rintro D e s530 ⟨im, ib, i⟩ hk hf ha
            have kn : Kn e [(11, .pointer (some ⟨b521, 0, none⟩))] := ⟨(ib 11 _ rfl), trivial⟩
            refine L.kns _ kn ?_
            refine L.fa fa45_2 Wt.no rfl rfl ?_
            refine L.nil ?_
            exact X.dk kn ⟨im, Sub.fresh ib rfl, i.u 4 (fun _ => rfl)⟩
          · rintro D e s531 ⟨im, ib, i⟩ hk hf ha
            have g4_ := (i.p 4) (ha.at 4 rfl)
            have bx521 := bx521.mv im (nor (fmN (by decide)) (tgN (by decide)))
            have kn : Kn e [(61, .pointer (some ⟨b521, 2, none⟩))] := ⟨g4_, trivial⟩
            refine L.kns _ kn ?_
            refine L.ld (j := 2) bx521.mem nag3 Wt.no rfl rfl rfl rfl ?_
            refine L.nil ?_
            exact X.dk kn ⟨im, Sub.fresh ib rfl, i.u 5 (fun _ => rfl)⟩
          · rintro D e s532 ⟨im, ib, i⟩ hk hf ha
            have g3_ := (i.p 3) (ha.at 3 rfl)
            have g5_ := (i.p 5) (ha.at 5 rfl)
            obtain mp55 := (i.p 13) (hf 7 (Nat.le_of_ble_eq_true rfl) rfl)
            have kn : Kn e [(60, .slice (some ⟨b55, 0, none⟩) x54.length x54.length), (62, .int .i64 x519.2.2)] := ⟨g3_, g5_, trivial⟩
            refine L.kns _ kn ?_
            refine L.irR sl65 mp55 Wt.no rfl rfl ex533 rfl ?_
            intro b534 o534 sp534
            refine L.nil ?_
            exact X.dk kn ⟨im, Sub.fresh ib rfl, i.u 6 (fun _ => ⟨b534, o534, rfl, sp534⟩)⟩
          · rintro D e s535 ⟨im, ib, i⟩ hk hf ha
            obtain ⟨b534, o534, g6_, sp534⟩ := (i.p 6) (ha.at 6 rfl)
            obtain mp55 := (i.p 13) hk
            have kn : Kn e [(63, .pointer (some ⟨b534, o534, none⟩))] := ⟨g6_, trivial⟩
            refine L.kns _ kn ?_
            refine L.ldR mp55 sp534 ex533 nag28 Wt.no rfl rfl ?_
            intro a536 c536 h536 mp55
            refine L.nil ?_
            exact X.dk kn ⟨im, Sub.fresh ib rfl, ((i.u 7 (fun _ => ⟨a536, c536, rfl⟩)).u 13 (fun z => Bool.noConfusion (show true = false from z))).u 14 (fun _ _ _ _ q7 => by cases (show some (.slice a536 x533.length c536 : Value) = some _ from q7); exact ⟨h536, mp55⟩)⟩
          · rintro D e s537 ⟨im, ib, i⟩ hk hf ha
            have kn : Kn e [(11, .pointer (some ⟨b521, 0, none⟩))] := ⟨(ib 11 _ rfl), trivial⟩
            refine L.kns _ kn ?_
            refine L.fa fa45_0 Wt.no rfl rfl ?_
            refine L.nil ?_
            exact X.dk kn ⟨im, Sub.fresh ib rfl, i.u 8 (fun _ => rfl)⟩
          · rintro D e s538 ⟨im, ib, i⟩ hk hf ha
            have g8_ := (i.p 8) (ha.at 8 rfl)
            have bx521 := bx521.mv im (nor (fmN (by decide)) (tgN (by decide)))
            have kn : Kn e [(65, .pointer (some ⟨b521, 0, none⟩))] := ⟨g8_, trivial⟩
            refine L.kns _ kn ?_
            refine L.ld (j := 0) bx521.mem nag3 Wt.no rfl rfl rfl rfl ?_
            refine L.nil ?_
            exact X.dk kn ⟨im, Sub.fresh ib rfl, i.u 9 (fun _ => rfl)⟩
          · rintro D e s539 ⟨im, ib, i⟩ hk hf ha
            have g9_ := (i.p 9) (ha.at 9 rfl)
            have kn : Kn e [(66, .int .i64 x519.1)] := ⟨g9_, trivial⟩
            refine L.kns _ kn ?_
            refine L.bsE (k := 1) (cs := [.int .i64 x519.1]) 0 bs28 (Nat.le_of_ble_eq_true rfl) Wt.no rfl rfl rfl rfl ?_
            intro b540 s541 m542 bx540
            have h540 := Bx.rdL (r := (rK .i64)) (xs := ([x519.1] : List Int)) bx540 ⟨[.int .i64 x519.1], _, rfl, rfl, rfl⟩ (Nat.le_of_ble_eq_true rfl)
            refine L.nil ?_
            exact X.dk kn ⟨im.trans m542.no, Sub.fresh ib rfl, ((((((i.u 6 (fun z => let ⟨b534, o534, q, sp534⟩ := (i.p 6) z; ⟨b534, o534, q, sp534⟩)).u 10 (fun _ => ⟨b540, rfl, h540⟩)).u 12 (fun z => let ⟨b550, o550, q, sp550⟩ := (i.p 12) z; ⟨b550, o550, q, sp550⟩)).u 13 (fun z2 => (((i.p 13) z2).mv m542 no_No no_No (fun _ _ => no_No)))).u 14 (fun z z2 a536 c536 q7 => let ⟨h536, mp55⟩ := (i.p 14) z z2 a536 c536 q7; ⟨(h536.mv m542 no_No no_No), (mp55.mv m542 no_No no_No (fun _ _ => no_No))⟩)).u 15 (fun z z2 a545 c545 q11 => let ⟨h545, mp55⟩ := (i.p 15) z z2 a545 c545 q11; ⟨(h545.mv m542 no_No no_No), (mp55.mv m542 no_No no_No (fun _ _ => no_No))⟩)).u 16 (fun z => (((i.p 16) z).mv m542 no_No no_No (fun _ _ => no_No)))⟩
          · rintro D e s543 ⟨im, ib, i⟩ hk hf ha
            obtain ⟨a536, c536, g7_⟩ := (i.p 7) (ha.at 7 rfl)
            obtain ⟨b540, g10_, h540⟩ := (i.p 10) (ha.at 10 rfl)
            obtain ⟨h536, mp55⟩ := (i.p 14) (ha.at 7 rfl) hk a536 c536 g7_
            have kn : Kn e [(64, .slice a536 x533.length c536), (67, .slice (some ⟨b540, 0, none⟩) ([x519.1] : List Int).length (([x519.1] : List Int).length))] := ⟨g7_, g10_, trivial⟩
            refine L.kns _ kn ?_
            refine L.ap (r := (rK .i64)) Try.underlying28 el3 rfl (tgpF hN) h536 h540.wk Wt.no rfl rfl ex544 rfl ?_
            intro a545 c545 s546 m547 h545
            refine L.nil ?_
            exact X.dk kn ⟨im.trans (m547.one (.inl rfl)), Sub.fresh ib rfl, (((((((i.u 6 (fun z => let ⟨b534, o534, q, sp534⟩ := (i.p 6) z; ⟨b534, o534, q, sp534⟩)).u 10 (fun z => let ⟨b540, q, h540⟩ := (i.p 10) z; ⟨b540, q, (h540.mono (m547.le (fm0 hN)))⟩)).u 11 (fun _ => ⟨a545, c545, rfl⟩)).u 12 (fun z => let ⟨b550, o550, q, sp550⟩ := (i.p 12) z; ⟨b550, o550, q, sp550⟩)).u 13 (fun z2 => absurd (show D 7 = false from z2) (by rw [(ha.at 7 rfl)]; exact Bool.noConfusion))).u 14 (fun _ z => Bool.noConfusion (show true = false from z))).u 15 (fun _ _ _ _ q11 => by cases (show some (.slice a545 x544.length c545 : Value) = some _ from q11); exact ⟨h545, (mp55.mv m547 (fmN (by decide)) (fm0 hN) (fun i ho => (fam_ne (Ne.symm (ho _ rfl)))))⟩)).u 16 (fun z => Bool.noConfusion ((hf 13 (Nat.le_of_ble_eq_true rfl) rfl).symm.trans z))⟩
          · rintro D e s548 ⟨im, ib, i⟩ hk hf ha
            have g0_ := (i.p 0) (ha.at 0 rfl)
            have g2_ := (i.p 2) (ha.at 2 rfl)
            obtain ⟨a545, c545, g11_⟩ := (i.p 11) (ha.at 11 rfl)
            obtain ⟨h545, mp55⟩ := (i.p 15) (ha.at 11 rfl) (hf 13 (Nat.le_of_ble_eq_true rfl) rfl) a545 c545 g11_
            have kn : Kn e [(57, .slice (some ⟨b55, 0, none⟩) x54.length x54.length), (59, .int .i64 x519.2.2)] := ⟨g0_, g2_, trivial⟩
            refine L.kns _ kn ?_
            refine L.irR sl65 mp55 Wt.no rfl rfl ex549 rfl ?_
            intro b550 o550 sp550
            refine L.nil ?_
            exact X.dk kn ⟨im, Sub.fresh ib rfl, i.u 12 (fun _ => ⟨b550, o550, rfl, sp550⟩)⟩
          · rintro D e s551 ⟨im, ib, i⟩ hk hf ha
            obtain ⟨a545, c545, g11_⟩ := (i.p 11) (ha.at 11 rfl)
            obtain ⟨b550, o550, g12_, sp550⟩ := (i.p 12) (ha.at 12 rfl)
            obtain ⟨h545, mp55⟩ := (i.p 15) (ha.at 11 rfl) hk a545 c545 g11_
            have kn : Kn e [(69, .pointer (some ⟨b550, o550, none⟩)), (68, .slice a545 x544.length c545)] := ⟨g12_, g11_, trivial⟩
            refine L.kns _ kn ?_
            refine L.suR mp55 h545 sp550 ex549 ex552 (tgp hN) (fun _ => fam_neN (by decide)) nag28.sz Wt.no rfl rfl ?_
            intro s553 m554 mp55
            refine L.nil ?_
            exact X.dn kn ⟨im.trans (m554.one (.inr rfl)), ib, ((((((i.u 6 (fun z => let ⟨b534, o534, q, sp534⟩ := (i.p 6) z; ⟨b534, o534, q, sp534⟩)).u 10 (fun z => let ⟨b540, q, h540⟩ := (i.p 10) z; ⟨b540, q, (h540.mono (m554.le (tg0 hN)))⟩)).u 12 (fun z => let ⟨b550, o550, q, sp550⟩ := (i.p 12) z; ⟨b550, o550, q, sp550⟩)).u 13 (fun z2 => absurd (show D 7 = false from z2) (by rw [(ha.at 7 rfl)]; exact Bool.noConfusion))).u 14 (fun z z2 a536 c536 q7 => absurd (show D 11 = false from z2) (by rw [(ha.at 11 rfl)]; exact Bool.noConfusion))).u 15 (fun _ z => Bool.noConfusion (show true = false from z))).u 16 (fun _ => by exact mp55)⟩
        · rintro D e s555 hD ⟨im, ib, i⟩
          obtain mp55 := (i.p 16) (hD 13 rfl)
          have h3 := h3.mono (im.le (nor (fm0 hN) (tg0 hN)))
          have bx58 := bx58.mv im (nor (fmN (by decide)) (tgN (by decide)))
          have h51 := h51.mv im (nor (fmN (by decide)) (tgN (by decide))) (nor (fm0 hN) (tg0 hN))
          have bx5 := bx5.mv im (nor (fmN (by decide)) (tgN (by decide)))
          have h1 := h1.mono (im.le (nor (fm0 hN) (tg0 hN)))
          have h2 := h2.mono (im.le (nor (fm0 hN) (tg0 hN)))
          have mk0 := mk0.mv im (nor (fmN (by decide)) (tgN (by decide)))
          have m0 := m0.trans (im.weak fun _ e => by rcases e with e | e; (rw [e]; exact upF); (rw [e]; exact up))
          refine X.sub (e' := [(53, .int .i64 st104.1), (52, .int .i64 (p0.2.2.2.length : Int)), (51, .slice a3 p0.2.2.2.length c3), (9, .pointer (some ⟨b58, 0, none⟩)), (6, .slice a51 o49.length c51), (1, .pointer (some ⟨b5, 0, none⟩))]) ?_ (Sub.cons (ib 53 _ rfl) (Sub.cons (ib 52 _ rfl) (Sub.cons (ib 51 _ rfl) (Sub.cons (ib 9 _ rfl) (Sub.cons (ib 6 _ rfl) (Sub.cons (ib 1 _ rfl) Sub.nil))))))
          refine X.blkN ?_
          refine X.seqN ?_
          refine E.reg ?_
          refine L.bi Wt.no rfl rfl rfl rfl ?_
          refine L.mv Wt.no rfl rfl ?_
          refine L.nil ?_
          exact X.sub (ih104 _ (Option.some.inj hm).symm _ _ _ ⟨s555, m0, h3, h51, h1, h2, mp55, mk0, bx5, bx58, rfl, rfl⟩) (Sub.cons rfl (Sub.cons rfl (Sub.cons rfl (Sub.cons rfl (Sub.cons rfl (Sub.cons rfl Sub.nil))))))
      · refine E.cF rfl hc ?_
        refine E.exit ?_
        refine X.seqX ?_
        refine X.seqX ?_
        have hx := ho104 _ (Option.some.inj hm).symm
        subst hx
        exact X.sub (K518 _ _ _ ⟨s106, m0, h51, h1, h2, h3, mp55, mk0, bx5, bx58, rfl, rfl⟩) (Sub.cons rfl (Sub.cons rfl (Sub.cons rfl Sub.nil)))
    intro K556
    refine EiterM (fun (st49 : Int × List Bool × List Int) (e : List (Nat × Value)) (w : World) (ds : List Deferred) => ∃ (s52 : Sig) (a32 : Option Addr) (c32 : Nat), Mv (Up N No) s s52 ∧ RowT rB s52 (N + 3) 4 (some ⟨b26, 0, none⟩) x25.length st49.2.1 ∧ RowT (rK .i64) s52 (N + 4) 3 a32 c32 st49.2.2 ∧ RdL (rK .i64) s52 a1 c1 p0.1 ∧ RdL (rK .i64) s52 a2 c2 p0.2.2.1 ∧ RdL (rP (rK .i64) (rP (rK .i64) (rK .i64))) s52 a3 c3 p0.2.2.2 ∧ RdL (rK .i64) s52 a16 c16 r13.1.1 ∧ RdL (rK .i64) s52 a17 c17 r13.1.2.2.1 ∧ RdL (rP (rK .i64) (rP (rK .i64) (rK .i64))) s52 a18 c18 r13.1.2.2.2 ∧ RdL (rK .i64) s52 a19 c19 r13.2 ∧ Mks s52 (N + 0) ds ∧ Bx s52 (N + 1) b5 #[.slice a1 p0.1.length c1, .int .i64 p0.2.1, .slice a2 p0.2.2.1.length c2, .slice a3 p0.2.2.2.length c3] 31 ∧ Bx s52 (N + 2) b20 #[.slice a16 r13.1.1.length c16, .int .i64 r13.1.2.1, .slice a17 r13.1.2.2.1.length c17, .slice a18 r13.1.2.2.2.length c18, .slice a19 r13.2.length c19] 80 ∧ e = [(33, .int .i64 st49.1), (32, .int .i64 p0.2.1), (7, .slice (some ⟨b26, 0, none⟩) st49.2.1.length x25.length), (6, .slice a32 st49.2.2.length c32), (5, .pointer (some ⟨b20, 0, none⟩)), (1, .pointer (some ⟨b5, 0, none⟩))] ∧ w = s52.w) eo49 ⟨s27, none, 0, m0, h26, RowT.nil, h1, h2, h3, h16, h17, h18, h19, mk0, bx5, bx20, rfl, rfl⟩ (Sub.cons rfl (Sub.cons rfl (Sub.cons rfl (Sub.cons rfl (Sub.cons rfl (Sub.cons rfl Sub.nil)))))) ?_
    rintro st49 res49 hm ih49 ho49 _ _ ds ⟨s52, a32, c32, m0, h26, h32, h1, h2, h3, h16, h17, h18, h19, mk0, bx5, bx20, rfl, rfl⟩
    unfold m_reach_Components_l1 at hm
    refine E.seq ?_
    refine E.reg ?_
    refine L.bi Wt.no rfl rfl rfl rfl ?_
    refine L.nil ?_
    refine X.seqN ?_
    refine E.seq ?_
    rcases ifS hm with ⟨hc, hm⟩ | ⟨hc, hm⟩
    · refine E.cT rfl hc ?_
      refine E.skip ?_
      refine X.seqN ?_
      refine E.seqJM (fun e w ds => ∃ (s560 : Sig) (l557 : List Int) (l559 : List Bool) (a558 : Option Addr) (c558 : Nat), m_reach_Components_j2 st49 l557 l559 = some res49 ∧ Mv (Up N No) s s560 ∧ RowT (rK .i64) s560 (N + 4) 3 a558 c558 l557 ∧ RowT rB s560 (N + 3) 4 (some ⟨b26, 0, none⟩) x25.length l559 ∧ RdL (rK .i64) s560 a1 c1 p0.1 ∧ RdL (rK .i64) s560 a2 c2 p0.2.2.1 ∧ RdL (rP (rK .i64) (rP (rK .i64) (rK .i64))) s560 a3 c3 p0.2.2.2 ∧ RdL (rK .i64) s560 a16 c16 r13.1.1 ∧ RdL (rK .i64) s560 a17 c17 r13.1.2.2.1 ∧ RdL (rP (rK .i64) (rP (rK .i64) (rK .i64))) s560 a18 c18 r13.1.2.2.2 ∧ RdL (rK .i64) s560 a19 c19 r13.2 ∧ Mks s560 (N + 0) ds ∧ Bx s560 (N + 1) b5 #[.slice a1 p0.1.length c1, .int .i64 p0.2.1, .slice a2 p0.2.2.1.length c2, .slice a3 p0.2.2.2.length c3] 31 ∧ Bx s560 (N + 2) b20 #[.slice a16 r13.1.1.length c16, .int .i64 r13.1.2.1, .slice a17 r13.1.2.2.1.length c17, .slice a18 r13.1.2.2.2.length c18, .slice a19 r13.2.length c19] 80 ∧ e = [(6, .slice a558 l557.length c558), (7, .slice (some ⟨b26, 0, none⟩) l559.length x25.length), (33, .int .i64 st49.1), (32, .int .i64 p0.2.1), (5, .pointer (some ⟨b20, 0, none⟩)), (1, .pointer (some ⟨b5, 0, none⟩))] ∧ w = s560.w) ?_ ?_
      · rintro _ _ ds ⟨s560, l557, l559, a558, c558, hm, m0, h558, h26, h1, h2, h3, h16, h17, h18, h19, mk0, bx5, bx20, rfl, rfl⟩
        unfold m_reach_Components_j2 at hm
        refine E.reg ?_
        refine L.bi Wt.no rfl rfl rfl rfl ?_
        refine L.mv Wt.no rfl rfl ?_
        refine L.nil ?_
        exact X.sub (ih49 _ (Option.some.inj hm).symm _ _ _ ⟨s560, a558, c558, m0, h26, h558, h1, h2, h3, h16, h17, h18, h19, mk0, bx5, bx20, rfl, rfl⟩) (Sub.cons rfl (Sub.cons rfl (Sub.cons rfl (Sub.cons rfl (Sub.cons rfl (Sub.cons rfl Sub.nil))))))
      · intro Jj561
        refine E.block ?_
        refine E.seq ?_
        refine E.reg ?_
        refine L.mv Wt.no rfl rfl ?_
        refine L.as Wt.no rfl rfl ?_
        refine L.nil ?_
        refine X.seqN ?_
        refine E.seq ?_
        refine E.reg ?_
        refine L.mv Wt.no rfl rfl ?_
        refine L.mv Wt.no rfl rfl ?_
        obtain ⟨x562, ex562, hm⟩ := bindS hm
        refine L.ir (r := rB) sl86 h26 Wt.no rfl rfl ex562 rfl ?_
        rintro b563 o563 cc563 me563 rd563 sp563
        obtain rfl := rd563
        refine L.ld (j := 0) me563 nag4 Wt.no rfl rfl rfl rfl ?_
        refine L.not Wt.no rfl rfl ?_
        refine L.nil ?_
        refine X.seqN ?_
        rcases ifS hm with ⟨hc, hm⟩ | ⟨hc, hm⟩
        · refine E.cT rfl hc ?_
          refine E.reg ?_
          refine L.lg (j := 0) (cs := [.slice a16 r13.1.1.length c16, .int .i64 r13.1.2.1, .slice a17 r13.1.2.2.1.length c17, .slice a18 r13.1.2.2.2.length c18, .slice a19 r13.2.length c19]) bx20.mem ag80 Wt.no rfl rfl rfl rfl rfl ?_
          refine L.mv Wt.no rfl rfl ?_
          refine L.mv Wt.no rfl rfl ?_
          refine L.mv Wt.no rfl rfl ?_
          obtain ⟨r564, er564, hm⟩ := bindS hm
          refine L.ca (vs := [.agg #[.slice a16 r13.1.1.length c16, .int .i64 r13.1.2.1, .slice a17 r13.1.2.2.1.length c17, .slice a18 r13.1.2.2.2.length c18, .slice a19 r13.2.length c19], .int .i64 st49.1, .slice (some ⟨b26, 0, none⟩) st49.2.1.length x25.length, .slice a32 st49.2.2.length c32]) cf72 rfl rfl Wt.no rfl (m_reach_graph_finish_c (s := s52) (p0 := r13) (p1 := st49.1) (p2 := st49.2.1) (p3 := st49.2.2) (t2 := (N + 3)) (t3 := (N + 4)) (tne (by decide)) (tne (by decide)) (tpos hN) (tpos hN) h16 h17 h18 h19 h26 h32 er564) rfl ?_
          rintro _ s565 m566 ⟨a567, c567, rfl, h567, h26⟩
          obtain ⟨_, qz568, hm⟩ := bindS hm
          have elz568 := len_some qz568
          replace m0 := m0.trans (m566.weak fun _ e => by rcases e with e | e; (rw [e]; exact up); (rw [e]; exact up))
          replace mk0 := mk0.mv m566 (nor (tgN (by decide)) (tgN (by decide)))
          replace bx5 := bx5.mv m566 (nor (tgN (by decide)) (tgN (by decide)))
          replace h1 := h1.mono (m566.le (nor (tg0 hN) (tg0 hN)))
          replace h2 := h2.mono (m566.le (nor (tg0 hN) (tg0 hN)))
          replace h3 := h3.mono (m566.le (nor (tg0 hN) (tg0 hN)))
          replace bx20 := bx20.mv m566 (nor (tgN (by decide)) (tgN (by decide)))
          replace h16 := h16.mono (m566.le (nor (tg0 hN) (tg0 hN)))
          replace h17 := h17.mono (m566.le (nor (tg0 hN) (tg0 hN)))
          replace h18 := h18.mono (m566.le (nor (tg0 hN) (tg0 hN)))
          replace h19 := h19.mono (m566.le (nor (tg0 hN) (tg0 hN)))
          refine L.reval (d := 7) rfl elz568 ?_
          refine L.as Wt.no rfl rfl ?_
          refine L.nil ?_
          refine X.blkN ?_
          exact X.sub (Jj561 _ _ _ ⟨s565, r564.1, r564.2, a567, c567, hm, m0, h567, h26, h1, h2, h3, h16, h17, h18, h19, mk0, bx5, bx20, rfl, rfl⟩) (Sub.cons rfl (Sub.cons rfl (Sub.cons rfl (Sub.cons rfl (Sub.cons rfl (Sub.cons rfl Sub.nil))))))
        · refine E.cF rfl hc ?_
          refine E.skip ?_
          refine X.blkN ?_
          exact X.sub (Jj561 _ _ _ ⟨s52, st49.2.2, st49.2.1, a32, c32, hm, m0, h32, h26, h1, h2, h3, h16, h17, h18, h19, mk0, bx5, bx20, rfl, rfl⟩) (Sub.cons rfl (Sub.cons rfl (Sub.cons rfl (Sub.cons rfl (Sub.cons rfl (Sub.cons rfl Sub.nil))))))
    · refine E.cF rfl hc ?_
      refine E.exit ?_
      refine X.seqX ?_
      refine X.seqX ?_
      have hx := ho49 _ (Option.some.inj hm).symm
      subst hx
      exact X.sub (K556 _ _ _ ⟨s52, a32, c32, m0, h32, h1, h2, h3, mk0, bx5, rfl, rfl⟩) (Sub.cons rfl (Sub.cons rfl Sub.nil))

end Go.Proofs.Ythchkddhibhenaa

