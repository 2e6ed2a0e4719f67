/- Parts of the proof, without what nothing here names. -/
import Derived.Test.YthchkddhibhenaaProg
import Derived.Test.YthchkddhibhenaaQcn5
namespace Go.Proofs.Ythchkddhibhenaa
open Go Go.RowKit
noncomputable def m_overseerlaw04_same_l1 (p0 : List Int) (p1 : List Int) (st19 : Int) : Option (Int ⊕ (Unit ⊕ Unit)) :=
  if decide (st19 < (p0.length : Int)) then
    (idx p0 st19).bind fun x30 =>
    (idx p1 st19).bind fun x36 =>
    if (x30 != x36) then
      some (.inr (.inr (())))
    else
      some (.inl (W (st19 + 1)))
  else
    some (.inr (.inl ()))
/-- What overseerlaw04.same computes. -/
noncomputable def m_overseerlaw04_same (p0 : List Int) (p1 : List Int) : Option Bool :=
  if ((p0.length : Int) != (p1.length : Int)) then
    some false
  else
    (iter (m_overseerlaw04_same_l1 p0 p1) 0).bind fun o19 =>
    match o19 with
    | .inl u21 =>
      some true
    | .inr (u24) =>
      some false
set_option maxRecDepth 100000 in
set_option maxHeartbeats 8000000 in
theorem m_overseerlaw04_same_c {s : Sig} {p0 : List Int} {p1 : List Int} {a1 : Option Addr} {c1 : Nat} {a2 : Option Addr} {c2 : Nat} {r : Bool} (h1 : RdL (rK .i64) s a1 c1 p0) (h2 : RdL (rK .i64) s a2 c2 p1) (hm : m_overseerlaw04_same p0 p1 = some r) :
    Calls Try.prog 19 #[.slice a1 p0.length c1, .slice a2 p1.length c2] s.w (RetS No s fun v s' => v = .bool r) := by
  unfold m_overseerlaw04_same at hm
  obtain ⟨N, hN, hNb⟩ := s.fresh
  have m0 : Mv (Up N No) s s := Mv.refl _ _
  refine E.entry (vs := [.slice a1 p0.length c1, .slice a2 p1.length c2]) (e := [(0, .slice a1 p0.length c1), (1, .slice a2 p1.length c2)]) Try.func19 rfl Try.ntmps19 rfl rfl ?_
  refine E.seq ?_
  refine E.reg ?_
  refine L.as Wt.no rfl rfl ?_
  refine L.nil ?_
  refine X.seqN ?_
  refine E.seq ?_
  refine E.seq ?_
  refine E.reg ?_
  refine L.mv Wt.no rfl rfl ?_
  refine L.len sl28 Wt.no rfl rfl ?_
  refine L.mv Wt.no rfl rfl ?_
  refine L.len sl28 Wt.no rfl rfl ?_
  refine L.bi Wt.no rfl rfl rfl rfl ?_
  refine L.nil ?_
  refine X.seqN ?_
  rcases ifS hm with ⟨hc, hm⟩ | ⟨hc, hm⟩
  · refine E.cT rfl hc ?_
    refine E.seq ?_
    refine E.reg ?_
    refine L.as Wt.no rfl rfl ?_
    refine L.nil ?_
    refine X.seqN ?_
    refine E.ret ?_
    refine X.seqR ?_
    obtain rfl := Option.some.inj hm
    exact X.rt (.inl rfl) Try.results19 (Rs.tmp rfl Rs.nil) rfl ⟨_, (s).ren N (fun _ => 0), rfl, rfl, m0.ren hNb, rfl⟩
  · refine E.cF rfl hc ?_
    refine E.skip ?_
    refine X.seqN ?_
    refine E.seq ?_
    refine E.seq ?_
    refine E.reg ?_
    refine L.as Wt.no rfl rfl ?_
    refine L.nil ?_
    refine X.seqN ?_
    refine E.block ?_
    obtain ⟨o19, eo19, hm⟩ := bindS hm
    refine E.cut (x := .exit 0) (fun e w => ∃ (s22 : Sig) (u21 : Unit), o19 = .inl u21 ∧ Mv (Up N No) s s22 ∧ e = [] ∧ w = s22.w) ?_ ?_
    · rintro _ _ ⟨s22, u21, rfl, m0, rfl, rfl⟩
      dsimp only at hm
      refine X.blkE ?_
      refine X.seqN ?_
      refine E.seq ?_
      refine E.reg ?_
      refine L.as Wt.no rfl rfl ?_
      refine L.nil ?_
      refine X.seqN ?_
      refine E.ret ?_
      obtain rfl := Option.some.inj hm
      exact X.rt (.inl rfl) Try.results19 (Rs.tmp rfl Rs.nil) rfl ⟨_, (s22).ren N (fun _ => 0), rfl, rfl, m0.ren hNb, rfl⟩
    intro K23
    refine E.cut (x := .ret) (fun e w => ∃ (s25 : Sig) (u24 : Unit), o19 = .inr (u24) ∧ Mv (Up N No) s s25 ∧ e = [(4, .bool false)] ∧ w = s25.w) ?_ ?_
    · rintro _ _ ⟨s25, u24, rfl, m0, rfl, rfl⟩
      dsimp only at hm
      refine X.blkR ?_
      refine X.seqR ?_
      obtain rfl := Option.some.inj hm
      exact X.rt (.inl rfl) Try.results19 (Rs.tmp rfl Rs.nil) rfl ⟨_, (s25).ren N (fun _ => 0), rfl, rfl, m0.ren hNb, rfl⟩
    intro K26
    refine E.iter (fun (st19 : Int) (e : List (Nat × Value)) (w : World) => ∃ (s20 : Sig), Mv (Up N No) s s20 ∧ RdL (rK .i64) s20 a1 c1 p0 ∧ RdL (rK .i64) s20 a2 c2 p1 ∧ e = [(5, .int .i64 st19), (0, .slice a1 p0.length c1), (1, .slice a2 p1.length c2)] ∧ w = s20.w) eo19 ⟨s, m0, h1, h2, rfl, rfl⟩ (Sub.cons rfl (Sub.cons rfl (Sub.cons rfl Sub.nil))) ?_
    rintro st19 res19 hm ih19 ho19 _ _ ⟨s20, m0, h1, h2, rfl, rfl⟩
    unfold m_overseerlaw04_same_l1 at hm
    refine E.seq ?_
    refine E.seq ?_
    refine E.reg ?_
    refine L.mv Wt.no rfl rfl ?_
    refine L.mv Wt.no rfl rfl ?_
    refine L.len sl28 Wt.no rfl rfl ?_
    refine L.bi Wt.no rfl rfl rfl rfl ?_
    refine L.nil ?_
    refine X.seqN ?_
    rcases ifS hm with ⟨hc, hm⟩ | ⟨hc, hm⟩
    · refine E.cT rfl hc ?_
      refine E.skip ?_
      refine X.seqN ?_
      refine E.seq ?_
      refine E.block ?_
      refine E.seq ?_
      obtain ⟨x30, ex30, hm⟩ := bindS hm
      obtain ⟨x36, ex36, hm⟩ := bindS hm
      refine E.draw [[], [], [0, 1], [0, 1, 2], [], [], [4, 5], [4, 5, 6], [0, 1, 2, 3, 4, 5, 6, 7]] (fun D e sx => Mv No s20 sx ∧ Sub [(5, .int .i64 st19), (0, .slice a1 p0.length c1), (1, .slice a2 p1.length c2)] e ∧ AllP [D 0 = true → (Env.get e 17 = some (.slice a1 p0.length c1)), D 1 = true → (Env.get e 18 = some (.int .i64 st19)), D 2 = true → (∃ (b31 : Nat) (o31 : Nat), Env.get e 19 = some (.pointer (some ⟨b31, o31, none⟩)) ∧ Mem sx 0 b31 o31 [.int .i64 x30]), D 3 = true → (Env.get e 20 = some (.int .i64 x30)), D 4 = true → (Env.get e 21 = some (.slice a2 p1.length c2)), D 5 = true → (Env.get e 22 = some (.int .i64 st19)), D 6 = true → (∃ (b37 : Nat) (o37 : Nat), Env.get e 23 = some (.pointer (some ⟨b37, o37, none⟩)) ∧ Mem sx 0 b37 o37 [.int .i64 x36]), D 7 = true → (Env.get e 24 = some (.int .i64 x36)), D 8 = true → (Env.get e 25 = some (.bool (x30 != x36)))]) (by kernel_rfl) (by kernel_rfl) (by kernel_rfl) ?_ ?_ ?_
      · intro sz mz
        exact ⟨mz, (Sub.cons rfl (Sub.cons rfl (Sub.cons rfl Sub.nil))), nofun, nofun, nofun, nofun, nofun, nofun, nofun, nofun, nofun, trivial⟩
      · refine ⟨?_, ?_, ?_, ?_, ?_, ?_, ?_, ?_, ?_, trivial⟩
        · rintro D e s27 ⟨im, ib, i⟩ hk hf ha
          have kn : Kn e [(0, .slice a1 p0.length c1)] := ⟨(ib 0 _ rfl), trivial⟩
          refine L.kns _ kn ?_
          refine L.mv Wt.no rfl rfl ?_
          refine L.nil ?_
          exact X.dk kn ⟨im, Sub.fresh ib rfl, i.u 0 (fun _ => rfl)⟩
        · rintro D e s28 ⟨im, ib, i⟩ hk hf ha
          have kn : Kn e [(5, .int .i64 st19)] := ⟨(ib 5 _ rfl), trivial⟩
          refine L.kns _ kn ?_
          refine L.mv Wt.no rfl rfl ?_
          refine L.nil ?_
          exact X.dk kn ⟨im, Sub.fresh ib rfl, i.u 1 (fun _ => rfl)⟩
        · rintro D e s29 ⟨im, ib, i⟩ hk hf ha
          have g0_ := (i.p 0) (ha.at 0 rfl)
          have g1_ := (i.p 1) (ha.at 1 rfl)
          have h1 := h1.mono (im.le no_No)
          have kn : Kn e [(17, .slice a1 p0.length c1), (18, .int .i64 st19)] := ⟨g0_, g1_, trivial⟩
          refine L.kns _ kn ?_
          refine L.ix (r := (rK .i64)) sl28 h1 Wt.no rfl rfl ex30 rfl ?_
          rintro b31 o31 cc31 me31 rd31
          obtain rfl := rd31
          refine L.nil ?_
          exact X.dk kn ⟨im, Sub.fresh ib rfl, i.u 2 (fun _ => ⟨b31, o31, rfl, me31⟩)⟩
        · rintro D e s32 ⟨im, ib, i⟩ hk hf ha
          obtain ⟨b31, o31, g2_, me31⟩ := (i.p 2) (ha.at 2 rfl)
          have kn : Kn e [(19, .pointer (some ⟨b31, o31, none⟩))] := ⟨g2_, trivial⟩
          refine L.kns _ kn ?_
          refine L.ld (j := 0) me31 nag3 Wt.no rfl rfl rfl rfl ?_
          refine L.nil ?_
          exact X.dk kn ⟨im, Sub.fresh ib rfl, i.u 3 (fun _ => rfl)⟩
        · rintro D e s33 ⟨im, ib, i⟩ hk hf ha
          have kn : Kn e [(1, .slice a2 p1.length c2)] := ⟨(ib 1 _ rfl), trivial⟩
          refine L.kns _ kn ?_
          refine L.mv Wt.no rfl rfl ?_
          refine L.nil ?_
          exact X.dk kn ⟨im, Sub.fresh ib rfl, i.u 4 (fun _ => rfl)⟩
        · rintro D e s34 ⟨im, ib, i⟩ hk hf ha
          have kn : Kn e [(5, .int .i64 st19)] := ⟨(ib 5 _ rfl), trivial⟩
          refine L.kns _ kn ?_
          refine L.mv Wt.no rfl rfl ?_
          refine L.nil ?_
          exact X.dk kn ⟨im, Sub.fresh ib rfl, i.u 5 (fun _ => rfl)⟩
        · rintro D e s35 ⟨im, ib, i⟩ hk hf ha
          have g4_ := (i.p 4) (ha.at 4 rfl)
          have g5_ := (i.p 5) (ha.at 5 rfl)
          have h2 := h2.mono (im.le no_No)
          have kn : Kn e [(21, .slice a2 p1.length c2), (22, .int .i64 st19)] := ⟨g4_, g5_, trivial⟩
          refine L.kns _ kn ?_
          refine L.ix (r := (rK .i64)) sl28 h2 Wt.no rfl rfl ex36 rfl ?_
          rintro b37 o37 cc37 me37 rd37
          obtain rfl := rd37
          refine L.nil ?_
          exact X.dk kn ⟨im, Sub.fresh ib rfl, i.u 6 (fun _ => ⟨b37, o37, rfl, me37⟩)⟩
        · rintro D e s38 ⟨im, ib, i⟩ hk hf ha
          obtain ⟨b37, o37, g6_, me37⟩ := (i.p 6) (ha.at 6 rfl)
          have kn : Kn e [(23, .pointer (some ⟨b37, o37, none⟩))] := ⟨g6_, trivial⟩
          refine L.kns _ kn ?_
          refine L.ld (j := 0) me37 nag3 Wt.no rfl rfl rfl rfl ?_
          refine L.nil ?_
          exact X.dk kn ⟨im, Sub.fresh ib rfl, i.u 7 (fun _ => rfl)⟩
        · rintro D e s39 ⟨im, ib, i⟩ hk hf ha
          have g3_ := (i.p 3) (ha.at 3 rfl)
          have g7_ := (i.p 7) (ha.at 7 rfl)
          have kn : Kn e [(20, .int .i64 x30), (24, .int .i64 x36)] := ⟨g3_, g7_, trivial⟩
          refine L.kns _ kn ?_
          refine L.bi Wt.no rfl rfl rfl rfl ?_
          refine L.nil ?_
          exact X.dk kn ⟨im, Sub.fresh ib rfl, i.u 8 (fun _ => rfl)⟩
      · rintro D e s40 hD ⟨im, ib, i⟩
        have g8_ := (i.p 8) (hD 8 rfl)
        have h1 := h1.mono (im.le no_No)
        have h2 := h2.mono (im.le no_No)
        have m0 := m0.trans im.no
        refine X.sub (e' := [(25, .bool (x30 != x36)), (5, .int .i64 st19), (0, .slice a1 p0.length c1), (1, .slice a2 p1.length c2)]) ?_ (Sub.cons g8_ (Sub.cons (ib 5 _ rfl) (Sub.cons (ib 0 _ rfl) (Sub.cons (ib 1 _ rfl) Sub.nil))))
        refine X.seqN ?_
        rcases ifS hm with ⟨hc, hm⟩ | ⟨hc, hm⟩
        · refine E.cT rfl hc ?_
          refine E.seq ?_
          refine E.reg ?_
          refine L.as Wt.no rfl rfl ?_
          refine L.nil ?_
          refine X.seqN ?_
          refine E.ret ?_
          refine X.blkR ?_
          refine X.seqR ?_
          refine X.seqR ?_
          have hx := ho19 _ (Option.some.inj hm).symm
          exact X.sub (K26 _ _ ⟨s40, (), hx.symm, m0, rfl, rfl⟩) (Sub.cons rfl Sub.nil)
        · refine E.cF rfl hc ?_
          refine E.skip ?_
          refine X.blkN ?_
          refine X.seqN ?_
          refine E.reg ?_
          refine L.mv Wt.no rfl rfl ?_
          refine L.bi Wt.no rfl rfl rfl rfl ?_
          refine L.as Wt.no rfl rfl ?_
          refine L.nil ?_
          exact X.sub (ih19 _ (Option.some.inj hm).symm _ _ ⟨s40, m0, h1, h2, rfl, rfl⟩) (Sub.cons rfl (Sub.cons rfl (Sub.cons rfl Sub.nil)))
    · refine E.cF rfl hc ?_
      refine E.exit ?_
      refine X.seqX ?_
      refine X.seqX ?_
      have hx := ho19 _ (Option.some.inj hm).symm
      exact X.sub (K23 _ _ ⟨s20, (), hx.symm, m0, rfl, rfl⟩) Sub.nil

theorem cf19 : Cf Try.prog 19 := Cf.mk Try.func19 (by kernel_rfl) (by kernel_rfl)
noncomputable def m_overseerlaw04_equal_l1 (p0 : List Int × Int × List Int × (List (Int × Int × Int))) (p1 : List Int × Int × List Int × (List (Int × Int × Int))) (st39 : Int) : Option (Int ⊕ (Unit ⊕ Unit)) :=
  if decide (st39 < (p0.2.2.2.length : Int)) then
    (idx p0.2.2.2 st39).bind fun x51 =>
    (idx p1.2.2.2 st39).bind fun x58 =>
    if (!(x51.1 == x58.1 && (x51.2.1 == x58.2.1 && (x51.2.2 == x58.2.2 && true)))) then
      some (.inr (.inr (())))
    else
      some (.inl (W (st39 + 1)))
  else
    some (.inr (.inl ()))
/-- What overseerlaw04.equal computes. -/
noncomputable def m_overseerlaw04_equal (p0 : List Int × Int × List Int × (List (Int × Int × Int))) (p1 : List Int × Int × List Int × (List (Int × Int × Int))) : Option Bool :=
  (m_overseerlaw04_same p0.1 p1.1).bind fun r13 =>
  (if ((!r13) || (p0.2.1 != p1.2.1)) then
    some true
  else
    (m_overseerlaw04_same p0.2.2.1 p1.2.2.1).bind fun r65 =>
    some (!r65)).bind fun b17 =>
  if (b17 || ((p0.2.2.2.length : Int) != (p1.2.2.2.length : Int))) then
    some false
  else
    (iter (m_overseerlaw04_equal_l1 p0 p1) 0).bind fun o39 =>
    match o39 with
    | .inl u41 =>
      some true
    | .inr (u44) =>
      some false
set_option maxRecDepth 100000 in
set_option maxHeartbeats 8000000 in
theorem m_overseerlaw04_equal_c {s : Sig} {p0 : List Int × Int × List Int × (List (Int × Int × Int))} {p1 : List Int × Int × List Int × (List (Int × Int × Int))} {a1 : Option Addr} {c1 : Nat} {a2 : Option Addr} {c2 : Nat} {a3 : Option Addr} {c3 : Nat} {a4 : Option Addr} {c4 : Nat} {a5 : Option Addr} {c5 : Nat} {a6 : Option Addr} {c6 : Nat} {r : Bool} (h1 : RdL (rK .i64) s a1 c1 p0.1) (h2 : RdL (rK .i64) s a2 c2 p0.2.2.1) (h3 : RdL (rP (rK .i64) (rP (rK .i64) (rK .i64))) s a3 c3 p0.2.2.2) (h4 : RdL (rK .i64) s a4 c4 p1.1) (h5 : RdL (rK .i64) s a5 c5 p1.2.2.1) (h6 : RdL (rP (rK .i64) (rP (rK .i64) (rK .i64))) s a6 c6 p1.2.2.2) (hm : m_overseerlaw04_equal p0 p1 = some r) :
    Calls Try.prog 35 #[.agg #[.slice a1 p0.1.length c1, .int .i64 p0.2.1, .slice a2 p0.2.2.1.length c2, .slice a3 p0.2.2.2.length c3], .agg #[.slice a4 p1.1.length c4, .int .i64 p1.2.1, .slice a5 p1.2.2.1.length c5, .slice a6 p1.2.2.2.length c6]] s.w (RetS No s fun v s' => v = .bool r) := by
  unfold m_overseerlaw04_equal at hm
  obtain ⟨N, hN, hNb⟩ := s.fresh
  have m0 : Mv (Up N No) s s := Mv.refl _ _
  refine E.entry (vs := [.agg #[.slice a1 p0.1.length c1, .int .i64 p0.2.1, .slice a2 p0.2.2.1.length c2, .slice a3 p0.2.2.2.length c3], .agg #[.slice a4 p1.1.length c4, .int .i64 p1.2.1, .slice a5 p1.2.2.1.length c5, .slice a6 p1.2.2.2.length c6]]) (e := [(0, .agg #[.slice a1 p0.1.length c1, .int .i64 p0.2.1, .slice a2 p0.2.2.1.length c2, .slice a3 p0.2.2.2.length c3]), (1, .agg #[.slice a4 p1.1.length c4, .int .i64 p1.2.1, .slice a5 p1.2.2.1.length c5, .slice a6 p1.2.2.2.length c6])]) Try.func35 rfl Try.ntmps35 rfl rfl ?_
  refine E.seq ?_
  refine E.reg ?_
  refine L.box (N + 0) Wt.no rfl rfl rfl ?_
  intro b7 s8 m9 bx7
  replace m0 := m0.trans m9.no
  replace h4 := h4.mono (m9.le no_No)
  replace h5 := h5.mono (m9.le no_No)
  replace h6 := h6.mono (m9.le no_No)
  replace h1 := h1.mono (m9.le no_No)
  replace h2 := h2.mono (m9.le no_No)
  replace h3 := h3.mono (m9.le no_No)
  refine L.box (N + 1) Wt.no rfl rfl rfl ?_
  intro b10 s11 m12 bx10
  replace m0 := m0.trans m12.no
  replace bx7 := bx7.mv m12 no_No
  replace h1 := h1.mono (m12.le no_No)
  replace h2 := h2.mono (m12.le no_No)
  replace h3 := h3.mono (m12.le no_No)
  replace h4 := h4.mono (m12.le no_No)
  replace h5 := h5.mono (m12.le no_No)
  replace h6 := h6.mono (m12.le no_No)
  refine L.as Wt.no rfl rfl ?_
  refine L.nil ?_
  refine X.seqN ?_
  refine E.seq ?_
  refine E.seq ?_
  refine E.reg ?_
  refine L.fa fa31_0 Wt.no rfl rfl ?_
  refine L.ld (j := 0) bx7.mem nag28 Wt.no rfl rfl rfl rfl ?_
  refine L.fa fa31_0 Wt.no rfl rfl ?_
  refine L.ld (j := 0) bx10.mem nag28 Wt.no rfl rfl rfl rfl ?_
  obtain ⟨r13, er13, hm⟩ := bindS hm
  refine L.ca (vs := [.slice a1 p0.1.length c1, .slice a4 p1.1.length c4]) cf19 rfl rfl Wt.no rfl (m_overseerlaw04_same_c (s := s11) (p0 := p0.1) (p1 := p1.1) h1 h4 er13) rfl ?_
  rintro _ s14 m15 rfl
  replace m0 := m0.trans m15.no
  replace bx7 := bx7.mv m15 no_No
  replace h1 := h1.mono (m15.le no_No)
  replace h2 := h2.mono (m15.le no_No)
  replace h3 := h3.mono (m15.le no_No)
  replace bx10 := bx10.mv m15 no_No
  replace h4 := h4.mono (m15.le no_No)
  replace h5 := h5.mono (m15.le no_No)
  replace h6 := h6.mono (m15.le no_No)
  refine L.not Wt.no rfl rfl ?_
  refine L.mv Wt.no rfl rfl ?_
  refine L.cut 6 (fun e w => ∃ (v16 : Bool), ((!r13) || (p0.2.1 != p1.2.1)) = v16 ∧ e = (18, .bool v16) :: [(3, .pointer (some ⟨b10, 0, none⟩)), (2, .pointer (some ⟨b7, 0, none⟩))] ∧ w = s14.w) ?_ ?_
  · rintro _ _ ⟨v16, rfl, rfl, rfl⟩
    refine L.mv Wt.no rfl rfl ?_
    obtain ⟨b17, eb17, hm⟩ := bindS hm
    refine L.cut 7 (fun e w => ∃ (s19 : Sig) (v18 : Bool), b17 = v18 ∧ Mv (Up N No) s s19 ∧ RdL (rK .i64) s19 a1 c1 p0.1 ∧ RdL (rK .i64) s19 a2 c2 p0.2.2.1 ∧ RdL (rP (rK .i64) (rP (rK .i64) (rK .i64))) s19 a3 c3 p0.2.2.2 ∧ RdL (rK .i64) s19 a4 c4 p1.1 ∧ RdL (rK .i64) s19 a5 c5 p1.2.2.1 ∧ RdL (rP (rK .i64) (rP (rK .i64) (rK .i64))) s19 a6 c6 p1.2.2.2 ∧ Bx s19 (N + 0) b7 #[.slice a1 p0.1.length c1, .int .i64 p0.2.1, .slice a2 p0.2.2.1.length c2, .slice a3 p0.2.2.2.length c3] 31 ∧ Bx s19 (N + 1) b10 #[.slice a4 p1.1.length c4, .int .i64 p1.2.1, .slice a5 p1.2.2.1.length c5, .slice a6 p1.2.2.2.length c6] 31 ∧ e = (26, .bool v18) :: [(3, .pointer (some ⟨b10, 0, none⟩)), (2, .pointer (some ⟨b7, 0, none⟩))] ∧ w = s19.w) ?_ ?_
    · rintro _ _ ⟨s19, v18, rfl, m0, h1, h2, h3, h4, h5, h6, bx7, bx10, rfl, rfl⟩
      refine L.mv Wt.no rfl rfl ?_
      refine L.cut 8 (fun e w => ∃ (v20 : Bool), (b17 || ((p0.2.2.2.length : Int) != (p1.2.2.2.length : Int))) = v20 ∧ e = (35, .bool v20) :: [(3, .pointer (some ⟨b10, 0, none⟩)), (2, .pointer (some ⟨b7, 0, none⟩))] ∧ w = s19.w) ?_ ?_
      · rintro _ _ ⟨v20, rfl, rfl, rfl⟩
        refine L.nil ?_
        refine X.seqN ?_
        rcases ifS hm with ⟨hc, hm⟩ | ⟨hc, hm⟩
        · refine E.cT rfl hc ?_
          refine E.seq ?_
          refine E.reg ?_
          refine L.as Wt.no rfl rfl ?_
          refine L.nil ?_
          refine X.seqN ?_
          refine E.ret ?_
          refine X.seqR ?_
          obtain rfl := Option.some.inj hm
          exact X.rt (.inl rfl) Try.results35 (Rs.tmp rfl Rs.nil) rfl ⟨_, (s19).ren N (fun _ => 0), rfl, rfl, m0.ren hNb, rfl⟩
        · refine E.cF rfl hc ?_
          refine E.skip ?_
          refine X.seqN ?_
          refine E.seq ?_
          refine E.seq ?_
          refine E.reg ?_
          refine L.as Wt.no rfl rfl ?_
          refine L.nil ?_
          refine X.seqN ?_
          refine E.block ?_
          obtain ⟨o39, eo39, hm⟩ := bindS hm
          refine E.cut (x := .exit 0) (fun e w => ∃ (s42 : Sig) (u41 : Unit), o39 = .inl u41 ∧ Mv (Up N No) s s42 ∧ e = [] ∧ w = s42.w) ?_ ?_
          · rintro _ _ ⟨s42, u41, rfl, m0, rfl, rfl⟩
            dsimp only at hm
            refine X.blkE ?_
            refine X.seqN ?_
            refine E.seq ?_
            refine E.reg ?_
            refine L.as Wt.no rfl rfl ?_
            refine L.nil ?_
            refine X.seqN ?_
            refine E.ret ?_
            obtain rfl := Option.some.inj hm
            exact X.rt (.inl rfl) Try.results35 (Rs.tmp rfl Rs.nil) rfl ⟨_, (s42).ren N (fun _ => 0), rfl, rfl, m0.ren hNb, rfl⟩
          intro K43
          refine E.cut (x := .ret) (fun e w => ∃ (s45 : Sig) (u44 : Unit), o39 = .inr (u44) ∧ Mv (Up N No) s s45 ∧ e = [(4, .bool false)] ∧ w = s45.w) ?_ ?_
          · rintro _ _ ⟨s45, u44, rfl, m0, rfl, rfl⟩
            dsimp only at hm
            refine X.blkR ?_
            refine X.seqR ?_
            obtain rfl := Option.some.inj hm
            exact X.rt (.inl rfl) Try.results35 (Rs.tmp rfl Rs.nil) rfl ⟨_, (s45).ren N (fun _ => 0), rfl, rfl, m0.ren hNb, rfl⟩
          intro K46
          refine E.iter (fun (st39 : Int) (e : List (Nat × Value)) (w : World) => ∃ (s40 : Sig), Mv (Up N No) s s40 ∧ RdL (rK .i64) s40 a1 c1 p0.1 ∧ RdL (rK .i64) s40 a2 c2 p0.2.2.1 ∧ RdL (rP (rK .i64) (rP (rK .i64) (rK .i64))) s40 a3 c3 p0.2.2.2 ∧ RdL (rK .i64) s40 a4 c4 p1.1 ∧ RdL (rK .i64) s40 a5 c5 p1.2.2.1 ∧ RdL (rP (rK .i64) (rP (rK .i64) (rK .i64))) s40 a6 c6 p1.2.2.2 ∧ Bx s40 (N + 0) b7 #[.slice a1 p0.1.length c1, .int .i64 p0.2.1, .slice a2 p0.2.2.1.length c2, .slice a3 p0.2.2.2.length c3] 31 ∧ Bx s40 (N + 1) b10 #[.slice a4 p1.1.length c4, .int .i64 p1.2.1, .slice a5 p1.2.2.1.length c5, .slice a6 p1.2.2.2.length c6] 31 ∧ e = [(5, .int .i64 st39), (3, .pointer (some ⟨b10, 0, none⟩)), (2, .pointer (some ⟨b7, 0, none⟩))] ∧ w = s40.w) eo39 ⟨s19, m0, h1, h2, h3, h4, h5, h6, bx7, bx10, rfl, rfl⟩ (Sub.cons rfl (Sub.cons rfl (Sub.cons rfl Sub.nil))) ?_
          rintro st39 res39 hm ih39 ho39 _ _ ⟨s40, m0, h1, h2, h3, h4, h5, h6, bx7, bx10, rfl, rfl⟩
          unfold m_overseerlaw04_equal_l1 at hm
          refine E.seq ?_
          refine E.seq ?_
          refine E.reg ?_
          refine L.mv Wt.no rfl rfl ?_
          refine L.fa fa31_3 Wt.no rfl rfl ?_
          refine L.ld (j := 3) bx7.mem nag29 Wt.no rfl rfl rfl rfl ?_
          refine L.len sl29 Wt.no rfl rfl ?_
          refine L.bi Wt.no rfl rfl rfl rfl ?_
          refine L.nil ?_
          refine X.seqN ?_
          rcases ifS hm with ⟨hc, hm⟩ | ⟨hc, hm⟩
          · refine E.cT rfl hc ?_
            refine E.skip ?_
            refine X.seqN ?_
            refine E.seq ?_
            refine E.block ?_
            refine E.seq ?_
            obtain ⟨x51, ex51, hm⟩ := bindS hm
            obtain ⟨x58, ex58, hm⟩ := bindS hm
            refine E.draw [[], [0], [], [0, 1, 2], [0, 1, 2, 3], [], [5], [], [5, 6, 7], [5, 6, 7, 8], [0, 1, 2, 3, 4, 5, 6, 7, 8, 9]] (fun D e sx => Mv No s40 sx ∧ Sub [(5, .int .i64 st39), (3, .pointer (some ⟨b10, 0, none⟩)), (2, .pointer (some ⟨b7, 0, none⟩))] e ∧ AllP [D 0 = true → (Env.get e 43 = some (.pointer (some ⟨b7, 3, none⟩))), D 1 = true → (Env.get e 44 = some (.slice a3 p0.2.2.2.length c3)), D 2 = true → (Env.get e 45 = some (.int .i64 st39)), D 3 = true → (∃ (b52 : Nat) (o52 : Nat), Env.get e 46 = some (.pointer (some ⟨b52, o52, none⟩)) ∧ Mem sx 0 b52 o52 [.int .i64 x51.1, .int .i64 x51.2.1, .int .i64 x51.2.2]), D 4 = true → (Env.get e 47 = some (.agg #[.int .i64 x51.1, .int .i64 x51.2.1, .int .i64 x51.2.2])), D 5 = true → (Env.get e 48 = some (.pointer (some ⟨b10, 3, none⟩))), D 6 = true → (Env.get e 49 = some (.slice a6 p1.2.2.2.length c6)), D 7 = true → (Env.get e 50 = some (.int .i64 st39)), D 8 = true → (∃ (b59 : Nat) (o59 : Nat), Env.get e 51 = some (.pointer (some ⟨b59, o59, none⟩)) ∧ Mem sx 0 b59 o59 [.int .i64 x58.1, .int .i64 x58.2.1, .int .i64 x58.2.2]), D 9 = true → (Env.get e 52 = some (.agg #[.int .i64 x58.1, .int .i64 x58.2.1, .int .i64 x58.2.2])), D 10 = true → (Env.get e 53 = some (.bool (!(x51.1 == x58.1 && (x51.2.1 == x58.2.1 && (x51.2.2 == x58.2.2 && true))))))]) (by kernel_rfl) (by kernel_rfl) (by kernel_rfl) ?_ ?_ ?_
            · intro sz mz
              exact ⟨mz, (Sub.cons rfl (Sub.cons rfl (Sub.cons rfl Sub.nil))), nofun, nofun, nofun, nofun, nofun, nofun, nofun, nofun, nofun, nofun, nofun, trivial⟩
            · refine ⟨?_, ?_, ?_, ?_, ?_, ?_, ?_, ?_, ?_, ?_, ?_, trivial⟩
              · rintro D e s47 ⟨im, ib, i⟩ hk hf ha
                have kn : Kn e [(2, .pointer (some ⟨b7, 0, none⟩))] := ⟨(ib 2 _ rfl), trivial⟩
                refine L.kns _ kn ?_
                refine L.fa fa31_3 Wt.no rfl rfl ?_
                refine L.nil ?_
                exact X.dk kn ⟨im, Sub.fresh ib rfl, i.u 0 (fun _ => rfl)⟩
              · rintro D e s48 ⟨im, ib, i⟩ hk hf ha
                have g0_ := (i.p 0) (ha.at 0 rfl)
                have bx7 := bx7.mv im no_No
                have kn : Kn e [(43, .pointer (some ⟨b7, 3, none⟩))] := ⟨g0_, trivial⟩
                refine L.kns _ kn ?_
                refine L.ld (j := 3) bx7.mem nag29 Wt.no rfl rfl rfl rfl ?_
                refine L.nil ?_
                exact X.dk kn ⟨im, Sub.fresh ib rfl, i.u 1 (fun _ => rfl)⟩
              · rintro D e s49 ⟨im, ib, i⟩ hk hf ha
                have kn : Kn e [(5, .int .i64 st39)] := ⟨(ib 5 _ rfl), trivial⟩
                refine L.kns _ kn ?_
                refine L.mv Wt.no rfl rfl ?_
                refine L.nil ?_
                exact X.dk kn ⟨im, Sub.fresh ib rfl, i.u 2 (fun _ => rfl)⟩
              · rintro D e s50 ⟨im, ib, i⟩ hk hf ha
                have g1_ := (i.p 1) (ha.at 1 rfl)
                have g2_ := (i.p 2) (ha.at 2 rfl)
                have h3 := h3.mono (im.le no_No)
                have kn : Kn e [(44, .slice a3 p0.2.2.2.length c3), (45, .int .i64 st39)] := ⟨g1_, g2_, trivial⟩
                refine L.kns _ kn ?_
                refine L.ix (r := (rP (rK .i64) (rP (rK .i64) (rK .i64)))) sl29 h3 Wt.no rfl rfl ex51 rfl ?_
                rintro b52 o52 cc52 me52 rd52
                obtain ⟨_, _, rfl, rfl, ⟨_, _, rfl, rfl, rfl⟩⟩ := rd52
                refine L.nil ?_
                exact X.dk kn ⟨im, Sub.fresh ib rfl, i.u 3 (fun _ => ⟨b52, o52, rfl, me52⟩)⟩
              · rintro D e s53 ⟨im, ib, i⟩ hk hf ha
                obtain ⟨b52, o52, g3_, me52⟩ := (i.p 3) (ha.at 3 rfl)
                have kn : Kn e [(46, .pointer (some ⟨b52, o52, none⟩))] := ⟨g3_, trivial⟩
                refine L.kns _ kn ?_
                refine L.lg (j := 0) (cs := [.int .i64 x51.1, .int .i64 x51.2.1, .int .i64 x51.2.2]) me52 ag45 Wt.no rfl rfl rfl rfl rfl ?_
                refine L.nil ?_
                exact X.dk kn ⟨im, Sub.fresh ib rfl, i.u 4 (fun _ => rfl)⟩
              · rintro D e s54 ⟨im, ib, i⟩ hk hf ha
                have kn : Kn e [(3, .pointer (some ⟨b10, 0, none⟩))] := ⟨(ib 3 _ rfl), trivial⟩
                refine L.kns _ kn ?_
                refine L.fa fa31_3 Wt.no rfl rfl ?_
                refine L.nil ?_
                exact X.dk kn ⟨im, Sub.fresh ib rfl, i.u 5 (fun _ => rfl)⟩
              · rintro D e s55 ⟨im, ib, i⟩ hk hf ha
                have g5_ := (i.p 5) (ha.at 5 rfl)
                have bx10 := bx10.mv im no_No
                have kn : Kn e [(48, .pointer (some ⟨b10, 3, none⟩))] := ⟨g5_, trivial⟩
                refine L.kns _ kn ?_
                refine L.ld (j := 3) bx10.mem nag29 Wt.no rfl rfl rfl rfl ?_
                refine L.nil ?_
                exact X.dk kn ⟨im, Sub.fresh ib rfl, i.u 6 (fun _ => rfl)⟩
              · rintro D e s56 ⟨im, ib, i⟩ hk hf ha
                have kn : Kn e [(5, .int .i64 st39)] := ⟨(ib 5 _ rfl), trivial⟩
                refine L.kns _ kn ?_
                refine L.mv Wt.no rfl rfl ?_
                refine L.nil ?_
                exact X.dk kn ⟨im, Sub.fresh ib rfl, i.u 7 (fun _ => rfl)⟩
              · rintro D e s57 ⟨im, ib, i⟩ hk hf ha
                have g6_ := (i.p 6) (ha.at 6 rfl)
                have g7_ := (i.p 7) (ha.at 7 rfl)
                have h6 := h6.mono (im.le no_No)
                have kn : Kn e [(49, .slice a6 p1.2.2.2.length c6), (50, .int .i64 st39)] := ⟨g6_, g7_, trivial⟩
                refine L.kns _ kn ?_
                refine L.ix (r := (rP (rK .i64) (rP (rK .i64) (rK .i64)))) sl29 h6 Wt.no rfl rfl ex58 rfl ?_
                rintro b59 o59 cc59 me59 rd59
                obtain ⟨_, _, rfl, rfl, ⟨_, _, rfl, rfl, rfl⟩⟩ := rd59
                refine L.nil ?_
                exact X.dk kn ⟨im, Sub.fresh ib rfl, i.u 8 (fun _ => ⟨b59, o59, rfl, me59⟩)⟩
              · rintro D e s60 ⟨im, ib, i⟩ hk hf ha
                obtain ⟨b59, o59, g8_, me59⟩ := (i.p 8) (ha.at 8 rfl)
                have kn : Kn e [(51, .pointer (some ⟨b59, o59, none⟩))] := ⟨g8_, trivial⟩
                refine L.kns _ kn ?_
                refine L.lg (j := 0) (cs := [.int .i64 x58.1, .int .i64 x58.2.1, .int .i64 x58.2.2]) me59 ag45 Wt.no rfl rfl rfl rfl rfl ?_
                refine L.nil ?_
                exact X.dk kn ⟨im, Sub.fresh ib rfl, i.u 9 (fun _ => rfl)⟩
              · rintro D e s61 ⟨im, ib, i⟩ hk hf ha
                have g4_ := (i.p 4) (ha.at 4 rfl)
                have g9_ := (i.p 9) (ha.at 9 rfl)
                have kn : Kn e [(47, .agg #[.int .i64 x51.1, .int .i64 x51.2.1, .int .i64 x51.2.2]), (52, .agg #[.int .i64 x58.1, .int .i64 x58.2.1, .int .i64 x58.2.2])] := ⟨g4_, g9_, trivial⟩
                refine L.kns _ kn ?_
                refine L.nes (us := [.int .i64 x51.1, .int .i64 x51.2.1, .int .i64 x51.2.2]) (vs := [.int .i64 x58.1, .int .i64 x58.2.1, .int .i64 x58.2.2]) (b := (x51.1 == x58.1 && (x51.2.1 == x58.2.1 && (x51.2.2 == x58.2.2 && true)))) (Eqs.mk Try.underlying45 (by kernel_rfl) fun w => (eqField_cons rfl nag3.agg nag3.sz rfl rfl (run_equalIn_int _ _ _ _ _ _ _ Try.underlying3) (eqField_cons rfl nag3.agg nag3.sz rfl rfl (run_equalIn_int _ _ _ _ _ _ _ Try.underlying3) (eqField_cons rfl nag3.agg nag3.sz rfl rfl (run_equalIn_int _ _ _ _ _ _ _ Try.underlying3) rfl)))) (by kernel_rfl) Wt.no rfl rfl rfl ?_
                refine L.nil ?_
                exact X.dk kn ⟨im, Sub.fresh ib rfl, i.u 10 (fun _ => rfl)⟩
            · rintro D e s62 hD ⟨im, ib, i⟩
              have g10_ := (i.p 10) (hD 10 rfl)
              have bx10 := bx10.mv im no_No
              have h4 := h4.mono (im.le no_No)
              have h5 := h5.mono (im.le no_No)
              have h6 := h6.mono (im.le no_No)
              have bx7 := bx7.mv im no_No
              have h1 := h1.mono (im.le no_No)
              have h2 := h2.mono (im.le no_No)
              have h3 := h3.mono (im.le no_No)
              have m0 := m0.trans im.no
              refine X.sub (e' := [(53, .bool (!(x51.1 == x58.1 && (x51.2.1 == x58.2.1 && (x51.2.2 == x58.2.2 && true))))), (5, .int .i64 st39), (3, .pointer (some ⟨b10, 0, none⟩)), (2, .pointer (some ⟨b7, 0, none⟩))]) ?_ (Sub.cons g10_ (Sub.cons (ib 5 _ rfl) (Sub.cons (ib 3 _ rfl) (Sub.cons (ib 2 _ rfl) Sub.nil))))
              refine X.seqN ?_
              rcases ifS hm with ⟨hc, hm⟩ | ⟨hc, hm⟩
              · refine E.cT rfl hc ?_
                refine E.seq ?_
                refine E.reg ?_
                refine L.as Wt.no rfl rfl ?_
                refine L.nil ?_
                refine X.seqN ?_
                refine E.ret ?_
                refine X.blkR ?_
                refine X.seqR ?_
                refine X.seqR ?_
                have hx := ho39 _ (Option.some.inj hm).symm
                exact X.sub (K46 _ _ ⟨s62, (), hx.symm, m0, rfl, rfl⟩) (Sub.cons rfl Sub.nil)
              · refine E.cF rfl hc ?_
                refine E.skip ?_
                refine X.blkN ?_
                refine X.seqN ?_
                refine E.reg ?_
                refine L.mv Wt.no rfl rfl ?_
                refine L.bi Wt.no rfl rfl rfl rfl ?_
                refine L.as Wt.no rfl rfl ?_
                refine L.nil ?_
                exact X.sub (ih39 _ (Option.some.inj hm).symm _ _ ⟨s62, m0, h1, h2, h3, h4, h5, h6, bx7, bx10, rfl, rfl⟩) (Sub.cons rfl (Sub.cons rfl (Sub.cons rfl Sub.nil)))
          · refine E.cF rfl hc ?_
            refine E.exit ?_
            refine X.seqX ?_
            refine X.seqX ?_
            have hx := ho39 _ (Option.some.inj hm).symm
            exact X.sub (K43 _ _ ⟨s40, (), hx.symm, m0, rfl, rfl⟩) Sub.nil
      · intro J63
        rcases Bool.eq_false_or_eq_true b17 with hc | hc
        · refine L.know (d := 27) rfl hc ?_
          refine L.skip rfl rfl rfl rfl ?_
          refine L.skip rfl rfl rfl rfl ?_
          refine L.skip rfl rfl rfl rfl ?_
          refine L.skip rfl rfl rfl rfl ?_
          refine L.skip rfl rfl rfl rfl ?_
          refine L.skip rfl rfl rfl rfl ?_
          refine L.skip rfl rfl rfl rfl ?_
          refine L.pkT Wt.no rfl rfl rfl rfl ?_
          exact L.sub (Sub.cons rfl (Sub.cons rfl (Sub.cons rfl Sub.nil))) (J63 _ _ ⟨true, (orT hc).symm, rfl, rfl⟩)
        · refine L.know (d := 27) rfl hc ?_
          refine L.fa fa31_3 (Wt.mk rfl rfl) rfl rfl ?_
          refine L.ld (j := 3) bx7.mem nag29 (Wt.mk rfl rfl) rfl rfl rfl rfl ?_
          refine L.len sl29 (Wt.mk rfl rfl) rfl rfl ?_
          refine L.fa fa31_3 (Wt.mk rfl rfl) rfl rfl ?_
          refine L.ld (j := 3) bx10.mem nag29 (Wt.mk rfl rfl) rfl rfl rfl rfl ?_
          refine L.len sl29 (Wt.mk rfl rfl) rfl rfl ?_
          refine L.bi (Wt.mk rfl rfl) rfl rfl rfl rfl ?_
          refine L.pkF Wt.no rfl rfl rfl rfl ?_
          exact L.sub (Sub.cons rfl (Sub.cons rfl (Sub.cons rfl Sub.nil))) (J63 _ _ ⟨((p0.2.2.2.length : Int) != (p1.2.2.2.length : Int)), (orF hc).symm, rfl, rfl⟩)
    · intro J64
      rcases ifS eb17 with ⟨hc, hm⟩ | ⟨hc, hm⟩
      · refine L.know (d := 19) rfl hc ?_
        refine L.skip rfl rfl rfl rfl ?_
        refine L.skip rfl rfl rfl rfl ?_
        refine L.skip rfl rfl rfl rfl ?_
        refine L.skip rfl rfl rfl rfl ?_
        refine L.skip rfl rfl rfl rfl ?_
        refine L.skip rfl rfl rfl rfl ?_
        refine L.pkT Wt.no rfl rfl rfl rfl ?_
        exact L.sub (Sub.cons rfl (Sub.cons rfl (Sub.cons rfl Sub.nil))) (J64 _ _ ⟨s14, true, (Option.some.inj hm).symm, m0, h1, h2, h3, h4, h5, h6, bx7, bx10, rfl, rfl⟩)
      · refine L.know (d := 19) rfl hc ?_
        refine L.fa fa31_2 (Wt.mk rfl rfl) rfl rfl ?_
        refine L.ld (j := 2) bx7.mem nag28 (Wt.mk rfl rfl) rfl rfl rfl rfl ?_
        refine L.fa fa31_2 (Wt.mk rfl rfl) rfl rfl ?_
        refine L.ld (j := 2) bx10.mem nag28 (Wt.mk rfl rfl) rfl rfl rfl rfl ?_
        obtain ⟨r65, er65, hm⟩ := bindS hm
        refine L.ca (vs := [.slice a2 p0.2.2.1.length c2, .slice a5 p1.2.2.1.length c5]) cf19 rfl rfl (Wt.mk rfl rfl) rfl (m_overseerlaw04_same_c (s := s14) (p0 := p0.2.2.1) (p1 := p1.2.2.1) h2 h5 er65) rfl ?_
        rintro _ s66 m67 rfl
        replace m0 := m0.trans m67.no
        replace bx7 := bx7.mv m67 no_No
        replace h1 := h1.mono (m67.le no_No)
        replace h2 := h2.mono (m67.le no_No)
        replace h3 := h3.mono (m67.le no_No)
        replace bx10 := bx10.mv m67 no_No
        replace h4 := h4.mono (m67.le no_No)
        replace h5 := h5.mono (m67.le no_No)
        replace h6 := h6.mono (m67.le no_No)
        refine L.not (Wt.mk rfl rfl) rfl rfl ?_
        refine L.pkF Wt.no rfl rfl rfl rfl ?_
        exact L.sub (Sub.cons rfl (Sub.cons rfl (Sub.cons rfl Sub.nil))) (J64 _ _ ⟨s66, (!r65), (Option.some.inj hm).symm, m0, h1, h2, h3, h4, h5, h6, bx7, bx10, rfl, rfl⟩)
  · intro J68
    rcases Bool.eq_false_or_eq_true (!r13) with hc | hc
    · refine L.know (d := 12) rfl hc ?_
      refine L.skip rfl rfl rfl rfl ?_
      refine L.skip rfl rfl rfl rfl ?_
      refine L.skip rfl rfl rfl rfl ?_
      refine L.skip rfl rfl rfl rfl ?_
      refine L.skip rfl rfl rfl rfl ?_
      refine L.pkT Wt.no rfl rfl rfl rfl ?_
      exact L.sub (Sub.cons rfl (Sub.cons rfl (Sub.cons rfl Sub.nil))) (J68 _ _ ⟨true, (orT hc).symm, rfl, rfl⟩)
    · refine L.know (d := 12) rfl hc ?_
      refine L.fa fa31_1 (Wt.mk rfl rfl) rfl rfl ?_
      refine L.ld (j := 1) bx7.mem nag3 (Wt.mk rfl rfl) rfl rfl rfl rfl ?_
      refine L.fa fa31_1 (Wt.mk rfl rfl) rfl rfl ?_
      refine L.ld (j := 1) bx10.mem nag3 (Wt.mk rfl rfl) rfl rfl rfl rfl ?_
      refine L.bi (Wt.mk rfl rfl) rfl rfl rfl rfl ?_
      refine L.pkF Wt.no rfl rfl rfl rfl ?_
      exact L.sub (Sub.cons rfl (Sub.cons rfl (Sub.cons rfl Sub.nil))) (J68 _ _ ⟨(p0.2.1 != p1.2.1), (orF hc).symm, rfl, rfl⟩)

/-- What overseerlaw04.few computes. -/
noncomputable def m_overseerlaw04_few (p0 : List Int × Int × List Int × (List (Int × Int × Int))) : Option Bool :=
  some ((((decide ((p0.1.length : Int) ≤ 10)) && (decide ((p0.2.2.1.length : Int) ≤ 10))) && (decide ((p0.2.2.2.length : Int) ≤ 12))) && ((decide (p0.2.1 ≤ 20)) || (decide (p0.2.1 > 4096))))
set_option maxRecDepth 100000 in
set_option maxHeartbeats 8000000 in
theorem m_overseerlaw04_few_c {s : Sig} {p0 : List Int × Int × List Int × (List (Int × Int × Int))} {a1 : Option Addr} {c1 : Nat} {a2 : Option Addr} {c2 : Nat} {a3 : Option Addr} {c3 : Nat} {r : Bool} (h1 : RdL (rK .i64) s a1 c1 p0.1) (h2 : RdL (rK .i64) s a2 c2 p0.2.2.1) (h3 : RdL (rP (rK .i64) (rP (rK .i64) (rK .i64))) s a3 c3 p0.2.2.2) (hm : m_overseerlaw04_few p0 = some r) :
    Calls Try.prog 42 #[.agg #[.slice a1 p0.1.length c1, .int .i64 p0.2.1, .slice a2 p0.2.2.1.length c2, .slice a3 p0.2.2.2.length c3]] s.w (RetS No s fun v s' => v = .bool r) := by
  unfold m_overseerlaw04_few at hm
  obtain ⟨N, hN, hNb⟩ := s.fresh
  have m0 : Mv (Up N No) s s := Mv.refl _ _
  refine E.entry (vs := [.agg #[.slice a1 p0.1.length c1, .int .i64 p0.2.1, .slice a2 p0.2.2.1.length c2, .slice a3 p0.2.2.2.length c3]]) (e := [(0, .agg #[.slice a1 p0.1.length c1, .int .i64 p0.2.1, .slice a2 p0.2.2.1.length c2, .slice a3 p0.2.2.2.length c3])]) Try.func42 rfl Try.ntmps42 rfl rfl ?_
  refine E.seq ?_
  refine E.reg ?_
  refine L.box (N + 0) Wt.no rfl rfl rfl ?_
  intro b4 s5 m6 bx4
  replace m0 := m0.trans m6.no
  replace h1 := h1.mono (m6.le no_No)
  replace h2 := h2.mono (m6.le no_No)
  replace h3 := h3.mono (m6.le no_No)
  refine L.as Wt.no rfl rfl ?_
  refine L.nil ?_
  refine X.seqN ?_
  refine E.seq ?_
  refine E.reg ?_
  refine L.fa fa31_0 Wt.no rfl rfl ?_
  refine L.ld (j := 0) bx4.mem nag28 Wt.no rfl rfl rfl rfl ?_
  refine L.len sl28 Wt.no rfl rfl ?_
  refine L.bi Wt.no rfl rfl rfl rfl ?_
  refine L.mv Wt.no rfl rfl ?_
  refine L.cut 5 (fun e w => ∃ (v7 : Bool), ((decide ((p0.1.length : Int) ≤ 10)) && (decide ((p0.2.2.1.length : Int) ≤ 10))) = v7 ∧ e = (12, .bool v7) :: [(1, .pointer (some ⟨b4, 0, none⟩))] ∧ w = s5.w) ?_ ?_
  · rintro _ _ ⟨v7, rfl, rfl, rfl⟩
    refine L.mv Wt.no rfl rfl ?_
    refine L.cut 5 (fun e w => ∃ (v8 : Bool), (((decide ((p0.1.length : Int) ≤ 10)) && (decide ((p0.2.2.1.length : Int) ≤ 10))) && (decide ((p0.2.2.2.length : Int) ≤ 12))) = v8 ∧ e = (18, .bool v8) :: [(1, .pointer (some ⟨b4, 0, none⟩))] ∧ w = s5.w) ?_ ?_
    · rintro _ _ ⟨v8, rfl, rfl, rfl⟩
      refine L.mv Wt.no rfl rfl ?_
      refine L.cut 9 (fun e w => ∃ (v9 : Bool), ((((decide ((p0.1.length : Int) ≤ 10)) && (decide ((p0.2.2.1.length : Int) ≤ 10))) && (decide ((p0.2.2.2.length : Int) ≤ 12))) && ((decide (p0.2.1 ≤ 20)) || (decide (p0.2.1 > 4096)))) = v9 ∧ e = (28, .bool v9) :: [] ∧ w = s5.w) ?_ ?_
      · rintro _ _ ⟨v9, rfl, rfl, rfl⟩
        refine L.as Wt.no rfl rfl ?_
        refine L.nil ?_
        refine X.seqN ?_
        refine E.ret ?_
        obtain rfl := Option.some.inj hm
        exact X.rt (.inl rfl) Try.results42 (Rs.tmp rfl Rs.nil) rfl ⟨_, (s5).ren N (fun _ => 0), rfl, rfl, m0.ren hNb, rfl⟩
      · intro J10
        rcases Bool.eq_false_or_eq_true (((decide ((p0.1.length : Int) ≤ 10)) && (decide ((p0.2.2.1.length : Int) ≤ 10))) && (decide ((p0.2.2.2.length : Int) ≤ 12))) with hc | hc
        · refine L.know (d := 19) rfl hc ?_
          refine L.fa fa31_1 (Wt.mk rfl rfl) rfl rfl ?_
          refine L.ld (j := 1) bx4.mem nag3 (Wt.mk rfl rfl) rfl rfl rfl rfl ?_
          refine L.bi (Wt.mk rfl rfl) rfl rfl rfl rfl ?_
          refine L.mv (Wt.mk rfl rfl) rfl rfl ?_
          refine L.cut 4 (fun e w => ∃ (v11 : Bool), ((decide (p0.2.1 ≤ 20)) || (decide (p0.2.1 > 4096))) = v11 ∧ e = (27, .bool v11) :: [(19, .bool true)] ∧ w = s5.w) ?_ ?_
          · rintro _ _ ⟨v11, rfl, rfl, rfl⟩
            refine L.pkT Wt.no rfl rfl rfl rfl ?_
            exact L.sub (Sub.cons rfl Sub.nil) (J10 _ _ ⟨((decide (p0.2.1 ≤ 20)) || (decide (p0.2.1 > 4096))), (andT hc).symm, rfl, rfl⟩)
          · intro J12
            rcases Bool.eq_false_or_eq_true (decide (p0.2.1 ≤ 20)) with hc | hc
            · refine L.know (d := 23) rfl hc ?_
              refine L.skip rfl rfl rfl rfl ?_
              refine L.skip rfl rfl rfl rfl ?_
              refine L.skip rfl rfl rfl rfl ?_
              refine L.pkT (Wt.mk rfl rfl) rfl rfl rfl rfl ?_
              exact L.sub (Sub.cons rfl (Sub.cons rfl Sub.nil)) (J12 _ _ ⟨true, (orT hc).symm, rfl, rfl⟩)
            · refine L.know (d := 23) rfl hc ?_
              refine L.fa fa31_1 (Wt.mk rfl rfl) rfl rfl ?_
              refine L.ld (j := 1) bx4.mem nag3 (Wt.mk rfl rfl) rfl rfl rfl rfl ?_
              refine L.bi (Wt.mk rfl rfl) rfl rfl rfl rfl ?_
              refine L.pkF (Wt.mk rfl rfl) rfl rfl rfl rfl ?_
              exact L.sub (Sub.cons rfl (Sub.cons rfl Sub.nil)) (J12 _ _ ⟨(decide (p0.2.1 > 4096)), (orF hc).symm, rfl, rfl⟩)
        · refine L.know (d := 19) rfl hc ?_
          refine L.skip rfl rfl rfl rfl ?_
          refine L.skip rfl rfl rfl rfl ?_
          refine L.skip rfl rfl rfl rfl ?_
          refine L.skip rfl rfl rfl rfl ?_
          refine L.skipU rfl rfl rfl ?_
          refine L.skipU rfl rfl rfl ?_
          refine L.skipU rfl rfl rfl ?_
          refine L.skip rfl rfl rfl rfl ?_
          refine L.pkF Wt.no rfl rfl rfl rfl ?_
          exact L.sub (Sub.cons rfl Sub.nil) (J10 _ _ ⟨false, (andF hc).symm, rfl, rfl⟩)
    · intro J13
      rcases Bool.eq_false_or_eq_true ((decide ((p0.1.length : Int) ≤ 10)) && (decide ((p0.2.2.1.length : Int) ≤ 10))) with hc | hc
      · refine L.know (d := 13) rfl hc ?_
        refine L.fa fa31_3 (Wt.mk rfl rfl) rfl rfl ?_
        refine L.ld (j := 3) bx4.mem nag29 (Wt.mk rfl rfl) rfl rfl rfl rfl ?_
        refine L.len sl29 (Wt.mk rfl rfl) rfl rfl ?_
        refine L.bi (Wt.mk rfl rfl) rfl rfl rfl rfl ?_
        refine L.pkT Wt.no rfl rfl rfl rfl ?_
        exact L.sub (Sub.cons rfl (Sub.cons rfl Sub.nil)) (J13 _ _ ⟨(decide ((p0.2.2.2.length : Int) ≤ 12)), (andT hc).symm, rfl, rfl⟩)
      · refine L.know (d := 13) rfl hc ?_
        refine L.skip rfl rfl rfl rfl ?_
        refine L.skip rfl rfl rfl rfl ?_
        refine L.skip rfl rfl rfl rfl ?_
        refine L.skip rfl rfl rfl rfl ?_
        refine L.pkF Wt.no rfl rfl rfl rfl ?_
        exact L.sub (Sub.cons rfl (Sub.cons rfl Sub.nil)) (J13 _ _ ⟨false, (andF hc).symm, rfl, rfl⟩)
  · intro J14
    rcases Bool.eq_false_or_eq_true (decide ((p0.1.length : Int) ≤ 10)) with hc | hc
    · refine L.know (d := 7) rfl hc ?_
      refine L.fa fa31_2 (Wt.mk rfl rfl) rfl rfl ?_
      refine L.ld (j := 2) bx4.mem nag28 (Wt.mk rfl rfl) rfl rfl rfl rfl ?_
      refine L.len sl28 (Wt.mk rfl rfl) rfl rfl ?_
      refine L.bi (Wt.mk rfl rfl) rfl rfl rfl rfl ?_
      refine L.pkT Wt.no rfl rfl rfl rfl ?_
      exact L.sub (Sub.cons rfl (Sub.cons rfl Sub.nil)) (J14 _ _ ⟨(decide ((p0.2.2.1.length : Int) ≤ 10)), (andT hc).symm, rfl, rfl⟩)
    · refine L.know (d := 7) rfl hc ?_
      refine L.skip rfl rfl rfl rfl ?_
      refine L.skip rfl rfl rfl rfl ?_
      refine L.skip rfl rfl rfl rfl ?_
      refine L.skip rfl rfl rfl rfl ?_
      refine L.pkF Wt.no rfl rfl rfl rfl ?_
      exact L.sub (Sub.cons rfl (Sub.cons rfl Sub.nil)) (J14 _ _ ⟨false, (andF hc).symm, rfl, rfl⟩)

noncomputable def m_overseerref04_Set_j1 (st46 : Int) (b59 : Bool) : Option (Int ⊕ (Unit ⊕ Int)) :=
  if b59 then
    some (.inr (.inr (5)))
  else
    some (.inl (W (st46 + 1)))
noncomputable def m_overseerref04_Set_l1 (p0 : List Int) (p1 : Int) (st46 : Int) : Option (Int ⊕ (Unit ⊕ Int)) :=
  if decide (st46 < (p0.length : Int)) then
    (idx p0 st46).bind fun x55 =>
    (if decide (x55 < 0) then
      some true
    else
      (idx p0 st46).bind fun x95 =>
      some (decide (x95 ≥ p1))).bind fun b57 =>
    if b57 then
      some (.inr (.inr (2)))
    else
      if decide (st46 > 0) then
        (idx p0 st46).bind fun x69 =>
        (idx p0 (W (st46 - 1))).bind fun x76 =>
        m_overseerref04_Set_j1 st46 (decide (x69 ≤ x76))
      else
        m_overseerref04_Set_j1 st46 false
  else
    some (.inr (.inl ()))
/-- What overseerref04.Set computes. -/
noncomputable def m_overseerref04_Set (p0 : List Int) (p1 : Int) : Option Int :=
  (iter (m_overseerref04_Set_l1 p0 p1) 0).bind fun o46 =>
  match o46 with
  | .inl u49 =>
    some 0
  | .inr (u52) =>
    some u52
set_option maxRecDepth 100000 in
set_option maxHeartbeats 8000000 in
theorem m_overseerref04_Set_c {s : Sig} {p0 : List Int} {p1 : Int} {a1 : Option Addr} {c1 : Nat} {r : Int} (h1 : RdL (rK .i64) s a1 c1 p0) (hm : m_overseerref04_Set p0 p1 = some r) :
    Calls Try.prog 44 #[.slice a1 p0.length c1, .int .i64 p1] s.w (RetS No s fun v s' => v = .int .i64 r) := by
  unfold m_overseerref04_Set at hm
  obtain ⟨N, hN, hNb⟩ := s.fresh
  have m0 : Mv (Up N No) s s := Mv.refl _ _
  refine E.entry (vs := [.slice a1 p0.length c1, .int .i64 p1]) (e := [(0, .slice a1 p0.length c1), (1, .int .i64 p1)]) Try.func44 rfl Try.ntmps44 rfl rfl ?_
  refine E.seq ?_
  refine E.reg ?_
  refine L.as Wt.no rfl rfl ?_
  refine L.nil ?_
  refine X.seqN ?_
  refine E.seq ?_
  refine E.seq ?_
  refine E.reg ?_
  refine L.as Wt.no rfl rfl ?_
  refine L.nil ?_
  refine X.seqN ?_
  refine E.block ?_
  obtain ⟨o46, eo46, hm⟩ := bindS hm
  refine E.cut (x := .exit 0) (fun e w => ∃ (s50 : Sig) (u49 : Unit), o46 = .inl u49 ∧ Mv (Up N No) s s50 ∧ e = [] ∧ w = s50.w) ?_ ?_
  · rintro _ _ ⟨s50, u49, rfl, m0, rfl, rfl⟩
    dsimp only at hm
    refine X.blkE ?_
    refine X.seqN ?_
    refine E.seq ?_
    refine E.reg ?_
    refine L.as Wt.no rfl rfl ?_
    refine L.nil ?_
    refine X.seqN ?_
    refine E.ret ?_
    obtain rfl := Option.some.inj hm
    exact X.rt (.inl rfl) Try.results44 (Rs.tmp rfl Rs.nil) rfl ⟨_, (s50).ren N (fun _ => 0), rfl, rfl, m0.ren hNb, rfl⟩
  intro K51
  refine E.cut (x := .ret) (fun e w => ∃ (s53 : Sig) (u52 : Int), o46 = .inr (u52) ∧ Mv (Up N No) s s53 ∧ e = [(4, .int .i64 u52)] ∧ w = s53.w) ?_ ?_
  · rintro _ _ ⟨s53, u52, rfl, m0, rfl, rfl⟩
    dsimp only at hm
    refine X.blkR ?_
    refine X.seqR ?_
    obtain rfl := Option.some.inj hm
    exact X.rt (.inl rfl) Try.results44 (Rs.tmp rfl Rs.nil) rfl ⟨_, (s53).ren N (fun _ => 0), rfl, rfl, m0.ren hNb, rfl⟩
  intro K54
  refine E.iter (fun (st46 : Int) (e : List (Nat × Value)) (w : World) => ∃ (s48 : Sig), Mv (Up N No) s s48 ∧ RdL (rK .i64) s48 a1 c1 p0 ∧ e = [(5, .int .i64 st46), (0, .slice a1 p0.length c1), (1, .int .i64 p1)] ∧ w = s48.w) eo46 ⟨s, m0, h1, rfl, rfl⟩ (Sub.cons rfl (Sub.cons rfl (Sub.cons rfl Sub.nil))) ?_
  rintro st46 res46 hm ih46 ho46 _ _ ⟨s48, m0, h1, rfl, rfl⟩
  unfold m_overseerref04_Set_l1 at hm
  refine E.seq ?_
  refine E.seq ?_
  refine E.reg ?_
  refine L.mv Wt.no rfl rfl ?_
  refine L.mv Wt.no rfl rfl ?_
  refine L.len sl28 Wt.no rfl rfl ?_
  refine L.bi Wt.no rfl rfl rfl rfl ?_
  refine L.nil ?_
  refine X.seqN ?_
  rcases ifS hm with ⟨hc, hm⟩ | ⟨hc, hm⟩
  · refine E.cT rfl hc ?_
    refine E.skip ?_
    refine X.seqN ?_
    refine E.seq ?_
    refine E.block ?_
    refine E.seq ?_
    refine E.seq ?_
    refine E.reg ?_
    refine L.mv Wt.no rfl rfl ?_
    refine L.mv Wt.no rfl rfl ?_
    obtain ⟨x55, ex55, hm⟩ := bindS hm
    refine L.ix (r := (rK .i64)) sl28 h1 Wt.no rfl rfl ex55 rfl ?_
    rintro b56 o56 cc56 me56 rd56
    obtain rfl := rd56
    refine L.ld (j := 0) me56 nag3 Wt.no rfl rfl rfl rfl ?_
    refine L.bi Wt.no rfl rfl rfl rfl ?_
    refine L.mv Wt.no rfl rfl ?_
    obtain ⟨b57, eb57, hm⟩ := bindS hm
    refine L.cut 7 (fun e w => ∃ (v58 : Bool), b57 = v58 ∧ e = (24, .bool v58) :: [(5, .int .i64 st46), (0, .slice a1 p0.length c1), (1, .int .i64 p1)] ∧ w = s48.w) ?_ ?_
    · rintro _ _ ⟨v58, rfl, rfl, rfl⟩
      refine L.nil ?_
      refine X.seqN ?_
      rcases ifS hm with ⟨hc, hm⟩ | ⟨hc, hm⟩
      · refine E.cT rfl hc ?_
        refine E.seq ?_
        refine E.reg ?_
        refine L.as Wt.no rfl rfl ?_
        refine L.nil ?_
        refine X.seqN ?_
        refine E.ret ?_
        refine X.seqR ?_
        refine X.blkR ?_
        refine X.seqR ?_
        refine X.seqR ?_
        have hx := ho46 _ (Option.some.inj hm).symm
        exact X.sub (K54 _ _ ⟨s48, 2, hx.symm, m0, rfl, rfl⟩) (Sub.cons rfl Sub.nil)
      · refine E.cF rfl hc ?_
        refine E.skip ?_
        refine X.seqN ?_
        refine E.seqJ (fun e w => ∃ (s60 : Sig) (b59 : Bool), m_overseerref04_Set_j1 st46 b59 = some res46 ∧ Mv (Up N No) s s60 ∧ RdL (rK .i64) s60 a1 c1 p0 ∧ e = [(38, .bool b59), (5, .int .i64 st46), (0, .slice a1 p0.length c1), (1, .int .i64 p1)] ∧ w = s60.w) ?_ ?_
        · rintro _ _ ⟨s60, b59, hm, m0, h1, rfl, rfl⟩
          unfold m_overseerref04_Set_j1 at hm
          rcases ifS hm with ⟨hc, hm⟩ | ⟨hc, hm⟩
          · refine E.cT rfl hc ?_
            refine E.seq ?_
            refine E.reg ?_
            refine L.as Wt.no rfl rfl ?_
            refine L.nil ?_
            refine X.seqN ?_
            refine E.ret ?_
            refine X.blkR ?_
            refine X.seqR ?_
            refine X.seqR ?_
            have hx := ho46 _ (Option.some.inj hm).symm
            exact X.sub (K54 _ _ ⟨s60, 5, hx.symm, m0, rfl, rfl⟩) (Sub.cons rfl Sub.nil)
          · refine E.cF rfl hc ?_
            refine E.skip ?_
            refine X.blkN ?_
            refine X.seqN ?_
            refine E.reg ?_
            refine L.mv Wt.no rfl rfl ?_
            refine L.bi Wt.no rfl rfl rfl rfl ?_
            refine L.as Wt.no rfl rfl ?_
            refine L.nil ?_
            exact X.sub (ih46 _ (Option.some.inj hm).symm _ _ ⟨s60, m0, h1, rfl, rfl⟩) (Sub.cons rfl (Sub.cons rfl (Sub.cons rfl Sub.nil)))
        · intro Jj61
          rcases ifS hm with ⟨hc65, hm⟩ | ⟨hc65, hm⟩
          · have _ := hN
            obtain ⟨x69, ex69, hm⟩ := bindS hm
            obtain ⟨x76, ex76, hm⟩ := bindS hm
            refine E.draw [[], [0], [0, 1], [0, 1, 2], [0, 1, 2], [0, 1, 2, 3, 4], [0, 1, 2, 3, 4, 5], [0, 1, 2], [0, 1, 2], [0, 1, 2, 8], [0, 1, 2, 7, 8, 9], [0, 1, 2, 7, 8, 9, 10], [0, 1, 2, 3, 4, 5, 6, 7, 8, 9, 10, 11], [0, 1, 2, 3, 4, 5, 6, 7, 8, 9, 10, 11, 12]] (fun D e sx => Mv No s48 sx ∧ Sub [(5, .int .i64 st46), (0, .slice a1 p0.length c1), (1, .int .i64 p1)] e ∧ AllP [D 0 = true → (Env.get e 25 = some (.int .i64 st46)), D 1 = true → (Env.get e 26 = some (.bool (decide (st46 > 0)))), D 2 = true → (Env.get e 27 = some (.bool (decide (st46 > 0)))), D 3 = true → (Env.get e 28 = some (.slice a1 p0.length c1)), D 4 = true → (Env.get e 29 = some (.int .i64 st46)), D 5 = true → (∃ (b70 : Nat) (o70 : Nat), Env.get e 30 = some (.pointer (some ⟨b70, o70, none⟩)) ∧ Mem sx 0 b70 o70 [.int .i64 x69]), D 6 = true → (Env.get e 31 = some (.int .i64 x69)), D 7 = true → (Env.get e 32 = some (.slice a1 p0.length c1)), D 8 = true → (Env.get e 33 = some (.int .i64 st46)), D 9 = true → (Env.get e 34 = some (.int .i64 (W (st46 - 1)))), D 10 = true → (∃ (b77 : Nat) (o77 : Nat), Env.get e 35 = some (.pointer (some ⟨b77, o77, none⟩)) ∧ Mem sx 0 b77 o77 [.int .i64 x76]), D 11 = true → (Env.get e 36 = some (.int .i64 x76)), D 12 = true → (Env.get e 37 = some (.bool (decide (x69 ≤ x76)))), D 13 = true → (Env.get e 38 = some (.bool (decide (x69 ≤ x76))))]) (by kernel_rfl) (by kernel_rfl) (by kernel_rfl) ?_ ?_ ?_
            · intro sz mz
              exact ⟨mz, (Sub.cons rfl (Sub.cons rfl (Sub.cons rfl Sub.nil))), nofun, nofun, nofun, nofun, nofun, nofun, nofun, nofun, nofun, nofun, nofun, nofun, nofun, nofun, trivial⟩
            · refine ⟨?_, ?_, ?_, ?_, ?_, ?_, ?_, ?_, ?_, ?_, ?_, ?_, ?_, ?_, trivial⟩
              · rintro D e s62 ⟨im, ib, i⟩ hk hf ha
                have kn : Kn e [(5, .int .i64 st46)] := ⟨(ib 5 _ rfl), trivial⟩
                refine L.kns _ kn ?_
                refine L.mv Wt.no rfl rfl ?_
                refine L.nil ?_
                exact X.dk kn ⟨im, Sub.fresh ib rfl, i.u 0 (fun _ => rfl)⟩
              · rintro D e s63 ⟨im, ib, i⟩ hk hf ha
                have g0_ := (i.p 0) (ha.at 0 rfl)
                have kn : Kn e [(25, .int .i64 st46)] := ⟨g0_, trivial⟩
                refine L.kns _ kn ?_
                refine L.bi Wt.no rfl rfl rfl rfl ?_
                refine L.nil ?_
                exact X.dk kn ⟨im, Sub.fresh ib rfl, i.u 1 (fun _ => rfl)⟩
              · rintro D e s64 ⟨im, ib, i⟩ hk hf ha
                have g1_ := (i.p 1) (ha.at 1 rfl)
                have kn : Kn e [(26, .bool (decide (st46 > 0)))] := ⟨g1_, trivial⟩
                refine L.kns _ kn ?_
                refine L.mv Wt.no rfl rfl ?_
                refine L.nil ?_
                exact X.dk kn ⟨im, Sub.fresh ib rfl, i.u 2 (fun _ => rfl)⟩
              · rintro D e s66 ⟨im, ib, i⟩ hk hf ha
                have g2_ := (i.p 2) (ha.at 2 rfl)
                rw [hc65] at g2_
                have kn : Kn e [(0, .slice a1 p0.length c1), (27, .bool true)] := ⟨(ib 0 _ rfl), g2_, trivial⟩
                refine L.kns _ kn ?_
                refine L.mv (Wt.mk rfl rfl) rfl rfl ?_
                refine L.nil ?_
                exact X.dk kn ⟨im, Sub.fresh ib rfl, i.u 3 (fun _ => rfl)⟩
              · rintro D e s67 ⟨im, ib, i⟩ hk hf ha
                have g2_ := (i.p 2) (ha.at 2 rfl)
                rw [hc65] at g2_
                have kn : Kn e [(5, .int .i64 st46), (27, .bool true)] := ⟨(ib 5 _ rfl), g2_, trivial⟩
                refine L.kns _ kn ?_
                refine L.mv (Wt.mk rfl rfl) rfl rfl ?_
                refine L.nil ?_
                exact X.dk kn ⟨im, Sub.fresh ib rfl, i.u 4 (fun _ => rfl)⟩
              · rintro D e s68 ⟨im, ib, i⟩ hk hf ha
                have g2_ := (i.p 2) (ha.at 2 rfl)
                have g3_ := (i.p 3) (ha.at 3 rfl)
                have g4_ := (i.p 4) (ha.at 4 rfl)
                have h1 := h1.mono (im.le no_No)
                rw [hc65] at g2_
                have kn : Kn e [(28, .slice a1 p0.length c1), (29, .int .i64 st46), (27, .bool true)] := ⟨g3_, g4_, g2_, trivial⟩
                refine L.kns _ kn ?_
                refine L.ix (r := (rK .i64)) sl28 h1 (Wt.mk rfl rfl) rfl rfl ex69 rfl ?_
                rintro b70 o70 cc70 me70 rd70
                obtain rfl := rd70
                refine L.nil ?_
                exact X.dk kn ⟨im, Sub.fresh ib rfl, i.u 5 (fun _ => ⟨b70, o70, rfl, me70⟩)⟩
              · rintro D e s71 ⟨im, ib, i⟩ hk hf ha
                have g2_ := (i.p 2) (ha.at 2 rfl)
                obtain ⟨b70, o70, g5_, me70⟩ := (i.p 5) (ha.at 5 rfl)
                rw [hc65] at g2_
                have kn : Kn e [(30, .pointer (some ⟨b70, o70, none⟩)), (27, .bool true)] := ⟨g5_, g2_, trivial⟩
                refine L.kns _ kn ?_
                refine L.ld (j := 0) me70 nag3 (Wt.mk rfl rfl) rfl rfl rfl rfl ?_
                refine L.nil ?_
                exact X.dk kn ⟨im, Sub.fresh ib rfl, i.u 6 (fun _ => rfl)⟩
              · rintro D e s72 ⟨im, ib, i⟩ hk hf ha
                have g2_ := (i.p 2) (ha.at 2 rfl)
                rw [hc65] at g2_
                have kn : Kn e [(0, .slice a1 p0.length c1), (27, .bool true)] := ⟨(ib 0 _ rfl), g2_, trivial⟩
                refine L.kns _ kn ?_
                refine L.mv (Wt.mk rfl rfl) rfl rfl ?_
                refine L.nil ?_
                exact X.dk kn ⟨im, Sub.fresh ib rfl, i.u 7 (fun _ => rfl)⟩
              · rintro D e s73 ⟨im, ib, i⟩ hk hf ha
                have g2_ := (i.p 2) (ha.at 2 rfl)
                rw [hc65] at g2_
                have kn : Kn e [(5, .int .i64 st46), (27, .bool true)] := ⟨(ib 5 _ rfl), g2_, trivial⟩
                refine L.kns _ kn ?_
                refine L.mv (Wt.mk rfl rfl) rfl rfl ?_
                refine L.nil ?_
                exact X.dk kn ⟨im, Sub.fresh ib rfl, i.u 8 (fun _ => rfl)⟩
              · rintro D e s74 ⟨im, ib, i⟩ hk hf ha
                have g2_ := (i.p 2) (ha.at 2 rfl)
                have g8_ := (i.p 8) (ha.at 8 rfl)
                rw [hc65] at g2_
                have kn : Kn e [(33, .int .i64 st46), (27, .bool true)] := ⟨g8_, g2_, trivial⟩
                refine L.kns _ kn ?_
                refine L.bi (Wt.mk rfl rfl) rfl rfl rfl rfl ?_
                refine L.nil ?_
                exact X.dk kn ⟨im, Sub.fresh ib rfl, i.u 9 (fun _ => rfl)⟩
              · rintro D e s75 ⟨im, ib, i⟩ hk hf ha
                have g2_ := (i.p 2) (ha.at 2 rfl)
                have g7_ := (i.p 7) (ha.at 7 rfl)
                have g9_ := (i.p 9) (ha.at 9 rfl)
                have h1 := h1.mono (im.le no_No)
                rw [hc65] at g2_
                have kn : Kn e [(32, .slice a1 p0.length c1), (34, .int .i64 (W (st46 - 1))), (27, .bool true)] := ⟨g7_, g9_, g2_, trivial⟩
                refine L.kns _ kn ?_
                refine L.ix (r := (rK .i64)) sl28 h1 (Wt.mk rfl rfl) rfl rfl ex76 rfl ?_
                rintro b77 o77 cc77 me77 rd77
                obtain rfl := rd77
                refine L.nil ?_
                exact X.dk kn ⟨im, Sub.fresh ib rfl, i.u 10 (fun _ => ⟨b77, o77, rfl, me77⟩)⟩
              · rintro D e s78 ⟨im, ib, i⟩ hk hf ha
                have g2_ := (i.p 2) (ha.at 2 rfl)
                obtain ⟨b77, o77, g10_, me77⟩ := (i.p 10) (ha.at 10 rfl)
                rw [hc65] at g2_
                have kn : Kn e [(35, .pointer (some ⟨b77, o77, none⟩)), (27, .bool true)] := ⟨g10_, g2_, trivial⟩
                refine L.kns _ kn ?_
                refine L.ld (j := 0) me77 nag3 (Wt.mk rfl rfl) rfl rfl rfl rfl ?_
                refine L.nil ?_
                exact X.dk kn ⟨im, Sub.fresh ib rfl, i.u 11 (fun _ => rfl)⟩
              · rintro D e s79 ⟨im, ib, i⟩ hk hf ha
                have g2_ := (i.p 2) (ha.at 2 rfl)
                have g6_ := (i.p 6) (ha.at 6 rfl)
                have g11_ := (i.p 11) (ha.at 11 rfl)
                rw [hc65] at g2_
                have kn : Kn e [(31, .int .i64 x69), (36, .int .i64 x76), (27, .bool true)] := ⟨g6_, g11_, g2_, trivial⟩
                refine L.kns _ kn ?_
                refine L.bi (Wt.mk rfl rfl) rfl rfl rfl rfl ?_
                refine L.nil ?_
                exact X.dk kn ⟨im, Sub.fresh ib rfl, i.u 12 (fun _ => rfl)⟩
              · rintro D e s80 ⟨im, ib, i⟩ hk hf ha
                have g2_ := (i.p 2) (ha.at 2 rfl)
                have g12_ := (i.p 12) (ha.at 12 rfl)
                rw [hc65] at g2_
                have kn : Kn e [(27, .bool true), (37, .bool (decide (x69 ≤ x76)))] := ⟨g2_, g12_, trivial⟩
                refine L.kns _ kn ?_
                refine L.pkT Wt.no rfl rfl rfl rfl ?_
                refine L.nil ?_
                exact X.dk kn ⟨im, Sub.fresh ib rfl, i.u 13 (fun _ => rfl)⟩
            · rintro D e s81 hD ⟨im, ib, i⟩
              have g13_ := (i.p 13) (hD 13 rfl)
              have h1 := h1.mono (im.le no_No)
              have m0 := m0.trans im.no
              refine X.sub (e' := [(38, .bool (decide (x69 ≤ x76))), (5, .int .i64 st46), (0, .slice a1 p0.length c1), (1, .int .i64 p1)]) ?_ (Sub.cons g13_ (Sub.cons (ib 5 _ rfl) (Sub.cons (ib 0 _ rfl) (Sub.cons (ib 1 _ rfl) Sub.nil))))
              exact X.sub (Jj61 _ _ ⟨s81, (decide (x69 ≤ x76)), hm, m0, h1, rfl, rfl⟩) (Sub.cons rfl (Sub.cons rfl (Sub.cons rfl (Sub.cons rfl Sub.nil))))
          · have _ := hN
            refine E.draw [[], [0], [0, 1], [0, 1, 2], [0, 1, 2], [0, 1, 2, 3, 4], [0, 1, 2, 3, 4, 5], [0, 1, 2], [0, 1, 2], [0, 1, 2, 8], [0, 1, 2, 7, 8, 9], [0, 1, 2, 7, 8, 9, 10], [0, 1, 2, 3, 4, 5, 6, 7, 8, 9, 10, 11], [0, 1, 2, 3, 4, 5, 6, 7, 8, 9, 10, 11, 12]] (fun D e sx => Mv No s48 sx ∧ Sub [(5, .int .i64 st46), (0, .slice a1 p0.length c1), (1, .int .i64 p1)] e ∧ AllP [D 0 = true → (Env.get e 25 = some (.int .i64 st46)), D 1 = true → (Env.get e 26 = some (.bool (decide (st46 > 0)))), D 2 = true → (Env.get e 27 = some (.bool (decide (st46 > 0)))), D 3 = true → (Env.get e 28 = some undef), D 4 = true → (Env.get e 29 = some undef), D 5 = true → (Env.get e 30 = some undef), D 6 = true → (Env.get e 31 = some undef), D 7 = true → (Env.get e 32 = some undef), D 8 = true → (Env.get e 33 = some undef), D 9 = true → (Env.get e 34 = some undef), D 10 = true → (Env.get e 35 = some undef), D 11 = true → (Env.get e 36 = some undef), D 12 = true → (Env.get e 37 = some undef), D 13 = true → (Env.get e 38 = some (.bool false))]) (by kernel_rfl) (by kernel_rfl) (by kernel_rfl) ?_ ?_ ?_
            · intro sz mz
              exact ⟨mz, (Sub.cons rfl (Sub.cons rfl (Sub.cons rfl Sub.nil))), nofun, nofun, nofun, nofun, nofun, nofun, nofun, nofun, nofun, nofun, nofun, nofun, nofun, nofun, trivial⟩
            · refine ⟨?_, ?_, ?_, ?_, ?_, ?_, ?_, ?_, ?_, ?_, ?_, ?_, ?_, ?_, trivial⟩
              · rintro D e s62 ⟨im, ib, i⟩ hk hf ha
                have kn : Kn e [(5, .int .i64 st46)] := ⟨(ib 5 _ rfl), trivial⟩
                refine L.kns _ kn ?_
                refine L.mv Wt.no rfl rfl ?_
                refine L.nil ?_
                exact X.dk kn ⟨im, Sub.fresh ib rfl, i.u 0 (fun _ => rfl)⟩
              · rintro D e s63 ⟨im, ib, i⟩ hk hf ha
                have g0_ := (i.p 0) (ha.at 0 rfl)
                have kn : Kn e [(25, .int .i64 st46)] := ⟨g0_, trivial⟩
                refine L.kns _ kn ?_
                refine L.bi Wt.no rfl rfl rfl rfl ?_
                refine L.nil ?_
                exact X.dk kn ⟨im, Sub.fresh ib rfl, i.u 1 (fun _ => rfl)⟩
              · rintro D e s64 ⟨im, ib, i⟩ hk hf ha
                have g1_ := (i.p 1) (ha.at 1 rfl)
                have kn : Kn e [(26, .bool (decide (st46 > 0)))] := ⟨g1_, trivial⟩
                refine L.kns _ kn ?_
                refine L.mv Wt.no rfl rfl ?_
                refine L.nil ?_
                exact X.dk kn ⟨im, Sub.fresh ib rfl, i.u 2 (fun _ => rfl)⟩
              · rintro D e s82 ⟨im, ib, i⟩ hk hf ha
                have g2_ := (i.p 2) (ha.at 2 rfl)
                rw [hc65] at g2_
                have kn : Kn e [(0, .slice a1 p0.length c1), (27, .bool false)] := ⟨(ib 0 _ rfl), g2_, trivial⟩
                refine L.kns _ kn ?_
                refine L.skip rfl rfl rfl rfl ?_
                refine L.nil ?_
                exact X.dk kn ⟨im, Sub.fresh ib rfl, i.u 3 (fun _ => rfl)⟩
              · rintro D e s83 ⟨im, ib, i⟩ hk hf ha
                have g2_ := (i.p 2) (ha.at 2 rfl)
                rw [hc65] at g2_
                have kn : Kn e [(5, .int .i64 st46), (27, .bool false)] := ⟨(ib 5 _ rfl), g2_, trivial⟩
                refine L.kns _ kn ?_
                refine L.skip rfl rfl rfl rfl ?_
                refine L.nil ?_
                exact X.dk kn ⟨im, Sub.fresh ib rfl, i.u 4 (fun _ => rfl)⟩
              · rintro D e s84 ⟨im, ib, i⟩ hk hf ha
                have g2_ := (i.p 2) (ha.at 2 rfl)
                have g3_ := (i.p 3) (ha.at 3 rfl)
                have g4_ := (i.p 4) (ha.at 4 rfl)
                rw [hc65] at g2_
                have kn : Kn e [(28, undef), (29, undef), (27, .bool false)] := ⟨g3_, g4_, g2_, trivial⟩
                refine L.kns _ kn ?_
                refine L.skip rfl rfl rfl rfl ?_
                refine L.nil ?_
                exact X.dk kn ⟨im, Sub.fresh ib rfl, i.u 5 (fun _ => rfl)⟩
              · rintro D e s85 ⟨im, ib, i⟩ hk hf ha
                have g2_ := (i.p 2) (ha.at 2 rfl)
                have g5_ := (i.p 5) (ha.at 5 rfl)
                rw [hc65] at g2_
                have kn : Kn e [(30, undef), (27, .bool false)] := ⟨g5_, g2_, trivial⟩
                refine L.kns _ kn ?_
                refine L.skip rfl rfl rfl rfl ?_
                refine L.nil ?_
                exact X.dk kn ⟨im, Sub.fresh ib rfl, i.u 6 (fun _ => rfl)⟩
              · rintro D e s86 ⟨im, ib, i⟩ hk hf ha
                have g2_ := (i.p 2) (ha.at 2 rfl)
                rw [hc65] at g2_
                have kn : Kn e [(0, .slice a1 p0.length c1), (27, .bool false)] := ⟨(ib 0 _ rfl), g2_, trivial⟩
                refine L.kns _ kn ?_
                refine L.skip rfl rfl rfl rfl ?_
                refine L.nil ?_
                exact X.dk kn ⟨im, Sub.fresh ib rfl, i.u 7 (fun _ => rfl)⟩
              · rintro D e s87 ⟨im, ib, i⟩ hk hf ha
                have g2_ := (i.p 2) (ha.at 2 rfl)
                rw [hc65] at g2_
                have kn : Kn e [(5, .int .i64 st46), (27, .bool false)] := ⟨(ib 5 _ rfl), g2_, trivial⟩
                refine L.kns _ kn ?_
                refine L.skip rfl rfl rfl rfl ?_
                refine L.nil ?_
                exact X.dk kn ⟨im, Sub.fresh ib rfl, i.u 8 (fun _ => rfl)⟩
              · rintro D e s88 ⟨im, ib, i⟩ hk hf ha
                have g2_ := (i.p 2) (ha.at 2 rfl)
                have g8_ := (i.p 8) (ha.at 8 rfl)
                rw [hc65] at g2_
                have kn : Kn e [(33, undef), (27, .bool false)] := ⟨g8_, g2_, trivial⟩
                refine L.kns _ kn ?_
                refine L.skip rfl rfl rfl rfl ?_
                refine L.nil ?_
                exact X.dk kn ⟨im, Sub.fresh ib rfl, i.u 9 (fun _ => rfl)⟩
              · rintro D e s89 ⟨im, ib, i⟩ hk hf ha
                have g2_ := (i.p 2) (ha.at 2 rfl)
                have g7_ := (i.p 7) (ha.at 7 rfl)
                have g9_ := (i.p 9) (ha.at 9 rfl)
                rw [hc65] at g2_
                have kn : Kn e [(32, undef), (34, undef), (27, .bool false)] := ⟨g7_, g9_, g2_, trivial⟩
                refine L.kns _ kn ?_
                refine L.skip rfl rfl rfl rfl ?_
                refine L.nil ?_
                exact X.dk kn ⟨im, Sub.fresh ib rfl, i.u 10 (fun _ => rfl)⟩
              · rintro D e s90 ⟨im, ib, i⟩ hk hf ha
                have g2_ := (i.p 2) (ha.at 2 rfl)
                have g10_ := (i.p 10) (ha.at 10 rfl)
                rw [hc65] at g2_
                have kn : Kn e [(35, undef), (27, .bool false)] := ⟨g10_, g2_, trivial⟩
                refine L.kns _ kn ?_
                refine L.skip rfl rfl rfl rfl ?_
                refine L.nil ?_
                exact X.dk kn ⟨im, Sub.fresh ib rfl, i.u 11 (fun _ => rfl)⟩
              · rintro D e s91 ⟨im, ib, i⟩ hk hf ha
                have g2_ := (i.p 2) (ha.at 2 rfl)
                have g6_ := (i.p 6) (ha.at 6 rfl)
                have g11_ := (i.p 11) (ha.at 11 rfl)
                rw [hc65] at g2_
                have kn : Kn e [(31, undef), (36, undef), (27, .bool false)] := ⟨g6_, g11_, g2_, trivial⟩
                refine L.kns _ kn ?_
                refine L.skip rfl rfl rfl rfl ?_
                refine L.nil ?_
                exact X.dk kn ⟨im, Sub.fresh ib rfl, i.u 12 (fun _ => rfl)⟩
              · rintro D e s92 ⟨im, ib, i⟩ hk hf ha
                have g2_ := (i.p 2) (ha.at 2 rfl)
                have g12_ := (i.p 12) (ha.at 12 rfl)
                rw [hc65] at g2_
                have kn : Kn e [(27, .bool false), (37, undef)] := ⟨g2_, g12_, trivial⟩
                refine L.kns _ kn ?_
                refine L.pkF Wt.no rfl rfl rfl rfl ?_
                refine L.nil ?_
                exact X.dk kn ⟨im, Sub.fresh ib rfl, i.u 13 (fun _ => rfl)⟩
            · rintro D e s93 hD ⟨im, ib, i⟩
              have g13_ := (i.p 13) (hD 13 rfl)
              have h1 := h1.mono (im.le no_No)
              have m0 := m0.trans im.no
              refine X.sub (e' := [(38, .bool false), (5, .int .i64 st46), (0, .slice a1 p0.length c1), (1, .int .i64 p1)]) ?_ (Sub.cons g13_ (Sub.cons (ib 5 _ rfl) (Sub.cons (ib 0 _ rfl) (Sub.cons (ib 1 _ rfl) Sub.nil))))
              exact X.sub (Jj61 _ _ ⟨s93, false, hm, m0, h1, rfl, rfl⟩) (Sub.cons rfl (Sub.cons rfl (Sub.cons rfl (Sub.cons rfl Sub.nil))))
    · intro J94
      rcases ifS eb57 with ⟨hc, hm⟩ | ⟨hc, hm⟩
      · refine L.know (d := 17) rfl hc ?_
        refine L.skip rfl rfl rfl rfl ?_
        refine L.skip rfl rfl rfl rfl ?_
        refine L.skip rfl rfl rfl rfl ?_
        refine L.skip rfl rfl rfl rfl ?_
        refine L.skip rfl rfl rfl rfl ?_
        refine L.skip rfl rfl rfl rfl ?_
        refine L.pkT Wt.no rfl rfl rfl rfl ?_
        exact L.sub (Sub.cons rfl (Sub.cons rfl (Sub.cons rfl (Sub.cons rfl Sub.nil)))) (J94 _ _ ⟨true, (Option.some.inj hm).symm, rfl, rfl⟩)
      · refine L.know (d := 17) rfl hc ?_
        refine L.mv (Wt.mk rfl rfl) rfl rfl ?_
        refine L.mv (Wt.mk rfl rfl) rfl rfl ?_
        obtain ⟨x95, ex95, hm⟩ := bindS hm
        refine L.ix (r := (rK .i64)) sl28 h1 (Wt.mk rfl rfl) rfl rfl ex95 rfl ?_
        rintro b96 o96 cc96 me96 rd96
        obtain rfl := rd96
        refine L.ld (j := 0) me96 nag3 (Wt.mk rfl rfl) rfl rfl rfl rfl ?_
        refine L.mv (Wt.mk rfl rfl) rfl rfl ?_
        refine L.bi (Wt.mk rfl rfl) rfl rfl rfl rfl ?_
        refine L.pkF Wt.no rfl rfl rfl rfl ?_
        exact L.sub (Sub.cons rfl (Sub.cons rfl (Sub.cons rfl (Sub.cons rfl Sub.nil)))) (J94 _ _ ⟨(decide (x95 ≥ p1)), (Option.some.inj hm).symm, rfl, rfl⟩)
  · refine E.cF rfl hc ?_
    refine E.exit ?_
    refine X.seqX ?_
    refine X.seqX ?_
    have hx := ho46 _ (Option.some.inj hm).symm
    exact X.sub (K51 _ _ ⟨s48, (), hx.symm, m0, rfl, rfl⟩) Sub.nil

theorem nag34 : NAg Try.prog 34 := NAg.mk' Try.underlying34 rfl (by kernel_rfl)
theorem sl76 : Sl Try.prog 76 34 1 := Sl.mk' Try.underlying76 (by kernel_rfl)
noncomputable def m_overseerlaw04_first_l1 (p0 : List Int) (st8 : Int) : Option (Int ⊕ (Unit ⊕ Int)) :=
  if decide (st8 < (p0.length : Int)) then
    (idx p0 st8).bind fun x17 =>
    if (x17 != 0) then
      (idx p0 st8).bind fun x19 =>
      some (.inr (.inr (x19)))
    else
      some (.inl (W (st8 + 1)))
  else
    some (.inr (.inl ()))
/-- What overseerlaw04.first computes. -/
noncomputable def m_overseerlaw04_first (p0 : List Int) : Option Int :=
  (iter (m_overseerlaw04_first_l1 p0) 0).bind fun o8 =>
  match o8 with
  | .inl u11 =>
    some 0
  | .inr (u14) =>
    some u14
set_option maxRecDepth 100000 in
set_option maxHeartbeats 8000000 in
theorem m_overseerlaw04_first_c {s : Sig} {p0 : List Int} {a1 : Option Addr} {c1 : Nat} {r : Int} (h1 : RdL (rK .i64) s a1 c1 p0) (hm : m_overseerlaw04_first p0 = some r) :
    Calls Try.prog 45 #[.slice a1 p0.length c1] s.w (RetS No s fun v s' => v = .int .i64 r) := by
  unfold m_overseerlaw04_first at hm
  obtain ⟨N, hN, hNb⟩ := s.fresh
  have m0 : Mv (Up N No) s s := Mv.refl _ _
  refine E.entry (vs := [.slice a1 p0.length c1]) (e := [(0, .slice a1 p0.length c1)]) Try.func45 rfl Try.ntmps45 rfl rfl ?_
  refine E.seq ?_
  refine E.reg ?_
  refine L.as Wt.no rfl rfl ?_
  refine L.nil ?_
  refine X.seqN ?_
  refine E.seq ?_
  refine E.seq ?_
  refine E.reg ?_
  refine L.as Wt.no rfl rfl ?_
  refine L.nil ?_
  refine X.seqN ?_
  refine E.block ?_
  obtain ⟨o8, eo8, hm⟩ := bindS hm
  refine E.cut (x := .exit 0) (fun e w => ∃ (s12 : Sig) (u11 : Unit), o8 = .inl u11 ∧ Mv (Up N No) s s12 ∧ e = [] ∧ w = s12.w) ?_ ?_
  · rintro _ _ ⟨s12, u11, rfl, m0, rfl, rfl⟩
    dsimp only at hm
    refine X.blkE ?_
    refine X.seqN ?_
    refine E.seq ?_
    refine E.reg ?_
    refine L.as Wt.no rfl rfl ?_
    refine L.nil ?_
    refine X.seqN ?_
    refine E.ret ?_
    obtain rfl := Option.some.inj hm
    exact X.rt (.inl rfl) Try.results45 (Rs.tmp rfl Rs.nil) rfl ⟨_, (s12).ren N (fun _ => 0), rfl, rfl, m0.ren hNb, rfl⟩
  intro K13
  refine E.cut (x := .ret) (fun e w => ∃ (s15 : Sig) (u14 : Int), o8 = .inr (u14) ∧ Mv (Up N No) s s15 ∧ e = [(2, .int .i64 u14)] ∧ w = s15.w) ?_ ?_
  · rintro _ _ ⟨s15, u14, rfl, m0, rfl, rfl⟩
    dsimp only at hm
    refine X.blkR ?_
    refine X.seqR ?_
    obtain rfl := Option.some.inj hm
    exact X.rt (.inl rfl) Try.results45 (Rs.tmp rfl Rs.nil) rfl ⟨_, (s15).ren N (fun _ => 0), rfl, rfl, m0.ren hNb, rfl⟩
  intro K16
  refine E.iter (fun (st8 : Int) (e : List (Nat × Value)) (w : World) => ∃ (s10 : Sig), Mv (Up N No) s s10 ∧ RdL (rK .i64) s10 a1 c1 p0 ∧ e = [(3, .int .i64 st8), (0, .slice a1 p0.length c1)] ∧ w = s10.w) eo8 ⟨s, m0, h1, rfl, rfl⟩ (Sub.cons rfl (Sub.cons rfl Sub.nil)) ?_
  rintro st8 res8 hm ih8 ho8 _ _ ⟨s10, m0, h1, rfl, rfl⟩
  unfold m_overseerlaw04_first_l1 at hm
  refine E.seq ?_
  refine E.seq ?_
  refine E.reg ?_
  refine L.mv Wt.no rfl rfl ?_
  refine L.mv Wt.no rfl rfl ?_
  refine L.len sl76 Wt.no rfl rfl ?_
  refine L.bi Wt.no rfl rfl rfl rfl ?_
  refine L.nil ?_
  refine X.seqN ?_
  rcases ifS hm with ⟨hc, hm⟩ | ⟨hc, hm⟩
  · refine E.cT rfl hc ?_
    refine E.skip ?_
    refine X.seqN ?_
    refine E.seq ?_
    refine E.block ?_
    refine E.seq ?_
    refine E.reg ?_
    refine L.mv Wt.no rfl rfl ?_
    refine L.mv Wt.no rfl rfl ?_
    obtain ⟨x17, ex17, hm⟩ := bindS hm
    refine L.ix (r := (rK .i64)) sl76 h1 Wt.no rfl rfl ex17 rfl ?_
    rintro b18 o18 cc18 me18 rd18
    obtain rfl := rd18
    refine L.ld (j := 0) me18 nag34 Wt.no rfl rfl rfl rfl ?_
    refine L.bi Wt.no rfl rfl rfl rfl ?_
    refine L.nil ?_
    refine X.seqN ?_
    rcases ifS hm with ⟨hc, hm⟩ | ⟨hc, hm⟩
    · refine E.cT rfl hc ?_
      refine E.seq ?_
      refine E.reg ?_
      refine L.mv Wt.no rfl rfl ?_
      refine L.mv Wt.no rfl rfl ?_
      obtain ⟨x19, ex19, hm⟩ := bindS hm
      refine L.ix (r := (rK .i64)) sl76 h1 Wt.no rfl rfl ex19 rfl ?_
      rintro b20 o20 cc20 me20 rd20
      obtain rfl := rd20
      refine L.ld (j := 0) me20 nag34 Wt.no rfl rfl rfl rfl ?_
      refine L.as Wt.no rfl rfl ?_
      refine L.nil ?_
      refine X.seqN ?_
      refine E.ret ?_
      refine X.blkR ?_
      refine X.seqR ?_
      refine X.seqR ?_
      have hx := ho8 _ (Option.some.inj hm).symm
      exact X.sub (K16 _ _ ⟨s10, x19, hx.symm, m0, rfl, rfl⟩) (Sub.cons rfl Sub.nil)
    · refine E.cF rfl hc ?_
      refine E.skip ?_
      refine X.blkN ?_
      refine X.seqN ?_
      refine E.reg ?_
      refine L.mv Wt.no rfl rfl ?_
      refine L.bi Wt.no rfl rfl rfl rfl ?_
      refine L.as Wt.no rfl rfl ?_
      refine L.nil ?_
      exact X.sub (ih8 _ (Option.some.inj hm).symm _ _ ⟨s10, m0, h1, rfl, rfl⟩) (Sub.cons rfl (Sub.cons rfl Sub.nil))
  · refine E.cF rfl hc ?_
    refine E.exit ?_
    refine X.seqX ?_
    refine X.seqX ?_
    have hx := ho8 _ (Option.some.inj hm).symm
    exact X.sub (K13 _ _ ⟨s10, (), hx.symm, m0, rfl, rfl⟩) Sub.nil

theorem bs76 : Bs Try.prog 76 34 1 [.int .i64 0] := Bs.mk' Try.underlying76 (by kernel_rfl) (by kernel_rfl) rfl
theorem cf12 : Cf Try.prog 12 := Cf.mk Try.func12 (by kernel_rfl) (by kernel_rfl)
theorem cf15 : Cf Try.prog 15 := Cf.mk Try.func15 (by kernel_rfl) (by kernel_rfl)
theorem cf17 : Cf Try.prog 17 := Cf.mk Try.func17 (by kernel_rfl) (by kernel_rfl)
theorem cf22 : Cf Try.prog 22 := Cf.mk Try.func22 (by kernel_rfl) (by kernel_rfl)
theorem cf23 : Cf Try.prog 23 := Cf.mk Try.func23 (by kernel_rfl) (by kernel_rfl)
theorem cf26 : Cf Try.prog 26 := Cf.mk Try.func26 (by kernel_rfl) (by kernel_rfl)
theorem cf27 : Cf Try.prog 27 := Cf.mk Try.func27 (by kernel_rfl) (by kernel_rfl)
theorem cf28 : Cf Try.prog 28 := Cf.mk Try.func28 (by kernel_rfl) (by kernel_rfl)
theorem cf32 : Cf Try.prog 32 := Cf.mk Try.func32 (by kernel_rfl) (by kernel_rfl)
theorem cf34 : Cf Try.prog 34 := Cf.mk Try.func34 (by kernel_rfl) (by kernel_rfl)
theorem cf35 : Cf Try.prog 35 := Cf.mk Try.func35 (by kernel_rfl) (by kernel_rfl)
theorem cf37 : Cf Try.prog 37 := Cf.mk Try.func37 (by kernel_rfl) (by kernel_rfl)
theorem cf40 : Cf Try.prog 40 := Cf.mk Try.func40 (by kernel_rfl) (by kernel_rfl)
theorem cf42 : Cf Try.prog 42 := Cf.mk Try.func42 (by kernel_rfl) (by kernel_rfl)
theorem cf44 : Cf Try.prog 44 := Cf.mk Try.func44 (by kernel_rfl) (by kernel_rfl)
theorem cf45 : Cf Try.prog 45 := Cf.mk Try.func45 (by kernel_rfl) (by kernel_rfl)
theorem pl31 : Pl Try.prog 31 [(0, 1), (1, 1), (2, 1), (3, 1)] [.slice none 0 0, .int .i64 0, .slice none 0 0, .slice none 0 0] := Pl.str Try.underlying31 (by kernel_rfl) (by kernel_rfl)
theorem zz31 : (Try.prog.info? 31).bind (·.zero) = some (.agg #[.slice none 0 0, .int .i64 0, .slice none 0 0, .slice none 0 0]) := by kernel_rfl
noncomputable def m_overseerlaw04_ReachRefuses_j1 (p0 : List Int × Int × List Int × (List (Int × Int × Int))) (p1 : List Int) (r20 : Int) (r23 : Int) (n106 : Int) : Option Bool :=
  (m_reach_Path p0 0 p1 p1).bind fun r109 =>
  (m_overseerlaw04_first ([r20, n106, r23] : List Int)).bind fun r116 =>
  some ((r109.2.2 == r116) && ((r109.2.2 == 0) || (((r109.1.length : Int) == 0) && (!r109.2.1))))
/-- What overseerlaw04.ReachRefuses computes. -/
noncomputable def m_overseerlaw04_ReachRefuses (p0 : List Int × Int × List Int × (List (Int × Int × Int))) (p1 : List Int) (p2 : List Int) : Option Bool :=
  (m_overseerlaw04_known).bind fun r9 =>
  (if (!r9) then
    some true
  else
    (m_overseerlaw04_few p0).bind fun r164 =>
    some (!r164)).bind fun b12 =>
  if ((b12 || (decide ((p1.length : Int) > 5))) || (decide ((p2.length : Int) > 5))) then
    (m_overseerlaw04_known).bind fun r17 =>
    some r17
  else
    (m_automaton_Check p0).bind fun r20 =>
    (m_overseerref04_Set p1 (if p0.2.1 < 0 then 0 else p0.2.1)).bind fun r23 =>
    (m_overseerref04_Set p2 32).bind fun r26 =>
    (m_reach_Reachable p0).bind fun r29 =>
    (m_reach_Coreachable p0).bind fun r33 =>
    (m_reach_Trim p0).bind fun r37 =>
    (m_reach_Components p0).bind fun r48 =>
    (m_reach_Dead p0).bind fun r52 =>
    if (((((r29.2 != r20) || (r33.2 != r20)) || (r37.2 != r20)) || (r48.2 != r20)) || (r52.2 != r20)) then
      some false
    else
      (m_reach_Distances p0 p1).bind fun r60 =>
      (m_reach_Restrict p0 p1).bind fun r64 =>
      (m_reach_Closed p0 p1 p2).bind fun r75 =>
      (m_reach_Interior p0 p1 p2).bind fun r78 =>
      (m_reach_Cycle p0 p2).bind fun r82 =>
      (m_overseerlaw04_first ([r20, r23] : List Int)).bind fun r90 =>
      (if ((r60.2 != r90) || (r64.2 != r60.2)) then
        some true
      else
        (m_overseerlaw04_first ([r20, r23, r26] : List Int)).bind fun r153 =>
        some (r75.2 != r153)).bind fun b94 =>
      (if (b94 || (r78.2 != r75.2)) then
        some true
      else
        (m_overseerlaw04_first ([r20, r26] : List Int)).bind fun r145 =>
        some (r82.2.2.2 != r145)).bind fun b98 =>
      if b98 then
        some false
      else
        (if (r60.2 != 0) then
          (if decide ((r60.1.length : Int) > 0) then
            some true
          else
            (m_overseerlaw04_equal r64.1 (([] : List Int), 0, ([] : List Int), ([] : List (Int × Int × Int)))).bind fun r138 =>
            some (!r138)).bind fun b134 =>
          some b134
        else
          some false).bind fun b101 =>
        if ((b101 || ((r78.2 != 0) && (decide ((r78.1.length : Int) > 0)))) || ((r82.2.2.2 != 0) && ((decide ((W ((r82.1.length : Int) + (r82.2.1.length : Int))) > 0)) || r82.2.2.1))) then
          some false
        else
          if decide (p0.2.1 < 1) then
            m_overseerlaw04_ReachRefuses_j1 p0 p1 r20 r23 2
          else
            m_overseerlaw04_ReachRefuses_j1 p0 p1 r20 r23 0
set_option maxRecDepth 100000 in
set_option maxHeartbeats 8000000 in
theorem m_overseerlaw04_ReachRefuses_c {s : Sig} {p0 : List Int × Int × List Int × (List (Int × Int × Int))} {p1 : List Int} {p2 : List Int} {a1 : Option Addr} {c1 : Nat} {a2 : Option Addr} {c2 : Nat} {a3 : Option Addr} {c3 : Nat} {a4 : Option Addr} {c4 : Nat} {a5 : Option Addr} {c5 : Nat} {r : Bool} (h1 : RdL (rK .i64) s a1 c1 p0.1) (h2 : RdL (rK .i64) s a2 c2 p0.2.2.1) (h3 : RdL (rP (rK .i64) (rP (rK .i64) (rK .i64))) s a3 c3 p0.2.2.2) (h4 : RdL (rK .i64) s a4 c4 p1) (h5 : RdL (rK .i64) s a5 c5 p2) (hm : m_overseerlaw04_ReachRefuses p0 p1 p2 = some r) :
    Calls Try.prog 11 #[.agg #[.slice a1 p0.1.length c1, .int .i64 p0.2.1, .slice a2 p0.2.2.1.length c2, .slice a3 p0.2.2.2.length c3], .slice a4 p1.length c4, .slice a5 p2.length c5] s.w (RetS No s fun v s' => v = .bool r) := by
  unfold m_overseerlaw04_ReachRefuses at hm
  obtain ⟨N, hN, hNb⟩ := s.fresh
  have m0 : Mv (Up N No) s s := Mv.refl _ _
  refine E.entry (vs := [.agg #[.slice a1 p0.1.length c1, .int .i64 p0.2.1, .slice a2 p0.2.2.1.length c2, .slice a3 p0.2.2.2.length c3], .slice a4 p1.length c4, .slice a5 p2.length c5]) (e := [(0, .agg #[.slice a1 p0.1.length c1, .int .i64 p0.2.1, .slice a2 p0.2.2.1.length c2, .slice a3 p0.2.2.2.length c3]), (1, .slice a4 p1.length c4), (2, .slice a5 p2.length c5)]) Try.func11 rfl Try.ntmps11 rfl rfl ?_
  refine E.seq ?_
  refine E.reg ?_
  refine L.box (N + 0) Wt.no rfl rfl rfl ?_
  intro b6 s7 m8 bx6
  replace m0 := m0.trans m8.no
  replace h4 := h4.mono (m8.le no_No)
  replace h5 := h5.mono (m8.le no_No)
  replace h1 := h1.mono (m8.le no_No)
  replace h2 := h2.mono (m8.le no_No)
  replace h3 := h3.mono (m8.le no_No)
  refine L.as Wt.no rfl rfl ?_
  refine L.nil ?_
  refine X.seqN ?_
  refine E.seq ?_
  refine E.seq ?_
  refine E.reg ?_
  obtain ⟨r9, er9, hm⟩ := bindS hm
  refine L.ca (vs := []) cf12 rfl rfl Wt.no rfl (m_overseerlaw04_known_c (s := s7) er9) rfl ?_
  rintro _ s10 m11 rfl
  replace m0 := m0.trans m11.no
  replace h4 := h4.mono (m11.le no_No)
  replace h5 := h5.mono (m11.le no_No)
  replace bx6 := bx6.mv m11 no_No
  replace h1 := h1.mono (m11.le no_No)
  replace h2 := h2.mono (m11.le no_No)
  replace h3 := h3.mono (m11.le no_No)
  refine L.not Wt.no rfl rfl ?_
  refine L.mv Wt.no rfl rfl ?_
  obtain ⟨b12, eb12, hm⟩ := bindS hm
  refine L.cut 4 (fun e w => ∃ (s14 : Sig) (v13 : Bool), b12 = v13 ∧ Mv (Up N No) s s14 ∧ RdL (rK .i64) s14 a4 c4 p1 ∧ RdL (rK .i64) s14 a5 c5 p2 ∧ RdL (rK .i64) s14 a1 c1 p0.1 ∧ RdL (rK .i64) s14 a2 c2 p0.2.2.1 ∧ RdL (rP (rK .i64) (rP (rK .i64) (rK .i64))) s14 a3 c3 p0.2.2.2 ∧ Bx s14 (N + 0) b6 #[.slice a1 p0.1.length c1, .int .i64 p0.2.1, .slice a2 p0.2.2.1.length c2, .slice a3 p0.2.2.2.length c3] 31 ∧ e = (42, .bool v13) :: [(3, .pointer (some ⟨b6, 0, none⟩)), (1, .slice a4 p1.length c4), (2, .slice a5 p2.length c5)] ∧ w = s14.w) ?_ ?_
  · rintro _ _ ⟨s14, v13, rfl, m0, h4, h5, h1, h2, h3, bx6, rfl, rfl⟩
    refine L.mv Wt.no rfl rfl ?_
    refine L.cut 4 (fun e w => ∃ (v15 : Bool), (b12 || (decide ((p1.length : Int) > 5))) = v15 ∧ e = (47, .bool v15) :: [(3, .pointer (some ⟨b6, 0, none⟩)), (1, .slice a4 p1.length c4), (2, .slice a5 p2.length c5)] ∧ w = s14.w) ?_ ?_
    · rintro _ _ ⟨v15, rfl, rfl, rfl⟩
      refine L.mv Wt.no rfl rfl ?_
      refine L.cut 4 (fun e w => ∃ (v16 : Bool), ((b12 || (decide ((p1.length : Int) > 5))) || (decide ((p2.length : Int) > 5))) = v16 ∧ e = (52, .bool v16) :: [(3, .pointer (some ⟨b6, 0, none⟩)), (1, .slice a4 p1.length c4), (2, .slice a5 p2.length c5)] ∧ w = s14.w) ?_ ?_
      · rintro _ _ ⟨v16, rfl, rfl, rfl⟩
        refine L.nil ?_
        refine X.seqN ?_
        rcases ifS hm with ⟨hc, hm⟩ | ⟨hc, hm⟩
        · refine E.cT rfl hc ?_
          refine E.seq ?_
          refine E.reg ?_
          obtain ⟨r17, er17, hm⟩ := bindS hm
          refine L.ca (vs := []) cf12 rfl rfl Wt.no rfl (m_overseerlaw04_known_c (s := s14) er17) rfl ?_
          rintro _ s18 m19 rfl
          replace m0 := m0.trans m19.no
          refine L.as Wt.no rfl rfl ?_
          refine L.nil ?_
          refine X.seqN ?_
          refine E.ret ?_
          refine X.seqR ?_
          obtain rfl := Option.some.inj hm
          exact X.rt (.inl rfl) Try.results11 (Rs.tmp rfl Rs.nil) rfl ⟨_, (s18).ren N (fun _ => 0), rfl, rfl, m0.ren hNb, rfl⟩
        · refine E.cF rfl hc ?_
          refine E.skip ?_
          refine X.seqN ?_
          refine E.seq ?_
          refine E.reg ?_
          refine L.lg (j := 0) (cs := [.slice a1 p0.1.length c1, .int .i64 p0.2.1, .slice a2 p0.2.2.1.length c2, .slice a3 p0.2.2.2.length c3]) bx6.mem ag31 Wt.no rfl rfl rfl rfl rfl ?_
          obtain ⟨r20, er20, hm⟩ := bindS hm
          refine L.ca (vs := [.agg #[.slice a1 p0.1.length c1, .int .i64 p0.2.1, .slice a2 p0.2.2.1.length c2, .slice a3 p0.2.2.2.length c3]]) cf43 rfl rfl Wt.no rfl (m_automaton_Check_c (s := s14) (p0 := p0) h1 h2 h3 er20) rfl ?_
          rintro _ s21 m22 rfl
          replace m0 := m0.trans m22.no
          replace h4 := h4.mono (m22.le no_No)
          replace h5 := h5.mono (m22.le no_No)
          replace bx6 := bx6.mv m22 no_No
          replace h1 := h1.mono (m22.le no_No)
          replace h2 := h2.mono (m22.le no_No)
          replace h3 := h3.mono (m22.le no_No)
          refine L.as Wt.no rfl rfl ?_
          refine L.nil ?_
          refine X.seqN ?_
          refine E.seq ?_
          refine E.reg ?_
          refine L.mv Wt.no rfl rfl ?_
          refine L.fa fa31_1 Wt.no rfl rfl ?_
          refine L.ld (j := 1) bx6.mem nag3 Wt.no rfl rfl rfl rfl ?_
          refine L.max Wt.no rfl rfl rfl ?_
          obtain ⟨r23, er23, hm⟩ := bindS hm
          refine L.ca (vs := [.slice a4 p1.length c4, .int .i64 (if p0.2.1 < 0 then 0 else p0.2.1)]) cf44 rfl rfl Wt.no rfl (m_overseerref04_Set_c (s := s21) (p0 := p1) (p1 := (if p0.2.1 < 0 then 0 else p0.2.1)) h4 er23) rfl ?_
          rintro _ s24 m25 rfl
          replace m0 := m0.trans m25.no
          replace h4 := h4.mono (m25.le no_No)
          replace h5 := h5.mono (m25.le no_No)
          replace bx6 := bx6.mv m25 no_No
          replace h1 := h1.mono (m25.le no_No)
          replace h2 := h2.mono (m25.le no_No)
          replace h3 := h3.mono (m25.le no_No)
          refine L.mv Wt.no rfl rfl ?_
          obtain ⟨r26, er26, hm⟩ := bindS hm
          refine L.ca (vs := [.slice a5 p2.length c5, .int .i64 32]) cf44 rfl rfl Wt.no rfl (m_overseerref04_Set_c (s := s24) (p0 := p2) (p1 := 32) h5 er26) rfl ?_
          rintro _ s27 m28 rfl
          replace m0 := m0.trans m28.no
          replace h4 := h4.mono (m28.le no_No)
          replace h5 := h5.mono (m28.le no_No)
          replace bx6 := bx6.mv m28 no_No
          replace h1 := h1.mono (m28.le no_No)
          replace h2 := h2.mono (m28.le no_No)
          replace h3 := h3.mono (m28.le no_No)
          refine L.as Wt.no rfl rfl ?_
          refine L.as Wt.no rfl rfl ?_
          refine L.nil ?_
          refine X.seqN ?_
          refine E.seq ?_
          refine E.reg ?_
          refine L.lg (j := 0) (cs := [.slice a1 p0.1.length c1, .int .i64 p0.2.1, .slice a2 p0.2.2.1.length c2, .slice a3 p0.2.2.2.length c3]) bx6.mem ag31 Wt.no rfl rfl rfl rfl rfl ?_
          obtain ⟨r29, er29, hm⟩ := bindS hm
          refine L.ca (vs := [.agg #[.slice a1 p0.1.length c1, .int .i64 p0.2.1, .slice a2 p0.2.2.1.length c2, .slice a3 p0.2.2.2.length c3]]) cf26 rfl rfl Wt.no rfl (m_reach_Reachable_c (s := s27) (p0 := p0) h1 h2 h3 er29) rfl ?_
          rintro _ s30 m31 ⟨a32, c32, rfl⟩
          replace m0 := m0.trans m31.no
          replace h4 := h4.mono (m31.le no_No)
          replace h5 := h5.mono (m31.le no_No)
          replace bx6 := bx6.mv m31 no_No
          replace h1 := h1.mono (m31.le no_No)
          replace h2 := h2.mono (m31.le no_No)
          replace h3 := h3.mono (m31.le no_No)
          refine L.mv Wt.no rfl rfl ?_
          refine L.ex Wt.no rfl rfl rfl ?_
          refine L.ex Wt.no rfl rfl rfl ?_
          refine L.as Wt.no rfl rfl ?_
          refine L.as Wt.no rfl rfl ?_
          refine L.nil ?_
          refine X.seqN ?_
          refine E.seq ?_
          refine E.reg ?_
          refine L.lg (j := 0) (cs := [.slice a1 p0.1.length c1, .int .i64 p0.2.1, .slice a2 p0.2.2.1.length c2, .slice a3 p0.2.2.2.length c3]) bx6.mem ag31 Wt.no rfl rfl rfl rfl rfl ?_
          obtain ⟨r33, er33, hm⟩ := bindS hm
          refine L.ca (vs := [.agg #[.slice a1 p0.1.length c1, .int .i64 p0.2.1, .slice a2 p0.2.2.1.length c2, .slice a3 p0.2.2.2.length c3]]) cf27 rfl rfl Wt.no rfl (m_reach_Coreachable_c (s := s30) (p0 := p0) h1 h2 h3 er33) rfl ?_
          rintro _ s34 m35 ⟨a36, c36, rfl⟩
          replace m0 := m0.trans m35.no
          replace h4 := h4.mono (m35.le no_No)
          replace h5 := h5.mono (m35.le no_No)
          replace bx6 := bx6.mv m35 no_No
          replace h1 := h1.mono (m35.le no_No)
          replace h2 := h2.mono (m35.le no_No)
          replace h3 := h3.mono (m35.le no_No)
          refine L.mv Wt.no rfl rfl ?_
          refine L.ex Wt.no rfl rfl rfl ?_
          refine L.ex Wt.no rfl rfl rfl ?_
          refine L.as Wt.no rfl rfl ?_
          refine L.as Wt.no rfl rfl ?_
          refine L.nil ?_
          refine X.seqN ?_
          refine E.seq ?_
          refine E.reg ?_
          refine L.lg (j := 0) (cs := [.slice a1 p0.1.length c1, .int .i64 p0.2.1, .slice a2 p0.2.2.1.length c2, .slice a3 p0.2.2.2.length c3]) bx6.mem ag31 Wt.no rfl rfl rfl rfl rfl ?_
          obtain ⟨r37, er37, hm⟩ := bindS hm
          refine L.ca (vs := [.agg #[.slice a1 p0.1.length c1, .int .i64 p0.2.1, .slice a2 p0.2.2.1.length c2, .slice a3 p0.2.2.2.length c3]]) cf34 rfl rfl Wt.no rfl (m_reach_Trim_c (s := s34) (p0 := p0) h1 h2 h3 er37) rfl ?_
          rintro _ s38 m39 ⟨a40, c40, a41, c41, a42, c42, rfl, h40, h41, h42⟩
          replace m0 := m0.trans m39.no
          replace h4 := h4.mono (m39.le no_No)
          replace h5 := h5.mono (m39.le no_No)
          replace bx6 := bx6.mv m39 no_No
          replace h1 := h1.mono (m39.le no_No)
          replace h2 := h2.mono (m39.le no_No)
          replace h3 := h3.mono (m39.le no_No)
          refine L.mv Wt.no rfl rfl ?_
          refine L.ex Wt.no rfl rfl rfl ?_
          refine L.ex Wt.no rfl rfl rfl ?_
          refine L.al (N + 1) zz31 rfl Wt.no rfl ?_
          intro b43 s44 m45 bx43
          replace m0 := m0.trans m45.no
          replace h4 := h4.mono (m45.le no_No)
          replace h5 := h5.mono (m45.le no_No)
          replace h40 := h40.mono (m45.le no_No)
          replace h41 := h41.mono (m45.le no_No)
          replace h42 := h42.mono (m45.le no_No)
          replace bx6 := bx6.mv m45 no_No
          replace h1 := h1.mono (m45.le no_No)
          replace h2 := h2.mono (m45.le no_No)
          replace h3 := h3.mono (m45.le no_No)
          refine L.st (c := [.slice a40 r37.1.1.length c40, .int .i64 r37.1.2.1, .slice a41 r37.1.2.2.1.length c41, .slice a42 r37.1.2.2.2.length c42]) (cs' := #[.slice a40 r37.1.1.length c40, .int .i64 r37.1.2.1, .slice a41 r37.1.2.2.1.length c41, .slice a42 r37.1.2.2.2.length c42]) bx43 ag31.sz Wt.no rfl rfl rfl rfl rfl (Nat.le_of_ble_eq_true rfl) rfl ?_
          intro s46 m47 bx43
          replace m0 := m0.trans (m47.one up)
          replace h4 := h4.mono (m47.le (tg0 hN))
          replace h5 := h5.mono (m47.le (tg0 hN))
          replace bx6 := bx6.mv m47 (tgN (by decide))
          replace h1 := h1.mono (m47.le (tg0 hN))
          replace h2 := h2.mono (m47.le (tg0 hN))
          replace h3 := h3.mono (m47.le (tg0 hN))
          refine L.as Wt.no rfl rfl ?_
          refine L.nil ?_
          refine X.seqN ?_
          refine E.seq ?_
          refine E.reg ?_
          refine L.lg (j := 0) (cs := [.slice a1 p0.1.length c1, .int .i64 p0.2.1, .slice a2 p0.2.2.1.length c2, .slice a3 p0.2.2.2.length c3]) bx6.mem ag31 Wt.no rfl rfl rfl rfl rfl ?_
          obtain ⟨r48, er48, hm⟩ := bindS hm
          refine L.ca (vs := [.agg #[.slice a1 p0.1.length c1, .int .i64 p0.2.1, .slice a2 p0.2.2.1.length c2, .slice a3 p0.2.2.2.length c3]]) cf40 rfl rfl Wt.no rfl (m_reach_Components_c (s := s46) (p0 := p0) (u0 := 0) h1 h2 h3 er48) rfl ?_
          rintro _ s49 m50 ⟨a51, c51, rfl, h51⟩
          replace h51 := h51.p
          replace m0 := m0.trans m50.no
          replace h4 := h4.mono (m50.le no_No)
          replace h5 := h5.mono (m50.le no_No)
          replace bx6 := bx6.mv m50 no_No
          replace h1 := h1.mono (m50.le no_No)
          replace h2 := h2.mono (m50.le no_No)
          replace h3 := h3.mono (m50.le no_No)
          refine L.mv Wt.no rfl rfl ?_
          refine L.ex Wt.no rfl rfl rfl ?_
          refine L.ex Wt.no rfl rfl rfl ?_
          refine L.as Wt.no rfl rfl ?_
          refine L.as Wt.no rfl rfl ?_
          refine L.nil ?_
          refine X.seqN ?_
          refine E.seq ?_
          refine E.reg ?_
          refine L.lg (j := 0) (cs := [.slice a1 p0.1.length c1, .int .i64 p0.2.1, .slice a2 p0.2.2.1.length c2, .slice a3 p0.2.2.2.length c3]) bx6.mem ag31 Wt.no rfl rfl rfl rfl rfl ?_
          obtain ⟨r52, er52, hm⟩ := bindS hm
          refine L.ca (vs := [.agg #[.slice a1 p0.1.length c1, .int .i64 p0.2.1, .slice a2 p0.2.2.1.length c2, .slice a3 p0.2.2.2.length c3]]) cf28 rfl rfl Wt.no rfl (m_reach_Dead_c (s := s49) (p0 := p0) h1 h2 h3 er52) rfl ?_
          rintro _ s53 m54 ⟨a55, c55, rfl⟩
          replace m0 := m0.trans m54.no
          replace h4 := h4.mono (m54.le no_No)
          replace h5 := h5.mono (m54.le no_No)
          replace bx6 := bx6.mv m54 no_No
          replace h1 := h1.mono (m54.le no_No)
          replace h2 := h2.mono (m54.le no_No)
          replace h3 := h3.mono (m54.le no_No)
          refine L.mv Wt.no rfl rfl ?_
          refine L.ex Wt.no rfl rfl rfl ?_
          refine L.ex Wt.no rfl rfl rfl ?_
          refine L.as Wt.no rfl rfl ?_
          refine L.as Wt.no rfl rfl ?_
          refine L.nil ?_
          refine X.seqN ?_
          refine E.seq ?_
          refine E.seq ?_
          refine E.reg ?_
          refine L.mv Wt.no rfl rfl ?_
          refine L.mv Wt.no rfl rfl ?_
          refine L.bi Wt.no rfl rfl rfl rfl ?_
          refine L.mv Wt.no rfl rfl ?_
          refine L.cut 4 (fun e w => ∃ (v56 : Bool), ((r29.2 != r20) || (r33.2 != r20)) = v56 ∧ e = (95, .bool v56) :: [(19, .int .i64 r52.2), (17, .int .i64 r48.2), (15, .int .i64 r37.2), (9, .int .i64 r26), (8, .int .i64 r23), (7, .int .i64 r20), (3, .pointer (some ⟨b6, 0, none⟩)), (1, .slice a4 p1.length c4), (2, .slice a5 p2.length c5)] ∧ w = s53.w) ?_ ?_
          · rintro _ _ ⟨v56, rfl, rfl, rfl⟩
            refine L.mv Wt.no rfl rfl ?_
            refine L.cut 4 (fun e w => ∃ (v57 : Bool), (((r29.2 != r20) || (r33.2 != r20)) || (r37.2 != r20)) = v57 ∧ e = (100, .bool v57) :: [(19, .int .i64 r52.2), (17, .int .i64 r48.2), (9, .int .i64 r26), (8, .int .i64 r23), (7, .int .i64 r20), (3, .pointer (some ⟨b6, 0, none⟩)), (1, .slice a4 p1.length c4), (2, .slice a5 p2.length c5)] ∧ w = s53.w) ?_ ?_
            · rintro _ _ ⟨v57, rfl, rfl, rfl⟩
              refine L.mv Wt.no rfl rfl ?_
              refine L.cut 4 (fun e w => ∃ (v58 : Bool), ((((r29.2 != r20) || (r33.2 != r20)) || (r37.2 != r20)) || (r48.2 != r20)) = v58 ∧ e = (105, .bool v58) :: [(19, .int .i64 r52.2), (9, .int .i64 r26), (8, .int .i64 r23), (7, .int .i64 r20), (3, .pointer (some ⟨b6, 0, none⟩)), (1, .slice a4 p1.length c4), (2, .slice a5 p2.length c5)] ∧ w = s53.w) ?_ ?_
              · rintro _ _ ⟨v58, rfl, rfl, rfl⟩
                refine L.mv Wt.no rfl rfl ?_
                refine L.cut 4 (fun e w => ∃ (v59 : Bool), (((((r29.2 != r20) || (r33.2 != r20)) || (r37.2 != r20)) || (r48.2 != r20)) || (r52.2 != r20)) = v59 ∧ e = (110, .bool v59) :: [(9, .int .i64 r26), (8, .int .i64 r23), (7, .int .i64 r20), (3, .pointer (some ⟨b6, 0, none⟩)), (1, .slice a4 p1.length c4), (2, .slice a5 p2.length c5)] ∧ w = s53.w) ?_ ?_
                · rintro _ _ ⟨v59, rfl, rfl, rfl⟩
                  refine L.nil ?_
                  refine X.seqN ?_
                  rcases ifS hm with ⟨hc, hm⟩ | ⟨hc, hm⟩
                  · refine E.cT rfl hc ?_
                    refine E.seq ?_
                    refine E.reg ?_
                    refine L.as Wt.no rfl rfl ?_
                    refine L.nil ?_
                    refine X.seqN ?_
                    refine E.ret ?_
                    refine X.seqR ?_
                    obtain rfl := Option.some.inj hm
                    exact X.rt (.inl rfl) Try.results11 (Rs.tmp rfl Rs.nil) rfl ⟨_, (s53).ren N (fun _ => 0), rfl, rfl, m0.ren hNb, rfl⟩
                  · refine E.cF rfl hc ?_
                    refine E.skip ?_
                    refine X.seqN ?_
                    refine E.seq ?_
                    refine E.reg ?_
                    refine L.lg (j := 0) (cs := [.slice a1 p0.1.length c1, .int .i64 p0.2.1, .slice a2 p0.2.2.1.length c2, .slice a3 p0.2.2.2.length c3]) bx6.mem ag31 Wt.no rfl rfl rfl rfl rfl ?_
                    refine L.mv Wt.no rfl rfl ?_
                    obtain ⟨r60, er60, hm⟩ := bindS hm
                    refine L.ca (vs := [.agg #[.slice a1 p0.1.length c1, .int .i64 p0.2.1, .slice a2 p0.2.2.1.length c2, .slice a3 p0.2.2.2.length c3], .slice a4 p1.length c4]) cf15 rfl rfl Wt.no rfl (m_reach_Distances_c (s := s53) (p0 := p0) (p1 := p1) h1 h2 h3 h4 er60) rfl ?_
                    rintro _ s61 m62 ⟨a63, c63, rfl⟩
                    replace m0 := m0.trans m62.no
                    replace h4 := h4.mono (m62.le no_No)
                    replace h5 := h5.mono (m62.le no_No)
                    replace bx6 := bx6.mv m62 no_No
                    replace h1 := h1.mono (m62.le no_No)
                    replace h2 := h2.mono (m62.le no_No)
                    replace h3 := h3.mono (m62.le no_No)
                    refine L.mv Wt.no rfl rfl ?_
                    refine L.ex Wt.no rfl rfl rfl ?_
                    refine L.ex Wt.no rfl rfl rfl ?_
                    refine L.as Wt.no rfl rfl ?_
                    refine L.as Wt.no rfl rfl ?_
                    refine L.nil ?_
                    refine X.seqN ?_
                    refine E.seq ?_
                    refine E.reg ?_
                    refine L.lg (j := 0) (cs := [.slice a1 p0.1.length c1, .int .i64 p0.2.1, .slice a2 p0.2.2.1.length c2, .slice a3 p0.2.2.2.length c3]) bx6.mem ag31 Wt.no rfl rfl rfl rfl rfl ?_
                    refine L.mv Wt.no rfl rfl ?_
                    obtain ⟨r64, er64, hm⟩ := bindS hm
                    refine L.ca (vs := [.agg #[.slice a1 p0.1.length c1, .int .i64 p0.2.1, .slice a2 p0.2.2.1.length c2, .slice a3 p0.2.2.2.length c3], .slice a4 p1.length c4]) cf37 rfl rfl Wt.no rfl (m_reach_Restrict_c (s := s61) (p0 := p0) (p1 := p1) h1 h2 h3 h4 er64) rfl ?_
                    rintro _ s65 m66 ⟨a67, c67, a68, c68, a69, c69, rfl, h67, h68, h69⟩
                    replace m0 := m0.trans m66.no
                    replace h4 := h4.mono (m66.le no_No)
                    replace h5 := h5.mono (m66.le no_No)
                    replace bx6 := bx6.mv m66 no_No
                    replace h1 := h1.mono (m66.le no_No)
                    replace h2 := h2.mono (m66.le no_No)
                    replace h3 := h3.mono (m66.le no_No)
                    refine L.mv Wt.no rfl rfl ?_
                    refine L.ex Wt.no rfl rfl rfl ?_
                    refine L.ex Wt.no rfl rfl rfl ?_
                    refine L.al (N + 2) zz31 rfl Wt.no rfl ?_
                    intro b70 s71 m72 bx70
                    replace m0 := m0.trans m72.no
                    replace h4 := h4.mono (m72.le no_No)
                    replace h5 := h5.mono (m72.le no_No)
                    replace h67 := h67.mono (m72.le no_No)
                    replace h68 := h68.mono (m72.le no_No)
                    replace h69 := h69.mono (m72.le no_No)
                    replace bx6 := bx6.mv m72 no_No
                    replace h1 := h1.mono (m72.le no_No)
                    replace h2 := h2.mono (m72.le no_No)
                    replace h3 := h3.mono (m72.le no_No)
                    refine L.st (c := [.slice a67 r64.1.1.length c67, .int .i64 r64.1.2.1, .slice a68 r64.1.2.2.1.length c68, .slice a69 r64.1.2.2.2.length c69]) (cs' := #[.slice a67 r64.1.1.length c67, .int .i64 r64.1.2.1, .slice a68 r64.1.2.2.1.length c68, .slice a69 r64.1.2.2.2.length c69]) bx70 ag31.sz Wt.no rfl rfl rfl rfl rfl (Nat.le_of_ble_eq_true rfl) rfl ?_
                    intro s73 m74 bx70
                    replace m0 := m0.trans (m74.one up)
                    replace h4 := h4.mono (m74.le (tg0 hN))
                    replace h5 := h5.mono (m74.le (tg0 hN))
                    replace bx6 := bx6.mv m74 (tgN (by decide))
                    replace h1 := h1.mono (m74.le (tg0 hN))
                    replace h2 := h2.mono (m74.le (tg0 hN))
                    replace h3 := h3.mono (m74.le (tg0 hN))
                    replace h67 := h67.mono (m74.le (tg0 hN))
                    replace h68 := h68.mono (m74.le (tg0 hN))
                    replace h69 := h69.mono (m74.le (tg0 hN))
                    refine L.as Wt.no rfl rfl ?_
                    refine L.nil ?_
                    refine X.seqN ?_
                    refine E.seq ?_
                    refine E.reg ?_
                    refine L.lg (j := 0) (cs := [.slice a1 p0.1.length c1, .int .i64 p0.2.1, .slice a2 p0.2.2.1.length c2, .slice a3 p0.2.2.2.length c3]) bx6.mem ag31 Wt.no rfl rfl rfl rfl rfl ?_
                    refine L.mv Wt.no rfl rfl ?_
                    refine L.mv Wt.no rfl rfl ?_
                    obtain ⟨r75, er75, hm⟩ := bindS hm
                    refine L.ca (vs := [.agg #[.slice a1 p0.1.length c1, .int .i64 p0.2.1, .slice a2 p0.2.2.1.length c2, .slice a3 p0.2.2.2.length c3], .slice a4 p1.length c4, .slice a5 p2.length c5]) cf22 rfl rfl Wt.no rfl (m_reach_Closed_c (s := s73) (p0 := p0) (p1 := p1) (p2 := p2) h1 h2 h3 h4 h5 er75) rfl ?_
                    rintro _ s76 m77 rfl
                    replace m0 := m0.trans m77.no
                    replace h4 := h4.mono (m77.le no_No)
                    replace h5 := h5.mono (m77.le no_No)
                    replace bx6 := bx6.mv m77 no_No
                    replace h1 := h1.mono (m77.le no_No)
                    replace h2 := h2.mono (m77.le no_No)
                    replace h3 := h3.mono (m77.le no_No)
                    replace bx70 := bx70.mv m77 no_No
                    replace h67 := h67.mono (m77.le no_No)
                    replace h68 := h68.mono (m77.le no_No)
                    replace h69 := h69.mono (m77.le no_No)
                    refine L.mv Wt.no rfl rfl ?_
                    refine L.ex Wt.no rfl rfl rfl ?_
                    refine L.ex Wt.no rfl rfl rfl ?_
                    refine L.as Wt.no rfl rfl ?_
                    refine L.as Wt.no rfl rfl ?_
                    refine L.nil ?_
                    refine X.seqN ?_
                    refine E.seq ?_
                    refine E.reg ?_
                    refine L.lg (j := 0) (cs := [.slice a1 p0.1.length c1, .int .i64 p0.2.1, .slice a2 p0.2.2.1.length c2, .slice a3 p0.2.2.2.length c3]) bx6.mem ag31 Wt.no rfl rfl rfl rfl rfl ?_
                    refine L.mv Wt.no rfl rfl ?_
                    refine L.mv Wt.no rfl rfl ?_
                    obtain ⟨r78, er78, hm⟩ := bindS hm
                    refine L.ca (vs := [.agg #[.slice a1 p0.1.length c1, .int .i64 p0.2.1, .slice a2 p0.2.2.1.length c2, .slice a3 p0.2.2.2.length c3], .slice a4 p1.length c4, .slice a5 p2.length c5]) cf23 rfl rfl Wt.no rfl (m_reach_Interior_c (s := s76) (p0 := p0) (p1 := p1) (p2 := p2) h1 h2 h3 h4 h5 er78) rfl ?_
                    rintro _ s79 m80 ⟨a81, c81, rfl⟩
                    replace m0 := m0.trans m80.no
                    replace h4 := h4.mono (m80.le no_No)
                    replace h5 := h5.mono (m80.le no_No)
                    replace bx6 := bx6.mv m80 no_No
                    replace h1 := h1.mono (m80.le no_No)
                    replace h2 := h2.mono (m80.le no_No)
                    replace h3 := h3.mono (m80.le no_No)
                    replace bx70 := bx70.mv m80 no_No
                    replace h67 := h67.mono (m80.le no_No)
                    replace h68 := h68.mono (m80.le no_No)
                    replace h69 := h69.mono (m80.le no_No)
                    refine L.mv Wt.no rfl rfl ?_
                    refine L.ex Wt.no rfl rfl rfl ?_
                    refine L.ex Wt.no rfl rfl rfl ?_
                    refine L.as Wt.no rfl rfl ?_
                    refine L.as Wt.no rfl rfl ?_
                    refine L.nil ?_
                    refine X.seqN ?_
                    refine E.seq ?_
                    refine E.reg ?_
                    refine L.lg (j := 0) (cs := [.slice a1 p0.1.length c1, .int .i64 p0.2.1, .slice a2 p0.2.2.1.length c2, .slice a3 p0.2.2.2.length c3]) bx6.mem ag31 Wt.no rfl rfl rfl rfl rfl ?_
                    refine L.mv Wt.no rfl rfl ?_
                    obtain ⟨r82, er82, hm⟩ := bindS hm
                    refine L.ca (vs := [.agg #[.slice a1 p0.1.length c1, .int .i64 p0.2.1, .slice a2 p0.2.2.1.length c2, .slice a3 p0.2.2.2.length c3], .slice a5 p2.length c5]) cf32 rfl rfl Wt.no rfl (m_reach_Cycle_c (s := s79) (p0 := p0) (p1 := p2) h1 h2 h3 h5 er82) rfl ?_
                    rintro _ s83 m84 ⟨a85, c85, a86, c86, rfl⟩
                    replace m0 := m0.trans m84.no
                    replace h4 := h4.mono (m84.le no_No)
                    replace bx6 := bx6.mv m84 no_No
                    replace h1 := h1.mono (m84.le no_No)
                    replace h2 := h2.mono (m84.le no_No)
                    replace h3 := h3.mono (m84.le no_No)
                    replace bx70 := bx70.mv m84 no_No
                    replace h67 := h67.mono (m84.le no_No)
                    replace h68 := h68.mono (m84.le no_No)
                    replace h69 := h69.mono (m84.le no_No)
                    refine L.mv Wt.no rfl rfl ?_
                    refine L.ex Wt.no rfl rfl rfl ?_
                    refine L.ex Wt.no rfl rfl rfl ?_
                    refine L.ex Wt.no rfl rfl rfl ?_
                    refine L.ex Wt.no rfl rfl rfl ?_
                    refine L.as Wt.no rfl rfl ?_
                    refine L.as Wt.no rfl rfl ?_
                    refine L.as Wt.no rfl rfl ?_
                    refine L.as Wt.no rfl rfl ?_
                    refine L.nil ?_
                    refine X.seqN ?_
                    refine E.seq ?_
                    refine E.seq ?_
                    refine E.reg ?_
                    refine L.mv Wt.no rfl rfl ?_
                    refine L.mv Wt.no rfl rfl ?_
                    refine L.mv Wt.no rfl rfl ?_
                    refine L.bsE (k := 2) (cs := [.int .i64 r20, .int .i64 r23]) 0 bs76 (Nat.le_of_ble_eq_true rfl) Wt.no rfl rfl rfl rfl ?_
                    intro b87 s88 m89 bx87
                    replace m0 := m0.trans m89.no
                    replace h4 := h4.mono (m89.le no_No)
                    replace bx6 := bx6.mv m89 no_No
                    replace h1 := h1.mono (m89.le no_No)
                    replace h2 := h2.mono (m89.le no_No)
                    replace h3 := h3.mono (m89.le no_No)
                    replace bx70 := bx70.mv m89 no_No
                    replace h67 := h67.mono (m89.le no_No)
                    replace h68 := h68.mono (m89.le no_No)
                    replace h69 := h69.mono (m89.le no_No)
                    have h87 := Bx.rdL (r := (rK .i64)) (xs := ([r20, r23] : List Int)) bx87 ⟨[.int .i64 r20], _, rfl, rfl, ⟨[.int .i64 r23], _, rfl, rfl, rfl⟩⟩ (Nat.le_of_ble_eq_true rfl)
                    obtain ⟨r90, er90, hm⟩ := bindS hm
                    refine L.ca (vs := [.slice (some ⟨b87, 0, none⟩) ([r20, r23] : List Int).length (([r20, r23] : List Int).length)]) cf45 rfl rfl Wt.no rfl (m_overseerlaw04_first_c (s := s88) (p0 := ([r20, r23] : List Int)) h87 er90) rfl ?_
                    rintro _ s91 m92 rfl
                    replace m0 := m0.trans m92.no
                    replace h4 := h4.mono (m92.le no_No)
                    replace bx6 := bx6.mv m92 no_No
                    replace h1 := h1.mono (m92.le no_No)
                    replace h2 := h2.mono (m92.le no_No)
                    replace h3 := h3.mono (m92.le no_No)
                    replace bx70 := bx70.mv m92 no_No
                    replace h67 := h67.mono (m92.le no_No)
                    replace h68 := h68.mono (m92.le no_No)
                    replace h69 := h69.mono (m92.le no_No)
                    refine L.bi Wt.no rfl rfl rfl rfl ?_
                    refine L.mv Wt.no rfl rfl ?_
                    refine L.cut 4 (fun e w => ∃ (v93 : Bool), ((r60.2 != r90) || (r64.2 != r60.2)) = v93 ∧ e = (155, .bool v93) :: [(31, .int .i64 r82.2.2.2), (30, .bool r82.2.2.1), (29, .slice a86 r82.2.1.length c86), (28, .slice a85 r82.1.length c85), (27, .int .i64 r78.2), (26, .slice a81 r78.1.length c81), (25, .int .i64 r75.2), (22, .pointer (some ⟨b70, 0, none⟩)), (21, .int .i64 r60.2), (20, .slice a63 r60.1.length c63), (9, .int .i64 r26), (8, .int .i64 r23), (7, .int .i64 r20), (3, .pointer (some ⟨b6, 0, none⟩)), (1, .slice a4 p1.length c4)] ∧ w = s91.w) ?_ ?_
                    · rintro _ _ ⟨v93, rfl, rfl, rfl⟩
                      refine L.mv Wt.no rfl rfl ?_
                      obtain ⟨b94, eb94, hm⟩ := bindS hm
                      refine L.cut 8 (fun e w => ∃ (s96 : Sig) (v95 : Bool), b94 = v95 ∧ Mv (Up N No) s s96 ∧ RdL (rK .i64) s96 a4 c4 p1 ∧ RdL (rK .i64) s96 a1 c1 p0.1 ∧ RdL (rK .i64) s96 a2 c2 p0.2.2.1 ∧ RdL (rP (rK .i64) (rP (rK .i64) (rK .i64))) s96 a3 c3 p0.2.2.2 ∧ RdL (rK .i64) s96 a67 c67 r64.1.1 ∧ RdL (rK .i64) s96 a68 c68 r64.1.2.2.1 ∧ RdL (rP (rK .i64) (rP (rK .i64) (rK .i64))) s96 a69 c69 r64.1.2.2.2 ∧ Bx s96 (N + 0) b6 #[.slice a1 p0.1.length c1, .int .i64 p0.2.1, .slice a2 p0.2.2.1.length c2, .slice a3 p0.2.2.2.length c3] 31 ∧ Bx s96 (N + 2) b70 #[.slice a67 r64.1.1.length c67, .int .i64 r64.1.2.1, .slice a68 r64.1.2.2.1.length c68, .slice a69 r64.1.2.2.2.length c69] 31 ∧ e = (164, .bool v95) :: [(31, .int .i64 r82.2.2.2), (30, .bool r82.2.2.1), (29, .slice a86 r82.2.1.length c86), (28, .slice a85 r82.1.length c85), (27, .int .i64 r78.2), (26, .slice a81 r78.1.length c81), (25, .int .i64 r75.2), (22, .pointer (some ⟨b70, 0, none⟩)), (21, .int .i64 r60.2), (20, .slice a63 r60.1.length c63), (9, .int .i64 r26), (8, .int .i64 r23), (7, .int .i64 r20), (3, .pointer (some ⟨b6, 0, none⟩)), (1, .slice a4 p1.length c4)] ∧ w = s96.w) ?_ ?_
                      · rintro _ _ ⟨s96, v95, rfl, m0, h4, h1, h2, h3, h67, h68, h69, bx6, bx70, rfl, rfl⟩
                        refine L.mv Wt.no rfl rfl ?_
                        refine L.cut 4 (fun e w => ∃ (v97 : Bool), (b94 || (r78.2 != r75.2)) = v97 ∧ e = (169, .bool v97) :: [(31, .int .i64 r82.2.2.2), (30, .bool r82.2.2.1), (29, .slice a86 r82.2.1.length c86), (28, .slice a85 r82.1.length c85), (27, .int .i64 r78.2), (26, .slice a81 r78.1.length c81), (22, .pointer (some ⟨b70, 0, none⟩)), (21, .int .i64 r60.2), (20, .slice a63 r60.1.length c63), (9, .int .i64 r26), (8, .int .i64 r23), (7, .int .i64 r20), (3, .pointer (some ⟨b6, 0, none⟩)), (1, .slice a4 p1.length c4)] ∧ w = s96.w) ?_ ?_
                        · rintro _ _ ⟨v97, rfl, rfl, rfl⟩
                          refine L.mv Wt.no rfl rfl ?_
                          obtain ⟨b98, eb98, hm⟩ := bindS hm
                          refine L.cut 7 (fun e w => ∃ (s100 : Sig) (v99 : Bool), b98 = v99 ∧ Mv (Up N No) s s100 ∧ RdL (rK .i64) s100 a4 c4 p1 ∧ RdL (rK .i64) s100 a1 c1 p0.1 ∧ RdL (rK .i64) s100 a2 c2 p0.2.2.1 ∧ RdL (rP (rK .i64) (rP (rK .i64) (rK .i64))) s100 a3 c3 p0.2.2.2 ∧ RdL (rK .i64) s100 a67 c67 r64.1.1 ∧ RdL (rK .i64) s100 a68 c68 r64.1.2.2.1 ∧ RdL (rP (rK .i64) (rP (rK .i64) (rK .i64))) s100 a69 c69 r64.1.2.2.2 ∧ Bx s100 (N + 0) b6 #[.slice a1 p0.1.length c1, .int .i64 p0.2.1, .slice a2 p0.2.2.1.length c2, .slice a3 p0.2.2.2.length c3] 31 ∧ Bx s100 (N + 2) b70 #[.slice a67 r64.1.1.length c67, .int .i64 r64.1.2.1, .slice a68 r64.1.2.2.1.length c68, .slice a69 r64.1.2.2.2.length c69] 31 ∧ e = (177, .bool v99) :: [(31, .int .i64 r82.2.2.2), (30, .bool r82.2.2.1), (29, .slice a86 r82.2.1.length c86), (28, .slice a85 r82.1.length c85), (27, .int .i64 r78.2), (26, .slice a81 r78.1.length c81), (22, .pointer (some ⟨b70, 0, none⟩)), (21, .int .i64 r60.2), (20, .slice a63 r60.1.length c63), (8, .int .i64 r23), (7, .int .i64 r20), (3, .pointer (some ⟨b6, 0, none⟩)), (1, .slice a4 p1.length c4)] ∧ w = s100.w) ?_ ?_
                          · rintro _ _ ⟨s100, v99, rfl, m0, h4, h1, h2, h3, h67, h68, h69, bx6, bx70, rfl, rfl⟩
                            refine L.nil ?_
                            refine X.seqN ?_
                            rcases ifS hm with ⟨hc, hm⟩ | ⟨hc, hm⟩
                            · refine E.cT rfl hc ?_
                              refine E.seq ?_
                              refine E.reg ?_
                              refine L.as Wt.no rfl rfl ?_
                              refine L.nil ?_
                              refine X.seqN ?_
                              refine E.ret ?_
                              refine X.seqR ?_
                              obtain rfl := Option.some.inj hm
                              exact X.rt (.inl rfl) Try.results11 (Rs.tmp rfl Rs.nil) rfl ⟨_, (s100).ren N (fun _ => 0), rfl, rfl, m0.ren hNb, rfl⟩
                            · refine E.cF rfl hc ?_
                              refine E.skip ?_
                              refine X.seqN ?_
                              refine E.seq ?_
                              refine E.seq ?_
                              refine E.reg ?_
                              refine L.mv Wt.no rfl rfl ?_
                              refine L.bi Wt.no rfl rfl rfl rfl ?_
                              refine L.mv Wt.no rfl rfl ?_
                              obtain ⟨b101, eb101, hm⟩ := bindS hm
                              refine L.cut 10 (fun e w => ∃ (s103 : Sig) (v102 : Bool), b101 = v102 ∧ Mv (Up N No) s s103 ∧ RdL (rK .i64) s103 a4 c4 p1 ∧ RdL (rK .i64) s103 a1 c1 p0.1 ∧ RdL (rK .i64) s103 a2 c2 p0.2.2.1 ∧ RdL (rP (rK .i64) (rP (rK .i64) (rK .i64))) s103 a3 c3 p0.2.2.2 ∧ Bx s103 (N + 0) b6 #[.slice a1 p0.1.length c1, .int .i64 p0.2.1, .slice a2 p0.2.2.1.length c2, .slice a3 p0.2.2.2.length c3] 31 ∧ e = (190, .bool v102) :: [(31, .int .i64 r82.2.2.2), (30, .bool r82.2.2.1), (29, .slice a86 r82.2.1.length c86), (28, .slice a85 r82.1.length c85), (27, .int .i64 r78.2), (26, .slice a81 r78.1.length c81), (8, .int .i64 r23), (7, .int .i64 r20), (3, .pointer (some ⟨b6, 0, none⟩)), (1, .slice a4 p1.length c4)] ∧ w = s103.w) ?_ ?_
                              · rintro _ _ ⟨s103, v102, rfl, m0, h4, h1, h2, h3, bx6, rfl, rfl⟩
                                refine L.mv Wt.no rfl rfl ?_
                                refine L.cut 8 (fun e w => ∃ (v104 : Bool), (b101 || ((r78.2 != 0) && (decide ((r78.1.length : Int) > 0)))) = v104 ∧ e = (199, .bool v104) :: [(31, .int .i64 r82.2.2.2), (30, .bool r82.2.2.1), (29, .slice a86 r82.2.1.length c86), (28, .slice a85 r82.1.length c85), (8, .int .i64 r23), (7, .int .i64 r20), (3, .pointer (some ⟨b6, 0, none⟩)), (1, .slice a4 p1.length c4)] ∧ w = s103.w) ?_ ?_
                                · rintro _ _ ⟨v104, rfl, rfl, rfl⟩
                                  refine L.mv Wt.no rfl rfl ?_
                                  refine L.cut 14 (fun e w => ∃ (v105 : Bool), ((b101 || ((r78.2 != 0) && (decide ((r78.1.length : Int) > 0)))) || ((r82.2.2.2 != 0) && ((decide ((W ((r82.1.length : Int) + (r82.2.1.length : Int))) > 0)) || r82.2.2.1))) = v105 ∧ e = (214, .bool v105) :: [(8, .int .i64 r23), (7, .int .i64 r20), (3, .pointer (some ⟨b6, 0, none⟩)), (1, .slice a4 p1.length c4)] ∧ w = s103.w) ?_ ?_
                                  · rintro _ _ ⟨v105, rfl, rfl, rfl⟩
                                    refine L.nil ?_
                                    refine X.seqN ?_
                                    rcases ifS hm with ⟨hc, hm⟩ | ⟨hc, hm⟩
                                    · refine E.cT rfl hc ?_
                                      refine E.seq ?_
                                      refine E.reg ?_
                                      refine L.as Wt.no rfl rfl ?_
                                      refine L.nil ?_
                                      refine X.seqN ?_
                                      refine E.ret ?_
                                      refine X.seqR ?_
                                      obtain rfl := Option.some.inj hm
                                      exact X.rt (.inl rfl) Try.results11 (Rs.tmp rfl Rs.nil) rfl ⟨_, (s103).ren N (fun _ => 0), rfl, rfl, m0.ren hNb, rfl⟩
                                    · refine E.cF rfl hc ?_
                                      refine E.skip ?_
                                      refine X.seqN ?_
                                      refine E.seq ?_
                                      refine E.reg ?_
                                      refine L.as Wt.no rfl rfl ?_
                                      refine L.nil ?_
                                      refine X.seqN ?_
                                      refine E.seqJ (fun e w => ∃ (s107 : Sig) (n106 : Int), m_overseerlaw04_ReachRefuses_j1 p0 p1 r20 r23 n106 = some r ∧ Mv (Up N No) s s107 ∧ RdL (rK .i64) s107 a4 c4 p1 ∧ RdL (rK .i64) s107 a1 c1 p0.1 ∧ RdL (rK .i64) s107 a2 c2 p0.2.2.1 ∧ RdL (rP (rK .i64) (rP (rK .i64) (rK .i64))) s107 a3 c3 p0.2.2.2 ∧ Bx s107 (N + 0) b6 #[.slice a1 p0.1.length c1, .int .i64 p0.2.1, .slice a2 p0.2.2.1.length c2, .slice a3 p0.2.2.2.length c3] 31 ∧ e = [(32, .int .i64 n106), (8, .int .i64 r23), (7, .int .i64 r20), (3, .pointer (some ⟨b6, 0, none⟩)), (1, .slice a4 p1.length c4)] ∧ w = s107.w) ?_ ?_
                                      · rintro _ _ ⟨s107, n106, hm, m0, h4, h1, h2, h3, bx6, rfl, rfl⟩
                                        unfold m_overseerlaw04_ReachRefuses_j1 at hm
                                        refine E.seq ?_
                                        refine E.reg ?_
                                        refine L.lg (j := 0) (cs := [.slice a1 p0.1.length c1, .int .i64 p0.2.1, .slice a2 p0.2.2.1.length c2, .slice a3 p0.2.2.2.length c3]) bx6.mem ag31 Wt.no rfl rfl rfl rfl rfl ?_
                                        refine L.mv Wt.no rfl rfl ?_
                                        refine L.mv Wt.no rfl rfl ?_
                                        obtain ⟨r109, er109, hm⟩ := bindS hm
                                        refine L.ca (vs := [.agg #[.slice a1 p0.1.length c1, .int .i64 p0.2.1, .slice a2 p0.2.2.1.length c2, .slice a3 p0.2.2.2.length c3], .int .i64 0, .slice a4 p1.length c4, .slice a4 p1.length c4]) cf17 rfl rfl Wt.no rfl (m_reach_Path_c (s := s107) (p0 := p0) (p1 := 0) (p2 := p1) (p3 := p1) h1 h2 h3 h4 h4 er109) rfl ?_
                                        rintro _ s110 m111 ⟨a112, c112, rfl, h112⟩
                                        replace m0 := m0.trans m111.no
                                        refine L.mv Wt.no rfl rfl ?_
                                        refine L.ex Wt.no rfl rfl rfl ?_
                                        refine L.ex Wt.no rfl rfl rfl ?_
                                        refine L.ex Wt.no rfl rfl rfl ?_
                                        refine L.as Wt.no rfl rfl ?_
                                        refine L.as Wt.no rfl rfl ?_
                                        refine L.as Wt.no rfl rfl ?_
                                        refine L.nil ?_
                                        refine X.seqN ?_
                                        refine E.seq ?_
                                        refine E.reg ?_
                                        refine L.mv Wt.no rfl rfl ?_
                                        refine L.mv Wt.no rfl rfl ?_
                                        refine L.mv Wt.no rfl rfl ?_
                                        refine L.mv Wt.no rfl rfl ?_
                                        refine L.bsE (k := 3) (cs := [.int .i64 r20, .int .i64 n106, .int .i64 r23]) 0 bs76 (Nat.le_of_ble_eq_true rfl) Wt.no rfl rfl rfl rfl ?_
                                        intro b113 s114 m115 bx113
                                        replace m0 := m0.trans m115.no
                                        replace h112 := h112.mono (m115.le no_No)
                                        have h113 := Bx.rdL (r := (rK .i64)) (xs := ([r20, n106, r23] : List Int)) bx113 ⟨[.int .i64 r20], _, rfl, rfl, ⟨[.int .i64 n106], _, rfl, rfl, ⟨[.int .i64 r23], _, rfl, rfl, rfl⟩⟩⟩ (Nat.le_of_ble_eq_true rfl)
                                        obtain ⟨r116, er116, hm⟩ := bindS hm
                                        refine L.ca (vs := [.slice (some ⟨b113, 0, none⟩) ([r20, n106, r23] : List Int).length (([r20, n106, r23] : List Int).length)]) cf45 rfl rfl Wt.no rfl (m_overseerlaw04_first_c (s := s114) (p0 := ([r20, n106, r23] : List Int)) h113 er116) rfl ?_
                                        rintro _ s117 m118 rfl
                                        replace m0 := m0.trans m118.no
                                        replace h112 := h112.mono (m118.le no_No)
                                        refine L.bi Wt.no rfl rfl rfl rfl ?_
                                        refine L.mv Wt.no rfl rfl ?_
                                        refine L.cut 12 (fun e w => ∃ (v119 : Bool), ((r109.2.2 == r116) && ((r109.2.2 == 0) || (((r109.1.length : Int) == 0) && (!r109.2.1)))) = v119 ∧ e = (245, .bool v119) :: [] ∧ w = s117.w) ?_ ?_
                                        · rintro _ _ ⟨v119, rfl, rfl, rfl⟩
                                          refine L.as Wt.no rfl rfl ?_
                                          refine L.nil ?_
                                          refine X.seqN ?_
                                          refine E.ret ?_
                                          obtain rfl := Option.some.inj hm
                                          exact X.rt (.inl rfl) Try.results11 (Rs.tmp rfl Rs.nil) rfl ⟨_, (s117).ren N (fun _ => 0), rfl, rfl, m0.ren hNb, rfl⟩
                                        · intro J120
                                          rcases Bool.eq_false_or_eq_true (r109.2.2 == r116) with hc | hc
                                          · refine L.know (d := 233) rfl hc ?_
                                            refine L.mv (Wt.mk rfl rfl) rfl rfl ?_
                                            refine L.bi (Wt.mk rfl rfl) rfl rfl rfl rfl ?_
                                            refine L.mv (Wt.mk rfl rfl) rfl rfl ?_
                                            refine L.cut 8 (fun e w => ∃ (v121 : Bool), ((r109.2.2 == 0) || (((r109.1.length : Int) == 0) && (!r109.2.1))) = v121 ∧ e = (244, .bool v121) :: [(233, .bool true)] ∧ w = s117.w) ?_ ?_
                                            · rintro _ _ ⟨v121, rfl, rfl, rfl⟩
                                              refine L.pkT Wt.no rfl rfl rfl rfl ?_
                                              exact L.sub (Sub.cons rfl Sub.nil) (J120 _ _ ⟨((r109.2.2 == 0) || (((r109.1.length : Int) == 0) && (!r109.2.1))), (andT hc).symm, rfl, rfl⟩)
                                            · intro J122
                                              rcases Bool.eq_false_or_eq_true (r109.2.2 == 0) with hc | hc
                                              · refine L.know (d := 236) rfl hc ?_
                                                refine L.skip rfl rfl rfl rfl ?_
                                                refine L.skip rfl rfl rfl rfl ?_
                                                refine L.skip rfl rfl rfl rfl ?_
                                                refine L.skip rfl rfl rfl rfl ?_
                                                refine L.skipU rfl rfl rfl ?_
                                                refine L.skipU rfl rfl rfl ?_
                                                refine L.skip rfl rfl rfl rfl ?_
                                                refine L.pkT (Wt.mk rfl rfl) rfl rfl rfl rfl ?_
                                                exact L.sub (Sub.cons rfl (Sub.cons rfl Sub.nil)) (J122 _ _ ⟨true, (orT hc).symm, rfl, rfl⟩)
                                              · refine L.know (d := 236) rfl hc ?_
                                                refine L.mv (Wt.mk rfl rfl) rfl rfl ?_
                                                refine L.len sl28 (Wt.mk rfl rfl) rfl rfl ?_
                                                refine L.bi (Wt.mk rfl rfl) rfl rfl rfl rfl ?_
                                                refine L.mv (Wt.mk rfl rfl) rfl rfl ?_
                                                refine L.cut 3 (fun e w => ∃ (v123 : Bool), (((r109.1.length : Int) == 0) && (!r109.2.1)) = v123 ∧ e = (243, .bool v123) :: [(236, .bool false), (233, .bool true)] ∧ w = s117.w) ?_ ?_
                                                · rintro _ _ ⟨v123, rfl, rfl, rfl⟩
                                                  refine L.pkF (Wt.mk rfl rfl) rfl rfl rfl rfl ?_
                                                  exact L.sub (Sub.cons rfl (Sub.cons rfl Sub.nil)) (J122 _ _ ⟨(((r109.1.length : Int) == 0) && (!r109.2.1)), (orF hc).symm, rfl, rfl⟩)
                                                · intro J124
                                                  rcases Bool.eq_false_or_eq_true ((r109.1.length : Int) == 0) with hc | hc
                                                  · refine L.know (d := 240) rfl hc ?_
                                                    refine L.mv (Wt.mk rfl rfl) rfl rfl ?_
                                                    refine L.not (Wt.mk rfl rfl) rfl rfl ?_
                                                    refine L.pkT (Wt.mk rfl rfl) rfl rfl rfl rfl ?_
                                                    exact L.sub (Sub.cons rfl (Sub.cons rfl (Sub.cons rfl Sub.nil))) (J124 _ _ ⟨(!r109.2.1), (andT hc).symm, rfl, rfl⟩)
                                                  · refine L.know (d := 240) rfl hc ?_
                                                    refine L.skip rfl rfl rfl rfl ?_
                                                    refine L.skip rfl rfl rfl rfl ?_
                                                    refine L.pkF (Wt.mk rfl rfl) rfl rfl rfl rfl ?_
                                                    exact L.sub (Sub.cons rfl (Sub.cons rfl (Sub.cons rfl Sub.nil))) (J124 _ _ ⟨false, (andF hc).symm, rfl, rfl⟩)
                                          · refine L.know (d := 233) rfl hc ?_
                                            refine L.skip rfl rfl rfl rfl ?_
                                            refine L.skip rfl rfl rfl rfl ?_
                                            refine L.skip rfl rfl rfl rfl ?_
                                            refine L.skipU rfl rfl rfl ?_
                                            refine L.skipU rfl rfl rfl ?_
                                            refine L.skipU rfl rfl rfl ?_
                                            refine L.skipU rfl rfl rfl ?_
                                            refine L.skipU rfl rfl rfl ?_
                                            refine L.skipU rfl rfl rfl ?_
                                            refine L.skipU rfl rfl rfl ?_
                                            refine L.skip rfl rfl rfl rfl ?_
                                            refine L.pkF Wt.no rfl rfl rfl rfl ?_
                                            exact L.sub (Sub.cons rfl Sub.nil) (J120 _ _ ⟨false, (andF hc).symm, rfl, rfl⟩)
                                      · intro Jj108
                                        refine E.seq ?_
                                        refine E.reg ?_
                                        refine L.fa fa31_1 Wt.no rfl rfl ?_
                                        refine L.ld (j := 1) bx6.mem nag3 Wt.no rfl rfl rfl rfl ?_
                                        refine L.bi Wt.no rfl rfl rfl rfl ?_
                                        refine L.nil ?_
                                        refine X.seqN ?_
                                        rcases ifS hm with ⟨hc, hm⟩ | ⟨hc, hm⟩
                                        · refine E.cT rfl hc ?_
                                          refine E.reg ?_
                                          refine L.as Wt.no rfl rfl ?_
                                          refine L.nil ?_
                                          exact X.sub (Jj108 _ _ ⟨s103, 2, hm, m0, h4, h1, h2, h3, bx6, rfl, rfl⟩) (Sub.cons rfl (Sub.cons rfl (Sub.cons rfl (Sub.cons rfl (Sub.cons rfl Sub.nil)))))
                                        · refine E.cF rfl hc ?_
                                          refine E.skip ?_
                                          exact X.sub (Jj108 _ _ ⟨s103, 0, hm, m0, h4, h1, h2, h3, bx6, rfl, rfl⟩) (Sub.cons rfl (Sub.cons rfl (Sub.cons rfl (Sub.cons rfl (Sub.cons rfl Sub.nil)))))
                                  · intro J125
                                    rcases Bool.eq_false_or_eq_true (b101 || ((r78.2 != 0) && (decide ((r78.1.length : Int) > 0)))) with hc | hc
                                    · refine L.know (d := 200) rfl hc ?_
                                      refine L.skip rfl rfl rfl rfl ?_
                                      refine L.skip rfl rfl rfl rfl ?_
                                      refine L.skip rfl rfl rfl rfl ?_
                                      refine L.skipU rfl rfl rfl ?_
                                      refine L.skipU rfl rfl rfl ?_
                                      refine L.skipU rfl rfl rfl ?_
                                      refine L.skipU rfl rfl rfl ?_
                                      refine L.skipU rfl rfl rfl ?_
                                      refine L.skipU rfl rfl rfl ?_
                                      refine L.skipU rfl rfl rfl ?_
                                      refine L.skipU rfl rfl rfl ?_
                                      refine L.skipU rfl rfl rfl ?_
                                      refine L.skip rfl rfl rfl rfl ?_
                                      refine L.pkT Wt.no rfl rfl rfl rfl ?_
                                      exact L.sub (Sub.cons rfl (Sub.cons rfl (Sub.cons rfl (Sub.cons rfl (Sub.cons rfl Sub.nil))))) (J125 _ _ ⟨true, (orT hc).symm, rfl, rfl⟩)
                                    · refine L.know (d := 200) rfl hc ?_
                                      refine L.mv (Wt.mk rfl rfl) rfl rfl ?_
                                      refine L.bi (Wt.mk rfl rfl) rfl rfl rfl rfl ?_
                                      refine L.mv (Wt.mk rfl rfl) rfl rfl ?_
                                      refine L.cut 10 (fun e w => ∃ (v126 : Bool), ((r82.2.2.2 != 0) && ((decide ((W ((r82.1.length : Int) + (r82.2.1.length : Int))) > 0)) || r82.2.2.1)) = v126 ∧ e = (213, .bool v126) :: [(200, .bool false), (8, .int .i64 r23), (7, .int .i64 r20), (3, .pointer (some ⟨b6, 0, none⟩)), (1, .slice a4 p1.length c4)] ∧ w = s103.w) ?_ ?_
                                      · rintro _ _ ⟨v126, rfl, rfl, rfl⟩
                                        refine L.pkF Wt.no rfl rfl rfl rfl ?_
                                        exact L.sub (Sub.cons rfl (Sub.cons rfl (Sub.cons rfl (Sub.cons rfl (Sub.cons rfl Sub.nil))))) (J125 _ _ ⟨((r82.2.2.2 != 0) && ((decide ((W ((r82.1.length : Int) + (r82.2.1.length : Int))) > 0)) || r82.2.2.1)), (orF hc).symm, rfl, rfl⟩)
                                      · intro J127
                                        rcases Bool.eq_false_or_eq_true (r82.2.2.2 != 0) with hc | hc
                                        · refine L.know (d := 203) rfl hc ?_
                                          refine L.mv (Wt.mk rfl rfl) rfl rfl ?_
                                          refine L.len sl28 (Wt.mk rfl rfl) rfl rfl ?_
                                          refine L.mv (Wt.mk rfl rfl) rfl rfl ?_
                                          refine L.len sl28 (Wt.mk rfl rfl) rfl rfl ?_
                                          refine L.bi (Wt.mk rfl rfl) rfl rfl rfl rfl ?_
                                          refine L.bi (Wt.mk rfl rfl) rfl rfl rfl rfl ?_
                                          refine L.mv (Wt.mk rfl rfl) rfl rfl ?_
                                          refine L.cut 2 (fun e w => ∃ (v128 : Bool), ((decide ((W ((r82.1.length : Int) + (r82.2.1.length : Int))) > 0)) || r82.2.2.1) = v128 ∧ e = (212, .bool v128) :: [(203, .bool true), (200, .bool false), (8, .int .i64 r23), (7, .int .i64 r20), (3, .pointer (some ⟨b6, 0, none⟩)), (1, .slice a4 p1.length c4)] ∧ w = s103.w) ?_ ?_
                                          · rintro _ _ ⟨v128, rfl, rfl, rfl⟩
                                            refine L.pkT (Wt.mk rfl rfl) rfl rfl rfl rfl ?_
                                            exact L.sub (Sub.cons rfl (Sub.cons rfl (Sub.cons rfl (Sub.cons rfl (Sub.cons rfl (Sub.cons rfl Sub.nil)))))) (J127 _ _ ⟨((decide ((W ((r82.1.length : Int) + (r82.2.1.length : Int))) > 0)) || r82.2.2.1), (andT hc).symm, rfl, rfl⟩)
                                          · intro J129
                                            rcases Bool.eq_false_or_eq_true (decide ((W ((r82.1.length : Int) + (r82.2.1.length : Int))) > 0)) with hc | hc
                                            · refine L.know (d := 210) rfl hc ?_
                                              refine L.skip rfl rfl rfl rfl ?_
                                              refine L.pkT (Wt.mk rfl rfl) rfl rfl rfl rfl ?_
                                              exact L.sub (Sub.cons rfl (Sub.cons rfl (Sub.cons rfl (Sub.cons rfl (Sub.cons rfl (Sub.cons rfl (Sub.cons rfl Sub.nil))))))) (J129 _ _ ⟨true, (orT hc).symm, rfl, rfl⟩)
                                            · refine L.know (d := 210) rfl hc ?_
                                              refine L.mv (Wt.mk rfl rfl) rfl rfl ?_
                                              refine L.pkF (Wt.mk rfl rfl) rfl rfl rfl rfl ?_
                                              exact L.sub (Sub.cons rfl (Sub.cons rfl (Sub.cons rfl (Sub.cons rfl (Sub.cons rfl (Sub.cons rfl (Sub.cons rfl Sub.nil))))))) (J129 _ _ ⟨r82.2.2.1, (orF hc).symm, rfl, rfl⟩)
                                        · refine L.know (d := 203) rfl hc ?_
                                          refine L.skip rfl rfl rfl rfl ?_
                                          refine L.skip rfl rfl rfl rfl ?_
                                          refine L.skip rfl rfl rfl rfl ?_
                                          refine L.skip rfl rfl rfl rfl ?_
                                          refine L.skip rfl rfl rfl rfl ?_
                                          refine L.skip rfl rfl rfl rfl ?_
                                          refine L.skip rfl rfl rfl rfl ?_
                                          refine L.skipU rfl rfl rfl ?_
                                          refine L.skip rfl rfl rfl rfl ?_
                                          refine L.pkF (Wt.mk rfl rfl) rfl rfl rfl rfl ?_
                                          exact L.sub (Sub.cons rfl (Sub.cons rfl (Sub.cons rfl (Sub.cons rfl (Sub.cons rfl (Sub.cons rfl Sub.nil)))))) (J127 _ _ ⟨false, (andF hc).symm, rfl, rfl⟩)
                                · intro J130
                                  rcases Bool.eq_false_or_eq_true b101 with hc | hc
                                  · refine L.know (d := 191) rfl hc ?_
                                    refine L.skip rfl rfl rfl rfl ?_
                                    refine L.skip rfl rfl rfl rfl ?_
                                    refine L.skip rfl rfl rfl rfl ?_
                                    refine L.skipU rfl rfl rfl ?_
                                    refine L.skipU rfl rfl rfl ?_
                                    refine L.skipU rfl rfl rfl ?_
                                    refine L.skip rfl rfl rfl rfl ?_
                                    refine L.pkT Wt.no rfl rfl rfl rfl ?_
                                    exact L.sub (Sub.cons rfl (Sub.cons rfl (Sub.cons rfl (Sub.cons rfl (Sub.cons rfl (Sub.cons rfl (Sub.cons rfl (Sub.cons rfl (Sub.cons rfl Sub.nil))))))))) (J130 _ _ ⟨true, (orT hc).symm, rfl, rfl⟩)
                                  · refine L.know (d := 191) rfl hc ?_
                                    refine L.mv (Wt.mk rfl rfl) rfl rfl ?_
                                    refine L.bi (Wt.mk rfl rfl) rfl rfl rfl rfl ?_
                                    refine L.mv (Wt.mk rfl rfl) rfl rfl ?_
                                    refine L.cut 4 (fun e w => ∃ (v131 : Bool), ((r78.2 != 0) && (decide ((r78.1.length : Int) > 0))) = v131 ∧ e = (198, .bool v131) :: [(191, .bool false), (31, .int .i64 r82.2.2.2), (30, .bool r82.2.2.1), (29, .slice a86 r82.2.1.length c86), (28, .slice a85 r82.1.length c85), (8, .int .i64 r23), (7, .int .i64 r20), (3, .pointer (some ⟨b6, 0, none⟩)), (1, .slice a4 p1.length c4)] ∧ w = s103.w) ?_ ?_
                                    · rintro _ _ ⟨v131, rfl, rfl, rfl⟩
                                      refine L.pkF Wt.no rfl rfl rfl rfl ?_
                                      exact L.sub (Sub.cons rfl (Sub.cons rfl (Sub.cons rfl (Sub.cons rfl (Sub.cons rfl (Sub.cons rfl (Sub.cons rfl (Sub.cons rfl (Sub.cons rfl Sub.nil))))))))) (J130 _ _ ⟨((r78.2 != 0) && (decide ((r78.1.length : Int) > 0))), (orF hc).symm, rfl, rfl⟩)
                                    · intro J132
                                      rcases Bool.eq_false_or_eq_true (r78.2 != 0) with hc | hc
                                      · refine L.know (d := 194) rfl hc ?_
                                        refine L.mv (Wt.mk rfl rfl) rfl rfl ?_
                                        refine L.len sl28 (Wt.mk rfl rfl) rfl rfl ?_
                                        refine L.bi (Wt.mk rfl rfl) rfl rfl rfl rfl ?_
                                        refine L.pkT (Wt.mk rfl rfl) rfl rfl rfl rfl ?_
                                        exact L.sub (Sub.cons rfl (Sub.cons rfl (Sub.cons rfl (Sub.cons rfl (Sub.cons rfl (Sub.cons rfl (Sub.cons rfl (Sub.cons rfl (Sub.cons rfl (Sub.cons rfl Sub.nil)))))))))) (J132 _ _ ⟨(decide ((r78.1.length : Int) > 0)), (andT hc).symm, rfl, rfl⟩)
                                      · refine L.know (d := 194) rfl hc ?_
                                        refine L.skip rfl rfl rfl rfl ?_
                                        refine L.skip rfl rfl rfl rfl ?_
                                        refine L.skip rfl rfl rfl rfl ?_
                                        refine L.pkF (Wt.mk rfl rfl) rfl rfl rfl rfl ?_
                                        exact L.sub (Sub.cons rfl (Sub.cons rfl (Sub.cons rfl (Sub.cons rfl (Sub.cons rfl (Sub.cons rfl (Sub.cons rfl (Sub.cons rfl (Sub.cons rfl (Sub.cons rfl Sub.nil)))))))))) (J132 _ _ ⟨false, (andF hc).symm, rfl, rfl⟩)
                              · intro J133
                                rcases ifS eb101 with ⟨hc, hm⟩ | ⟨hc, hm⟩
                                · refine L.know (d := 180) rfl hc ?_
                                  refine L.mv (Wt.mk rfl rfl) rfl rfl ?_
                                  refine L.len sl28 (Wt.mk rfl rfl) rfl rfl ?_
                                  refine L.bi (Wt.mk rfl rfl) rfl rfl rfl rfl ?_
                                  refine L.mv (Wt.mk rfl rfl) rfl rfl ?_
                                  obtain ⟨b134, eb134, hm⟩ := bindS hm
                                  refine L.cut 5 (fun e w => ∃ (s136 : Sig) (v135 : Bool), b134 = v135 ∧ Mv (Up N No) s s136 ∧ RdL (rK .i64) s136 a4 c4 p1 ∧ RdL (rK .i64) s136 a1 c1 p0.1 ∧ RdL (rK .i64) s136 a2 c2 p0.2.2.1 ∧ RdL (rP (rK .i64) (rP (rK .i64) (rK .i64))) s136 a3 c3 p0.2.2.2 ∧ Bx s136 (N + 0) b6 #[.slice a1 p0.1.length c1, .int .i64 p0.2.1, .slice a2 p0.2.2.1.length c2, .slice a3 p0.2.2.2.length c3] 31 ∧ e = (189, .bool v135) :: [(180, .bool true), (31, .int .i64 r82.2.2.2), (30, .bool r82.2.2.1), (29, .slice a86 r82.2.1.length c86), (28, .slice a85 r82.1.length c85), (27, .int .i64 r78.2), (26, .slice a81 r78.1.length c81), (8, .int .i64 r23), (7, .int .i64 r20), (3, .pointer (some ⟨b6, 0, none⟩)), (1, .slice a4 p1.length c4)] ∧ w = s136.w) ?_ ?_
                                  · rintro _ _ ⟨s136, v135, rfl, m0, h4, h1, h2, h3, bx6, rfl, rfl⟩
                                    refine L.pkT Wt.no rfl rfl rfl rfl ?_
                                    exact L.sub (Sub.cons rfl (Sub.cons rfl (Sub.cons rfl (Sub.cons rfl (Sub.cons rfl (Sub.cons rfl (Sub.cons rfl (Sub.cons rfl (Sub.cons rfl (Sub.cons rfl (Sub.cons rfl Sub.nil))))))))))) (J133 _ _ ⟨s136, b134, (Option.some.inj hm).symm, m0, h4, h1, h2, h3, bx6, rfl, rfl⟩)
                                  · intro J137
                                    rcases ifS eb134 with ⟨hc, hm⟩ | ⟨hc, hm⟩
                                    · refine L.know (d := 184) rfl hc ?_
                                      refine L.skip rfl rfl rfl rfl ?_
                                      refine L.skip rfl rfl rfl rfl ?_
                                      refine L.skip rfl rfl rfl rfl ?_
                                      refine L.skip rfl rfl rfl rfl ?_
                                      refine L.pkT (Wt.mk rfl rfl) rfl rfl rfl rfl ?_
                                      exact L.sub (Sub.cons rfl (Sub.cons rfl (Sub.cons rfl (Sub.cons rfl (Sub.cons rfl (Sub.cons rfl (Sub.cons rfl (Sub.cons rfl (Sub.cons rfl (Sub.cons rfl (Sub.cons rfl (Sub.cons rfl Sub.nil)))))))))))) (J137 _ _ ⟨s100, true, (Option.some.inj hm).symm, m0, h4, h1, h2, h3, bx6, rfl, rfl⟩)
                                    · refine L.know (d := 184) rfl hc ?_
                                      refine L.lg (j := 0) (cs := [.slice a67 r64.1.1.length c67, .int .i64 r64.1.2.1, .slice a68 r64.1.2.2.1.length c68, .slice a69 r64.1.2.2.2.length c69]) bx70.mem ag31 (Wt.mk rfl rfl) rfl rfl rfl rfl rfl ?_
                                      refine L.bu (cs := [.slice none 0 0, .int .i64 0, .slice none 0 0, .slice none 0 0]) pl31 (Wt.mk rfl rfl) rfl rfl rfl ?_
                                      obtain ⟨r138, er138, hm⟩ := bindS hm
                                      refine L.ca (vs := [.agg #[.slice a67 r64.1.1.length c67, .int .i64 r64.1.2.1, .slice a68 r64.1.2.2.1.length c68, .slice a69 r64.1.2.2.2.length c69], .agg #[.slice none 0 0, .int .i64 0, .slice none 0 0, .slice none 0 0]]) cf35 rfl rfl (Wt.mk rfl rfl) rfl (m_overseerlaw04_equal_c (s := s100) (p0 := r64.1) (p1 := (([] : List Int), 0, ([] : List Int), ([] : List (Int × Int × Int)))) h67 h68 h69 RdL.nil RdL.nil RdL.nil er138) rfl ?_
                                      rintro _ s139 m140 rfl
                                      replace m0 := m0.trans m140.no
                                      replace h4 := h4.mono (m140.le no_No)
                                      replace bx6 := bx6.mv m140 no_No
                                      replace h1 := h1.mono (m140.le no_No)
                                      replace h2 := h2.mono (m140.le no_No)
                                      replace h3 := h3.mono (m140.le no_No)
                                      refine L.not (Wt.mk rfl rfl) rfl rfl ?_
                                      refine L.pkF (Wt.mk rfl rfl) rfl rfl rfl rfl ?_
                                      exact L.sub (Sub.cons rfl (Sub.cons rfl (Sub.cons rfl (Sub.cons rfl (Sub.cons rfl (Sub.cons rfl (Sub.cons rfl (Sub.cons rfl (Sub.cons rfl (Sub.cons rfl (Sub.cons rfl (Sub.cons rfl Sub.nil)))))))))))) (J137 _ _ ⟨s139, (!r138), (Option.some.inj hm).symm, m0, h4, h1, h2, h3, bx6, rfl, rfl⟩)
                                · refine L.know (d := 180) rfl hc ?_
                                  refine L.skip rfl rfl rfl rfl ?_
                                  refine L.skip rfl rfl rfl rfl ?_
                                  refine L.skip rfl rfl rfl rfl ?_
                                  refine L.skip rfl rfl rfl rfl ?_
                                  refine L.skipU rfl rfl rfl ?_
                                  refine L.skipU rfl rfl rfl ?_
                                  refine L.skipU rfl rfl rfl ?_
                                  refine L.skipU rfl rfl rfl ?_
                                  refine L.skip rfl rfl rfl rfl ?_
                                  refine L.pkF Wt.no rfl rfl rfl rfl ?_
                                  exact L.sub (Sub.cons rfl (Sub.cons rfl (Sub.cons rfl (Sub.cons rfl (Sub.cons rfl (Sub.cons rfl (Sub.cons rfl (Sub.cons rfl (Sub.cons rfl (Sub.cons rfl (Sub.cons rfl Sub.nil))))))))))) (J133 _ _ ⟨s100, false, (Option.some.inj hm).symm, m0, h4, h1, h2, h3, bx6, rfl, rfl⟩)
                          · intro J141
                            rcases ifS eb98 with ⟨hc, hm⟩ | ⟨hc, hm⟩
                            · refine L.know (d := 170) rfl hc ?_
                              refine L.skip rfl rfl rfl rfl ?_
                              refine L.skip rfl rfl rfl rfl ?_
                              refine L.skip rfl rfl rfl rfl ?_
                              refine L.skip rfl rfl rfl rfl ?_
                              refine L.skip rfl rfl rfl rfl ?_
                              refine L.skip rfl rfl rfl rfl ?_
                              refine L.pkT Wt.no rfl rfl rfl rfl ?_
                              exact L.sub (Sub.cons rfl (Sub.cons rfl (Sub.cons rfl (Sub.cons rfl (Sub.cons rfl (Sub.cons rfl (Sub.cons rfl (Sub.cons rfl (Sub.cons rfl (Sub.cons rfl (Sub.cons rfl (Sub.cons rfl (Sub.cons rfl (Sub.cons rfl Sub.nil)))))))))))))) (J141 _ _ ⟨s96, true, (Option.some.inj hm).symm, m0, h4, h1, h2, h3, h67, h68, h69, bx6, bx70, rfl, rfl⟩)
                            · refine L.know (d := 170) rfl hc ?_
                              refine L.mv (Wt.mk rfl rfl) rfl rfl ?_
                              refine L.mv (Wt.mk rfl rfl) rfl rfl ?_
                              refine L.mv (Wt.mk rfl rfl) rfl rfl ?_
                              refine L.bsE (k := 2) (cs := [.int .i64 r20, .int .i64 r26]) 0 bs76 (Nat.le_of_ble_eq_true rfl) (Wt.mk rfl rfl) rfl rfl rfl rfl ?_
                              intro b142 s143 m144 bx142
                              replace m0 := m0.trans m144.no
                              replace h4 := h4.mono (m144.le no_No)
                              replace bx6 := bx6.mv m144 no_No
                              replace h1 := h1.mono (m144.le no_No)
                              replace h2 := h2.mono (m144.le no_No)
                              replace h3 := h3.mono (m144.le no_No)
                              replace bx70 := bx70.mv m144 no_No
                              replace h67 := h67.mono (m144.le no_No)
                              replace h68 := h68.mono (m144.le no_No)
                              replace h69 := h69.mono (m144.le no_No)
                              have h142 := Bx.rdL (r := (rK .i64)) (xs := ([r20, r26] : List Int)) bx142 ⟨[.int .i64 r20], _, rfl, rfl, ⟨[.int .i64 r26], _, rfl, rfl, rfl⟩⟩ (Nat.le_of_ble_eq_true rfl)
                              obtain ⟨r145, er145, hm⟩ := bindS hm
                              refine L.ca (vs := [.slice (some ⟨b142, 0, none⟩) ([r20, r26] : List Int).length (([r20, r26] : List Int).length)]) cf45 rfl rfl (Wt.mk rfl rfl) rfl (m_overseerlaw04_first_c (s := s143) (p0 := ([r20, r26] : List Int)) h142 er145) rfl ?_
                              rintro _ s146 m147 rfl
                              replace m0 := m0.trans m147.no
                              replace h4 := h4.mono (m147.le no_No)
                              replace bx6 := bx6.mv m147 no_No
                              replace h1 := h1.mono (m147.le no_No)
                              replace h2 := h2.mono (m147.le no_No)
                              replace h3 := h3.mono (m147.le no_No)
                              replace bx70 := bx70.mv m147 no_No
                              replace h67 := h67.mono (m147.le no_No)
                              replace h68 := h68.mono (m147.le no_No)
                              replace h69 := h69.mono (m147.le no_No)
                              refine L.bi (Wt.mk rfl rfl) rfl rfl rfl rfl ?_
                              refine L.pkF Wt.no rfl rfl rfl rfl ?_
                              exact L.sub (Sub.cons rfl (Sub.cons rfl (Sub.cons rfl (Sub.cons rfl (Sub.cons rfl (Sub.cons rfl (Sub.cons rfl (Sub.cons rfl (Sub.cons rfl (Sub.cons rfl (Sub.cons rfl (Sub.cons rfl (Sub.cons rfl (Sub.cons rfl Sub.nil)))))))))))))) (J141 _ _ ⟨s146, (r82.2.2.2 != r145), (Option.some.inj hm).symm, m0, h4, h1, h2, h3, h67, h68, h69, bx6, bx70, rfl, rfl⟩)
                        · intro J148
                          rcases Bool.eq_false_or_eq_true b94 with hc | hc
                          · refine L.know (d := 165) rfl hc ?_
                            refine L.skip rfl rfl rfl rfl ?_
                            refine L.skip rfl rfl rfl rfl ?_
                            refine L.skip rfl rfl rfl rfl ?_
                            refine L.pkT Wt.no rfl rfl rfl rfl ?_
                            exact L.sub (Sub.cons rfl (Sub.cons rfl (Sub.cons rfl (Sub.cons rfl (Sub.cons rfl (Sub.cons rfl (Sub.cons rfl (Sub.cons rfl (Sub.cons rfl (Sub.cons rfl (Sub.cons rfl (Sub.cons rfl (Sub.cons rfl (Sub.cons rfl (Sub.cons rfl Sub.nil))))))))))))))) (J148 _ _ ⟨true, (orT hc).symm, rfl, rfl⟩)
                          · refine L.know (d := 165) rfl hc ?_
                            refine L.mv (Wt.mk rfl rfl) rfl rfl ?_
                            refine L.mv (Wt.mk rfl rfl) rfl rfl ?_
                            refine L.bi (Wt.mk rfl rfl) rfl rfl rfl rfl ?_
                            refine L.pkF Wt.no rfl rfl rfl rfl ?_
                            exact L.sub (Sub.cons rfl (Sub.cons rfl (Sub.cons rfl (Sub.cons rfl (Sub.cons rfl (Sub.cons rfl (Sub.cons rfl (Sub.cons rfl (Sub.cons rfl (Sub.cons rfl (Sub.cons rfl (Sub.cons rfl (Sub.cons rfl (Sub.cons rfl (Sub.cons rfl Sub.nil))))))))))))))) (J148 _ _ ⟨(r78.2 != r75.2), (orF hc).symm, rfl, rfl⟩)
                      · intro J149
                        rcases ifS eb94 with ⟨hc, hm⟩ | ⟨hc, hm⟩
                        · refine L.know (d := 156) rfl hc ?_
                          refine L.skip rfl rfl rfl rfl ?_
                          refine L.skip rfl rfl rfl rfl ?_
                          refine L.skip rfl rfl rfl rfl ?_
                          refine L.skip rfl rfl rfl rfl ?_
                          refine L.skip rfl rfl rfl rfl ?_
                          refine L.skip rfl rfl rfl rfl ?_
                          refine L.skip rfl rfl rfl rfl ?_
                          refine L.pkT Wt.no rfl rfl rfl rfl ?_
                          exact L.sub (Sub.cons rfl (Sub.cons rfl (Sub.cons rfl (Sub.cons rfl (Sub.cons rfl (Sub.cons rfl (Sub.cons rfl (Sub.cons rfl (Sub.cons rfl (Sub.cons rfl (Sub.cons rfl (Sub.cons rfl (Sub.cons rfl (Sub.cons rfl (Sub.cons rfl (Sub.cons rfl Sub.nil)))))))))))))))) (J149 _ _ ⟨s91, true, (Option.some.inj hm).symm, m0, h4, h1, h2, h3, h67, h68, h69, bx6, bx70, rfl, rfl⟩)
                        · refine L.know (d := 156) rfl hc ?_
                          refine L.mv (Wt.mk rfl rfl) rfl rfl ?_
                          refine L.mv (Wt.mk rfl rfl) rfl rfl ?_
                          refine L.mv (Wt.mk rfl rfl) rfl rfl ?_
                          refine L.mv (Wt.mk rfl rfl) rfl rfl ?_
                          refine L.bsE (k := 3) (cs := [.int .i64 r20, .int .i64 r23, .int .i64 r26]) 0 bs76 (Nat.le_of_ble_eq_true rfl) (Wt.mk rfl rfl) rfl rfl rfl rfl ?_
                          intro b150 s151 m152 bx150
                          replace m0 := m0.trans m152.no
                          replace h4 := h4.mono (m152.le no_No)
                          replace bx6 := bx6.mv m152 no_No
                          replace h1 := h1.mono (m152.le no_No)
                          replace h2 := h2.mono (m152.le no_No)
                          replace h3 := h3.mono (m152.le no_No)
                          replace bx70 := bx70.mv m152 no_No
                          replace h67 := h67.mono (m152.le no_No)
                          replace h68 := h68.mono (m152.le no_No)
                          replace h69 := h69.mono (m152.le no_No)
                          have h150 := Bx.rdL (r := (rK .i64)) (xs := ([r20, r23, r26] : List Int)) bx150 ⟨[.int .i64 r20], _, rfl, rfl, ⟨[.int .i64 r23], _, rfl, rfl, ⟨[.int .i64 r26], _, rfl, rfl, rfl⟩⟩⟩ (Nat.le_of_ble_eq_true rfl)
                          obtain ⟨r153, er153, hm⟩ := bindS hm
                          refine L.ca (vs := [.slice (some ⟨b150, 0, none⟩) ([r20, r23, r26] : List Int).length (([r20, r23, r26] : List Int).length)]) cf45 rfl rfl (Wt.mk rfl rfl) rfl (m_overseerlaw04_first_c (s := s151) (p0 := ([r20, r23, r26] : List Int)) h150 er153) rfl ?_
                          rintro _ s154 m155 rfl
                          replace m0 := m0.trans m155.no
                          replace h4 := h4.mono (m155.le no_No)
                          replace bx6 := bx6.mv m155 no_No
                          replace h1 := h1.mono (m155.le no_No)
                          replace h2 := h2.mono (m155.le no_No)
                          replace h3 := h3.mono (m155.le no_No)
                          replace bx70 := bx70.mv m155 no_No
                          replace h67 := h67.mono (m155.le no_No)
                          replace h68 := h68.mono (m155.le no_No)
                          replace h69 := h69.mono (m155.le no_No)
                          refine L.bi (Wt.mk rfl rfl) rfl rfl rfl rfl ?_
                          refine L.pkF Wt.no rfl rfl rfl rfl ?_
                          exact L.sub (Sub.cons rfl (Sub.cons rfl (Sub.cons rfl (Sub.cons rfl (Sub.cons rfl (Sub.cons rfl (Sub.cons rfl (Sub.cons rfl (Sub.cons rfl (Sub.cons rfl (Sub.cons rfl (Sub.cons rfl (Sub.cons rfl (Sub.cons rfl (Sub.cons rfl (Sub.cons rfl Sub.nil)))))))))))))))) (J149 _ _ ⟨s154, (r75.2 != r153), (Option.some.inj hm).symm, m0, h4, h1, h2, h3, h67, h68, h69, bx6, bx70, rfl, rfl⟩)
                    · intro J156
                      rcases Bool.eq_false_or_eq_true (r60.2 != r90) with hc | hc
                      · refine L.know (d := 151) rfl hc ?_
                        refine L.skip rfl rfl rfl rfl ?_
                        refine L.skip rfl rfl rfl rfl ?_
                        refine L.skip rfl rfl rfl rfl ?_
                        refine L.pkT Wt.no rfl rfl rfl rfl ?_
                        exact L.sub (Sub.cons rfl (Sub.cons rfl (Sub.cons rfl (Sub.cons rfl (Sub.cons rfl (Sub.cons rfl (Sub.cons rfl (Sub.cons rfl (Sub.cons rfl (Sub.cons rfl (Sub.cons rfl (Sub.cons rfl (Sub.cons rfl (Sub.cons rfl (Sub.cons rfl (Sub.cons rfl Sub.nil)))))))))))))))) (J156 _ _ ⟨true, (orT hc).symm, rfl, rfl⟩)
                      · refine L.know (d := 151) rfl hc ?_
                        refine L.mv (Wt.mk rfl rfl) rfl rfl ?_
                        refine L.mv (Wt.mk rfl rfl) rfl rfl ?_
                        refine L.bi (Wt.mk rfl rfl) rfl rfl rfl rfl ?_
                        refine L.pkF Wt.no rfl rfl rfl rfl ?_
                        exact L.sub (Sub.cons rfl (Sub.cons rfl (Sub.cons rfl (Sub.cons rfl (Sub.cons rfl (Sub.cons rfl (Sub.cons rfl (Sub.cons rfl (Sub.cons rfl (Sub.cons rfl (Sub.cons rfl (Sub.cons rfl (Sub.cons rfl (Sub.cons rfl (Sub.cons rfl (Sub.cons rfl Sub.nil)))))))))))))))) (J156 _ _ ⟨(r64.2 != r60.2), (orF hc).symm, rfl, rfl⟩)
                · intro J157
                  rcases Bool.eq_false_or_eq_true ((((r29.2 != r20) || (r33.2 != r20)) || (r37.2 != r20)) || (r48.2 != r20)) with hc | hc
                  · refine L.know (d := 106) rfl hc ?_
                    refine L.skip rfl rfl rfl rfl ?_
                    refine L.skip rfl rfl rfl rfl ?_
                    refine L.skip rfl rfl rfl rfl ?_
                    refine L.pkT Wt.no rfl rfl rfl rfl ?_
                    exact L.sub (Sub.cons rfl (Sub.cons rfl (Sub.cons rfl (Sub.cons rfl (Sub.cons rfl (Sub.cons rfl (Sub.cons rfl Sub.nil))))))) (J157 _ _ ⟨true, (orT hc).symm, rfl, rfl⟩)
                  · refine L.know (d := 106) rfl hc ?_
                    refine L.mv (Wt.mk rfl rfl) rfl rfl ?_
                    refine L.mv (Wt.mk rfl rfl) rfl rfl ?_
                    refine L.bi (Wt.mk rfl rfl) rfl rfl rfl rfl ?_
                    refine L.pkF Wt.no rfl rfl rfl rfl ?_
                    exact L.sub (Sub.cons rfl (Sub.cons rfl (Sub.cons rfl (Sub.cons rfl (Sub.cons rfl (Sub.cons rfl (Sub.cons rfl Sub.nil))))))) (J157 _ _ ⟨(r52.2 != r20), (orF hc).symm, rfl, rfl⟩)
              · intro J158
                rcases Bool.eq_false_or_eq_true (((r29.2 != r20) || (r33.2 != r20)) || (r37.2 != r20)) with hc | hc
                · refine L.know (d := 101) rfl hc ?_
                  refine L.skip rfl rfl rfl rfl ?_
                  refine L.skip rfl rfl rfl rfl ?_
                  refine L.skip rfl rfl rfl rfl ?_
                  refine L.pkT Wt.no rfl rfl rfl rfl ?_
                  exact L.sub (Sub.cons rfl (Sub.cons rfl (Sub.cons rfl (Sub.cons rfl (Sub.cons rfl (Sub.cons rfl (Sub.cons rfl (Sub.cons rfl Sub.nil)))))))) (J158 _ _ ⟨true, (orT hc).symm, rfl, rfl⟩)
                · refine L.know (d := 101) rfl hc ?_
                  refine L.mv (Wt.mk rfl rfl) rfl rfl ?_
                  refine L.mv (Wt.mk rfl rfl) rfl rfl ?_
                  refine L.bi (Wt.mk rfl rfl) rfl rfl rfl rfl ?_
                  refine L.pkF Wt.no rfl rfl rfl rfl ?_
                  exact L.sub (Sub.cons rfl (Sub.cons rfl (Sub.cons rfl (Sub.cons rfl (Sub.cons rfl (Sub.cons rfl (Sub.cons rfl (Sub.cons rfl Sub.nil)))))))) (J158 _ _ ⟨(r48.2 != r20), (orF hc).symm, rfl, rfl⟩)
            · intro J159
              rcases Bool.eq_false_or_eq_true ((r29.2 != r20) || (r33.2 != r20)) with hc | hc
              · refine L.know (d := 96) rfl hc ?_
                refine L.skip rfl rfl rfl rfl ?_
                refine L.skip rfl rfl rfl rfl ?_
                refine L.skip rfl rfl rfl rfl ?_
                refine L.pkT Wt.no rfl rfl rfl rfl ?_
                exact L.sub (Sub.cons rfl (Sub.cons rfl (Sub.cons rfl (Sub.cons rfl (Sub.cons rfl (Sub.cons rfl (Sub.cons rfl (Sub.cons rfl (Sub.cons rfl Sub.nil))))))))) (J159 _ _ ⟨true, (orT hc).symm, rfl, rfl⟩)
              · refine L.know (d := 96) rfl hc ?_
                refine L.mv (Wt.mk rfl rfl) rfl rfl ?_
                refine L.mv (Wt.mk rfl rfl) rfl rfl ?_
                refine L.bi (Wt.mk rfl rfl) rfl rfl rfl rfl ?_
                refine L.pkF Wt.no rfl rfl rfl rfl ?_
                exact L.sub (Sub.cons rfl (Sub.cons rfl (Sub.cons rfl (Sub.cons rfl (Sub.cons rfl (Sub.cons rfl (Sub.cons rfl (Sub.cons rfl (Sub.cons rfl Sub.nil))))))))) (J159 _ _ ⟨(r37.2 != r20), (orF hc).symm, rfl, rfl⟩)
          · intro J160
            rcases Bool.eq_false_or_eq_true (r29.2 != r20) with hc | hc
            · refine L.know (d := 91) rfl hc ?_
              refine L.skip rfl rfl rfl rfl ?_
              refine L.skip rfl rfl rfl rfl ?_
              refine L.skip rfl rfl rfl rfl ?_
              refine L.pkT Wt.no rfl rfl rfl rfl ?_
              exact L.sub (Sub.cons rfl (Sub.cons rfl (Sub.cons rfl (Sub.cons rfl (Sub.cons rfl (Sub.cons rfl (Sub.cons rfl (Sub.cons rfl (Sub.cons rfl (Sub.cons rfl Sub.nil)))))))))) (J160 _ _ ⟨true, (orT hc).symm, rfl, rfl⟩)
            · refine L.know (d := 91) rfl hc ?_
              refine L.mv (Wt.mk rfl rfl) rfl rfl ?_
              refine L.mv (Wt.mk rfl rfl) rfl rfl ?_
              refine L.bi (Wt.mk rfl rfl) rfl rfl rfl rfl ?_
              refine L.pkF Wt.no rfl rfl rfl rfl ?_
              exact L.sub (Sub.cons rfl (Sub.cons rfl (Sub.cons rfl (Sub.cons rfl (Sub.cons rfl (Sub.cons rfl (Sub.cons rfl (Sub.cons rfl (Sub.cons rfl (Sub.cons rfl Sub.nil)))))))))) (J160 _ _ ⟨(r33.2 != r20), (orF hc).symm, rfl, rfl⟩)
      · intro J161
        rcases Bool.eq_false_or_eq_true (b12 || (decide ((p1.length : Int) > 5))) with hc | hc
        · refine L.know (d := 48) rfl hc ?_
          refine L.skip rfl rfl rfl rfl ?_
          refine L.skip rfl rfl rfl rfl ?_
          refine L.skip rfl rfl rfl rfl ?_
          refine L.pkT Wt.no rfl rfl rfl rfl ?_
          exact L.sub (Sub.cons rfl (Sub.cons rfl (Sub.cons rfl (Sub.cons rfl Sub.nil)))) (J161 _ _ ⟨true, (orT hc).symm, rfl, rfl⟩)
        · refine L.know (d := 48) rfl hc ?_
          refine L.mv (Wt.mk rfl rfl) rfl rfl ?_
          refine L.len sl28 (Wt.mk rfl rfl) rfl rfl ?_
          refine L.bi (Wt.mk rfl rfl) rfl rfl rfl rfl ?_
          refine L.pkF Wt.no rfl rfl rfl rfl ?_
          exact L.sub (Sub.cons rfl (Sub.cons rfl (Sub.cons rfl (Sub.cons rfl Sub.nil)))) (J161 _ _ ⟨(decide ((p2.length : Int) > 5)), (orF hc).symm, rfl, rfl⟩)
    · intro J162
      rcases Bool.eq_false_or_eq_true b12 with hc | hc
      · refine L.know (d := 43) rfl hc ?_
        refine L.skip rfl rfl rfl rfl ?_
        refine L.skip rfl rfl rfl rfl ?_
        refine L.skip rfl rfl rfl rfl ?_
        refine L.pkT Wt.no rfl rfl rfl rfl ?_
        exact L.sub (Sub.cons rfl (Sub.cons rfl (Sub.cons rfl (Sub.cons rfl Sub.nil)))) (J162 _ _ ⟨true, (orT hc).symm, rfl, rfl⟩)
      · refine L.know (d := 43) rfl hc ?_
        refine L.mv (Wt.mk rfl rfl) rfl rfl ?_
        refine L.len sl28 (Wt.mk rfl rfl) rfl rfl ?_
        refine L.bi (Wt.mk rfl rfl) rfl rfl rfl rfl ?_
        refine L.pkF Wt.no rfl rfl rfl rfl ?_
        exact L.sub (Sub.cons rfl (Sub.cons rfl (Sub.cons rfl (Sub.cons rfl Sub.nil)))) (J162 _ _ ⟨(decide ((p1.length : Int) > 5)), (orF hc).symm, rfl, rfl⟩)
  · intro J163
    rcases ifS eb12 with ⟨hc, hm⟩ | ⟨hc, hm⟩
    · refine L.know (d := 38) rfl hc ?_
      refine L.skip rfl rfl rfl rfl ?_
      refine L.skip rfl rfl rfl rfl ?_
      refine L.skip rfl rfl rfl rfl ?_
      refine L.pkT Wt.no rfl rfl rfl rfl ?_
      exact L.sub (Sub.cons rfl (Sub.cons rfl (Sub.cons rfl (Sub.cons rfl Sub.nil)))) (J163 _ _ ⟨s10, true, (Option.some.inj hm).symm, m0, h4, h5, h1, h2, h3, bx6, rfl, rfl⟩)
    · refine L.know (d := 38) rfl hc ?_
      refine L.lg (j := 0) (cs := [.slice a1 p0.1.length c1, .int .i64 p0.2.1, .slice a2 p0.2.2.1.length c2, .slice a3 p0.2.2.2.length c3]) bx6.mem ag31 (Wt.mk rfl rfl) rfl rfl rfl rfl rfl ?_
      obtain ⟨r164, er164, hm⟩ := bindS hm
      refine L.ca (vs := [.agg #[.slice a1 p0.1.length c1, .int .i64 p0.2.1, .slice a2 p0.2.2.1.length c2, .slice a3 p0.2.2.2.length c3]]) cf42 rfl rfl (Wt.mk rfl rfl) rfl (m_overseerlaw04_few_c (s := s10) (p0 := p0) h1 h2 h3 er164) rfl ?_
      rintro _ s165 m166 rfl
      replace m0 := m0.trans m166.no
      replace h4 := h4.mono (m166.le no_No)
      replace h5 := h5.mono (m166.le no_No)
      replace bx6 := bx6.mv m166 no_No
      replace h1 := h1.mono (m166.le no_No)
      replace h2 := h2.mono (m166.le no_No)
      replace h3 := h3.mono (m166.le no_No)
      refine L.not (Wt.mk rfl rfl) rfl rfl ?_
      refine L.pkF Wt.no rfl rfl rfl rfl ?_
      exact L.sub (Sub.cons rfl (Sub.cons rfl (Sub.cons rfl (Sub.cons rfl Sub.nil)))) (J163 _ _ ⟨s165, (!r164), (Option.some.inj hm).symm, m0, h4, h5, h1, h2, h3, bx6, rfl, rfl⟩)

end Go.Proofs.Ythchkddhibhenaa

namespace Go.Proofs.Ythchkddhibhenaa
open Go Go.RowKit
theorem W_of {x : Int} (h0 : -9223372036854775808 ≤ x) (h1 : x < 9223372036854775808) : W x = x := IntWalk.i64_in _ (by omega)
theorem W_nat {k : Nat} (h : k < 9223372036854775808) : W (k : Int) = k := W_of (by omega) (by omega)
theorem idx_at {α : Type} {xs : List α} {i : Nat} (h : i < xs.length) : idx xs (i : Int) = some xs[i] := by rw [idx_nat, List.getElem?_eq_getElem h]
theorem iter_of {S O : Type} {f : S → Option (S ⊕ O)} {s : S} {o : O} {n : Nat} (hn : n ≤ 18446744073709551616) (h : iterF f n s = some o) : iter f s = some o := by
  have mono : ∀ (n m : Nat) (s : S), n ≤ m → iterF f n s = some o → iterF f m s = some o := by
    intro n
    induction n with
    | zero => intro m s _ h; cases h
    | succ n ih =>
      intro m s hm h
      obtain ⟨k, rfl⟩ : ∃ k, m = k + 1 := ⟨m - 1, by omega⟩
      rw [iterF_succ] at h ⊢
      split at h
      · cases h
      · rename_i h1; exact ih k _ (by omega) h
      · rename_i h1; exact h
  exact mono n _ s hn h
/-- A loop with an invariant. -/
theorem iter_inv {S O : Type} {f : S → Option (S ⊕ O)} (P : Nat → S → Prop) (Q : O → Prop) : ∀ (n i : Nat), n < i + 18446744073709551616 → (∀ i s, i < n → P i s → (∃ s', f s = some (.inl s') ∧ P (i + 1) s') ∨ ∃ o, f s = some (.inr o) ∧ Q o) → (∀ s, P n s → ∃ o, f s = some (.inr o) ∧ Q o) → i ≤ n →
    ∀ s, P i s → ∃ o, iter f s = some o ∧ Q o := by
  have key : ∀ (n : Nat), (∀ i s, i < n → P i s → (∃ s', f s = some (.inl s') ∧ P (i + 1) s') ∨ ∃ o, f s = some (.inr o) ∧ Q o) → (∀ s, P n s → ∃ o, f s = some (.inr o) ∧ Q o) → ∀ (j i : Nat), i + j = n → ∀ s, P i s → ∃ o, iterF f (j + 1) s = some o ∧ Q o := by
    intro n step fin j
    induction j with
    | zero =>
      intro i hi s h
      obtain rfl : i = n := by omega
      obtain ⟨o, h1, h2⟩ := fin s h
      exact ⟨o, by rw [iterF_succ, h1], h2⟩
    | succ j ih =>
      intro i hi s h
      rcases step i s (by omega) h with ⟨s', h1, h2⟩ | ⟨o, h1, h2⟩
      · obtain ⟨o, h3, h4⟩ := ih (i + 1) (by omega) s' h2
        exact ⟨o, by rw [iterF_succ, h1]; exact h3, h4⟩
      · exact ⟨o, by rw [iterF_succ, h1], h2⟩
  intro n i hn step fin hi s h
  obtain ⟨o, h1, h2⟩ := key n step fin (n - i) i (by omega) s h
  exact ⟨o, iter_of (by omega) h1, h2⟩
theorem nxt {i : Nat} (h : i < 4611686018427387904) : W ((i : Int) + 1) = ((i + 1 : Nat) : Int) := by rw [show (i : Int) + 1 = ((i + 1 : Nat) : Int) by omega, W_nat (by omega)]
theorem ct_lt {i n : Nat} (h : i < n) : decide ((i : Int) < (n : Int)) = true := by simp; omega
theorem ct_ge {n : Nat} : ¬ decide ((n : Int) < (n : Int)) = true := by simp
theorem upd_at {α : Type} {xs : List α} {i : Nat} {y : α} (h : i < xs.length) : upd xs (i : Int) y = some (xs.set i y) := by
  unfold upd
  rw [if_pos ⟨by omega, by omega⟩, Int.toNat_natCast]
/-- An error, as the printed loops hand it on. -/
def errO (e : Int) : Unit ⊕ Int := if e = 0 then .inl () else .inr e
theorem checkSet_go {xs : List Int} {n : Int} (hl : xs.length < 4611686018427387904) : ∀ (j i : Nat), i + j = xs.length →
    iterF (m_automaton_checkSet_l1 xs n) (j + 1) (i : Int) = some (errO (setErr n (prevAt xs i) (xs.drop i))) := by
  intro j
  induction j with
  | zero =>
    intro i hi
    have e : xs.drop i = [] := List.drop_of_length_le (by omega)
    rw [iterF_succ, m_automaton_checkSet_l1, if_neg (by simp; omega), e]
    rfl
  | succ j ih =>
    intro i hi
    have hlt : i < xs.length := by omega
    rw [iterF_succ, m_automaton_checkSet_l1, if_pos (by simp; omega), idx_at hlt, Option.bind_some]
    by_cases h1 : xs[i] < 0 ∨ n ≤ xs[i]
    · rw [if_pos (by simpa using h1), setErr_2 hlt h1]
      rfl
    · rw [if_neg (by simpa using h1)]
      by_cases h0 : 0 < i
      · rw [if_pos (by simp; omega), show (i : Int) - 1 = ((i - 1 : Nat) : Int) by omega, W_nat (by omega), idx_at (show i - 1 < xs.length by omega), Option.bind_some, Option.bind_some]
        by_cases h2 : xs[i] ≤ xs[i - 1]
        · rw [if_pos (by simpa using h2), setErr_5 hlt h1 h0 h2]
          rfl
        · rw [if_neg (by simpa using h2), show (i : Int) + 1 = ((i + 1 : Nat) : Int) by omega, W_nat (by omega), setErr_next hlt h1 (fun _ => by omega)]
          exact ih (i + 1) (by omega)
      · rw [if_neg (by simp; omega), Option.bind_some, if_neg (by simp), show (i : Int) + 1 = ((i + 1 : Nat) : Int) by omega, W_nat (by omega), setErr_next hlt h1 (fun h => absurd h h0)]
        exact ih (i + 1) (by omega)
theorem checkSet_eq {xs : List Int} {n : Int} (hl : xs.length < 4611686018427387904) : m_automaton_checkSet xs n = some (setErr n none xs) := by
  have h : iter (m_automaton_checkSet_l1 xs n) 0 = some (errO (setErr n none xs)) := iter_of (by omega) (checkSet_go (n := n) hl xs.length 0 (by omega))
  rw [m_automaton_checkSet, h, Option.bind_some]
  by_cases h0 : setErr n none xs = 0
  · rw [h0]; rfl
  · rw [errO, if_neg h0]
theorem index_go {xs : List Int} {x : Int} (hl : xs.length < 4611686018427387904) : ∀ (j i : Nat), i + j = xs.length →
    ∃ o, iterF (m_slices_Index_int_l1 xs x) (j + 1) (i : Int) = some o ∧ ((o = .inl () ∧ x ∉ xs.drop i) ∨ ∃ k : Nat, i ≤ k ∧ o = .inr (k : Int) ∧ x ∈ xs.drop i) := by
  intro j
  induction j with
  | zero =>
    intro i hi
    have e : xs.drop i = [] := List.drop_of_length_le (by omega)
    refine ⟨.inl (), ?_, .inl ⟨rfl, by rw [e]; simp⟩⟩
    rw [iterF_succ, m_slices_Index_int_l1, if_neg (by simp; omega)]
  | succ j ih =>
    intro i hi
    have hlt : i < xs.length := by omega
    rw [iterF_succ, m_slices_Index_int_l1, if_pos (by simp; omega), idx_at hlt, Option.bind_some]
    by_cases h1 : x = xs[i]
    · rw [if_pos (by simpa using h1)]
      exact ⟨_, rfl, .inr ⟨i, Nat.le_refl _, rfl, by rw [List.drop_eq_getElem_cons hlt, h1]; exact List.mem_cons_self⟩⟩
    · rw [if_neg (by simpa using h1), show (i : Int) + 1 = ((i + 1 : Nat) : Int) by omega, W_nat (by omega)]
      obtain ⟨o, h2, h3⟩ := ih (i + 1) (by omega)
      refine ⟨o, h2, ?_⟩
      rw [List.drop_eq_getElem_cons hlt]
      rcases h3 with ⟨h4, h5⟩ | ⟨k, h4, h5, h6⟩
      · exact .inl ⟨h4, fun hc => (List.mem_cons.1 hc).elim h1 h5⟩
      · exact .inr ⟨k, by omega, h5, List.mem_cons_of_mem _ h6⟩
theorem contains_eq {xs : List Int} {x : Int} (hl : xs.length < 4611686018427387904) : m_slices_Contains_int xs x = some (hasB xs x) := by
  obtain ⟨o, h1, h2⟩ := index_go (x := x) hl xs.length 0 (by omega)
  have h : iter (m_slices_Index_int_l1 xs x) 0 = some o := iter_of (by omega) h1
  rw [m_slices_Contains_int, m_slices_Index_int, h, Option.bind_some]
  rcases h2 with ⟨rfl, h4⟩ | ⟨k, _, rfl, h4⟩
  · rw [hasB_false.2 (by simpa using h4)]; rfl
  · rw [hasB_true.2 (by simpa using h4)]
    show some (decide ((k : Int) ≥ 0)) = some true
    simp
/-- An edge as the printed functions have it. -/
def edP (x : Ed) : Int × Int × Int := (x.f, x.e, x.t)
def autP (a : Aut) : List Int × Int × List Int × List (Int × Int × Int) := (a.al, a.n, a.ms, a.es.map edP)
def prevE (es : List Ed) (k : Nat) : Option Ed := if k = 0 then none else es[k - 1]?
theorem edErr_dropP {al : List Int} {n : Int} {es : List Ed} {k : Nat} (hk : k < es.length) : edErr al n (prevE es k) (es.drop k) =
    if (es[k].f < 0 ∨ n ≤ es[k].f ∨ es[k].t < 0 ∨ n ≤ es[k].t) then 2 else if hasB al es[k].e = false then 9 else if (∃ q, prevE es k = some q ∧ (es[k].f < q.f ∨ (es[k].f = q.f ∧ es[k].e ≤ q.e))) then 5 else edErr al n (prevE es (k + 1)) (es.drop (k + 1)) := by
  rw [List.drop_eq_getElem_cons hk, edErr]
  congr 3
  simp [prevE, List.getElem?_eq_getElem hk]
theorem edges_go {a : Aut} (hl : a.es.length < 4611686018427387904) (hal : a.al.length < 4611686018427387904) : ∀ (j i : Nat), i + j = a.es.length →
    iterF (m_automaton_checkEdges_l1 (autP a)) (j + 1) (i : Int) = some (errO (edErr a.al a.n (prevE a.es i) (a.es.drop i))) := by
  have hlen : (autP a).2.2.2.length = a.es.length := by simp [autP]
  have hat : ∀ (i : Nat) (h : i < a.es.length), idx (autP a).2.2.2 (i : Int) = some (edP a.es[i]) := fun i h => by
    rw [idx_at (by rw [hlen]; exact h)]; simp [autP]
  intro j
  induction j with
  | zero =>
    intro i hi
    have e : a.es.drop i = [] := List.drop_of_length_le (by omega)
    rw [iterF_succ, m_automaton_checkEdges_l1, if_neg (by rw [hlen]; simp; omega), e]
    rfl
  | succ j ih =>
    intro i hi
    have hlt : i < a.es.length := by omega
    have hnext : m_automaton_checkEdges_j1 (i : Int) = some (.inl ((i + 1 : Nat) : Int)) := by
      rw [m_automaton_checkEdges_j1, show (i : Int) + 1 = ((i + 1 : Nat) : Int) by omega, W_nat (by omega)]
    rw [iterF_succ, m_automaton_checkEdges_l1, if_pos (by rw [hlen]; simp; omega), hat i hlt, Option.bind_some, edErr_dropP hlt]
    by_cases h1 : a.es[i].f < 0 ∨ a.n ≤ a.es[i].f ∨ a.es[i].t < 0 ∨ a.n ≤ a.es[i].t
    · rw [if_pos (by simp only [Bool.or_eq_true, decide_eq_true_eq]; show ((a.es[i].f < 0 ∨ a.es[i].f ≥ a.n) ∨ a.es[i].t < 0) ∨ a.es[i].t ≥ a.n; omega), if_pos h1]
      rfl
    · rw [if_neg (by simp only [Bool.or_eq_true, decide_eq_true_eq]; show ¬ (((a.es[i].f < 0 ∨ a.es[i].f ≥ a.n) ∨ a.es[i].t < 0) ∨ a.es[i].t ≥ a.n); omega), if_neg h1]
      rw [show m_slices_Contains_int (autP a).1 (edP a.es[i]).2.1 = some (hasB a.al a.es[i].e) from contains_eq hal, Option.bind_some]
      cases h2 : hasB a.al a.es[i].e with
      | false => rfl
      | true =>
        rw [if_neg (show ¬ (!true) = true by simp), if_neg (show ¬ (true = false) by simp)]
        by_cases h0 : i = 0
        · subst h0
          rw [if_pos (by simp), hnext, if_neg (by rintro ⟨q, hq, _⟩; simp [prevE] at hq)]
          exact ih 1 (by omega)
        · have hp : prevE a.es i = some a.es[i - 1] := by rw [prevE, if_neg h0, List.getElem?_eq_getElem (by omega)]
          rw [if_neg (by simp; omega), show (i : Int) - 1 = ((i - 1 : Nat) : Int) by omega, W_nat (by omega), hat (i - 1) (by omega), Option.bind_some]
          by_cases h3 : a.es[i].f < a.es[i - 1].f ∨ (a.es[i].f = a.es[i - 1].f ∧ a.es[i].e ≤ a.es[i - 1].e)
          · rw [if_pos (by simp only [Bool.or_eq_true, Bool.and_eq_true, decide_eq_true_eq, beq_iff_eq]; exact h3), if_pos ⟨_, hp, h3⟩]
            rfl
          · rw [if_neg (by simp only [Bool.or_eq_true, Bool.and_eq_true, decide_eq_true_eq, beq_iff_eq]; exact h3), hnext, if_neg (by rintro ⟨q, hq, h4⟩; rw [hp] at hq; cases hq; exact h3 h4)]
            exact ih (i + 1) (by omega)
theorem check_eq {a : Aut} (hl : a.es.length < 4611686018427387904) (hal : a.al.length < 4611686018427387904) (hms : a.ms.length < 4611686018427387904) : m_automaton_Check (autP a) = some a.err := by
  have h : iter (m_automaton_checkEdges_l1 (autP a)) 0 = some (errO (edErr a.al a.n none a.es)) := iter_of (by omega) (edges_go hl hal a.es.length 0 (by omega))
  have he : m_automaton_checkEdges (autP a) = some (edErr a.al a.n none a.es) := by
    rw [m_automaton_checkEdges, h, Option.bind_some]
    by_cases h0 : edErr a.al a.n none a.es = 0
    · rw [h0]; rfl
    · rw [errO, if_neg h0]
  rw [m_automaton_Check, show m_automaton_checkSet (autP a).1 32 = some (setErr 32 none a.al) from checkSet_eq hal, Option.bind_some, Aut.err]
  by_cases h1 : (setErr 32 none a.al != 0) = true
  · rw [if_pos h1, if_pos h1]
  · rw [if_neg h1, if_neg h1]
    by_cases h2 : a.n < 0
    · rw [if_pos (show decide ((autP a).2.1 < 0) = true from decide_eq_true h2), if_pos h2]
    · rw [if_neg (show ¬ decide ((autP a).2.1 < 0) = true from fun e => h2 (of_decide_eq_true e)), if_neg h2]
      by_cases h3 : 4096 < a.n
      · rw [if_pos (show decide ((autP a).2.1 > 4096) = true from decide_eq_true h3), if_pos h3]
      · rw [if_neg (show ¬ decide ((autP a).2.1 > 4096) = true from fun e => h3 (of_decide_eq_true e)), if_neg h3, show m_automaton_checkSet (autP a).2.2.1 (autP a).2.1 = some (setErr a.n none a.ms) from checkSet_eq hms, Option.bind_some]
        by_cases h4 : (setErr a.n none a.ms != 0) = true
        · rw [if_pos h4, if_pos h4]
        · rw [if_neg h4, if_neg h4, he]
          rfl
theorem autP_toAut (a : AutT) : autP (toAut a) = a := by
  obtain ⟨x, y, z, es⟩ := a
  simp only [autP, toAut, List.map_map]
  rw [show (edP ∘ toEd) = id from rfl, List.map_id]
/-- A right automaton of n states, with short lists. -/
structure Right (a : AutT) (n : Nat) : Prop where
  nn : a.2.1 = (n : Int)
  nl : n ≤ 4096
  ali : Inc a.1
  alr : ∀ x ∈ a.1, 0 ≤ x ∧ x < 32
  msi : Inc a.2.2.1
  msr : ∀ x ∈ a.2.2.1, 0 ≤ x ∧ x < (n : Int)
  es : ∀ x ∈ a.2.2.2, 0 ≤ x.1 ∧ x.1 < (n : Int) ∧ 0 ≤ x.2.2 ∧ x.2.2 < (n : Int) ∧ x.2.1 ∈ a.1
  so : a.2.2.2.Pairwise fun x y => x.1 < y.1 ∨ (x.1 = y.1 ∧ x.2.1 < y.2.1)
  l1 : a.1.length ≤ 1000000
  l2 : a.2.2.1.length ≤ 1000000
  l3 : a.2.2.2.length ≤ 1000000
namespace Right
variable {a : AutT} {n : Nat}
theorem sorted (h : Right a n) : Sorted (a.2.2.2.map toEd) := by
  unfold Sorted
  rw [List.pairwise_map]
  exact h.so
theorem ein (h : Right a n) : ∀ x ∈ a.2.2.2.map toEd, 0 ≤ x.f ∧ x.f < (n : Int) ∧ 0 ≤ x.t ∧ x.t < (n : Int) := fun x hx => by
  obtain ⟨y, hy, rfl⟩ := List.mem_map.1 hx
  have := h.es y hy
  exact ⟨this.1, this.2.1, this.2.2.1, this.2.2.2.1⟩
theorem err (h : Right a n) : (toAut a).err = 0 := by
  have h1 : setErr 32 none (toAut a).al = 0 := setErr_ok h.ali h.alr (fun q hq => by cases hq)
  have hn : (toAut a).n = n := h.nn
  have h2 : setErr (toAut a).n none (toAut a).ms = 0 := by rw [hn]; exact setErr_ok h.msi h.msr (fun q hq => by cases hq)
  have h3 : edErr (toAut a).al (toAut a).n none (toAut a).es = 0 := by
    rw [hn]
    refine edErr_ok h.sorted (fun x hx => ?_) (fun q hq => by cases hq)
    obtain ⟨y, hy, rfl⟩ := List.mem_map.1 hx
    have := h.es y hy
    exact ⟨this.1, this.2.1, this.2.2.1, this.2.2.2.1, hasB_true.2 this.2.2.2.2⟩
  have := h.nl
  unfold Aut.err
  rw [h1, if_neg (by decide), if_neg (by rw [hn]; omega), if_neg (by rw [hn]; omega), h2, if_neg (by decide), h3]
theorem check (h : Right a n) : m_automaton_Check a = some 0 := by
  have h1 := h.l1
  have h2 := h.l2
  have h3 := h.l3
  have := check_eq (a := toAut a) (by simp [toAut]; omega) (by simp [toAut]; omega) (by simp [toAut]; omega)
  rwa [autP_toAut, h.err] at this
end Right
theorem nodup_len : ∀ (N : Nat) (l : List Nat), l.Nodup → (∀ x ∈ l, x < N) → l.length ≤ N
  | 0, [], _, _ => Nat.le_refl _
  | 0, x :: l, _, h => absurd (h x (List.mem_cons_self ..)) (by omega)
  | N + 1, l, hn, h => by
    by_cases hm : N ∈ l
    · have h1 := nodup_len N (l.erase N) (hn.erase N) (fun x hx => by
        have h2 := (hn.mem_erase_iff).1 hx
        have := h x h2.2
        omega)
      rw [List.length_erase_of_mem hm] at h1
      omega
    · have h1 := nodup_len N l hn (fun x hx => by
        have := h x hx
        have : x ≠ N := fun e => hm (e ▸ hx)
        omega)
      omega
abbrev edsOf (p : AutT) : List Ed := p.2.2.2.map toEd
theorem mid_filter {α : Type} (q : α → Bool) : ∀ (xs : List α) (i j : Nat), i ≤ j → j ≤ xs.length → (∀ k (h : k < xs.length), q xs[k] = decide (i ≤ k ∧ k < j)) → (xs.take j).drop i = xs.filter q := by
  intro xs i j hij hj h
  have e1 : xs = xs.take i ++ ((xs.take j).drop i ++ xs.drop j) := by
    have h1 : (xs.take j).take i = xs.take i := by rw [List.take_take, Nat.min_eq_left hij]
    rw [← List.append_assoc, ← h1, List.take_append_drop, List.take_append_drop]
  have f1 : (xs.take i).filter q = [] := by
    refine List.filter_eq_nil_iff.2 fun x hx => ?_
    obtain ⟨k, hk, rfl⟩ := List.mem_iff_getElem.1 hx
    rw [List.length_take] at hk
    rw [List.getElem_take, h k (by omega)]
    simp; omega
  have f2 : ((xs.take j).drop i).filter q = (xs.take j).drop i := by
    refine List.filter_eq_self.2 fun x hx => ?_
    obtain ⟨k, hk, rfl⟩ := List.mem_iff_getElem.1 hx
    rw [List.length_drop, List.length_take] at hk
    rw [List.getElem_drop, List.getElem_take, h (i + k) (by omega)]
    simp; omega
  have f3 : (xs.drop j).filter q = [] := by
    refine List.filter_eq_nil_iff.2 fun x hx => ?_
    obtain ⟨k, hk, rfl⟩ := List.mem_iff_getElem.1 hx
    rw [List.length_drop] at hk
    rw [List.getElem_drop, h (j + k) (by omega)]
    simp
  conv => rhs; rw [e1]
  rw [List.filter_append, List.filter_append, f1, f2, f3]
  simp

/-- A list in which the elements with p stand ahead of the others. -/
theorem down_lt {α : Type} (p : α → Bool) : ∀ (xs : List α), (xs.Pairwise fun x y => p y = true → p x = true) → ∀ k (h : k < xs.length), p xs[k] = decide (k < xs.countP p)
  | [], _, k, h => by simp at h
  | x :: xs, hp, k, h => by
    rw [List.pairwise_cons] at hp
    cases hx : p x with
    | true =>
      rw [List.countP_cons_of_pos hx]
      cases k with
      | zero => simp [hx]
      | succ k =>
        rw [List.getElem_cons_succ, down_lt p xs hp.2 k (by simpa using h)]
        simp
    | false =>
      have h0 : xs.countP p = 0 := List.countP_eq_zero.2 fun y hy hpy => by have := hp.1 y hy hpy; rw [hx] at this; cases this
      rw [List.countP_cons_of_neg (by simp [hx]), h0]
      cases k with
      | zero => simp [hx]
      | succ k =>
        rw [List.getElem_cons_succ, down_lt p xs hp.2 k (by simpa using h), h0]
        simp
theorem countP_lt (i : Int) : ∀ es : List (Int × Int × Int), (es.countP fun x => decide (x.1 + 1 = i + 1)) + (es.countP fun x => decide (x.1 < i)) = es.countP fun x => decide (x.1 < i + 1)
  | [] => rfl
  | x :: es => by
    have := countP_lt i es
    simp only [List.countP_cons, decide_eq_true_eq]
    rcases Int.lt_trichotomy x.1 i with h | h | h
    · rw [if_neg (by omega), if_pos h, if_pos (by omega)]; omega
    · rw [if_pos (by omega), if_neg (by omega), if_pos (by omega)]; omega
    · rw [if_neg (by omega), if_neg (by omega), if_neg (by omega)]; omega
/-- The places of a state's edges. -/
structure FsOk (a : AutT) (n : Nat) (fs : List Int) (F : Nat → Nat) : Prop where
  len : fs.length = n + 1
  val : ∀ s (h : s < fs.length), fs[s] = (F s : Int)
  mono : ∀ q, q < n → F q ≤ F (q + 1) ∧ F (q + 1) ≤ a.2.2.2.length
  out : ∀ q, q < n → (a.2.2.2.take (F (q + 1))).drop (F q) = a.2.2.2.filter fun x => x.1 == (q : Int)
theorem newGraph_full {a : AutT} {n : Nat} (hr : Right a n) : ∃ fs F, m_reach_newGraph a = some (a, fs) ∧ FsOk a n fs F := by
  have hn := hr.nl
  have hl := hr.l3
  have hnn := hr.nn
  have hW : ∀ i : Nat, i ≤ n → W ((i : Int) + 1) = ((i + 1 : Nat) : Int) := fun i hi => nxt (by omega)
  obtain ⟨o, h1, ho, hv⟩ := iter_inv (f := m_reach_newGraph_l1 a) (fun i s => s.1 = (i : Int) ∧ s.2.length = n + 1 ∧ ∀ u (_ : u < s.2.length), s.2[u] = (((a.2.2.2.take i).countP fun x => decide (x.1 + 1 = (u : Int)) : Nat) : Int)) (fun o => o.length = n + 1 ∧ ∀ u (_ : u < o.length), o[u] = ((a.2.2.2.countP fun x => decide (x.1 + 1 = (u : Int)) : Nat) : Int)) a.2.2.2.length 0 (by omega) (fun i s hi ⟨e1, g1, g2⟩ => by
      obtain ⟨k, fs⟩ := s
      dsimp only at e1 g1 g2
      subst e1
      have hx := hr.es _ (List.getElem_mem hi)
      obtain ⟨f, hf⟩ : ∃ f : Nat, a.2.2.2[i].1 = f := ⟨a.2.2.2[i].1.toNat, by omega⟩
      have hfn : f < n := by omega
      have hc : ((a.2.2.2.take i).countP fun x => decide (x.1 + 1 = ((f + 1 : Nat) : Int))) ≤ i := Nat.le_trans List.countP_le_length (by rw [List.length_take]; omega)
      refine .inl ⟨(((i + 1 : Nat) : Int), fs.set (f + 1) (W (fs[f + 1]'(by omega) + 1))), ?_, rfl, by simp [g1], fun u hu => ?_⟩
      · rw [m_reach_newGraph_l1]
        dsimp only
        rw [if_pos (ct_lt hi), idx_at hi, Option.bind_some, hf, hW f (by omega), idx_at (by omega), Option.bind_some, Option.bind_some, upd_at (by omega), Option.bind_some, nxt (by omega)]
      · have hu2 : u < fs.length := by simpa using hu
        rw [List.take_succ_eq_append_getElem hi, List.countP_append, List.countP_singleton, hf]
        dsimp only
        rw [List.getElem_set]
        by_cases h : f + 1 = u
        · subst h
          rw [if_pos rfl, g2, nxt (by omega), if_pos (by simp)]
        · rw [if_neg h, g2, if_neg (by simp; omega)]
          rfl) (fun s ⟨e1, g1, g2⟩ => by
      obtain ⟨k, fs⟩ := s
      dsimp only at e1 g1 g2
      subst e1
      refine ⟨fs, ?_, g1, by rw [List.take_length] at g2; exact g2⟩
      rw [m_reach_newGraph_l1]
      dsimp only
      rw [if_neg ct_ge]) (Nat.zero_le _) (0, List.replicate (n + 1) 0) ⟨rfl, by simp, fun u hu => by simp⟩
  have hle : ∀ p : Int × Int × Int → Bool, a.2.2.2.countP p ≤ 1000000 := fun p => Nat.le_trans List.countP_le_length hl
  obtain ⟨o2, h2, ho2, hv2⟩ := iter_inv (f := m_reach_newGraph_l2 a) (fun i s => s.1 = (i : Int) ∧ s.2.length = n + 1 ∧ ∀ u (_ : u < s.2.length), s.2[u] = if u ≤ i then ((a.2.2.2.countP fun x => decide (x.1 < (u : Int)) : Nat) : Int) else ((a.2.2.2.countP fun x => decide (x.1 + 1 = (u : Int)) : Nat) : Int)) (fun o => o.length = n + 1 ∧ ∀ u (_ : u < o.length), o[u] = ((a.2.2.2.countP fun x => decide (x.1 < (u : Int)) : Nat) : Int)) n 0 (by omega) (fun i s hi ⟨e1, g1, g2⟩ => by
      obtain ⟨k, fs⟩ := s
      dsimp only at e1 g1 g2
      subst e1
      refine .inl ⟨(((i + 1 : Nat) : Int), fs.set (i + 1) (W (fs[i + 1]'(by omega) + fs[i]'(by omega)))), ?_, rfl, by simp [g1], fun u hu => ?_⟩
      · rw [m_reach_newGraph_l2]
        dsimp only
        rw [hnn, if_pos (by simp; omega), hW i (by omega), idx_at (by omega), Option.bind_some, idx_at (by omega), Option.bind_some, Option.bind_some, upd_at (by omega), Option.bind_some]
      · have hu2 : u < fs.length := by simpa using hu
        dsimp only
        rw [List.getElem_set]
        by_cases h : i + 1 = u
        · subst h
          have e3 := countP_lt (i : Int) a.2.2.2
          have e4 := hle fun x => decide (x.1 < (i : Int) + 1)
          rw [if_pos rfl, if_pos (Nat.le_refl _), g2, g2, if_neg (by omega), if_pos (Nat.le_refl _), show ((i + 1 : Nat) : Int) = (i : Int) + 1 from rfl, W_of (by omega) (by omega)]
          omega
        · rw [if_neg h, g2]
          by_cases h3 : u ≤ i
          · rw [if_pos h3, if_pos (by omega)]
          · rw [if_neg h3, if_neg (by omega)]) (fun s ⟨e1, g1, g2⟩ => by
      obtain ⟨k, fs⟩ := s
      dsimp only at e1 g1 g2
      subst e1
      refine ⟨fs, ?_, g1, fun u hu => by rw [g2 u hu, if_pos (by omega)]⟩
      rw [m_reach_newGraph_l2]
      dsimp only
      rw [hnn, if_neg (by simp)]) (Nat.zero_le _) (0, o) ⟨rfl, ho, fun u hu => by
      rw [hv u hu]
      by_cases h : u ≤ 0
      · rw [if_pos h]
        obtain rfl : u = 0 := by omega
        rw [List.countP_eq_zero.2 fun x hx => by have := hr.es x hx; simp; omega, List.countP_eq_zero.2 fun x hx => by have := hr.es x hx; simp; omega]
      · rw [if_neg h]⟩
  have hmono : ∀ q : Nat, (a.2.2.2.countP fun x => decide (x.1 < (q : Int))) ≤ a.2.2.2.countP fun x => decide (x.1 < ((q + 1 : Nat) : Int)) := fun q => by
    have e3 := countP_lt (q : Int) a.2.2.2
    rw [show ((q + 1 : Nat) : Int) = (q : Int) + 1 from rfl]; omega
  refine ⟨o2, fun s => a.2.2.2.countP fun x => decide (x.1 < (s : Int)), ?_, ho2, hv2, fun q _ => ⟨hmono q, List.countP_le_length⟩, fun q hq => ?_⟩
  · rw [m_reach_newGraph, hnn, hW n (Nat.le_refl _), mkL_eq (by omega) (by omega), Option.bind_some, Int.toNat_natCast, h1, Option.bind_some, h2]
    rfl
  · have hdn : ∀ (u : Nat) k (h : k < a.2.2.2.length), decide (a.2.2.2[k].1 < (u : Int)) = decide (k < a.2.2.2.countP fun x => decide (x.1 < (u : Int))) := fun u k h => down_lt (fun x => decide (x.1 < (u : Int))) a.2.2.2 (hr.so.imp fun {x y} hxy hy => by simp at hy ⊢; omega) k h
    exact mid_filter (fun x : Int × Int × Int => x.1 == (q : Int)) a.2.2.2 (a.2.2.2.countP fun x => decide (x.1 < (q : Int))) (a.2.2.2.countP fun x => decide (x.1 < ((q + 1 : Nat) : Int))) (hmono q) List.countP_le_length (fun k h => by
      have d1 := hdn q k h
      have d2 := hdn (q + 1) k h
      rw [decide_eq_decide] at d1 d2
      rw [Bool.eq_iff_iff, beq_iff_eq, decide_eq_true_eq]
      omega)
theorem rng_inv {S : Type} {f : Nat → S → Option S} (P : Nat → S → Prop) {N : Nat} (hs : ∀ k s, k < N → P k s → ∃ s', f k s = some s' ∧ P (k + 1) s') : ∀ (m k : Nat) (s : S), k + m = N → P k s → ∃ o, rngF f m k s = some o ∧ P N o
  | 0, k, s, e, h => ⟨s, rfl, by rw [← e]; exact h⟩
  | m + 1, k, s, e, h => by
    obtain ⟨s', h1, h2⟩ := hs k s (by omega) h
    obtain ⟨o, h3, h4⟩ := rng_inv P hs m (k + 1) s' (by omega) h2
    exact ⟨o, by rw [rngF, h1]; exact h3, h4⟩
end Go.Proofs.Ythchkddhibhenaa

namespace Go.Proofs.Ythchkddhibhenaa
theorem int_nodup_len {n : Nat} {l : List Int} (hn : l.Nodup) (hr : ∀ x ∈ l, 0 ≤ x ∧ x < (n : Int)) : l.length ≤ n := by
  have h := nodup_len n (l.map Int.toNat) (by
    unfold List.Nodup
    rw [List.pairwise_map]
    refine List.Pairwise.imp_of_mem (fun {x y} hx hy hxy e => hxy ?_) hn
    have := hr x hx
    have := hr y hy
    omega) (fun x hx => by
    obtain ⟨y, hy, rfl⟩ := List.mem_map.1 hx
    have := hr y hy
    omega)
  simpa using h
/-- One state leads to another. -/
inductive RchC (es : List Ed) : Int → Int → Prop
  | refl (s : Int) : RchC es s s
  | step {x : Ed} {t : Int} (hx : x ∈ es) (h : RchC es x.t t) : RchC es x.f t
theorem RchC.trans {es : List Ed} {a b c : Int} (h : RchC es a b) (h' : RchC es b c) : RchC es a c := by
  induction h with
  | refl s => exact h'
  | step hx _ ih => exact .step hx (ih h')
theorem RchC.edge {es : List Ed} {x : Ed} (hx : x ∈ es) : RchC es x.f x.t := .step hx (.refl _)
/-- Both lead to each other. -/
def Scc (es : List Ed) (a b : Int) : Prop := RchC es a b ∧ RchC es b a
theorem Scc.refl (es : List Ed) (a : Int) : Scc es a a := ⟨.refl _, .refl _⟩
theorem Scc.symm {es : List Ed} {a b : Int} (h : Scc es a b) : Scc es b a := ⟨h.2, h.1⟩
theorem Scc.trans {es : List Ed} {a b c : Int} (h : Scc es a b) (h' : Scc es b c) : Scc es a c := ⟨h.1.trans h'.1, h'.2.trans h.2⟩
/-- The order in which a search in depth finishes the states. -/
structure FinOrd (es : List Ed) (L : List Int) : Prop where
  nd : L.Nodup
  good : ∀ (i : Nat) (hi : i < L.length), ∀ y ∈ L.take (i + 1), ∀ x ∈ es, x.f = y → x.t ∈ L.take (i + 1) ∨ (x.t ∈ L ∧ RchC es x.t L[i])
/-- A path either stays within the first states, or leaves them by an edge. -/
theorem RchC.leave {es : List Ed} {A : List Int} {a b : Int} (h : RchC es a b) (ha : a ∈ A) : b ∈ A ∨ ∃ x ∈ es, x.f ∈ A ∧ x.t ∉ A ∧ RchC es a x.f ∧ RchC es x.t b := by
  induction h with
  | refl s => exact .inl ha
  | @step x t hx h ih =>
    by_cases hm : x.t ∈ A
    · rcases ih hm with h1 | ⟨y, hy, h2, h3, h4, h5⟩
      · exact .inl h1
      · exact .inr ⟨y, hy, h2, h3, .step hx h4, h5⟩
    · exact .inr ⟨x, hx, ha, hm, .refl _, h⟩
/-- Of the states that are connected with u, one finishes no earlier than what u leads to. -/
theorem FinOrd.last {es : List Ed} {L : List Int} (h : FinOrd es L) : ∀ (d i : Nat) (hi : i < L.length), L.length - i ≤ d → ∀ v, RchC es L[i] v → ∃ (k : Nat) (hk : k < L.length), Scc es L[k] L[i] ∧ v ∈ L.take (k + 1)
  | 0, i, hi, hd, _, _ => by omega
  | d + 1, i, hi, hd, v, hv => by
    have hm : L[i] ∈ L.take (i + 1) := by
      rw [List.take_succ_eq_append_getElem hi]
      exact List.mem_append_right _ (List.mem_singleton.2 rfl)
    rcases hv.leave hm with h1 | ⟨x, hx, h2, h3, h4, h5⟩
    · exact ⟨i, hi, Scc.refl _ _, h1⟩
    · rcases h.good i hi x.f h2 x hx rfl with h6 | ⟨h6, h7⟩
      · exact absurd h6 h3
      · obtain ⟨j, hj, hje⟩ := List.mem_iff_getElem.1 h6
        have hji : i < j := by
          rcases Nat.lt_or_ge i j with h8 | h8
          · exact h8
          · exact absurd (by rw [← hje]; exact List.mem_iff_getElem.2 ⟨j, by rw [List.length_take]; omega, by rw [List.getElem_take]⟩) h3
        rw [← hje] at h5 h7
        obtain ⟨k, hk, h9, h10⟩ := h.last d j hj (by omega) v h5
        refine ⟨k, hk, h9.trans ⟨h7, ?_⟩, h10⟩
        rw [hje]
        exact h4.trans (RchC.edge hx)
/-- A set of states that is a union of components, of which the last one that finishes is r: what leads to r within it is connected with r. -/
theorem FinOrd.root {es : List Ed} {L : List Int} (h : FinOrd es L) {U : Int → Prop} (hU : ∀ a b, Scc es a b → U a → U b) {r : Nat} (hr : r < L.length) (hlast : ∀ (k : Nat) (hk : k < L.length), U L[k] → k ≤ r) {u : Int} (hu : U u) (huL : u ∈ L) (hur : RchC es u L[r]) : Scc es u L[r] := by
  obtain ⟨i, hi, rfl⟩ := List.mem_iff_getElem.1 huL
  obtain ⟨k, hk, h1, h2⟩ := h.last (L.length - i) i hi (Nat.le_refl _) _ hur
  have hkr := hlast k hk (hU _ _ h1.symm hu)
  obtain ⟨j, hj, hje⟩ := List.mem_iff_getElem.1 h2
  rw [List.length_take] at hj
  rw [List.getElem_take] at hje
  have hjr : j = r := by
    rcases Nat.lt_trichotomy j r with h3 | h3 | h3
    · exact absurd hje (List.pairwise_iff_getElem.1 h.nd j r (by omega) hr h3)
    · exact h3
    · exact absurd hje.symm (List.pairwise_iff_getElem.1 h.nd r j hr (by omega) h3)
  have hkr2 : k = r := by omega
  subst hkr2
  exact h1.symm

/-- The places of the search: a state and the edges of it that are left. -/
abbrev Stk := List (Int × List Ed)
def outE (es : List Ed) (s : Int) : List Ed := es.filter fun x => decide (x.f = s)
/-- The states on the stack and those that are finished. -/
abbrev held (st : Stk) (ord : List Int) : List Int := st.map (·.1) ++ ord
/-- What holds while the search goes on. -/
structure FIC (es : List Ed) (n : Nat) (st : Stk) (seen : List Bool) (ord : List Int) : Prop where
  len : seen.length = n
  rng : ∀ t ∈ held st ord, 0 ≤ t ∧ t < (n : Int)
  nd : (held st ord).Nodup
  seen : ∀ t, 0 ≤ t → t < (n : Int) → (Gd seen t ↔ t ∈ held st ord)
  fin : ∀ y ∈ ord, ∀ x ∈ es, x.f = y → x.t ∈ held st ord
  own : ∀ p ∈ st, ∀ x ∈ p.2, x ∈ es ∧ x.f = p.1
  stk : ∀ p ∈ st, ∀ x ∈ es, x.f = p.1 → x ∈ p.2 ∨ x.t ∈ held st ord
  path : (st.map (·.1)).Pairwise (fun a b => RchC es b a)
  good : ∀ (i : Nat) (hi : i < ord.length), ∀ y ∈ ord.take (i + 1), ∀ x ∈ es, x.f = y → x.t ∈ ord.take (i + 1) ∨ (x.t ∈ held st ord ∧ RchC es x.t ord[i])
theorem held_pop {s : Int} {r : List Ed} {st : Stk} {ord : List Int} (t : Int) : t ∈ held st (ord ++ [s]) ↔ t ∈ held ((s, r) :: st) ord := by
  simp only [held, List.map_cons, List.mem_append, List.mem_cons, List.not_mem_nil, or_false]
  constructor
  · rintro (h | h | h)
    · exact .inl (.inr h)
    · exact .inr h
    · exact .inl (.inl h)
  · rintro ((h | h) | h)
    · exact .inr (.inr h)
    · exact .inl h
    · exact .inr (.inl h)
section
variable {es : List Ed} {n : Nat} {st : Stk} {seen : List Bool} {ord : List Int}
/-- A state is finished. -/
theorem FIC.pop {s : Int} (h : FIC es n ((s, []) :: st) seen ord) : FIC es n st seen (ord ++ [s]) := by
  have hp := fun t => held_pop (s := s) (r := []) (st := st) (ord := ord) t
  have hnd := h.nd
  simp only [held, List.map_cons, List.cons_append, List.nodup_cons] at hnd
  have hpath := h.path
  rw [List.map_cons, List.pairwise_cons] at hpath
  have hs0 := h.stk (s, []) (List.mem_cons_self ..)
  refine ⟨h.len, fun t ht => h.rng t ((hp t).1 ht), ?_, fun t h0 h1 => (h.seen t h0 h1).trans (hp _).symm, fun y hy x hx hf => ?_, fun p hp' => h.own p (List.mem_cons_of_mem _ hp'), fun p hp' x hx hf => (h.stk p (List.mem_cons_of_mem _ hp') x hx hf).imp id (fun h2 => (hp _).2 h2), hpath.2, fun i hi y hy x hx hf => ?_⟩
  · show (st.map (·.1) ++ (ord ++ [s])).Nodup
    rw [← List.append_assoc, List.nodup_append]
    refine ⟨hnd.2, by simp, fun a ha b hb e => ?_⟩
    rw [List.mem_singleton.1 hb] at e
    exact hnd.1 (e ▸ ha)
  · rcases List.mem_append.1 hy with h1 | h1
    · exact (hp _).2 (h.fin y h1 x hx hf)
    · rw [List.mem_singleton.1 h1] at hf
      rcases hs0 x hx hf with h2 | h2
      · cases h2
      · exact (hp _).2 h2
  · rcases Nat.lt_or_ge i ord.length with h1 | h1
    · rw [List.take_append_of_le_length (by omega)] at hy ⊢
      rcases h.good i h1 y hy x hx hf with h2 | ⟨h2, h3⟩
      · exact .inl h2
      · refine .inr ⟨(hp _).2 h2, ?_⟩
        rw [List.getElem_append_left h1]
        exact h3
    · have hil : i = ord.length := by rw [List.length_append, List.length_singleton] at hi; omega
      subst hil
      rw [List.take_of_length_le (by simp)] at hy ⊢
      have hx2 : x.t ∈ held ((s, []) :: st) ord := by
        rcases List.mem_append.1 hy with h2 | h2
        · exact h.fin y h2 x hx hf
        · rw [List.mem_singleton.1 h2] at hf
          rcases hs0 x hx hf with h3 | h3
          · cases h3
          · exact h3
      have hx3 := (hp _).2 hx2
      rcases List.mem_append.1 hx3 with h2 | h2
      · right
        refine ⟨hx3, ?_⟩
        rw [List.getElem_append_right (by omega)]
        simp only [Nat.sub_self, List.getElem_cons_zero]
        exact hpath.1 _ h2
      · exact .inl h2
/-- An edge to a state that has been seen. -/
theorem FIC.skip {s : Int} {x : Ed} {rem : List Ed} (h : FIC es n ((s, x :: rem) :: st) seen ord) (hx : x.t ∈ held ((s, x :: rem) :: st) ord) : FIC es n ((s, rem) :: st) seen ord := by
  refine ⟨h.len, h.rng, h.nd, h.seen, h.fin, fun p hp y hy => ?_, fun p hp y hy hf => ?_, h.path, h.good⟩
  · rcases List.mem_cons.1 hp with rfl | hp
    · exact h.own (s, x :: rem) (List.mem_cons_self ..) y (List.mem_cons_of_mem _ hy)
    · exact h.own p (List.mem_cons_of_mem _ hp) y hy
  · rcases List.mem_cons.1 hp with rfl | hp
    · rcases h.stk (s, x :: rem) (List.mem_cons_self ..) y hy hf with h1 | h1
      · rcases List.mem_cons.1 h1 with rfl | h1
        · exact .inr hx
        · exact .inl h1
      · exact .inr h1
    · exact h.stk p (List.mem_cons_of_mem _ hp) y hy hf
/-- A state is come to. -/
theorem FIC.enter {t : Int} (h : FIC es n st seen ord) (h0 : 0 ≤ t) (h1 : t < (n : Int)) (hn : t ∉ held st ord) (hr : ∀ s ∈ st.map (·.1), RchC es s t) : FIC es n ((t, outE es t) :: st) (seen.set t.toNat true) ord := by
  have hsub : ∀ u, u ∈ held st ord → u ∈ held ((t, outE es t) :: st) ord := fun u hu => List.mem_cons_of_mem _ hu
  refine ⟨by rw [List.length_set]; exact h.len, fun u hu => ?_, List.nodup_cons.2 ⟨hn, h.nd⟩, fun u hu0 hu1 => ?_, fun y hy x hx hf => hsub _ (h.fin y hy x hx hf), fun p hp x hx => ?_, fun p hp x hx hf => ?_, List.pairwise_cons.2 ⟨fun s hs => hr s hs, h.path⟩, fun i hi y hy x hx hf => (h.good i hi y hy x hx hf).imp id (fun ⟨a, b⟩ => ⟨hsub _ a, b⟩)⟩
  · rcases List.mem_cons.1 hu with rfl | hu
    · exact ⟨h0, h1⟩
    · exact h.rng u hu
  · rw [Gd_true hu0 (by rw [h.len]; omega), h.seen u hu0 hu1]
    constructor
    · rintro (h2 | h2)
      · exact hsub _ h2
      · have : u = t := by omega
        rw [this]
        exact List.mem_cons_self ..
    · intro h2
      rcases List.mem_cons.1 h2 with rfl | h2
      · exact .inr rfl
      · exact .inl h2
  · rcases List.mem_cons.1 hp with rfl | hp
    · have := List.mem_filter.1 hx
      exact ⟨this.1, by simpa using this.2⟩
    · exact h.own p hp x hx
  · rcases List.mem_cons.1 hp with rfl | hp
    · exact .inl (List.mem_filter.2 ⟨hx, by simpa using hf⟩)
    · exact (h.stk p hp x hx hf).imp id (hsub _)
theorem FIC.push {s : Int} {x : Ed} {rem : List Ed} (h : FIC es n ((s, x :: rem) :: st) seen ord) (h0 : 0 ≤ x.t) (h1 : x.t < (n : Int)) (hn : x.t ∉ held ((s, x :: rem) :: st) ord) : FIC es n ((x.t, outE es x.t) :: (s, rem) :: st) (seen.set x.t.toNat true) ord := by
  have hx := h.own (s, x :: rem) (List.mem_cons_self ..) x (List.mem_cons_self ..)
  have hpath := h.path
  rw [List.map_cons, List.pairwise_cons] at hpath
  have hst : ∀ u ∈ s :: st.map (·.1), RchC es u x.t := by
    intro u hu
    have he : RchC es s x.t := by have := RchC.edge hx.1; rwa [hx.2] at this
    rcases List.mem_cons.1 hu with rfl | hu
    · exact he
    · exact (hpath.1 u hu).trans he
  have he := h.enter h0 h1 hn hst
  refine ⟨he.len, he.rng, he.nd, he.seen, he.fin, fun p hp y hy => ?_, fun p hp y hy hf => ?_, he.path, he.good⟩
  · rcases List.mem_cons.1 hp with rfl | hp
    · exact he.own _ (List.mem_cons_self ..) y hy
    · rcases List.mem_cons.1 hp with rfl | hp
      · exact h.own (s, x :: rem) (List.mem_cons_self ..) y (List.mem_cons_of_mem _ hy)
      · exact h.own p (List.mem_cons_of_mem _ hp) y hy
  · rcases List.mem_cons.1 hp with rfl | hp
    · exact he.stk _ (List.mem_cons_self ..) y hy hf
    · rcases List.mem_cons.1 hp with rfl | hp
      · rcases he.stk (s, x :: rem) (List.mem_cons_of_mem _ (List.mem_cons_self ..)) y hy hf with h3 | h3
        · rcases List.mem_cons.1 h3 with rfl | h3
          · exact .inr (List.mem_cons_self ..)
          · exact .inl h3
        · exact .inr h3
      · exact he.stk p (List.mem_cons_of_mem _ (List.mem_cons_of_mem _ hp)) y hy hf
end
/-- The search. -/
def dfsL (es : List Ed) : Nat → Stk → List Bool → List Int → List Bool × List Int
  | 0, _, seen, ord => (seen, ord)
  | _ + 1, [], seen, ord => (seen, ord)
  | f + 1, (s, []) :: st, seen, ord => dfsL es f st seen (ord ++ [s])
  | f + 1, (s, x :: rem) :: st, seen, ord => if seen.getD x.t.toNat false = true then dfsL es f ((s, rem) :: st) seen ord else dfsL es f ((x.t, outE es x.t) :: (s, rem) :: st) (seen.set x.t.toNat true) ord
/-- How much is left to do. -/
def leftL (es : List Ed) (n : Nat) (st : Stk) (seen : List Bool) : Nat := (st.map fun p => p.2.length + 1).sum + ((List.range n).map fun t => if seen.getD t false = true then 0 else (outE es (t : Int)).length + 2).sum
theorem sum_set {n : Nat} {seen : List Bool} {g : Nat → Nat} (hl : seen.length = n) {t : Nat} (ht : t < n) (hs : seen.getD t false = false) : ∀ k, k ≤ n → ((List.range k).map fun i => if (seen.set t true).getD i false = true then 0 else g i).sum + (if t < k then g t else 0) = ((List.range k).map fun i => if seen.getD i false = true then 0 else g i).sum
  | 0, _ => by simp
  | k + 1, hk => by
    have ih := sum_set (g := g) hl ht hs k (by omega)
    rw [List.range_succ, List.map_append, List.map_append, List.sum_append, List.sum_append, ← ih]
    simp only [List.map_cons, List.map_nil, List.sum_cons, List.sum_nil, Nat.add_zero]
    by_cases e : t = k
    · subst e
      rw [List.getD_eq_getElem?_getD, List.getElem?_set_self (by omega), hs]
      simp
    · rw [show (seen.set t true).getD k false = seen.getD k false by rw [List.getD_eq_getElem?_getD, List.getElem?_set_ne e, ← List.getD_eq_getElem?_getD]]
      by_cases h1 : t < k
      · have h2 : t < k + 1 := by omega
        simp only [h1, h2, if_true]
        omega
      · have h2 : ¬ t < k + 1 := by omega
        simp only [h1, h2, if_false]
        omega
theorem leftL_enter {es : List Ed} {n : Nat} {st : Stk} {seen : List Bool} (hl : seen.length = n) {t : Int} (h0 : 0 ≤ t) (h1 : t < (n : Int)) (hs : seen.getD t.toNat false = false) : leftL es n ((t, outE es t) :: st) (seen.set t.toNat true) + 1 = leftL es n st seen := by
  have h := sum_set (g := fun t => (outE es (t : Int)).length + 2) hl (t := t.toNat) (by omega) hs n (Nat.le_refl _)
  rw [if_pos (by omega), Int.toNat_of_nonneg h0] at h
  unfold leftL
  rw [List.map_cons, List.sum_cons]
  dsimp only at h ⊢
  omega
/-- The search ends, with no state left on the stack. -/
theorem dfs_says {es : List Ed} {n : Nat} (hes : ∀ x ∈ es, 0 ≤ x.t ∧ x.t < (n : Int)) : ∀ (f : Nat) (st : Stk) (seen : List Bool) (ord : List Int), FIC es n st seen ord → leftL es n st seen ≤ f →
    FIC es n [] (dfsL es f st seen ord).1 (dfsL es f st seen ord).2 ∧ (∀ t ∈ held st ord, t ∈ (dfsL es f st seen ord).2)
  | 0, [], seen, ord, h, _ => ⟨h, fun t ht => ht⟩
  | 0, p :: st, seen, ord, _, hf => by
    unfold leftL at hf
    rw [List.map_cons, List.sum_cons] at hf
    omega
  | f + 1, [], seen, ord, h, _ => ⟨h, fun t ht => ht⟩
  | f + 1, (s, []) :: st, seen, ord, h, hf => by
    have hf2 : leftL es n st seen ≤ f := by
      unfold leftL at hf ⊢
      rw [List.map_cons, List.sum_cons] at hf
      dsimp only at hf
      simp only [List.length_nil] at hf
      omega
    obtain ⟨h1, h2⟩ := dfs_says hes f st seen (ord ++ [s]) h.pop hf2
    rw [dfsL]
    exact ⟨h1, fun t ht => h2 t ((held_pop t).2 ht)⟩
  | f + 1, (s, x :: rem) :: st, seen, ord, h, hf => by
    have hx := h.own (s, x :: rem) (List.mem_cons_self ..) x (List.mem_cons_self ..)
    have hr := hes x hx.1
    have hs := h.seen x.t hr.1 hr.2
    have hm : leftL es n ((s, x :: rem) :: st) seen = leftL es n ((s, rem) :: st) seen + 1 := by
      unfold leftL
      rw [List.map_cons, List.sum_cons, List.map_cons, List.sum_cons]
      dsimp only
      rw [List.length_cons]
      omega
    rw [dfsL]
    by_cases hg : seen.getD x.t.toNat false = true
    · rw [if_pos hg]
      obtain ⟨h1, h2⟩ := dfs_says hes f ((s, rem) :: st) seen ord (h.skip (hs.1 hg)) (by omega)
      exact ⟨h1, h2⟩
    · rw [if_neg hg]
      have hle := leftL_enter (es := es) (st := (s, rem) :: st) h.len hr.1 hr.2 (by simpa using hg)
      obtain ⟨h1, h2⟩ := dfs_says hes f ((x.t, outE es x.t) :: (s, rem) :: st) (seen.set x.t.toNat true) ord (h.push hr.1 hr.2 (fun e => hg (hs.2 e))) (by omega)
      exact ⟨h1, fun t ht => h2 t (List.mem_cons_of_mem _ ht)⟩
/-- All states in the order in which they are finished. -/
def ordStep (es : List Ed) (n : Nat) (S : List Bool × List Int) (s : Nat) : List Bool × List Int :=
  if S.1.getD s false = true then S else dfsL es (leftL es n [((s : Int), outE es (s : Int))] (S.1.set s true)) [((s : Int), outE es (s : Int))] (S.1.set s true) S.2
def orderF (es : List Ed) (n : Nat) : List Bool × List Int := (List.range n).foldl (ordStep es n) (List.replicate n false, [])
theorem order_fold {es : List Ed} {n : Nat} (hes : ∀ x ∈ es, 0 ≤ x.t ∧ x.t < (n : Int)) : ∀ (k : Nat), k ≤ n →
    FIC es n [] ((List.range k).foldl (ordStep es n) (List.replicate n false, [])).1 ((List.range k).foldl (ordStep es n) (List.replicate n false, [])).2 ∧ ∀ t, t < k → (t : Int) ∈ ((List.range k).foldl (ordStep es n) (List.replicate n false, [])).2
  | 0, _ => by
    refine ⟨⟨by simp, fun t ht => (by cases ht), List.nodup_nil, fun t h0 h1 => ?_, fun y hy => (by cases hy), fun p hp => (by cases hp), fun p hp => (by cases hp), List.Pairwise.nil, fun i hi => (by cases hi)⟩, fun t ht => absurd ht (Nat.not_lt_zero _)⟩
    unfold Gd
    have e : (List.replicate n false).getD t.toNat false = false := by
      rw [List.getD_eq_getElem?_getD, List.getElem?_replicate]
      split <;> rfl
    simp only [List.range_zero, List.foldl_nil]
    rw [e]
    simp [held]
  | k + 1, hk => by
    obtain ⟨h1, h2⟩ := order_fold hes k (by omega)
    rw [List.range_succ, List.foldl_append]
    simp only [List.foldl_cons, List.foldl_nil]
    generalize (List.range k).foldl (ordStep es n) (List.replicate n false, []) = S at *
    have hs := h1.seen (k : Int) (by omega) (by omega)
    unfold ordStep
    by_cases hg : S.1.getD k false = true
    · rw [if_pos hg]
      refine ⟨h1, fun t ht => ?_⟩
      by_cases e : t = k
      · subst e
        have := hs.1 (by unfold Gd; rw [Int.toNat_natCast]; exact hg)
        simpa [held] using this
      · exact h2 t (by omega)
    · rw [if_neg hg]
      have hn : (k : Int) ∉ held [] S.2 := fun e => hg (by have := hs.2 e; unfold Gd at this; rwa [Int.toNat_natCast] at this)
      have he := h1.enter (t := (k : Int)) (by omega) (by omega) hn (fun s hs => by cases hs)
      rw [Int.toNat_natCast] at he
      obtain ⟨h3, h4⟩ := dfs_says hes _ _ _ _ he (Nat.le_refl _)
      refine ⟨h3, fun t ht => ?_⟩
      by_cases e : t = k
      · subst e
        exact h4 _ (List.mem_cons_self ..)
      · exact h4 _ (List.mem_cons_of_mem _ (by simpa [held] using h2 t (by omega)))
/-- The order of finishing is one. -/
theorem order_says {es : List Ed} {n : Nat} (hes : ∀ x ∈ es, 0 ≤ x.t ∧ x.t < (n : Int)) : FinOrd es (orderF es n).2 ∧ (∀ t ∈ (orderF es n).2, 0 ≤ t ∧ t < (n : Int)) ∧ ∀ t, t < n → (t : Int) ∈ (orderF es n).2 := by
  obtain ⟨h1, h2⟩ := order_fold hes n (Nat.le_refl _)
  have hheld : ∀ t, t ∈ held [] (orderF es n).2 ↔ t ∈ (orderF es n).2 := fun t => by simp [held]
  have hnd := h1.nd
  refine ⟨⟨hnd, fun i hi y hy x hx hf => ?_⟩, fun t ht => h1.rng t ((hheld t).2 ht), h2⟩
  exact (h1.good i hi y hy x hx hf).imp id (fun ⟨a, b⟩ => ⟨(hheld _).1 a, b⟩)

/-- A state that leads to the group is looked at. -/
def grpStep (S : List Bool × List Int) (p : Int) : List Bool × List Int := if S.1.getD p.toNat false = true then S else (S.1.set p.toNat true, S.2 ++ [p])
def preds (es : List Ed) (t : Int) : List Int := (es.filter fun x => decide (x.t = t)).map Ed.f
def grpLoop (es : List Ed) : Nat → Nat → List Bool × List Int → List Bool × List Int
  | 0, _, S => S
  | f + 1, i, S => if i < S.2.length then grpLoop es f (i + 1) ((preds es (S.2.getD i 0)).foldl grpStep S) else S
/-- The edges from states that have no class yet. -/
def freeE (es : List Ed) (cls : List Bool) : List Ed := es.filter fun x => !cls.getD x.f.toNat false
/-- What holds while a group grows; cls0: the classes before it. -/
structure GrpI (es : List Ed) (n : Nat) (cls0 : List Bool) (root : Int) (S : List Bool × List Int) : Prop where
  len : S.1.length = n
  rng : ∀ t ∈ S.2, 0 ≤ t ∧ t < (n : Int)
  nd : S.2.Nodup
  cls : ∀ t, 0 ≤ t → t < (n : Int) → (Gd S.1 t ↔ Gd cls0 t ∨ t ∈ S.2)
  new : ∀ t ∈ S.2, ¬ Gd cls0 t ∧ RchC (freeE es cls0) t root
  root : root ∈ S.2
theorem GrpI.step {es : List Ed} {n : Nat} {cls0 : List Bool} {root : Int} {S : List Bool × List Int} (h : GrpI es n cls0 root S) {x : Ed} (hx : x ∈ es) (ht : x.t ∈ S.2) (h0 : 0 ≤ x.f) (h1 : x.f < (n : Int)) :
    GrpI es n cls0 root (grpStep S x.f) ∧ Gd (grpStep S x.f).1 x.f ∧ (∃ l, (grpStep S x.f).2 = S.2 ++ l) ∧ ∀ t, Gd S.1 t → 0 ≤ t → Gd (grpStep S x.f).1 t := by
  unfold grpStep
  by_cases hg : S.1.getD x.f.toNat false = true
  · rw [if_pos hg]
    exact ⟨h, hg, ⟨[], (List.append_nil _).symm⟩, fun t h _ => h⟩
  · rw [if_neg hg]
    have hc := h.cls x.f h0 h1
    have hl : x.f.toNat < S.1.length := by rw [h.len]; omega
    have hfr : ¬ Gd cls0 x.f := fun e => hg (hc.2 (.inl e))
    have hnot : x.f ∉ S.2 := fun e => hg (hc.2 (.inr e))
    have hfe : x ∈ freeE es cls0 := List.mem_filter.2 ⟨hx, by unfold Gd at hfr; simpa using hfr⟩
    refine ⟨⟨by rw [List.length_set]; exact h.len, fun t ht' => ?_, ?_, fun t ha hb => ?_, fun t ht' => ?_, List.mem_append_left _ h.root⟩, (Gd_true h0 hl).2 (.inr rfl), ⟨_, rfl⟩, fun t ht' ha => (Gd_true ha hl).2 (.inl ht')⟩
    · rcases List.mem_append.1 ht' with h2 | h2
      · exact h.rng t h2
      · rw [List.mem_singleton.1 h2]; exact ⟨h0, h1⟩
    · rw [List.nodup_append]
      exact ⟨h.nd, by simp, fun a ha b hb e => by rw [List.mem_singleton.1 hb] at e; exact hnot (e ▸ ha)⟩
    · rw [Gd_true ha hl, h.cls t ha hb, List.mem_append, List.mem_singleton]
      constructor
      · rintro ((h2 | h2) | h2)
        · exact .inl h2
        · exact .inr (.inl h2)
        · exact .inr (.inr (by omega))
      · rintro (h2 | h2 | h2)
        · exact .inl (.inl h2)
        · exact .inl (.inr h2)
        · exact .inr (by rw [h2])
    · rcases List.mem_append.1 ht' with h2 | h2
      · exact h.new t h2
      · rw [List.mem_singleton.1 h2]
        exact ⟨hfr, .step hfe (h.new _ ht).2⟩
theorem grp_fold {es : List Ed} {n : Nat} {cls0 : List Bool} {root : Int} (hes : ∀ x ∈ es, 0 ≤ x.f ∧ x.f < (n : Int)) {t : Int} : ∀ (l : List Ed) (S : List Bool × List Int), GrpI es n cls0 root S → t ∈ S.2 → (∀ x ∈ l, x ∈ es ∧ x.t = t) →
    GrpI es n cls0 root ((l.map Ed.f).foldl grpStep S) ∧ (∀ x ∈ l, Gd ((l.map Ed.f).foldl grpStep S).1 x.f) ∧ (∃ r, ((l.map Ed.f).foldl grpStep S).2 = S.2 ++ r) ∧ ∀ u, Gd S.1 u → 0 ≤ u → Gd ((l.map Ed.f).foldl grpStep S).1 u
  | [], S, h, _, _ => ⟨h, fun x hx => (by cases hx), ⟨[], (List.append_nil _).symm⟩, fun u h _ => h⟩
  | x :: l, S, h, ht, hl => by
    have hx := hl x (List.mem_cons_self ..)
    have hr := hes x hx.1
    obtain ⟨h1, h2, ⟨r, h3⟩, h4⟩ := h.step hx.1 (by rw [hx.2]; exact ht) hr.1 hr.2
    obtain ⟨h5, h6, ⟨r2, h7⟩, h8⟩ := grp_fold hes l _ h1 (by rw [h3]; exact List.mem_append_left _ ht) (fun y hy => hl y (List.mem_cons_of_mem _ hy))
    rw [List.map_cons, List.foldl_cons]
    refine ⟨h5, fun y hy => ?_, ⟨r ++ r2, by rw [h7, h3, List.append_assoc]⟩, fun u hu h0 => h8 u (h4 u hu h0) h0⟩
    rcases List.mem_cons.1 hy with rfl | hy
    · exact h8 _ h2 hr.1
    · exact h6 y hy
/-- The group is what leads to the root through states without a class. -/
theorem grp_loop {es : List Ed} {n : Nat} {cls0 : List Bool} {root : Int} (hes : ∀ x ∈ es, 0 ≤ x.f ∧ x.f < (n : Int)) : ∀ (f i : Nat) (S : List Bool × List Int), GrpI es n cls0 root S → (∀ k, k < i → k < S.2.length → ∀ x ∈ es, some x.t = S.2[k]? → Gd S.1 x.f) → n + 1 ≤ i + f →
    GrpI es n cls0 root (grpLoop es f i S) ∧ ∀ x ∈ es, x.t ∈ (grpLoop es f i S).2 → Gd (grpLoop es f i S).1 x.f
  | 0, i, S, h, hd, hf => by
    have := int_nodup_len h.nd h.rng
    rw [grpLoop]
    refine ⟨h, fun x hx ht => ?_⟩
    obtain ⟨k, hk, hke⟩ := List.mem_iff_getElem.1 ht
    exact hd k (by omega) hk x hx (by rw [List.getElem?_eq_getElem hk, hke])
  | f + 1, i, S, h, hd, hf => by
    rw [grpLoop]
    by_cases hi : i < S.2.length
    · rw [if_pos hi]
      have hg : S.2.getD i 0 = S.2[i] := by rw [List.getD_eq_getElem?_getD, List.getElem?_eq_getElem hi]; rfl
      have hm : S.2.getD i 0 ∈ S.2 := by rw [hg]; exact List.getElem_mem hi
      obtain ⟨h1, h2, ⟨r, h3⟩, h4⟩ := grp_fold hes (es.filter fun x => decide (x.t = S.2.getD i 0)) S h hm (fun x hx => by
        have := List.mem_filter.1 hx
        exact ⟨this.1, by simpa using this.2⟩)
      refine grp_loop hes f (i + 1) _ h1 (fun k hk hkl x hx he => ?_) (by omega)
      have hkS : k < S.2.length := by omega
      show Gd ((preds es (S.2.getD i 0)).foldl grpStep S).1 x.f
      have he2 : some x.t = S.2[k]? := by
        rw [he]
        show ((preds es (S.2.getD i 0)).foldl grpStep S).2[k]? = _
        unfold preds
        rw [h3, List.getElem?_append_left hkS]
      by_cases e : k = i
      · subst e
        rw [List.getElem?_eq_getElem hkS] at he2
        exact h2 x (List.mem_filter.2 ⟨hx, by rw [hg]; simpa using Option.some.inj he2⟩)
      · exact h4 _ (hd k (by omega) hkS x hx he2) (hes x hx).1
    · rw [if_neg hi]
      refine ⟨h, fun x hx ht => ?_⟩
      obtain ⟨k, hk, hke⟩ := List.mem_iff_getElem.1 ht
      exact hd k (by omega) hk x hx (by rw [List.getElem?_eq_getElem hk, hke])
theorem RchC.mono {es es' : List Ed} (h : ∀ x ∈ es, x ∈ es') {a b : Int} (hr : RchC es a b) : RchC es' a b := by
  induction hr with
  | refl s => exact .refl s
  | step hx _ ih => exact .step (h _ hx) ih
theorem grp_start {es : List Ed} {n : Nat} {cls0 : List Bool} {root : Int} (hes : ∀ x ∈ es, 0 ≤ x.f ∧ x.f < (n : Int)) (hl : cls0.length = n) (h0 : 0 ≤ root) (h1 : root < (n : Int)) (hr : ¬ Gd cls0 root) : GrpI es n cls0 root (cls0.set root.toNat true, [root]) := by
  refine ⟨by rw [List.length_set]; exact hl, fun t ht => ?_, by simp, fun t ha hb => ?_, fun t ht => ?_, List.mem_singleton.2 rfl⟩
  · rw [List.mem_singleton.1 ht]; exact ⟨h0, h1⟩
  · rw [Gd_true ha (by omega), List.mem_singleton]
    constructor
    · rintro (h2 | h2)
      · exact .inl h2
      · exact .inr (by omega)
    · rintro (h2 | h2)
      · exact .inl h2
      · exact .inr (by rw [h2])
  · rw [List.mem_singleton.1 ht]; exact ⟨hr, .refl _⟩
/-- The group that is found from a root. -/
theorem grp_says {es : List Ed} {n : Nat} {cls0 : List Bool} {root : Int} (hes : ∀ x ∈ es, 0 ≤ x.f ∧ x.f < (n : Int)) (hl : cls0.length = n) (h0 : 0 ≤ root) (h1 : root < (n : Int)) (hr : ¬ Gd cls0 root) :
    GrpI es n cls0 root (grpLoop es (n + 1) 0 (cls0.set root.toNat true, [root])) ∧ ∀ t, RchC (freeE es cls0) t root → t ∈ (grpLoop es (n + 1) 0 (cls0.set root.toNat true, [root])).2 := by
  have hs : GrpI es n cls0 root (cls0.set root.toNat true, [root]) := by
    refine ⟨by rw [List.length_set]; exact hl, fun t ht => ?_, by simp, fun t ha hb => ?_, fun t ht => ?_, List.mem_singleton.2 rfl⟩
    · rw [List.mem_singleton.1 ht]; exact ⟨h0, h1⟩
    · rw [Gd_true ha (by omega), List.mem_singleton]
      constructor
      · rintro (h2 | h2)
        · exact .inl h2
        · exact .inr (by omega)
      · rintro (h2 | h2)
        · exact .inl h2
        · exact .inr (by rw [h2])
    · rw [List.mem_singleton.1 ht]; exact ⟨hr, .refl _⟩
  obtain ⟨h2, h3⟩ := grp_loop hes (n + 1) 0 _ hs (fun k hk => absurd hk (Nat.not_lt_zero _)) (by omega)
  refine ⟨h2, fun t ht => ?_⟩
  generalize grpLoop es (n + 1) 0 (cls0.set root.toNat true, [root]) = R at *
  have key : ∀ s u, RchC (freeE es cls0) s u → u = root → s ∈ R.2 := by
    intro s u hu
    induction hu with
    | refl s => intro e; rw [e]; exact h2.root
    | @step x u hx hu ih =>
      intro e
      have hm := List.mem_filter.1 hx
      have h4 := ih e
      have hx0 := hes x hm.1
      have h5 := h3 x hm.1 h4
      rcases (h2.cls x.f hx0.1 hx0.2).1 h5 with h6 | h6
      · exfalso
        have h7 := hm.2
        unfold Gd at h6
        rw [h6] at h7
        cases h7
      · exact h6
  exact key t root ht rfl

/-- A root is looked at. -/
def cmpStep (es : List Ed) (n : Nat) (S : List Bool × List (List Int)) (root : Int) : List Bool × List (List Int) :=
  if S.1.getD root.toNat false = true then S else ((grpLoop es (n + 1) 0 (S.1.set root.toNat true, [root])).1, S.2 ++ [(grpLoop es (n + 1) 0 (S.1.set root.toNat true, [root])).2])
def compF (es : List Ed) (n : Nat) : List (List Int) := ((orderF es n).2.reverse.foldl (cmpStep es n) (List.replicate n false, [])).2
/-- A class of states. -/
structure IsScc (es : List Ed) (n : Nat) (G : List Int) : Prop where
  nd : G.Nodup
  rng : ∀ t ∈ G, 0 ≤ t ∧ t < (n : Int)
  ex : ∃ r ∈ G, ∀ t, 0 ≤ t → t < (n : Int) → (t ∈ G ↔ Scc es t r)
structure CIC (es : List Ed) (n : Nat) (S : List Bool × List (List Int)) : Prop where
  len : S.1.length = n
  cls : ∀ t, 0 ≤ t → t < (n : Int) → (Gd S.1 t ↔ ∃ G ∈ S.2, t ∈ G)
  scc : ∀ G ∈ S.2, IsScc es n G
  dis : S.2.Pairwise (fun G H => ∀ t ∈ G, t ∉ H)
theorem RchC.rng {es : List Ed} {n : Nat} (hes : ∀ x ∈ es, 0 ≤ x.t ∧ x.t < (n : Int)) {a b : Int} (h : RchC es a b) (ha : 0 ≤ a ∧ a < (n : Int)) : 0 ≤ b ∧ b < (n : Int) := by
  induction h with
  | refl s => exact ha
  | step hx _ ih => exact ih (hes _ hx)
theorem RchC.free {es : List Ed} {cls : List Bool} {a b : Int} (h : RchC es a b) : (∀ q, RchC es a q → RchC es q b → ¬ Gd cls q) → RchC (freeE es cls) a b := by
  induction h with
  | refl s => intro _; exact .refl s
  | @step x t hx h ih =>
    intro hq
    have h1 := hq x.f (.refl _) (.step hx h)
    have hm : x ∈ freeE es cls := List.mem_filter.2 ⟨hx, by unfold Gd at h1; simpa using h1⟩
    exact .step hm (ih (fun q h2 h3 => hq q (.step hx h2) h3))
theorem CIC.step {es : List Ed} {n : Nat} {S : List Bool × List (List Int)} {L : List Int} (hes : ∀ x ∈ es, 0 ≤ x.f ∧ x.f < (n : Int) ∧ 0 ≤ x.t ∧ x.t < (n : Int)) (hL : FinOrd es L) (hLr : ∀ t ∈ L, 0 ≤ t ∧ t < (n : Int)) (hLa : ∀ t, 0 ≤ t → t < (n : Int) → t ∈ L)
    (h : CIC es n S) {m : Nat} (hm : m < L.length) (hlater : ∀ (j : Nat) (hj : j < L.length), m < j → Gd S.1 L[j]) : CIC es n (cmpStep es n S L[m]) ∧ (∀ (j : Nat) (hj : j < L.length), m ≤ j → Gd (cmpStep es n S L[m]).1 L[j]) := by
  have hr := hLr _ (List.getElem_mem hm)
  unfold cmpStep
  by_cases hg : S.1.getD L[m].toNat false = true
  · rw [if_pos hg]
    refine ⟨h, fun j hj hmj => ?_⟩
    by_cases e : m = j
    · subst e; exact hg
    · exact hlater j hj (by omega)
  · rw [if_neg hg]
    obtain ⟨h1, h2⟩ := grp_says (fun x hx => ⟨(hes x hx).1, (hes x hx).2.1⟩) h.len hr.1 hr.2 hg
    generalize grpLoop es (n + 1) 0 (S.1.set L[m].toNat true, [L[m]]) = R at *
    have hU : ∀ a b, Scc es a b → (0 ≤ a ∧ a < (n : Int) ∧ ¬ Gd S.1 a) → (0 ≤ b ∧ b < (n : Int) ∧ ¬ Gd S.1 b) := by
      rintro a b hab ⟨ha0, ha1, ha⟩
      have hb := hab.1.rng (fun x hx => (hes x hx).2.2) ⟨ha0, ha1⟩
      refine ⟨hb.1, hb.2, fun hgb => ha ?_⟩
      obtain ⟨G, hG, hbG⟩ := (h.cls b hb.1 hb.2).1 hgb
      obtain ⟨r, _, hr2⟩ := (h.scc G hG).ex
      exact (h.cls a ha0 ha1).2 ⟨G, hG, (hr2 a ha0 ha1).2 (hab.trans ((hr2 b hb.1 hb.2).1 hbG))⟩
    have hmem : ∀ t, 0 ≤ t → t < (n : Int) → (t ∈ R.2 ↔ Scc es t L[m]) := by
      intro t ht0 ht1
      constructor
      · intro ht
        obtain ⟨h3, h4⟩ := h1.new t ht
        exact hL.root (U := fun a => 0 ≤ a ∧ a < (n : Int) ∧ ¬ Gd S.1 a) hU hm (fun k hk hku => by
          rcases Nat.lt_or_ge m k with h5 | h5
          · exact absurd (hlater k hk h5) hku.2.2
          · exact h5) ⟨ht0, ht1, h3⟩ (hLa t ht0 ht1) (h4.mono (fun x hx => (List.mem_filter.1 hx).1))
      · intro hs
        refine h2 t (hs.1.free (fun q hq1 hq2 => ?_))
        exact (hU L[m] q ⟨hs.2.trans hq1, hq2⟩ ⟨hr.1, hr.2, hg⟩).2.2
    refine ⟨⟨h1.len, fun t ht0 ht1 => ?_, fun G hG => ?_, ?_⟩, fun j hj hmj => ?_⟩
    · rw [h1.cls t ht0 ht1, h.cls t ht0 ht1]
      constructor
      · rintro (⟨G, hG, ht⟩ | ht)
        · exact ⟨G, List.mem_append_left _ hG, ht⟩
        · exact ⟨R.2, List.mem_append_right _ (List.mem_singleton.2 rfl), ht⟩
      · rintro ⟨G, hG, ht⟩
        rcases List.mem_append.1 hG with h3 | h3
        · exact .inl ⟨G, h3, ht⟩
        · rw [List.mem_singleton.1 h3] at ht; exact .inr ht
    · rcases List.mem_append.1 hG with h3 | h3
      · exact h.scc G h3
      · rw [List.mem_singleton.1 h3]
        exact ⟨h1.nd, h1.rng, L[m], h1.root, hmem⟩
    · rw [List.pairwise_append]
      refine ⟨h.dis, List.pairwise_singleton _ _, fun G hG H hH t ht => ?_⟩
      rw [List.mem_singleton.1 hH]
      intro htR
      have hrt := h1.rng t htR
      exact (h1.new t htR).1 ((h.cls t hrt.1 hrt.2).2 ⟨G, hG, ht⟩)
    · have hjr := hLr _ (List.getElem_mem hj)
      refine (h1.cls _ hjr.1 hjr.2).2 ?_
      by_cases e : m = j
      · subst e; exact .inr h1.root
      · exact .inl (hlater j hj (by omega))
theorem comp_fold {es : List Ed} {n : Nat} {L : List Int} (hes : ∀ x ∈ es, 0 ≤ x.f ∧ x.f < (n : Int) ∧ 0 ≤ x.t ∧ x.t < (n : Int)) (hL : FinOrd es L) (hLr : ∀ t ∈ L, 0 ≤ t ∧ t < (n : Int)) (hLa : ∀ t, 0 ≤ t → t < (n : Int) → t ∈ L) : ∀ (d : Nat), d ≤ L.length →
    CIC es n ((L.drop (L.length - d)).reverse.foldl (cmpStep es n) (List.replicate n false, [])) ∧ ∀ (j : Nat) (hj : j < L.length), L.length - d ≤ j → Gd ((L.drop (L.length - d)).reverse.foldl (cmpStep es n) (List.replicate n false, [])).1 L[j]
  | 0, _ => by
    rw [Nat.sub_zero, List.drop_length]
    refine ⟨⟨by simp, fun t h0 h1 => ?_, fun G hG => (by cases hG), List.Pairwise.nil⟩, fun j hj h => by omega⟩
    have e : (List.replicate n false).getD t.toNat false = false := by
      rw [List.getD_eq_getElem?_getD, List.getElem?_replicate]
      split <;> rfl
    simp only [List.reverse_nil, List.foldl_nil]
    unfold Gd
    rw [e]
    simp
  | d + 1, hd => by
    obtain ⟨h1, h2⟩ := comp_fold hes hL hLr hLa d (by omega)
    have hm : L.length - (d + 1) < L.length := by omega
    have hdr : L.drop (L.length - (d + 1)) = L[L.length - (d + 1)] :: L.drop (L.length - d) := by
      rw [List.drop_eq_getElem_cons hm]
      congr 2
      omega
    rw [hdr, List.reverse_cons, List.foldl_append]
    simp only [List.foldl_cons, List.foldl_nil]
    exact h1.step hes hL hLr hLa hm (fun j hj hmj => h2 j hj (by omega))
/-- The groups are the classes of the states. -/
theorem comp_says {es : List Ed} {n : Nat} (hes : ∀ x ∈ es, 0 ≤ x.f ∧ x.f < (n : Int) ∧ 0 ≤ x.t ∧ x.t < (n : Int)) : (∀ G ∈ compF es n, IsScc es n G) ∧ (compF es n).Pairwise (fun G H => ∀ t ∈ G, t ∉ H) ∧ ∀ t, 0 ≤ t → t < (n : Int) → ∃ G ∈ compF es n, t ∈ G := by
  obtain ⟨h1, h2, h3⟩ := order_says (fun x hx => (hes x hx).2.2)
  have hLa : ∀ t, 0 ≤ t → t < (n : Int) → t ∈ (orderF es n).2 := fun t h0 h4 => by
    have := h3 t.toNat (by omega)
    rwa [Int.toNat_of_nonneg h0] at this
  obtain ⟨h4, h5⟩ := comp_fold hes h1 h2 hLa (orderF es n).2.length (Nat.le_refl _)
  rw [Nat.sub_self, List.drop_zero] at h4 h5
  refine ⟨h4.scc, h4.dis, fun t h0 h6 => ?_⟩
  obtain ⟨j, hj, hje⟩ := List.mem_iff_getElem.1 (hLa t h0 h6)
  have := h5 j hj (Nat.zero_le _)
  rw [hje] at this
  exact (h4.cls t h0 h6).1 this

/-- The components, each in order, in the order of their first states. -/
structure CompSpec (es : List Ed) (n : Nat) (Cs : List (List Int)) : Prop where
  inc : ∀ C ∈ Cs, Inc C
  scc : ∀ C ∈ Cs, IsScc es n C
  all : ∀ t, 0 ≤ t → t < (n : Int) → ∃ C ∈ Cs, t ∈ C
  ord : Cs.Pairwise (fun C D => C.headD 0 < D.headD 0)
theorem IsScc.ne {es : List Ed} {n : Nat} {C : List Int} (h : IsScc es n C) : ∃ t, t ∈ C := by
  obtain ⟨r, hr, _⟩ := h.ex
  exact ⟨r, hr⟩
/-- The groups in order are the components. -/
theorem compSpec_of {es : List Ed} {n : Nat} {Gs Cs : List (List Int)} (hG : ∀ G ∈ Gs, IsScc es n G) (hall : ∀ t, 0 ≤ t → t < (n : Int) → ∃ G ∈ Gs, t ∈ G)
    (h1 : ∀ C ∈ Cs, Inc C ∧ ∃ G ∈ Gs, ∀ t, t ∈ C ↔ t ∈ G) (h2 : ∀ G ∈ Gs, ∃ C ∈ Cs, ∀ t, t ∈ C ↔ t ∈ G) (h3 : Cs.Pairwise (fun C D => C.headD 0 < D.headD 0)) : CompSpec es n Cs := by
  refine ⟨fun C hC => (h1 C hC).1, fun C hC => ?_, fun t h0 h4 => ?_, h3⟩
  · obtain ⟨hi, G, hGm, hGt⟩ := h1 C hC
    have hs := hG G hGm
    obtain ⟨r, hr, hr2⟩ := hs.ex
    exact ⟨List.Pairwise.imp (fun {a b} (h : a < b) => by omega) hi, fun t ht => hs.rng t ((hGt t).1 ht), r, (hGt r).2 hr, fun t h5 h6 => (hGt t).trans (hr2 t h5 h6)⟩
  · obtain ⟨G, hGm, ht⟩ := hall t h0 h4
    obtain ⟨C, hC, hCt⟩ := h2 G hGm
    exact ⟨C, hC, (hCt t).2 ht⟩
end Go.Proofs.Ythchkddhibhenaa

namespace Go.Proofs.Ythchkddhibhenaa
open Go Go.RowKit
theorem outE_eq {a : AutT} (q : Nat) : (a.2.2.2.filter fun x => x.1 == (q : Int)).map toEd = outE (edsOf a) (q : Int) := by
  unfold outE edsOf
  rw [List.filter_map]
  congr 1
/-- A place of the program's stack, as one of the law's. -/
def stkOf (a : AutT) (F : Nat → Nat) (p : Int × Int) : Int × List Ed := (p.1, ((a.2.2.2.take (F (p.1.toNat + 1))).drop p.2.toNat).map toEd)
theorem finish_sim {a : AutT} {n : Nat} (hr : Right a n) {fs : List Int} {F : Nat → Nat} (hF : FsOk a n fs F) : ∀ (f : Nat) (st : Stk) (seen : List Bool) (ord : List Int) (T : List (Int × Int)), T.reverse.map (stkOf a F) = st → (∀ p ∈ T, 0 ≤ p.1 ∧ p.1 < (n : Int) ∧ (F p.1.toNat : Int) ≤ p.2 ∧ p.2 ≤ (F (p.1.toNat + 1) : Int)) → FIC (edsOf a) n st seen ord → leftL (edsOf a) n st seen ≤ f →
    iterF (m_reach_graph_finish_l1 (a, fs)) (f + 1) (seen, T, ord) = some ((dfsL (edsOf a) f st seen ord).2, (dfsL (edsOf a) f st seen ord).1) := by
  intro f
  induction f with
  | zero =>
    intro st seen ord T hT hp hI hf
    rcases List.eq_nil_or_concat T with rfl | ⟨T0, p, rfl⟩
    · simp only [List.reverse_nil, List.map_nil] at hT
      subst hT
      rw [iterF_succ, m_reach_graph_finish_l1]
      rfl
    · rw [List.concat_eq_append, List.reverse_append, List.map_append] at hT
      subst hT
      unfold leftL at hf
      simp at hf
  | succ f ih =>
    intro st seen ord T hT hp hI hf
    have hnl := hr.nl
    have hl3 := hr.l3
    rcases List.eq_nil_or_concat T with rfl | ⟨T0, p, rfl⟩
    · simp only [List.reverse_nil, List.map_nil] at hT
      subst hT
      rw [iterF_succ, m_reach_graph_finish_l1]
      rfl
    · rw [List.concat_eq_append] at hT hp ⊢
      obtain ⟨s', k'⟩ := p
      have hpp := hp (s', k') (by simp)
      dsimp only at hpp
      obtain ⟨i, rfl⟩ : ∃ i : Nat, s' = i := ⟨s'.toNat, by omega⟩
      obtain ⟨k, rfl⟩ : ∃ k : Nat, k' = k := ⟨k'.toNat, by omega⟩
      rw [Int.toNat_natCast] at hpp
      have hin : i < n := by omega
      have hmono := hF.mono i hin
      have hfl := hF.len
      rw [List.reverse_append, List.map_append] at hT
      have hT : (((i : Nat) : Int), ((a.2.2.2.take (F (i + 1))).drop k).map toEd) :: T0.reverse.map (stkOf a F) = st := hT
      have hlen := int_nodup_len hI.nd hI.rng
      rw [← hT] at hlen
      simp only [held, List.map_cons, List.length_append, List.length_cons, List.length_map, List.length_reverse] at hlen
      have hTl : ((T0 ++ [((i : Int), (k : Int))]).length : Int) - 1 = ((T0.length : Nat) : Int) := by simp
      have hidx : idx (T0 ++ [((i : Int), (k : Int))]) ((T0.length : Nat) : Int) = some ((i : Int), (k : Int)) := by
        rw [idx_at (by simp)]; simp
      have hp0 : ∀ p ∈ T0, 0 ≤ p.1 ∧ p.1 < (n : Int) ∧ (F p.1.toNat : Int) ≤ p.2 ∧ p.2 ≤ (F (p.1.toNat + 1) : Int) := fun p hp1 => hp p (List.mem_append_left _ hp1)
      rw [iterF_succ, m_reach_graph_finish_l1]
      dsimp only
      rw [if_pos (by simp), hTl, W_nat (by omega), hidx, Option.bind_some, nxt (by omega), idx_at (by omega), Option.bind_some, hF.val]
      by_cases hk : k = F (i + 1)
      · subst hk
        rw [if_pos (by simp), app_eq (by simp; omega), Option.bind_some, slc, if_pos ⟨by omega, by omega, by simp; omega⟩, Option.bind_some, Int.toNat_natCast]
        have hrem : ((a.2.2.2.take (F (i + 1))).drop (F (i + 1))).map toEd = [] := by
          rw [List.drop_eq_nil_of_le (by rw [List.length_take]; omega)]; rfl
        rw [hrem] at hT
        subst hT
        have hf2 : leftL (edsOf a) n (T0.reverse.map (stkOf a F)) seen ≤ f := by
          unfold leftL at hf ⊢
          rw [List.map_cons, List.sum_cons] at hf
          dsimp only at hf
          simp only [List.length_nil] at hf
          omega
        have h := ih _ seen (ord ++ [(i : Int)]) T0 rfl hp0 hI.pop hf2
        rw [dfsL]
        dsimp only
        rw [show (T0 ++ [((i : Int), ((F (i + 1) : Nat) : Int))]).take T0.length = T0 by simp]
        exact h
      · have hkl : k < F (i + 1) := by omega
        have hkL : k < a.2.2.2.length := by omega
        rw [if_neg (by simp; omega), idx_at hkL, Option.bind_some]
        obtain ⟨y, hy⟩ : ∃ y, a.2.2.2[k] = y := ⟨_, rfl⟩
        have hyr := hr.es y (hy ▸ List.getElem_mem hkL)
        obtain ⟨t, ht⟩ : ∃ t : Nat, y.2.2 = t := ⟨y.2.2.toNat, by omega⟩
        have htn : t < n := by omega
        have hrem : (a.2.2.2.take (F (i + 1))).drop k = y :: (a.2.2.2.take (F (i + 1))).drop (k + 1) := by
          rw [List.drop_eq_getElem_cons (by rw [List.length_take]; omega), List.getElem_take, hy]
        rw [hrem, List.map_cons] at hT
        subst hT
        have hsl := hI.len
        have hx := hI.own _ (List.mem_cons_self ..) (toEd y) (List.mem_cons_self ..)
        have hs := hI.seen (y.2.2) hyr.2.2.1 hyr.2.2.2.1
        have hm : leftL (edsOf a) n (((i : Int), toEd y :: ((a.2.2.2.take (F (i + 1))).drop (k + 1)).map toEd) :: T0.reverse.map (stkOf a F)) seen = leftL (edsOf a) n (((i : Int), ((a.2.2.2.take (F (i + 1))).drop (k + 1)).map toEd) :: T0.reverse.map (stkOf a F)) seen + 1 := by
          unfold leftL
          rw [List.map_cons, List.sum_cons, List.map_cons, List.sum_cons]
          dsimp only
          rw [List.length_cons]
          omega
        have hupd : upd (T0 ++ [((i : Int), (k : Int))]) ((T0.length : Nat) : Int) ((i : Int), ((k + 1 : Nat) : Int)) = some (T0 ++ [((i : Int), ((k + 1 : Nat) : Int))]) := by
          rw [upd_at (by simp), List.set_append_right _ _ (Nat.le_refl _), Nat.sub_self]; rfl
        have hp1 : ∀ p ∈ T0 ++ [((i : Int), ((k + 1 : Nat) : Int))], 0 ≤ p.1 ∧ p.1 < (n : Int) ∧ (F p.1.toNat : Int) ≤ p.2 ∧ p.2 ≤ (F (p.1.toNat + 1) : Int) := fun p hp2 => by
          rcases List.mem_append.1 hp2 with h | h
          · exact hp0 p h
          · rw [List.mem_singleton.1 h]
            dsimp only
            rw [Int.toNat_natCast]
            omega
        have hst : (T0 ++ [((i : Int), ((k + 1 : Nat) : Int))]).reverse.map (stkOf a F) = ((i : Int), ((a.2.2.2.take (F (i + 1))).drop (k + 1)).map toEd) :: T0.reverse.map (stkOf a F) := by
          rw [List.reverse_append, List.map_append]; rfl
        rw [hy, nxt (by omega), hupd, Option.bind_some, ht, idx_at (by omega), Option.bind_some, dfsL]
        have hgd : seen.getD (toEd y).t.toNat false = seen[t] := by
          show seen.getD y.2.2.toNat false = _
          rw [ht, Int.toNat_natCast, List.getD_eq_getElem?_getD, List.getElem?_eq_getElem (by omega)]; rfl
        rw [hgd]
        cases hb : seen[t] with
        | true =>
          have hg : Gd seen y.2.2 := by unfold Gd; rw [← hb, ← hgd]; rfl
          rw [if_neg (by simp), if_pos rfl]
          exact ih _ seen ord _ hst hp1 (hI.skip (hs.1 hg)) (by omega)
        | false =>
          have hg : ¬ Gd seen y.2.2 := by
            unfold Gd
            rw [show seen.getD y.2.2.toNat false = seen[t] from hgd, hb]; simp
          have hle := leftL_enter (es := edsOf a) (st := ((i : Int), ((a.2.2.2.take (F (i + 1))).drop (k + 1)).map toEd) :: T0.reverse.map (stkOf a F)) hI.len (t := y.2.2) hyr.2.2.1 hyr.2.2.2.1 (by have := hg; unfold Gd at this; simpa using this)
          have hmt := hF.mono t htn
          rw [if_pos (by simp), Option.bind_some, upd_at (by omega), Option.bind_some, idx_at (by omega), Option.bind_some, hF.val, app_eq (by simp; omega), Option.bind_some, if_neg (by simp)]
          have hst2 : (T0 ++ [((i : Int), ((k + 1 : Nat) : Int))] ++ [((t : Int), ((F t : Nat) : Int))]).reverse.map (stkOf a F) = ((toEd y).t, outE (edsOf a) (toEd y).t) :: ((i : Int), ((a.2.2.2.take (F (i + 1))).drop (k + 1)).map toEd) :: T0.reverse.map (stkOf a F) := by
            rw [List.reverse_append, List.map_append, hst]
            show stkOf a F ((t : Int), ((F t : Nat) : Int)) :: _ = _
            congr 1
            unfold stkOf
            dsimp only
            rw [Int.toNat_natCast, Int.toNat_natCast, hF.out t htn, outE_eq]
            show ((t : Int), outE (edsOf a) (t : Int)) = (y.2.2, outE (edsOf a) y.2.2)
            rw [ht]
          have hp2 : ∀ p ∈ T0 ++ [((i : Int), ((k + 1 : Nat) : Int))] ++ [((t : Int), ((F t : Nat) : Int))], 0 ≤ p.1 ∧ p.1 < (n : Int) ∧ (F p.1.toNat : Int) ≤ p.2 ∧ p.2 ≤ (F (p.1.toNat + 1) : Int) := fun p hp2 => by
            rcases List.mem_append.1 hp2 with h | h
            · exact hp1 p h
            · rw [List.mem_singleton.1 h]
              dsimp only
              rw [Int.toNat_natCast]
              omega
          have htt : (toEd y).t.toNat = t := by show y.2.2.toNat = t; omega
          have h := ih _ (seen.set t true) ord _ hst2 hp2 (by
            have := hI.push (x := toEd y) hyr.2.2.1 hyr.2.2.2.1 (fun e => hg (hs.2 e))
            rw [htt] at this
            exact this) (by
            rw [show (y.2.2).toNat = t by omega] at hle
            have : leftL (edsOf a) n (((toEd y).t, outE (edsOf a) (toEd y).t) :: ((i : Int), ((a.2.2.2.take (F (i + 1))).drop (k + 1)).map toEd) :: T0.reverse.map (stkOf a F)) (seen.set t true) + 1 = _ := hle
            omega)
          rw [htt]
          exact h
end Go.Proofs.Ythchkddhibhenaa

