/- Parts of the proof, without what nothing here names. -/
import Derived.Test.YtkkemchihllklaaProg
import Derived.Test.YtkkemchihllklaaQWds5
namespace Go.Proofs.Ytkkemchihllklaa
open Go Go.RowKit
noncomputable def m_overseerref03_has_l1 (p0 : List Int) (p1 : Int) (st6 : Int) : Option (Int ⊕ (Unit ⊕ Unit)) :=
  if decide (st6 < (p0.length : Int)) then
    (idx p0 st6).bind fun x14 =>
    if (x14 == p1) then
      some (.inr (.inr (())))
    else
      some (.inl (W (st6 + 1)))
  else
    some (.inr (.inl ()))
/-- What overseerref03.has computes. -/
noncomputable def m_overseerref03_has (p0 : List Int) (p1 : Int) : Option Bool :=
  (iter (m_overseerref03_has_l1 p0 p1) 0).bind fun o6 =>
  match o6 with
  | .inl u8 =>
    some false
  | .inr (u11) =>
    some true
set_option maxRecDepth 100000 in
set_option maxHeartbeats 8000000 in
theorem m_overseerref03_has_c {s : Sig} {p0 : List Int} {p1 : Int} {a1 : Option Addr} {c1 : Nat} {r : Bool} (h1 : RdL (rK .i64) s a1 c1 p0) (hm : m_overseerref03_has p0 p1 = some r) :
    Calls Try.prog 81 #[.slice a1 p0.length c1, .int .i64 p1] s.w (RetS No s fun v s' => v = .bool r) := by
 unfold m_overseerref03_has at hm
 obtain ⟨N, hN, hNb⟩ := s.fresh
 have m0 : Mv (Up N No) s s := Mv.refl _ _
 refine E.entry Try.func81 rfl Try.ntmps81 rfl rfl (E.seq (E.reg (L.as Wt.no rfl rfl (L.nil (X.seqN (E.seq (E.seq (E.reg (L.as Wt.no rfl rfl (L.nil (X.seqN (E.block ?_))))))))))))
 obtain ⟨o6, eo6, hm⟩ := bindS hm
 refine E.cut (x := .exit 0) (fun e w => ∃ (s9 : Sig) (u8 : Unit), o6 = .inl u8 ∧ Mv (Up N No) s s9 ∧ e = [] ∧ w = s9.w) ?_ ?_
 ·rintro _ _ ⟨s9, u8, rfl, m0, rfl, rfl⟩
  dsimp only at hm
  refine X.blkE (X.seqN (E.seq (E.reg (L.as Wt.no rfl rfl (L.nil (X.seqN (E.ret ?_)))))))
  obtain rfl := Option.some.inj hm
  exact X.rt (.inl rfl) Try.results81 (Rs.tmp rfl Rs.nil) rfl ⟨_, (s9).ren N (fun _ => 0), rfl, rfl, m0.ren hNb, rfl⟩
 intro K10
 refine E.cut (x := .ret) (fun e w => ∃ (s12 : Sig) (u11 : Unit), o6 = .inr (u11) ∧ Mv (Up N No) s s12 ∧ e = [(4, .bool true)] ∧ w = s12.w) ?_ ?_
 ·rintro _ _ ⟨s12, u11, rfl, m0, rfl, rfl⟩
  dsimp only at hm
  refine X.blkR (X.seqR ?_)
  obtain rfl := Option.some.inj hm
  exact X.rt (.inl rfl) Try.results81 (Rs.tmp rfl Rs.nil) rfl ⟨_, (s12).ren N (fun _ => 0), rfl, rfl, m0.ren hNb, rfl⟩
 intro K13
 refine E.iter (fun (st6 : Int) (e : List (Nat × Value)) (w : World) => ∃ (s7 : Sig), Mv (Up N No) s s7 ∧ RdL (rK .i64) s7 a1 c1 p0 ∧ e = [(5, .int .i64 st6), (0, .slice a1 p0.length c1), (1, .int .i64 p1)] ∧ w = s7.w) eo6 ⟨s, m0, h1, rfl, rfl⟩ (Sub.rf rfl) ?_
 rintro st6 res6 hm ih6 ho6 _ _ ⟨s7, m0, h1, rfl, rfl⟩
 unfold m_overseerref03_has_l1 at hm
 refine E.seq (E.seq (E.reg (L.mv Wt.no rfl rfl (L.mv Wt.no rfl rfl (L.len sl23 Wt.no rfl rfl (L.bi Wt.no rfl rfl rfl rfl (L.nil (X.seqN ?_))))))))
 rcases ifS hm with ⟨hc, hm⟩ | ⟨hc, hm⟩
 ·refine E.cT rfl hc (E.skip (X.seqN (E.seq (E.block (E.seq (E.reg (L.mv Wt.no rfl rfl (L.mv Wt.no rfl rfl ?_))))))))
  obtain ⟨x14, ex14, hm⟩ := bindS hm
  refine L.ix (r := (rK .i64)) sl23 h1 Wt.no rfl rfl ex14 rfl fun b15 o15 cc15 me15 rd15 => ?_
  obtain rfl := rd15
  refine L.ld (j := 0) me15 nag3 Wt.no rfl rfl rfl rfl (L.mv Wt.no rfl rfl (L.bi Wt.no rfl rfl rfl rfl (L.nil (X.seqN ?_))))
  rcases ifS hm with ⟨hc, hm⟩ | ⟨hc, hm⟩
  ·refine E.cT rfl hc (E.seq (E.reg (L.as Wt.no rfl rfl (L.nil (X.seqN (E.ret (X.blkR (X.seqR (X.seqR ?_)))))))))
   have hx := ho6 _ (Option.some.inj hm).symm
   exact X.sub (K13 _ _ ⟨s7, (), hx.symm, m0, rfl, rfl⟩) (Sub.rf rfl)
  ·exact E.cF rfl hc (E.skip (X.blkN (X.seqN (E.reg (L.mv Wt.no rfl rfl (L.bi Wt.no rfl rfl rfl rfl (L.as Wt.no rfl rfl (L.nil (X.sub (ih6 _ (Option.some.inj hm).symm _ _ ⟨s7, m0, h1, rfl, rfl⟩) (Sub.rf rfl))))))))))
 ·refine E.cF rfl hc (E.exit (X.seqX (X.seqX ?_)))
  have hx := ho6 _ (Option.some.inj hm).symm
  exact X.sub (K10 _ _ ⟨s7, (), hx.symm, m0, rfl, rfl⟩) Sub.nil

theorem cf81 : Cf Try.prog 81 := Cf.mk Try.func81 (by kernel_rfl) (by kernel_rfl)
theorem cf82 : Cf Try.prog 82 := Cf.mk Try.func82 (by kernel_rfl) (by kernel_rfl)
noncomputable def m_overseerref03_Found_j2 (st156 : Int × List Int) (l162 : List Int) : Option ((Int × List Int) ⊕ (List Int)) :=
  some (.inl (W (st156.1 + 1), l162))
noncomputable def m_overseerref03_Found_l2 (p0 : List Int × Int × List Int × (List (Int × Int × Int))) (st106 : Int × List Int) (st156 : Int × List Int) : Option ((Int × List Int) ⊕ (List Int)) :=
  if decide (st156.1 < (p0.1.length : Int)) then
    (idx st156.2 st106.1).bind fun x170 =>
    (idx p0.1 st156.1).bind fun x177 =>
    (m_overseerref03_Step p0 x170 x177).bind fun r181 =>
    (if decide (r181 ≥ 0) then
      (m_overseerref03_has st156.2 r181).bind fun r197 =>
      some (!r197)
    else
      some false).bind fun b186 =>
    if b186 then
      (app st156.2 ([r181] : List Int)).bind fun x192 =>
      m_overseerref03_Found_j2 st156 x192
    else
      m_overseerref03_Found_j2 st156 st156.2
  else
    some (.inr st156.2)
noncomputable def m_overseerref03_Found_l1 (p0 : List Int × Int × List Int × (List (Int × Int × Int))) (st106 : Int × List Int) : Option ((Int × List Int) ⊕ (List Int)) :=
  if decide (st106.1 < (st106.2.length : Int)) then
    (iter (m_overseerref03_Found_l2 p0 st106) (0, st106.2)).bind fun o156 =>
    some (.inl (W (st106.1 + 1), o156))
  else
    some (.inr st106.2)
noncomputable def m_overseerref03_Found_j1 (p0 : List Int × Int × List Int × (List (Int × Int × Int))) (l8 : List Int) : Option (List Int) :=
  (iter (m_overseerref03_Found_l1 p0) (0, l8)).bind fun o106 =>
  some o106
/-- What overseerref03.Found computes. -/
noncomputable def m_overseerref03_Found (p0 : List Int × Int × List Int × (List (Int × Int × Int))) : Option (List Int) :=
  if decide (p0.2.1 > 0) then
    (app ([] : List Int) ([0] : List Int)).bind fun x203 =>
    m_overseerref03_Found_j1 p0 x203
  else
    m_overseerref03_Found_j1 p0 ([] : List Int)
set_option maxRecDepth 100000 in
set_option maxHeartbeats 8000000 in
theorem m_overseerref03_Found_c {s : Sig} {p0 : List Int × Int × List Int × (List (Int × Int × Int))} {a1 : Option Addr} {c1 : Nat} {a2 : Option Addr} {c2 : Nat} {a3 : Option Addr} {c3 : Nat} {u0 : Nat} {r : List Int} (h1 : RdL (rK .i64) s a1 c1 p0.1) (h2 : RdL (rK .i64) s a2 c2 p0.2.2.1) (h3 : RdL (rP (rK .i64) (rP (rK .i64) (rK .i64))) s a3 c3 p0.2.2.2) (hm : m_overseerref03_Found p0 = some r) :
    Calls Try.prog 80 #[.agg #[.slice a1 p0.1.length c1, .int .i64 p0.2.1, .slice a2 p0.2.2.1.length c2, .slice a3 p0.2.2.2.length c3]] s.w (RetS No s fun v s' => ∃ (a4 : Option Addr) (c4 : Nat), v = .slice a4 r.length c4 ∧ RowT (rK .i64) s' u0 3 a4 c4 r) := by
 unfold m_overseerref03_Found at hm
 obtain ⟨N, hN, hNb⟩ := s.fresh
 have m0 : Mv (Up N No) s s := Mv.refl _ _
 refine E.entry Try.func80 rfl Try.ntmps80 rfl rfl (E.seq (E.reg (L.box (N + 0) Wt.no rfl rfl rfl fun b5 s6 m7 bx5 => ?_)))
 replace m0 := m0.trans m7.no
 replace h1 := h1.mono (m7.le no_No)
 replace h2 := h2.mono (m7.le no_No)
 replace h3 := h3.mono (m7.le no_No)
 refine L.as Wt.no rfl rfl (L.nil (X.seqN (E.seq (E.reg (L.as Wt.no rfl rfl (L.nil (X.seqN (E.seqJ (fun e w => ∃ (s10 : Sig) (l8 : List Int) (a9 : Option Addr) (c9 : Nat), m_overseerref03_Found_j1 p0 l8 = some r ∧ Mv (Up N No) s s10 ∧ RowT (rK .i64) s10 (N + 1) 3 a9 c9 l8 ∧ RdL (rK .i64) s10 a1 c1 p0.1 ∧ RdL (rK .i64) s10 a2 c2 p0.2.2.1 ∧ RdL (rP (rK .i64) (rP (rK .i64) (rK .i64))) s10 a3 c3 p0.2.2.2 ∧ Bx s10 (N + 0) b5 #[.slice a1 p0.1.length c1, .int .i64 p0.2.1, .slice a2 p0.2.2.1.length c2, .slice a3 p0.2.2.2.length c3] 26 ∧ e = [(3, .slice a9 l8.length c9), (1, .pointer (some ⟨b5, 0, none⟩))] ∧ w = s10.w) ?_ ?_))))))))
 ·rintro _ _ ⟨s10, l8, a9, c9, hm, m0, h9, h1, h2, h3, bx5, rfl, rfl⟩
  unfold m_overseerref03_Found_j1 at hm
  refine E.seq (E.seq (E.reg (L.as Wt.no rfl rfl (L.nil (X.seqN (E.block ?_))))))
  obtain ⟨o106, eo106, hm⟩ := bindS hm
  refine E.cut (x := .exit 0) (fun e w => ∃ (s110 : Sig) (a108 : Option Addr) (c108 : Nat), Mv (Up N No) s s110 ∧ RowT (rK .i64) s110 (N + 1) 3 a108 c108 o106 ∧ e = [(3, .slice a108 o106.length c108)] ∧ w = s110.w) ?_ ?_
  ·rintro _ _ ⟨s110, a108, c108, m0, h108, rfl, rfl⟩
   refine X.blkE (X.seqN (E.seq (E.reg (L.mv Wt.no rfl rfl (L.as Wt.no rfl rfl (L.nil (X.seqN (E.ret ?_))))))))
   obtain rfl := Option.some.inj hm
   exact X.rt (.inl rfl) Try.results80 (Rs.tmp rfl Rs.nil) rfl ⟨_, (s110).ren N (fun k => cond (Nat.beq k 1) u0 (0)), rfl, rfl, m0.ren hNb, ⟨a108, c108, rfl, (h108.ren hN)⟩⟩
  intro K111
  refine E.iter (fun (st106 : Int × List Int) (e : List (Nat × Value)) (w : World) => ∃ (s109 : Sig) (a14 : Option Addr) (c14 : Nat), Mv (Up N No) s s109 ∧ RowT (rK .i64) s109 (N + 1) 3 a14 c14 st106.2 ∧ RdL (rK .i64) s109 a1 c1 p0.1 ∧ RdL (rK .i64) s109 a2 c2 p0.2.2.1 ∧ RdL (rP (rK .i64) (rP (rK .i64) (rK .i64))) s109 a3 c3 p0.2.2.2 ∧ Bx s109 (N + 0) b5 #[.slice a1 p0.1.length c1, .int .i64 p0.2.1, .slice a2 p0.2.2.1.length c2, .slice a3 p0.2.2.2.length c3] 26 ∧ e = [(4, .int .i64 st106.1), (3, .slice a14 st106.2.length c14), (1, .pointer (some ⟨b5, 0, none⟩))] ∧ w = s109.w) eo106 ⟨s10, a9, c9, m0, h9, h1, h2, h3, bx5, rfl, rfl⟩ (Sub.rf rfl) ?_
  rintro st106 res106 hm ih106 ho106 _ _ ⟨s109, a14, c14, m0, h14, h1, h2, h3, bx5, rfl, rfl⟩
  unfold m_overseerref03_Found_l1 at hm
  refine E.seq (E.seq (E.reg (L.mv Wt.no rfl rfl (L.mv Wt.no rfl rfl (L.len sl23 Wt.no rfl rfl (L.bi Wt.no rfl rfl rfl rfl (L.nil (X.seqN ?_))))))))
  rcases ifS hm with ⟨hc, hm⟩ | ⟨hc, hm⟩
  ·refine E.cT rfl hc (E.skip (X.seqN (E.seq (E.block (E.seq (E.reg (L.as Wt.no rfl rfl (L.nil (X.seqN (E.block ?_))))))))))
   obtain ⟨o156, eo156, hm⟩ := bindS hm
   refine E.cut (x := .exit 2) (fun e w => ∃ (s160 : Sig) (a158 : Option Addr) (c158 : Nat), Mv (Up N No) s s160 ∧ RowT (rK .i64) s160 (N + 1) 3 a158 c158 o156 ∧ RdL (rK .i64) s160 a1 c1 p0.1 ∧ RdL (rK .i64) s160 a2 c2 p0.2.2.1 ∧ RdL (rP (rK .i64) (rP (rK .i64) (rK .i64))) s160 a3 c3 p0.2.2.2 ∧ Bx s160 (N + 0) b5 #[.slice a1 p0.1.length c1, .int .i64 p0.2.1, .slice a2 p0.2.2.1.length c2, .slice a3 p0.2.2.2.length c3] 26 ∧ e = [(4, .int .i64 st106.1), (3, .slice a158 o156.length c158), (1, .pointer (some ⟨b5, 0, none⟩))] ∧ w = s160.w) ?_ ?_
   ·rintro _ _ ⟨s160, a158, c158, m0, h158, h1, h2, h3, bx5, rfl, rfl⟩
    exact X.blkE (X.blkN (X.seqN (E.reg (L.mv Wt.no rfl rfl (L.bi Wt.no rfl rfl rfl rfl (L.as Wt.no rfl rfl (L.nil (X.sub (ih106 _ (Option.some.inj hm).symm _ _ ⟨s160, a158, c158, m0, h158, h1, h2, h3, bx5, rfl, rfl⟩) (Sub.rf rfl)))))))))
   intro K161
   refine E.iter (fun (st156 : Int × List Int) (e : List (Nat × Value)) (w : World) => ∃ (s159 : Sig) (a114 : Option Addr) (c114 : Nat), Mv (Up N No) s s159 ∧ RowT (rK .i64) s159 (N + 1) 3 a114 c114 st156.2 ∧ RdL (rK .i64) s159 a1 c1 p0.1 ∧ RdL (rK .i64) s159 a2 c2 p0.2.2.1 ∧ RdL (rP (rK .i64) (rP (rK .i64) (rK .i64))) s159 a3 c3 p0.2.2.2 ∧ Bx s159 (N + 0) b5 #[.slice a1 p0.1.length c1, .int .i64 p0.2.1, .slice a2 p0.2.2.1.length c2, .slice a3 p0.2.2.2.length c3] 26 ∧ e = [(5, .int .i64 st156.1), (4, .int .i64 st106.1), (3, .slice a114 st156.2.length c114), (1, .pointer (some ⟨b5, 0, none⟩))] ∧ w = s159.w) eo156 ⟨s109, a14, c14, m0, h14, h1, h2, h3, bx5, rfl, rfl⟩ (Sub.rf rfl) ?_
   rintro st156 res156 hm ih156 ho156 _ _ ⟨s159, a114, c114, m0, h114, h1, h2, h3, bx5, rfl, rfl⟩
   unfold m_overseerref03_Found_l2 at hm
   refine E.seq (E.seq (E.reg (L.mv Wt.no rfl rfl (L.fa fa26_0 Wt.no rfl rfl (L.ld (j := 0) bx5.mem nag23 Wt.no rfl rfl rfl rfl (L.len sl23 Wt.no rfl rfl (L.bi Wt.no rfl rfl rfl rfl (L.nil (X.seqN ?_)))))))))
   rcases ifS hm with ⟨hc, hm⟩ | ⟨hc, hm⟩
   ·refine E.cT rfl hc (E.skip (X.seqN (E.seqJ (fun e w => ∃ (s164 : Sig) (l162 : List Int) (a163 : Option Addr) (c163 : Nat), m_overseerref03_Found_j2 st156 l162 = some res156 ∧ Mv (Up N No) s s164 ∧ RowT (rK .i64) s164 (N + 1) 3 a163 c163 l162 ∧ RdL (rK .i64) s164 a1 c1 p0.1 ∧ RdL (rK .i64) s164 a2 c2 p0.2.2.1 ∧ RdL (rP (rK .i64) (rP (rK .i64) (rK .i64))) s164 a3 c3 p0.2.2.2 ∧ Bx s164 (N + 0) b5 #[.slice a1 p0.1.length c1, .int .i64 p0.2.1, .slice a2 p0.2.2.1.length c2, .slice a3 p0.2.2.2.length c3] 26 ∧ e = [(3, .slice a163 l162.length c163), (5, .int .i64 st156.1), (4, .int .i64 st106.1), (1, .pointer (some ⟨b5, 0, none⟩))] ∧ w = s164.w) ?_ ?_)))
    ·rintro _ _ ⟨s164, l162, a163, c163, hm, m0, h163, h1, h2, h3, bx5, rfl, rfl⟩
     unfold m_overseerref03_Found_j2 at hm
     exact E.reg (L.mv Wt.no rfl rfl (L.bi Wt.no rfl rfl rfl rfl (L.as Wt.no rfl rfl (L.nil (X.sub (ih156 _ (Option.some.inj hm).symm _ _ ⟨s164, a163, c163, m0, h163, h1, h2, h3, bx5, rfl, rfl⟩) (Sub.rf rfl))))))
    ·intro Jj165
     refine E.block (E.seq ?_)
     obtain ⟨x170, ex170, hm⟩ := bindS hm
     obtain ⟨x177, ex177, hm⟩ := bindS hm
     obtain ⟨r181, er181, hm⟩ := bindS hm
     refine E.draw [[], [], [], [1, 2], [1, 2, 3], [], [5], [], [5, 6, 7], [5, 6, 7, 8], [0, 1, 2, 3, 4, 5, 6, 7, 8, 9], [0, 1, 2, 3, 4, 5, 6, 7, 8, 9, 10]] (fun D e sx => Mv No s159 sx ∧ Sub [(5, .int .i64 st156.1), (4, .int .i64 st106.1), (3, .slice a114 st156.2.length c114), (1, .pointer (some ⟨b5, 0, none⟩))] e ∧ (D 0 = true → (Env.get e 26 = some (.agg #[.slice a1 p0.1.length c1, .int .i64 p0.2.1, .slice a2 p0.2.2.1.length c2, .slice a3 p0.2.2.2.length c3]))) ∧ (D 1 = true → (Env.get e 27 = some (.slice a114 st156.2.length c114))) ∧ (D 2 = true → (Env.get e 28 = some (.int .i64 st106.1))) ∧ (D 3 = true → (∃ (b171 : Nat) (o171 : Nat), Env.get e 29 = some (.pointer (some ⟨b171, o171, none⟩)) ∧ Mem sx (N + 1) b171 o171 [.int .i64 x170] ∧ Spot a114 (rK .i64).sz (st106.1).toNat b171 o171)) ∧ (D 4 = true → (Env.get e 30 = some (.int .i64 x170))) ∧ (D 5 = true → (Env.get e 31 = some (.pointer (some ⟨b5, 0, none⟩)))) ∧ (D 6 = true → (Env.get e 32 = some (.slice a1 p0.1.length c1))) ∧ (D 7 = true → (Env.get e 33 = some (.int .i64 st156.1))) ∧ (D 8 = true → (∃ (b178 : Nat) (o178 : Nat), Env.get e 34 = some (.pointer (some ⟨b178, o178, none⟩)) ∧ Mem sx 0 b178 o178 [.int .i64 x177])) ∧ (D 9 = true → (Env.get e 35 = some (.int .i64 x177))) ∧ (D 10 = true → (Env.get e 36 = some (.int .i64 r181))) ∧ (D 11 = true → (Env.get e 6 = some (.int .i64 r181)))) (by kernel_rfl) (by kernel_rfl) (by kernel_rfl) ?_ ?_ ?_
     ·intro sz mz
      exact ⟨mz, (Sub.rf rfl), nofun, nofun, nofun, nofun, nofun, nofun, nofun, nofun, nofun, nofun, nofun, nofun⟩
     ·refine ⟨?_, ?_, ?_, ?_, ?_, ?_, ?_, ?_, ?_, ?_, ?_, ?_, trivial⟩
      ·rintro D e s166 ⟨im, ib, i0, t_⟩ hk hf ha
       have bx5 := bx5.mv im no_No
       have kn : Kn e [(1, .pointer (some ⟨b5, 0, none⟩))] := ⟨(ib 1 _ rfl), trivial⟩
       exact L.kns _ kn (L.lg (j := 0) (cs := [.slice a1 p0.1.length c1, .int .i64 p0.2.1, .slice a2 p0.2.2.1.length c2, .slice a3 p0.2.2.2.length c3]) bx5.mem ag26 Wt.no rfl rfl rfl rfl rfl (L.nil (X.dk kn ⟨im, Sub.fresh ib rfl, fun _ => rfl, t_⟩)))
      ·rintro D e s167 ⟨im, ib, i0, i1, t_⟩ hk hf ha
       have kn : Kn e [(3, .slice a114 st156.2.length c114)] := ⟨(ib 3 _ rfl), trivial⟩
       exact L.kns _ kn (L.mv Wt.no rfl rfl (L.nil (X.dk kn ⟨im, Sub.fresh ib rfl, i0, fun _ => rfl, t_⟩)))
      ·rintro D e s168 ⟨im, ib, i0, i1, i2, t_⟩ hk hf ha
       have kn : Kn e [(4, .int .i64 st106.1)] := ⟨(ib 4 _ rfl), trivial⟩
       exact L.kns _ kn (L.mv Wt.no rfl rfl (L.nil (X.dk kn ⟨im, Sub.fresh ib rfl, i0, i1, fun _ => rfl, t_⟩)))
      ·rintro D e s169 ⟨im, ib, i0, i1, i2, i3, t_⟩ hk hf ha
       obtain ⟨d1, d2, -⟩ := ha
       have g1_ := i1 d1
       have g2_ := i2 d2
       have h114 := h114.mv im no_No no_No
       have kn : Kn e [(27, .slice a114 st156.2.length c114), (28, .int .i64 st106.1)] := ⟨g1_, g2_, trivial⟩
       refine L.kns _ kn (L.ir (r := (rK .i64)) sl23 h114 Wt.no rfl rfl ex170 rfl fun b171 o171 cc171 me171 rd171 sp171 => ?_)
       obtain rfl := rd171
       exact L.nil (X.dk kn ⟨im, Sub.fresh ib rfl, i0, i1, i2, fun _ => ⟨b171, o171, rfl, me171, sp171⟩, t_⟩)
      ·rintro D e s172 ⟨im, ib, i0, i1, i2, i3, i4, t_⟩ hk hf ha
       obtain ⟨d1, d2, d3, -⟩ := ha
       obtain ⟨b171, o171, g3_, me171, sp171⟩ := i3 d3
       have kn : Kn e [(29, .pointer (some ⟨b171, o171, none⟩))] := ⟨g3_, trivial⟩
       exact L.kns _ kn (L.ld (j := 0) me171 nag3 Wt.no rfl rfl rfl rfl (L.nil (X.dk kn ⟨im, Sub.fresh ib rfl, i0, i1, i2, i3, fun _ => rfl, t_⟩)))
      ·rintro D e s173 ⟨im, ib, i0, i1, i2, i3, i4, i5, t_⟩ hk hf ha
       have kn : Kn e [(1, .pointer (some ⟨b5, 0, none⟩))] := ⟨(ib 1 _ rfl), trivial⟩
       exact L.kns _ kn (L.fa fa26_0 Wt.no rfl rfl (L.nil (X.dk kn ⟨im, Sub.fresh ib rfl, i0, i1, i2, i3, i4, fun _ => rfl, t_⟩)))
      ·rintro D e s174 ⟨im, ib, i0, i1, i2, i3, i4, i5, i6, t_⟩ hk hf ha
       obtain ⟨d5, -⟩ := ha
       have g5_ := i5 d5
       have bx5 := bx5.mv im no_No
       have kn : Kn e [(31, .pointer (some ⟨b5, 0, none⟩))] := ⟨g5_, trivial⟩
       exact L.kns _ kn (L.ld (j := 0) bx5.mem nag23 Wt.no rfl rfl rfl rfl (L.nil (X.dk kn ⟨im, Sub.fresh ib rfl, i0, i1, i2, i3, i4, i5, fun _ => rfl, t_⟩)))
      ·rintro D e s175 ⟨im, ib, i0, i1, i2, i3, i4, i5, i6, i7, t_⟩ hk hf ha
       have kn : Kn e [(5, .int .i64 st156.1)] := ⟨(ib 5 _ rfl), trivial⟩
       exact L.kns _ kn (L.mv Wt.no rfl rfl (L.nil (X.dk kn ⟨im, Sub.fresh ib rfl, i0, i1, i2, i3, i4, i5, i6, fun _ => rfl, t_⟩)))
      ·rintro D e s176 ⟨im, ib, i0, i1, i2, i3, i4, i5, i6, i7, i8, t_⟩ hk hf ha
       obtain ⟨d5, d6, d7, -⟩ := ha
       have g6_ := i6 d6
       have g7_ := i7 d7
       have h1 := h1.mono (im.le no_No)
       have kn : Kn e [(32, .slice a1 p0.1.length c1), (33, .int .i64 st156.1)] := ⟨g6_, g7_, trivial⟩
       refine L.kns _ kn (L.ix (r := (rK .i64)) sl23 h1 Wt.no rfl rfl ex177 rfl fun b178 o178 cc178 me178 rd178 => ?_)
       obtain rfl := rd178
       exact L.nil (X.dk kn ⟨im, Sub.fresh ib rfl, i0, i1, i2, i3, i4, i5, i6, i7, fun _ => ⟨b178, o178, rfl, me178⟩, t_⟩)
      ·rintro D e s179 ⟨im, ib, i0, i1, i2, i3, i4, i5, i6, i7, i8, i9, t_⟩ hk hf ha
       obtain ⟨d5, d6, d7, d8, -⟩ := ha
       obtain ⟨b178, o178, g8_, me178⟩ := i8 d8
       have kn : Kn e [(34, .pointer (some ⟨b178, o178, none⟩))] := ⟨g8_, trivial⟩
       exact L.kns _ kn (L.ld (j := 0) me178 nag3 Wt.no rfl rfl rfl rfl (L.nil (X.dk kn ⟨im, Sub.fresh ib rfl, i0, i1, i2, i3, i4, i5, i6, i7, i8, fun _ => rfl, t_⟩)))
      ·rintro D e s180 ⟨im, ib, i0, i1, i2, i3, i4, i5, i6, i7, i8, i9, i10, i11⟩ hk hf ha
       obtain ⟨d0, d1, d2, d3, d4, d5, d6, d7, d8, d9, -⟩ := ha
       have g0_ := i0 d0
       have g4_ := i4 d4
       have g9_ := i9 d9
       have h1 := h1.mono (im.le no_No)
       have h2 := h2.mono (im.le no_No)
       have h3 := h3.mono (im.le no_No)
       have kn : Kn e [(26, .agg #[.slice a1 p0.1.length c1, .int .i64 p0.2.1, .slice a2 p0.2.2.1.length c2, .slice a3 p0.2.2.2.length c3]), (30, .int .i64 x170), (35, .int .i64 x177)] := ⟨g0_, g4_, g9_, trivial⟩
       refine L.kns _ kn (L.ca cf82 rfl rfl Wt.no rfl (m_overseerref03_Step_c (s := s180) (p0 := p0) (p1 := x170) (p2 := x177) h1 h2 h3 er181) rfl ?_)
       rintro _ s182 m183 rfl
       exact L.nil (X.dk kn ⟨im.trans m183.no, Sub.fresh ib rfl, i0, i1, i2, fun z => let ⟨b171, o171, q, me171, sp171⟩ := i3 z; ⟨b171, o171, q, (me171.mv m183 no_No), sp171⟩, i4, i5, i6, i7, fun z => let ⟨b178, o178, q, me178⟩ := i8 z; ⟨b178, o178, q, (me178.mv m183 no_No)⟩, i9, fun _ => rfl, i11⟩)
      ·rintro D e s184 ⟨im, ib, i0, i1, i2, i3, i4, i5, i6, i7, i8, i9, i10, i11⟩ hk hf ha
       obtain ⟨d0, d1, d2, d3, d4, d5, d6, d7, d8, d9, d10, -⟩ := ha
       have g10_ := i10 d10
       have kn : Kn e [(36, .int .i64 r181)] := ⟨g10_, trivial⟩
       exact L.kns _ kn (L.as Wt.no rfl rfl (L.nil (X.dk kn ⟨im, Sub.fresh ib rfl, i0, i1, i2, i3, i4, i5, i6, i7, i8, i9, i10, fun _ => rfl⟩)))
     ·rintro D e s185 hD ⟨im, ib, i0, i1, i2, i3, i4, i5, i6, i7, i8, i9, i10, i11⟩
      have g11_ := i11 (hD 11 rfl)
      have h114 := h114.mv im no_No no_No
      have bx5 := bx5.mv im no_No
      have h1 := h1.mono (im.le no_No)
      have h2 := h2.mono (im.le no_No)
      have h3 := h3.mono (im.le no_No)
      have m0 := m0.trans im.no
      refine X.sub (e' := [(6, .int .i64 r181), (5, .int .i64 st156.1), (4, .int .i64 st106.1), (3, .slice a114 st156.2.length c114), (1, .pointer (some ⟨b5, 0, none⟩))]) ?_ (Sub.cons g11_ (Sub.cons (ib 5 _ rfl) (Sub.cons (ib 4 _ rfl) (Sub.cons (ib 3 _ rfl) (Sub.cons (ib 1 _ rfl) Sub.nil)))))
      refine X.seqN (E.seq (E.reg (L.mv Wt.no rfl rfl (L.bi Wt.no rfl rfl rfl rfl (L.mv Wt.no rfl rfl ?_)))))
      obtain ⟨b186, eb186, hm⟩ := bindS hm
      refine L.cut 5 (fun e w => ∃ (s188 : Sig) (v187 : Bool), b186 = v187 ∧ Mv (Up N No) s s188 ∧ RowT (rK .i64) s188 (N + 1) 3 a114 c114 st156.2 ∧ RdL (rK .i64) s188 a1 c1 p0.1 ∧ RdL (rK .i64) s188 a2 c2 p0.2.2.1 ∧ RdL (rP (rK .i64) (rP (rK .i64) (rK .i64))) s188 a3 c3 p0.2.2.2 ∧ Bx s188 (N + 0) b5 #[.slice a1 p0.1.length c1, .int .i64 p0.2.1, .slice a2 p0.2.2.1.length c2, .slice a3 p0.2.2.2.length c3] 26 ∧ e = (44, .bool v187) :: [(6, .int .i64 r181), (5, .int .i64 st156.1), (4, .int .i64 st106.1), (3, .slice a114 st156.2.length c114), (1, .pointer (some ⟨b5, 0, none⟩))] ∧ w = s188.w) ?_ ?_
      ·rintro _ _ ⟨s188, v187, rfl, m0, h114, h1, h2, h3, bx5, rfl, rfl⟩
       refine L.nil (X.seqN ?_)
       rcases ifS hm with ⟨hc, hm⟩ | ⟨hc, hm⟩
       ·refine E.cT rfl hc (E.reg (L.mv Wt.no rfl rfl (L.mv Wt.no rfl rfl (L.bsE (k := 1) (cs := [.int .i64 r181]) 0 bs23 (Nat.le_of_ble_eq_true rfl) Wt.no rfl rfl rfl rfl fun b189 s190 m191 bx189 => ?_))))
        replace m0 := m0.trans m191.no
        replace h114 := h114.mv m191 no_No no_No
        replace bx5 := bx5.mv m191 no_No
        replace h1 := h1.mono (m191.le no_No)
        replace h2 := h2.mono (m191.le no_No)
        replace h3 := h3.mono (m191.le no_No)
        have h189 := Bx.rdL (r := (rK .i64)) (xs := ([r181] : List Int)) bx189 ⟨[.int .i64 r181], _, rfl, rfl, rfl⟩ (Nat.le_of_ble_eq_true rfl)
        obtain ⟨x192, ex192, hm⟩ := bindS hm
        refine L.ap (r := (rK .i64)) Try.underlying23 el3 rfl (tgp hN) h114 h189.wk Wt.no rfl rfl ex192 rfl fun a193 c193 s194 m195 h193 => ?_
        replace m0 := m0.trans (m195.one up)
        replace bx5 := bx5.mv m195 (tgN (by decide))
        replace h1 := h1.mono (m195.le (tg0 hN))
        replace h2 := h2.mono (m195.le (tg0 hN))
        replace h3 := h3.mono (m195.le (tg0 hN))
        exact L.as Wt.no rfl rfl (L.nil (X.blkN (X.sub (Jj165 _ _ ⟨s194, x192, a193, c193, hm, m0, h193, h1, h2, h3, bx5, rfl, rfl⟩) (Sub.rf rfl))))
       ·exact E.cF rfl hc (E.skip (X.blkN (X.sub (Jj165 _ _ ⟨s188, st156.2, a114, c114, hm, m0, h114, h1, h2, h3, bx5, rfl, rfl⟩) (Sub.rf rfl))))
      ·intro J196
       rcases ifS eb186 with ⟨hc, hm⟩ | ⟨hc, hm⟩
       ·refine L.know (d := 39) rfl hc (L.mv (Wt.mk rfl rfl) rfl rfl (L.mv (Wt.mk rfl rfl) rfl rfl ?_))
        obtain ⟨r197, er197, hm⟩ := bindS hm
        refine L.ca cf81 rfl rfl (Wt.mk rfl rfl) rfl (Calls.lendG (s0 := (Sig.drop N s185)) (s := s185) rfl (m_overseerref03_has_c (s := (Sig.drop N s185)) (p0 := st156.2) (p1 := r181) (h114.drop (Nat.le_add_right _ _)) er197) (fun v s' h => h)) rfl ?_
        rintro _ s198 m199 rfl
        replace m0 := m0.trans m199.no
        replace h114 := h114.mv m199 no_No no_No
        replace bx5 := bx5.mv m199 no_No
        replace h1 := h1.mono (m199.le no_No)
        replace h2 := h2.mono (m199.le no_No)
        replace h3 := h3.mono (m199.le no_No)
        exact L.not (Wt.mk rfl rfl) rfl rfl (L.pkT Wt.no rfl rfl rfl rfl (L.sb (J196 _ _ ⟨s198, (!r197), (Option.some.inj hm).symm, m0, h114, h1, h2, h3, bx5, rfl, rfl⟩) rfl))
       ·exact L.know (d := 39) rfl hc (L.skip rfl rfl rfl rfl (L.skip rfl rfl rfl rfl (L.skip rfl rfl rfl rfl (L.skip rfl rfl rfl rfl (L.pkF Wt.no rfl rfl rfl rfl (L.sb (J196 _ _ ⟨s185, false, (Option.some.inj hm).symm, m0, h114, h1, h2, h3, bx5, rfl, rfl⟩) rfl))))))
   ·refine E.cF rfl hc (E.exit (X.seqX (X.seqX ?_)))
    have hx := ho156 _ (Option.some.inj hm).symm
    subst hx
    exact X.sub (K161 _ _ ⟨s159, a114, c114, m0, h114, h1, h2, h3, bx5, rfl, rfl⟩) (Sub.rf rfl)
  ·refine E.cF rfl hc (E.exit (X.seqX (X.seqX ?_)))
   have hx := ho106 _ (Option.some.inj hm).symm
   subst hx
   exact X.sub (K111 _ _ ⟨s109, a14, c14, m0, h14, rfl, rfl⟩) (Sub.rf rfl)
 ·intro Jj11
  refine E.seq (E.reg (L.fa fa26_1 Wt.no rfl rfl (L.ld (j := 1) bx5.mem nag3 Wt.no rfl rfl rfl rfl (L.bi Wt.no rfl rfl rfl rfl (L.nil (X.seqN ?_))))))
  rcases ifS hm with ⟨hc, hm⟩ | ⟨hc, hm⟩
  ·refine E.cT rfl hc (E.reg (L.mv Wt.no rfl rfl (L.bsE (k := 1) (cs := [.int .i64 0]) 0 bs23 (Nat.le_of_ble_eq_true rfl) Wt.no rfl rfl rfl rfl fun b200 s201 m202 bx200 => ?_)))
   replace m0 := m0.trans m202.no
   replace bx5 := bx5.mv m202 no_No
   replace h1 := h1.mono (m202.le no_No)
   replace h2 := h2.mono (m202.le no_No)
   replace h3 := h3.mono (m202.le no_No)
   have h200 := Bx.rdL (r := (rK .i64)) (xs := ([0] : List Int)) bx200 ⟨[.int .i64 0], _, rfl, rfl, rfl⟩ (Nat.le_of_ble_eq_true rfl)
   obtain ⟨x203, ex203, hm⟩ := bindS hm
   refine L.ap (r := (rK .i64)) Try.underlying23 el3 rfl (tgp hN) (RowT.nil (r := (rK .i64)) (s := s201) (t := (N + 1)) (T := 3)) h200.wk Wt.no rfl rfl ex203 rfl fun a204 c204 s205 m206 h204 => ?_
   replace m0 := m0.trans (m206.one up)
   replace bx5 := bx5.mv m206 (tgN (by decide))
   replace h1 := h1.mono (m206.le (tg0 hN))
   replace h2 := h2.mono (m206.le (tg0 hN))
   replace h3 := h3.mono (m206.le (tg0 hN))
   exact L.as Wt.no rfl rfl (L.nil (X.sub (Jj11 _ _ ⟨s205, x203, a204, c204, hm, m0, h204, h1, h2, h3, bx5, rfl, rfl⟩) (Sub.rf rfl)))
  ·exact E.cF rfl hc (E.skip (X.sub (Jj11 _ _ ⟨s6, ([] : List Int), none, 0, hm, m0, RowT.nil, h1, h2, h3, bx5, rfl, rfl⟩) (Sub.rf rfl)))

noncomputable def m_overseerref03_index_l1 (p0 : List Int) (p1 : Int) (st6 : Int) : Option (Int ⊕ (Unit ⊕ Int)) :=
  if decide (st6 < (p0.length : Int)) then
    (idx p0 st6).bind fun x15 =>
    if (x15 == p1) then
      some (.inr (.inr (st6)))
    else
      some (.inl (W (st6 + 1)))
  else
    some (.inr (.inl ()))
/-- What overseerref03.index computes. -/
noncomputable def m_overseerref03_index (p0 : List Int) (p1 : Int) : Option Int :=
  (iter (m_overseerref03_index_l1 p0 p1) 0).bind fun o6 =>
  match o6 with
  | .inl u9 =>
    some (-1)
  | .inr (u12) =>
    some u12
set_option maxRecDepth 100000 in
set_option maxHeartbeats 8000000 in
theorem m_overseerref03_index_c {s : Sig} {p0 : List Int} {p1 : Int} {a1 : Option Addr} {c1 : Nat} {r : Int} (h1 : RdL (rK .i64) s a1 c1 p0) (hm : m_overseerref03_index p0 p1 = some r) :
    Calls Try.prog 83 #[.slice a1 p0.length c1, .int .i64 p1] s.w (RetS No s fun v s' => v = .int .i64 r) := by
 unfold m_overseerref03_index at hm
 obtain ⟨N, hN, hNb⟩ := s.fresh
 have m0 : Mv (Up N No) s s := Mv.refl _ _
 refine E.entry Try.func83 rfl Try.ntmps83 rfl rfl (E.seq (E.reg (L.as Wt.no rfl rfl (L.nil (X.seqN (E.seq (E.seq (E.reg (L.as Wt.no rfl rfl (L.nil (X.seqN (E.block ?_))))))))))))
 obtain ⟨o6, eo6, hm⟩ := bindS hm
 refine E.cut (x := .exit 0) (fun e w => ∃ (s10 : Sig) (u9 : Unit), o6 = .inl u9 ∧ Mv (Up N No) s s10 ∧ e = [] ∧ w = s10.w) ?_ ?_
 ·rintro _ _ ⟨s10, u9, rfl, m0, rfl, rfl⟩
  dsimp only at hm
  refine X.blkE (X.seqN (E.seq (E.reg (L.as Wt.no rfl rfl (L.nil (X.seqN (E.ret ?_)))))))
  obtain rfl := Option.some.inj hm
  exact X.rt (.inl rfl) Try.results83 (Rs.tmp rfl Rs.nil) rfl ⟨_, (s10).ren N (fun _ => 0), rfl, rfl, m0.ren hNb, rfl⟩
 intro K11
 refine E.cut (x := .ret) (fun e w => ∃ (s13 : Sig) (u12 : Int), o6 = .inr (u12) ∧ Mv (Up N No) s s13 ∧ e = [(4, .int .i64 u12)] ∧ w = s13.w) ?_ ?_
 ·rintro _ _ ⟨s13, u12, rfl, m0, rfl, rfl⟩
  dsimp only at hm
  refine X.blkR (X.seqR ?_)
  obtain rfl := Option.some.inj hm
  exact X.rt (.inl rfl) Try.results83 (Rs.tmp rfl Rs.nil) rfl ⟨_, (s13).ren N (fun _ => 0), rfl, rfl, m0.ren hNb, rfl⟩
 intro K14
 refine E.iter (fun (st6 : Int) (e : List (Nat × Value)) (w : World) => ∃ (s8 : Sig), Mv (Up N No) s s8 ∧ RdL (rK .i64) s8 a1 c1 p0 ∧ e = [(5, .int .i64 st6), (0, .slice a1 p0.length c1), (1, .int .i64 p1)] ∧ w = s8.w) eo6 ⟨s, m0, h1, rfl, rfl⟩ (Sub.rf rfl) ?_
 rintro st6 res6 hm ih6 ho6 _ _ ⟨s8, m0, h1, rfl, rfl⟩
 unfold m_overseerref03_index_l1 at hm
 refine E.seq (E.seq (E.reg (L.mv Wt.no rfl rfl (L.mv Wt.no rfl rfl (L.len sl23 Wt.no rfl rfl (L.bi Wt.no rfl rfl rfl rfl (L.nil (X.seqN ?_))))))))
 rcases ifS hm with ⟨hc, hm⟩ | ⟨hc, hm⟩
 ·refine E.cT rfl hc (E.skip (X.seqN (E.seq (E.block (E.seq (E.reg (L.mv Wt.no rfl rfl (L.mv Wt.no rfl rfl ?_))))))))
  obtain ⟨x15, ex15, hm⟩ := bindS hm
  refine L.ix (r := (rK .i64)) sl23 h1 Wt.no rfl rfl ex15 rfl fun b16 o16 cc16 me16 rd16 => ?_
  obtain rfl := rd16
  refine L.ld (j := 0) me16 nag3 Wt.no rfl rfl rfl rfl (L.mv Wt.no rfl rfl (L.bi Wt.no rfl rfl rfl rfl (L.nil (X.seqN ?_))))
  rcases ifS hm with ⟨hc, hm⟩ | ⟨hc, hm⟩
  ·refine E.cT rfl hc (E.seq (E.reg (L.mv Wt.no rfl rfl (L.as Wt.no rfl rfl (L.nil (X.seqN (E.ret (X.blkR (X.seqR (X.seqR ?_))))))))))
   have hx := ho6 _ (Option.some.inj hm).symm
   exact X.sub (K14 _ _ ⟨s8, st6, hx.symm, m0, rfl, rfl⟩) (Sub.rf rfl)
  ·exact E.cF rfl hc (E.skip (X.blkN (X.seqN (E.reg (L.mv Wt.no rfl rfl (L.bi Wt.no rfl rfl rfl rfl (L.as Wt.no rfl rfl (L.nil (X.sub (ih6 _ (Option.some.inj hm).symm _ _ ⟨s8, m0, h1, rfl, rfl⟩) (Sub.rf rfl))))))))))
 ·refine E.cF rfl hc (E.exit (X.seqX (X.seqX ?_)))
  have hx := ho6 _ (Option.some.inj hm).symm
  exact X.sub (K11 _ _ ⟨s8, (), hx.symm, m0, rfl, rfl⟩) Sub.nil

theorem cf70 : Cf Try.prog 70 := Cf.mk Try.func70 (by kernel_rfl) (by kernel_rfl)
theorem cf80 : Cf Try.prog 80 := Cf.mk Try.func80 (by kernel_rfl) (by kernel_rfl)
theorem cf83 : Cf Try.prog 83 := Cf.mk Try.func83 (by kernel_rfl) (by kernel_rfl)
noncomputable def m_overseerref03_Canonical_j2 (st263 : Int × (List (Int × Int × Int))) (l269 : List (Int × Int × Int)) : Option ((Int × (List (Int × Int × Int))) ⊕ (List (Int × Int × Int))) :=
  some (.inl (W (st263.1 + 1), l269))
noncomputable def m_overseerref03_Canonical_l2 (p0 : List Int × Int × List Int × (List (Int × Int × Int))) (r13 : List Int) (st188 : Int × List Int × (List (Int × Int × Int))) (st263 : Int × (List (Int × Int × Int))) : Option ((Int × (List (Int × Int × Int))) ⊕ (List (Int × Int × Int))) :=
  if decide (st263.1 < (p0.1.length : Int)) then
    (idx r13 st188.1).bind fun x277 =>
    (idx p0.1 st263.1).bind fun x284 =>
    (m_overseerref03_Step p0 x277 x284).bind fun r288 =>
    if decide (r288 ≥ 0) then
      (idx p0.1 st263.1).bind fun x300 =>
      (m_overseerref03_index r13 r288).bind fun r306 =>
      (app st263.2 ([(st188.1, x300, r306)] : List (Int × Int × Int))).bind fun x315 =>
      m_overseerref03_Canonical_j2 st263 x315
    else
      m_overseerref03_Canonical_j2 st263 st263.2
  else
    some (.inr st263.2)
noncomputable def m_overseerref03_Canonical_j1 (p0 : List Int × Int × List Int × (List (Int × Int × Int))) (r13 : List Int) (st188 : Int × List Int × (List (Int × Int × Int))) (l198 : List Int) : Option ((Int × List Int × (List (Int × Int × Int))) ⊕ (List Int × (List (Int × Int × Int)))) :=
  (iter (m_overseerref03_Canonical_l2 p0 r13 st188) (0, st188.2.2)).bind fun o263 =>
  some (.inl (W (st188.1 + 1), l198, o263))
noncomputable def m_overseerref03_Canonical_l1 (p0 : List Int × Int × List Int × (List (Int × Int × Int))) (r13 : List Int) (st188 : Int × List Int × (List (Int × Int × Int))) : Option ((Int × List Int × (List (Int × Int × Int))) ⊕ (List Int × (List (Int × Int × Int)))) :=
  if decide (st188.1 < (r13.length : Int)) then
    (idx r13 st188.1).bind fun x329 =>
    (m_overseerref03_has p0.2.2.1 x329).bind fun r333 =>
    if r333 then
      (app st188.2.1 ([st188.1] : List Int)).bind fun x340 =>
      m_overseerref03_Canonical_j1 p0 r13 st188 x340
    else
      m_overseerref03_Canonical_j1 p0 r13 st188 st188.2.1
  else
    some (.inr st188.2)
/-- What overseerref03.Canonical computes. -/
noncomputable def m_overseerref03_Canonical (p0 : List Int × Int × List Int × (List (Int × Int × Int))) : Option (List Int × Int × List Int × (List (Int × Int × Int))) :=
  (m_overseerref03_Found p0).bind fun r13 =>
  (m_overseerref03_Empty p0.1).bind fun r17 =>
  (iter (m_overseerref03_Canonical_l1 p0 r13) (0, r17.2.2)).bind fun o188 =>
  some (r17.1, (r13.length : Int), o188)
set_option maxRecDepth 100000 in
set_option maxHeartbeats 8000000 in
theorem m_overseerref03_Canonical_c {s : Sig} {p0 : List Int × Int × List Int × (List (Int × Int × Int))} {a1 : Option Addr} {c1 : Nat} {a2 : Option Addr} {c2 : Nat} {a3 : Option Addr} {c3 : Nat} {u0 : Nat} {u1 : Nat} {u2 : Nat} {r : (List Int × Int × List Int × (List (Int × Int × Int)))} (h1 : RdL (rK .i64) s a1 c1 p0.1) (h2 : RdL (rK .i64) s a2 c2 p0.2.2.1) (h3 : RdL (rP (rK .i64) (rP (rK .i64) (rK .i64))) s a3 c3 p0.2.2.2) (hm : m_overseerref03_Canonical p0 = some r) :
    Calls Try.prog 71 #[.agg #[.slice a1 p0.1.length c1, .int .i64 p0.2.1, .slice a2 p0.2.2.1.length c2, .slice a3 p0.2.2.2.length c3]] s.w (RetS No s fun v s' => ∃ (a4 : Option Addr) (c4 : Nat) (a5 : Option Addr) (c5 : Nat) (a6 : Option Addr) (c6 : Nat), v = .agg #[.slice a4 r.1.length c4, .int .i64 r.2.1, .slice a5 r.2.2.1.length c5, .slice a6 r.2.2.2.length c6] ∧ RowT (rK .i64) s' u0 3 a4 c4 r.1 ∧ RowT (rK .i64) s' u1 3 a5 c5 r.2.2.1 ∧ RowT (rP (rK .i64) (rP (rK .i64) (rK .i64))) s' u2 28 a6 c6 r.2.2.2) := by
 unfold m_overseerref03_Canonical at hm
 obtain ⟨N, hN, hNb⟩ := s.fresh
 have m0 : Mv (Up N No) s s := Mv.refl _ _
 refine E.entry Try.func71 rfl Try.ntmps71 rfl rfl (E.seq (E.reg (L.box (N + 0) Wt.no rfl rfl rfl fun b7 s8 m9 bx7 => ?_)))
 replace m0 := m0.trans m9.no
 replace h1 := h1.mono (m9.le no_No)
 replace h2 := h2.mono (m9.le no_No)
 replace h3 := h3.mono (m9.le no_No)
 refine L.al (N + 1) zz26 rfl Wt.no rfl fun b10 s11 m12 bx10 => ?_
 replace m0 := m0.trans m12.no
 replace bx7 := bx7.mv m12 no_No
 replace h1 := h1.mono (m12.le no_No)
 replace h2 := h2.mono (m12.le no_No)
 replace h3 := h3.mono (m12.le no_No)
 refine L.nil (X.seqN (E.seq (E.reg (L.lg (j := 0) (cs := [.slice a1 p0.1.length c1, .int .i64 p0.2.1, .slice a2 p0.2.2.1.length c2, .slice a3 p0.2.2.2.length c3]) bx7.mem ag26 Wt.no rfl rfl rfl rfl rfl ?_))))
 obtain ⟨r13, er13, hm⟩ := bindS hm
 refine L.ca cf80 rfl rfl Wt.no rfl (m_overseerref03_Found_c (s := s11) (p0 := p0) (u0 := 0) h1 h2 h3 er13) rfl ?_
 rintro _ s14 m15 ⟨a16, c16, rfl, h16⟩
 replace h16 := h16.p
 replace m0 := m0.trans m15.no
 replace bx7 := bx7.mv m15 no_No
 replace h1 := h1.mono (m15.le no_No)
 replace h2 := h2.mono (m15.le no_No)
 replace h3 := h3.mono (m15.le no_No)
 replace bx10 := bx10.mv m15 no_No
 refine L.as Wt.no rfl rfl (L.nil (X.seqN (E.seq (E.reg (L.fa fa26_0 Wt.no rfl rfl (L.ld (j := 0) bx7.mem nag23 Wt.no rfl rfl rfl rfl ?_))))))
 obtain ⟨r17, er17, hm⟩ := bindS hm
 refine L.ca cf70 rfl rfl Wt.no rfl (m_overseerref03_Empty_c (s := s14) (p0 := p0.1) (u0 := (N + 5)) (u1 := (N + 3)) (u2 := (N + 4)) h1 er17) rfl ?_
 rintro _ s18 m19 ⟨a20, c20, a21, c21, a22, c22, rfl, h20, h21, h22⟩
 replace m0 := m0.trans m19.no
 replace h16 := h16.mono (m19.le no_No)
 replace bx7 := bx7.mv m19 no_No
 replace h1 := h1.mono (m19.le no_No)
 replace h2 := h2.mono (m19.le no_No)
 replace h3 := h3.mono (m19.le no_No)
 replace bx10 := bx10.mv m19 no_No
 refine L.al (N + 2) zz26 rfl Wt.no rfl fun b23 s24 m25 bx23 => ?_
 replace m0 := m0.trans m25.no
 replace h16 := h16.mono (m25.le no_No)
 replace h20 := h20.mv m25 no_No no_No
 replace h21 := h21.mv m25 no_No no_No
 replace h22 := h22.mv m25 no_No no_No
 replace bx7 := bx7.mv m25 no_No
 replace h1 := h1.mono (m25.le no_No)
 replace h2 := h2.mono (m25.le no_No)
 replace h3 := h3.mono (m25.le no_No)
 replace bx10 := bx10.mv m25 no_No
 refine L.st (c := [.slice a20 r17.1.length c20, .int .i64 r17.2.1, .slice a21 r17.2.2.1.length c21, .slice a22 r17.2.2.2.length c22]) (cs' := #[.slice a20 r17.1.length c20, .int .i64 r17.2.1, .slice a21 r17.2.2.1.length c21, .slice a22 r17.2.2.2.length c22]) bx23 ag26.sz Wt.no rfl rfl rfl rfl rfl (Nat.le_of_ble_eq_true rfl) rfl fun s26 m27 bx23 => ?_
 replace m0 := m0.trans (m27.one up)
 replace h16 := h16.mono (m27.le (tg0 hN))
 replace bx7 := bx7.mv m27 (tgN (by decide))
 replace h1 := h1.mono (m27.le (tg0 hN))
 replace h2 := h2.mono (m27.le (tg0 hN))
 replace h3 := h3.mono (m27.le (tg0 hN))
 replace bx10 := bx10.mv m27 (tgN (by decide))
 replace h20 := h20.mv m27 (tgN (by decide)) (tg0 hN)
 replace h21 := h21.mv m27 (tgN (by decide)) (tg0 hN)
 replace h22 := h22.mv m27 (tgN (by decide)) (tg0 hN)
 refine L.nil (X.seqN (E.seq (E.reg (L.mv Wt.no rfl rfl (L.len sl23 Wt.no rfl rfl (L.fa fa26_1 Wt.no rfl rfl (L.st (c := [.int .i64 (r13.length : Int)]) (cs' := #[.slice a20 r17.1.length c20, .int .i64 (r13.length : Int), .slice a21 r17.2.2.1.length c21, .slice a22 r17.2.2.2.length c22]) bx23 nag3.sz Wt.no rfl rfl rfl rfl rfl (Nat.le_of_ble_eq_true rfl) rfl fun s28 m29 bx23 => ?_)))))))
 replace m0 := m0.trans (m29.one up)
 replace h16 := h16.mono (m29.le (tg0 hN))
 replace bx7 := bx7.mv m29 (tgN (by decide))
 replace h1 := h1.mono (m29.le (tg0 hN))
 replace h2 := h2.mono (m29.le (tg0 hN))
 replace h3 := h3.mono (m29.le (tg0 hN))
 replace bx10 := bx10.mv m29 (tgN (by decide))
 replace h20 := h20.mv m29 (tgN (by decide)) (tg0 hN)
 replace h21 := h21.mv m29 (tgN (by decide)) (tg0 hN)
 replace h22 := h22.mv m29 (tgN (by decide)) (tg0 hN)
 refine L.nil (X.seqN (E.seq (E.seq (E.reg (L.as Wt.no rfl rfl (L.nil (X.seqN (E.block ?_))))))))
 obtain ⟨o188, eo188, hm⟩ := bindS hm
 refine E.cut (x := .exit 0) (fun e w => ∃ (s194 : Sig) (a190 : Option Addr) (c190 : Nat) (a192 : Option Addr) (c192 : Nat), Mv (Up N No) s s194 ∧ RowT (rK .i64) s194 (N + 5) 3 a20 c20 r17.1 ∧ RowT (rK .i64) s194 (N + 3) 3 a190 c190 o188.1 ∧ RowT (rP (rK .i64) (rP (rK .i64) (rK .i64))) s194 (N + 4) 28 a192 c192 o188.2 ∧ Bx s194 (N + 1) b10 #[.slice none 0 0, .int .i64 0, .slice none 0 0, .slice none 0 0] 26 ∧ Bx s194 (N + 2) b23 #[.slice a20 r17.1.length c20, .int .i64 (r13.length : Int), .slice a190 o188.1.length c190, .slice a192 o188.2.length c192] 26 ∧ e = [(4, .pointer (some ⟨b23, 0, none⟩)), (2, .pointer (some ⟨b10, 0, none⟩))] ∧ w = s194.w) ?_ ?_
 ·rintro _ _ ⟨s194, a190, c190, a192, c192, m0, h20, h190, h192, bx10, bx23, rfl, rfl⟩
  refine X.blkE (X.seqN (E.seq (E.reg (L.lg (j := 0) (cs := [.slice a20 r17.1.length c20, .int .i64 (r13.length : Int), .slice a190 o188.1.length c190, .slice a192 o188.2.length c192]) bx23.mem ag26 Wt.no rfl rfl rfl rfl rfl (L.st (c := [.slice a20 r17.1.length c20, .int .i64 (r13.length : Int), .slice a190 o188.1.length c190, .slice a192 o188.2.length c192]) (cs' := #[.slice a20 r17.1.length c20, .int .i64 (r13.length : Int), .slice a190 o188.1.length c190, .slice a192 o188.2.length c192]) bx10 ag26.sz Wt.no rfl rfl rfl rfl rfl (Nat.le_of_ble_eq_true rfl) rfl fun s195 m196 bx10 => ?_)))))
  replace m0 := m0.trans (m196.one up)
  replace h20 := h20.mv m196 (tgN (by decide)) (tg0 hN)
  replace h190 := h190.mv m196 (tgN (by decide)) (tg0 hN)
  replace h192 := h192.mv m196 (tgN (by decide)) (tg0 hN)
  refine L.nil (X.seqN (E.ret ?_))
  obtain rfl := Option.some.inj hm
  exact X.rt (.inl rfl) Try.results71 (Rs.cell rfl bx10 ag26 rfl Rs.nil) rfl ⟨_, (s195).ren N (fun k => cond (Nat.beq k 5) u0 (cond (Nat.beq k 4) u2 (cond (Nat.beq k 3) u1 (0)))), rfl, rfl, m0.ren hNb, ⟨a20, c20, a190, c190, a192, c192, rfl, (h20.ren hN), (h190.ren hN), (h192.ren hN)⟩⟩
 intro K197
 refine E.iter (fun (st188 : Int × List Int × (List (Int × Int × Int))) (e : List (Nat × Value)) (w : World) => ∃ (s193 : Sig) (a32 : Option Addr) (c32 : Nat) (a34 : Option Addr) (c34 : Nat), Mv (Up N No) s s193 ∧ RdL (rK .i64) s193 a16 c16 r13 ∧ RdL (rK .i64) s193 a1 c1 p0.1 ∧ RdL (rK .i64) s193 a2 c2 p0.2.2.1 ∧ RdL (rP (rK .i64) (rP (rK .i64) (rK .i64))) s193 a3 c3 p0.2.2.2 ∧ RowT (rK .i64) s193 (N + 5) 3 a20 c20 r17.1 ∧ RowT (rK .i64) s193 (N + 3) 3 a32 c32 st188.2.1 ∧ RowT (rP (rK .i64) (rP (rK .i64) (rK .i64))) s193 (N + 4) 28 a34 c34 st188.2.2 ∧ Bx s193 (N + 0) b7 #[.slice a1 p0.1.length c1, .int .i64 p0.2.1, .slice a2 p0.2.2.1.length c2, .slice a3 p0.2.2.2.length c3] 26 ∧ Bx s193 (N + 1) b10 #[.slice none 0 0, .int .i64 0, .slice none 0 0, .slice none 0 0] 26 ∧ Bx s193 (N + 2) b23 #[.slice a20 r17.1.length c20, .int .i64 (r13.length : Int), .slice a32 st188.2.1.length c32, .slice a34 st188.2.2.length c34] 26 ∧ e = [(5, .int .i64 st188.1), (4, .pointer (some ⟨b23, 0, none⟩)), (3, .slice a16 r13.length c16), (2, .pointer (some ⟨b10, 0, none⟩)), (1, .pointer (some ⟨b7, 0, none⟩))] ∧ w = s193.w) eo188 ⟨s28, a21, c21, a22, c22, m0, h16, h1, h2, h3, h20, h21, h22, bx7, bx10, bx23, rfl, rfl⟩ (Sub.rf rfl) ?_
 rintro st188 res188 hm ih188 ho188 _ _ ⟨s193, a32, c32, a34, c34, m0, h16, h1, h2, h3, h20, h32, h34, bx7, bx10, bx23, rfl, rfl⟩
 unfold m_overseerref03_Canonical_l1 at hm
 refine E.seq (E.seq (E.reg (L.mv Wt.no rfl rfl (L.mv Wt.no rfl rfl (L.len sl23 Wt.no rfl rfl (L.bi Wt.no rfl rfl rfl rfl (L.nil (X.seqN ?_))))))))
 rcases ifS hm with ⟨hc, hm⟩ | ⟨hc, hm⟩
 ·refine E.cT rfl hc (E.skip (X.seqN (E.seq (E.block (E.seqJ (fun e w => ∃ (s200 : Sig) (l198 : List Int) (a199 : Option Addr) (c199 : Nat), m_overseerref03_Canonical_j1 p0 r13 st188 l198 = some res188 ∧ Mv (Up N No) s s200 ∧ RdL (rK .i64) s200 a16 c16 r13 ∧ RdL (rK .i64) s200 a1 c1 p0.1 ∧ RdL (rK .i64) s200 a2 c2 p0.2.2.1 ∧ RdL (rP (rK .i64) (rP (rK .i64) (rK .i64))) s200 a3 c3 p0.2.2.2 ∧ RowT (rK .i64) s200 (N + 5) 3 a20 c20 r17.1 ∧ RowT (rK .i64) s200 (N + 3) 3 a199 c199 l198 ∧ RowT (rP (rK .i64) (rP (rK .i64) (rK .i64))) s200 (N + 4) 28 a34 c34 st188.2.2 ∧ Bx s200 (N + 0) b7 #[.slice a1 p0.1.length c1, .int .i64 p0.2.1, .slice a2 p0.2.2.1.length c2, .slice a3 p0.2.2.2.length c3] 26 ∧ Bx s200 (N + 1) b10 #[.slice none 0 0, .int .i64 0, .slice none 0 0, .slice none 0 0] 26 ∧ Bx s200 (N + 2) b23 #[.slice a20 r17.1.length c20, .int .i64 (r13.length : Int), .slice a199 l198.length c199, .slice a34 st188.2.2.length c34] 26 ∧ e = [(5, .int .i64 st188.1), (4, .pointer (some ⟨b23, 0, none⟩)), (3, .slice a16 r13.length c16), (2, .pointer (some ⟨b10, 0, none⟩)), (1, .pointer (some ⟨b7, 0, none⟩))] ∧ w = s200.w) ?_ ?_)))))
  ·rintro _ _ ⟨s200, l198, a199, c199, hm, m0, h16, h1, h2, h3, h20, h199, h34, bx7, bx10, bx23, rfl, rfl⟩
   unfold m_overseerref03_Canonical_j1 at hm
   refine E.seq (E.reg (L.as Wt.no rfl rfl (L.nil (X.seqN (E.block ?_)))))
   obtain ⟨o263, eo263, hm⟩ := bindS hm
   refine E.cut (x := .exit 2) (fun e w => ∃ (s267 : Sig) (a265 : Option Addr) (c265 : Nat), Mv (Up N No) s s267 ∧ RdL (rK .i64) s267 a16 c16 r13 ∧ RdL (rK .i64) s267 a1 c1 p0.1 ∧ RdL (rK .i64) s267 a2 c2 p0.2.2.1 ∧ RdL (rP (rK .i64) (rP (rK .i64) (rK .i64))) s267 a3 c3 p0.2.2.2 ∧ RowT (rK .i64) s267 (N + 5) 3 a20 c20 r17.1 ∧ RowT (rK .i64) s267 (N + 3) 3 a199 c199 l198 ∧ RowT (rP (rK .i64) (rP (rK .i64) (rK .i64))) s267 (N + 4) 28 a265 c265 o263 ∧ Bx s267 (N + 0) b7 #[.slice a1 p0.1.length c1, .int .i64 p0.2.1, .slice a2 p0.2.2.1.length c2, .slice a3 p0.2.2.2.length c3] 26 ∧ Bx s267 (N + 1) b10 #[.slice none 0 0, .int .i64 0, .slice none 0 0, .slice none 0 0] 26 ∧ Bx s267 (N + 2) b23 #[.slice a20 r17.1.length c20, .int .i64 (r13.length : Int), .slice a199 l198.length c199, .slice a265 o263.length c265] 26 ∧ e = [(5, .int .i64 st188.1), (4, .pointer (some ⟨b23, 0, none⟩)), (3, .slice a16 r13.length c16), (2, .pointer (some ⟨b10, 0, none⟩)), (1, .pointer (some ⟨b7, 0, none⟩))] ∧ w = s267.w) ?_ ?_
   ·rintro _ _ ⟨s267, a265, c265, m0, h16, h1, h2, h3, h20, h199, h265, bx7, bx10, bx23, rfl, rfl⟩
    exact X.blkE (X.blkN (X.seqN (E.reg (L.mv Wt.no rfl rfl (L.bi Wt.no rfl rfl rfl rfl (L.as Wt.no rfl rfl (L.nil (X.sub (ih188 _ (Option.some.inj hm).symm _ _ ⟨s267, a199, c199, a265, c265, m0, h16, h1, h2, h3, h20, h199, h265, bx7, bx10, bx23, rfl, rfl⟩) (Sub.rf rfl)))))))))
   intro K268
   refine E.iter (fun (st263 : Int × (List (Int × Int × Int))) (e : List (Nat × Value)) (w : World) => ∃ (s266 : Sig) (a204 : Option Addr) (c204 : Nat), Mv (Up N No) s s266 ∧ RdL (rK .i64) s266 a16 c16 r13 ∧ RdL (rK .i64) s266 a1 c1 p0.1 ∧ RdL (rK .i64) s266 a2 c2 p0.2.2.1 ∧ RdL (rP (rK .i64) (rP (rK .i64) (rK .i64))) s266 a3 c3 p0.2.2.2 ∧ RowT (rK .i64) s266 (N + 5) 3 a20 c20 r17.1 ∧ RowT (rK .i64) s266 (N + 3) 3 a199 c199 l198 ∧ RowT (rP (rK .i64) (rP (rK .i64) (rK .i64))) s266 (N + 4) 28 a204 c204 st263.2 ∧ Bx s266 (N + 0) b7 #[.slice a1 p0.1.length c1, .int .i64 p0.2.1, .slice a2 p0.2.2.1.length c2, .slice a3 p0.2.2.2.length c3] 26 ∧ Bx s266 (N + 1) b10 #[.slice none 0 0, .int .i64 0, .slice none 0 0, .slice none 0 0] 26 ∧ Bx s266 (N + 2) b23 #[.slice a20 r17.1.length c20, .int .i64 (r13.length : Int), .slice a199 l198.length c199, .slice a204 st263.2.length c204] 26 ∧ e = [(6, .int .i64 st263.1), (5, .int .i64 st188.1), (4, .pointer (some ⟨b23, 0, none⟩)), (3, .slice a16 r13.length c16), (2, .pointer (some ⟨b10, 0, none⟩)), (1, .pointer (some ⟨b7, 0, none⟩))] ∧ w = s266.w) eo263 ⟨s200, a34, c34, m0, h16, h1, h2, h3, h20, h199, h34, bx7, bx10, bx23, rfl, rfl⟩ (Sub.rf rfl) ?_
   rintro st263 res263 hm ih263 ho263 _ _ ⟨s266, a204, c204, m0, h16, h1, h2, h3, h20, h199, h204, bx7, bx10, bx23, rfl, rfl⟩
   unfold m_overseerref03_Canonical_l2 at hm
   refine E.seq (E.seq (E.reg (L.mv Wt.no rfl rfl (L.fa fa26_0 Wt.no rfl rfl (L.ld (j := 0) bx7.mem nag23 Wt.no rfl rfl rfl rfl (L.len sl23 Wt.no rfl rfl (L.bi Wt.no rfl rfl rfl rfl (L.nil (X.seqN ?_)))))))))
   rcases ifS hm with ⟨hc, hm⟩ | ⟨hc, hm⟩
   ·refine E.cT rfl hc (E.skip (X.seqN (E.seqJ (fun e w => ∃ (s271 : Sig) (l269 : List (Int × Int × Int)) (a270 : Option Addr) (c270 : Nat), m_overseerref03_Canonical_j2 st263 l269 = some res263 ∧ Mv (Up N No) s s271 ∧ RdL (rK .i64) s271 a16 c16 r13 ∧ RdL (rK .i64) s271 a1 c1 p0.1 ∧ RdL (rK .i64) s271 a2 c2 p0.2.2.1 ∧ RdL (rP (rK .i64) (rP (rK .i64) (rK .i64))) s271 a3 c3 p0.2.2.2 ∧ RowT (rK .i64) s271 (N + 5) 3 a20 c20 r17.1 ∧ RowT (rK .i64) s271 (N + 3) 3 a199 c199 l198 ∧ RowT (rP (rK .i64) (rP (rK .i64) (rK .i64))) s271 (N + 4) 28 a270 c270 l269 ∧ Bx s271 (N + 0) b7 #[.slice a1 p0.1.length c1, .int .i64 p0.2.1, .slice a2 p0.2.2.1.length c2, .slice a3 p0.2.2.2.length c3] 26 ∧ Bx s271 (N + 1) b10 #[.slice none 0 0, .int .i64 0, .slice none 0 0, .slice none 0 0] 26 ∧ Bx s271 (N + 2) b23 #[.slice a20 r17.1.length c20, .int .i64 (r13.length : Int), .slice a199 l198.length c199, .slice a270 l269.length c270] 26 ∧ e = [(6, .int .i64 st263.1), (5, .int .i64 st188.1), (4, .pointer (some ⟨b23, 0, none⟩)), (3, .slice a16 r13.length c16), (2, .pointer (some ⟨b10, 0, none⟩)), (1, .pointer (some ⟨b7, 0, none⟩))] ∧ w = s271.w) ?_ ?_)))
    ·rintro _ _ ⟨s271, l269, a270, c270, hm, m0, h16, h1, h2, h3, h20, h199, h270, bx7, bx10, bx23, rfl, rfl⟩
     unfold m_overseerref03_Canonical_j2 at hm
     exact E.reg (L.mv Wt.no rfl rfl (L.bi Wt.no rfl rfl rfl rfl (L.as Wt.no rfl rfl (L.nil (X.sub (ih263 _ (Option.some.inj hm).symm _ _ ⟨s271, a270, c270, m0, h16, h1, h2, h3, h20, h199, h270, bx7, bx10, bx23, rfl, rfl⟩) (Sub.rf rfl))))))
    ·intro Jj272
     refine E.block (E.seq ?_)
     obtain ⟨x277, ex277, hm⟩ := bindS hm
     obtain ⟨x284, ex284, hm⟩ := bindS hm
     obtain ⟨r288, er288, hm⟩ := bindS hm
     refine E.draw [[], [], [], [1, 2], [1, 2, 3], [], [5], [], [5, 6, 7], [5, 6, 7, 8], [0, 1, 2, 3, 4, 5, 6, 7, 8, 9], [0, 1, 2, 3, 4, 5, 6, 7, 8, 9, 10]] (fun D e sx => Mv No s266 sx ∧ Sub [(6, .int .i64 st263.1), (5, .int .i64 st188.1), (4, .pointer (some ⟨b23, 0, none⟩)), (3, .slice a16 r13.length c16), (2, .pointer (some ⟨b10, 0, none⟩)), (1, .pointer (some ⟨b7, 0, none⟩))] e ∧ (D 0 = true → (Env.get e 42 = some (.agg #[.slice a1 p0.1.length c1, .int .i64 p0.2.1, .slice a2 p0.2.2.1.length c2, .slice a3 p0.2.2.2.length c3]))) ∧ (D 1 = true → (Env.get e 43 = some (.slice a16 r13.length c16))) ∧ (D 2 = true → (Env.get e 44 = some (.int .i64 st188.1))) ∧ (D 3 = true → (∃ (b278 : Nat) (o278 : Nat), Env.get e 45 = some (.pointer (some ⟨b278, o278, none⟩)) ∧ Mem sx 0 b278 o278 [.int .i64 x277])) ∧ (D 4 = true → (Env.get e 46 = some (.int .i64 x277))) ∧ (D 5 = true → (Env.get e 47 = some (.pointer (some ⟨b7, 0, none⟩)))) ∧ (D 6 = true → (Env.get e 48 = some (.slice a1 p0.1.length c1))) ∧ (D 7 = true → (Env.get e 49 = some (.int .i64 st263.1))) ∧ (D 8 = true → (∃ (b285 : Nat) (o285 : Nat), Env.get e 50 = some (.pointer (some ⟨b285, o285, none⟩)) ∧ Mem sx 0 b285 o285 [.int .i64 x284])) ∧ (D 9 = true → (Env.get e 51 = some (.int .i64 x284))) ∧ (D 10 = true → (Env.get e 52 = some (.int .i64 r288))) ∧ (D 11 = true → (Env.get e 7 = some (.int .i64 r288)))) (by kernel_rfl) (by kernel_rfl) (by kernel_rfl) ?_ ?_ ?_
     ·intro sz mz
      exact ⟨mz, (Sub.rf rfl), nofun, nofun, nofun, nofun, nofun, nofun, nofun, nofun, nofun, nofun, nofun, nofun⟩
     ·refine ⟨?_, ?_, ?_, ?_, ?_, ?_, ?_, ?_, ?_, ?_, ?_, ?_, trivial⟩
      ·rintro D e s273 ⟨im, ib, i0, t_⟩ hk hf ha
       have bx7 := bx7.mv im no_No
       have kn : Kn e [(1, .pointer (some ⟨b7, 0, none⟩))] := ⟨(ib 1 _ rfl), trivial⟩
       exact L.kns _ kn (L.lg (j := 0) (cs := [.slice a1 p0.1.length c1, .int .i64 p0.2.1, .slice a2 p0.2.2.1.length c2, .slice a3 p0.2.2.2.length c3]) bx7.mem ag26 Wt.no rfl rfl rfl rfl rfl (L.nil (X.dk kn ⟨im, Sub.fresh ib rfl, fun _ => rfl, t_⟩)))
      ·rintro D e s274 ⟨im, ib, i0, i1, t_⟩ hk hf ha
       have kn : Kn e [(3, .slice a16 r13.length c16)] := ⟨(ib 3 _ rfl), trivial⟩
       exact L.kns _ kn (L.mv Wt.no rfl rfl (L.nil (X.dk kn ⟨im, Sub.fresh ib rfl, i0, fun _ => rfl, t_⟩)))
      ·rintro D e s275 ⟨im, ib, i0, i1, i2, t_⟩ hk hf ha
       have kn : Kn e [(5, .int .i64 st188.1)] := ⟨(ib 5 _ rfl), trivial⟩
       exact L.kns _ kn (L.mv Wt.no rfl rfl (L.nil (X.dk kn ⟨im, Sub.fresh ib rfl, i0, i1, fun _ => rfl, t_⟩)))
      ·rintro D e s276 ⟨im, ib, i0, i1, i2, i3, t_⟩ hk hf ha
       obtain ⟨d1, d2, -⟩ := ha
       have g1_ := i1 d1
       have g2_ := i2 d2
       have h16 := h16.mono (im.le no_No)
       have kn : Kn e [(43, .slice a16 r13.length c16), (44, .int .i64 st188.1)] := ⟨g1_, g2_, trivial⟩
       refine L.kns _ kn (L.ix (r := (rK .i64)) sl23 h16 Wt.no rfl rfl ex277 rfl fun b278 o278 cc278 me278 rd278 => ?_)
       obtain rfl := rd278
       exact L.nil (X.dk kn ⟨im, Sub.fresh ib rfl, i0, i1, i2, fun _ => ⟨b278, o278, rfl, me278⟩, t_⟩)
      ·rintro D e s279 ⟨im, ib, i0, i1, i2, i3, i4, t_⟩ hk hf ha
       obtain ⟨d1, d2, d3, -⟩ := ha
       obtain ⟨b278, o278, g3_, me278⟩ := i3 d3
       have kn : Kn e [(45, .pointer (some ⟨b278, o278, none⟩))] := ⟨g3_, trivial⟩
       exact L.kns _ kn (L.ld (j := 0) me278 nag3 Wt.no rfl rfl rfl rfl (L.nil (X.dk kn ⟨im, Sub.fresh ib rfl, i0, i1, i2, i3, fun _ => rfl, t_⟩)))
      ·rintro D e s280 ⟨im, ib, i0, i1, i2, i3, i4, i5, t_⟩ hk hf ha
       have kn : Kn e [(1, .pointer (some ⟨b7, 0, none⟩))] := ⟨(ib 1 _ rfl), trivial⟩
       exact L.kns _ kn (L.fa fa26_0 Wt.no rfl rfl (L.nil (X.dk kn ⟨im, Sub.fresh ib rfl, i0, i1, i2, i3, i4, fun _ => rfl, t_⟩)))
      ·rintro D e s281 ⟨im, ib, i0, i1, i2, i3, i4, i5, i6, t_⟩ hk hf ha
       obtain ⟨d5, -⟩ := ha
       have g5_ := i5 d5
       have bx7 := bx7.mv im no_No
       have kn : Kn e [(47, .pointer (some ⟨b7, 0, none⟩))] := ⟨g5_, trivial⟩
       exact L.kns _ kn (L.ld (j := 0) bx7.mem nag23 Wt.no rfl rfl rfl rfl (L.nil (X.dk kn ⟨im, Sub.fresh ib rfl, i0, i1, i2, i3, i4, i5, fun _ => rfl, t_⟩)))
      ·rintro D e s282 ⟨im, ib, i0, i1, i2, i3, i4, i5, i6, i7, t_⟩ hk hf ha
       have kn : Kn e [(6, .int .i64 st263.1)] := ⟨(ib 6 _ rfl), trivial⟩
       exact L.kns _ kn (L.mv Wt.no rfl rfl (L.nil (X.dk kn ⟨im, Sub.fresh ib rfl, i0, i1, i2, i3, i4, i5, i6, fun _ => rfl, t_⟩)))
      ·rintro D e s283 ⟨im, ib, i0, i1, i2, i3, i4, i5, i6, i7, i8, t_⟩ hk hf ha
       obtain ⟨d5, d6, d7, -⟩ := ha
       have g6_ := i6 d6
       have g7_ := i7 d7
       have h1 := h1.mono (im.le no_No)
       have kn : Kn e [(48, .slice a1 p0.1.length c1), (49, .int .i64 st263.1)] := ⟨g6_, g7_, trivial⟩
       refine L.kns _ kn (L.ix (r := (rK .i64)) sl23 h1 Wt.no rfl rfl ex284 rfl fun b285 o285 cc285 me285 rd285 => ?_)
       obtain rfl := rd285
       exact L.nil (X.dk kn ⟨im, Sub.fresh ib rfl, i0, i1, i2, i3, i4, i5, i6, i7, fun _ => ⟨b285, o285, rfl, me285⟩, t_⟩)
      ·rintro D e s286 ⟨im, ib, i0, i1, i2, i3, i4, i5, i6, i7, i8, i9, t_⟩ hk hf ha
       obtain ⟨d5, d6, d7, d8, -⟩ := ha
       obtain ⟨b285, o285, g8_, me285⟩ := i8 d8
       have kn : Kn e [(50, .pointer (some ⟨b285, o285, none⟩))] := ⟨g8_, trivial⟩
       exact L.kns _ kn (L.ld (j := 0) me285 nag3 Wt.no rfl rfl rfl rfl (L.nil (X.dk kn ⟨im, Sub.fresh ib rfl, i0, i1, i2, i3, i4, i5, i6, i7, i8, fun _ => rfl, t_⟩)))
      ·rintro D e s287 ⟨im, ib, i0, i1, i2, i3, i4, i5, i6, i7, i8, i9, i10, i11⟩ hk hf ha
       obtain ⟨d0, d1, d2, d3, d4, d5, d6, d7, d8, d9, -⟩ := ha
       have g0_ := i0 d0
       have g4_ := i4 d4
       have g9_ := i9 d9
       have h1 := h1.mono (im.le no_No)
       have h2 := h2.mono (im.le no_No)
       have h3 := h3.mono (im.le no_No)
       have kn : Kn e [(42, .agg #[.slice a1 p0.1.length c1, .int .i64 p0.2.1, .slice a2 p0.2.2.1.length c2, .slice a3 p0.2.2.2.length c3]), (46, .int .i64 x277), (51, .int .i64 x284)] := ⟨g0_, g4_, g9_, trivial⟩
       refine L.kns _ kn (L.ca cf82 rfl rfl Wt.no rfl (m_overseerref03_Step_c (s := s287) (p0 := p0) (p1 := x277) (p2 := x284) h1 h2 h3 er288) rfl ?_)
       rintro _ s289 m290 rfl
       exact L.nil (X.dk kn ⟨im.trans m290.no, Sub.fresh ib rfl, i0, i1, i2, fun z => let ⟨b278, o278, q, me278⟩ := i3 z; ⟨b278, o278, q, (me278.mv m290 no_No)⟩, i4, i5, i6, i7, fun z => let ⟨b285, o285, q, me285⟩ := i8 z; ⟨b285, o285, q, (me285.mv m290 no_No)⟩, i9, fun _ => rfl, i11⟩)
      ·rintro D e s291 ⟨im, ib, i0, i1, i2, i3, i4, i5, i6, i7, i8, i9, i10, i11⟩ hk hf ha
       obtain ⟨d0, d1, d2, d3, d4, d5, d6, d7, d8, d9, d10, -⟩ := ha
       have g10_ := i10 d10
       have kn : Kn e [(52, .int .i64 r288)] := ⟨g10_, trivial⟩
       exact L.kns _ kn (L.as Wt.no rfl rfl (L.nil (X.dk kn ⟨im, Sub.fresh ib rfl, i0, i1, i2, i3, i4, i5, i6, i7, i8, i9, i10, fun _ => rfl⟩)))
     ·rintro D e s292 hD ⟨im, ib, i0, i1, i2, i3, i4, i5, i6, i7, i8, i9, i10, i11⟩
      have g11_ := i11 (hD 11 rfl)
      have bx23 := bx23.mv im no_No
      have h20 := h20.mv im no_No no_No
      have h199 := h199.mv im no_No no_No
      have h204 := h204.mv im no_No no_No
      have h16 := h16.mono (im.le no_No)
      have bx10 := bx10.mv im no_No
      have bx7 := bx7.mv im no_No
      have h1 := h1.mono (im.le no_No)
      have h2 := h2.mono (im.le no_No)
      have h3 := h3.mono (im.le no_No)
      have m0 := m0.trans im.no
      refine X.sub (e' := [(7, .int .i64 r288), (6, .int .i64 st263.1), (5, .int .i64 st188.1), (4, .pointer (some ⟨b23, 0, none⟩)), (3, .slice a16 r13.length c16), (2, .pointer (some ⟨b10, 0, none⟩)), (1, .pointer (some ⟨b7, 0, none⟩))]) ?_ (Sub.cons g11_ (Sub.cons (ib 6 _ rfl) (Sub.cons (ib 5 _ rfl) (Sub.cons (ib 4 _ rfl) (Sub.cons (ib 3 _ rfl) (Sub.cons (ib 2 _ rfl) (Sub.cons (ib 1 _ rfl) Sub.nil)))))))
      refine X.seqN (E.seq (E.reg (L.mv Wt.no rfl rfl (L.bi Wt.no rfl rfl rfl rfl (L.nil (X.seqN ?_))))))
      rcases ifS hm with ⟨hc, hm⟩ | ⟨hc, hm⟩
      ·refine E.cT rfl hc ?_
       obtain ⟨x300, ex300, hm⟩ := bindS hm
       obtain ⟨r306, er306, hm⟩ := bindS hm
       obtain ⟨x315, ex315, hm⟩ := bindS hm
       refine E.draw [[], [0], [], [], [3], [], [3, 4, 5], [3, 4, 5, 6], [], [], [8, 9], [2, 3, 4, 5, 6, 7, 8, 9, 10], [2, 3, 4, 5, 6, 7, 8, 9, 10, 11], [0, 1, 2, 3, 4, 5, 6, 7, 8, 9, 10, 11, 12], [0, 1, 2, 3, 4, 5, 6, 7, 8, 9, 10, 11, 12, 13], [0, 1, 2, 3, 4, 5, 6, 7, 8, 9, 10, 11, 12, 13, 14]] (fun D e sx => Mv (fun t => t = (N + 2) ∨ t = (N + 4)) s292 sx ∧ Sub [(7, .int .i64 r288), (6, .int .i64 st263.1), (5, .int .i64 st188.1), (4, .pointer (some ⟨b23, 0, none⟩)), (3, .slice a16 r13.length c16), (2, .pointer (some ⟨b10, 0, none⟩)), (1, .pointer (some ⟨b7, 0, none⟩))] e ∧ (D 0 = true → (Env.get e 55 = some (.pointer (some ⟨b23, 3, none⟩)))) ∧ (D 1 = true → (Env.get e 56 = some (.slice a204 st263.2.length c204))) ∧ (D 2 = true → (Env.get e 57 = some (.int .i64 st188.1))) ∧ (D 3 = true → (Env.get e 58 = some (.pointer (some ⟨b7, 0, none⟩)))) ∧ (D 4 = true → (Env.get e 59 = some (.slice a1 p0.1.length c1))) ∧ (D 5 = true → (Env.get e 60 = some (.int .i64 st263.1))) ∧ (D 6 = true → (∃ (b301 : Nat) (o301 : Nat), Env.get e 61 = some (.pointer (some ⟨b301, o301, none⟩)) ∧ Mem sx 0 b301 o301 [.int .i64 x300])) ∧ (D 7 = true → (Env.get e 62 = some (.int .i64 x300))) ∧ (D 8 = true → (Env.get e 63 = some (.slice a16 r13.length c16))) ∧ (D 9 = true → (Env.get e 64 = some (.int .i64 r288))) ∧ (D 10 = true → (Env.get e 65 = some (.int .i64 r306))) ∧ (D 11 = true → (Env.get e 66 = some (.agg #[.int .i64 st188.1, .int .i64 x300, .int .i64 r306]))) ∧ (D 12 = true → (∃ (b311 : Nat), Env.get e 67 = some (.slice (some ⟨b311, 0, none⟩) ([(st188.1, x300, r306)] : List (Int × Int × Int)).length (([(st188.1, x300, r306)] : List (Int × Int × Int)).length)) ∧ RdL (rP (rK .i64) (rP (rK .i64) (rK .i64))) sx (some ⟨b311, 0, none⟩) (([(st188.1, x300, r306)] : List (Int × Int × Int)).length) ([(st188.1, x300, r306)] : List (Int × Int × Int)))) ∧ (D 13 = true → (∃ (a316 : Option Addr) (c316 : Nat), Env.get e 68 = some (.slice a316 x315.length c316))) ∧ (D 14 = true → (Env.get e 69 = some (.pointer (some ⟨b23, 3, none⟩)))) ∧ (D 15 = false → Bx sx (N + 2) b23 #[.slice a20 r17.1.length c20, .int .i64 (r13.length : Int), .slice a199 l198.length c199, .slice a204 st263.2.length c204] 26) ∧ (D 15 = true → ∀ (a316 : Option Addr) (c316 : Nat), Env.get e 68 = some (.slice a316 x315.length c316) → Bx sx (N + 2) b23 #[.slice a20 r17.1.length c20, .int .i64 (r13.length : Int), .slice a199 l198.length c199, .slice a316 x315.length c316] 26) ∧ (D 13 = false → RowT (rP (rK .i64) (rP (rK .i64) (rK .i64))) sx (N + 4) 28 a204 c204 st263.2) ∧ (D 13 = true → ∀ (a316 : Option Addr) (c316 : Nat), Env.get e 68 = some (.slice a316 x315.length c316) → RowT (rP (rK .i64) (rP (rK .i64) (rK .i64))) sx (N + 4) 28 a316 c316 x315)) (by kernel_rfl) (by kernel_rfl) (by kernel_rfl) ?_ ?_ ?_
       ·intro sz mz
        exact ⟨mz.no, (Sub.rf rfl), nofun, nofun, nofun, nofun, nofun, nofun, nofun, nofun, nofun, nofun, nofun, nofun, nofun, nofun, nofun, fun _ => bx23.mv mz no_No, nofun, fun _ => h204.mv mz no_No no_No, nofun⟩
       ·refine ⟨?_, ?_, ?_, ?_, ?_, ?_, ?_, ?_, ?_, ?_, ?_, ?_, ?_, ?_, ?_, ?_, trivial⟩
        ·rintro D e s293 ⟨im, ib, i0, t_⟩ hk hf ha
         have kn : Kn e [(4, .pointer (some ⟨b23, 0, none⟩))] := ⟨(ib 4 _ rfl), trivial⟩
         exact L.kns _ kn (L.fa fa26_3 Wt.no rfl rfl (L.nil (X.dk kn ⟨im, Sub.fresh ib rfl, fun _ => rfl, t_⟩)))
        ·rintro D e s294 ⟨im, ib, i0, i1, i2, i3, i4, i5, i6, i7, i8, i9, i10, i11, i12, i13, i14, i15, t_⟩ hk hf ha
         obtain ⟨d0, -⟩ := ha
         have g0_ := i0 d0
         obtain bx23 := i15 (hf 15 (Nat.le_of_ble_eq_true rfl) rfl)
         have kn : Kn e [(55, .pointer (some ⟨b23, 3, none⟩))] := ⟨g0_, trivial⟩
         exact L.kns _ kn (L.ld (j := 3) bx23.mem nag24 Wt.no rfl rfl rfl rfl (L.nil (X.dk kn ⟨im, Sub.fresh ib rfl, i0, fun _ => rfl, i2, i3, i4, i5, i6, i7, i8, i9, i10, i11, i12, i13, i14, i15, t_⟩)))
        ·rintro D e s295 ⟨im, ib, i0, i1, i2, t_⟩ hk hf ha
         have kn : Kn e [(5, .int .i64 st188.1)] := ⟨(ib 5 _ rfl), trivial⟩
         exact L.kns _ kn (L.mv Wt.no rfl rfl (L.nil (X.dk kn ⟨im, Sub.fresh ib rfl, i0, i1, fun _ => rfl, t_⟩)))
        ·rintro D e s296 ⟨im, ib, i0, i1, i2, i3, t_⟩ hk hf ha
         have kn : Kn e [(1, .pointer (some ⟨b7, 0, none⟩))] := ⟨(ib 1 _ rfl), trivial⟩
         exact L.kns _ kn (L.fa fa26_0 Wt.no rfl rfl (L.nil (X.dk kn ⟨im, Sub.fresh ib rfl, i0, i1, i2, fun _ => rfl, t_⟩)))
        ·rintro D e s297 ⟨im, ib, i0, i1, i2, i3, i4, t_⟩ hk hf ha
         obtain ⟨d3, -⟩ := ha
         have g3_ := i3 d3
         have bx7 := bx7.mv im (nor (tgN (by decide)) (tgN (by decide)))
         have kn : Kn e [(58, .pointer (some ⟨b7, 0, none⟩))] := ⟨g3_, trivial⟩
         exact L.kns _ kn (L.ld (j := 0) bx7.mem nag23 Wt.no rfl rfl rfl rfl (L.nil (X.dk kn ⟨im, Sub.fresh ib rfl, i0, i1, i2, i3, fun _ => rfl, t_⟩)))
        ·rintro D e s298 ⟨im, ib, i0, i1, i2, i3, i4, i5, t_⟩ hk hf ha
         have kn : Kn e [(6, .int .i64 st263.1)] := ⟨(ib 6 _ rfl), trivial⟩
         exact L.kns _ kn (L.mv Wt.no rfl rfl (L.nil (X.dk kn ⟨im, Sub.fresh ib rfl, i0, i1, i2, i3, i4, fun _ => rfl, t_⟩)))
        ·rintro D e s299 ⟨im, ib, i0, i1, i2, i3, i4, i5, i6, t_⟩ hk hf ha
         obtain ⟨d3, d4, d5, -⟩ := ha
         have g4_ := i4 d4
         have g5_ := i5 d5
         have h1 := h1.mono (im.le (nor (tg0 hN) (tg0 hN)))
         have kn : Kn e [(59, .slice a1 p0.1.length c1), (60, .int .i64 st263.1)] := ⟨g4_, g5_, trivial⟩
         refine L.kns _ kn (L.ix (r := (rK .i64)) sl23 h1 Wt.no rfl rfl ex300 rfl fun b301 o301 cc301 me301 rd301 => ?_)
         obtain rfl := rd301
         exact L.nil (X.dk kn ⟨im, Sub.fresh ib rfl, i0, i1, i2, i3, i4, i5, fun _ => ⟨b301, o301, rfl, me301⟩, t_⟩)
        ·rintro D e s302 ⟨im, ib, i0, i1, i2, i3, i4, i5, i6, i7, t_⟩ hk hf ha
         obtain ⟨d3, d4, d5, d6, -⟩ := ha
         obtain ⟨b301, o301, g6_, me301⟩ := i6 d6
         have kn : Kn e [(61, .pointer (some ⟨b301, o301, none⟩))] := ⟨g6_, trivial⟩
         exact L.kns _ kn (L.ld (j := 0) me301 nag3 Wt.no rfl rfl rfl rfl (L.nil (X.dk kn ⟨im, Sub.fresh ib rfl, i0, i1, i2, i3, i4, i5, i6, fun _ => rfl, t_⟩)))
        ·rintro D e s303 ⟨im, ib, i0, i1, i2, i3, i4, i5, i6, i7, i8, t_⟩ hk hf ha
         have kn : Kn e [(3, .slice a16 r13.length c16)] := ⟨(ib 3 _ rfl), trivial⟩
         exact L.kns _ kn (L.mv Wt.no rfl rfl (L.nil (X.dk kn ⟨im, Sub.fresh ib rfl, i0, i1, i2, i3, i4, i5, i6, i7, fun _ => rfl, t_⟩)))
        ·rintro D e s304 ⟨im, ib, i0, i1, i2, i3, i4, i5, i6, i7, i8, i9, t_⟩ hk hf ha
         have kn : Kn e [(7, .int .i64 r288)] := ⟨(ib 7 _ rfl), trivial⟩
         exact L.kns _ kn (L.mv Wt.no rfl rfl (L.nil (X.dk kn ⟨im, Sub.fresh ib rfl, i0, i1, i2, i3, i4, i5, i6, i7, i8, fun _ => rfl, t_⟩)))
        ·rintro D e s305 ⟨im, ib, i0, i1, i2, i3, i4, i5, i6, i7, i8, i9, i10, i11, i12, i13, i14, i15, i16, i17, i18⟩ hk hf ha
         obtain ⟨d8, d9, -⟩ := ha
         have g8_ := i8 d8
         have g9_ := i9 d9
         have h16 := h16.mono (im.le (nor (tg0 hN) (tg0 hN)))
         have kn : Kn e [(63, .slice a16 r13.length c16), (64, .int .i64 r288)] := ⟨g8_, g9_, trivial⟩
         refine L.kns _ kn (L.ca cf83 rfl rfl Wt.no rfl (m_overseerref03_index_c (s := s305) (p0 := r13) (p1 := r288) h16 er306) rfl ?_)
         rintro _ s307 m308 rfl
         exact L.nil (X.dk kn ⟨im.trans m308.no, Sub.fresh ib rfl, i0, i1, i2, i3, i4, i5, fun z => let ⟨b301, o301, q, me301⟩ := i6 z; ⟨b301, o301, q, (me301.mv m308 no_No)⟩, i7, i8, i9, fun _ => rfl, i11, fun z => let ⟨b311, q, h311⟩ := i12 z; ⟨b311, q, (h311.mono (m308.le no_No))⟩, i13, i14, fun z2 => ((i15 z2).mv m308 no_No), fun z a316 c316 q13 => ((i16 z a316 c316 q13).mv m308 no_No), fun z2 => ((i17 z2).mv m308 no_No no_No), fun z a316 c316 q13 => ((i18 z a316 c316 q13).mv m308 no_No no_No)⟩)
        ·rintro D e s309 ⟨im, ib, i0, i1, i2, i3, i4, i5, i6, i7, i8, i9, i10, i11, t_⟩ hk hf ha
         obtain ⟨d2, d3, d4, d5, d6, d7, d8, d9, d10, -⟩ := ha
         have g2_ := i2 d2
         have g7_ := i7 d7
         have g10_ := i10 d10
         have kn : Kn e [(57, .int .i64 st188.1), (62, .int .i64 x300), (65, .int .i64 r306)] := ⟨g2_, g7_, g10_, trivial⟩
         exact L.kns _ kn (L.bu (cs := [.int .i64 st188.1, .int .i64 x300, .int .i64 r306]) pl28 Wt.no rfl rfl rfl (L.nil (X.dk kn ⟨im, Sub.fresh ib rfl, i0, i1, i2, i3, i4, i5, i6, i7, i8, i9, i10, fun _ => rfl, t_⟩)))
        ·rintro D e s310 ⟨im, ib, i0, i1, i2, i3, i4, i5, i6, i7, i8, i9, i10, i11, i12, i13, i14, i15, i16, i17, i18⟩ hk hf ha
         obtain ⟨d2, d3, d4, d5, d6, d7, d8, d9, d10, d11, -⟩ := ha
         have g11_ := i11 d11
         have kn : Kn e [(66, .agg #[.int .i64 st188.1, .int .i64 x300, .int .i64 r306])] := ⟨g11_, trivial⟩
         refine L.kns _ kn (L.bsE (k := 1) (cs := [.int .i64 st188.1, .int .i64 x300, .int .i64 r306]) 0 bs24 (Nat.le_of_ble_eq_true rfl) Wt.no rfl rfl rfl rfl fun b311 s312 m313 bx311 => ?_)
         have h311 := Bx.rdL (r := (rP (rK .i64) (rP (rK .i64) (rK .i64)))) (xs := ([(st188.1, x300, r306)] : List (Int × Int × Int))) bx311 ⟨[.int .i64 st188.1, .int .i64 x300, .int .i64 r306], _, rfl, ⟨[.int .i64 st188.1], [.int .i64 x300, .int .i64 r306], rfl, rfl, ⟨[.int .i64 x300], [.int .i64 r306], rfl, rfl, rfl⟩⟩, rfl⟩ (Nat.le_of_ble_eq_true rfl)
         exact L.nil (X.dk kn ⟨im.trans m313.no, Sub.fresh ib rfl, i0, i1, i2, i3, i4, i5, fun z => let ⟨b301, o301, q, me301⟩ := i6 z; ⟨b301, o301, q, (me301.mv m313 no_No)⟩, i7, i8, i9, i10, i11, fun _ => ⟨b311, rfl, h311⟩, i13, i14, fun z2 => ((i15 z2).mv m313 no_No), fun z a316 c316 q13 => ((i16 z a316 c316 q13).mv m313 no_No), fun z2 => ((i17 z2).mv m313 no_No no_No), fun z a316 c316 q13 => ((i18 z a316 c316 q13).mv m313 no_No no_No)⟩)
        ·rintro D e s314 ⟨im, ib, i0, i1, i2, i3, i4, i5, i6, i7, i8, i9, i10, i11, i12, i13, i14, i15, i16, i17, i18⟩ hk hf ha
         obtain ⟨d0, d1, d2, d3, d4, d5, d6, d7, d8, d9, d10, d11, d12, -⟩ := ha
         have g1_ := i1 d1
         obtain ⟨b311, g12_, h311⟩ := i12 d12
         obtain h204 := i17 hk
         have kn : Kn e [(56, .slice a204 st263.2.length c204), (67, .slice (some ⟨b311, 0, none⟩) ([(st188.1, x300, r306)] : List (Int × Int × Int)).length (([(st188.1, x300, r306)] : List (Int × Int × Int)).length))] := ⟨g1_, g12_, trivial⟩
         exact L.kns _ kn (L.ap (r := (rP (rK .i64) (rP (rK .i64) (rK .i64)))) Try.underlying24 el28 rfl (tgp hN) h204 h311.wk Wt.no rfl rfl ex315 rfl fun a316 c316 s317 m318 h316 => L.nil (X.dk kn ⟨im.trans (m318.one (.inr rfl)), Sub.fresh ib rfl, i0, i1, i2, i3, i4, i5, fun z => let ⟨b301, o301, q, me301⟩ := i6 z; ⟨b301, o301, q, (me301.mv m318 (tg0 hN))⟩, i7, i8, i9, i10, i11, fun z => let ⟨b311, q, h311⟩ := i12 z; ⟨b311, q, (h311.mono (m318.le (tg0 hN)))⟩, fun _ => ⟨a316, c316, rfl⟩, i14, fun z2 => ((i15 z2).mv m318 (tgN (by decide))), fun z => Bool.noConfusion ((hf 15 (Nat.le_of_ble_eq_true rfl) rfl).symm.trans z), fun z => Bool.noConfusion (show true = false from z), fun _ _ _ q13 => by cases (show some (.slice a316 x315.length c316 : Value) = some _ from q13); exact h316⟩))
        ·rintro D e s319 ⟨im, ib, i0, i1, i2, i3, i4, i5, i6, i7, i8, i9, i10, i11, i12, i13, i14, t_⟩ hk hf ha
         obtain ⟨d0, d1, d2, d3, d4, d5, d6, d7, d8, d9, d10, d11, d12, d13, -⟩ := ha
         have kn : Kn e [(4, .pointer (some ⟨b23, 0, none⟩))] := ⟨(ib 4 _ rfl), trivial⟩
         exact L.kns _ kn (L.fa fa26_3 Wt.no rfl rfl (L.nil (X.dk kn ⟨im, Sub.fresh ib rfl, i0, i1, i2, i3, i4, i5, i6, i7, i8, i9, i10, i11, i12, i13, fun _ => rfl, t_⟩)))
        ·rintro D e s320 ⟨im, ib, i0, i1, i2, i3, i4, i5, i6, i7, i8, i9, i10, i11, i12, i13, i14, i15, i16, i17, i18⟩ hk hf ha
         obtain ⟨d0, d1, d2, d3, d4, d5, d6, d7, d8, d9, d10, d11, d12, d13, d14, -⟩ := ha
         obtain ⟨a316, c316, g13_⟩ := i13 d13
         have g14_ := i14 d14
         obtain bx23 := i15 hk
         have kn : Kn e [(69, .pointer (some ⟨b23, 3, none⟩)), (68, .slice a316 x315.length c316)] := ⟨g14_, g13_, trivial⟩
         exact L.kns _ kn (L.st (c := [.slice a316 x315.length c316]) (cs' := #[.slice a20 r17.1.length c20, .int .i64 (r13.length : Int), .slice a199 l198.length c199, .slice a316 x315.length c316]) bx23 nag24.sz Wt.no rfl rfl rfl rfl rfl (Nat.le_of_ble_eq_true rfl) rfl fun s321 m322 bx23 => L.nil (X.dn kn ⟨im.trans (m322.one (.inl rfl)), ib, i0, i1, i2, i3, i4, i5, fun z => let ⟨b301, o301, q, me301⟩ := i6 z; ⟨b301, o301, q, (me301.mv m322 (tg0 hN))⟩, i7, i8, i9, i10, i11, fun z => let ⟨b311, q, h311⟩ := i12 z; ⟨b311, q, (h311.mono (m322.le (tg0 hN)))⟩, i13, i14, fun z => Bool.noConfusion (show true = false from z), fun _ _ _ q13 => by cases g13_.symm.trans q13; exact bx23, fun z2 => ((i17 z2).mv m322 (tgN (by decide)) (tg0 hN)), fun z a316 c316 q13 => ((i18 z a316 c316 q13).mv m322 (tgN (by decide)) (tg0 hN))⟩))
       ·rintro D e s323 hD ⟨im, ib, i0, i1, i2, i3, i4, i5, i6, i7, i8, i9, i10, i11, i12, i13, i14, i15, i16, i17, i18⟩
        obtain ⟨a316, c316, g13_⟩ := i13 (hD 13 rfl)
        obtain bx23 := i16 (hD 15 rfl) a316 c316 g13_
        obtain h316 := i18 (hD 13 rfl) a316 c316 g13_
        have h20 := h20.mv im (nor (tgN (by decide)) (tgN (by decide))) (nor (tg0 hN) (tg0 hN))
        have h199 := h199.mv im (nor (tgN (by decide)) (tgN (by decide))) (nor (tg0 hN) (tg0 hN))
        have h16 := h16.mono (im.le (nor (tg0 hN) (tg0 hN)))
        have bx10 := bx10.mv im (nor (tgN (by decide)) (tgN (by decide)))
        have bx7 := bx7.mv im (nor (tgN (by decide)) (tgN (by decide)))
        have h1 := h1.mono (im.le (nor (tg0 hN) (tg0 hN)))
        have h2 := h2.mono (im.le (nor (tg0 hN) (tg0 hN)))
        have h3 := h3.mono (im.le (nor (tg0 hN) (tg0 hN)))
        have m0 := m0.trans (im.weak fun _ e => by rcases e with e | e; (rw [e]; exact up); (rw [e]; exact up))
        refine X.sub (e' := [(6, .int .i64 st263.1), (5, .int .i64 st188.1), (4, .pointer (some ⟨b23, 0, none⟩)), (3, .slice a16 r13.length c16), (2, .pointer (some ⟨b10, 0, none⟩)), (1, .pointer (some ⟨b7, 0, none⟩))]) ?_ (Sub.cons (ib 6 _ rfl) (Sub.cons (ib 5 _ rfl) (Sub.cons (ib 4 _ rfl) (Sub.cons (ib 3 _ rfl) (Sub.cons (ib 2 _ rfl) (Sub.cons (ib 1 _ rfl) Sub.nil))))))
        exact X.blkN (X.sub (Jj272 _ _ ⟨s323, x315, a316, c316, hm, m0, h16, h1, h2, h3, h20, h199, h316, bx7, bx10, bx23, rfl, rfl⟩) (Sub.rf rfl))
      ·exact E.cF rfl hc (E.skip (X.blkN (X.sub (Jj272 _ _ ⟨s292, st263.2, a204, c204, hm, m0, h16, h1, h2, h3, h20, h199, h204, bx7, bx10, bx23, rfl, rfl⟩) (Sub.rf rfl))))
   ·refine E.cF rfl hc (E.exit (X.seqX (X.seqX ?_)))
    have hx := ho263 _ (Option.some.inj hm).symm
    subst hx
    exact X.sub (K268 _ _ ⟨s266, a204, c204, m0, h16, h1, h2, h3, h20, h199, h204, bx7, bx10, bx23, rfl, rfl⟩) (Sub.rf rfl)
  ·intro Jj201
   refine E.seq ?_
   obtain ⟨x329, ex329, hm⟩ := bindS hm
   obtain ⟨r333, er333, hm⟩ := bindS hm
   refine E.draw [[], [0], [], [], [2, 3], [2, 3, 4], [0, 1, 2, 3, 4, 5]] (fun D e sx => Mv No s193 sx ∧ Sub [(5, .int .i64 st188.1), (4, .pointer (some ⟨b23, 0, none⟩)), (3, .slice a16 r13.length c16), (2, .pointer (some ⟨b10, 0, none⟩)), (1, .pointer (some ⟨b7, 0, none⟩))] e ∧ (D 0 = true → (Env.get e 22 = some (.pointer (some ⟨b7, 2, none⟩)))) ∧ (D 1 = true → (Env.get e 23 = some (.slice a2 p0.2.2.1.length c2))) ∧ (D 2 = true → (Env.get e 24 = some (.slice a16 r13.length c16))) ∧ (D 3 = true → (Env.get e 25 = some (.int .i64 st188.1))) ∧ (D 4 = true → (∃ (b330 : Nat) (o330 : Nat), Env.get e 26 = some (.pointer (some ⟨b330, o330, none⟩)) ∧ Mem sx 0 b330 o330 [.int .i64 x329])) ∧ (D 5 = true → (Env.get e 27 = some (.int .i64 x329))) ∧ (D 6 = true → (Env.get e 28 = some (.bool r333)))) (by kernel_rfl) (by kernel_rfl) (by kernel_rfl) ?_ ?_ ?_
   ·intro sz mz
    exact ⟨mz, (Sub.rf rfl), nofun, nofun, nofun, nofun, nofun, nofun, nofun⟩
   ·refine ⟨?_, ?_, ?_, ?_, ?_, ?_, ?_, trivial⟩
    ·rintro D e s324 ⟨im, ib, i0, t_⟩ hk hf ha
     have kn : Kn e [(1, .pointer (some ⟨b7, 0, none⟩))] := ⟨(ib 1 _ rfl), trivial⟩
     exact L.kns _ kn (L.fa fa26_2 Wt.no rfl rfl (L.nil (X.dk kn ⟨im, Sub.fresh ib rfl, fun _ => rfl, t_⟩)))
    ·rintro D e s325 ⟨im, ib, i0, i1, t_⟩ hk hf ha
     obtain ⟨d0, -⟩ := ha
     have g0_ := i0 d0
     have bx7 := bx7.mv im no_No
     have kn : Kn e [(22, .pointer (some ⟨b7, 2, none⟩))] := ⟨g0_, trivial⟩
     exact L.kns _ kn (L.ld (j := 2) bx7.mem nag23 Wt.no rfl rfl rfl rfl (L.nil (X.dk kn ⟨im, Sub.fresh ib rfl, i0, fun _ => rfl, t_⟩)))
    ·rintro D e s326 ⟨im, ib, i0, i1, i2, t_⟩ hk hf ha
     have kn : Kn e [(3, .slice a16 r13.length c16)] := ⟨(ib 3 _ rfl), trivial⟩
     exact L.kns _ kn (L.mv Wt.no rfl rfl (L.nil (X.dk kn ⟨im, Sub.fresh ib rfl, i0, i1, fun _ => rfl, t_⟩)))
    ·rintro D e s327 ⟨im, ib, i0, i1, i2, i3, t_⟩ hk hf ha
     have kn : Kn e [(5, .int .i64 st188.1)] := ⟨(ib 5 _ rfl), trivial⟩
     exact L.kns _ kn (L.mv Wt.no rfl rfl (L.nil (X.dk kn ⟨im, Sub.fresh ib rfl, i0, i1, i2, fun _ => rfl, t_⟩)))
    ·rintro D e s328 ⟨im, ib, i0, i1, i2, i3, i4, t_⟩ hk hf ha
     obtain ⟨d2, d3, -⟩ := ha
     have g2_ := i2 d2
     have g3_ := i3 d3
     have h16 := h16.mono (im.le no_No)
     have kn : Kn e [(24, .slice a16 r13.length c16), (25, .int .i64 st188.1)] := ⟨g2_, g3_, trivial⟩
     refine L.kns _ kn (L.ix (r := (rK .i64)) sl23 h16 Wt.no rfl rfl ex329 rfl fun b330 o330 cc330 me330 rd330 => ?_)
     obtain rfl := rd330
     exact L.nil (X.dk kn ⟨im, Sub.fresh ib rfl, i0, i1, i2, i3, fun _ => ⟨b330, o330, rfl, me330⟩, t_⟩)
    ·rintro D e s331 ⟨im, ib, i0, i1, i2, i3, i4, i5, i6⟩ hk hf ha
     obtain ⟨d2, d3, d4, -⟩ := ha
     obtain ⟨b330, o330, g4_, me330⟩ := i4 d4
     have kn : Kn e [(26, .pointer (some ⟨b330, o330, none⟩))] := ⟨g4_, trivial⟩
     exact L.kns _ kn (L.ld (j := 0) me330 nag3 Wt.no rfl rfl rfl rfl (L.nil (X.dk kn ⟨im, Sub.fresh ib rfl, i0, i1, i2, i3, i4, fun _ => rfl, i6⟩)))
    ·rintro D e s332 ⟨im, ib, i0, i1, i2, i3, i4, i5, i6⟩ hk hf ha
     obtain ⟨d0, d1, d2, d3, d4, d5, -⟩ := ha
     have g1_ := i1 d1
     have g5_ := i5 d5
     have h2 := h2.mono (im.le no_No)
     have kn : Kn e [(23, .slice a2 p0.2.2.1.length c2), (27, .int .i64 x329)] := ⟨g1_, g5_, trivial⟩
     refine L.kns _ kn (L.ca cf81 rfl rfl Wt.no rfl (m_overseerref03_has_c (s := s332) (p0 := p0.2.2.1) (p1 := x329) h2 er333) rfl ?_)
     rintro _ s334 m335 rfl
     exact L.nil (X.dk kn ⟨im.trans m335.no, Sub.fresh ib rfl, i0, i1, i2, i3, fun z => let ⟨b330, o330, q, me330⟩ := i4 z; ⟨b330, o330, q, (me330.mv m335 no_No)⟩, i5, fun _ => rfl⟩)
   ·rintro D e s336 hD ⟨im, ib, i0, i1, i2, i3, i4, i5, i6⟩
    have g6_ := i6 (hD 6 rfl)
    have bx23 := bx23.mv im no_No
    have h20 := h20.mv im no_No no_No
    have h32 := h32.mv im no_No no_No
    have h34 := h34.mv im no_No no_No
    have h16 := h16.mono (im.le no_No)
    have bx10 := bx10.mv im no_No
    have bx7 := bx7.mv im no_No
    have h1 := h1.mono (im.le no_No)
    have h2 := h2.mono (im.le no_No)
    have h3 := h3.mono (im.le no_No)
    have m0 := m0.trans im.no
    refine X.sub (e' := [(28, .bool r333), (5, .int .i64 st188.1), (4, .pointer (some ⟨b23, 0, none⟩)), (3, .slice a16 r13.length c16), (2, .pointer (some ⟨b10, 0, none⟩)), (1, .pointer (some ⟨b7, 0, none⟩))]) ?_ (Sub.cons g6_ (Sub.cons (ib 5 _ rfl) (Sub.cons (ib 4 _ rfl) (Sub.cons (ib 3 _ rfl) (Sub.cons (ib 2 _ rfl) (Sub.cons (ib 1 _ rfl) Sub.nil))))))
    refine X.seqN ?_
    rcases ifS hm with ⟨hc, hm⟩ | ⟨hc, hm⟩
    ·refine E.cT rfl hc (E.reg (L.fa fa26_2 Wt.no rfl rfl (L.ld (j := 2) bx23.mem nag23 Wt.no rfl rfl rfl rfl (L.mv Wt.no rfl rfl (L.bsE (k := 1) (cs := [.int .i64 st188.1]) 0 bs23 (Nat.le_of_ble_eq_true rfl) Wt.no rfl rfl rfl rfl fun b337 s338 m339 bx337 => ?_)))))
     replace m0 := m0.trans m339.no
     replace h16 := h16.mono (m339.le no_No)
     replace h32 := h32.mv m339 no_No no_No
     replace bx7 := bx7.mv m339 no_No
     replace h1 := h1.mono (m339.le no_No)
     replace h2 := h2.mono (m339.le no_No)
     replace h3 := h3.mono (m339.le no_No)
     replace bx10 := bx10.mv m339 no_No
     replace bx23 := bx23.mv m339 no_No
     replace h20 := h20.mv m339 no_No no_No
     replace h34 := h34.mv m339 no_No no_No
     have h337 := Bx.rdL (r := (rK .i64)) (xs := ([st188.1] : List Int)) bx337 ⟨[.int .i64 st188.1], _, rfl, rfl, rfl⟩ (Nat.le_of_ble_eq_true rfl)
     obtain ⟨x340, ex340, hm⟩ := bindS hm
     refine L.ap (r := (rK .i64)) Try.underlying23 el3 rfl (tgp hN) h32 h337.wk Wt.no rfl rfl ex340 rfl fun a341 c341 s342 m343 h341 => ?_
     replace m0 := m0.trans (m343.one up)
     replace h16 := h16.mono (m343.le (tg0 hN))
     replace bx7 := bx7.mv m343 (tgN (by decide))
     replace h1 := h1.mono (m343.le (tg0 hN))
     replace h2 := h2.mono (m343.le (tg0 hN))
     replace h3 := h3.mono (m343.le (tg0 hN))
     replace bx10 := bx10.mv m343 (tgN (by decide))
     replace bx23 := bx23.mv m343 (tgN (by decide))
     replace h20 := h20.mv m343 (tgN (by decide)) (tg0 hN)
     replace h34 := h34.mv m343 (tgN (by decide)) (tg0 hN)
     refine L.fa fa26_2 Wt.no rfl rfl (L.st (c := [.slice a341 x340.length c341]) (cs' := #[.slice a20 r17.1.length c20, .int .i64 (r13.length : Int), .slice a341 x340.length c341, .slice a34 st188.2.2.length c34]) bx23 nag23.sz Wt.no rfl rfl rfl rfl rfl (Nat.le_of_ble_eq_true rfl) rfl fun s344 m345 bx23 => ?_)
     replace m0 := m0.trans (m345.one up)
     replace h16 := h16.mono (m345.le (tg0 hN))
     replace bx7 := bx7.mv m345 (tgN (by decide))
     replace h1 := h1.mono (m345.le (tg0 hN))
     replace h2 := h2.mono (m345.le (tg0 hN))
     replace h3 := h3.mono (m345.le (tg0 hN))
     replace bx10 := bx10.mv m345 (tgN (by decide))
     replace h20 := h20.mv m345 (tgN (by decide)) (tg0 hN)
     replace h341 := h341.mv m345 (tgN (by decide)) (tg0 hN)
     replace h34 := h34.mv m345 (tgN (by decide)) (tg0 hN)
     exact L.nil (X.sub (Jj201 _ _ ⟨s344, x340, a341, c341, hm, m0, h16, h1, h2, h3, h20, h341, h34, bx7, bx10, bx23, rfl, rfl⟩) (Sub.rf rfl))
    ·exact E.cF rfl hc (E.skip (X.sub (Jj201 _ _ ⟨s336, st188.2.1, a32, c32, hm, m0, h16, h1, h2, h3, h20, h32, h34, bx7, bx10, bx23, rfl, rfl⟩) (Sub.rf rfl)))
 ·refine E.cF rfl hc (E.exit (X.seqX (X.seqX ?_)))
  have hx := ho188 _ (Option.some.inj hm).symm
  subst hx
  exact X.sub (K197 _ _ ⟨s193, a32, c32, a34, c34, m0, h20, h32, h34, bx10, bx23, rfl, rfl⟩) (Sub.rf rfl)

theorem cf71 : Cf Try.prog 71 := Cf.mk Try.func71 (by kernel_rfl) (by kernel_rfl)
theorem fa49_0 : FA Try.prog 49 0 0 := FA.mk Try.underlying49 rfl rfl ⟨1, by decide, by kernel_rfl⟩
theorem fa49_1 : FA Try.prog 49 1 1 := FA.mk Try.underlying49 rfl rfl ⟨1, by decide, by kernel_rfl⟩
theorem fa49_2 : FA Try.prog 49 2 2 := FA.mk Try.underlying49 rfl rfl ⟨25, by decide, by kernel_rfl⟩
theorem ia46 : IA Try.prog 46 5 1 := IA.mk Try.underlying46 (by kernel_rfl)
theorem ia47 : IA Try.prog 47 5 5 := IA.mk Try.underlying47 (by kernel_rfl)
theorem nag5 : NAg Try.prog 5 := NAg.mk' Try.underlying5 rfl (by kernel_rfl)
noncomputable def m_overseerlaw03_Make_j2 (st240 : Int × (List (Int × Int × Int))) (l247 : List (Int × Int × Int)) : Option ((Int × (List (Int × Int × Int))) ⊕ (List (Int × Int × Int))) :=
  some (.inl (W (st240.1 + 1), l247))
noncomputable def m_overseerlaw03_Make_l2 (p0 : List Int) (p1 : Int × Int × ((Int × Int × Int × Int × Int) × (Int × Int × Int × Int × Int) × (Int × Int × Int × Int × Int) × (Int × Int × Int × Int × Int) × (Int × Int × Int × Int × Int))) (st164 : Int × List Int × (List (Int × Int × Int))) (st240 : Int × (List (Int × Int × Int))) : Option ((Int × (List (Int × Int × Int))) ⊕ (List (Int × Int × Int))) :=
  if ((decide (st240.1 < (p0.length : Int))) && (decide (st240.1 < 5))) then
    (rng st164.1 5).bind fun _ =>
    (rng st240.1 5).bind fun _ =>
    (([p1.2.2.1.1, p1.2.2.1.2.1, p1.2.2.1.2.2.1, p1.2.2.1.2.2.2.1, p1.2.2.1.2.2.2.2, p1.2.2.2.1.1, p1.2.2.2.1.2.1, p1.2.2.2.1.2.2.1, p1.2.2.2.1.2.2.2.1, p1.2.2.2.1.2.2.2.2, p1.2.2.2.2.1.1, p1.2.2.2.2.1.2.1, p1.2.2.2.2.1.2.2.1, p1.2.2.2.2.1.2.2.2.1, p1.2.2.2.2.1.2.2.2.2, p1.2.2.2.2.2.1.1, p1.2.2.2.2.2.1.2.1, p1.2.2.2.2.2.1.2.2.1, p1.2.2.2.2.2.1.2.2.2.1, p1.2.2.2.2.2.1.2.2.2.2, p1.2.2.2.2.2.2.1, p1.2.2.2.2.2.2.2.1, p1.2.2.2.2.2.2.2.2.1, p1.2.2.2.2.2.2.2.2.2.1, p1.2.2.2.2.2.2.2.2.2.2] : List Int)[st164.1.toNat * 5 + st240.1.toNat * 1]?).bind fun x259 =>
    (nz (W ((W (1 + (W (p1.1.tmod 5)))) + 2))).bind fun _ =>
    if decide (((W x259).tmod (W ((W (1 + (W (p1.1.tmod 5)))) + 2))) < (W (1 + (W (p1.1.tmod 5))))) then
      (idx p0 st240.1).bind fun x274 =>
      (app st240.2 ([(st164.1, x274, ((W x259).tmod (W ((W (1 + (W (p1.1.tmod 5)))) + 2))))] : List (Int × Int × Int))).bind fun x284 =>
      m_overseerlaw03_Make_j2 st240 x284
    else
      m_overseerlaw03_Make_j2 st240 st240.2
  else
    some (.inr st240.2)
noncomputable def m_overseerlaw03_Make_j1 (p0 : List Int) (p1 : Int × Int × ((Int × Int × Int × Int × Int) × (Int × Int × Int × Int × Int) × (Int × Int × Int × Int × Int) × (Int × Int × Int × Int × Int) × (Int × Int × Int × Int × Int))) (st164 : Int × List Int × (List (Int × Int × Int))) (l182 : List Int) : Option ((Int × List Int × (List (Int × Int × Int))) ⊕ (List Int × (List (Int × Int × Int)))) :=
  (iter (m_overseerlaw03_Make_l2 p0 p1 st164) (0, st164.2.2)).bind fun o240 =>
  some (.inl (W (st164.1 + 1), l182, o240))
noncomputable def m_overseerlaw03_Make_l1 (p0 : List Int) (p1 : Int × Int × ((Int × Int × Int × Int × Int) × (Int × Int × Int × Int × Int) × (Int × Int × Int × Int × Int) × (Int × Int × Int × Int × Int) × (Int × Int × Int × Int × Int))) (st164 : Int × List Int × (List (Int × Int × Int))) : Option ((Int × List Int × (List (Int × Int × Int))) ⊕ (List Int × (List (Int × Int × Int)))) :=
  if decide (st164.1 < (W (1 + (W (p1.1.tmod 5))))) then
    (ng st164.1).bind fun _ =>
    if ((IntKind.u8.wrap (((BitVec.ofInt 8 (p1.2.1.fdiv (2 ^ (min st164.1.toNat 8))) &&& BitVec.ofInt 8 1).toNat : Int))) == 1) then
      (app st164.2.1 ([st164.1] : List Int)).bind fun x298 =>
      m_overseerlaw03_Make_j1 p0 p1 st164 x298
    else
      m_overseerlaw03_Make_j1 p0 p1 st164 st164.2.1
  else
    some (.inr st164.2)
/-- What overseerlaw03.Make computes. -/
noncomputable def m_overseerlaw03_Make (p0 : List Int) (p1 : Int × Int × ((Int × Int × Int × Int × Int) × (Int × Int × Int × Int × Int) × (Int × Int × Int × Int × Int) × (Int × Int × Int × Int × Int) × (Int × Int × Int × Int × Int))) : Option (List Int × Int × List Int × (List (Int × Int × Int))) :=
  if decide (p1.1 ≥ 250) then
    (m_overseerref03_Empty p0).bind fun r11 =>
    some r11
  else
    (m_overseerref03_Empty p0).bind fun r19 =>
    (iter (m_overseerlaw03_Make_l1 p0 p1) (0, r19.2.2)).bind fun o164 =>
    (m_overseerref03_Canonical (r19.1, W (1 + (W (p1.1.tmod 5))), o164)).bind fun r173 =>
    some r173
set_option maxRecDepth 100000 in
set_option maxHeartbeats 8000000 in
theorem m_overseerlaw03_Make_c {s : Sig} {p0 : List Int} {p1 : Int × Int × ((Int × Int × Int × Int × Int) × (Int × Int × Int × Int × Int) × (Int × Int × Int × Int × Int) × (Int × Int × Int × Int × Int) × (Int × Int × Int × Int × Int))} {a1 : Option Addr} {c1 : Nat} {u0 : Nat} {u1 : Nat} {u2 : Nat} {r : (List Int × Int × List Int × (List (Int × Int × Int)))} (h1 : RdL (rK .i64) s a1 c1 p0) (hm : m_overseerlaw03_Make p0 p1 = some r) :
    Calls Try.prog 46 #[.slice a1 p0.length c1, .agg #[.int .u8 p1.1, .int .u8 p1.2.1, .int .u8 p1.2.2.1.1, .int .u8 p1.2.2.1.2.1, .int .u8 p1.2.2.1.2.2.1, .int .u8 p1.2.2.1.2.2.2.1, .int .u8 p1.2.2.1.2.2.2.2, .int .u8 p1.2.2.2.1.1, .int .u8 p1.2.2.2.1.2.1, .int .u8 p1.2.2.2.1.2.2.1, .int .u8 p1.2.2.2.1.2.2.2.1, .int .u8 p1.2.2.2.1.2.2.2.2, .int .u8 p1.2.2.2.2.1.1, .int .u8 p1.2.2.2.2.1.2.1, .int .u8 p1.2.2.2.2.1.2.2.1, .int .u8 p1.2.2.2.2.1.2.2.2.1, .int .u8 p1.2.2.2.2.1.2.2.2.2, .int .u8 p1.2.2.2.2.2.1.1, .int .u8 p1.2.2.2.2.2.1.2.1, .int .u8 p1.2.2.2.2.2.1.2.2.1, .int .u8 p1.2.2.2.2.2.1.2.2.2.1, .int .u8 p1.2.2.2.2.2.1.2.2.2.2, .int .u8 p1.2.2.2.2.2.2.1, .int .u8 p1.2.2.2.2.2.2.2.1, .int .u8 p1.2.2.2.2.2.2.2.2.1, .int .u8 p1.2.2.2.2.2.2.2.2.2.1, .int .u8 p1.2.2.2.2.2.2.2.2.2.2]] s.w (RetS No s fun v s' => ∃ (a2 : Option Addr) (c2 : Nat) (a3 : Option Addr) (c3 : Nat) (a4 : Option Addr) (c4 : Nat), v = .agg #[.slice a2 r.1.length c2, .int .i64 r.2.1, .slice a3 r.2.2.1.length c3, .slice a4 r.2.2.2.length c4] ∧ RowT (rK .i64) s' u0 3 a2 c2 r.1 ∧ RowT (rK .i64) s' u1 3 a3 c3 r.2.2.1 ∧ RowT (rP (rK .i64) (rP (rK .i64) (rK .i64))) s' u2 28 a4 c4 r.2.2.2) := by
 unfold m_overseerlaw03_Make at hm
 obtain ⟨N, hN, hNb⟩ := s.fresh
 have m0 : Mv (Up N No) s s := Mv.refl _ _
 refine E.entry Try.func46 rfl Try.ntmps46 rfl rfl (E.seq (E.reg (L.box (N + 0) Wt.no rfl rfl rfl fun b5 s6 m7 bx5 => ?_)))
 replace m0 := m0.trans m7.no
 replace h1 := h1.mono (m7.le no_No)
 refine L.al (N + 1) zz26 rfl Wt.no rfl fun b8 s9 m10 bx8 => ?_
 replace m0 := m0.trans m10.no
 replace h1 := h1.mono (m10.le no_No)
 replace bx5 := bx5.mv m10 no_No
 refine L.nil (X.seqN (E.seq (E.seq (E.reg (L.fa fa49_0 Wt.no rfl rfl (L.ld (j := 0) bx5.mem nag5 Wt.no rfl rfl rfl rfl (L.bi Wt.no rfl rfl rfl rfl (L.nil (X.seqN ?_)))))))))
 rcases ifS hm with ⟨hc, hm⟩ | ⟨hc, hm⟩
 ·refine E.cT rfl hc (E.seq (E.reg (L.mv Wt.no rfl rfl ?_)))
  obtain ⟨r11, er11, hm⟩ := bindS hm
  refine L.ca cf70 rfl rfl Wt.no rfl (m_overseerref03_Empty_c (s := s9) (p0 := p0) (u0 := (N + 2)) (u1 := (N + 3)) (u2 := (N + 4)) h1 er11) rfl ?_
  rintro _ s12 m13 ⟨a14, c14, a15, c15, a16, c16, rfl, h14, h15, h16⟩
  replace m0 := m0.trans m13.no
  replace bx8 := bx8.mv m13 no_No
  refine L.st (c := [.slice a14 r11.1.length c14, .int .i64 r11.2.1, .slice a15 r11.2.2.1.length c15, .slice a16 r11.2.2.2.length c16]) (cs' := #[.slice a14 r11.1.length c14, .int .i64 r11.2.1, .slice a15 r11.2.2.1.length c15, .slice a16 r11.2.2.2.length c16]) bx8 ag26.sz Wt.no rfl rfl rfl rfl rfl (Nat.le_of_ble_eq_true rfl) rfl fun s17 m18 bx8 => ?_
  replace m0 := m0.trans (m18.one up)
  replace h14 := h14.mv m18 (tgN (by decide)) (tg0 hN)
  replace h15 := h15.mv m18 (tgN (by decide)) (tg0 hN)
  replace h16 := h16.mv m18 (tgN (by decide)) (tg0 hN)
  refine L.nil (X.seqN (E.ret (X.seqR ?_)))
  obtain rfl := Option.some.inj hm
  exact X.rt (.inl rfl) Try.results46 (Rs.cell rfl bx8 ag26 rfl Rs.nil) rfl ⟨_, (s17).ren N (fun k => cond (Nat.beq k 4) u2 (cond (Nat.beq k 3) u1 (cond (Nat.beq k 2) u0 (0)))), rfl, rfl, m0.ren hNb, ⟨a14, c14, a15, c15, a16, c16, rfl, (h14.ren hN), (h15.ren hN), (h16.ren hN)⟩⟩
 ·refine E.cF rfl hc (E.skip (X.seqN (E.seq (E.reg (L.mv Wt.no rfl rfl ?_)))))
  obtain ⟨r19, er19, hm⟩ := bindS hm
  refine L.ca cf70 rfl rfl Wt.no rfl (m_overseerref03_Empty_c (s := s9) (p0 := p0) (u0 := 0) (u1 := (N + 6)) (u2 := (N + 7)) h1 er19) rfl ?_
  rintro _ s20 m21 ⟨a22, c22, a23, c23, a24, c24, rfl, h22, h23, h24⟩
  replace h22 := h22.p
  replace m0 := m0.trans m21.no
  replace h1 := h1.mono (m21.le no_No)
  replace bx5 := bx5.mv m21 no_No
  replace bx8 := bx8.mv m21 no_No
  refine L.al (N + 5) zz26 rfl Wt.no rfl fun b25 s26 m27 bx25 => ?_
  replace m0 := m0.trans m27.no
  replace h1 := h1.mono (m27.le no_No)
  replace h22 := h22.mono (m27.le no_No)
  replace h23 := h23.mv m27 no_No no_No
  replace h24 := h24.mv m27 no_No no_No
  replace bx5 := bx5.mv m27 no_No
  replace bx8 := bx8.mv m27 no_No
  refine L.st (c := [.slice a22 r19.1.length c22, .int .i64 r19.2.1, .slice a23 r19.2.2.1.length c23, .slice a24 r19.2.2.2.length c24]) (cs' := #[.slice a22 r19.1.length c22, .int .i64 r19.2.1, .slice a23 r19.2.2.1.length c23, .slice a24 r19.2.2.2.length c24]) bx25 ag26.sz Wt.no rfl rfl rfl rfl rfl (Nat.le_of_ble_eq_true rfl) rfl fun s28 m29 bx25 => ?_
  replace m0 := m0.trans (m29.one up)
  replace h1 := h1.mono (m29.le (tg0 hN))
  replace bx5 := bx5.mv m29 (tgN (by decide))
  replace bx8 := bx8.mv m29 (tgN (by decide))
  replace h22 := h22.mono (m29.le (tg0 hN))
  replace h23 := h23.mv m29 (tgN (by decide)) (tg0 hN)
  replace h24 := h24.mv m29 (tgN (by decide)) (tg0 hN)
  refine L.nil (X.seqN (E.seq (E.reg (L.fa fa49_0 Wt.no rfl rfl (L.ld (j := 0) bx5.mem nag5 Wt.no rfl rfl rfl rfl (L.rem Wt.no rfl rfl (by decide) rfl (L.cv Try.underlying5 Try.underlying3 Wt.no rfl rfl (L.bi Wt.no rfl rfl rfl rfl (L.fa fa26_1 Wt.no rfl rfl (L.st (c := [.int .i64 (W (1 + (W (p1.1.tmod 5))))]) (cs' := #[.slice a22 r19.1.length c22, .int .i64 (W (1 + (W (p1.1.tmod 5)))), .slice a23 r19.2.2.1.length c23, .slice a24 r19.2.2.2.length c24]) bx25 nag3.sz Wt.no rfl rfl rfl rfl rfl (Nat.le_of_ble_eq_true rfl) rfl fun s30 m31 bx25 => ?_))))))))))
  replace m0 := m0.trans (m31.one up)
  replace h1 := h1.mono (m31.le (tg0 hN))
  replace bx5 := bx5.mv m31 (tgN (by decide))
  replace bx8 := bx8.mv m31 (tgN (by decide))
  replace h22 := h22.mono (m31.le (tg0 hN))
  replace h23 := h23.mv m31 (tgN (by decide)) (tg0 hN)
  replace h24 := h24.mv m31 (tgN (by decide)) (tg0 hN)
  refine L.nil (X.seqN (E.seq (E.seq (E.reg (L.as Wt.no rfl rfl (L.nil (X.seqN (E.block ?_))))))))
  obtain ⟨o164, eo164, hm⟩ := bindS hm
  refine E.cut (x := .exit 0) (fun e w => ∃ (s170 : Sig) (a166 : Option Addr) (c166 : Nat) (a168 : Option Addr) (c168 : Nat), Mv (Up N No) s s170 ∧ RdL (rK .i64) s170 a22 c22 r19.1 ∧ RowT (rK .i64) s170 (N + 6) 3 a166 c166 o164.1 ∧ RowT (rP (rK .i64) (rP (rK .i64) (rK .i64))) s170 (N + 7) 28 a168 c168 o164.2 ∧ Bx s170 (N + 1) b8 #[.slice none 0 0, .int .i64 0, .slice none 0 0, .slice none 0 0] 26 ∧ Bx s170 (N + 5) b25 #[.slice a22 r19.1.length c22, .int .i64 (W (1 + (W (p1.1.tmod 5)))), .slice a166 o164.1.length c166, .slice a168 o164.2.length c168] 26 ∧ e = [(5, .pointer (some ⟨b25, 0, none⟩)), (4, .pointer (some ⟨b8, 0, none⟩))] ∧ w = s170.w) ?_ ?_
  ·rintro _ _ ⟨s170, a166, c166, a168, c168, m0, h22, h166, h168, bx8, bx25, rfl, rfl⟩
   refine X.blkE (X.seqN (E.seq (E.reg (L.lg (j := 0) (cs := [.slice a22 r19.1.length c22, .int .i64 (W (1 + (W (p1.1.tmod 5)))), .slice a166 o164.1.length c166, .slice a168 o164.2.length c168]) bx25.mem ag26 Wt.no rfl rfl rfl rfl rfl ?_))))
   have m171 := Sig.fz_mv (N + 6) s170
   replace h166 := h166.fz (tgn hN)
   replace m0 := m0.trans (m171.one up)
   replace h22 := h22.mono (m171.le (tg0 hN))
   replace h168 := h168.mv m171 (tgN (by decide)) (tg0 hN)
   replace bx8 := bx8.mv m171 (tgN (by decide))
   refine L.toR (s' := (Sig.fz (N + 6) s170)) rfl ?_
   have m172 := Sig.fz_mv (N + 7) (Sig.fz (N + 6) s170)
   replace h168 := h168.fz (tgn hN)
   replace m0 := m0.trans (m172.one up)
   replace h22 := h22.mono (m172.le (tg0 hN))
   replace h166 := h166.mono (m172.le (tg0 hN))
   replace bx8 := bx8.mv m172 (tgN (by decide))
   refine L.toR (s' := (Sig.fz (N + 7) (Sig.fz (N + 6) s170))) rfl ?_
   obtain ⟨r173, er173, hm⟩ := bindS hm
   refine L.ca cf71 rfl rfl Wt.no rfl (m_overseerref03_Canonical_c (s := (Sig.fz (N + 7) (Sig.fz (N + 6) s170))) (p0 := (r19.1, W (1 + (W (p1.1.tmod 5))), o164)) (u0 := (N + 8)) (u1 := (N + 9)) (u2 := (N + 10)) h22 h166 h168 er173) rfl ?_
   rintro _ s174 m175 ⟨a176, c176, a177, c177, a178, c178, rfl, h176, h177, h178⟩
   replace m0 := m0.trans m175.no
   replace bx8 := bx8.mv m175 no_No
   refine L.st (c := [.slice a176 r173.1.length c176, .int .i64 r173.2.1, .slice a177 r173.2.2.1.length c177, .slice a178 r173.2.2.2.length c178]) (cs' := #[.slice a176 r173.1.length c176, .int .i64 r173.2.1, .slice a177 r173.2.2.1.length c177, .slice a178 r173.2.2.2.length c178]) bx8 ag26.sz Wt.no rfl rfl rfl rfl rfl (Nat.le_of_ble_eq_true rfl) rfl fun s179 m180 bx8 => ?_
   replace m0 := m0.trans (m180.one up)
   replace h176 := h176.mv m180 (tgN (by decide)) (tg0 hN)
   replace h177 := h177.mv m180 (tgN (by decide)) (tg0 hN)
   replace h178 := h178.mv m180 (tgN (by decide)) (tg0 hN)
   refine L.nil (X.seqN (E.ret ?_))
   obtain rfl := Option.some.inj hm
   exact X.rt (.inl rfl) Try.results46 (Rs.cell rfl bx8 ag26 rfl Rs.nil) rfl ⟨_, (s179).ren N (fun k => cond (Nat.beq k 10) u2 (cond (Nat.beq k 9) u1 (cond (Nat.beq k 8) u0 (0)))), rfl, rfl, m0.ren hNb, ⟨a176, c176, a177, c177, a178, c178, rfl, (h176.ren hN), (h177.ren hN), (h178.ren hN)⟩⟩
  intro K181
  refine E.iter (fun (st164 : Int × List Int × (List (Int × Int × Int))) (e : List (Nat × Value)) (w : World) => ∃ (s169 : Sig) (a34 : Option Addr) (c34 : Nat) (a36 : Option Addr) (c36 : Nat), Mv (Up N No) s s169 ∧ RdL (rK .i64) s169 a1 c1 p0 ∧ RdL (rK .i64) s169 a22 c22 r19.1 ∧ RowT (rK .i64) s169 (N + 6) 3 a34 c34 st164.2.1 ∧ RowT (rP (rK .i64) (rP (rK .i64) (rK .i64))) s169 (N + 7) 28 a36 c36 st164.2.2 ∧ Bx s169 (N + 0) b5 #[.int .u8 p1.1, .int .u8 p1.2.1, .int .u8 p1.2.2.1.1, .int .u8 p1.2.2.1.2.1, .int .u8 p1.2.2.1.2.2.1, .int .u8 p1.2.2.1.2.2.2.1, .int .u8 p1.2.2.1.2.2.2.2, .int .u8 p1.2.2.2.1.1, .int .u8 p1.2.2.2.1.2.1, .int .u8 p1.2.2.2.1.2.2.1, .int .u8 p1.2.2.2.1.2.2.2.1, .int .u8 p1.2.2.2.1.2.2.2.2, .int .u8 p1.2.2.2.2.1.1, .int .u8 p1.2.2.2.2.1.2.1, .int .u8 p1.2.2.2.2.1.2.2.1, .int .u8 p1.2.2.2.2.1.2.2.2.1, .int .u8 p1.2.2.2.2.1.2.2.2.2, .int .u8 p1.2.2.2.2.2.1.1, .int .u8 p1.2.2.2.2.2.1.2.1, .int .u8 p1.2.2.2.2.2.1.2.2.1, .int .u8 p1.2.2.2.2.2.1.2.2.2.1, .int .u8 p1.2.2.2.2.2.1.2.2.2.2, .int .u8 p1.2.2.2.2.2.2.1, .int .u8 p1.2.2.2.2.2.2.2.1, .int .u8 p1.2.2.2.2.2.2.2.2.1, .int .u8 p1.2.2.2.2.2.2.2.2.2.1, .int .u8 p1.2.2.2.2.2.2.2.2.2.2] 49 ∧ Bx s169 (N + 1) b8 #[.slice none 0 0, .int .i64 0, .slice none 0 0, .slice none 0 0] 26 ∧ Bx s169 (N + 5) b25 #[.slice a22 r19.1.length c22, .int .i64 (W (1 + (W (p1.1.tmod 5)))), .slice a34 st164.2.1.length c34, .slice a36 st164.2.2.length c36] 26 ∧ e = [(6, .int .i64 st164.1), (5, .pointer (some ⟨b25, 0, none⟩)), (4, .pointer (some ⟨b8, 0, none⟩)), (3, .pointer (some ⟨b5, 0, none⟩)), (0, .slice a1 p0.length c1)] ∧ w = s169.w) eo164 ⟨s30, a23, c23, a24, c24, m0, h1, h22, h23, h24, bx5, bx8, bx25, rfl, rfl⟩ (Sub.rf rfl) ?_
  rintro st164 res164 hm ih164 ho164 _ _ ⟨s169, a34, c34, a36, c36, m0, h1, h22, h34, h36, bx5, bx8, bx25, rfl, rfl⟩
  unfold m_overseerlaw03_Make_l1 at hm
  refine E.seq (E.seq (E.reg (L.mv Wt.no rfl rfl (L.fa fa26_1 Wt.no rfl rfl (L.ld (j := 1) bx25.mem nag3 Wt.no rfl rfl rfl rfl (L.bi Wt.no rfl rfl rfl rfl (L.nil (X.seqN ?_))))))))
  rcases ifS hm with ⟨hc, hm⟩ | ⟨hc, hm⟩
  ·refine E.cT rfl hc (E.skip (X.seqN (E.seq (E.block (E.seqJ (fun e w => ∃ (s184 : Sig) (l182 : List Int) (a183 : Option Addr) (c183 : Nat), m_overseerlaw03_Make_j1 p0 p1 st164 l182 = some res164 ∧ Mv (Up N No) s s184 ∧ RdL (rK .i64) s184 a1 c1 p0 ∧ RdL (rK .i64) s184 a22 c22 r19.1 ∧ RowT (rK .i64) s184 (N + 6) 3 a183 c183 l182 ∧ RowT (rP (rK .i64) (rP (rK .i64) (rK .i64))) s184 (N + 7) 28 a36 c36 st164.2.2 ∧ Bx s184 (N + 0) b5 #[.int .u8 p1.1, .int .u8 p1.2.1, .int .u8 p1.2.2.1.1, .int .u8 p1.2.2.1.2.1, .int .u8 p1.2.2.1.2.2.1, .int .u8 p1.2.2.1.2.2.2.1, .int .u8 p1.2.2.1.2.2.2.2, .int .u8 p1.2.2.2.1.1, .int .u8 p1.2.2.2.1.2.1, .int .u8 p1.2.2.2.1.2.2.1, .int .u8 p1.2.2.2.1.2.2.2.1, .int .u8 p1.2.2.2.1.2.2.2.2, .int .u8 p1.2.2.2.2.1.1, .int .u8 p1.2.2.2.2.1.2.1, .int .u8 p1.2.2.2.2.1.2.2.1, .int .u8 p1.2.2.2.2.1.2.2.2.1, .int .u8 p1.2.2.2.2.1.2.2.2.2, .int .u8 p1.2.2.2.2.2.1.1, .int .u8 p1.2.2.2.2.2.1.2.1, .int .u8 p1.2.2.2.2.2.1.2.2.1, .int .u8 p1.2.2.2.2.2.1.2.2.2.1, .int .u8 p1.2.2.2.2.2.1.2.2.2.2, .int .u8 p1.2.2.2.2.2.2.1, .int .u8 p1.2.2.2.2.2.2.2.1, .int .u8 p1.2.2.2.2.2.2.2.2.1, .int .u8 p1.2.2.2.2.2.2.2.2.2.1, .int .u8 p1.2.2.2.2.2.2.2.2.2.2] 49 ∧ Bx s184 (N + 1) b8 #[.slice none 0 0, .int .i64 0, .slice none 0 0, .slice none 0 0] 26 ∧ Bx s184 (N + 5) b25 #[.slice a22 r19.1.length c22, .int .i64 (W (1 + (W (p1.1.tmod 5)))), .slice a183 l182.length c183, .slice a36 st164.2.2.length c36] 26 ∧ e = [(6, .int .i64 st164.1), (5, .pointer (some ⟨b25, 0, none⟩)), (4, .pointer (some ⟨b8, 0, none⟩)), (3, .pointer (some ⟨b5, 0, none⟩)), (0, .slice a1 p0.length c1)] ∧ w = s184.w) ?_ ?_)))))
   ·rintro _ _ ⟨s184, l182, a183, c183, hm, m0, h1, h22, h183, h36, bx5, bx8, bx25, rfl, rfl⟩
    unfold m_overseerlaw03_Make_j1 at hm
    refine E.seq (E.reg (L.as Wt.no rfl rfl (L.nil (X.seqN (E.block ?_)))))
    obtain ⟨o240, eo240, hm⟩ := bindS hm
    refine E.cut (x := .exit 2) (fun e w => ∃ (s244 : Sig) (a242 : Option Addr) (c242 : Nat), Mv (Up N No) s s244 ∧ RdL (rK .i64) s244 a1 c1 p0 ∧ RdL (rK .i64) s244 a22 c22 r19.1 ∧ RowT (rK .i64) s244 (N + 6) 3 a183 c183 l182 ∧ RowT (rP (rK .i64) (rP (rK .i64) (rK .i64))) s244 (N + 7) 28 a242 c242 o240 ∧ Bx s244 (N + 0) b5 #[.int .u8 p1.1, .int .u8 p1.2.1, .int .u8 p1.2.2.1.1, .int .u8 p1.2.2.1.2.1, .int .u8 p1.2.2.1.2.2.1, .int .u8 p1.2.2.1.2.2.2.1, .int .u8 p1.2.2.1.2.2.2.2, .int .u8 p1.2.2.2.1.1, .int .u8 p1.2.2.2.1.2.1, .int .u8 p1.2.2.2.1.2.2.1, .int .u8 p1.2.2.2.1.2.2.2.1, .int .u8 p1.2.2.2.1.2.2.2.2, .int .u8 p1.2.2.2.2.1.1, .int .u8 p1.2.2.2.2.1.2.1, .int .u8 p1.2.2.2.2.1.2.2.1, .int .u8 p1.2.2.2.2.1.2.2.2.1, .int .u8 p1.2.2.2.2.1.2.2.2.2, .int .u8 p1.2.2.2.2.2.1.1, .int .u8 p1.2.2.2.2.2.1.2.1, .int .u8 p1.2.2.2.2.2.1.2.2.1, .int .u8 p1.2.2.2.2.2.1.2.2.2.1, .int .u8 p1.2.2.2.2.2.1.2.2.2.2, .int .u8 p1.2.2.2.2.2.2.1, .int .u8 p1.2.2.2.2.2.2.2.1, .int .u8 p1.2.2.2.2.2.2.2.2.1, .int .u8 p1.2.2.2.2.2.2.2.2.2.1, .int .u8 p1.2.2.2.2.2.2.2.2.2.2] 49 ∧ Bx s244 (N + 1) b8 #[.slice none 0 0, .int .i64 0, .slice none 0 0, .slice none 0 0] 26 ∧ Bx s244 (N + 5) b25 #[.slice a22 r19.1.length c22, .int .i64 (W (1 + (W (p1.1.tmod 5)))), .slice a183 l182.length c183, .slice a242 o240.length c242] 26 ∧ e = [(6, .int .i64 st164.1), (5, .pointer (some ⟨b25, 0, none⟩)), (4, .pointer (some ⟨b8, 0, none⟩)), (3, .pointer (some ⟨b5, 0, none⟩)), (0, .slice a1 p0.length c1)] ∧ w = s244.w) ?_ ?_
    ·rintro _ _ ⟨s244, a242, c242, m0, h1, h22, h183, h242, bx5, bx8, bx25, rfl, rfl⟩
     exact X.blkE (X.blkN (X.seqN (E.reg (L.mv Wt.no rfl rfl (L.bi Wt.no rfl rfl rfl rfl (L.as Wt.no rfl rfl (L.nil (X.sub (ih164 _ (Option.some.inj hm).symm _ _ ⟨s244, a183, c183, a242, c242, m0, h1, h22, h183, h242, bx5, bx8, bx25, rfl, rfl⟩) (Sub.rf rfl)))))))))
    intro K245
    refine E.iter (fun (st240 : Int × (List (Int × Int × Int))) (e : List (Nat × Value)) (w : World) => ∃ (s243 : Sig) (a188 : Option Addr) (c188 : Nat), Mv (Up N No) s s243 ∧ RdL (rK .i64) s243 a1 c1 p0 ∧ RdL (rK .i64) s243 a22 c22 r19.1 ∧ RowT (rK .i64) s243 (N + 6) 3 a183 c183 l182 ∧ RowT (rP (rK .i64) (rP (rK .i64) (rK .i64))) s243 (N + 7) 28 a188 c188 st240.2 ∧ Bx s243 (N + 0) b5 #[.int .u8 p1.1, .int .u8 p1.2.1, .int .u8 p1.2.2.1.1, .int .u8 p1.2.2.1.2.1, .int .u8 p1.2.2.1.2.2.1, .int .u8 p1.2.2.1.2.2.2.1, .int .u8 p1.2.2.1.2.2.2.2, .int .u8 p1.2.2.2.1.1, .int .u8 p1.2.2.2.1.2.1, .int .u8 p1.2.2.2.1.2.2.1, .int .u8 p1.2.2.2.1.2.2.2.1, .int .u8 p1.2.2.2.1.2.2.2.2, .int .u8 p1.2.2.2.2.1.1, .int .u8 p1.2.2.2.2.1.2.1, .int .u8 p1.2.2.2.2.1.2.2.1, .int .u8 p1.2.2.2.2.1.2.2.2.1, .int .u8 p1.2.2.2.2.1.2.2.2.2, .int .u8 p1.2.2.2.2.2.1.1, .int .u8 p1.2.2.2.2.2.1.2.1, .int .u8 p1.2.2.2.2.2.1.2.2.1, .int .u8 p1.2.2.2.2.2.1.2.2.2.1, .int .u8 p1.2.2.2.2.2.1.2.2.2.2, .int .u8 p1.2.2.2.2.2.2.1, .int .u8 p1.2.2.2.2.2.2.2.1, .int .u8 p1.2.2.2.2.2.2.2.2.1, .int .u8 p1.2.2.2.2.2.2.2.2.2.1, .int .u8 p1.2.2.2.2.2.2.2.2.2.2] 49 ∧ Bx s243 (N + 1) b8 #[.slice none 0 0, .int .i64 0, .slice none 0 0, .slice none 0 0] 26 ∧ Bx s243 (N + 5) b25 #[.slice a22 r19.1.length c22, .int .i64 (W (1 + (W (p1.1.tmod 5)))), .slice a183 l182.length c183, .slice a188 st240.2.length c188] 26 ∧ e = [(7, .int .i64 st240.1), (6, .int .i64 st164.1), (5, .pointer (some ⟨b25, 0, none⟩)), (4, .pointer (some ⟨b8, 0, none⟩)), (3, .pointer (some ⟨b5, 0, none⟩)), (0, .slice a1 p0.length c1)] ∧ w = s243.w) eo240 ⟨s184, a36, c36, m0, h1, h22, h183, h36, bx5, bx8, bx25, rfl, rfl⟩ (Sub.rf rfl) ?_
    rintro st240 res240 hm ih240 ho240 _ _ ⟨s243, a188, c188, m0, h1, h22, h183, h188, bx5, bx8, bx25, rfl, rfl⟩
    unfold m_overseerlaw03_Make_l2 at hm
    refine E.seq (E.seq (E.reg (L.mv Wt.no rfl rfl (L.mv Wt.no rfl rfl (L.len sl23 Wt.no rfl rfl (L.bi Wt.no rfl rfl rfl rfl (L.mv Wt.no rfl rfl (L.cut 3 (fun e w => ∃ (v246 : Bool), ((decide (st240.1 < (p0.length : Int))) && (decide (st240.1 < 5))) = v246 ∧ e = (47, .bool v246) :: [(7, .int .i64 st240.1), (6, .int .i64 st164.1), (5, .pointer (some ⟨b25, 0, none⟩)), (4, .pointer (some ⟨b8, 0, none⟩)), (3, .pointer (some ⟨b5, 0, none⟩)), (0, .slice a1 p0.length c1)] ∧ w = s243.w) ?_ ?_))))))))
    ·rintro _ _ ⟨v246, rfl, rfl, rfl⟩
     refine L.nil (X.seqN ?_)
     rcases ifS hm with ⟨hc, hm⟩ | ⟨hc, hm⟩
     ·refine E.cT rfl hc (E.skip (X.seqN (E.seqJ (fun e w => ∃ (s249 : Sig) (l247 : List (Int × Int × Int)) (a248 : Option Addr) (c248 : Nat), m_overseerlaw03_Make_j2 st240 l247 = some res240 ∧ Mv (Up N No) s s249 ∧ RdL (rK .i64) s249 a1 c1 p0 ∧ RdL (rK .i64) s249 a22 c22 r19.1 ∧ RowT (rK .i64) s249 (N + 6) 3 a183 c183 l182 ∧ RowT (rP (rK .i64) (rP (rK .i64) (rK .i64))) s249 (N + 7) 28 a248 c248 l247 ∧ Bx s249 (N + 0) b5 #[.int .u8 p1.1, .int .u8 p1.2.1, .int .u8 p1.2.2.1.1, .int .u8 p1.2.2.1.2.1, .int .u8 p1.2.2.1.2.2.1, .int .u8 p1.2.2.1.2.2.2.1, .int .u8 p1.2.2.1.2.2.2.2, .int .u8 p1.2.2.2.1.1, .int .u8 p1.2.2.2.1.2.1, .int .u8 p1.2.2.2.1.2.2.1, .int .u8 p1.2.2.2.1.2.2.2.1, .int .u8 p1.2.2.2.1.2.2.2.2, .int .u8 p1.2.2.2.2.1.1, .int .u8 p1.2.2.2.2.1.2.1, .int .u8 p1.2.2.2.2.1.2.2.1, .int .u8 p1.2.2.2.2.1.2.2.2.1, .int .u8 p1.2.2.2.2.1.2.2.2.2, .int .u8 p1.2.2.2.2.2.1.1, .int .u8 p1.2.2.2.2.2.1.2.1, .int .u8 p1.2.2.2.2.2.1.2.2.1, .int .u8 p1.2.2.2.2.2.1.2.2.2.1, .int .u8 p1.2.2.2.2.2.1.2.2.2.2, .int .u8 p1.2.2.2.2.2.2.1, .int .u8 p1.2.2.2.2.2.2.2.1, .int .u8 p1.2.2.2.2.2.2.2.2.1, .int .u8 p1.2.2.2.2.2.2.2.2.2.1, .int .u8 p1.2.2.2.2.2.2.2.2.2.2] 49 ∧ Bx s249 (N + 1) b8 #[.slice none 0 0, .int .i64 0, .slice none 0 0, .slice none 0 0] 26 ∧ Bx s249 (N + 5) b25 #[.slice a22 r19.1.length c22, .int .i64 (W (1 + (W (p1.1.tmod 5)))), .slice a183 l182.length c183, .slice a248 l247.length c248] 26 ∧ e = [(7, .int .i64 st240.1), (6, .int .i64 st164.1), (5, .pointer (some ⟨b25, 0, none⟩)), (4, .pointer (some ⟨b8, 0, none⟩)), (3, .pointer (some ⟨b5, 0, none⟩)), (0, .slice a1 p0.length c1)] ∧ w = s249.w) ?_ ?_)))
      ·rintro _ _ ⟨s249, l247, a248, c248, hm, m0, h1, h22, h183, h248, bx5, bx8, bx25, rfl, rfl⟩
       unfold m_overseerlaw03_Make_j2 at hm
       exact E.reg (L.mv Wt.no rfl rfl (L.bi Wt.no rfl rfl rfl rfl (L.as Wt.no rfl rfl (L.nil (X.sub (ih240 _ (Option.some.inj hm).symm _ _ ⟨s249, a248, c248, m0, h1, h22, h183, h248, bx5, bx8, bx25, rfl, rfl⟩) (Sub.rf rfl))))))
      ·intro Jj250
       refine E.block (E.seq ?_)
       obtain ⟨_, z255, hm⟩ := bindS hm
       obtain ⟨_, z257, hm⟩ := bindS hm
       obtain ⟨x259, ex259, hm⟩ := bindS hm
       obtain ⟨_, z265, hm⟩ := bindS hm
       refine E.draw [[], [], [], [0, 2], [0, 1, 2, 3], [0, 1, 2, 3, 4], [0, 1, 2, 3, 4, 5], [], [7], [7, 8], [0, 1, 2, 3, 4, 5, 6, 7, 8, 9], [0, 1, 2, 3, 4, 5, 6, 7, 8, 9, 10]] (fun D e sx => Mv No s243 sx ∧ Sub [(7, .int .i64 st240.1), (6, .int .i64 st164.1), (5, .pointer (some ⟨b25, 0, none⟩)), (4, .pointer (some ⟨b8, 0, none⟩)), (3, .pointer (some ⟨b5, 0, none⟩)), (0, .slice a1 p0.length c1)] e ∧ (D 0 = true → (Env.get e 50 = some (.int .i64 st164.1))) ∧ (D 1 = true → (Env.get e 51 = some (.int .i64 st240.1))) ∧ (D 2 = true → (Env.get e 52 = some (.pointer (some ⟨b5, 2, none⟩)))) ∧ (D 3 = true → (Env.get e 53 = some (.pointer (some ⟨b5, 2 + st164.1.toNat * 5, none⟩)))) ∧ (D 4 = true → (Env.get e 54 = some (.pointer (some ⟨b5, 2 + st164.1.toNat * 5 + st240.1.toNat * 1, none⟩)))) ∧ (D 5 = true → (Env.get e 55 = some (.int .u8 x259))) ∧ (D 6 = true → (Env.get e 56 = some (.int .i64 (W x259)))) ∧ (D 7 = true → (Env.get e 57 = some (.pointer (some ⟨b25, 1, none⟩)))) ∧ (D 8 = true → (Env.get e 58 = some (.int .i64 (W (1 + (W (p1.1.tmod 5))))))) ∧ (D 9 = true → (Env.get e 59 = some (.int .i64 (W ((W (1 + (W (p1.1.tmod 5)))) + 2))))) ∧ (D 10 = true → (Env.get e 60 = some (.int .i64 ((W x259).tmod (W ((W (1 + (W (p1.1.tmod 5)))) + 2)))))) ∧ (D 11 = true → (Env.get e 8 = some (.int .i64 ((W x259).tmod (W ((W (1 + (W (p1.1.tmod 5)))) + 2))))))) (by kernel_rfl) (by kernel_rfl) (by kernel_rfl) ?_ ?_ ?_
       ·intro sz mz
        exact ⟨mz, (Sub.rf rfl), nofun, nofun, nofun, nofun, nofun, nofun, nofun, nofun, nofun, nofun, nofun, nofun⟩
       ·refine ⟨?_, ?_, ?_, ?_, ?_, ?_, ?_, ?_, ?_, ?_, ?_, ?_, trivial⟩
        ·rintro D e s251 ⟨im, ib, i0, t_⟩ hk hf ha
         have kn : Kn e [(6, .int .i64 st164.1)] := ⟨(ib 6 _ rfl), trivial⟩
         exact L.kns _ kn (L.mv Wt.no rfl rfl (L.nil (X.dk kn ⟨im, Sub.fresh ib rfl, fun _ => rfl, t_⟩)))
        ·rintro D e s252 ⟨im, ib, i0, i1, t_⟩ hk hf ha
         have kn : Kn e [(7, .int .i64 st240.1)] := ⟨(ib 7 _ rfl), trivial⟩
         exact L.kns _ kn (L.mv Wt.no rfl rfl (L.nil (X.dk kn ⟨im, Sub.fresh ib rfl, i0, fun _ => rfl, t_⟩)))
        ·rintro D e s253 ⟨im, ib, i0, i1, i2, t_⟩ hk hf ha
         have kn : Kn e [(3, .pointer (some ⟨b5, 0, none⟩))] := ⟨(ib 3 _ rfl), trivial⟩
         exact L.kns _ kn (L.fa fa49_2 Wt.no rfl rfl (L.nil (X.dk kn ⟨im, Sub.fresh ib rfl, i0, i1, fun _ => rfl, t_⟩)))
        ·rintro D e s254 ⟨im, ib, i0, i1, i2, i3, t_⟩ hk hf ha
         obtain ⟨d0, d2, -⟩ := ha
         have g0_ := i0 d0
         have g2_ := i2 d2
         have kn : Kn e [(52, .pointer (some ⟨b5, 2, none⟩)), (50, .int .i64 st164.1)] := ⟨g2_, g0_, trivial⟩
         exact L.kns _ kn (L.ia ia47 Wt.no rfl rfl (rng_some z255) rfl (L.nil (X.dk kn ⟨im, Sub.fresh ib rfl, i0, i1, i2, fun _ => rfl, t_⟩)))
        ·rintro D e s256 ⟨im, ib, i0, i1, i2, i3, i4, t_⟩ hk hf ha
         obtain ⟨d0, d1, d2, d3, -⟩ := ha
         have g1_ := i1 d1
         have g3_ := i3 d3
         have kn : Kn e [(53, .pointer (some ⟨b5, 2 + st164.1.toNat * 5, none⟩)), (51, .int .i64 st240.1)] := ⟨g3_, g1_, trivial⟩
         exact L.kns _ kn (L.ia ia46 Wt.no rfl rfl (rng_some z257) rfl (L.nil (X.dk kn ⟨im, Sub.fresh ib rfl, i0, i1, i2, i3, fun _ => rfl, t_⟩)))
        ·rintro D e s258 ⟨im, ib, i0, i1, i2, i3, i4, i5, t_⟩ hk hf ha
         obtain ⟨d0, d1, d2, d3, d4, -⟩ := ha
         have g4_ := i4 d4
         have bx5 := bx5.mv im no_No
         have kn : Kn e [(54, .pointer (some ⟨b5, 2 + st164.1.toNat * 5 + st240.1.toNat * 1, none⟩))] := ⟨g4_, trivial⟩
         exact L.kns _ kn (L.ld (j := st164.1.toNat * 5 + st240.1.toNat * 1) (c := [.int .u8 p1.2.2.1.1, .int .u8 p1.2.2.1.2.1, .int .u8 p1.2.2.1.2.2.1, .int .u8 p1.2.2.1.2.2.2.1, .int .u8 p1.2.2.1.2.2.2.2, .int .u8 p1.2.2.2.1.1, .int .u8 p1.2.2.2.1.2.1, .int .u8 p1.2.2.2.1.2.2.1, .int .u8 p1.2.2.2.1.2.2.2.1, .int .u8 p1.2.2.2.1.2.2.2.2, .int .u8 p1.2.2.2.2.1.1, .int .u8 p1.2.2.2.2.1.2.1, .int .u8 p1.2.2.2.2.1.2.2.1, .int .u8 p1.2.2.2.2.1.2.2.2.1, .int .u8 p1.2.2.2.2.1.2.2.2.2, .int .u8 p1.2.2.2.2.2.1.1, .int .u8 p1.2.2.2.2.2.1.2.1, .int .u8 p1.2.2.2.2.2.1.2.2.1, .int .u8 p1.2.2.2.2.2.1.2.2.2.1, .int .u8 p1.2.2.2.2.2.1.2.2.2.2, .int .u8 p1.2.2.2.2.2.2.1, .int .u8 p1.2.2.2.2.2.2.2.1, .int .u8 p1.2.2.2.2.2.2.2.2.1, .int .u8 p1.2.2.2.2.2.2.2.2.2.1, .int .u8 p1.2.2.2.2.2.2.2.2.2.2]) (v := Value.int .u8 x259) (Mem.sub bx5.mem 2 25 (Nat.le_of_ble_eq_true rfl)) nag5 Wt.no rfl (by omega) (show [Value.int .u8 p1.2.2.1.1, Value.int .u8 p1.2.2.1.2.1, Value.int .u8 p1.2.2.1.2.2.1, Value.int .u8 p1.2.2.1.2.2.2.1, Value.int .u8 p1.2.2.1.2.2.2.2, Value.int .u8 p1.2.2.2.1.1, Value.int .u8 p1.2.2.2.1.2.1, Value.int .u8 p1.2.2.2.1.2.2.1, Value.int .u8 p1.2.2.2.1.2.2.2.1, Value.int .u8 p1.2.2.2.1.2.2.2.2, Value.int .u8 p1.2.2.2.2.1.1, Value.int .u8 p1.2.2.2.2.1.2.1, Value.int .u8 p1.2.2.2.2.1.2.2.1, Value.int .u8 p1.2.2.2.2.1.2.2.2.1, Value.int .u8 p1.2.2.2.2.1.2.2.2.2, Value.int .u8 p1.2.2.2.2.2.1.1, Value.int .u8 p1.2.2.2.2.2.1.2.1, Value.int .u8 p1.2.2.2.2.2.1.2.2.1, Value.int .u8 p1.2.2.2.2.2.1.2.2.2.1, Value.int .u8 p1.2.2.2.2.2.1.2.2.2.2, Value.int .u8 p1.2.2.2.2.2.2.1, Value.int .u8 p1.2.2.2.2.2.2.2.1, Value.int .u8 p1.2.2.2.2.2.2.2.2.1, Value.int .u8 p1.2.2.2.2.2.2.2.2.2.1, Value.int .u8 p1.2.2.2.2.2.2.2.2.2.2][st164.1.toNat * 5 + st240.1.toNat * 1]? = some (Value.int .u8 x259) from getMap (f := fun z => Value.int .u8 z) ex259) rfl (L.nil (X.dk kn ⟨im, Sub.fresh ib rfl, i0, i1, i2, i3, i4, fun _ => rfl, t_⟩)))
        ·rintro D e s260 ⟨im, ib, i0, i1, i2, i3, i4, i5, i6, t_⟩ hk hf ha
         obtain ⟨d0, d1, d2, d3, d4, d5, -⟩ := ha
         have g5_ := i5 d5
         have kn : Kn e [(55, .int .u8 x259)] := ⟨g5_, trivial⟩
         exact L.kns _ kn (L.cv Try.underlying5 Try.underlying3 Wt.no rfl rfl (L.nil (X.dk kn ⟨im, Sub.fresh ib rfl, i0, i1, i2, i3, i4, i5, fun _ => rfl, t_⟩)))
        ·rintro D e s261 ⟨im, ib, i0, i1, i2, i3, i4, i5, i6, i7, t_⟩ hk hf ha
         have kn : Kn e [(5, .pointer (some ⟨b25, 0, none⟩))] := ⟨(ib 5 _ rfl), trivial⟩
         exact L.kns _ kn (L.fa fa26_1 Wt.no rfl rfl (L.nil (X.dk kn ⟨im, Sub.fresh ib rfl, i0, i1, i2, i3, i4, i5, i6, fun _ => rfl, t_⟩)))
        ·rintro D e s262 ⟨im, ib, i0, i1, i2, i3, i4, i5, i6, i7, i8, t_⟩ hk hf ha
         obtain ⟨d7, -⟩ := ha
         have g7_ := i7 d7
         have bx25 := bx25.mv im no_No
         have kn : Kn e [(57, .pointer (some ⟨b25, 1, none⟩))] := ⟨g7_, trivial⟩
         exact L.kns _ kn (L.ld (j := 1) bx25.mem nag3 Wt.no rfl rfl rfl rfl (L.nil (X.dk kn ⟨im, Sub.fresh ib rfl, i0, i1, i2, i3, i4, i5, i6, i7, fun _ => rfl, t_⟩)))
        ·rintro D e s263 ⟨im, ib, i0, i1, i2, i3, i4, i5, i6, i7, i8, i9, t_⟩ hk hf ha
         obtain ⟨d7, d8, -⟩ := ha
         have g8_ := i8 d8
         have kn : Kn e [(58, .int .i64 (W (1 + (W (p1.1.tmod 5)))))] := ⟨g8_, trivial⟩
         exact L.kns _ kn (L.bi Wt.no rfl rfl rfl rfl (L.nil (X.dk kn ⟨im, Sub.fresh ib rfl, i0, i1, i2, i3, i4, i5, i6, i7, i8, fun _ => rfl, t_⟩)))
        ·rintro D e s264 ⟨im, ib, i0, i1, i2, i3, i4, i5, i6, i7, i8, i9, i10, i11⟩ hk hf ha
         obtain ⟨d0, d1, d2, d3, d4, d5, d6, d7, d8, d9, -⟩ := ha
         have g6_ := i6 d6
         have g9_ := i9 d9
         have kn : Kn e [(56, .int .i64 (W x259)), (59, .int .i64 (W ((W (1 + (W (p1.1.tmod 5)))) + 2)))] := ⟨g6_, g9_, trivial⟩
         exact L.kns _ kn (L.rem Wt.no rfl rfl (nz_some z265) rfl (L.nil (X.dk kn ⟨im, Sub.fresh ib rfl, i0, i1, i2, i3, i4, i5, i6, i7, i8, i9, fun _ => rfl, i11⟩)))
        ·rintro D e s266 ⟨im, ib, i0, i1, i2, i3, i4, i5, i6, i7, i8, i9, i10, i11⟩ hk hf ha
         obtain ⟨d0, d1, d2, d3, d4, d5, d6, d7, d8, d9, d10, -⟩ := ha
         have g10_ := i10 d10
         have kn : Kn e [(60, .int .i64 ((W x259).tmod (W ((W (1 + (W (p1.1.tmod 5)))) + 2))))] := ⟨g10_, trivial⟩
         exact L.kns _ kn (L.as Wt.no rfl rfl (L.nil (X.dk kn ⟨im, Sub.fresh ib rfl, i0, i1, i2, i3, i4, i5, i6, i7, i8, i9, i10, fun _ => rfl⟩)))
       ·rintro D e s267 hD ⟨im, ib, i0, i1, i2, i3, i4, i5, i6, i7, i8, i9, i10, i11⟩
        have g11_ := i11 (hD 11 rfl)
        have bx25 := bx25.mv im no_No
        have h22 := h22.mono (im.le no_No)
        have h183 := h183.mv im no_No no_No
        have h188 := h188.mv im no_No no_No
        have bx8 := bx8.mv im no_No
        have bx5 := bx5.mv im no_No
        have h1 := h1.mono (im.le no_No)
        have m0 := m0.trans im.no
        refine X.sub (e' := [(8, .int .i64 ((W x259).tmod (W ((W (1 + (W (p1.1.tmod 5)))) + 2)))), (7, .int .i64 st240.1), (6, .int .i64 st164.1), (5, .pointer (some ⟨b25, 0, none⟩)), (4, .pointer (some ⟨b8, 0, none⟩)), (3, .pointer (some ⟨b5, 0, none⟩)), (0, .slice a1 p0.length c1)]) ?_ (Sub.cons g11_ (Sub.cons (ib 7 _ rfl) (Sub.cons (ib 6 _ rfl) (Sub.cons (ib 5 _ rfl) (Sub.cons (ib 4 _ rfl) (Sub.cons (ib 3 _ rfl) (Sub.cons (ib 0 _ rfl) Sub.nil)))))))
        refine X.seqN (E.seq (E.reg (L.mv Wt.no rfl rfl (L.fa fa26_1 Wt.no rfl rfl (L.ld (j := 1) bx25.mem nag3 Wt.no rfl rfl rfl rfl (L.bi Wt.no rfl rfl rfl rfl (L.nil (X.seqN ?_))))))))
        rcases ifS hm with ⟨hc, hm⟩ | ⟨hc, hm⟩
        ·refine E.cT rfl hc ?_
         obtain ⟨x274, ex274, hm⟩ := bindS hm
         obtain ⟨x284, ex284, hm⟩ := bindS hm
         refine E.draw [[], [0], [], [], [], [3, 4], [3, 4, 5], [], [2, 3, 4, 5, 6, 7], [2, 3, 4, 5, 6, 7, 8], [0, 1, 2, 3, 4, 5, 6, 7, 8, 9], [0, 1, 2, 3, 4, 5, 6, 7, 8, 9, 10], [0, 1, 2, 3, 4, 5, 6, 7, 8, 9, 10, 11]] (fun D e sx => Mv (fun t => t = (N + 5) ∨ t = (N + 7)) s267 sx ∧ Sub [(8, .int .i64 ((W x259).tmod (W ((W (1 + (W (p1.1.tmod 5)))) + 2)))), (7, .int .i64 st240.1), (6, .int .i64 st164.1), (5, .pointer (some ⟨b25, 0, none⟩)), (4, .pointer (some ⟨b8, 0, none⟩)), (3, .pointer (some ⟨b5, 0, none⟩)), (0, .slice a1 p0.length c1)] e ∧ (D 0 = true → (Env.get e 65 = some (.pointer (some ⟨b25, 3, none⟩)))) ∧ (D 1 = true → (Env.get e 66 = some (.slice a188 st240.2.length c188))) ∧ (D 2 = true → (Env.get e 67 = some (.int .i64 st164.1))) ∧ (D 3 = true → (Env.get e 68 = some (.slice a1 p0.length c1))) ∧ (D 4 = true → (Env.get e 69 = some (.int .i64 st240.1))) ∧ (D 5 = true → (∃ (b275 : Nat) (o275 : Nat), Env.get e 70 = some (.pointer (some ⟨b275, o275, none⟩)) ∧ Mem sx 0 b275 o275 [.int .i64 x274])) ∧ (D 6 = true → (Env.get e 71 = some (.int .i64 x274))) ∧ (D 7 = true → (Env.get e 72 = some (.int .i64 ((W x259).tmod (W ((W (1 + (W (p1.1.tmod 5)))) + 2)))))) ∧ (D 8 = true → (Env.get e 73 = some (.agg #[.int .i64 st164.1, .int .i64 x274, .int .i64 ((W x259).tmod (W ((W (1 + (W (p1.1.tmod 5)))) + 2)))]))) ∧ (D 9 = true → (∃ (b280 : Nat), Env.get e 74 = some (.slice (some ⟨b280, 0, none⟩) ([(st164.1, x274, ((W x259).tmod (W ((W (1 + (W (p1.1.tmod 5)))) + 2))))] : List (Int × Int × Int)).length (([(st164.1, x274, ((W x259).tmod (W ((W (1 + (W (p1.1.tmod 5)))) + 2))))] : List (Int × Int × Int)).length)) ∧ RdL (rP (rK .i64) (rP (rK .i64) (rK .i64))) sx (some ⟨b280, 0, none⟩) (([(st164.1, x274, ((W x259).tmod (W ((W (1 + (W (p1.1.tmod 5)))) + 2))))] : List (Int × Int × Int)).length) ([(st164.1, x274, ((W x259).tmod (W ((W (1 + (W (p1.1.tmod 5)))) + 2))))] : List (Int × Int × Int)))) ∧ (D 10 = true → (∃ (a285 : Option Addr) (c285 : Nat), Env.get e 75 = some (.slice a285 x284.length c285))) ∧ (D 11 = true → (Env.get e 76 = some (.pointer (some ⟨b25, 3, none⟩)))) ∧ (D 12 = false → Bx sx (N + 5) b25 #[.slice a22 r19.1.length c22, .int .i64 (W (1 + (W (p1.1.tmod 5)))), .slice a183 l182.length c183, .slice a188 st240.2.length c188] 26) ∧ (D 12 = true → ∀ (a285 : Option Addr) (c285 : Nat), Env.get e 75 = some (.slice a285 x284.length c285) → Bx sx (N + 5) b25 #[.slice a22 r19.1.length c22, .int .i64 (W (1 + (W (p1.1.tmod 5)))), .slice a183 l182.length c183, .slice a285 x284.length c285] 26) ∧ (D 10 = false → RowT (rP (rK .i64) (rP (rK .i64) (rK .i64))) sx (N + 7) 28 a188 c188 st240.2) ∧ (D 10 = true → ∀ (a285 : Option Addr) (c285 : Nat), Env.get e 75 = some (.slice a285 x284.length c285) → RowT (rP (rK .i64) (rP (rK .i64) (rK .i64))) sx (N + 7) 28 a285 c285 x284)) (by kernel_rfl) (by kernel_rfl) (by kernel_rfl) ?_ ?_ ?_
         ·intro sz mz
          exact ⟨mz.no, (Sub.rf rfl), nofun, nofun, nofun, nofun, nofun, nofun, nofun, nofun, nofun, nofun, nofun, nofun, fun _ => bx25.mv mz no_No, nofun, fun _ => h188.mv mz no_No no_No, nofun⟩
         ·refine ⟨?_, ?_, ?_, ?_, ?_, ?_, ?_, ?_, ?_, ?_, ?_, ?_, ?_, trivial⟩
          ·rintro D e s268 ⟨im, ib, i0, t_⟩ hk hf ha
           have kn : Kn e [(5, .pointer (some ⟨b25, 0, none⟩))] := ⟨(ib 5 _ rfl), trivial⟩
           exact L.kns _ kn (L.fa fa26_3 Wt.no rfl rfl (L.nil (X.dk kn ⟨im, Sub.fresh ib rfl, fun _ => rfl, t_⟩)))
          ·rintro D e s269 ⟨im, ib, i0, i1, i2, i3, i4, i5, i6, i7, i8, i9, i10, i11, i12, t_⟩ hk hf ha
           obtain ⟨d0, -⟩ := ha
           have g0_ := i0 d0
           obtain bx25 := i12 (hf 12 (Nat.le_of_ble_eq_true rfl) rfl)
           have kn : Kn e [(65, .pointer (some ⟨b25, 3, none⟩))] := ⟨g0_, trivial⟩
           exact L.kns _ kn (L.ld (j := 3) bx25.mem nag24 Wt.no rfl rfl rfl rfl (L.nil (X.dk kn ⟨im, Sub.fresh ib rfl, i0, fun _ => rfl, i2, i3, i4, i5, i6, i7, i8, i9, i10, i11, i12, t_⟩)))
          ·rintro D e s270 ⟨im, ib, i0, i1, i2, t_⟩ hk hf ha
           have kn : Kn e [(6, .int .i64 st164.1)] := ⟨(ib 6 _ rfl), trivial⟩
           exact L.kns _ kn (L.mv Wt.no rfl rfl (L.nil (X.dk kn ⟨im, Sub.fresh ib rfl, i0, i1, fun _ => rfl, t_⟩)))
          ·rintro D e s271 ⟨im, ib, i0, i1, i2, i3, t_⟩ hk hf ha
           have kn : Kn e [(0, .slice a1 p0.length c1)] := ⟨(ib 0 _ rfl), trivial⟩
           exact L.kns _ kn (L.mv Wt.no rfl rfl (L.nil (X.dk kn ⟨im, Sub.fresh ib rfl, i0, i1, i2, fun _ => rfl, t_⟩)))
          ·rintro D e s272 ⟨im, ib, i0, i1, i2, i3, i4, t_⟩ hk hf ha
           have kn : Kn e [(7, .int .i64 st240.1)] := ⟨(ib 7 _ rfl), trivial⟩
           exact L.kns _ kn (L.mv Wt.no rfl rfl (L.nil (X.dk kn ⟨im, Sub.fresh ib rfl, i0, i1, i2, i3, fun _ => rfl, t_⟩)))
          ·rintro D e s273 ⟨im, ib, i0, i1, i2, i3, i4, i5, t_⟩ hk hf ha
           obtain ⟨d3, d4, -⟩ := ha
           have g3_ := i3 d3
           have g4_ := i4 d4
           have h1 := h1.mono (im.le (nor (tg0 hN) (tg0 hN)))
           have kn : Kn e [(68, .slice a1 p0.length c1), (69, .int .i64 st240.1)] := ⟨g3_, g4_, trivial⟩
           refine L.kns _ kn (L.ix (r := (rK .i64)) sl23 h1 Wt.no rfl rfl ex274 rfl fun b275 o275 cc275 me275 rd275 => ?_)
           obtain rfl := rd275
           exact L.nil (X.dk kn ⟨im, Sub.fresh ib rfl, i0, i1, i2, i3, i4, fun _ => ⟨b275, o275, rfl, me275⟩, t_⟩)
          ·rintro D e s276 ⟨im, ib, i0, i1, i2, i3, i4, i5, i6, t_⟩ hk hf ha
           obtain ⟨d3, d4, d5, -⟩ := ha
           obtain ⟨b275, o275, g5_, me275⟩ := i5 d5
           have kn : Kn e [(70, .pointer (some ⟨b275, o275, none⟩))] := ⟨g5_, trivial⟩
           exact L.kns _ kn (L.ld (j := 0) me275 nag3 Wt.no rfl rfl rfl rfl (L.nil (X.dk kn ⟨im, Sub.fresh ib rfl, i0, i1, i2, i3, i4, i5, fun _ => rfl, t_⟩)))
          ·rintro D e s277 ⟨im, ib, i0, i1, i2, i3, i4, i5, i6, i7, t_⟩ hk hf ha
           have kn : Kn e [(8, .int .i64 ((W x259).tmod (W ((W (1 + (W (p1.1.tmod 5)))) + 2))))] := ⟨(ib 8 _ rfl), trivial⟩
           exact L.kns _ kn (L.mv Wt.no rfl rfl (L.nil (X.dk kn ⟨im, Sub.fresh ib rfl, i0, i1, i2, i3, i4, i5, i6, fun _ => rfl, t_⟩)))
          ·rintro D e s278 ⟨im, ib, i0, i1, i2, i3, i4, i5, i6, i7, i8, t_⟩ hk hf ha
           obtain ⟨d2, d3, d4, d5, d6, d7, -⟩ := ha
           have g2_ := i2 d2
           have g6_ := i6 d6
           have g7_ := i7 d7
           have kn : Kn e [(67, .int .i64 st164.1), (71, .int .i64 x274), (72, .int .i64 ((W x259).tmod (W ((W (1 + (W (p1.1.tmod 5)))) + 2))))] := ⟨g2_, g6_, g7_, trivial⟩
           exact L.kns _ kn (L.bu (cs := [.int .i64 st164.1, .int .i64 x274, .int .i64 ((W x259).tmod (W ((W (1 + (W (p1.1.tmod 5)))) + 2)))]) pl28 Wt.no rfl rfl rfl (L.nil (X.dk kn ⟨im, Sub.fresh ib rfl, i0, i1, i2, i3, i4, i5, i6, i7, fun _ => rfl, t_⟩)))
          ·rintro D e s279 ⟨im, ib, i0, i1, i2, i3, i4, i5, i6, i7, i8, i9, i10, i11, i12, i13, i14, i15⟩ hk hf ha
           obtain ⟨d2, d3, d4, d5, d6, d7, d8, -⟩ := ha
           have g8_ := i8 d8
           have kn : Kn e [(73, .agg #[.int .i64 st164.1, .int .i64 x274, .int .i64 ((W x259).tmod (W ((W (1 + (W (p1.1.tmod 5)))) + 2)))])] := ⟨g8_, trivial⟩
           refine L.kns _ kn (L.bsE (k := 1) (cs := [.int .i64 st164.1, .int .i64 x274, .int .i64 ((W x259).tmod (W ((W (1 + (W (p1.1.tmod 5)))) + 2)))]) 0 bs24 (Nat.le_of_ble_eq_true rfl) Wt.no rfl rfl rfl rfl fun b280 s281 m282 bx280 => ?_)
           have h280 := Bx.rdL (r := (rP (rK .i64) (rP (rK .i64) (rK .i64)))) (xs := ([(st164.1, x274, ((W x259).tmod (W ((W (1 + (W (p1.1.tmod 5)))) + 2))))] : List (Int × Int × Int))) bx280 ⟨[.int .i64 st164.1, .int .i64 x274, .int .i64 ((W x259).tmod (W ((W (1 + (W (p1.1.tmod 5)))) + 2)))], _, rfl, ⟨[.int .i64 st164.1], [.int .i64 x274, .int .i64 ((W x259).tmod (W ((W (1 + (W (p1.1.tmod 5)))) + 2)))], rfl, rfl, ⟨[.int .i64 x274], [.int .i64 ((W x259).tmod (W ((W (1 + (W (p1.1.tmod 5)))) + 2)))], rfl, rfl, rfl⟩⟩, rfl⟩ (Nat.le_of_ble_eq_true rfl)
           exact L.nil (X.dk kn ⟨im.trans m282.no, Sub.fresh ib rfl, i0, i1, i2, i3, i4, fun z => let ⟨b275, o275, q, me275⟩ := i5 z; ⟨b275, o275, q, (me275.mv m282 no_No)⟩, i6, i7, i8, fun _ => ⟨b280, rfl, h280⟩, i10, i11, fun z2 => ((i12 z2).mv m282 no_No), fun z a285 c285 q10 => ((i13 z a285 c285 q10).mv m282 no_No), fun z2 => ((i14 z2).mv m282 no_No no_No), fun z a285 c285 q10 => ((i15 z a285 c285 q10).mv m282 no_No no_No)⟩)
          ·rintro D e s283 ⟨im, ib, i0, i1, i2, i3, i4, i5, i6, i7, i8, i9, i10, i11, i12, i13, i14, i15⟩ hk hf ha
           obtain ⟨d0, d1, d2, d3, d4, d5, d6, d7, d8, d9, -⟩ := ha
           have g1_ := i1 d1
           obtain ⟨b280, g9_, h280⟩ := i9 d9
           obtain h188 := i14 hk
           have kn : Kn e [(66, .slice a188 st240.2.length c188), (74, .slice (some ⟨b280, 0, none⟩) ([(st164.1, x274, ((W x259).tmod (W ((W (1 + (W (p1.1.tmod 5)))) + 2))))] : List (Int × Int × Int)).length (([(st164.1, x274, ((W x259).tmod (W ((W (1 + (W (p1.1.tmod 5)))) + 2))))] : List (Int × Int × Int)).length))] := ⟨g1_, g9_, trivial⟩
           exact L.kns _ kn (L.ap (r := (rP (rK .i64) (rP (rK .i64) (rK .i64)))) Try.underlying24 el28 rfl (tgp hN) h188 h280.wk Wt.no rfl rfl ex284 rfl fun a285 c285 s286 m287 h285 => L.nil (X.dk kn ⟨im.trans (m287.one (.inr rfl)), Sub.fresh ib rfl, i0, i1, i2, i3, i4, fun z => let ⟨b275, o275, q, me275⟩ := i5 z; ⟨b275, o275, q, (me275.mv m287 (tg0 hN))⟩, i6, i7, i8, fun z => let ⟨b280, q, h280⟩ := i9 z; ⟨b280, q, (h280.mono (m287.le (tg0 hN)))⟩, fun _ => ⟨a285, c285, rfl⟩, i11, fun z2 => ((i12 z2).mv m287 (tgN (by decide))), fun z => Bool.noConfusion ((hf 12 (Nat.le_of_ble_eq_true rfl) rfl).symm.trans z), fun z => Bool.noConfusion (show true = false from z), fun _ _ _ q10 => by cases (show some (.slice a285 x284.length c285 : Value) = some _ from q10); exact h285⟩))
          ·rintro D e s288 ⟨im, ib, i0, i1, i2, i3, i4, i5, i6, i7, i8, i9, i10, i11, t_⟩ hk hf ha
           obtain ⟨d0, d1, d2, d3, d4, d5, d6, d7, d8, d9, d10, -⟩ := ha
           have kn : Kn e [(5, .pointer (some ⟨b25, 0, none⟩))] := ⟨(ib 5 _ rfl), trivial⟩
           exact L.kns _ kn (L.fa fa26_3 Wt.no rfl rfl (L.nil (X.dk kn ⟨im, Sub.fresh ib rfl, i0, i1, i2, i3, i4, i5, i6, i7, i8, i9, i10, fun _ => rfl, t_⟩)))
          ·rintro D e s289 ⟨im, ib, i0, i1, i2, i3, i4, i5, i6, i7, i8, i9, i10, i11, i12, i13, i14, i15⟩ hk hf ha
           obtain ⟨d0, d1, d2, d3, d4, d5, d6, d7, d8, d9, d10, d11, -⟩ := ha
           obtain ⟨a285, c285, g10_⟩ := i10 d10
           have g11_ := i11 d11
           obtain bx25 := i12 hk
           have kn : Kn e [(76, .pointer (some ⟨b25, 3, none⟩)), (75, .slice a285 x284.length c285)] := ⟨g11_, g10_, trivial⟩
           exact L.kns _ kn (L.st (c := [.slice a285 x284.length c285]) (cs' := #[.slice a22 r19.1.length c22, .int .i64 (W (1 + (W (p1.1.tmod 5)))), .slice a183 l182.length c183, .slice a285 x284.length c285]) bx25 nag24.sz Wt.no rfl rfl rfl rfl rfl (Nat.le_of_ble_eq_true rfl) rfl fun s290 m291 bx25 => L.nil (X.dn kn ⟨im.trans (m291.one (.inl rfl)), ib, i0, i1, i2, i3, i4, fun z => let ⟨b275, o275, q, me275⟩ := i5 z; ⟨b275, o275, q, (me275.mv m291 (tg0 hN))⟩, i6, i7, i8, fun z => let ⟨b280, q, h280⟩ := i9 z; ⟨b280, q, (h280.mono (m291.le (tg0 hN)))⟩, i10, i11, fun z => Bool.noConfusion (show true = false from z), fun _ _ _ q10 => by cases g10_.symm.trans q10; exact bx25, fun z2 => ((i14 z2).mv m291 (tgN (by decide)) (tg0 hN)), fun z a285 c285 q10 => ((i15 z a285 c285 q10).mv m291 (tgN (by decide)) (tg0 hN))⟩))
         ·rintro D e s292 hD ⟨im, ib, i0, i1, i2, i3, i4, i5, i6, i7, i8, i9, i10, i11, i12, i13, i14, i15⟩
          obtain ⟨a285, c285, g10_⟩ := i10 (hD 10 rfl)
          obtain bx25 := i13 (hD 12 rfl) a285 c285 g10_
          obtain h285 := i15 (hD 10 rfl) a285 c285 g10_
          have h22 := h22.mono (im.le (nor (tg0 hN) (tg0 hN)))
          have h183 := h183.mv im (nor (tgN (by decide)) (tgN (by decide))) (nor (tg0 hN) (tg0 hN))
          have bx8 := bx8.mv im (nor (tgN (by decide)) (tgN (by decide)))
          have bx5 := bx5.mv im (nor (tgN (by decide)) (tgN (by decide)))
          have h1 := h1.mono (im.le (nor (tg0 hN) (tg0 hN)))
          have m0 := m0.trans (im.weak fun _ e => by rcases e with e | e; (rw [e]; exact up); (rw [e]; exact up))
          refine X.sub (e' := [(7, .int .i64 st240.1), (6, .int .i64 st164.1), (5, .pointer (some ⟨b25, 0, none⟩)), (4, .pointer (some ⟨b8, 0, none⟩)), (3, .pointer (some ⟨b5, 0, none⟩)), (0, .slice a1 p0.length c1)]) ?_ (Sub.cons (ib 7 _ rfl) (Sub.cons (ib 6 _ rfl) (Sub.cons (ib 5 _ rfl) (Sub.cons (ib 4 _ rfl) (Sub.cons (ib 3 _ rfl) (Sub.cons (ib 0 _ rfl) Sub.nil))))))
          exact X.blkN (X.sub (Jj250 _ _ ⟨s292, x284, a285, c285, hm, m0, h1, h22, h183, h285, bx5, bx8, bx25, rfl, rfl⟩) (Sub.rf rfl))
        ·exact E.cF rfl hc (E.skip (X.blkN (X.sub (Jj250 _ _ ⟨s267, st240.2, a188, c188, hm, m0, h1, h22, h183, h188, bx5, bx8, bx25, rfl, rfl⟩) (Sub.rf rfl))))
     ·refine E.cF rfl hc (E.exit (X.seqX (X.seqX ?_)))
      have hx := ho240 _ (Option.some.inj hm).symm
      subst hx
      exact X.sub (K245 _ _ ⟨s243, a188, c188, m0, h1, h22, h183, h188, bx5, bx8, bx25, rfl, rfl⟩) (Sub.rf rfl)
    ·intro J293
     rcases Bool.eq_false_or_eq_true (decide (st240.1 < (p0.length : Int))) with hc | hc
     ·exact L.know (d := 44) rfl hc (L.mv (Wt.mk rfl rfl) rfl rfl (L.bi (Wt.mk rfl rfl) rfl rfl rfl rfl (L.pkT Wt.no rfl rfl rfl rfl (L.sb (J293 _ _ ⟨(decide (st240.1 < 5)), (andT hc).symm, rfl, rfl⟩) rfl))))
     ·exact L.know (d := 44) rfl hc (L.skip rfl rfl rfl rfl (L.skip rfl rfl rfl rfl (L.pkF Wt.no rfl rfl rfl rfl (L.sb (J293 _ _ ⟨false, (andF hc).symm, rfl, rfl⟩) rfl))))
   ·intro Jj185
    refine E.seq (E.reg (L.fa fa49_1 Wt.no rfl rfl (L.ld (j := 1) bx5.mem nag5 Wt.no rfl rfl rfl rfl (L.mv Wt.no rfl rfl ?_))))
    obtain ⟨_, z294, hm⟩ := bindS hm
    refine L.shr Wt.no rfl rfl (ng_some z294) rfl (L.bi Wt.no rfl rfl rfl rfl (L.bi Wt.no rfl rfl rfl rfl (L.nil (X.seqN ?_))))
    rcases ifS hm with ⟨hc, hm⟩ | ⟨hc, hm⟩
    ·refine E.cT rfl hc (E.reg (L.fa fa26_2 Wt.no rfl rfl (L.ld (j := 2) bx25.mem nag23 Wt.no rfl rfl rfl rfl (L.mv Wt.no rfl rfl (L.bsE (k := 1) (cs := [.int .i64 st164.1]) 0 bs23 (Nat.le_of_ble_eq_true rfl) Wt.no rfl rfl rfl rfl fun b295 s296 m297 bx295 => ?_)))))
     replace m0 := m0.trans m297.no
     replace h1 := h1.mono (m297.le no_No)
     replace h34 := h34.mv m297 no_No no_No
     replace bx5 := bx5.mv m297 no_No
     replace bx8 := bx8.mv m297 no_No
     replace bx25 := bx25.mv m297 no_No
     replace h22 := h22.mono (m297.le no_No)
     replace h36 := h36.mv m297 no_No no_No
     have h295 := Bx.rdL (r := (rK .i64)) (xs := ([st164.1] : List Int)) bx295 ⟨[.int .i64 st164.1], _, rfl, rfl, rfl⟩ (Nat.le_of_ble_eq_true rfl)
     obtain ⟨x298, ex298, hm⟩ := bindS hm
     refine L.ap (r := (rK .i64)) Try.underlying23 el3 rfl (tgp hN) h34 h295.wk Wt.no rfl rfl ex298 rfl fun a299 c299 s300 m301 h299 => ?_
     replace m0 := m0.trans (m301.one up)
     replace h1 := h1.mono (m301.le (tg0 hN))
     replace bx5 := bx5.mv m301 (tgN (by decide))
     replace bx8 := bx8.mv m301 (tgN (by decide))
     replace bx25 := bx25.mv m301 (tgN (by decide))
     replace h22 := h22.mono (m301.le (tg0 hN))
     replace h36 := h36.mv m301 (tgN (by decide)) (tg0 hN)
     refine L.fa fa26_2 Wt.no rfl rfl (L.st (c := [.slice a299 x298.length c299]) (cs' := #[.slice a22 r19.1.length c22, .int .i64 (W (1 + (W (p1.1.tmod 5)))), .slice a299 x298.length c299, .slice a36 st164.2.2.length c36]) bx25 nag23.sz Wt.no rfl rfl rfl rfl rfl (Nat.le_of_ble_eq_true rfl) rfl fun s302 m303 bx25 => ?_)
     replace m0 := m0.trans (m303.one up)
     replace h1 := h1.mono (m303.le (tg0 hN))
     replace bx5 := bx5.mv m303 (tgN (by decide))
     replace bx8 := bx8.mv m303 (tgN (by decide))
     replace h22 := h22.mono (m303.le (tg0 hN))
     replace h299 := h299.mv m303 (tgN (by decide)) (tg0 hN)
     replace h36 := h36.mv m303 (tgN (by decide)) (tg0 hN)
     exact L.nil (X.sub (Jj185 _ _ ⟨s302, x298, a299, c299, hm, m0, h1, h22, h299, h36, bx5, bx8, bx25, rfl, rfl⟩) (Sub.rf rfl))
    ·exact E.cF rfl hc (E.skip (X.sub (Jj185 _ _ ⟨s169, st164.2.1, a34, c34, hm, m0, h1, h22, h34, h36, bx5, bx8, bx25, rfl, rfl⟩) (Sub.rf rfl)))
  ·refine E.cF rfl hc (E.exit (X.seqX (X.seqX ?_)))
   have hx := ho164 _ (Option.some.inj hm).symm
   subst hx
   exact X.sub (K181 _ _ ⟨s169, a34, c34, a36, c36, m0, h22, h34, h36, bx8, bx25, rfl, rfl⟩) (Sub.rf rfl)

/-- What overseerlaw53.Make$1 computes. -/
noncomputable def m_overseerlaw53_Make_1 (q0 : List Int × Int × List Int × (List (Int × Int × Int))) (p0 : Int) : Option Bool :=
  (m_slices_Contains_int q0.1 p0).bind fun r5 =>
  some (!r5)
set_option maxRecDepth 100000 in
set_option maxHeartbeats 8000000 in
theorem m_overseerlaw53_Make_1_c {s : Sig} {q0 : List Int × Int × List Int × (List (Int × Int × Int))} {p0 : Int} {a1 : Option Addr} {c1 : Nat} {a2 : Option Addr} {c2 : Nat} {a3 : Option Addr} {c3 : Nat} {b4 : Nat} {r : Bool} (h1 : RdL (rK .i64) s a1 c1 q0.1) (h2 : RdL (rK .i64) s a2 c2 q0.2.2.1) (h3 : RdL (rP (rK .i64) (rP (rK .i64) (rK .i64))) s a3 c3 q0.2.2.2) (bx4 : Bx s 0 b4 #[.slice a1 q0.1.length c1, .int .i64 q0.2.1, .slice a2 q0.2.2.1.length c2, .slice a3 q0.2.2.2.length c3] 26) (hm : m_overseerlaw53_Make_1 q0 p0 = some r) :
    Calls Try.prog 49 #[.int .i64 p0, .pointer (some ⟨b4, 0, none⟩)] s.w (RetS No s fun v s' => v = .bool r) := by
 unfold m_overseerlaw53_Make_1 at hm
 obtain ⟨N, hN, hNb⟩ := s.fresh
 have m0 : Mv (Up N No) s s := Mv.refl _ _
 refine E.entry Try.func49 rfl Try.ntmps49 rfl rfl (E.seq (E.reg (L.as Wt.no rfl rfl (L.nil (X.seqN (E.seq (E.reg (L.fa fa26_0 Wt.no rfl rfl (L.ld (j := 0) bx4.mem nag23 Wt.no rfl rfl rfl rfl (L.mv Wt.no rfl rfl ?_))))))))))
 obtain ⟨r5, er5, hm⟩ := bindS hm
 refine L.ca cf23 rfl rfl Wt.no rfl (m_slices_Contains_int_c (s := s) (p0 := q0.1) (p1 := p0) h1 er5) rfl ?_
 rintro _ s6 m7 rfl
 replace m0 := m0.trans m7.no
 refine L.not Wt.no rfl rfl (L.as Wt.no rfl rfl (L.nil (X.seqN (E.ret ?_))))
 obtain rfl := Option.some.inj hm
 exact X.rt (.inl rfl) Try.results49 (Rs.tmp rfl Rs.nil) rfl ⟨_, (s6).ren N (fun _ => 0), rfl, rfl, m0.ren hNb, rfl⟩

noncomputable def m_slices_IndexFunc_int_l1 (p0 : List Int) (p1 : Int → Option Bool) (st9 : Int) : Option (Int ⊕ (Unit ⊕ Int)) :=
  if decide (st9 < (p0.length : Int)) then
    (idx p0 st9).bind fun x18 =>
    (p1 x18).bind fun r20 =>
    if r20 then
      some (.inr (.inr (st9)))
    else
      some (.inl (W (st9 + 1)))
  else
    some (.inr (.inl ()))
/-- What slices.IndexFunc<<>int,int> computes. -/
noncomputable def m_slices_IndexFunc_int (p0 : List Int) (p1 : Int → Option Bool) : Option Int :=
  (iter (m_slices_IndexFunc_int_l1 p0 p1) 0).bind fun o9 =>
  match o9 with
  | .inl u12 =>
    some (-1)
  | .inr (u15) =>
    some u15
set_option maxRecDepth 100000 in
set_option maxHeartbeats 8000000 in
theorem m_slices_IndexFunc_int_c {s : Sig} {p0 : List Int} {p1 : Int → Option Bool} {a1 : Option Addr} {c1 : Nat} {vp1 : Value} {r : Int} (h1 : RdL (rK .i64) s a1 c1 p0) (hp1 : FV1 Try.prog s vp1 (fun (x0 : Int) => [.int .i64 x0]) (fun (r : Bool) => .bool r) p1) (hm : m_slices_IndexFunc_int p0 p1 = some r) :
    Calls Try.prog 60 #[.slice a1 p0.length c1, vp1] s.w (RetS No s fun v s' => v = .int .i64 r) := by
 unfold m_slices_IndexFunc_int at hm
 obtain ⟨N, hN, hNb⟩ := s.fresh
 have m0 : Mv (Up N No) s s := Mv.refl _ _
 refine E.entry Try.func60 rfl Try.ntmps60 rfl rfl (E.seq (E.reg (L.as Wt.no rfl rfl (L.nil (X.seqN (E.seq (E.seq (E.reg (L.mv Wt.no rfl rfl (L.len sl23 Wt.no rfl rfl (L.mv Wt.no rfl rfl (L.nil (X.seqN (E.block ?_))))))))))))))
 obtain ⟨o9, eo9, hm⟩ := bindS hm
 refine E.cut (x := .exit 0) (fun e w => ∃ (s13 : Sig) (u12 : Unit), o9 = .inl u12 ∧ Mv (Up N No) s s13 ∧ e = [] ∧ w = s13.w) ?_ ?_
 ·rintro _ _ ⟨s13, u12, rfl, m0, rfl, rfl⟩
  dsimp only at hm
  refine X.blkE (X.seqN (E.seq (E.reg (L.as Wt.no rfl rfl (L.nil (X.seqN (E.ret ?_)))))))
  obtain rfl := Option.some.inj hm
  exact X.rt (.inl rfl) Try.results60 (Rs.tmp rfl Rs.nil) rfl ⟨_, (s13).ren N (fun _ => 0), rfl, rfl, m0.ren hNb, rfl⟩
 intro K14
 refine E.cut (x := .ret) (fun e w => ∃ (s16 : Sig) (u15 : Int), o9 = .inr (u15) ∧ Mv (Up N No) s s16 ∧ e = [(4, .int .i64 u15)] ∧ w = s16.w) ?_ ?_
 ·rintro _ _ ⟨s16, u15, rfl, m0, rfl, rfl⟩
  dsimp only at hm
  refine X.blkR (X.seqR ?_)
  obtain rfl := Option.some.inj hm
  exact X.rt (.inl rfl) Try.results60 (Rs.tmp rfl Rs.nil) rfl ⟨_, (s16).ren N (fun _ => 0), rfl, rfl, m0.ren hNb, rfl⟩
 intro K17
 refine E.iter (fun (st9 : Int) (e : List (Nat × Value)) (w : World) => ∃ (s11 : Sig), Mv (Up N No) s s11 ∧ RdL (rK .i64) s11 a1 c1 p0 ∧ FV1 Try.prog s11 vp1 (fun (x0 : Int) => [.int .i64 x0]) (fun (r : Bool) => .bool r) p1 ∧ e = [(8, .int .i64 st9), (7, .int .i64 (p0.length : Int)), (0, .slice a1 p0.length c1), (1, vp1)] ∧ w = s11.w) eo9 ⟨s, m0, h1, hp1, rfl, rfl⟩ (Sub.rf rfl) ?_
 rintro st9 res9 hm ih9 ho9 _ _ ⟨s11, m0, h1, hp1, rfl, rfl⟩
 unfold m_slices_IndexFunc_int_l1 at hm
 refine E.seq (E.reg (L.bi Wt.no rfl rfl rfl rfl (L.nil (X.seqN (E.seq ?_)))))
 rcases ifS hm with ⟨hc, hm⟩ | ⟨hc, hm⟩
 ·refine E.cT rfl hc (E.skip (X.seqN (E.seq (E.block (E.seq (E.reg (L.mv Wt.no rfl rfl (L.as Wt.no rfl rfl (L.nil (X.seqN (E.seq (E.reg (L.mv Wt.no rfl rfl (L.mv Wt.no rfl rfl (L.mv Wt.no rfl rfl ?_)))))))))))))))
  obtain ⟨x18, ex18, hm⟩ := bindS hm
  refine L.ix (r := (rK .i64)) sl23 h1 Wt.no rfl rfl ex18 rfl fun b19 o19 cc19 me19 rd19 => ?_
  obtain rfl := rd19
  refine L.ld (j := 0) me19 nag3 Wt.no rfl rfl rfl rfl ?_
  obtain ⟨r20, er20, hm⟩ := bindS hm
  refine L.fv1 (y := x18) hp1 rfl rfl Wt.no rfl rfl er20 rfl fun s21 m22 => ?_
  replace m0 := m0.trans m22.no
  replace h1 := h1.mono (m22.le no_No)
  replace hp1 := hp1.mono (m22.le no_No)
  refine L.nil (X.seqN ?_)
  rcases ifS hm with ⟨hc, hm⟩ | ⟨hc, hm⟩
  ·refine E.cT rfl hc (E.seq (E.reg (L.mv Wt.no rfl rfl (L.as Wt.no rfl rfl (L.nil (X.seqN (E.ret (X.blkR (X.seqR (X.seqR ?_))))))))))
   have hx := ho9 _ (Option.some.inj hm).symm
   exact X.sub (K17 _ _ ⟨s21, st9, hx.symm, m0, rfl, rfl⟩) (Sub.rf rfl)
  ·exact E.cF rfl hc (E.skip (X.blkN (X.seqN (E.reg (L.bi Wt.no rfl rfl rfl rfl (L.mv Wt.no rfl rfl (L.nil (X.sub (ih9 _ (Option.some.inj hm).symm _ _ ⟨s21, m0, h1, hp1, rfl, rfl⟩) (Sub.rf rfl)))))))))
 ·refine E.cF rfl hc (E.exit (X.seqX (X.seqX ?_)))
  have hx := ho9 _ (Option.some.inj hm).symm
  exact X.sub (K14 _ _ ⟨s11, (), hx.symm, m0, rfl, rfl⟩) Sub.nil

end Go.Proofs.Ytkkemchihllklaa

namespace Go.Proofs.Ytkkemchihllklaa
open Go Go.RowKit

/-- A loop with an invariant. -/
theorem iter_inv {S O : Type} {f : S → Option (S ⊕ O)} (P : Nat → S → Prop) (Q : O → Prop) : ∀ (n i : Nat), n < i + 18446744073709551616 → (∀ i s, i < n → P i s → (∃ s', f s = some (.inl s') ∧ P (i + 1) s') ∨ ∃ o, f s = some (.inr o) ∧ Q o) → (∀ s, P n s → ∃ o, f s = some (.inr o) ∧ Q o) → i ≤ n →
    ∀ s, P i s → ∃ o, iter f s = some o ∧ Q o := by
  have key : ∀ (n : Nat), (∀ i s, i < n → P i s → (∃ s', f s = some (.inl s') ∧ P (i + 1) s') ∨ ∃ o, f s = some (.inr o) ∧ Q o) → (∀ s, P n s → ∃ o, f s = some (.inr o) ∧ Q o) → ∀ (j i : Nat), i + j = n → ∀ s, P i s → ∃ o, iterF f (j + 1) s = some o ∧ Q o := by
    intro n step fin j
    induction j with
    | zero =>
      intro i hi s h
      obtain rfl : i = n := by omega
      obtain ⟨o, h1, h2⟩ := fin s h
      exact ⟨o, by rw [iterF_succ, h1], h2⟩
    | succ j ih =>
      intro i hi s h
      rcases step i s (by omega) h with ⟨s', h1, h2⟩ | ⟨o, h1, h2⟩
      · obtain ⟨o, h3, h4⟩ := ih (i + 1) (by omega) s' h2
        exact ⟨o, by rw [iterF_succ, h1]; exact h3, h4⟩
      · exact ⟨o, by rw [iterF_succ, h1], h2⟩
  intro n i hn step fin hi s h
  obtain ⟨o, h1, h2⟩ := key n step fin (n - i) i (by omega) s h
  exact ⟨o, iter_of (by omega) h1, h2⟩
/-- A loop over a list that may stop ahead of its end. -/
def scanL {α S O : Type} (g : Nat → S → α → S ⊕ O) (fin : S → O) : Nat → List α → S → O
  | _, [], s => fin s
  | i, x :: xs, s => match g i s x with
    | .inl s' => scanL g fin (i + 1) xs s'
    | .inr o => o
theorem iter_scan {α S T O : Type} {xs : List α} {f : T → Option (T ⊕ O)} (mk : Nat → S → T) (g : Nat → S → α → S ⊕ O) (fin : S → O) (P : Nat → S → Prop) (hl : xs.length < 18446744073709551615)
    (step : ∀ i (h : i < xs.length) s, P i s → (∀ s', g i s xs[i] = .inl s' → f (mk i s) = some (.inl (mk (i + 1) s')) ∧ P (i + 1) s') ∧ ∀ o, g i s xs[i] = .inr o → f (mk i s) = some (.inr o))
    (last : ∀ s, P xs.length s → f (mk xs.length s) = some (.inr (fin s))) {s : S} (h0 : P 0 s) : iter f (mk 0 s) = some (scanL g fin 0 xs s) := by
  have key : ∀ (j i : Nat), i + j = xs.length → ∀ s, P i s → iterF f (j + 1) (mk i s) = some (scanL g fin i (xs.drop i) s) := by
    intro j
    induction j with
    | zero =>
      intro i hi s h
      obtain rfl : i = xs.length := by omega
      rw [iterF_succ, last s h, List.drop_length]
      rfl
    | succ j ih =>
      intro i hi s h
      have hlt : i < xs.length := by omega
      rw [List.drop_eq_getElem_cons hlt, scanL, iterF_succ]
      cases hg : g i s xs[i] with
      | inl s' =>
        obtain ⟨h1, h2⟩ := (step i hlt s h).1 s' hg
        rw [h1]
        exact ih (i + 1) (by omega) s' h2
      | inr o => rw [(step i hlt s h).2 o hg]
  have := key xs.length 0 (by omega) s h0
  rw [List.drop_zero] at this
  exact iter_of (by omega) this
/-- A loop over a list that folds it. -/
theorem iter_foldl {α S T O : Type} {xs : List α} {f : T → Option (T ⊕ O)} (mk : Nat → S → T) (g : S → α → S) (fin : S → O) (P : Nat → S → Prop) (hl : xs.length < 18446744073709551615)
    (step : ∀ i (h : i < xs.length) s, P i s → f (mk i s) = some (.inl (mk (i + 1) (g s xs[i]))) ∧ P (i + 1) (g s xs[i]))
    (last : ∀ s, P xs.length s → f (mk xs.length s) = some (.inr (fin s))) {s : S} (h0 : P 0 s) : iter f (mk 0 s) = some (fin (xs.foldl g s)) ∧ P xs.length (xs.foldl g s) := by
  have e : ∀ (xs : List α) (i : Nat) (s : S), scanL (fun _ s x => (Sum.inl (g s x) : S ⊕ O)) fin i xs s = fin (xs.foldl g s) := by
    intro xs
    induction xs with
    | nil => intro i s; rfl
    | cons x xs ih => intro i s; rw [scanL, List.foldl_cons]; exact ih _ _
  refine ⟨?_, ?_⟩
  · rw [iter_scan (O := O) (xs := xs) (f := f) mk (fun _ s x => .inl (g s x)) fin P hl (fun i h s hp => ⟨fun s' he => by cases he; exact step i h s hp, fun o he => by cases he⟩) last h0, e]
  · have key : ∀ (j i : Nat), i + j = xs.length → ∀ s, P i s → P xs.length ((xs.drop i).foldl g s) := by
      intro j
      induction j with
      | zero =>
        intro i hi s h
        obtain rfl : i = xs.length := by omega
        rw [List.drop_length]; exact h
      | succ j ih =>
        intro i hi s h
        have hlt : i < xs.length := by omega
        rw [List.drop_eq_getElem_cons hlt, List.foldl_cons]
        exact ih (i + 1) (by omega) _ (step i hlt s h).2
    exact key xs.length 0 (by omega) s h0
theorem nxt {i : Nat} (h : i < 4611686018427387904) : W ((i : Int) + 1) = ((i + 1 : Nat) : Int) := by rw [show (i : Int) + 1 = ((i + 1 : Nat) : Int) by omega, W_nat (by omega)]
theorem ct_lt {i n : Nat} (h : i < n) : decide ((i : Int) < (n : Int)) = true := by simp; omega
theorem ct_ge {n : Nat} : ¬ decide ((n : Int) < (n : Int)) = true := by simp

/-- The events of a set. -/
theorem events_ex (p : Int) : ∃ ev, m_overseerlaw03_Set_Events p = some ev ∧ Inc ev ∧ (∀ x ∈ ev, 0 ≤ x ∧ x < 5) ∧ ev.length ≤ 5 := by
  obtain ⟨o, h1, h2⟩ := iter_inv (f := m_overseerlaw03_Set_Events_l1 p) (fun i s => s.1 = (i : Int) ∧ Inc s.2 ∧ (∀ x ∈ s.2, 0 ≤ x ∧ x < (i : Int)) ∧ s.2.length ≤ i) (fun o => Inc o ∧ (∀ x ∈ o, 0 ≤ x ∧ x < 5) ∧ o.length ≤ 5) 5 0 (by omega) (fun i s hi ⟨e1, e2, e3, e4⟩ => by
      obtain ⟨s1, s2⟩ := s
      dsimp only at e1 e2 e3 e4
      subst e1
      have hj : ∀ l : List Int, m_overseerlaw03_Set_Events_j1 ((i : Int), s2) l = some (.inl (((i + 1 : Nat) : Int), l)) := fun l => by
        rw [m_overseerlaw03_Set_Events_j1]; dsimp only; rw [nxt (by omega)]
      left
      rw [m_overseerlaw03_Set_Events_l1]
      dsimp only
      rw [if_pos (by simp; omega), show ng (i : Int) = some () from if_neg (by omega), Option.bind_some]
      split
      · rw [app_eq (by simp; omega), Option.bind_some, hj]
        refine ⟨_, rfl, rfl, ?_, fun x hx => ?_, by simp; omega⟩
        · unfold Inc at e2 ⊢
          rw [List.pairwise_append]
          exact ⟨e2, List.pairwise_singleton .., fun a ha b hb => by rw [List.mem_singleton.1 hb]; exact (e3 a ha).2⟩
        · dsimp only at hx
          rcases List.mem_append.1 hx with h | h
          · have := e3 x h; omega
          · rw [List.mem_singleton.1 h]; omega
      · rw [hj]
        exact ⟨_, rfl, rfl, e2, fun x hx => by have := e3 x hx; omega, by dsimp only; omega⟩) (fun s ⟨e1, e2, e3, e4⟩ => by
      obtain ⟨s1, s2⟩ := s
      dsimp only at e1 e2 e3 e4
      subst e1
      refine ⟨s2, ?_, e2, e3, e4⟩
      rw [m_overseerlaw03_Set_Events_l1]
      dsimp only
      rw [if_neg (by simp)]) (by omega) (0, []) ⟨rfl, List.Pairwise.nil, fun x hx => (by cases hx), by simp⟩
  exact ⟨o, by rw [m_overseerlaw03_Set_Events, h1]; rfl, h2⟩

theorem rempty_eq {xs : List Int} (h : xs.length ≤ 1000000) : m_overseerref03_Empty xs = some (xs, 0, [], []) := by
  rw [m_overseerref03_Empty, app_eq (by simp; omega)]; rfl
theorem rstep_eq {a : Aut} {s : Nat} {e : Int} (hl : a.es.length < 4611686018427387904) (ht : ∀ x ∈ a.es, 0 ≤ x.t) : m_overseerref03_Step (autP a) (s : Int) e = some (stF a.es s e) := by
  rw [← step_eq hl ht]
  have hb : m_overseerref03_Step_l1 (autP a) (s : Int) e = m_overseerlaw53_step_l1 (autP a) (s : Int) e := by
    funext st
    rw [m_overseerref03_Step_l1, m_overseerlaw53_step_l1]
    split
    · cases hx : idx (autP a).2.2.2 st with
      | none => rfl
      | some x =>
        rw [Option.bind_some, Option.bind_some, Option.bind_some, Option.bind_some]
        cases h1 : x.1 == (s : Int) <;> cases h2 : x.2.1 == e <;> simp
    · rfl
  rw [m_overseerref03_Step, m_overseerlaw53_step, hb]
theorem rhas_eq {xs : List Int} {x : Int} (hl : xs.length < 4611686018427387904) : m_overseerref03_has xs x = some (hasB xs x) := by
  have h := iter_scan (f := m_overseerref03_has_l1 xs x) (xs := xs) (fun i (_ : Unit) => (i : Int)) (fun _ _ y => if y == x then .inr (.inr ()) else .inl ()) (fun _ => .inl ()) (fun _ _ => True) (by omega) (fun i h _ _ => by
      rw [m_overseerref03_has_l1, if_pos (ct_lt h), idx_at h, Option.bind_some, nxt (by omega)]
      refine ⟨fun s' e => ?_, fun o e => ?_⟩
      · split at e
        · cases e
        · rename_i h1; rw [if_neg h1]; exact ⟨rfl, trivial⟩
      · split at e
        · rename_i h1; rw [if_pos h1]; cases e; rfl
        · cases e) (fun _ _ => by rw [m_overseerref03_has_l1, if_neg ct_ge]) (s := ()) trivial
  have key : ∀ (ys : List Int) (i : Nat), scanL (O := Unit ⊕ Unit) (fun _ (_ : Unit) y => if y == x then .inr (.inr ()) else .inl ()) (fun _ => .inl ()) i ys () = if hasB ys x = true then .inr () else .inl () := by
    intro ys
    induction ys with
    | nil => intro i; rfl
    | cons y ys ih =>
      intro i
      rw [scanL]
      by_cases hy : y = x
      · subst hy
        rw [if_pos (show (y == y) = true by simp), if_pos (hasB_true.2 List.mem_cons_self)]
      · rw [if_neg (show ¬ (y == x) = true by simpa using hy)]
        dsimp only
        rw [ih]
        have : hasB (y :: ys) x = hasB ys x := by
          rw [Bool.eq_iff_iff, hasB_true, hasB_true, List.mem_cons]
          exact ⟨fun h => h.resolve_left (fun e => hy e.symm), .inr⟩
        rw [this]
  rw [m_overseerref03_has, show iter (m_overseerref03_has_l1 xs x) 0 = _ from h, Option.bind_some, key]
  cases hasB xs x <;> rfl
theorem rindex_eq {xs : List Int} {x : Int} (hl : xs.length < 4611686018427387904) : m_overseerref03_index xs x = some (idxI xs x) := by
  have h := iter_scan (f := m_overseerref03_index_l1 xs x) (xs := xs) (fun i (_ : Unit) => (i : Int)) (fun i _ y => if y == x then .inr (.inr (i : Int)) else .inl ()) (fun _ => .inl ()) (fun _ _ => True) (by omega) (fun i h _ _ => by
      rw [m_overseerref03_index_l1, if_pos (ct_lt h), idx_at h, Option.bind_some, nxt (by omega)]
      refine ⟨fun s' e => ?_, fun o e => ?_⟩
      · split at e
        · cases e
        · rename_i h1; rw [if_neg h1]; exact ⟨rfl, trivial⟩
      · split at e
        · rename_i h1; rw [if_pos h1]; cases e; rfl
        · cases e) (fun _ _ => by rw [m_overseerref03_index_l1, if_neg ct_ge]) (s := ()) trivial
  have key : ∀ (ys : List Int) (i : Nat), scanL (O := Unit ⊕ Int) (fun i (_ : Unit) y => if y == x then .inr (.inr (i : Int)) else .inl ()) (fun _ => .inl ()) i ys () = if x ∈ ys then .inr (i + ys.idxOf x : Nat) else .inl () := by
    intro ys
    induction ys with
    | nil => intro i; rfl
    | cons y ys ih =>
      intro i
      rw [scanL]
      by_cases hy : y = x
      · subst hy
        rw [if_pos (show (y == y) = true by simp), if_pos List.mem_cons_self]
        simp
      · rw [if_neg (show ¬ (y == x) = true by simpa using hy)]
        dsimp only
        rw [ih]
        have hi : (y :: ys).idxOf x = ys.idxOf x + 1 := by
          rw [List.idxOf_cons, show (y == x) = false by simpa using hy]; rfl
        by_cases hm : x ∈ ys
        · rw [if_pos hm, if_pos (List.mem_cons_of_mem _ hm), hi]
          congr 2; omega
        · rw [if_neg hm, if_neg (fun h => (List.mem_cons.1 h).elim (fun e => hy e.symm) hm)]
  rw [m_overseerref03_index, show iter (m_overseerref03_index_l1 xs x) 0 = _ from h, Option.bind_some, key, idxI]
  by_cases hm : x ∈ xs
  · rw [if_pos hm, if_pos hm]; simp
  · rw [if_neg hm, if_neg hm]
end Go.Proofs.Ytkkemchihllklaa

namespace Go.Proofs.Ytkkemchihllklaa
open Go Go.RowKit
theorem cf60 : Cf Try.prog 60 := Cf.mk Try.func60 (by kernel_rfl) (by kernel_rfl)
theorem zz3 : (Try.prog.info? 3).bind (·.zero) = some (.int .i64 0) := by kernel_rfl
noncomputable def m_slices_DeleteFunc_int_j1 (st26 : Int × Int × List Int) (n38 : Int) (l39 : List Int) : Option ((Int × Int × List Int) ⊕ (Int × List Int)) :=
  some (.inl (W (st26.1 + 1), n38, l39))
noncomputable def m_slices_DeleteFunc_int_l1 (p1 : Int → Option Bool) (st26 : Int × Int × List Int) : Option ((Int × Int × List Int) ⊕ (Int × List Int)) :=
  if decide (st26.1 < (st26.2.2.length : Int)) then
    (idx st26.2.2 st26.1).bind fun x42 =>
    (p1 x42).bind fun r44 =>
    if (!r44) then
      (idx st26.2.2 st26.2.1).bind fun x47 =>
      (upd st26.2.2 st26.2.1 x42).bind fun x49 =>
      m_slices_DeleteFunc_int_j1 st26 (W (st26.2.1 + 1)) x49
    else
      m_slices_DeleteFunc_int_j1 st26 st26.2.1 st26.2.2
  else
    some (.inr st26.2)
/-- What slices.DeleteFunc<<>int,int> computes. -/
noncomputable def m_slices_DeleteFunc_int (p0 : List Int) (p1 : Int → Option Bool) : Option (List Int × List Int) :=
  (m_slices_IndexFunc_int p0 p1).bind fun r3 =>
  if (r3 == (-1)) then
    some (p0, p0)
  else
    (iter (m_slices_DeleteFunc_int_l1 p1) ((W (r3 + 1)), r3, p0)).bind fun o26 =>
    (slc o26.2 o26.1 (o26.2.length : Int)).bind fun x31 =>
    (clrG o26.2 o26.1 (0 : Int)).bind fun x34 =>
    (slc (o26.2.take o26.1.toNat ++ List.replicate (o26.2.length - o26.1.toNat) (0 : Int)) 0 o26.1).bind fun x35 =>
    some (x35, (o26.2.take o26.1.toNat ++ List.replicate (o26.2.length - o26.1.toNat) (0 : Int)))
set_option maxRecDepth 100000 in
set_option maxHeartbeats 8000000 in
theorem m_slices_DeleteFunc_int_c {s : Sig} {p0 : List Int} {p1 : Int → Option Bool} {t0 : Nat} {a1 : Option Addr} {c1 : Nat} {vp1 : Value} {r : List Int × List Int} (zt0 : 0 < t0) (h1 : RowT (rK .i64) s t0 3 a1 c1 p0) (hp1 : FV1 Try.prog s vp1 (fun (x0 : Int) => [.int .i64 x0]) (fun (r : Bool) => .bool r) p1) (hm : m_slices_DeleteFunc_int p0 p1 = some r) :
    Calls Try.prog 48 #[.slice a1 p0.length c1, vp1] s.w (RetS (One t0) s fun v s' => ∃ (a2 : Option Addr) (c2 : Nat), v = .slice a2 r.1.length c2 ∧ RowT (rK .i64) s' t0 3 a2 c2 r.1 ∧ RowT (rK .i64) s' t0 3 a1 c1 r.2) := by
 unfold m_slices_DeleteFunc_int at hm
 obtain ⟨N, hN, hNb, lt0, -⟩ := s.freshL [t0]
 have m0 : Mv (Up N (One t0)) s s := Mv.refl _ _
 refine E.entry Try.func48 rfl Try.ntmps48 rfl rfl (E.seq (E.reg (L.as Wt.no rfl rfl (L.nil (X.seqN (E.seq (E.reg (L.mv Wt.no rfl rfl (L.mv Wt.no rfl rfl ?_)))))))))
 obtain ⟨r3, er3, hm⟩ := bindS hm
 refine L.ca cf60 rfl rfl Wt.no rfl (Calls.lendG (s0 := (Sig.fz t0 (Sig.drop N s))) (s := s) rfl (m_slices_IndexFunc_int_c (s := (Sig.fz t0 (Sig.drop N s))) (p0 := p0) (p1 := p1) ((h1.dropV lt0).fz (Ne.symm (tne0V zt0))) (hp1.mono ((Sig.drop_le N _).trans ((Sig.fz_mv t0 _).le (tgz zt0)))) er3) (fun v s' h => h)) rfl ?_
 rintro _ s4 m5 rfl
 replace m0 := m0.trans m5.no
 replace h1 := h1.mv m5 no_No no_No
 replace hp1 := hp1.mono (m5.le no_No)
 refine L.as Wt.no rfl rfl (L.nil (X.seqN (E.seq (E.seq (E.reg (L.mv Wt.no rfl rfl (L.bi Wt.no rfl rfl rfl rfl (L.nil (X.seqN ?_)))))))))
 rcases ifS hm with ⟨hc, hm⟩ | ⟨hc, hm⟩
 ·refine E.cT rfl hc (E.seq (E.reg (L.mv Wt.no rfl rfl (L.as Wt.no rfl rfl (L.nil (X.seqN (E.ret (X.seqR ?_))))))))
  obtain rfl := Option.some.inj hm
  exact X.rt (.inl rfl) Try.results48 (Rs.tmp rfl Rs.nil) rfl ⟨_, (s4).ren N (fun _ => 0), rfl, rfl, m0.ren hNb, ⟨a1, c1, rfl, (h1.renV hN lt0), (h1.renV hN lt0)⟩⟩
 ·refine E.cF rfl hc (E.skip (X.seqN (E.seq (E.seq (E.reg (L.mv Wt.no rfl rfl (L.bi Wt.no rfl rfl rfl rfl (L.as Wt.no rfl rfl (L.nil (X.seqN (E.block ?_)))))))))))
  obtain ⟨o26, eo26, hm⟩ := bindS hm
  refine E.cut (x := .exit 0) (fun e w => ∃ (s30 : Sig), Mv (Up N (One t0)) s s30 ∧ RowT (rK .i64) s30 t0 3 a1 c1 o26.2 ∧ e = [(5, .int .i64 o26.1), (0, .slice a1 o26.2.length c1)] ∧ w = s30.w) ?_ ?_
  ·rintro _ _ ⟨s30, m0, h1, rfl, rfl⟩
   refine X.blkE (X.seqN (E.seq (E.reg (L.mv Wt.no rfl rfl (L.mv Wt.no rfl rfl ?_)))))
   obtain ⟨x31, ex31, hm⟩ := bindS hm
   refine L.slo (r := (rK .i64)) sl23 h1 Wt.no rfl rfl ex31 rfl ?_
   obtain ⟨x34, ex34, hm⟩ := bindS hm
   obtain ⟨kx34, rfl⟩ := clr_some ex34
   refine L.clr (r := (rK .i64)) (lo := o26.1.toNat) (z0 := (0 : Int)) sl23 zz3 rfl rfl (fun _ => rfl) kx34 h1 (tgpV zt0) Wt.no rfl fun s32 m33 h1 => ?_
   have elx34 : (o26.2.take o26.1.toNat ++ List.replicate (o26.2.length - o26.1.toNat) (0 : Int)).length = o26.2.length := clr_len kx34
   replace m0 := m0.trans (m33.one (.inr rfl))
   refine L.reval (d := 0) rfl elx34 (L.nil (X.seqN (E.seq (E.reg (L.mv Wt.no rfl rfl (L.mv Wt.no rfl rfl ?_))))))
   obtain ⟨x35, ex35, hm⟩ := bindS hm
   refine L.sho (r := (rK .i64)) sl23 h1 Wt.no rfl rfl ex35 rfl fun a36 c36 h36 => L.as Wt.no rfl rfl (L.nil (X.seqN (E.ret ?_)))
   obtain rfl := Option.some.inj hm
   exact X.rt (.inl rfl) Try.results48 (Rs.tmp rfl Rs.nil) rfl ⟨_, (s32).ren N (fun _ => 0), rfl, rfl, m0.ren hNb, ⟨a36, c36, rfl, (h36.renV hN lt0), (h1.renV hN lt0)⟩⟩
  intro K37
  refine E.iter (fun (st26 : Int × Int × List Int) (e : List (Nat × Value)) (w : World) => ∃ (s29 : Sig), Mv (Up N (One t0)) s s29 ∧ RowT (rK .i64) s29 t0 3 a1 c1 st26.2.2 ∧ FV1 Try.prog s29 vp1 (fun (x0 : Int) => [.int .i64 x0]) (fun (r : Bool) => .bool r) p1 ∧ e = [(6, .int .i64 st26.1), (5, .int .i64 st26.2.1), (0, .slice a1 st26.2.2.length c1), (1, vp1)] ∧ w = s29.w) eo26 ⟨s4, m0, h1, hp1, rfl, rfl⟩ (Sub.rf rfl) ?_
  rintro st26 res26 hm ih26 ho26 _ _ ⟨s29, m0, h1, hp1, rfl, rfl⟩
  unfold m_slices_DeleteFunc_int_l1 at hm
  refine E.seq (E.seq (E.reg (L.mv Wt.no rfl rfl (L.mv Wt.no rfl rfl (L.len sl23 Wt.no rfl rfl (L.bi Wt.no rfl rfl rfl rfl (L.nil (X.seqN ?_))))))))
  rcases ifS hm with ⟨hc, hm⟩ | ⟨hc, hm⟩
  ·refine E.cT rfl hc (E.skip (X.seqN (E.seqJ (fun e w => ∃ (s40 : Sig) (n38 : Int) (l39 : List Int), m_slices_DeleteFunc_int_j1 st26 n38 l39 = some res26 ∧ Mv (Up N (One t0)) s s40 ∧ RowT (rK .i64) s40 t0 3 a1 c1 l39 ∧ FV1 Try.prog s40 vp1 (fun (x0 : Int) => [.int .i64 x0]) (fun (r : Bool) => .bool r) p1 ∧ e = [(5, .int .i64 n38), (0, .slice a1 l39.length c1), (6, .int .i64 st26.1), (1, vp1)] ∧ w = s40.w) ?_ ?_)))
   ·rintro _ _ ⟨s40, n38, l39, hm, m0, h1, hp1, rfl, rfl⟩
    unfold m_slices_DeleteFunc_int_j1 at hm
    exact E.reg (L.mv Wt.no rfl rfl (L.bi Wt.no rfl rfl rfl rfl (L.as Wt.no rfl rfl (L.nil (X.sub (ih26 _ (Option.some.inj hm).symm _ _ ⟨s40, m0, h1, hp1, rfl, rfl⟩) (Sub.rf rfl))))))
   ·intro Jj41
    refine E.block (E.seq (E.reg (L.mv Wt.no rfl rfl (L.mv Wt.no rfl rfl ?_))))
    obtain ⟨x42, ex42, hm⟩ := bindS hm
    refine L.ir (r := (rK .i64)) sl23 h1 Wt.no rfl rfl ex42 rfl fun b43 o43 cc43 me43 rd43 sp43 => ?_
    obtain rfl := rd43
    refine L.ld (j := 0) me43 nag3 Wt.no rfl rfl rfl rfl (L.as Wt.no rfl rfl (L.nil (X.seqN (E.seq (E.reg (L.mv Wt.no rfl rfl (L.mv Wt.no rfl rfl ?_)))))))
    obtain ⟨r44, er44, hm⟩ := bindS hm
    refine L.fv1 (y := x42) hp1 rfl rfl Wt.no rfl rfl er44 rfl fun s45 m46 => ?_
    replace m0 := m0.trans m46.no
    replace h1 := h1.mv m46 no_No no_No
    replace hp1 := hp1.mono (m46.le no_No)
    refine L.not Wt.no rfl rfl (L.nil (X.seqN ?_))
    rcases ifS hm with ⟨hc, hm⟩ | ⟨hc, hm⟩
    ·refine E.cT rfl hc (E.seq (E.reg (L.mv Wt.no rfl rfl (L.mv Wt.no rfl rfl (L.mv Wt.no rfl rfl ?_)))))
     obtain ⟨x47, ex47, hm⟩ := bindS hm
     refine L.ir (r := (rK .i64)) sl23 h1 Wt.no rfl rfl ex47 rfl fun b48 o48 cc48 me48 rd48 sp48 => ?_
     obtain rfl := rd48
     obtain ⟨x49, ex49, hm⟩ := bindS hm
     have elx49 := upd_len ex49
     refine L.su (fo := 0) (c := [.int .i64 x42]) (z := x42) h1 sp48 ex47 ex49 (tgpV zt0) nag3.sz Wt.no rfl rfl rfl rfl rfl rfl (fun c0 hc0 => by obtain rfl := hc0; exact rfl) fun s50 m51 h1 => ?_
     replace m0 := m0.trans (m51.one (.inr rfl))
     replace hp1 := hp1.mono (m51.le (tgz zt0))
     exact L.reval (d := 0) rfl elx49 (L.nil (X.seqN (E.reg (L.mv Wt.no rfl rfl (L.bi Wt.no rfl rfl rfl rfl (L.as Wt.no rfl rfl (L.nil (X.blkN (X.sub (Jj41 _ _ ⟨s50, (W (st26.2.1 + 1)), x49, hm, m0, h1, hp1, rfl, rfl⟩) (Sub.rf rfl))))))))))
    ·exact E.cF rfl hc (E.skip (X.blkN (X.sub (Jj41 _ _ ⟨s45, st26.2.1, st26.2.2, hm, m0, h1, hp1, rfl, rfl⟩) (Sub.rf rfl))))
  ·refine E.cF rfl hc (E.exit (X.seqX (X.seqX ?_)))
   have hx := ho26 _ (Option.some.inj hm).symm
   subst hx
   exact X.sub (K37 _ _ ⟨s29, m0, h1, rfl, rfl⟩) (Sub.rf rfl)

theorem ag49 : Ag Try.prog 49 27 := Ag.mk' Try.underlying49 rfl (by kernel_rfl)
theorem cf46 : Cf Try.prog 46 := Cf.mk Try.func46 (by kernel_rfl) (by kernel_rfl)
theorem cf47 : Cf Try.prog 47 := Cf.mk Try.func47 (by kernel_rfl) (by kernel_rfl)
theorem cf48 : Cf Try.prog 48 := Cf.mk Try.func48 (by kernel_rfl) (by kernel_rfl)
theorem cf49 : Cf Try.prog 49 := Cf.mk Try.func49 (by kernel_rfl) (by kernel_rfl)
theorem fa51_0 : FA Try.prog 51 0 0 := FA.mk Try.underlying51 rfl rfl ⟨1, by decide, by kernel_rfl⟩
theorem fa51_1 : FA Try.prog 51 1 1 := FA.mk Try.underlying51 rfl rfl ⟨27, by decide, by kernel_rfl⟩
theorem fa51_2 : FA Try.prog 51 2 28 := FA.mk Try.underlying51 rfl rfl ⟨1, by decide, by kernel_rfl⟩
theorem nag45 : NAg Try.prog 45 := NAg.mk' Try.underlying45 rfl (by kernel_rfl)
/-- What overseerlaw53.Make computes. -/
noncomputable def m_overseerlaw53_Make (p0 : Int × (Int × Int × ((Int × Int × Int × Int × Int) × (Int × Int × Int × Int × Int) × (Int × Int × Int × Int × Int) × (Int × Int × Int × Int × Int) × (Int × Int × Int × Int × Int))) × Int) : Option ((List Int × Int × List Int × (List (Int × Int × Int))) × List Int) :=
  (m_overseerlaw03_Set_Events p0.1).bind fun r16 =>
  (m_overseerlaw03_Make r16 ((p0.2.1.1.tmod 5), p0.2.1.2)).bind fun r23 =>
  (m_overseerlaw03_Set_Events p0.2.2).bind fun r45 =>
  (m_slices_DeleteFunc_int r45 (m_overseerlaw53_Make_1 r23)).bind fun r52 =>
  (lenEq r52.2 r45).bind fun _ =>
  some (r23, r52.1)
set_option maxRecDepth 100000 in
set_option maxHeartbeats 8000000 in
theorem m_overseerlaw53_Make_c {s : Sig} {p0 : Int × (Int × Int × ((Int × Int × Int × Int × Int) × (Int × Int × Int × Int × Int) × (Int × Int × Int × Int × Int) × (Int × Int × Int × Int × Int) × (Int × Int × Int × Int × Int))) × Int} {u3 : Nat} {r : (List Int × Int × List Int × (List (Int × Int × Int))) × List Int} (hm : m_overseerlaw53_Make p0 = some r) :
    Calls Try.prog 16 #[.agg #[.int .u8 p0.1, .int .u8 p0.2.1.1, .int .u8 p0.2.1.2.1, .int .u8 p0.2.1.2.2.1.1, .int .u8 p0.2.1.2.2.1.2.1, .int .u8 p0.2.1.2.2.1.2.2.1, .int .u8 p0.2.1.2.2.1.2.2.2.1, .int .u8 p0.2.1.2.2.1.2.2.2.2, .int .u8 p0.2.1.2.2.2.1.1, .int .u8 p0.2.1.2.2.2.1.2.1, .int .u8 p0.2.1.2.2.2.1.2.2.1, .int .u8 p0.2.1.2.2.2.1.2.2.2.1, .int .u8 p0.2.1.2.2.2.1.2.2.2.2, .int .u8 p0.2.1.2.2.2.2.1.1, .int .u8 p0.2.1.2.2.2.2.1.2.1, .int .u8 p0.2.1.2.2.2.2.1.2.2.1, .int .u8 p0.2.1.2.2.2.2.1.2.2.2.1, .int .u8 p0.2.1.2.2.2.2.1.2.2.2.2, .int .u8 p0.2.1.2.2.2.2.2.1.1, .int .u8 p0.2.1.2.2.2.2.2.1.2.1, .int .u8 p0.2.1.2.2.2.2.2.1.2.2.1, .int .u8 p0.2.1.2.2.2.2.2.1.2.2.2.1, .int .u8 p0.2.1.2.2.2.2.2.1.2.2.2.2, .int .u8 p0.2.1.2.2.2.2.2.2.1, .int .u8 p0.2.1.2.2.2.2.2.2.2.1, .int .u8 p0.2.1.2.2.2.2.2.2.2.2.1, .int .u8 p0.2.1.2.2.2.2.2.2.2.2.2.1, .int .u8 p0.2.1.2.2.2.2.2.2.2.2.2.2, .int .u8 p0.2.2]] s.w (RetS No s fun v s' => ∃ (a1 : Option Addr) (c1 : Nat) (a2 : Option Addr) (c2 : Nat) (a3 : Option Addr) (c3 : Nat) (a4 : Option Addr) (c4 : Nat), v = .tuple #[.agg #[.slice a1 r.1.1.length c1, .int .i64 r.1.2.1, .slice a2 r.1.2.2.1.length c2, .slice a3 r.1.2.2.2.length c3], .slice a4 r.2.length c4] ∧ RdL (rK .i64) s' a1 c1 r.1.1 ∧ RdL (rK .i64) s' a2 c2 r.1.2.2.1 ∧ RdL (rP (rK .i64) (rP (rK .i64) (rK .i64))) s' a3 c3 r.1.2.2.2 ∧ RowT (rK .i64) s' u3 3 a4 c4 r.2) := by
 unfold m_overseerlaw53_Make at hm
 obtain ⟨N, hN, hNb⟩ := s.fresh
 have m0 : Mv (Up N No) s s := Mv.refl _ _
 refine E.entry Try.func16 rfl Try.ntmps16 rfl rfl (E.seq (E.reg (L.box (N + 0) Wt.no rfl rfl rfl fun b5 s6 m7 bx5 => ?_)))
 replace m0 := m0.trans m7.no
 refine L.al (N + 1) zz26 rfl Wt.no rfl fun b8 s9 m10 bx8 => ?_
 replace m0 := m0.trans m10.no
 replace bx5 := bx5.mv m10 no_No
 refine L.as Wt.no rfl rfl (L.nil (X.seqN (E.seq (E.reg (L.fa fa51_1 Wt.no rfl rfl (L.fa fa49_0 Wt.no rfl rfl (L.ld (j := 1) bx5.mem nag5 Wt.no rfl rfl rfl rfl (L.rem Wt.no rfl rfl (by decide) rfl (L.fa fa51_1 Wt.no rfl rfl (L.fa fa49_0 Wt.no rfl rfl (L.st (c := [.int .u8 (p0.2.1.1.tmod 5)]) (cs' := #[.int .u8 p0.1, .int .u8 (p0.2.1.1.tmod 5), .int .u8 p0.2.1.2.1, .int .u8 p0.2.1.2.2.1.1, .int .u8 p0.2.1.2.2.1.2.1, .int .u8 p0.2.1.2.2.1.2.2.1, .int .u8 p0.2.1.2.2.1.2.2.2.1, .int .u8 p0.2.1.2.2.1.2.2.2.2, .int .u8 p0.2.1.2.2.2.1.1, .int .u8 p0.2.1.2.2.2.1.2.1, .int .u8 p0.2.1.2.2.2.1.2.2.1, .int .u8 p0.2.1.2.2.2.1.2.2.2.1, .int .u8 p0.2.1.2.2.2.1.2.2.2.2, .int .u8 p0.2.1.2.2.2.2.1.1, .int .u8 p0.2.1.2.2.2.2.1.2.1, .int .u8 p0.2.1.2.2.2.2.1.2.2.1, .int .u8 p0.2.1.2.2.2.2.1.2.2.2.1, .int .u8 p0.2.1.2.2.2.2.1.2.2.2.2, .int .u8 p0.2.1.2.2.2.2.2.1.1, .int .u8 p0.2.1.2.2.2.2.2.1.2.1, .int .u8 p0.2.1.2.2.2.2.2.1.2.2.1, .int .u8 p0.2.1.2.2.2.2.2.1.2.2.2.1, .int .u8 p0.2.1.2.2.2.2.2.1.2.2.2.2, .int .u8 p0.2.1.2.2.2.2.2.2.1, .int .u8 p0.2.1.2.2.2.2.2.2.2.1, .int .u8 p0.2.1.2.2.2.2.2.2.2.2.1, .int .u8 p0.2.1.2.2.2.2.2.2.2.2.2.1, .int .u8 p0.2.1.2.2.2.2.2.2.2.2.2.2, .int .u8 p0.2.2]) bx5 nag5.sz Wt.no rfl rfl rfl rfl rfl (Nat.le_of_ble_eq_true rfl) rfl fun s11 m12 bx5 => ?_)))))))))))
 replace m0 := m0.trans (m12.one up)
 replace bx8 := bx8.mv m12 (tgN (by decide))
 refine L.nil (X.seqN (E.seq ?_))
 obtain ⟨r16, er16, hm⟩ := bindS hm
 obtain ⟨r23, er23, hm⟩ := bindS hm
 refine E.draw [[], [0], [0, 1], [], [3], [0, 1, 2, 3, 4], [], [0, 1, 2, 3, 4, 5, 6]] (fun D e sx => Mv (One (N + 2)) s11 sx ∧ Sub [(2, .pointer (some ⟨b8, 0, none⟩)), (1, .pointer (some ⟨b5, 0, none⟩))] e ∧ (D 0 = true → (Env.get e 11 = some (.pointer (some ⟨b5, 0, none⟩)))) ∧ (D 1 = true → (Env.get e 12 = some (.int .u8 p0.1))) ∧ (D 2 = true → (∃ (a19 : Option Addr) (c19 : Nat), Env.get e 13 = some (.slice a19 r16.length c19) ∧ RdL (rK .i64) sx a19 c19 r16)) ∧ (D 3 = true → (Env.get e 14 = some (.pointer (some ⟨b5, 1, none⟩)))) ∧ (D 4 = true → (Env.get e 15 = some (.agg #[.int .u8 (p0.2.1.1.tmod 5), .int .u8 p0.2.1.2.1, .int .u8 p0.2.1.2.2.1.1, .int .u8 p0.2.1.2.2.1.2.1, .int .u8 p0.2.1.2.2.1.2.2.1, .int .u8 p0.2.1.2.2.1.2.2.2.1, .int .u8 p0.2.1.2.2.1.2.2.2.2, .int .u8 p0.2.1.2.2.2.1.1, .int .u8 p0.2.1.2.2.2.1.2.1, .int .u8 p0.2.1.2.2.2.1.2.2.1, .int .u8 p0.2.1.2.2.2.1.2.2.2.1, .int .u8 p0.2.1.2.2.2.1.2.2.2.2, .int .u8 p0.2.1.2.2.2.2.1.1, .int .u8 p0.2.1.2.2.2.2.1.2.1, .int .u8 p0.2.1.2.2.2.2.1.2.2.1, .int .u8 p0.2.1.2.2.2.2.1.2.2.2.1, .int .u8 p0.2.1.2.2.2.2.1.2.2.2.2, .int .u8 p0.2.1.2.2.2.2.2.1.1, .int .u8 p0.2.1.2.2.2.2.2.1.2.1, .int .u8 p0.2.1.2.2.2.2.2.1.2.2.1, .int .u8 p0.2.1.2.2.2.2.2.1.2.2.2.1, .int .u8 p0.2.1.2.2.2.2.2.1.2.2.2.2, .int .u8 p0.2.1.2.2.2.2.2.2.1, .int .u8 p0.2.1.2.2.2.2.2.2.2.1, .int .u8 p0.2.1.2.2.2.2.2.2.2.2.1, .int .u8 p0.2.1.2.2.2.2.2.2.2.2.2.1, .int .u8 p0.2.1.2.2.2.2.2.2.2.2.2.2]))) ∧ (D 5 = true → (∃ (a26 : Option Addr) (c26 : Nat) (a27 : Option Addr) (c27 : Nat) (a28 : Option Addr) (c28 : Nat), Env.get e 16 = some (.agg #[.slice a26 r23.1.length c26, .int .i64 r23.2.1, .slice a27 r23.2.2.1.length c27, .slice a28 r23.2.2.2.length c28]) ∧ RowT (rK .i64) sx (N + 4) 3 a26 c26 r23.1 ∧ RowT (rK .i64) sx (N + 5) 3 a27 c27 r23.2.2.1 ∧ RowT (rP (rK .i64) (rP (rK .i64) (rK .i64))) sx (N + 6) 28 a28 c28 r23.2.2.2)) ∧ (D 6 = true → (∃ (b30 : Nat), Env.get e 4 = some (.pointer (some ⟨b30, 0, none⟩)))) ∧ (D 6 = true → D 7 = false → ∀ (b30 : Nat), Env.get e 4 = some (.pointer (some ⟨b30, 0, none⟩)) → Bx sx (N + 2) b30 #[.slice none 0 0, .int .i64 0, .slice none 0 0, .slice none 0 0] 26) ∧ (D 7 = true → ∀ (a26 : Option Addr) (c26 : Nat) (a27 : Option Addr) (c27 : Nat) (a28 : Option Addr) (c28 : Nat) (b30 : Nat), Env.get e 16 = some (.agg #[.slice a26 r23.1.length c26, .int .i64 r23.2.1, .slice a27 r23.2.2.1.length c27, .slice a28 r23.2.2.2.length c28]) → Env.get e 4 = some (.pointer (some ⟨b30, 0, none⟩)) → Bx sx (N + 2) b30 #[.slice a26 r23.1.length c26, .int .i64 r23.2.1, .slice a27 r23.2.2.1.length c27, .slice a28 r23.2.2.2.length c28] 26)) (by kernel_rfl) (by kernel_rfl) (by kernel_rfl) ?_ ?_ ?_
 ·intro sz mz
  exact ⟨mz.no, (Sub.rf rfl), nofun, nofun, nofun, nofun, nofun, nofun, nofun, nofun, nofun⟩
 ·refine ⟨?_, ?_, ?_, ?_, ?_, ?_, ?_, ?_, trivial⟩
  ·rintro D e s13 ⟨im, ib, i0, t_⟩ hk hf ha
   have kn : Kn e [(1, .pointer (some ⟨b5, 0, none⟩))] := ⟨(ib 1 _ rfl), trivial⟩
   exact L.kns _ kn (L.fa fa51_0 Wt.no rfl rfl (L.nil (X.dk kn ⟨im, Sub.fresh ib rfl, fun _ => rfl, t_⟩)))
  ·rintro D e s14 ⟨im, ib, i0, i1, t_⟩ hk hf ha
   obtain ⟨d0, -⟩ := ha
   have g0_ := i0 d0
   have bx5 := bx5.mv im (tgN (by decide))
   have kn : Kn e [(11, .pointer (some ⟨b5, 0, none⟩))] := ⟨g0_, trivial⟩
   exact L.kns _ kn (L.ld (j := 0) bx5.mem nag45 Wt.no rfl rfl rfl rfl (L.nil (X.dk kn ⟨im, Sub.fresh ib rfl, i0, fun _ => rfl, t_⟩)))
  ·rintro D e s15 ⟨im, ib, i0, i1, i2, i3, i4, i5, i6, i7, i8⟩ hk hf ha
   obtain ⟨d0, d1, -⟩ := ha
   have g1_ := i1 d1
   have kn : Kn e [(12, .int .u8 p0.1)] := ⟨g1_, trivial⟩
   refine L.kns _ kn (L.ca cf47 rfl rfl Wt.no rfl (m_overseerlaw03_Set_Events_c (s := s15) (p0 := p0.1) (u0 := 0) er16) rfl ?_)
   rintro _ s17 m18 ⟨a19, c19, rfl, h19⟩
   replace h19 := h19.p
   exact L.nil (X.dk kn ⟨im.trans m18.no, Sub.fresh ib rfl, i0, i1, fun _ => ⟨a19, c19, rfl, h19⟩, i3, i4, fun z => let ⟨a26, c26, a27, c27, a28, c28, q, h26, h27, h28⟩ := i5 z; ⟨a26, c26, a27, c27, a28, c28, q, (h26.mv m18 no_No no_No), (h27.mv m18 no_No no_No), (h28.mv m18 no_No no_No)⟩, i6, fun z z2 b30 q6 => ((i7 z z2 b30 q6).mv m18 no_No), fun z a26 c26 a27 c27 a28 c28 b30 q5 q6 => ((i8 z a26 c26 a27 c27 a28 c28 b30 q5 q6).mv m18 no_No)⟩)
  ·rintro D e s20 ⟨im, ib, i0, i1, i2, i3, t_⟩ hk hf ha
   have kn : Kn e [(1, .pointer (some ⟨b5, 0, none⟩))] := ⟨(ib 1 _ rfl), trivial⟩
   exact L.kns _ kn (L.fa fa51_1 Wt.no rfl rfl (L.nil (X.dk kn ⟨im, Sub.fresh ib rfl, i0, i1, i2, fun _ => rfl, t_⟩)))
  ·rintro D e s21 ⟨im, ib, i0, i1, i2, i3, i4, t_⟩ hk hf ha
   obtain ⟨d3, -⟩ := ha
   have g3_ := i3 d3
   have bx5 := bx5.mv im (tgN (by decide))
   have kn : Kn e [(14, .pointer (some ⟨b5, 1, none⟩))] := ⟨g3_, trivial⟩
   exact L.kns _ kn (L.lg (j := 1) (cs := [.int .u8 (p0.2.1.1.tmod 5), .int .u8 p0.2.1.2.1, .int .u8 p0.2.1.2.2.1.1, .int .u8 p0.2.1.2.2.1.2.1, .int .u8 p0.2.1.2.2.1.2.2.1, .int .u8 p0.2.1.2.2.1.2.2.2.1, .int .u8 p0.2.1.2.2.1.2.2.2.2, .int .u8 p0.2.1.2.2.2.1.1, .int .u8 p0.2.1.2.2.2.1.2.1, .int .u8 p0.2.1.2.2.2.1.2.2.1, .int .u8 p0.2.1.2.2.2.1.2.2.2.1, .int .u8 p0.2.1.2.2.2.1.2.2.2.2, .int .u8 p0.2.1.2.2.2.2.1.1, .int .u8 p0.2.1.2.2.2.2.1.2.1, .int .u8 p0.2.1.2.2.2.2.1.2.2.1, .int .u8 p0.2.1.2.2.2.2.1.2.2.2.1, .int .u8 p0.2.1.2.2.2.2.1.2.2.2.2, .int .u8 p0.2.1.2.2.2.2.2.1.1, .int .u8 p0.2.1.2.2.2.2.2.1.2.1, .int .u8 p0.2.1.2.2.2.2.2.1.2.2.1, .int .u8 p0.2.1.2.2.2.2.2.1.2.2.2.1, .int .u8 p0.2.1.2.2.2.2.2.1.2.2.2.2, .int .u8 p0.2.1.2.2.2.2.2.2.1, .int .u8 p0.2.1.2.2.2.2.2.2.2.1, .int .u8 p0.2.1.2.2.2.2.2.2.2.2.1, .int .u8 p0.2.1.2.2.2.2.2.2.2.2.2.1, .int .u8 p0.2.1.2.2.2.2.2.2.2.2.2.2]) bx5.mem ag49 Wt.no rfl rfl rfl rfl rfl (L.nil (X.dk kn ⟨im, Sub.fresh ib rfl, i0, i1, i2, i3, fun _ => rfl, t_⟩)))
  ·rintro D e s22 ⟨im, ib, i0, i1, i2, i3, i4, i5, i6, i7, i8⟩ hk hf ha
   obtain ⟨d0, d1, d2, d3, d4, -⟩ := ha
   obtain ⟨a19, c19, g2_, h19⟩ := i2 d2
   have g4_ := i4 d4
   have kn : Kn e [(13, .slice a19 r16.length c19), (15, .agg #[.int .u8 (p0.2.1.1.tmod 5), .int .u8 p0.2.1.2.1, .int .u8 p0.2.1.2.2.1.1, .int .u8 p0.2.1.2.2.1.2.1, .int .u8 p0.2.1.2.2.1.2.2.1, .int .u8 p0.2.1.2.2.1.2.2.2.1, .int .u8 p0.2.1.2.2.1.2.2.2.2, .int .u8 p0.2.1.2.2.2.1.1, .int .u8 p0.2.1.2.2.2.1.2.1, .int .u8 p0.2.1.2.2.2.1.2.2.1, .int .u8 p0.2.1.2.2.2.1.2.2.2.1, .int .u8 p0.2.1.2.2.2.1.2.2.2.2, .int .u8 p0.2.1.2.2.2.2.1.1, .int .u8 p0.2.1.2.2.2.2.1.2.1, .int .u8 p0.2.1.2.2.2.2.1.2.2.1, .int .u8 p0.2.1.2.2.2.2.1.2.2.2.1, .int .u8 p0.2.1.2.2.2.2.1.2.2.2.2, .int .u8 p0.2.1.2.2.2.2.2.1.1, .int .u8 p0.2.1.2.2.2.2.2.1.2.1, .int .u8 p0.2.1.2.2.2.2.2.1.2.2.1, .int .u8 p0.2.1.2.2.2.2.2.1.2.2.2.1, .int .u8 p0.2.1.2.2.2.2.2.1.2.2.2.2, .int .u8 p0.2.1.2.2.2.2.2.2.1, .int .u8 p0.2.1.2.2.2.2.2.2.2.1, .int .u8 p0.2.1.2.2.2.2.2.2.2.2.1, .int .u8 p0.2.1.2.2.2.2.2.2.2.2.2.1, .int .u8 p0.2.1.2.2.2.2.2.2.2.2.2.2])] := ⟨g2_, g4_, trivial⟩
   refine L.kns _ kn (L.ca cf46 rfl rfl Wt.no rfl (m_overseerlaw03_Make_c (s := s22) (p0 := r16) (p1 := ((p0.2.1.1.tmod 5), p0.2.1.2)) (u0 := (N + 4)) (u1 := (N + 5)) (u2 := (N + 6)) h19 er23) rfl ?_)
   rintro _ s24 m25 ⟨a26, c26, a27, c27, a28, c28, rfl, h26, h27, h28⟩
   exact L.nil (X.dk kn ⟨im.trans m25.no, Sub.fresh ib rfl, i0, i1, fun z => let ⟨a19, c19, q, h19⟩ := i2 z; ⟨a19, c19, q, (h19.mono (m25.le no_No))⟩, i3, i4, fun _ => ⟨a26, c26, a27, c27, a28, c28, rfl, h26, h27, h28⟩, i6, fun z z2 b30 q6 => ((i7 z z2 b30 q6).mv m25 no_No), fun z => Bool.noConfusion ((hf 7 (Nat.le_of_ble_eq_true rfl) rfl).symm.trans z)⟩)
  ·rintro D e s29 ⟨im, ib, i0, i1, i2, i3, i4, i5, i6, i7, i8⟩ hk hf ha
   exact L.al (N + 2) zz26 rfl Wt.no rfl fun b30 s31 m32 bx30 => L.nil (X.dr (s := s31) (e' := (4, .pointer (some ⟨b30, 0, none⟩)) :: e) (Sub.both (Sub.refl)) ⟨im.trans m32.no, Sub.fresh ib rfl, i0, i1, fun z => let ⟨a19, c19, q, h19⟩ := i2 z; ⟨a19, c19, q, (h19.mono (m32.le no_No))⟩, i3, i4, fun z => let ⟨a26, c26, a27, c27, a28, c28, q, h26, h27, h28⟩ := i5 z; ⟨a26, c26, a27, c27, a28, c28, q, (h26.mv m32 no_No no_No), (h27.mv m32 no_No no_No), (h28.mv m32 no_No no_No)⟩, fun _ => ⟨b30, rfl⟩, fun _ _ _ q6 => by cases (show some (.pointer (some ⟨b30, 0, none⟩) : Value) = some _ from q6); exact bx30, fun z => Bool.noConfusion ((hf 7 (Nat.le_of_ble_eq_true rfl) rfl).symm.trans z)⟩)
  ·rintro D e s33 ⟨im, ib, i0, i1, i2, i3, i4, i5, i6, i7, i8⟩ hk hf ha
   obtain ⟨d0, d1, d2, d3, d4, d5, d6, -⟩ := ha
   obtain ⟨a26, c26, a27, c27, a28, c28, g5_, h26, h27, h28⟩ := i5 d5
   obtain ⟨b30, g6_⟩ := i6 d6
   obtain bx30 := i7 d6 hk b30 g6_
   have kn : Kn e [(4, .pointer (some ⟨b30, 0, none⟩)), (16, .agg #[.slice a26 r23.1.length c26, .int .i64 r23.2.1, .slice a27 r23.2.2.1.length c27, .slice a28 r23.2.2.2.length c28])] := ⟨g6_, g5_, trivial⟩
   exact L.kns _ kn (L.st (c := [.slice a26 r23.1.length c26, .int .i64 r23.2.1, .slice a27 r23.2.2.1.length c27, .slice a28 r23.2.2.2.length c28]) (cs' := #[.slice a26 r23.1.length c26, .int .i64 r23.2.1, .slice a27 r23.2.2.1.length c27, .slice a28 r23.2.2.2.length c28]) bx30 ag26.sz Wt.no rfl rfl rfl rfl rfl (Nat.le_of_ble_eq_true rfl) rfl fun s34 m35 bx30 => L.nil (X.dn kn ⟨im.trans (m35.one rfl), ib, i0, i1, fun z => let ⟨a19, c19, q, h19⟩ := i2 z; ⟨a19, c19, q, (h19.mono (m35.le (tg0 hN)))⟩, i3, i4, fun z => let ⟨a26, c26, a27, c27, a28, c28, q, h26, h27, h28⟩ := i5 z; ⟨a26, c26, a27, c27, a28, c28, q, (h26.mv m35 (tgN (by decide)) (tg0 hN)), (h27.mv m35 (tgN (by decide)) (tg0 hN)), (h28.mv m35 (tgN (by decide)) (tg0 hN))⟩, i6, fun _ z => Bool.noConfusion (show true = false from z), fun _ _ _ _ _ _ _ _ q5 q6 => by cases g5_.symm.trans q5; cases g6_.symm.trans q6; exact bx30⟩))
 ·rintro D e s36 hD ⟨im, ib, i0, i1, i2, i3, i4, i5, i6, i7, i8⟩
  obtain ⟨a26, c26, a27, c27, a28, c28, g5_, h26, h27, h28⟩ := i5 (hD 5 rfl)
  obtain ⟨b30, g6_⟩ := i6 (hD 6 rfl)
  obtain bx30 := i8 (hD 7 rfl) a26 c26 a27 c27 a28 c28 b30 g5_ g6_
  have bx8 := bx8.mv im (tgN (by decide))
  have bx5 := bx5.mv im (tgN (by decide))
  have m0 := m0.trans (im.one up)
  refine X.sub (e' := [(4, .pointer (some ⟨b30, 0, none⟩)), (2, .pointer (some ⟨b8, 0, none⟩)), (1, .pointer (some ⟨b5, 0, none⟩))]) ?_ (Sub.cons g6_ (Sub.cons (ib 2 _ rfl) (Sub.cons (ib 1 _ rfl) Sub.nil)))
  refine X.seqN (E.seq ?_)
  have m37 := Sig.fz_mv (N + 2) s36
  replace bx30 := bx30.fz (tgn hN)
  replace m0 := m0.trans (m37.one up)
  replace h26 := h26.mv m37 (tgN (by decide)) (tg0 hN)
  replace h27 := h27.mv m37 (tgN (by decide)) (tg0 hN)
  replace h28 := h28.mv m37 (tgN (by decide)) (tg0 hN)
  replace bx8 := bx8.mv m37 (tgN (by decide))
  replace bx5 := bx5.mv m37 (tgN (by decide))
  refine E.toR (s' := (Sig.fz (N + 2) s36)) rfl ?_
  have m38 := Sig.fz_mv (N + 4) (Sig.fz (N + 2) s36)
  replace h26 := h26.fz (tgn hN)
  replace m0 := m0.trans (m38.one up)
  replace bx30 := bx30.mv m38 (tg0 hN)
  replace h27 := h27.mv m38 (tgN (by decide)) (tg0 hN)
  replace h28 := h28.mv m38 (tgN (by decide)) (tg0 hN)
  replace bx8 := bx8.mv m38 (tgN (by decide))
  replace bx5 := bx5.mv m38 (tgN (by decide))
  refine E.toR (s' := (Sig.fz (N + 4) (Sig.fz (N + 2) s36))) rfl ?_
  have m39 := Sig.fz_mv (N + 5) (Sig.fz (N + 4) (Sig.fz (N + 2) s36))
  replace h27 := h27.fz (tgn hN)
  replace m0 := m0.trans (m39.one up)
  replace bx30 := bx30.mv m39 (tg0 hN)
  replace h26 := h26.mono (m39.le (tg0 hN))
  replace h28 := h28.mv m39 (tgN (by decide)) (tg0 hN)
  replace bx8 := bx8.mv m39 (tgN (by decide))
  replace bx5 := bx5.mv m39 (tgN (by decide))
  refine E.toR (s' := (Sig.fz (N + 5) (Sig.fz (N + 4) (Sig.fz (N + 2) s36)))) rfl ?_
  have m40 := Sig.fz_mv (N + 6) (Sig.fz (N + 5) (Sig.fz (N + 4) (Sig.fz (N + 2) s36)))
  replace h28 := h28.fz (tgn hN)
  replace m0 := m0.trans (m40.one up)
  replace bx30 := bx30.mv m40 (tg0 hN)
  replace h26 := h26.mono (m40.le (tg0 hN))
  replace h27 := h27.mono (m40.le (tg0 hN))
  replace bx8 := bx8.mv m40 (tgN (by decide))
  replace bx5 := bx5.mv m40 (tgN (by decide))
  refine E.toR (s' := (Sig.fz (N + 6) (Sig.fz (N + 5) (Sig.fz (N + 4) (Sig.fz (N + 2) s36))))) rfl ?_
  obtain ⟨r45, er45, hm⟩ := bindS hm
  obtain ⟨r52, er52, hm⟩ := bindS hm
  obtain ⟨_, qz56, hm⟩ := bindS hm
  have elz56 := len_some qz56
  refine E.draw [[], [], [1], [1, 2], [], [1, 2, 3, 4], [0, 1, 2, 3, 4, 5], [0, 1, 2, 3, 4, 5, 6]] (fun D e sx => Mv (fun t => t = (N + 1) ∨ t = (N + 3)) (Sig.fz (N + 6) (Sig.fz (N + 5) (Sig.fz (N + 4) (Sig.fz (N + 2) s36)))) sx ∧ Sub [(4, .pointer (some ⟨b30, 0, none⟩)), (2, .pointer (some ⟨b8, 0, none⟩)), (1, .pointer (some ⟨b5, 0, none⟩))] e ∧ (D 0 = true → (Env.get e 17 = some (.agg #[.slice a26 r23.1.length c26, .int .i64 r23.2.1, .slice a27 r23.2.2.1.length c27, .slice a28 r23.2.2.2.length c28]))) ∧ (D 1 = true → (Env.get e 18 = some (.pointer (some ⟨b5, 28, none⟩)))) ∧ (D 2 = true → (Env.get e 19 = some (.int .u8 p0.2.2))) ∧ (D 3 = true → (∃ (a48 : Option Addr) (c48 : Nat), Env.get e 20 = some (.slice a48 r45.length c48))) ∧ (D 4 = true → (Env.get e 21 = some (.func (.func 49) #[] #[.pointer (some ⟨b30, 0, none⟩)]) ∧ FV1 Try.prog sx (.func (.func 49) #[] #[.pointer (some ⟨b30, 0, none⟩)]) (fun (x0 : Int) => [.int .i64 x0]) (fun (r : Bool) => .bool r) (m_overseerlaw53_Make_1 r23))) ∧ (D 5 = true → (∃ (a55 : Option Addr) (c55 : Nat), Env.get e 22 = some (.slice a55 r52.1.length c55))) ∧ (D 7 = true → ∀ (a55 : Option Addr) (c55 : Nat), Env.get e 22 = some (.slice a55 r52.1.length c55) → (Env.get e 3 = some (.slice a55 r52.1.length c55))) ∧ (D 6 = false → Bx sx (N + 1) b8 #[.slice none 0 0, .int .i64 0, .slice none 0 0, .slice none 0 0] 26) ∧ (D 6 = true → Bx sx (N + 1) b8 #[.slice a26 r23.1.length c26, .int .i64 r23.2.1, .slice a27 r23.2.2.1.length c27, .slice a28 r23.2.2.2.length c28] 26) ∧ (D 3 = true → D 5 = false → ∀ (a48 : Option Addr) (c48 : Nat), Env.get e 20 = some (.slice a48 r45.length c48) → RowT (rK .i64) sx (N + 3) 3 a48 c48 r45) ∧ (D 5 = true → ∀ (a48 : Option Addr) (c48 : Nat) (a55 : Option Addr) (c55 : Nat), Env.get e 20 = some (.slice a48 r45.length c48) → Env.get e 22 = some (.slice a55 r52.1.length c55) → RowT (rK .i64) sx (N + 3) 3 a55 c55 r52.1 ∧ RowT (rK .i64) sx (N + 3) 3 a48 c48 r52.2)) (by kernel_rfl) (by kernel_rfl) (by kernel_rfl) ?_ ?_ ?_
  ·intro sz mz
   exact ⟨mz.no, (Sub.rf rfl), nofun, nofun, nofun, nofun, nofun, nofun, nofun, fun _ => bx8.mv mz no_No, nofun, nofun, nofun⟩
  ·refine ⟨?_, ?_, ?_, ?_, ?_, ?_, ?_, ?_, trivial⟩
   ·rintro D e s41 ⟨im, ib, i0, t_⟩ hk hf ha
    have bx30 := bx30.mv im (nor (tg0 hN) (tg0 hN))
    have kn : Kn e [(4, .pointer (some ⟨b30, 0, none⟩))] := ⟨(ib 4 _ rfl), trivial⟩
    exact L.kns _ kn (L.lg (j := 0) (cs := [.slice a26 r23.1.length c26, .int .i64 r23.2.1, .slice a27 r23.2.2.1.length c27, .slice a28 r23.2.2.2.length c28]) bx30.mem ag26 Wt.no rfl rfl rfl rfl rfl (L.nil (X.dk kn ⟨im, Sub.fresh ib rfl, fun _ => rfl, t_⟩)))
   ·rintro D e s42 ⟨im, ib, i0, i1, t_⟩ hk hf ha
    have kn : Kn e [(1, .pointer (some ⟨b5, 0, none⟩))] := ⟨(ib 1 _ rfl), trivial⟩
    exact L.kns _ kn (L.fa fa51_2 Wt.no rfl rfl (L.nil (X.dk kn ⟨im, Sub.fresh ib rfl, i0, fun _ => rfl, t_⟩)))
   ·rintro D e s43 ⟨im, ib, i0, i1, i2, t_⟩ hk hf ha
    obtain ⟨d1, -⟩ := ha
    have g1_ := i1 d1
    have bx5 := bx5.mv im (nor (tgN (by decide)) (tgN (by decide)))
    have kn : Kn e [(18, .pointer (some ⟨b5, 28, none⟩))] := ⟨g1_, trivial⟩
    exact L.kns _ kn (L.ld (j := 28) bx5.mem nag45 Wt.no rfl rfl rfl rfl (L.nil (X.dk kn ⟨im, Sub.fresh ib rfl, i0, i1, fun _ => rfl, t_⟩)))
   ·rintro D e s44 ⟨im, ib, i0, i1, i2, i3, i4, i5, i6, i7, i8, i9, i10⟩ hk hf ha
    obtain ⟨d1, d2, -⟩ := ha
    have g2_ := i2 d2
    have kn : Kn e [(19, .int .u8 p0.2.2)] := ⟨g2_, trivial⟩
    refine L.kns _ kn (L.ca cf47 rfl rfl Wt.no rfl (m_overseerlaw03_Set_Events_c (s := s44) (p0 := p0.2.2) (u0 := (N + 3)) er45) rfl ?_)
    rintro _ s46 m47 ⟨a48, c48, rfl, h48⟩
    exact L.nil (X.dk kn ⟨im.trans m47.no, Sub.fresh ib rfl, i0, i1, i2, fun _ => ⟨a48, c48, rfl⟩, fun z => let ⟨q, h50⟩ := i4 z; ⟨q, (h50.mono (m47.le no_No))⟩, i5, i6, fun z2 => ((i7 z2).mv m47 no_No), fun z => ((i8 z).mv m47 no_No), fun _ _ _ _ q3 => by cases (show some (.slice a48 r45.length c48 : Value) = some _ from q3); exact h48, fun z => Bool.noConfusion ((hf 5 (Nat.le_of_ble_eq_true rfl) rfl).symm.trans z)⟩)
   ·rintro D e s49 ⟨im, ib, i0, i1, i2, i3, i4, t_⟩ hk hf ha
    have bx30 := bx30.mv im (nor (tg0 hN) (tg0 hN))
    have h26 := h26.mono (im.le (nor (tg0 hN) (tg0 hN)))
    have h27 := h27.mono (im.le (nor (tg0 hN) (tg0 hN)))
    have h28 := h28.mono (im.le (nor (tg0 hN) (tg0 hN)))
    have kn : Kn e [(4, .pointer (some ⟨b30, 0, none⟩))] := ⟨(ib 4 _ rfl), trivial⟩
    refine L.kns _ kn ?_
    have h50 : FV1 Try.prog s49 (.func (.func 49) #[] #[.pointer (some ⟨b30, 0, none⟩)]) (fun (x0 : Int) => [.int .i64 x0]) (fun (r : Bool) => .bool r) (m_overseerlaw53_Make_1 r23) := ⟨49, #[], #[.pointer (some ⟨b30, 0, none⟩)], rfl, cf49, fun x0 r hm s' hl => by have hh := m_overseerlaw53_Make_1_c (s := s') (h26.mono hl) (h27.mono hl) (h28.mono hl) (bx30.le hl) hm; simpa using hh⟩
    exact L.mf Wt.no rfl rfl rfl (L.nil (X.dk kn ⟨im, Sub.fresh ib rfl, i0, i1, i2, i3, fun _ => ⟨rfl, h50⟩, t_⟩))
   ·rintro D e s51 ⟨im, ib, i0, i1, i2, i3, i4, i5, i6, i7, i8, i9, i10⟩ hk hf ha
    obtain ⟨d1, d2, d3, d4, -⟩ := ha
    obtain ⟨a48, c48, g3_⟩ := i3 d3
    obtain ⟨g4_, h50⟩ := i4 d4
    obtain h48 := i9 d3 hk a48 c48 g3_
    have kn : Kn e [(20, .slice a48 r45.length c48), (21, (.func (.func 49) #[] #[.pointer (some ⟨b30, 0, none⟩)]))] := ⟨g3_, g4_, trivial⟩
    refine L.kns _ kn (L.ca cf48 rfl rfl Wt.no rfl (m_slices_DeleteFunc_int_c (s := s51) (p0 := r45) (p1 := (m_overseerlaw53_Make_1 r23)) (t0 := (N + 3)) (tpos hN) h48 h50 er52) rfl ?_)
    rintro _ s53 m54 ⟨a55, c55, rfl, h55, h48⟩
    exact L.nil (X.dk kn ⟨im.trans (m54.one (.inr rfl)), Sub.fresh ib rfl, i0, i1, i2, i3, fun z => let ⟨q, h50⟩ := i4 z; ⟨q, (h50.mono (m54.le (tg0 hN)))⟩, fun _ => ⟨a55, c55, rfl⟩, fun z => Bool.noConfusion ((hf 7 (Nat.le_of_ble_eq_true rfl) rfl).symm.trans z), fun z2 => ((i7 z2).mv m54 (tgN (by decide))), fun z => ((i8 z).mv m54 (tgN (by decide))), fun _ z => Bool.noConfusion (show true = false from z), fun _ _ _ _ _ q3 q5 => by cases g3_.symm.trans q3; cases (show some (.slice a55 r52.1.length c55 : Value) = some _ from q5); exact ⟨h55, h48⟩⟩)
   ·rintro D e s57 ⟨im, ib, i0, i1, i2, i3, i4, i5, i6, i7, i8, i9, i10⟩ hk hf ha
    obtain ⟨d0, d1, d2, d3, d4, d5, -⟩ := ha
    have g0_ := i0 d0
    obtain bx8 := i7 hk
    have kn : Kn e [(2, .pointer (some ⟨b8, 0, none⟩)), (17, .agg #[.slice a26 r23.1.length c26, .int .i64 r23.2.1, .slice a27 r23.2.2.1.length c27, .slice a28 r23.2.2.2.length c28])] := ⟨(ib 2 _ rfl), g0_, trivial⟩
    exact L.kns _ kn (L.st (c := [.slice a26 r23.1.length c26, .int .i64 r23.2.1, .slice a27 r23.2.2.1.length c27, .slice a28 r23.2.2.2.length c28]) (cs' := #[.slice a26 r23.1.length c26, .int .i64 r23.2.1, .slice a27 r23.2.2.1.length c27, .slice a28 r23.2.2.2.length c28]) bx8 ag26.sz Wt.no rfl rfl rfl rfl rfl (Nat.le_of_ble_eq_true rfl) rfl fun s58 m59 bx8 => L.nil (X.dn kn ⟨im.trans (m59.one (.inl rfl)), ib, i0, i1, i2, i3, fun z => let ⟨q, h50⟩ := i4 z; ⟨q, (h50.mono (m59.le (tg0 hN)))⟩, i5, i6, fun z => Bool.noConfusion (show true = false from z), fun _ => by exact bx8, fun z z2 a48 c48 q3 => ((i9 z z2 a48 c48 q3).mv m59 (tgN (by decide)) (tg0 hN)), fun z a48 c48 a55 c55 q3 q5 => let ⟨h55, h48⟩ := i10 z a48 c48 a55 c55 q3 q5; ⟨(h55.mv m59 (tgN (by decide)) (tg0 hN)), (h48.mv m59 (tgN (by decide)) (tg0 hN))⟩⟩))
   ·rintro D e s60 ⟨im, ib, i0, i1, i2, i3, i4, i5, i6, t_⟩ hk hf ha
    obtain ⟨d0, d1, d2, d3, d4, d5, d6, -⟩ := ha
    obtain ⟨a55, c55, g5_⟩ := i5 d5
    have kn : Kn e [(22, .slice a55 r52.1.length c55)] := ⟨g5_, trivial⟩
    exact L.kns _ kn (L.as Wt.no rfl rfl (L.nil (X.dk kn ⟨im, Sub.fresh ib rfl, i0, i1, i2, i3, i4, i5, fun _ _ _ q5 => by cases g5_.symm.trans q5; exact rfl, t_⟩)))
  ·rintro D e s61 hD ⟨im, ib, i0, i1, i2, i3, i4, i5, i6, i7, i8, i9, i10⟩
   obtain ⟨a55, c55, g5_⟩ := i5 (hD 5 rfl)
   have g7_ := i6 (hD 7 rfl) a55 c55 g5_
   obtain bx8 := i8 (hD 6 rfl)
   obtain ⟨a48, c48, g3_⟩ := i3 (hD 3 rfl)
   obtain ⟨h55, h48⟩ := i10 (hD 5 rfl) a48 c48 a55 c55 g3_ g5_
   have h26 := h26.mono (im.le (nor (tg0 hN) (tg0 hN)))
   have h27 := h27.mono (im.le (nor (tg0 hN) (tg0 hN)))
   have h28 := h28.mono (im.le (nor (tg0 hN) (tg0 hN)))
   have m0 := m0.trans (im.weak fun _ e => by rcases e with e | e; (rw [e]; exact up); (rw [e]; exact up))
   refine X.sub (e' := [(3, .slice a55 r52.1.length c55), (2, .pointer (some ⟨b8, 0, none⟩))]) ?_ (Sub.cons g7_ (Sub.cons (ib 2 _ rfl) Sub.nil))
   refine X.seqN (E.ret ?_)
   obtain rfl := Option.some.inj hm
   exact X.rt (.inl rfl) Try.results16 (Rs.cell rfl bx8 ag26 rfl (Rs.tmp rfl Rs.nil)) rfl ⟨_, (s61).ren N (fun k => cond (Nat.beq k 3) u3 (0)), rfl, rfl, m0.ren hNb, ⟨a26, c26, a27, c27, a28, c28, a55, c55, rfl, (h26.ren hN), (h27.ren hN), (h28.ren hN), (h55.ren hN)⟩⟩

theorem ag51 : Ag Try.prog 51 29 := Ag.mk' Try.underlying51 rfl (by kernel_rfl)
theorem cf16 : Cf Try.prog 16 := Cf.mk Try.func16 (by kernel_rfl) (by kernel_rfl)
theorem sl52 : Sl Try.prog 52 5 1 := Sl.mk' Try.underlying52 (by kernel_rfl)
end Go.Proofs.Ytkkemchihllklaa

namespace Go.Proofs.Ytkkemchihllklaa
open Go Go.RowKit

theorem getD_at {xs : List Int} {i : Nat} (h : i < xs.length) : xs.getD i 0 = xs[i] := by
  rw [List.getD_eq_getElem?_getD, List.getElem?_eq_getElem h]; rfl
/-- What the walks of chapter 3 ask of an automaton. -/
structure A3 (a : Aut) (n : Nat) : Prop where
  n1 : n ≤ 4096
  es : ∀ x ∈ a.es, 0 ≤ x.t ∧ x.t < (n : Int)
  el : a.es.length ≤ 1000000
  al : a.al.length ≤ 32
  ml : a.ms.length ≤ 1000000
section
variable {a : Aut} {n : Nat}
theorem found_row (h : A3 a n) {i : Nat} {out y : List Int} (hq : QOk n out) (hi : i < out.length) : iter (m_overseerref03_Found_l2 (autP a) ((i : Int), y)) (0, out) = some (a.al.foldl (c3In a.es (out.getD i 0)) out) := by
  have hel := h.el; have hal := h.al; have hn1 := h.n1
  refine (iter_foldl (f := m_overseerref03_Found_l2 (autP a) ((i : Int), y)) (xs := a.al) (fun k s => ((k : Int), s)) (c3In a.es (out.getD i 0)) (fun s => s) (fun _ s => QOk n s ∧ ∃ r, s = out ++ r) (by omega) (fun k hk s hp => ?_) (fun s hp => ?_) ⟨hq, [], (List.append_nil _).symm⟩).1
  · obtain ⟨hs, r, rfl⟩ := hp
    obtain ⟨h1, ⟨r1, h2⟩, -⟩ := c3In_fold h.es (s := out.getD i 0) [a.al[k]] _ hs
    rw [List.foldl_cons, List.foldl_nil] at h1 h2
    refine ⟨?_, h1, r ++ r1, by rw [h2, List.append_assoc]⟩
    have hlen := hs.len
    have hil : i < (out ++ r).length := by rw [List.length_append]; omega
    have hr := hq.rng out[i] (List.getElem_mem hi)
    have hj : ∀ l : List Int, m_overseerref03_Found_j2 ((k : Int), out ++ r) l = some (.inl (((k + 1 : Nat) : Int), l)) := fun l => by
      rw [m_overseerref03_Found_j2]; dsimp only; rw [nxt (by omega)]
    rw [m_overseerref03_Found_l2]
    dsimp only
    rw [if_pos (show decide ((k : Int) < ((autP a).1.length : Int)) = true from ct_lt hk), idx_at hil, Option.bind_some, show idx (autP a).1 (k : Int) = some a.al[k] from idx_at hk, Option.bind_some, List.getElem_append_left hi,
      show out[i] = ((out[i].toNat : Nat) : Int) by omega, rstep_eq (by omega) (fun x hx => (h.es x hx).1), Option.bind_some]
    rw [c3In, getD_at hi, stF]
    cases hst : stepF a.es out[i].toNat a.al[k] with
    | none => exact hj _
    | some t =>
      dsimp only
      rw [if_pos (by simp), rhas_eq (by omega), Option.bind_some, Option.bind_some]
      cases hb : hasB (out ++ r) (t : Int) with
      | true => rw [if_neg (by simp), if_pos rfl, hj]
      | false => rw [if_pos (by simp), if_neg (by simp), app_eq (by rw [List.length_cons, List.length_nil]; omega), Option.bind_some, hj]
  · rw [m_overseerref03_Found_l2]
    dsimp only
    rw [if_neg (show ¬ decide ((a.al.length : Int) < ((autP a).1.length : Int)) = true from ct_ge)]
theorem found_go (h : A3 a n) : ∀ (f i : Nat) (out : List Int), QOk n out → n + 1 ≤ i + f → iterF (m_overseerref03_Found_l1 (autP a)) (f + 1) ((i : Int), out) = some (c3Loop a.es a.al f i out)
  | 0, i, out, hq, hf => by
    have := hq.len
    rw [iterF_succ, m_overseerref03_Found_l1]
    dsimp only
    rw [if_neg (by simp; omega)]
    rfl
  | f + 1, i, out, hq, hf => by
    have hl := hq.len
    have hn1 := h.n1
    rw [iterF_succ, m_overseerref03_Found_l1, c3Loop]
    dsimp only
    by_cases hi : i < out.length
    · rw [if_pos (by simpa using hi), if_pos hi, found_row h hq hi, Option.bind_some, nxt (by omega)]
      exact found_go h f (i + 1) _ (c3In_fold h.es a.al out hq).1 (by omega)
    · rw [if_neg (by simpa using hi), if_neg hi]
theorem found_eq (h : A3 a n) (hn : a.n = n) (h0 : 0 < n) : m_overseerref03_Found (autP a) = some (foundL a) ∧ QOk n (foundL a) := by
  have hn1 := h.n1
  have hq0 : QOk n [0] := ⟨by simp, fun s hs => by rw [List.mem_singleton.1 hs]; omega⟩
  have hg := found_go h (n + 1) 0 [0] hq0 (by omega)
  have hfd : foundL a = c3Loop a.es a.al (n + 1) 0 [0] := by rw [foundL, if_neg (by omega), hn, Int.toNat_natCast]
  refine ⟨?_, ?_⟩
  · rw [m_overseerref03_Found, if_pos (show decide ((autP a).2.1 > 0) = true from decide_eq_true (show a.n > 0 by omega)), app_eq (by simp), Option.bind_some, m_overseerref03_Found_j1, show iter (m_overseerref03_Found_l1 (autP a)) (0, ([] : List Int) ++ [0]) = _ from iter_of (by omega) hg, hfd]
    rfl
  · rw [hfd]
    exact (c3_loop h.es (n + 1) 0 [0] hq0 (fun k hk => absurd hk (Nat.not_lt_zero _)) (by omega)).1
def c3Put (a : Aut) (q : List Int) (i : Nat) (out : List (Int × Int × Int)) (e : Int) : List (Int × Int × Int) := match stepF a.es (q.getD i 0).toNat e with
  | some t => out ++ [((i : Int), e, idxI q (t : Int))]
  | none => out
theorem c3Put_fold (q : List Int) (i : Nat) : ∀ (al : List Int) (out : List (Int × Int × Int)), al.foldl (c3Put a q i) out = out ++ (c3Row ⟨al, a.n, a.ms, a.es⟩ q i).map edP
  | [], out => by simp [c3Row]
  | e :: al, out => by
    rw [List.foldl_cons, c3Put_fold q i al, c3Put, c3Row, c3Row]
    dsimp only
    rw [List.filterMap_cons]
    generalize stepF a.es (q.getD i 0).toNat e = r
    cases r <;> simp [edP]
theorem c3Row_len (q : List Int) (i : Nat) : (c3Row a q i).length ≤ a.al.length := List.length_filterMap_le _ _
theorem rows_len (q : List Int) : ∀ m, ((List.range m).flatMap (c3Row a q)).length ≤ m * a.al.length
  | 0 => by simp
  | m + 1 => by
    have h1 := rows_len q m
    have h2 := c3Row_len (a := a) q m
    rw [List.range_succ, List.flatMap_append, List.length_append, Nat.succ_mul]
    simp only [List.flatMap_cons, List.flatMap_nil, List.append_nil]
    omega
theorem canon_row (h : A3 a n) {q : List Int} (hq : QOk n q) {i : Nat} (hi : i < q.length) {ms : List Int} {x y : List (Int × Int × Int)} (hx : x.length ≤ 4000000) : iter (m_overseerref03_Canonical_l2 (autP a) q ((i : Int), ms, y)) (0, x) = some (x ++ (c3Row a q i).map edP) := by
  have hel := h.el; have hal := h.al; have hn1 := h.n1; have hql := hq.len
  have hr := hq.rng q[i] (List.getElem_mem hi)
  refine ((iter_foldl (f := m_overseerref03_Canonical_l2 (autP a) q ((i : Int), ms, y)) (xs := a.al) (fun k s => ((k : Int), s)) (c3Put a q i) (fun s => s) (fun k s => s.length ≤ x.length + k) (by omega) (fun k hk s hp => ?_) (fun s hp => ?_) (Nat.le_refl _)).1).trans (by rw [c3Put_fold])
  · have hj : ∀ l : List (Int × Int × Int), m_overseerref03_Canonical_j2 ((k : Int), s) l = some (.inl (((k + 1 : Nat) : Int), l)) := fun l => by
      rw [m_overseerref03_Canonical_j2]; dsimp only; rw [nxt (by omega)]
    rw [m_overseerref03_Canonical_l2, c3Put, getD_at hi]
    dsimp only
    rw [if_pos (show decide ((k : Int) < ((autP a).1.length : Int)) = true from ct_lt hk), idx_at hi, Option.bind_some, show idx (autP a).1 (k : Int) = some a.al[k] from idx_at hk, Option.bind_some,
      show q[i] = ((q[i].toNat : Nat) : Int) by omega, rstep_eq (by omega) (fun x hx => (h.es x hx).1), Option.bind_some, stF, Int.toNat_natCast]
    cases hst : stepF a.es q[i].toNat a.al[k] with
    | none => exact ⟨hj _, by dsimp only; omega⟩
    | some t =>
      dsimp only
      rw [if_pos (by simp), Option.bind_some, rindex_eq (by omega), Option.bind_some, app_eq (by rw [List.length_cons, List.length_nil]; omega), Option.bind_some, hj]
      exact ⟨rfl, by rw [List.length_append, List.length_cons, List.length_nil]; omega⟩
  · rw [m_overseerref03_Canonical_l2]
    dsimp only
    rw [if_neg (show ¬ decide ((a.al.length : Int) < ((autP a).1.length : Int)) = true from ct_ge)]
/-- The canonical form. -/
theorem canon_eq (h : A3 a n) (hn : a.n = n) (h0 : 0 < n) : m_overseerref03_Canonical (autP a) = some (autP (canon3 a)) := by
  have hel := h.el; have hal := h.al; have hn1 := h.n1; have hml := h.ml
  obtain ⟨hf, hq⟩ := found_eq h hn h0
  have hql := hq.len
  generalize hqq : foundL a = q at hf hq hql
  have hi := iter_run (f := m_overseerref03_Canonical_l1 (autP a) q) (fun i => ((i : Int), (((List.range i).filter fun i => hasB a.ms (q.getD i 0)).map fun (i : Nat) => (i : Int)), ((List.range i).flatMap (c3Row a q)).map edP)) q.length (by omega) (o := (rrMs a.ms q, ((List.range q.length).flatMap (c3Row a q)).map edP)) (fun i hi => by
    have hrl := rows_len (a := a) q i
    have hmul : i * a.al.length ≤ 4096 * 32 := Nat.mul_le_mul (by omega) hal
    have hfl : ((List.range i).filter fun i => hasB a.ms (q.getD i 0)).length ≤ i := Nat.le_trans (List.length_filter_le ..) (by simp)
    have hr := hq.rng q[i] (List.getElem_mem hi)
    have hj : ∀ (m1 : List Int), m_overseerref03_Canonical_j1 (autP a) q ((i : Int), (((List.range i).filter fun i => hasB a.ms (q.getD i 0)).map fun (i : Nat) => (i : Int)), ((List.range i).flatMap (c3Row a q)).map edP) m1 = some (.inl (((i + 1 : Nat) : Int), m1, ((List.range (i + 1)).flatMap (c3Row a q)).map edP)) := fun m1 => by
      rw [m_overseerref03_Canonical_j1]
      dsimp only
      rw [canon_row h hq hi (by rw [List.length_map]; omega), Option.bind_some, nxt (by omega), List.range_succ, List.flatMap_append, List.map_append]
      simp only [List.flatMap_cons, List.flatMap_nil, List.append_nil]
    rw [m_overseerref03_Canonical_l1]
    dsimp only
    rw [if_pos (ct_lt hi), idx_at hi, Option.bind_some, show m_overseerref03_has (autP a).2.2.1 q[i] = some (hasB a.ms q[i]) from rhas_eq (xs := a.ms) (by omega), Option.bind_some]
    cases hb : hasB a.ms q[i] with
    | true =>
      rw [if_pos rfl, app_eq (by rw [List.length_map, List.length_cons, List.length_nil]; omega), Option.bind_some, hj, List.range_succ, List.filter_append, List.filter_cons_of_pos (by rw [getD_at hi, hb]), List.map_append]
      rfl
    | false =>
      rw [if_neg (by simp), hj, List.range_succ, List.filter_append, List.filter_cons_of_neg (by rw [getD_at hi, hb]; simp), List.filter_nil, List.append_nil]) (by
    rw [m_overseerref03_Canonical_l1]
    dsimp only
    rw [if_neg ct_ge]
    rfl)
  rw [m_overseerref03_Canonical, hf, Option.bind_some, show m_overseerref03_Empty (autP a).1 = some (a.al, 0, [], []) from rempty_eq (xs := a.al) (by omega), Option.bind_some, show iter (m_overseerref03_Canonical_l1 (autP a) q) (0, (a.al, (0 : Int), ([] : List Int), ([] : List (Int × Int × Int))).2.2) = _ from hi, Option.bind_some]
  rw [canon3, autP, hqq]
end
/-- The 25 cells of a graph. -/
def cells25 (g : (Int × Int × Int × Int × Int) × (Int × Int × Int × Int × Int) × (Int × Int × Int × Int × Int) × (Int × Int × Int × Int × Int) × (Int × Int × Int × Int × Int)) : List Int :=
  [g.1.1, g.1.2.1, g.1.2.2.1, g.1.2.2.2.1, g.1.2.2.2.2, g.2.1.1, g.2.1.2.1, g.2.1.2.2.1, g.2.1.2.2.2.1, g.2.1.2.2.2.2, g.2.2.1.1, g.2.2.1.2.1, g.2.2.1.2.2.1, g.2.2.1.2.2.2.1, g.2.2.1.2.2.2.2, g.2.2.2.1.1, g.2.2.2.1.2.1, g.2.2.2.1.2.2.1, g.2.2.2.1.2.2.2.1, g.2.2.2.1.2.2.2.2, g.2.2.2.2.1, g.2.2.2.2.2.1, g.2.2.2.2.2.2.1, g.2.2.2.2.2.2.2.1, g.2.2.2.2.2.2.2.2]
/-- The automaton of a graph is right. -/
theorem make3_ex {ev : List Int} (ie : Inc ev) (he : ∀ x ∈ ev, 0 ≤ x ∧ x < 32) (hel : ev.length ≤ 5) {s m : Int} {g : (Int × Int × Int × Int × Int) × (Int × Int × Int × Int × Int) × (Int × Int × Int × Int × Int) × (Int × Int × Int × Int × Int) × (Int × Int × Int × Int × Int)} (hs : 0 ≤ s ∧ s < 250) (hg : ∀ y ∈ cells25 g, 0 ≤ y ∧ y < 256) :
    ∃ a : Aut, m_overseerlaw03_Make ev (s, m, g) = some (autP a) ∧ a.err = 0 ∧ 1 ≤ a.n ∧ a.n ≤ 5 ∧ Sorted a.es ∧ a.al = ev ∧ a.es.length ≤ 25 ∧ a.ms.length ≤ 5 := by
  obtain ⟨n, hn0, hn5, hn⟩ : ∃ n : Nat, 0 < n ∧ n ≤ 5 ∧ W (1 + W (s.tmod 5)) = (n : Int) := by
    refine ⟨(1 + s % 5).toNat, by omega, by omega, ?_⟩
    rw [Int.tmod_eq_emod_of_nonneg hs.1, W_of (x := s % 5) (by omega) (by omega), W_of (by omega) (by omega)]
    omega
  have hn2 : W ((n : Int) + 2) = ((n + 2 : Nat) : Int) := by rw [show (n : Int) + 2 = ((n + 2 : Nat) : Int) by omega, W_nat (by omega)]
  have key : ∃ o : List Int × List (Int × Int × Int), iter (m_overseerlaw03_Make_l1 ev (s, m, g)) (0, ([] : List Int), ([] : List (Int × Int × Int))) = some o ∧ o.1.length ≤ 5 ∧ ∃ es : List Ed, o.2 = es.map edP ∧ es.length ≤ 25 ∧ ∀ x ∈ es, 0 ≤ x.t ∧ x.t < (n : Int) := by
    refine iter_inv (f := m_overseerlaw03_Make_l1 ev (s, m, g)) (fun i t => t.1 = (i : Int) ∧ t.2.1.length ≤ i ∧ ∃ es : List Ed, t.2.2 = es.map edP ∧ es.length ≤ 5 * i ∧ ∀ x ∈ es, 0 ≤ x.t ∧ x.t < (n : Int)) _ n 0 (by omega) (fun i t hi ⟨e1, e2, es, e3, e4, e5⟩ => ?_) (fun t ⟨e1, e2, es, e3, e4, e5⟩ => ?_) (by omega) _ ⟨rfl, by simp, [], rfl, by simp, fun x hx => by cases hx⟩
    · obtain ⟨t1, t2, t3⟩ := t
      dsimp only at e1 e2 e3 e4
      subst e1; subst e3
      have hj : ∀ l : List Int, l.length ≤ i + 1 → ∃ s', m_overseerlaw03_Make_j1 ev (s, m, g) ((i : Int), t2, es.map edP) l = some (.inl s') ∧ s'.1 = ((i + 1 : Nat) : Int) ∧ s'.2.1.length ≤ i + 1 ∧ ∃ es : List Ed, s'.2.2 = es.map edP ∧ es.length ≤ 5 * (i + 1) ∧ ∀ x ∈ es, 0 ≤ x.t ∧ x.t < (n : Int) := by
        intro l hl
        obtain ⟨o, h1, h2⟩ := iter_inv (f := m_overseerlaw03_Make_l2 ev (s, m, g) ((i : Int), t2, es.map edP)) (fun k t => t.1 = (k : Int) ∧ ∃ es' : List Ed, t.2 = es'.map edP ∧ es'.length ≤ es.length + k ∧ ∀ x ∈ es', 0 ≤ x.t ∧ x.t < (n : Int)) (fun o => ∃ es' : List Ed, o = es'.map edP ∧ es'.length ≤ es.length + 5 ∧ ∀ x ∈ es', 0 ≤ x.t ∧ x.t < (n : Int)) ev.length 0 (by omega) (fun k t hk ⟨g1, es', g3, g4, g5⟩ => by
            obtain ⟨u1, u2⟩ := t
            dsimp only at g1 g3
            subst g1; subst g3
            have hj2 : ∀ l : List (Int × Int × Int), m_overseerlaw03_Make_j2 ((k : Int), es'.map edP) l = some (.inl (((k + 1 : Nat) : Int), l)) := fun l => by
              rw [m_overseerlaw03_Make_j2]; dsimp only; rw [nxt (by omega)]
            left
            have hlt : i * 5 + k * 1 < (cells25 g).length := by show _ < 25; omega
            obtain ⟨v, hcell, hv⟩ : ∃ v, (cells25 g)[i * 5 + k * 1]? = some v ∧ 0 ≤ v ∧ v < 256 := ⟨_, List.getElem?_eq_getElem hlt, hg _ (List.getElem_mem hlt)⟩
            rw [cells25] at hcell
            rw [m_overseerlaw03_Make_l2]
            dsimp only
            rw [if_pos (by simp; omega), show rng (i : Int) 5 = some () from if_pos (by simp; omega), Option.bind_some, show rng (k : Int) 5 = some () from if_pos (by simp; omega), Option.bind_some, Int.toNat_natCast, Int.toNat_natCast, hcell, Option.bind_some, hn, hn2, show nz ((n + 2 : Nat) : Int) = some () from if_neg (by omega), Option.bind_some, W_of (x := v) (by omega) (by omega), Int.tmod_eq_emod_of_nonneg hv.1]
            have hm0 := Int.emod_nonneg v (show ((n + 2 : Nat) : Int) ≠ 0 by omega)
            by_cases hlt2 : v % ((n + 2 : Nat) : Int) < (n : Int)
            · rw [if_pos (decide_eq_true hlt2), idx_at hk, Option.bind_some, app_eq (by rw [List.length_map, List.length_cons, List.length_nil]; omega), Option.bind_some, hj2]
              refine ⟨_, rfl, rfl, es' ++ [⟨(i : Int), ev[k], v % ((n + 2 : Nat) : Int)⟩], by simp [edP], by simp; omega, fun x hx => ?_⟩
              rcases List.mem_append.1 hx with h | h
              · exact g5 x h
              · rw [List.mem_singleton.1 h]; exact ⟨hm0, hlt2⟩
            · rw [if_neg (by simpa using hlt2), hj2]
              exact ⟨_, rfl, rfl, es', rfl, by omega, g5⟩) (fun t ⟨g1, es', g3, g4, g5⟩ => by
            obtain ⟨u1, u2⟩ := t
            dsimp only at g1 g3
            subst g1; subst g3
            rw [m_overseerlaw03_Make_l2]
            dsimp only
            rw [if_neg (by simp)]
            exact ⟨_, rfl, es', rfl, by omega, g5⟩) (by omega) (0, es.map edP) ⟨rfl, es, rfl, by omega, e5⟩
        obtain ⟨es', g1, g2, g3⟩ := h2
        rw [m_overseerlaw03_Make_j1]
        dsimp only
        rw [h1, Option.bind_some, nxt (by omega)]
        exact ⟨_, rfl, rfl, hl, es', g1, by omega, g3⟩
      left
      rw [m_overseerlaw03_Make_l1]
      dsimp only
      rw [hn, if_pos (by simp; omega), show ng (i : Int) = some () from if_neg (by omega), Option.bind_some]
      split
      · rw [app_eq (by simp; omega), Option.bind_some]
        exact hj _ (by simp; omega)
      · exact hj _ (by omega)
    · obtain ⟨t1, t2, t3⟩ := t
      dsimp only at e1 e2 e3 e4
      subst e1; subst e3
      rw [m_overseerlaw03_Make_l1]
      dsimp only
      rw [hn, if_neg (by simp)]
      exact ⟨_, rfl, by dsimp only; omega, es, rfl, by omega, e5⟩
  obtain ⟨o, h1, h2, es, h3, h4, h5⟩ := key
  have hA : A3 ⟨ev, n, o.1, es⟩ n := ⟨by omega, h5, by show es.length ≤ _; omega, by show ev.length ≤ _; omega, by show o.1.length ≤ _; omega⟩
  have hal : setErr 32 none ev = 0 := setErr_ok ie he (fun q hq => by cases hq)
  obtain ⟨r1, r2, r3, r4, r5⟩ := canon3_right (a := ⟨ev, n, o.1, es⟩) (n := n) rfl hn0 h5 ie hal (by omega)
  refine ⟨canon3 ⟨ev, n, o.1, es⟩, ?_, r1, r2, by omega, r4, r5, ?_, ?_⟩
  · rw [m_overseerlaw03_Make]
    dsimp only
    rw [if_neg (by simp; omega), rempty_eq (by omega), Option.bind_some]
    dsimp only
    rw [h1, Option.bind_some, hn]
    obtain ⟨o1, o2⟩ := o
    dsimp only at h3
    subst h3
    rw [show m_overseerref03_Canonical (ev, (n : Int), o1, es.map edP) = _ from canon_eq (a := ⟨ev, n, o1, es⟩) hA rfl hn0]
    rfl
  · have h6 := rows_len (a := ⟨ev, n, o.1, es⟩) (foundL ⟨ev, n, o.1, es⟩) (foundL ⟨ev, n, o.1, es⟩).length
    have h7 : ((foundL ⟨ev, n, o.1, es⟩).length : Int) ≤ n := r3
    have h8 : (foundL ⟨ev, n, o.1, es⟩).length * ev.length ≤ 5 * 5 := Nat.mul_le_mul (by omega) hel
    exact Nat.le_trans h6 h8
  · have h7 : ((foundL ⟨ev, n, o.1, es⟩).length : Int) ≤ n := r3
    show (rrMs _ _).length ≤ 5
    rw [rrMs, List.length_map]
    exact Nat.le_trans (List.length_filter_le ..) (by rw [List.length_range]; omega)
end Go.Proofs.Ytkkemchihllklaa

namespace Go.Proofs.Ytkkemchihllklaa
open Go Go.RowKit

/-- The first place whose element has a property. -/
theorem indexF_eq {xs : List Int} {p : Int → Option Bool} {q : Int → Bool} (hl : xs.length < 4611686018427387904) (hp : ∀ x ∈ xs, p x = some (q x)) : m_slices_IndexFunc_int xs p = some (if xs.any q = true then ((xs.findIdx q : Nat) : Int) else -1) := by
  have h := iter_scan (f := m_slices_IndexFunc_int_l1 xs p) (xs := xs) (fun i (_ : Unit) => (i : Int)) (fun i _ y => if q y then .inr (.inr (i : Int)) else .inl ()) (fun _ => .inl ()) (fun _ _ => True) (by omega) (fun i h _ _ => by
      rw [m_slices_IndexFunc_int_l1, if_pos (ct_lt h), idx_at h, Option.bind_some, hp _ (List.getElem_mem h), Option.bind_some, nxt (by omega)]
      refine ⟨fun s' e => ?_, fun o e => ?_⟩
      · split at e
        · cases e
        · rename_i h1; rw [if_neg h1]; exact ⟨rfl, trivial⟩
      · split at e
        · rename_i h1; rw [if_pos h1]; cases e; rfl
        · cases e) (fun _ _ => by rw [m_slices_IndexFunc_int_l1, if_neg ct_ge]) (s := ()) trivial
  have key : ∀ (ys : List Int) (i : Nat), scanL (O := Unit ⊕ Int) (fun i (_ : Unit) y => if q y then .inr (.inr (i : Int)) else .inl ()) (fun _ => .inl ()) i ys () = if ys.any q = true then .inr ((i + ys.findIdx q : Nat) : Int) else .inl () := by
    intro ys
    induction ys with
    | nil => intro i; rfl
    | cons y ys ih =>
      intro i
      rw [scanL, List.any_cons, List.findIdx_cons]
      cases hy : q y with
      | true => rfl
      | false =>
        rw [if_neg (by simp)]
        dsimp only
        rw [ih, Bool.false_or, cond_false]
        split
        · congr 2; omega
        · rfl
  rw [m_slices_IndexFunc_int, show iter (m_slices_IndexFunc_int_l1 xs p) 0 = _ from h, Option.bind_some, key]
  by_cases hm : xs.any q = true
  · rw [if_pos hm, if_pos hm]; simp
  · rw [if_neg hm, if_neg hm]
theorem set_app {xs ys : List Int} {v : Int} {n : Nat} (h : xs.length = n) (hy : 0 < ys.length) : (xs ++ ys).set n v = xs ++ [v] ++ ys.drop 1 := by
  subst h
  rw [List.set_append_right _ _ (Nat.le_refl _), Nat.sub_self]
  cases ys with
  | nil => cases hy
  | cons y ys => simp
/-- What is left of a list. -/
theorem deleteF_eq {xs : List Int} {p : Int → Option Bool} {q : Int → Bool} (hl : xs.length < 4611686018427387904) (hp : ∀ x ∈ xs, p x = some (q x)) : ∃ ys, m_slices_DeleteFunc_int xs p = some (xs.filter (fun x => !q x), ys) ∧ ys.length = xs.length := by
  rw [m_slices_DeleteFunc_int, indexF_eq hl hp, Option.bind_some]
  by_cases hm : xs.any q = true
  · rw [if_pos hm]
    have hlt : xs.findIdx q < xs.length := List.findIdx_lt_length_of_exists (by simpa [List.any_eq_true] using hm)
    have hpre : (xs.take (xs.findIdx q)).filter (fun x => !q x) = xs.take (xs.findIdx q) := by
      refine List.filter_eq_self.2 fun x hx => ?_
      obtain ⟨k, hk, rfl⟩ := List.mem_iff_getElem.1 hx
      rw [List.length_take] at hk
      rw [List.getElem_take]
      have := List.not_of_lt_findIdx (p := q) (xs := xs) (i := k) (by omega)
      simpa using this
    generalize hj0 : xs.findIdx q = j0 at hlt hpre
    have hq0 : q xs[j0] = true := by
      have := List.findIdx_getElem (xs := xs) (p := q) (w := by rw [hj0]; exact hlt)
      simpa [hj0] using this
    rw [if_neg (by simp), show W ((j0 : Int) + 1) = ((j0 + 1 : Nat) : Int) from nxt (by omega)]
    have hi := iter_inv (f := m_slices_DeleteFunc_int_l1 p) (fun j t => j0 + 1 + j ≤ xs.length ∧ t.1 = ((j0 + 1 + j : Nat) : Int) ∧ ∃ r : List Int, t.2.1 = ((((xs.take (j0 + 1 + j)).filter fun x => !q x).length : Nat) : Int) ∧ t.2.2 = (xs.take (j0 + 1 + j)).filter (fun x => !q x) ++ r ++ xs.drop (j0 + 1 + j) ∧ ((xs.take (j0 + 1 + j)).filter fun x => !q x).length + r.length = j0 + 1 + j ∧ 0 < r.length)
        (fun o => ∃ r : List Int, o.1 = (((xs.filter fun x => !q x).length : Nat) : Int) ∧ o.2 = xs.filter (fun x => !q x) ++ r ∧ (xs.filter fun x => !q x).length + r.length = xs.length)
        (xs.length - (j0 + 1)) 0 (by omega) (fun j t hj ⟨e0, e1, r, e2, e3, e4, e5⟩ => by
          obtain ⟨t1, t2, t3⟩ := t
          dsimp only at e1 e2 e3
          subst e1; subst e2; subst e3
          left
          have hlt2 : j0 + 1 + j < xs.length := by omega
          generalize hF : (xs.take (j0 + 1 + j)).filter (fun x => !q x) = F at e4
          have hlen : (F ++ r ++ xs.drop (j0 + 1 + j)).length = xs.length := by rw [List.length_append, List.length_append, List.length_drop]; omega
          have hat : (F ++ r ++ xs.drop (j0 + 1 + j))[j0 + 1 + j]'(by omega) = xs[j0 + 1 + j] := by
            rw [List.getElem_append_right (by rw [List.length_append]; omega), List.getElem_drop]
            congr 1; rw [List.length_append, e4, Nat.sub_self]; rfl
          have htk : (xs.take (j0 + 1 + (j + 1))).filter (fun x => !q x) = F ++ (if q xs[j0 + 1 + j] then [] else [xs[j0 + 1 + j]]) := by
            rw [show j0 + 1 + (j + 1) = j0 + 1 + j + 1 by omega, List.take_succ_eq_append_getElem hlt2, List.filter_append, hF]
            cases h : q xs[j0 + 1 + j] <;> simp [h]
          have hdr : xs.drop (j0 + 1 + j) = xs[j0 + 1 + j] :: xs.drop (j0 + 1 + (j + 1)) := by rw [List.drop_eq_getElem_cons hlt2]; rfl
          rw [m_slices_DeleteFunc_int_l1]
          dsimp only
          rw [if_pos (by rw [hlen]; exact ct_lt hlt2), idx_at (by omega), Option.bind_some, hat, hp _ (List.getElem_mem hlt2), Option.bind_some]
          cases hc : q xs[j0 + 1 + j] with
          | true =>
            rw [if_neg (by simp), m_slices_DeleteFunc_int_j1]
            dsimp only
            rw [nxt (by omega)]
            rw [hc, if_pos rfl, List.append_nil] at htk
            refine ⟨_, rfl, by omega, rfl, r ++ [xs[j0 + 1 + j]], ?_, ?_, ?_, ?_⟩
            · rw [htk]
            · rw [htk, hdr]; simp
            · rw [htk, List.length_append, List.length_cons, List.length_nil]; omega
            · rw [List.length_append]; omega
          | false =>
            rw [if_pos (by simp), idx_at (show F.length < _ by omega), Option.bind_some, upd, if_pos ⟨by omega, by omega⟩, Option.bind_some, m_slices_DeleteFunc_int_j1]
            dsimp only
            rw [nxt (by omega), nxt (by omega), Int.toNat_natCast]
            rw [hc, if_neg (by simp)] at htk
            refine ⟨_, rfl, by omega, rfl, r.drop 1 ++ [xs[j0 + 1 + j]], ?_, ?_, ?_, ?_⟩
            · rw [htk, List.length_append]; rfl
            · rw [htk]
              dsimp only
              rw [List.append_assoc F r, set_app rfl (by rw [List.length_append]; omega), hdr, List.drop_append_of_le_length (by omega)]
              simp
            · rw [htk, List.length_append, List.length_append, List.length_drop, List.length_cons, List.length_nil]; omega
            · rw [List.length_append, List.length_cons]; omega) (fun t ⟨e0, e1, r, e2, e3, e4, e5⟩ => by
          obtain ⟨t1, t2, t3⟩ := t
          dsimp only at e1 e2 e3
          subst e1; subst e2; subst e3
          have he : j0 + 1 + (xs.length - (j0 + 1)) = xs.length := by omega
          rw [he] at e4 ⊢
          rw [List.take_length] at e4 ⊢
          rw [List.drop_length, List.append_nil, m_slices_DeleteFunc_int_l1]
          dsimp only
          rw [if_neg (by rw [List.length_append, e4]; exact ct_ge)]
          exact ⟨_, rfl, r, rfl, rfl, e4⟩) (by omega) (((j0 + 1 : Nat) : Int), (j0 : Int), xs) ⟨by omega, rfl, [xs[j0]], by
            rw [show j0 + 1 + 0 = j0 + 1 by omega, List.take_succ_eq_append_getElem hlt, List.filter_append, hpre, List.filter_cons_of_neg (by simpa using hq0), List.filter_nil, List.append_nil, List.length_take]
            dsimp only; omega, by
            rw [show j0 + 1 + 0 = j0 + 1 by omega, List.take_succ_eq_append_getElem hlt, List.filter_append, hpre, List.filter_cons_of_neg (by simpa using hq0), List.filter_nil, List.append_nil, ← List.take_succ_eq_append_getElem hlt, List.take_append_drop], by
            rw [show j0 + 1 + 0 = j0 + 1 by omega, List.take_succ_eq_append_getElem hlt, List.filter_append, hpre, List.filter_cons_of_neg (by simpa using hq0), List.filter_nil, List.append_nil, List.length_take, List.length_cons, List.length_nil]
            omega, by simp⟩
    obtain ⟨o, h1, r, h2, h3, h4⟩ := hi
    obtain ⟨o1, o2⟩ := o
    dsimp only at h2 h3
    subst h2; subst h3
    generalize xs.filter (fun x => !q x) = F at h1 h4
    rw [h1, Option.bind_some]
    dsimp only
    rw [slc, if_pos ⟨by omega, by rw [List.length_append]; omega, by omega⟩, Option.bind_some, clrG, if_pos (by rw [List.length_append]; omega), Option.bind_some, Int.toNat_natCast, List.take_left' rfl, slc, if_pos ⟨by omega, by omega, by rw [List.length_append]; omega⟩, Option.bind_some]
    refine ⟨F ++ List.replicate ((F ++ r).length - F.length) 0, ?_, ?_⟩
    · rw [Int.toNat_natCast, List.take_left' rfl]; rfl
    · rw [List.length_append, List.length_replicate, List.length_append]; omega
  · rw [if_neg hm, if_pos (by simp)]
    have hn : xs.filter (fun x => !q x) = xs := by
      refine List.filter_eq_self.2 fun x hx => ?_
      have h2 : xs.any q = false := by simpa using hm
      have := List.any_eq_false.1 h2 x hx
      simpa using this
    rw [hn]
    exact ⟨_, rfl, rfl⟩
theorem inc_nodup {xs : List Int} (h : Inc xs) : xs.Nodup := by
  unfold Inc at h
  exact List.Pairwise.imp (fun {a b} hab e => by omega) h
theorem sub_len {xs ys : List Int} (h : Inc xs) (hs : ∀ x ∈ xs, x ∈ ys) : xs.length ≤ ys.length := (inc_nodup h).length_le_of_subset hs
theorem subB_of {xs ys : List Int} (h : ∀ x ∈ xs, x ∈ ys) : subB xs ys = true := List.all_eq_true.2 fun x hx => hasB_true.2 (h x hx)
/-- A sketch's cells are bytes. -/
abbrev Sketch : Type := Int × (Int × Int × ((Int × Int × Int × Int × Int) × (Int × Int × Int × Int × Int) × (Int × Int × Int × Int × Int) × (Int × Int × Int × Int × Int) × (Int × Int × Int × Int × Int))) × Int
structure SkOk (x : Sketch) : Prop where
  s : 0 ≤ x.2.1.1 ∧ x.2.1.1 < 256
  g : ∀ y ∈ cells25 x.2.1.2.2, 0 ≤ y ∧ y < 256
/-- What a sketch is. -/
structure SkIn (a : Aut) (l : List Int) (n : Nat) : Prop where
  gen : GenIn a l n
  ia : Inc a.al
  ic : Inc l
  al : ∀ x ∈ a.al, 0 ≤ x ∧ x < 5
  sub : ∀ x ∈ l, x ∈ a.al
  err : a.err = 0
  so : Sorted a.es
  ms : a.ms.length ≤ 5
  n5 : n ≤ 5
theorem err_ed {a : Aut} (h : a.err = 0) : ∀ x ∈ a.es, 0 ≤ x.f ∧ x.f < a.n ∧ 0 ≤ x.t ∧ x.t < a.n ∧ x.e ∈ a.al := by
  have he : edErr a.al a.n none a.es = 0 := by
    unfold Aut.err at h
    split at h
    · rename_i h1; rw [h] at h1; exact absurd h1 (by decide)
    · split at h
      · cases h
      · split at h
        · cases h
        · split at h
          · rename_i h1; rw [h] at h1; exact absurd h1 (by decide)
          · exact h
  have key : ∀ (es : List Ed) (p : Option Ed), edErr a.al a.n p es = 0 → ∀ x ∈ es, 0 ≤ x.f ∧ x.f < a.n ∧ 0 ≤ x.t ∧ x.t < a.n ∧ x.e ∈ a.al := by
    intro es
    induction es with
    | nil => intro p _ x hx; cases hx
    | cons y es ih =>
      intro p h x hx
      rw [edErr] at h
      split at h
      · cases h
      · rename_i h1
        split at h
        · cases h
        · rename_i h2
          split at h
          · cases h
          · rcases List.mem_cons.1 hx with rfl | hx
            · have h3 : hasB a.al x.e = true := by simpa using h2
              have h4 := hasB_true.1 h3
              exact ⟨by omega, by omega, by omega, by omega, h4⟩
            · exact ih _ h x hx
  exact key a.es none he
theorem make53_ex {x : Sketch} (h : SkOk x) : ∃ (a : Aut) (l : List Int) (n : Nat), m_overseerlaw53_Make x = some (autP a, l) ∧ SkIn a l n := by
  obtain ⟨ev, h1, h2, h3, h4⟩ := events_ex x.1
  have hs : 0 ≤ x.2.1.1.tmod 5 ∧ x.2.1.1.tmod 5 < 250 := by
    rw [Int.tmod_eq_emod_of_nonneg h.s.1]; omega
  obtain ⟨a, g1, g2, g3, g4, g5, g6, g7, g8⟩ := make3_ex h2 (fun y hy => by have := h3 y hy; omega) h4 (s := x.2.1.1.tmod 5) (m := x.2.1.2.1) (g := x.2.1.2.2) hs h.g
  obtain ⟨ev2, k1, k2, k3, k4⟩ := events_ex x.2.2
  obtain ⟨ys, d1, d2⟩ := deleteF_eq (xs := ev2) (p := m_overseerlaw53_Make_1 (autP a)) (q := fun y => !hasB a.al y) (by omega) (fun y hy => by
    rw [m_overseerlaw53_Make_1, show m_slices_Contains_int (autP a).1 y = some (hasB a.al y) from contains_eq (xs := a.al) (by rw [g6]; omega)]; rfl)
  refine ⟨a, ev2.filter (fun y => !!hasB a.al y), a.n.toNat, ?_, ⟨⟨by omega, by omega, by omega, by omega, by rw [g6]; omega, ?_, ?_⟩, by rw [g6]; exact h2, ?_, by rw [g6]; exact h3, ?_, g2, g5, g8, by omega⟩⟩
  · rw [m_overseerlaw53_Make, h1, Option.bind_some, show m_overseerlaw03_Make ev ((x.2.1.1.tmod 5), x.2.1.2) = _ from g1, Option.bind_some, k1, Option.bind_some, d1, Option.bind_some, lenEq, if_pos d2]
    rfl
  · exact Nat.le_trans (List.length_filter_le ..) (by omega)
  · intro y hy
    have := err_ed g2 y hy
    omega
  · exact List.Pairwise.filter _ k2
  · intro y hy
    have := (List.mem_filter.1 hy).2
    rw [Bool.not_not] at this
    exact hasB_true.1 this
section
variable {a : Aut} {l : List Int} {n : Nat}
theorem SkIn.set32 (h : SkIn a l n) {xs : List Int} (ix : Inc xs) (hx : ∀ x ∈ xs, x ∈ a.al) : setErr 32 none xs = 0 := setErr_ok ix (fun x hm => by have := h.al x (hx x hm); omega) (fun q hq => by cases hq)
theorem SkIn.code (h : SkIn a l n) : m_generate_Generate (autP a) l = some (codeP a l n, 0) :=
  generate_eq h.gen (by have := h.ms; omega) h.err (h.set32 h.ic h.sub) (by rw [subset_eq (by have := h.gen.ct; omega) (by have := h.gen.al; omega) h.ic h.ia, subB_of h.sub])
theorem SkIn.start (h : SkIn a l n) : m_instruction_Start (codeP a l n).1 = some ((List.replicate (l.length + 1) false, true :: List.replicate n false), 0) := gstart_eq h.gen h.ia h.ic
/-- A scan follows the supervisor. -/
theorem SkIn.scan (h : SkIn a l n) {ev : List Int} (ie : Inc ev) (hs : ∀ x ∈ ev, x ∈ a.al) {st : List Bool × List Bool} {s : Nat} {al : Bool} (hv : Shows a l n s al st) :
    ∃ st', m_generate_Scan (codeP a l n) st ev = some (st', 0) ∧ Shows a l n (ev.foldl (folStep a.es) (s, al)).1 (ev.foldl (folStep a.es) (s, al)).2 st' ∧
      ∀ k, k < l.length → st'.1.getD k false = (stepF a.es (ev.foldl (folStep a.es) (s, al)).1 (l.getD k 0)).isSome :=
  view_scan h.gen h.ia h.ic ie (by have := sub_len ie hs; have := h.gen.al; omega) (h.set32 ie hs) (subB_of hs) hv
/-- The state that the bits show. -/
theorem Shows.state (h : SkIn a l n) {st : List Bool × List Bool} {s : Nat} {al : Bool} (hv : Shows a l n s al st) : m_generate_State (codeP a l n) st = some ((s : Int), 0) := gstate_eq (out := st.1) (mem := st.2) h.gen hv.ho hv.hm hv.hs hv.hq
theorem Shows.alarm (h : SkIn a l n) {st : List Bool × List Bool} {s : Nat} {al : Bool} (hv : Shows a l n s al st) : m_generate_Alarmed (codeP a l n) st = some (al, 0) := by
  rw [alarmed_eq (out := st.1) (mem := st.2) h.gen hv.ho hv.hm, hv.ha]
end
end Go.Proofs.Ytkkemchihllklaa

namespace Go.Proofs.Ytkkemchihllklaa
open Go Go.RowKit Go.ChangeShapes Go.WideShapes Go.ChangeAt Go.Deep

theorem op_u8 : Op Try.prog (rK .u8) (fun n => 0 ≤ n ∧ n < 256) 5 := by
  intro H enc w fuel cs x h
  obtain ⟨y, h1, h2⟩ := (Op.int (P := Try.prog) (k := .u8) Try.underlying5) H enc w fuel cs x h
  refine ⟨y, h1, ?_⟩
  simp [IntKind.min, IntKind.max, IntKind.signed, IntKind.bits] at h2
  omega
section
variable {H : Type} {enc : TypeId × Value → H} {w : World} {base : Nat} {v : Value} {d : DataW H} {ps : List MemPlace}
set_option maxRecDepth 100000 in
/-- A list of bytes. -/
theorem arg_bytes (hok : Value.okWide Try.prog w .any base 52 v) (h : DataW.Trod enc Try.prog w 0 (fun _ => true) true 52 v d ps) : ∃ a c xs, v = .slice a xs.length c ∧ RdL (rK .u8) ⟨w, fun _ => 0⟩ a c xs ∧ ∀ y ∈ xs, 0 ≤ y ∧ y < 256 := by
  obtain ⟨fuel, hf⟩ := h
  simp only [Value.okWide, Try.underlying52] at hok
  have hv : v.cells.toList = [v] := by
    simp only [Cell.okWide, Try.underlying52] at hok
    cases v <;> simp_all [Cell.ok, Value.cells]
  rw [hv] at hf
  exact op_slice Try.underlying52 (by kernel_rfl) op_u8 hok hf
/-- The types of a sketch's cells. -/
def skT : List TypeId := [45] ++ List.replicate 27 5 ++ [45]
theorem sk_types : Try.prog.cellTypes Try.prog.depth 51 = some skT := by kernel_rfl
theorem sk_cells : Try.prog.cellsOf 51 = skT.length := by kernel_rfl
set_option maxRecDepth 100000 in
/-- A sketch. -/
theorem arg_sketch (hok : Value.okWide Try.prog w .any base 51 v) : ∃ p0 : Sketch, SkOk p0 ∧ v = .agg #[.int .u8 p0.1, .int .u8 p0.2.1.1, .int .u8 p0.2.1.2.1, .int .u8 p0.2.1.2.2.1.1, .int .u8 p0.2.1.2.2.1.2.1, .int .u8 p0.2.1.2.2.1.2.2.1, .int .u8 p0.2.1.2.2.1.2.2.2.1, .int .u8 p0.2.1.2.2.1.2.2.2.2, .int .u8 p0.2.1.2.2.2.1.1, .int .u8 p0.2.1.2.2.2.1.2.1, .int .u8 p0.2.1.2.2.2.1.2.2.1, .int .u8 p0.2.1.2.2.2.1.2.2.2.1, .int .u8 p0.2.1.2.2.2.1.2.2.2.2, .int .u8 p0.2.1.2.2.2.2.1.1, .int .u8 p0.2.1.2.2.2.2.1.2.1, .int .u8 p0.2.1.2.2.2.2.1.2.2.1, .int .u8 p0.2.1.2.2.2.2.1.2.2.2.1, .int .u8 p0.2.1.2.2.2.2.1.2.2.2.2, .int .u8 p0.2.1.2.2.2.2.2.1.1, .int .u8 p0.2.1.2.2.2.2.2.1.2.1, .int .u8 p0.2.1.2.2.2.2.2.1.2.2.1, .int .u8 p0.2.1.2.2.2.2.2.1.2.2.2.1, .int .u8 p0.2.1.2.2.2.2.2.1.2.2.2.2, .int .u8 p0.2.1.2.2.2.2.2.2.1, .int .u8 p0.2.1.2.2.2.2.2.2.2.1, .int .u8 p0.2.1.2.2.2.2.2.2.2.2.1, .int .u8 p0.2.1.2.2.2.2.2.2.2.2.2.1, .int .u8 p0.2.1.2.2.2.2.2.2.2.2.2.2, .int .u8 p0.2.2] := by
  obtain ⟨cs, rfl, h1, h2⟩ := op_agg Try.underlying51 sk_types sk_cells hok
  have h1' : cs.size = 29 := h1
  obtain ⟨f, hf⟩ := choose_lt (α := Int) (n := 29) (p := fun i n => cs[i]? = some (.int .u8 n) ∧ 0 ≤ n ∧ n < 256) (fun i hi => by
    obtain ⟨u, hu, hu2⟩ : ∃ u, skT[i]? = some u ∧ (u = 45 ∨ u = 5) := by
      refine ⟨skT[i]'hi, List.getElem?_eq_getElem (l := skT) hi, ?_⟩
      have := List.getElem_mem (l := skT) hi
      generalize skT[i]'hi = u at this
      simp only [skT, List.mem_append, List.mem_singleton, List.mem_replicate] at this
      rcases this with (h | h) | h
      · exact .inl h
      · exact .inr h.2
      · exact .inl h
    obtain ⟨c, g1, g2⟩ := h2 i u hu
    have g2' : Cell.okWide Try.prog w .any base 5 c := by
      rcases hu2 with rfl | rfl
      · simp only [Cell.okWide, Cell.ok, Try.underlying45, Try.underlying5] at g2 ⊢
        exact g2
      · exact g2
    obtain ⟨n, rfl, g3⟩ := cell_u8 g2'
    exact ⟨n, g1, g3⟩)
  have hcs : cs = ((List.range 29).map fun i => Value.int .u8 (f i)).toArray := by
    apply Array.ext_getElem?
    intro i
    by_cases hi : i < 29
    · rw [(hf i hi).1]; simp [hi]
    · rw [Array.getElem?_eq_none (by omega), Array.getElem?_eq_none (by simp; omega)]
  refine ⟨(f 0, (f 1, f 2, ((f 3, f 4, f 5, f 6, f 7), (f 8, f 9, f 10, f 11, f 12), (f 13, f 14, f 15, f 16, f 17), (f 18, f 19, f 20, f 21, f 22), (f 23, f 24, f 25, f 26, f 27))), f 28), ⟨(hf 1 (by omega)).2, fun y hy => ?_⟩, by rw [hcs]; rfl⟩
  have hy2 : y ∈ (List.range 25).map fun i => f (i + 3) := hy
  obtain ⟨i, hi, rfl⟩ := List.mem_map.1 hy2
  have := List.mem_range.1 hi
  exact (hf (i + 3) (by omega)).2
end
end Go.Proofs.Ytkkemchihllklaa

namespace Go.Proofs.Ytkkemchihllklaa
open Go Go.RowKit
/-- What slices.ContainsFunc<<>int,int> computes. -/
noncomputable def m_slices_ContainsFunc_int (p0 : List Int) (p1 : Int → Option Bool) : Option Bool :=
  (m_slices_IndexFunc_int p0 p1).bind fun r2 =>
  some (decide (r2 ≥ 0))
set_option maxRecDepth 100000 in
set_option maxHeartbeats 8000000 in
theorem m_slices_ContainsFunc_int_c {s : Sig} {p0 : List Int} {p1 : Int → Option Bool} {a1 : Option Addr} {c1 : Nat} {vp1 : Value} {r : Bool} (h1 : RdL (rK .i64) s a1 c1 p0) (hp1 : FV1 Try.prog s vp1 (fun (x0 : Int) => [.int .i64 x0]) (fun (r : Bool) => .bool r) p1) (hm : m_slices_ContainsFunc_int p0 p1 = some r) :
    Calls Try.prog 29 #[.slice a1 p0.length c1, vp1] s.w (RetS No s fun v s' => v = .bool r) := by
 unfold m_slices_ContainsFunc_int at hm
 obtain ⟨N, hN, hNb⟩ := s.fresh
 have m0 : Mv (Up N No) s s := Mv.refl _ _
 refine E.entry Try.func29 rfl Try.ntmps29 rfl rfl (E.seq (E.reg (L.as Wt.no rfl rfl (L.nil (X.seqN (E.seq (E.reg (L.mv Wt.no rfl rfl (L.mv Wt.no rfl rfl ?_)))))))))
 obtain ⟨r2, er2, hm⟩ := bindS hm
 refine L.ca cf60 rfl rfl Wt.no rfl (m_slices_IndexFunc_int_c (s := s) (p0 := p0) (p1 := p1) h1 hp1 er2) rfl ?_
 rintro _ s3 m4 rfl
 replace m0 := m0.trans m4.no
 refine L.bi Wt.no rfl rfl rfl rfl (L.as Wt.no rfl rfl (L.nil (X.seqN (E.ret ?_))))
 obtain rfl := Option.some.inj hm
 exact X.rt (.inl rfl) Try.results29 (Rs.tmp rfl Rs.nil) rfl ⟨_, (s3).ren N (fun _ => 0), rfl, rfl, m0.ren hNb, rfl⟩

theorem cf29 : Cf Try.prog 29 := Cf.mk Try.func29 (by kernel_rfl) (by kernel_rfl)
end Go.Proofs.Ytkkemchihllklaa

namespace Go.Proofs.Ytkkemchihllklaa
open Go Go.RowKit

/-- A state of the program with its outputs behind a scan. -/
structure Shown (a : Aut) (l : List Int) (n : Nat) (s : Nat) (al : Bool) (st : List Bool × List Bool) : Prop where
  v : Shows a l n s al st
  c : ∀ k, k < l.length → st.1.getD k false = (stepF a.es s (l.getD k 0)).isSome
theorem SkIn.scan2 {a : Aut} {l : List Int} {n : Nat} (h : SkIn a l n) {ev : List Int} (ie : Inc ev) (hs : ∀ x ∈ ev, x ∈ a.al) {st : List Bool × List Bool} {s : Nat} {al : Bool} (hv : Shows a l n s al st) :
    ∃ st', m_generate_Scan (codeP a l n) st ev = some (st', 0) ∧ Shown a l n (ev.foldl (folStep a.es) (s, al)).1 (ev.foldl (folStep a.es) (s, al)).2 st' := by
  obtain ⟨st', h1, h2, h3⟩ := h.scan ie hs hv
  exact ⟨st', h1, h2, h3⟩
end Go.Proofs.Ytkkemchihllklaa

namespace Go.Proofs.Ytkkemchihllklaa
open Go Go.RowKit

theorem containsF_eq {xs : List Int} {p : Int → Option Bool} {q : Int → Bool} (hl : xs.length < 4611686018427387904) (hp : ∀ x ∈ xs, p x = some (q x)) : m_slices_ContainsFunc_int xs p = some (xs.any q) := by
  rw [m_slices_ContainsFunc_int, indexF_eq hl hp, Option.bind_some]
  by_cases hm : xs.any q = true
  · rw [if_pos hm, hm]; simp
  · rw [if_neg hm, show xs.any q = false by simpa using hm]; rfl
theorem any_subB (us al : List Int) : us.any (fun y => !hasB al y) = !subB us al := by
  unfold subB
  rw [Bool.eq_iff_iff]
  simp
end Go.Proofs.Ytkkemchihllklaa

