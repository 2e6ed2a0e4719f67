/- Parts of the proof, without what nothing here names. -/
import Derived.Test.YtfbapajcheammaaGreatDoorProg
import Derived.Test.YtfbapajcheammaaGreatDoorQcy4
set_option maxRecDepth 100000
set_option maxHeartbeats 8000000
namespace Go.Proofs.YtfbapajcheammaaGreatDoor
open Go Go.RowKit
theorem cf18 : Cf Tryz.prog 18 := Cf.mk Tryz.func18 (by kernel_rfl) (by kernel_rfl)
noncomputable def m_blocking_Blocked (p0 : AutT) : Option (List Int × Int) :=
 (m_blocking_Ranks p0).bind fun r8 =>
 if (r8.2 != 0) then
  some (([] : List Int), r8.2)
 else
  (m_blocking_blocked r8.1).bind fun r12 =>
  some (r12, 0)
theorem m_blocking_Blocked_c {s : Sig} {p0 : AutT} {a1 : Option Addr} {c1 : Nat} {a2 : Option Addr} {c2 : Nat} {a3 : Option Addr} {c3 : Nat} {u0 : Nat} {r : List Int × Int} (h1 : RdL qI s a1 c1 p0.1) (h2 : RdL qI s a2 c2 p0.2.2.1) (h3 : RdL qT s a3 c3 p0.2.2.2) (hm : m_blocking_Blocked p0 = some r) :
    Calls Tryz.prog 19 #[.agg #[.slice a1 p0.1.length c1, .int .i64 p0.2.1, .slice a2 p0.2.2.1.length c2, .slice a3 p0.2.2.2.length c3]] s.w (RetS No s fun v s' => ∃ (a4 : Option Addr) (c4 : Nat), v = .tuple #[.slice a4 r.1.length c4, .int .i64 r.2] ∧ RowT qI s' u0 3 a4 c4 r.1) := by
 unfold m_blocking_Blocked at hm
 obtain ⟨N, hN, hNb⟩ := s.fresh
 have m0 : Mv (Up N No) s s := Mv.refl _ _
 refine E.entry Tryz.func19 R Tryz.ntmps19 R R (ER (L.box (N + 0) Y R R R fun b5 s6 m7 bx5 => ?_))
 replace h1 := h1.mono m7.z
 replace h2 := h2.mono m7.z
 replace h3 := h3.mono m7.z
 refine L.as Y R R (L.as Y R R (LN (ER (L.lg (j := 0) (cs := [.slice a1 p0.1.length c1, .int .i64 p0.2.1, .slice a2 p0.2.2.1.length c2, .slice a3 p0.2.2.2.length c3]) bx5.mem ag30 Y R R R R R ?_))))
 obtain ⟨r8, er8, hm⟩ := bindS hm
 refine L.ca cf18 R R Y R (m_blocking_Ranks_c (s := s6) (p0 := p0) (u0 := 0) h1 h2 h3 er8) R ?_
 rintro _ s9 m10 ⟨a11, c11, rfl, h11⟩
 replace h11 := h11.p
 replace m0 := (m0.trans m7.no).trans m10.no
 refine L.mv Y R R (L.ex Y R R R (L.ex Y R R R (L.as Y R R (L.as Y R R (LN (E.seq (ER (L.mv Y R R (L.bi Y R R R R (L.nil (X.seqN ?_)))))))))))
 rcases ifS hm with ⟨hc, hm⟩ | ⟨hc, hm⟩
 ·refine E.cT R hc (ER (L.mv Y R R (L.as Y R R (L.as Y R R (LN (E.ret (X.seqR ?_)))))))
  obtain rfl := oi hm
  exact X.rt (.inl R) Tryz.results19 (Rs.tmp R (Rs.tmp R Rs.nil)) R ⟨_, (s9).ren N (fun _ => 0), R, R, m0.ren hNb, ⟨none, 0, R, RowT.nil⟩⟩
 refine E.cF R hc (E.skip (X.seqN (ER (L.mv Y R R ?_))))
 obtain ⟨r12, er12, hm⟩ := bindS hm
 refine L.ca cf34 R R Y R (m_blocking_blocked_c (s := s9) (p0 := r8.1) (u0 := (N + 1)) h11 er12) R ?_
 rintro _ s13 m14 ⟨a15, c15, rfl, h15⟩
 replace m0 := m0.trans m14.no
 refine L.as Y R R (L.as Y R R (LN (E.ret ?_)))
 obtain rfl := oi hm
 exact X.rt (.inl R) Tryz.results19 (Rs.tmp R (Rs.tmp R Rs.nil)) R ⟨_, (s13).ren N (fun k => cond (Nat.beq k 1) u0 (0)), R, R, m0.ren hNb, ⟨a15, c15, R, (h15.ren hN)⟩⟩

theorem ag91 : Ag Tryz.prog 91 5 := Ag.mk' Tryz.underlying91 rfl (by kernel_rfl)
theorem fa91_1 : FA Tryz.prog 91 1 4 := FA.mk Tryz.underlying91 rfl rfl ⟨1, by decide, by kernel_rfl⟩
theorem pl91 : Pl Tryz.prog 91 [(0, 4), (4, 1)] [.slice none 0 0, .int .i64 0, .slice none 0 0, .slice none 0 0, .slice none 0 0] := Pl.str Tryz.underlying91 (by kernel_rfl) (by kernel_rfl)
theorem zz91 : (Tryz.prog.info? 91).bind (·.zero) = some (.agg #[.slice none 0 0, .int .i64 0, .slice none 0 0, .slice none 0 0, .slice none 0 0]) := by kernel_rfl
noncomputable def m_reach_newGraph_l2 (p0 : AutT) (st82 : Int × List Int) : Option ((Int × List Int) ⊕ (List Int)) :=
 if decide (st82.1 < p0.2.1) then
  (idx st82.2 (W (st82.1 + 1))).bind fun x94 =>
  (idx st82.2 st82.1).bind fun x101 =>
  (idx st82.2 (W (st82.1 + 1))).bind fun x106 =>
  (upd st82.2 (W (st82.1 + 1)) (W (x94 + x101))).bind fun x109 =>
  some (.inl (W (st82.1 + 1), x109))
 else
  some (.inr st82.2)
noncomputable def m_reach_newGraph_l1 (p0 : AutT) (st50 : Int × List Int) : Option ((Int × List Int) ⊕ (List Int)) :=
 if decide (st50.1 < (p0.2.2.2.length : Int)) then
  (idx p0.2.2.2 st50.1).bind fun x114 =>
  (idx st50.2 (W (x114.1 + 1))).bind fun x121 =>
  (idx st50.2 (W (x114.1 + 1))).bind fun x123 =>
  (upd st50.2 (W (x114.1 + 1)) (W (x121 + 1))).bind fun x125 =>
  some (.inl (W (st50.1 + 1), x125))
 else
  some (.inr st50.2)
noncomputable def m_reach_newGraph (p0 : AutT) : Option (AutT × List Int) :=
 (mkL (W (p0.2.1 + 1)) (0 : Int)).bind fun x19 =>
 (iter (m_reach_newGraph_l1 p0) (0, x19)).bind fun o50 =>
 (iter (m_reach_newGraph_l2 p0) (0, o50)).bind fun o82 =>
 some (p0, o82)
theorem m_reach_newGraph_c {s : Sig} {p0 : AutT} {a1 : Option Addr} {c1 : Nat} {a2 : Option Addr} {c2 : Nat} {a3 : Option Addr} {c3 : Nat} {u3 : Nat} {r : (AutT × List Int)} (h1 : RdL qI s a1 c1 p0.1) (h2 : RdL qI s a2 c2 p0.2.2.1) (h3 : RdL qT s a3 c3 p0.2.2.2) (hm : m_reach_newGraph p0 = some r) :
    Calls Tryz.prog 53 #[.agg #[.slice a1 p0.1.length c1, .int .i64 p0.2.1, .slice a2 p0.2.2.1.length c2, .slice a3 p0.2.2.2.length c3]] s.w (RetS No s fun v s' => ∃ (a4 : Option Addr) (c4 : Nat) (a5 : Option Addr) (c5 : Nat) (a6 : Option Addr) (c6 : Nat) (a7 : Option Addr) (c7 : Nat), v = .agg #[.slice a4 r.1.1.length c4, .int .i64 r.1.2.1, .slice a5 r.1.2.2.1.length c5, .slice a6 r.1.2.2.2.length c6, .slice a7 r.2.length c7] ∧ RdL qI s' a4 c4 r.1.1 ∧ RdL qI s' a5 c5 r.1.2.2.1 ∧ RdL qT s' a6 c6 r.1.2.2.2 ∧ RowT qI s' u3 3 a7 c7 r.2) := by
 unfold m_reach_newGraph at hm
 obtain ⟨N, hN, hNb⟩ := s.fresh
 have m0 : Mv (Up N No) s s := Mv.refl _ _
 refine E.entry Tryz.func53 R Tryz.ntmps53 R R (ER (L.box (N + 0) Y R R R fun b8 s9 m10 bx8 => ?_))
 refine L.al (N + 1) zz91 R Y R fun b11 s12 m13 bx11 => ?_
 replace m0 := (m0.trans m10.no).trans m13.no
 replace bx8 := bx8.mv m13 no_No
 replace h1 := (h1.mono m10.z).mono m13.z
 replace h2 := (h2.mono m10.z).mono m13.z
 replace h3 := (h3.mono m10.z).mono m13.z
 refine LN (E.seq ?_)
 obtain ⟨x19, ex19, hm⟩ := bindS hm
 refine E.draw [[], [], [1], [1, 2], [1, 2, 3], [0, 1, 2, 3, 4], [], [0, 1, 2, 3, 4, 5, 6]] (fun D e sx => Mv (One (N + 3)) s12 sx ∧ Sub [(2, .pointer (some ⟨b11, 0, none⟩)), (1, .pointer (some ⟨b8, 0, none⟩))] e ∧ AllP [G D e 0 7 (.agg #[.slice a1 p0.1.length c1, .int .i64 p0.2.1, .slice a2 p0.2.2.1.length c2, .slice a3 p0.2.2.2.length c3]), G D e 1 8 (.pointer (some ⟨b8, 1, none⟩)), G D e 2 9 (.int .i64 p0.2.1), G D e 3 10 (.int .i64 (W (p0.2.1 + 1))), D 4 = true → (∃ (b20 : Nat), Env.get e 11 = some (.slice (some ⟨b20, 0, none⟩) x19.length x19.length) ∧ RowT qI sx (N + 2) 3 (some ⟨b20, 0, none⟩) x19.length x19), D 5 = true → ∀ (b20 : Nat), Env.get e 11 = some (.slice (some ⟨b20, 0, none⟩) x19.length x19.length) → (Env.get e 12 = some (.agg #[.slice a1 p0.1.length c1, .int .i64 p0.2.1, .slice a2 p0.2.2.1.length c2, .slice a3 p0.2.2.2.length c3, .slice (some ⟨b20, 0, none⟩) x19.length x19.length])), D 6 = true → (∃ (b25 : Nat), Env.get e 3 = some (.pointer (some ⟨b25, 0, none⟩))), D 6 = true → D 7 = false → ∀ (b25 : Nat), Env.get e 3 = some (.pointer (some ⟨b25, 0, none⟩)) → Bx sx (N + 3) b25 #[.slice none 0 0, .int .i64 0, .slice none 0 0, .slice none 0 0, .slice none 0 0] 91, D 7 = true → ∀ (b20 : Nat) (b25 : Nat), Env.get e 11 = some (.slice (some ⟨b20, 0, none⟩) x19.length x19.length) → Env.get e 3 = some (.pointer (some ⟨b25, 0, none⟩)) → Bx sx (N + 3) b25 #[.slice a1 p0.1.length c1, .int .i64 p0.2.1, .slice a2 p0.2.2.1.length c2, .slice a3 p0.2.2.2.length c3, .slice (some ⟨b20, 0, none⟩) x19.length x19.length] 91]) (by kernel_rfl) (by kernel_rfl) (by kernel_rfl) ?_ ?_ ?_
 ·intro sz mz
  exact ⟨mz.no, (Sub.rf R), nofun, nofun, nofun, nofun, nofun, nofun, nofun, nofun, nofun, trivial⟩
 ·refine ⟨?_, ?_, ?_, ?_, ?_, ?_, ?_, ?_, trivial⟩
  ·rintro D e s14 ⟨im, ib, i⟩ hk hf ha
   have bx8 := bx8.mv im (tq R)
   have kn := K1 (ib 1 _ R)
   exact kn.g (L.lg (j := 0) (cs := [.slice a1 p0.1.length c1, .int .i64 p0.2.1, .slice a2 p0.2.2.1.length c2, .slice a3 p0.2.2.2.length c3]) bx8.mem ag30 Y R R R R R (L.nil (X.dk kn ⟨im, Sub.fresh ib R, i.u 0 (fun _ => R)⟩)))
  ·rintro D e s15 ⟨im, ib, i⟩ hk hf ha
   have kn := K1 (ib 1 _ R)
   exact kn.g (L.fa fa30_1 Y R R (L.nil (X.dk kn ⟨im, Sub.fresh ib R, i.u 1 (fun _ => R)⟩)))
  ·rintro D e s16 ⟨im, ib, i⟩ hk hf ha
   have bx8 := bx8.mv im (tq R)
   have kn := K1 ((i.p 1) (ha.at 1 R))
   exact kn.g (L.ld (j := 1) bx8.mem nag3 Y R R R R (L.nil (X.dk kn ⟨im, Sub.fresh ib R, i.u 2 (fun _ => R)⟩)))
  ·rintro D e s17 ⟨im, ib, i⟩ hk hf ha
   have kn := K1 ((i.p 2) (ha.at 2 R))
   exact kn.g (L.bi Y R R R R (L.nil (X.dk kn ⟨im, Sub.fresh ib R, i.u 3 (fun _ => R)⟩)))
  ·rintro D e s18 ⟨im, ib, i⟩ hk hf ha
   have kn := K1 ((i.p 3) (ha.at 3 R))
   exact kn.g (L.mk (z := (0 : Int)) (N + 2) Tryz.underlying27 zr3 R Y R R ex19 R fun b20 s21 m22 h20 => L.nil (X.dk kn ⟨im.trans m22.no, Sub.fresh ib R, (((i.u 4 (fun _ => ⟨b20, R, h20⟩)).u 5 (fun z => Bool.noConfusion ((hf 5 (nb R) R).symm.trans z))).u 7 (fun z z2 b25 q6 => (((i.p 7) z z2 b25 q6).mv m22 no_No))).u 8 (fun z => Bool.noConfusion ((hf 7 (nb R) R).symm.trans z))⟩))
  ·rintro D e s23 ⟨im, ib, i⟩ hk hf ha
   obtain ⟨b20, g4_, h20⟩ := (i.p 4) (ha.at 4 R)
   have kn := K2 ((i.p 0) (ha.at 0 R)) g4_
   exact kn.g (L.bu (cs := [.slice a1 p0.1.length c1, .int .i64 p0.2.1, .slice a2 p0.2.2.1.length c2, .slice a3 p0.2.2.2.length c3, .slice (some ⟨b20, 0, none⟩) x19.length x19.length]) pl91 Y R R R (L.nil (X.dk kn ⟨im, Sub.fresh ib R, i.u 5 (fun _ _ q4 => by cases g4_.symm.trans q4; exact R)⟩)))
  ·rintro D e s24 ⟨im, ib, i⟩ hk hf ha
   exact L.al (N + 3) zz91 R Y R fun b25 s26 m27 bx25 => L.nil (X.dr (s := s26) (e' := (3, .pointer (some ⟨b25, 0, none⟩)) :: e) (Sub.both (Sub.refl)) ⟨im.trans m27.no, Sub.fresh ib R, (((i.u 4 (fun z => let ⟨b20, q, h20⟩ := (i.p 4) z; ⟨b20, q, (h20.mv m27 no_No no_No)⟩)).u 6 (fun _ => ⟨b25, R⟩)).u 7 (fun _ _ _ q6 => by cases (show some (.pointer (some ⟨b25, 0, none⟩) : Value) = some _ from q6); exact bx25)).u 8 (fun z => Bool.noConfusion ((hf 7 (nb R) R).symm.trans z))⟩)
  rintro D e s28 ⟨im, ib, i⟩ hk hf ha
  obtain ⟨b20, g4_, h20⟩ := (i.p 4) (ha.at 4 R)
  have g5_ := (i.p 5) (ha.at 5 R) b20 g4_
  obtain ⟨b25, g6_⟩ := (i.p 6) (ha.at 6 R)
  obtain bx25 := (i.p 7) (ha.at 6 R) hk b25 g6_
  have kn := K2 g6_ g5_
  exact kn.g (L.st (c := [.slice a1 p0.1.length c1, .int .i64 p0.2.1, .slice a2 p0.2.2.1.length c2, .slice a3 p0.2.2.2.length c3, .slice (some ⟨b20, 0, none⟩) x19.length x19.length]) (cs' := #[.slice a1 p0.1.length c1, .int .i64 p0.2.1, .slice a2 p0.2.2.1.length c2, .slice a3 p0.2.2.2.length c3, .slice (some ⟨b20, 0, none⟩) x19.length x19.length]) bx25 ag91.sz Y R R R R R (nb R) R fun s29 m30 bx25 => L.nil (X.dn kn ⟨im.trans (m30.one R), ib, ((i.u 4 (fun z => let ⟨b20, q, h20⟩ := (i.p 4) z; ⟨b20, q, (h20.mv m30 (tq R) (tg0 hN))⟩)).u 7 (fun _ z => Bool.noConfusion (show true = false from z))).u 8 (fun _ _ _ q4 q6 => by cases g4_.symm.trans q4; cases g6_.symm.trans q6; exact bx25)⟩))
 rintro D e s31 hD ⟨im, ib, i⟩
 obtain ⟨b20, g4_, h20⟩ := (i.p 4) (hD 4 R)
 obtain ⟨b25, g6_⟩ := (i.p 6) (hD 6 R)
 obtain bx25 := (i.p 8) (hD 7 R) b20 b25 g4_ g6_
 have h1 := h1.mono (im.le (tg0 hN))
 have h2 := h2.mono (im.le (tg0 hN))
 have h3 := h3.mono (im.le (tg0 hN))
 have bx11 := bx11.mv im (tq R)
 have bx8 := bx8.mv im (tq R)
 have m0 := m0.trans (im.one up)
 refine X.sub (e' := [(3, .pointer (some ⟨b25, 0, none⟩)), (2, .pointer (some ⟨b11, 0, none⟩)), (1, .pointer (some ⟨b8, 0, none⟩))]) ?_ (Sub.cons g6_ (Sub.cons (ib 2 _ R) (Sub.cons (ib 1 _ R) Sub.nil)))
 refine X.seqN (E.seq (ER (L.fa fa30_3 Y R R (L.ld (j := 3) bx8.mem nag28 Y R R R R (L.len sl28 Y R R (L.mv Y R R (LN (E.block ?_))))))))
 obtain ⟨o50, eo50, hm⟩ := bindS hm
 refine E.cut (x := .exit 0) (fun e w => ∃ (s53 : Sig), Mv (Up N No) s s53 ∧ RdL qI s53 a1 c1 p0.1 ∧ RdL qI s53 a2 c2 p0.2.2.1 ∧ RdL qT s53 a3 c3 p0.2.2.2 ∧ RowT qI s53 (N + 2) 3 (some ⟨b20, 0, none⟩) x19.length o50 ∧ Bx s53 (N + 0) b8 #[.slice a1 p0.1.length c1, .int .i64 p0.2.1, .slice a2 p0.2.2.1.length c2, .slice a3 p0.2.2.2.length c3] 30 ∧ Bx s53 (N + 1) b11 #[.slice none 0 0, .int .i64 0, .slice none 0 0, .slice none 0 0, .slice none 0 0] 91 ∧ Bx s53 (N + 3) b25 #[.slice a1 p0.1.length c1, .int .i64 p0.2.1, .slice a2 p0.2.2.1.length c2, .slice a3 p0.2.2.2.length c3, .slice (some ⟨b20, 0, none⟩) o50.length x19.length] 91 ∧ e = [(3, .pointer (some ⟨b25, 0, none⟩)), (2, .pointer (some ⟨b11, 0, none⟩)), (1, .pointer (some ⟨b8, 0, none⟩))] ∧ w = s53.w) ?_ ?_
 ·rintro _ _ ⟨s53, m0, h1, h2, h3, h20, bx8, bx11, bx25, rfl, rfl⟩
  refine X.blkE (X.seqN (E.seq (ER (L.fa fa30_1 Y R R (L.ld (j := 1) bx8.mem nag3 Y R R R R (L.mv Y R R (LN (E.block ?_))))))))
  obtain ⟨o82, eo82, hm⟩ := bindS hm
  refine E.cut (x := .exit 2) (fun e w => ∃ (s85 : Sig), Mv (Up N No) s s85 ∧ RdL qI s85 a1 c1 p0.1 ∧ RdL qI s85 a2 c2 p0.2.2.1 ∧ RdL qT s85 a3 c3 p0.2.2.2 ∧ RowT qI s85 (N + 2) 3 (some ⟨b20, 0, none⟩) x19.length o82 ∧ Bx s85 (N + 1) b11 #[.slice none 0 0, .int .i64 0, .slice none 0 0, .slice none 0 0, .slice none 0 0] 91 ∧ Bx s85 (N + 3) b25 #[.slice a1 p0.1.length c1, .int .i64 p0.2.1, .slice a2 p0.2.2.1.length c2, .slice a3 p0.2.2.2.length c3, .slice (some ⟨b20, 0, none⟩) o82.length x19.length] 91 ∧ e = [(3, .pointer (some ⟨b25, 0, none⟩)), (2, .pointer (some ⟨b11, 0, none⟩))] ∧ w = s85.w) ?_ ?_
  ·rintro _ _ ⟨s85, m0, h1, h2, h3, h20, bx11, bx25, rfl, rfl⟩
   refine X.blkE (X.seqN (ER (L.lg (j := 0) (cs := [.slice a1 p0.1.length c1, .int .i64 p0.2.1, .slice a2 p0.2.2.1.length c2, .slice a3 p0.2.2.2.length c3, .slice (some ⟨b20, 0, none⟩) o82.length x19.length]) bx25.mem ag91 Y R R R R R (L.st (c := [.slice a1 p0.1.length c1, .int .i64 p0.2.1, .slice a2 p0.2.2.1.length c2, .slice a3 p0.2.2.2.length c3, .slice (some ⟨b20, 0, none⟩) o82.length x19.length]) (cs' := #[.slice a1 p0.1.length c1, .int .i64 p0.2.1, .slice a2 p0.2.2.1.length c2, .slice a3 p0.2.2.2.length c3, .slice (some ⟨b20, 0, none⟩) o82.length x19.length]) bx11 ag91.sz Y R R R R R (nb R) R fun s86 m87 bx11 => ?_))))
   replace m0 := m0.trans (m87.one up)
   replace h1 := h1.mono (m87.le (tg0 hN))
   replace h2 := h2.mono (m87.le (tg0 hN))
   replace h3 := h3.mono (m87.le (tg0 hN))
   replace h20 := h20.mv m87 (tq R) (tg0 hN)
   refine LN (E.ret ?_)
   obtain rfl := oi hm
   exact X.rt (.inl R) Tryz.results53 (Rs.cell R bx11 ag91 R Rs.nil) R ⟨_, (s86).ren N (fun k => cond (Nat.beq k 2) u3 (0)), R, R, m0.ren hNb, ⟨a1, c1, a2, c2, a3, c3, (some ⟨b20, 0, none⟩), x19.length, R, (h1.ren hN), (h2.ren hN), (h3.ren hN), (h20.ren hN)⟩⟩
  intro K88
  refine E.iter (fun (st82 : Int × List Int) (e : List (Nat × Value)) (w : World) => ∃ (s84 : Sig), Mv (Up N No) s s84 ∧ RdL qI s84 a1 c1 p0.1 ∧ RdL qI s84 a2 c2 p0.2.2.1 ∧ RdL qT s84 a3 c3 p0.2.2.2 ∧ RowT qI s84 (N + 2) 3 (some ⟨b20, 0, none⟩) x19.length st82.2 ∧ Bx s84 (N + 1) b11 #[.slice none 0 0, .int .i64 0, .slice none 0 0, .slice none 0 0, .slice none 0 0] 91 ∧ Bx s84 (N + 3) b25 #[.slice a1 p0.1.length c1, .int .i64 p0.2.1, .slice a2 p0.2.2.1.length c2, .slice a3 p0.2.2.2.length c3, .slice (some ⟨b20, 0, none⟩) st82.2.length x19.length] 91 ∧ e = [(32, .int .i64 st82.1), (31, .int .i64 p0.2.1), (3, .pointer (some ⟨b25, 0, none⟩)), (2, .pointer (some ⟨b11, 0, none⟩))] ∧ w = s84.w) eo82 ⟨s53, m0, h1, h2, h3, h20, bx11, bx25, R, R⟩ (Sub.rf R) ?_
  rintro st82 res82 hm ih82 ho82 _ _ ⟨s84, m0, h1, h2, h3, h20, bx11, bx25, rfl, rfl⟩
  unfold m_reach_newGraph_l2 at hm
  refine ER (L.bi Y R R R R (LN (E.seq ?_)))
  rcases ifS hm with ⟨hc, hm⟩ | ⟨hc, hm⟩
  ·refine E.cT R hc (E.skip (X.seqN (E.seq (E.block (ER (L.mv Y R R (L.as Y R R (L.nil (X.seqN ?_)))))))))
   obtain ⟨x94, ex94, hm⟩ := bindS hm
   obtain ⟨x101, ex101, hm⟩ := bindS hm
   obtain ⟨x106, ex106, hm⟩ := bindS hm
   obtain ⟨x109, ex109, hm⟩ := bindS hm
   have elx109 := upd_len ex109
   refine E.draw [[], [0], [], [2], [0, 1, 2, 3], [0, 1, 2, 3, 4], [], [6], [], [6, 7, 8], [6, 7, 8, 9], [0, 1, 2, 3, 4, 5, 6, 7, 8, 9, 10], [0, 1, 2, 3, 4, 5, 6, 7, 8, 9, 10, 11], [0, 1, 2, 3, 4, 5, 6, 7, 8, 9, 10, 11, 12]] (fun D e sx => Mv (One (N + 2)) s84 sx ∧ Sub [(6, .int .i64 st82.1), (32, .int .i64 st82.1), (31, .int .i64 p0.2.1), (3, .pointer (some ⟨b25, 0, none⟩)), (2, .pointer (some ⟨b11, 0, none⟩))] e ∧ AllP [G D e 0 35 (.pointer (some ⟨b25, 4, none⟩)), G D e 1 36 (.slice (some ⟨b20, 0, none⟩) st82.2.length x19.length), G D e 2 37 (.int .i64 st82.1), G D e 3 38 (.int .i64 (W (st82.1 + 1))), D 4 = true → (∃ (b95 : Nat) (o95 : Nat), Env.get e 39 = some (.pointer (some ⟨b95, o95, none⟩)) ∧ Spot (some ⟨b20, 0, none⟩) qI.sz (W (st82.1 + 1)).toNat b95 o95), G D e 5 40 (.int .i64 x94), G D e 6 41 (.pointer (some ⟨b25, 4, none⟩)), G D e 7 42 (.slice (some ⟨b20, 0, none⟩) st82.2.length x19.length), G D e 8 43 (.int .i64 st82.1), D 9 = true → (∃ (b102 : Nat) (o102 : Nat), Env.get e 44 = some (.pointer (some ⟨b102, o102, none⟩)) ∧ Spot (some ⟨b20, 0, none⟩) qI.sz (st82.1).toNat b102 o102), G D e 10 45 (.int .i64 x101), G D e 11 46 (.int .i64 (W (x94 + x101))), D 12 = true → (∃ (b107 : Nat) (o107 : Nat), Env.get e 47 = some (.pointer (some ⟨b107, o107, none⟩)) ∧ Spot (some ⟨b20, 0, none⟩) qI.sz (W (st82.1 + 1)).toNat b107 o107), D 13 = false → RowT qI sx (N + 2) 3 (some ⟨b20, 0, none⟩) x19.length st82.2, D 13 = true → RowT qI sx (N + 2) 3 (some ⟨b20, 0, none⟩) x19.length x109, D 4 = true → D 13 = false → ∀ (b95 : Nat) (o95 : Nat), Env.get e 39 = some (.pointer (some ⟨b95, o95, none⟩)) → Mem sx (N + 2) b95 o95 [.int .i64 x94], D 9 = true → D 13 = false → ∀ (b102 : Nat) (o102 : Nat), Env.get e 44 = some (.pointer (some ⟨b102, o102, none⟩)) → Mem sx (N + 2) b102 o102 [.int .i64 x101], D 12 = true → D 13 = false → ∀ (b107 : Nat) (o107 : Nat), Env.get e 47 = some (.pointer (some ⟨b107, o107, none⟩)) → Mem sx (N + 2) b107 o107 [.int .i64 x106]]) (by kernel_rfl) (by kernel_rfl) (by kernel_rfl) ?_ ?_ ?_
   ·intro sz mz
    exact ⟨mz.no, (Sub.rf R), nofun, nofun, nofun, nofun, nofun, nofun, nofun, nofun, nofun, nofun, nofun, nofun, nofun, fun _ => h20.mv mz no_No no_No, nofun, nofun, nofun, nofun, trivial⟩
   ·refine ⟨?_, ?_, ?_, ?_, ?_, ?_, ?_, ?_, ?_, ?_, ?_, ?_, ?_, ?_, trivial⟩
    ·rintro D e s89 ⟨im, ib, i⟩ hk hf ha
     have kn := K1 (ib 3 _ R)
     exact kn.g (L.fa fa91_1 Y R R (L.nil (X.dk kn ⟨im, Sub.fresh ib R, i.u 0 (fun _ => R)⟩)))
    ·rintro D e s90 ⟨im, ib, i⟩ hk hf ha
     have bx25 := bx25.mv im (tq R)
     have kn := K1 ((i.p 0) (ha.at 0 R))
     exact kn.g (L.ld (j := 4) bx25.mem nag27 Y R R R R (L.nil (X.dk kn ⟨im, Sub.fresh ib R, i.u 1 (fun _ => R)⟩)))
    ·rintro D e s91 ⟨im, ib, i⟩ hk hf ha
     have kn := K1 (ib 6 _ R)
     exact kn.g (L.mv Y R R (L.nil (X.dk kn ⟨im, Sub.fresh ib R, i.u 2 (fun _ => R)⟩)))
    ·rintro D e s92 ⟨im, ib, i⟩ hk hf ha
     have kn := K1 ((i.p 2) (ha.at 2 R))
     exact kn.g (L.bi Y R R R R (L.nil (X.dk kn ⟨im, Sub.fresh ib R, i.u 3 (fun _ => R)⟩)))
    ·rintro D e s93 ⟨im, ib, i⟩ hk hf ha
     obtain h20 := (i.p 13) (hf 13 (nb R) R)
     have kn := K2 ((i.p 1) (ha.at 1 R)) ((i.p 3) (ha.at 3 R))
     refine kn.g (L.ir (r := qI) sl27 h20 Y R R ex94 R fun b95 o95 cc95 me95 rd95 sp95 => ?_)
     obtain rfl := rd95
     exact L.nil (X.dk kn ⟨im, Sub.fresh ib R, (i.u 4 (fun _ => ⟨b95, o95, R, sp95⟩)).u 15 (fun _ _ _ _ q4 => by cases (show some (.pointer (some ⟨b95, o95, none⟩) : Value) = some _ from q4); exact me95)⟩)
    ·rintro D e s96 ⟨im, ib, i⟩ hk hf ha
     obtain ⟨b95, o95, g4_, sp95⟩ := (i.p 4) (ha.at 4 R)
     have me95 := (i.p 15) (ha.at 4 R) (hf 13 (nb R) R) b95 o95 g4_
     have kn := K1 g4_
     exact kn.g (L.ld (j := 0) me95 nag3 Y R R R R (L.nil (X.dk kn ⟨im, Sub.fresh ib R, i.u 5 (fun _ => R)⟩)))
    ·rintro D e s97 ⟨im, ib, i⟩ hk hf ha
     have kn := K1 (ib 3 _ R)
     exact kn.g (L.fa fa91_1 Y R R (L.nil (X.dk kn ⟨im, Sub.fresh ib R, i.u 6 (fun _ => R)⟩)))
    ·rintro D e s98 ⟨im, ib, i⟩ hk hf ha
     have bx25 := bx25.mv im (tq R)
     have kn := K1 ((i.p 6) (ha.at 6 R))
     exact kn.g (L.ld (j := 4) bx25.mem nag27 Y R R R R (L.nil (X.dk kn ⟨im, Sub.fresh ib R, i.u 7 (fun _ => R)⟩)))
    ·rintro D e s99 ⟨im, ib, i⟩ hk hf ha
     have kn := K1 (ib 6 _ R)
     exact kn.g (L.mv Y R R (L.nil (X.dk kn ⟨im, Sub.fresh ib R, i.u 8 (fun _ => R)⟩)))
    ·rintro D e s100 ⟨im, ib, i⟩ hk hf ha
     obtain h20 := (i.p 13) (hf 13 (nb R) R)
     have kn := K2 ((i.p 7) (ha.at 7 R)) ((i.p 8) (ha.at 8 R))
     refine kn.g (L.ir (r := qI) sl27 h20 Y R R ex101 R fun b102 o102 cc102 me102 rd102 sp102 => ?_)
     obtain rfl := rd102
     exact L.nil (X.dk kn ⟨im, Sub.fresh ib R, (i.u 9 (fun _ => ⟨b102, o102, R, sp102⟩)).u 16 (fun _ _ _ _ q9 => by cases (show some (.pointer (some ⟨b102, o102, none⟩) : Value) = some _ from q9); exact me102)⟩)
    ·rintro D e s103 ⟨im, ib, i⟩ hk hf ha
     obtain ⟨b102, o102, g9_, sp102⟩ := (i.p 9) (ha.at 9 R)
     have me102 := (i.p 16) (ha.at 9 R) (hf 13 (nb R) R) b102 o102 g9_
     have kn := K1 g9_
     exact kn.g (L.ld (j := 0) me102 nag3 Y R R R R (L.nil (X.dk kn ⟨im, Sub.fresh ib R, i.u 10 (fun _ => R)⟩)))
    ·rintro D e s104 ⟨im, ib, i⟩ hk hf ha
     have kn := K2 ((i.p 5) (ha.at 5 R)) ((i.p 10) (ha.at 10 R))
     exact kn.g (L.bi Y R R R R (L.nil (X.dk kn ⟨im, Sub.fresh ib R, i.u 11 (fun _ => R)⟩)))
    ·rintro D e s105 ⟨im, ib, i⟩ hk hf ha
     obtain h20 := (i.p 13) (hf 13 (nb R) R)
     have kn := K2 ((i.p 1) (ha.at 1 R)) ((i.p 3) (ha.at 3 R))
     refine kn.g (L.ir (r := qI) sl27 h20 Y R R ex106 R fun b107 o107 cc107 me107 rd107 sp107 => ?_)
     obtain rfl := rd107
     exact L.nil (X.dk kn ⟨im, Sub.fresh ib R, (i.u 12 (fun _ => ⟨b107, o107, R, sp107⟩)).u 17 (fun _ _ _ _ q12 => by cases (show some (.pointer (some ⟨b107, o107, none⟩) : Value) = some _ from q12); exact me107)⟩)
    rintro D e s108 ⟨im, ib, i⟩ hk hf ha
    obtain ⟨b107, o107, g12_, sp107⟩ := (i.p 12) (ha.at 12 R)
    obtain h20 := (i.p 13) hk
    have kn := K2 g12_ ((i.p 11) (ha.at 11 R))
    exact kn.g (L.su (fo := 0) (c := [.int .i64 (W (x94 + x101))]) (z := W (x94 + x101)) h20 sp107 ex106 ex109 (tgp hN) nag3.sz Y R R R R R R (fun c0 hc0 => by obtain rfl := hc0; exact R) fun s110 m111 h20 => L.nil (X.dn kn ⟨im.trans (m111.one R), ib, (((((((i.u 4 (fun z => let ⟨b95, o95, q, sp95⟩ := (i.p 4) z; ⟨b95, o95, q, sp95⟩)).u 9 (fun z => let ⟨b102, o102, q, sp102⟩ := (i.p 9) z; ⟨b102, o102, q, sp102⟩)).u 12 (fun z => let ⟨b107, o107, q, sp107⟩ := (i.p 12) z; ⟨b107, o107, q, sp107⟩)).u 13 (fun z => Bool.noConfusion (show true = false from z))).u 14 (fun _ => by exact h20)).u 15 (fun _ y13 => Bool.noConfusion (show true = false from y13))).u 16 (fun _ y13 => Bool.noConfusion (show true = false from y13))).u 17 (fun _ y13 => Bool.noConfusion (show true = false from y13))⟩))
   rintro D e s112 hD ⟨im, ib, i⟩
   obtain h20 := (i.p 14) (hD 13 R)
   have bx25 := bx25.mv im (tq R)
   have h1 := h1.mono (im.le (tg0 hN))
   have h2 := h2.mono (im.le (tg0 hN))
   have h3 := h3.mono (im.le (tg0 hN))
   have bx11 := bx11.mv im (tq R)
   have m0 := m0.trans (im.one up)
   refine X.sub (e' := [(32, .int .i64 st82.1), (31, .int .i64 p0.2.1), (3, .pointer (some ⟨b25, 0, none⟩)), (2, .pointer (some ⟨b11, 0, none⟩))]) ?_ (Sub.cons (ib 32 _ R) (Sub.cons (ib 31 _ R) (Sub.cons (ib 3 _ R) (Sub.cons (ib 2 _ R) Sub.nil))))
   replace bx25 : Bx s112 (N + 3) b25 #[.slice a1 p0.1.length c1, .int .i64 p0.2.1, .slice a2 p0.2.2.1.length c2, .slice a3 p0.2.2.2.length c3, .slice (some ⟨b20, 0, none⟩) x109.length x19.length] 91 := by rw [elx109]; exact bx25
   exact X.blkN (X.seqN (E.reg (L.bi Y R R R R (L.mv Y R R (L.nil (X.sub (ih82 _ (oi hm).symm _ _ ⟨s112, m0, h1, h2, h3, h20, bx11, bx25, R, R⟩) (Sub.rf R)))))))
  refine E.cF R hc (E.exit (X.seqX (X.seqX ?_)))
  have hx := ho82 _ (oi hm).symm
  subst hx
  exact X.sub (K88 _ _ ⟨s84, m0, h1, h2, h3, h20, bx11, bx25, R, R⟩) (Sub.rf R)
 intro K113
 refine E.iter (fun (st50 : Int × List Int) (e : List (Nat × Value)) (w : World) => ∃ (s52 : Sig), Mv (Up N No) s s52 ∧ RdL qT s52 a3 c3 p0.2.2.2 ∧ RdL qI s52 a1 c1 p0.1 ∧ RdL qI s52 a2 c2 p0.2.2.1 ∧ RowT qI s52 (N + 2) 3 (some ⟨b20, 0, none⟩) x19.length st50.2 ∧ Bx s52 (N + 0) b8 #[.slice a1 p0.1.length c1, .int .i64 p0.2.1, .slice a2 p0.2.2.1.length c2, .slice a3 p0.2.2.2.length c3] 30 ∧ Bx s52 (N + 1) b11 #[.slice none 0 0, .int .i64 0, .slice none 0 0, .slice none 0 0, .slice none 0 0] 91 ∧ Bx s52 (N + 3) b25 #[.slice a1 p0.1.length c1, .int .i64 p0.2.1, .slice a2 p0.2.2.1.length c2, .slice a3 p0.2.2.2.length c3, .slice (some ⟨b20, 0, none⟩) st50.2.length x19.length] 91 ∧ e = [(16, .int .i64 st50.1), (15, .int .i64 (p0.2.2.2.length : Int)), (14, .slice a3 p0.2.2.2.length c3), (3, .pointer (some ⟨b25, 0, none⟩)), (2, .pointer (some ⟨b11, 0, none⟩)), (1, .pointer (some ⟨b8, 0, none⟩))] ∧ w = s52.w) eo50 ⟨s31, m0, h3, h1, h2, h20, bx8, bx11, bx25, R, R⟩ (Sub.rf R) ?_
 rintro st50 res50 hm ih50 ho50 _ _ ⟨s52, m0, h3, h1, h2, h20, bx8, bx11, bx25, rfl, rfl⟩
 unfold m_reach_newGraph_l1 at hm
 refine ER (L.bi Y R R R R (LN (E.seq ?_)))
 rcases ifS hm with ⟨hc, hm⟩ | ⟨hc, hm⟩
 ·refine E.cT R hc (E.skip (X.seqN (E.seq (E.block (E.seq (E.reg ?_))))))
  obtain ⟨x114, ex114, hm⟩ := bindS hm
  refine L.ix (r := qT) sl28 h3 Y R R ex114 R fun b115 o115 cc115 me115 rd115 => ?_
  obtain ⟨_, _, rfl, rfl, ⟨_, _, rfl, rfl, rfl⟩⟩ := rd115
  refine L.lg (j := 0) (cs := [.int .i64 x114.1, .int .i64 x114.2.1, .int .i64 x114.2.2]) me115 ag62 Y R R R R R (L.al (N + 4) zz62 R Y R fun b116 s117 m118 bx116 => ?_)
  refine L.st (c := [.int .i64 x114.1, .int .i64 x114.2.1, .int .i64 x114.2.2]) (cs' := #[.int .i64 x114.1, .int .i64 x114.2.1, .int .i64 x114.2.2]) bx116 ag62.sz Y R R R R R (nb R) R fun s119 m120 bx116 => ?_
  replace bx25 := (bx25.mv m118 no_No).mv m120 (tq R)
  replace h20 := (h20.mv m118 no_No no_No).mv m120 (tq R) (tg0 hN)
  refine LN (E.reg (L.fa fa91_1 Y R R (L.ld (j := 4) bx25.mem nag27 Y R R R R (L.fa fa62_0 Y R R (L.ld (j := 0) bx116.mem nag3 Y R R R R (L.bi Y R R R R ?_))))))
  obtain ⟨x121, ex121, hm⟩ := bindS hm
  refine L.ir (r := qI) sl27 h20 Y R R ex121 R fun b122 o122 cc122 me122 rd122 sp122 => ?_
  obtain rfl := rd122
  refine L.ld (j := 0) me122 nag3 Y R R R R (L.bi Y R R R R ?_)
  obtain ⟨x123, ex123, hm⟩ := bindS hm
  refine L.ir (r := qI) sl27 h20 Y R R ex123 R fun b124 o124 cc124 me124 rd124 sp124 => ?_
  obtain rfl := rd124
  obtain ⟨x125, ex125, hm⟩ := bindS hm
  have elx125 := upd_len ex125
  refine L.su (fo := 0) (c := [.int .i64 (W (x121 + 1))]) (z := W (x121 + 1)) h20 sp124 ex123 ex125 (tgp hN) nag3.sz Y R R R R R R (fun c0 hc0 => by obtain rfl := hc0; exact R) fun s126 m127 h20 => ?_
  replace m0 := ((m0.trans m118.no).trans (m120.one up)).trans (m127.one up)
  replace h3 := ((h3.mono m118.z).mono (m120.le (tg0 hN))).mono (m127.le (tg0 hN))
  replace bx8 := ((bx8.mv m118 no_No).mv m120 (tq R)).mv m127 (tq R)
  replace h1 := ((h1.mono m118.z).mono (m120.le (tg0 hN))).mono (m127.le (tg0 hN))
  replace h2 := ((h2.mono m118.z).mono (m120.le (tg0 hN))).mono (m127.le (tg0 hN))
  replace bx11 := ((bx11.mv m118 no_No).mv m120 (tq R)).mv m127 (tq R)
  replace bx25 := bx25.mv m127 (tq R)
  replace bx25 : Bx s126 (N + 3) b25 #[.slice a1 p0.1.length c1, .int .i64 p0.2.1, .slice a2 p0.2.2.1.length c2, .slice a3 p0.2.2.2.length c3, .slice (some ⟨b20, 0, none⟩) x125.length x19.length] 91 := by rw [elx125]; exact bx25
  exact L.nil (X.blkN (X.seqN (E.reg (L.bi Y R R R R (L.mv Y R R (L.nil (X.sub (ih50 _ (oi hm).symm _ _ ⟨s126, m0, h3, h1, h2, h20, bx8, bx11, bx25, R, R⟩) (Sub.rf R))))))))
 refine E.cF R hc (E.exit (X.seqX (X.seqX ?_)))
 have hx := ho50 _ (oi hm).symm
 subst hx
 exact X.sub (K113 _ _ ⟨s52, m0, h1, h2, h3, h20, bx8, bx11, bx25, R, R⟩) (Sub.rf R)

theorem bs134 : Bs Tryz.prog 134 133 2 [.int .i64 0, .int .i64 0] := Bs.mk' Tryz.underlying134 (by kernel_rfl) (by kernel_rfl) rfl
theorem el133 : El Tryz.prog 133 2 16 := El.mk' (z := .agg #[.int .i64 0, .int .i64 0]) (by kernel_rfl) (by kernel_rfl) (by kernel_rfl) rfl
theorem fa133_0 : FA Tryz.prog 133 0 0 := FA.mk Tryz.underlying133 rfl rfl ⟨1, by decide, by kernel_rfl⟩
theorem fa133_1 : FA Tryz.prog 133 1 1 := FA.mk Tryz.underlying133 rfl rfl ⟨1, by decide, by kernel_rfl⟩
theorem fa91_0 : FA Tryz.prog 91 0 0 := FA.mk Tryz.underlying91 rfl rfl ⟨4, by decide, by kernel_rfl⟩
theorem pl133 : Pl Tryz.prog 133 [(0, 1), (1, 1)] [.int .i64 0, .int .i64 0] := Pl.str Tryz.underlying133 (by kernel_rfl) (by kernel_rfl)
theorem sl134 : Sl Tryz.prog 134 133 2 := Sl.mk' Tryz.underlying134 (by kernel_rfl)
noncomputable def m_reach_graph_finish_l1 (p0 : AutT × List Int) (st92 : List Bool × (List (Int × Int)) × List Int) : Option ((List Bool × (List (Int × Int)) × List Int) ⊕ (List Int × List Bool)) :=
 if decide ((st92.2.1.length : Int) > 0) then
  (idx st92.2.1 (W ((st92.2.1.length : Int) - 1))).bind fun x99 =>
  (idx p0.2 (W (x99.1 + 1))).bind fun x113 =>
  if (x99.2 == x113) then
   (app st92.2.2 ([x99.1] : List Int)).bind fun x121 =>
   (slc st92.2.1 0 (W ((st92.2.1.length : Int) - 1))).bind fun x125 =>
   some (.inl (st92.1, x125, x121))
  else
   (idx p0.1.2.2.2 x99.2).bind fun x135 =>
   (upd st92.2.1 (W ((st92.2.1.length : Int) - 1)) (x99.1, W (x99.2 + 1))).bind fun x141 =>
   (idx st92.1 x135.2.2).bind fun x144 =>
   if (!x144) then
    (idx st92.1 x135.2.2).bind fun x146 =>
    (upd st92.1 x135.2.2 true).bind fun x148 =>
    (idx p0.2 x135.2.2).bind fun x151 =>
    (app x141 ([(x135.2.2, x151)] : List (Int × Int))).bind fun x156 =>
    some (.inl (x148, x156, st92.2.2))
   else
    some (.inl (st92.1, x141, st92.2.2))
 else
  some (.inr (st92.2.2, st92.1))
noncomputable def m_reach_graph_finish (p0 : AutT × List Int) (p1 : Int) (p2 : List Bool) (p3 : List Int) : Option (List Int × List Bool) :=
 (idx p0.2 p1).bind fun x11 =>
 (idx p2 p1).bind fun x16 =>
 (upd p2 p1 true).bind fun x18 =>
 (iter (m_reach_graph_finish_l1 p0) (x18, ([(p1, x11)] : List (Int × Int)), p3)).bind fun o92 =>
 some o92
theorem m_reach_graph_finish_c {s : Sig} {p0 : AutT × List Int} {p1 : Int} {p2 : List Bool} {p3 : List Int} {a1 : Option Addr} {c1 : Nat} {a2 : Option Addr} {c2 : Nat} {a3 : Option Addr} {c3 : Nat} {a4 : Option Addr} {c4 : Nat} {t2 : Nat} {a5 : Option Addr} {c5 : Nat} {t3 : Nat} {a6 : Option Addr} {c6 : Nat} {r : List Int × List Bool} (nt2_t3 : t2 ≠ t3) (nt3_t2 : t3 ≠ t2) (zt2 : 0 < t2) (zt3 : 0 < t3) (h1 : RdL qI s a1 c1 p0.1.1) (h2 : RdL qI s a2 c2 p0.1.2.2.1) (h3 : RdL qT s a3 c3 p0.1.2.2.2) (h4 : RdL qI s a4 c4 p0.2) (h5 : RowT rB s t2 4 a5 c5 p2) (h6 : RowT qI s t3 3 a6 c6 p3) (hm : m_reach_graph_finish p0 p1 p2 p3 = some r) :
    Calls Tryz.prog 54 #[.agg #[.slice a1 p0.1.1.length c1, .int .i64 p0.1.2.1, .slice a2 p0.1.2.2.1.length c2, .slice a3 p0.1.2.2.2.length c3, .slice a4 p0.2.length c4], .int .i64 p1, .slice a5 p2.length c5, .slice a6 p3.length c6] s.w (RetS (fun t => t = t2 ∨ t = t3) s fun v s' => ∃ (a7 : Option Addr) (c7 : Nat), v = .slice a7 r.1.length c7 ∧ RowT qI s' t3 3 a7 c7 r.1 ∧ RowT rB s' t2 4 a5 c5 r.2) := by
 unfold m_reach_graph_finish at hm
 obtain ⟨N, hN, hNb, lt2, lt3, -⟩ := s.freshL [t2, t3]
 have m0 : Mv (Up N (fun t => t = t2 ∨ t = t3)) s s := Mv.refl _ _
 refine E.entry Tryz.func54 R Tryz.ntmps54 R R (ER (L.box (N + 0) Y R R R fun b8 s9 m10 bx8 => ?_))
 replace h4 := h4.mono m10.z
 refine L.as Y R R (LN (ER (L.mv Y R R (L.fa fa91_1 Y R R (L.ld (j := 4) bx8.mem nag27 Y R R R R (L.mv Y R R ?_))))))
 obtain ⟨x11, ex11, hm⟩ := bindS hm
 refine L.ix (r := qI) sl27 h4 Y R R ex11 R fun b12 o12 cc12 me12 rd12 => ?_
 obtain rfl := rd12
 refine L.ld (j := 0) me12 nag3 Y R R R R (L.bu (cs := [.int .i64 p1, .int .i64 x11]) pl133 Y R R R (L.bsE (k := 1) (cs := [.int .i64 p1, .int .i64 x11]) (N + 1) bs134 (nb R) Y R R R R fun b13 s14 m15 bx13 => ?_))
 replace h5 := (h5.mv m10 no_No no_No).mv m15 no_No no_No
 have h13 := Bx.row (r := (rP qI qI)) (xs := ([(p1, x11)] : List (Int × Int))) bx13 ⟨[.int .i64 p1, .int .i64 x11], _, R, ⟨[.int .i64 p1], [.int .i64 x11], R, R, R⟩, R⟩ (nb R)
 refine L.as Y R R (LN (ER (L.mv Y R R (L.mv Y R R ?_))))
 obtain ⟨x16, ex16, hm⟩ := bindS hm
 refine L.ir (r := rB) sl55 h5 Y R R ex16 R fun b17 o17 cc17 me17 rd17 sp17 => ?_
 obtain rfl := rd17
 obtain ⟨x18, ex18, hm⟩ := bindS hm
 have elx18 := upd_len ex18
 refine L.su (fo := 0) (c := [.bool true]) (z := true) h5 sp17 ex16 ex18 (tgpV zt2) nag4.sz Y R R R R R R (fun c0 hc0 => by obtain rfl := hc0; exact R) fun s19 m20 h5 => ?_
 replace m0 := ((m0.trans m10.no).trans m15.no).trans (m20.one (.inr (.inl R)))
 replace h13 := h13.mv m20 (tgW lt2) (tgz zt2)
 replace h6 := ((h6.mv m10 no_No no_No).mv m15 no_No no_No).mv m20 nt3_t2 (tgz zt2)
 replace bx8 := (bx8.mv m15 no_No).mv m20 (tgW lt2)
 replace h1 := ((h1.mono m10.z).mono m15.z).mono (m20.le (tgz zt2))
 replace h2 := ((h2.mono m10.z).mono m15.z).mono (m20.le (tgz zt2))
 replace h3 := ((h3.mono m10.z).mono m15.z).mono (m20.le (tgz zt2))
 replace h4 := (h4.mono m15.z).mono (m20.le (tgz zt2))
 refine L.reval (d := 2) R elx18 (LN (E.seq (E.block ?_)))
 obtain ⟨o92, eo92, hm⟩ := bindS hm
 refine E.cut (x := .exit 0) (fun e w => ∃ (s97 : Sig) (a94 : Option Addr) (c94 : Nat), Mv (Up N (fun t => t = t2 ∨ t = t3)) s s97 ∧ RowT qI s97 t3 3 a94 c94 o92.1 ∧ RowT rB s97 t2 4 a5 c5 o92.2 ∧ e = [(3, .slice a94 o92.1.length c94)] ∧ w = s97.w) ?_ ?_
 ·rintro _ _ ⟨s97, a94, c94, m0, h94, h5, rfl, rfl⟩
  refine X.blkE (X.seqN (ER (L.mv Y R R (L.as Y R R (LN (E.ret ?_))))))
  obtain rfl := oi hm
  exact X.rt (.inl R) Tryz.results54 (Rs.tmp R Rs.nil) R ⟨_, (s97).ren N (fun _ => 0), R, R, m0.ren hNb, ⟨a94, c94, R, (h94.renV hN lt3), (h5.renV hN lt2)⟩⟩
 intro K98
 refine E.iter (fun (st92 : List Bool × (List (Int × Int)) × List Int) (e : List (Nat × Value)) (w : World) => ∃ (s96 : Sig) (a23 : Option Addr) (c23 : Nat) (a25 : Option Addr) (c25 : Nat), Mv (Up N (fun t => t = t2 ∨ t = t3)) s s96 ∧ RowT rB s96 t2 4 a5 c5 st92.1 ∧ RowT (rP qI qI) s96 (N + 1) 133 a23 c23 st92.2.1 ∧ RowT qI s96 t3 3 a25 c25 st92.2.2 ∧ RdL qI s96 a1 c1 p0.1.1 ∧ RdL qI s96 a2 c2 p0.1.2.2.1 ∧ RdL qT s96 a3 c3 p0.1.2.2.2 ∧ RdL qI s96 a4 c4 p0.2 ∧ Bx s96 (N + 0) b8 #[.slice a1 p0.1.1.length c1, .int .i64 p0.1.2.1, .slice a2 p0.1.2.2.1.length c2, .slice a3 p0.1.2.2.2.length c3, .slice a4 p0.2.length c4] 91 ∧ e = [(2, .slice a5 st92.1.length c5), (9, .slice a23 st92.2.1.length c23), (4, .pointer (some ⟨b8, 0, none⟩)), (3, .slice a25 st92.2.2.length c25)] ∧ w = s96.w) eo92 ⟨s19, (some ⟨b13, 0, none⟩), ([(p1, x11)] : List (Int × Int)).length, a6, c6, m0, h5, h13, h6, h1, h2, h3, h4, bx8, R, R⟩ (Sub.rf R) ?_
 rintro st92 res92 hm ih92 ho92 _ _ ⟨s96, a23, c23, a25, c25, m0, h5, h23, h25, h1, h2, h3, h4, bx8, rfl, rfl⟩
 unfold m_reach_graph_finish_l1 at hm
 refine E.seq (ER (L.mv Y R R (L.len sl134 Y R R (L.bi Y R R R R (L.nil (X.seqN ?_))))))
 rcases ifS hm with ⟨hc, hm⟩ | ⟨hc, hm⟩
 ·refine E.cT R hc (E.skip (X.seqN (E.block (ER (L.mv Y R R (L.mv Y R R (L.len sl134 Y R R (L.bi Y R R R R ?_))))))))
  obtain ⟨x99, ex99, hm⟩ := bindS hm
  refine L.ir (r := (rP qI qI)) sl134 h23 Y R R ex99 R fun b100 o100 cc100 me100 rd100 sp100 => ?_
  obtain ⟨_, _, rfl, rfl, rfl⟩ := rd100
  refine L.as Y R R (LN (E.seq (E.seq ?_)))
  obtain ⟨x113, ex113, hm⟩ := bindS hm
  refine E.draw [[], [0], [0, 1], [0, 1, 2], [], [4], [], [6], [6, 7], [6, 7, 8], [6, 7, 8, 9], [4, 5, 6, 7, 8, 9, 10], [4, 5, 6, 7, 8, 9, 10, 11], [0, 1, 2, 3, 4, 5, 6, 7, 8, 9, 10, 11, 12]] (fun D e sx => Mv No s96 sx ∧ Sub [(10, .pointer (some ⟨b100, o100, none⟩)), (2, .slice a5 st92.1.length c5), (9, .slice a23 st92.2.1.length c23), (4, .pointer (some ⟨b8, 0, none⟩)), (3, .slice a25 st92.2.2.length c25)] e ∧ AllP [G D e 0 31 (.pointer (some ⟨b100, o100, none⟩)), G D e 1 32 (.pointer (some ⟨b100, o100, none⟩)), G D e 2 33 (.pointer (some ⟨b100, o100 + 1, none⟩)), G D e 3 34 (.int .i64 x99.2), G D e 4 35 (.pointer (some ⟨b8, 4, none⟩)), G D e 5 36 (.slice a4 p0.2.length c4), G D e 6 37 (.pointer (some ⟨b100, o100, none⟩)), G D e 7 38 (.pointer (some ⟨b100, o100, none⟩)), G D e 8 39 (.pointer (some ⟨b100, o100 + 0, none⟩)), G D e 9 40 (.int .i64 x99.1), G D e 10 41 (.int .i64 (W (x99.1 + 1))), D 11 = true → (∃ (b114 : Nat) (o114 : Nat), Env.get e 42 = some (.pointer (some ⟨b114, o114, none⟩)) ∧ Mem sx 0 b114 o114 [.int .i64 x113]), G D e 12 43 (.int .i64 x113), G D e 13 44 (.bool (x99.2 == x113))]) (by kernel_rfl) (by kernel_rfl) (by kernel_rfl) ?_ ?_ ?_
  ·intro sz mz
   exact ⟨mz, (Sub.rf R), nofun, nofun, nofun, nofun, nofun, nofun, nofun, nofun, nofun, nofun, nofun, nofun, nofun, nofun, trivial⟩
  ·refine ⟨?_, ?_, ?_, ?_, ?_, ?_, ?_, ?_, ?_, ?_, ?_, ?_, ?_, ?_, trivial⟩
   ·rintro D e s101 ⟨im, ib, i⟩ hk hf ha
    have kn := K1 (ib 10 _ R)
    exact kn.g (L.mv Y R R (L.nil (X.dk kn ⟨im, Sub.fresh ib R, i.u 0 (fun _ => R)⟩)))
   ·rintro D e s102 ⟨im, ib, i⟩ hk hf ha
    have kn := K1 ((i.p 0) (ha.at 0 R))
    exact kn.g (L.nc Y R R (L.nil (X.dk kn ⟨im, Sub.fresh ib R, i.u 1 (fun _ => R)⟩)))
   ·rintro D e s103 ⟨im, ib, i⟩ hk hf ha
    have kn := K1 ((i.p 1) (ha.at 1 R))
    exact kn.g (L.fa fa133_1 Y R R (L.nil (X.dk kn ⟨im, Sub.fresh ib R, i.u 2 (fun _ => R)⟩)))
   ·rintro D e s104 ⟨im, ib, i⟩ hk hf ha
    have me100 := me100.mv im no_No
    have kn := K1 ((i.p 2) (ha.at 2 R))
    exact kn.g (L.ld (j := 1) me100 nag3 Y R R R R (L.nil (X.dk kn ⟨im, Sub.fresh ib R, i.u 3 (fun _ => R)⟩)))
   ·rintro D e s105 ⟨im, ib, i⟩ hk hf ha
    have kn := K1 (ib 4 _ R)
    exact kn.g (L.fa fa91_1 Y R R (L.nil (X.dk kn ⟨im, Sub.fresh ib R, i.u 4 (fun _ => R)⟩)))
   ·rintro D e s106 ⟨im, ib, i⟩ hk hf ha
    have bx8 := bx8.mv im no_No
    have kn := K1 ((i.p 4) (ha.at 4 R))
    exact kn.g (L.ld (j := 4) bx8.mem nag27 Y R R R R (L.nil (X.dk kn ⟨im, Sub.fresh ib R, i.u 5 (fun _ => R)⟩)))
   ·rintro D e s107 ⟨im, ib, i⟩ hk hf ha
    have kn := K1 (ib 10 _ R)
    exact kn.g (L.mv Y R R (L.nil (X.dk kn ⟨im, Sub.fresh ib R, i.u 6 (fun _ => R)⟩)))
   ·rintro D e s108 ⟨im, ib, i⟩ hk hf ha
    have kn := K1 ((i.p 6) (ha.at 6 R))
    exact kn.g (L.nc Y R R (L.nil (X.dk kn ⟨im, Sub.fresh ib R, i.u 7 (fun _ => R)⟩)))
   ·rintro D e s109 ⟨im, ib, i⟩ hk hf ha
    have kn := K1 ((i.p 7) (ha.at 7 R))
    exact kn.g (L.fa fa133_0 Y R R (L.nil (X.dk kn ⟨im, Sub.fresh ib R, i.u 8 (fun _ => R)⟩)))
   ·rintro D e s110 ⟨im, ib, i⟩ hk hf ha
    have me100 := me100.mv im no_No
    have kn := K1 ((i.p 8) (ha.at 8 R))
    exact kn.g (L.ld (j := 0) me100 nag3 Y R R R R (L.nil (X.dk kn ⟨im, Sub.fresh ib R, i.u 9 (fun _ => R)⟩)))
   ·rintro D e s111 ⟨im, ib, i⟩ hk hf ha
    have kn := K1 ((i.p 9) (ha.at 9 R))
    exact kn.g (L.bi Y R R R R (L.nil (X.dk kn ⟨im, Sub.fresh ib R, i.u 10 (fun _ => R)⟩)))
   ·rintro D e s112 ⟨im, ib, i⟩ hk hf ha
    have h4 := h4.mono im.z
    have kn := K2 ((i.p 5) (ha.at 5 R)) ((i.p 10) (ha.at 10 R))
    refine kn.g (L.ix (r := qI) sl27 h4 Y R R ex113 R fun b114 o114 cc114 me114 rd114 => ?_)
    obtain rfl := rd114
    exact L.nil (X.dk kn ⟨im, Sub.fresh ib R, i.u 11 (fun _ => ⟨b114, o114, R, me114⟩)⟩)
   ·rintro D e s115 ⟨im, ib, i⟩ hk hf ha
    obtain ⟨b114, o114, g11_, me114⟩ := (i.p 11) (ha.at 11 R)
    have kn := K1 g11_
    exact kn.g (L.ld (j := 0) me114 nag3 Y R R R R (L.nil (X.dk kn ⟨im, Sub.fresh ib R, i.u 12 (fun _ => R)⟩)))
   rintro D e s116 ⟨im, ib, i⟩ hk hf ha
   have kn := K2 ((i.p 3) (ha.at 3 R)) ((i.p 12) (ha.at 12 R))
   exact kn.g (L.bi Y R R R R (L.nil (X.dk kn ⟨im, Sub.fresh ib R, i.u 13 (fun _ => R)⟩)))
  rintro D e s117 hD ⟨im, ib, i⟩
  have g13_ := (i.p 13) (hD 13 R)
  have me100 := me100.mv im no_No
  have h5 := h5.mv im no_No no_No
  have h23 := h23.mv im no_No no_No
  have bx8 := bx8.mv im no_No
  have h1 := h1.mono im.z
  have h2 := h2.mono im.z
  have h3 := h3.mono im.z
  have h4 := h4.mono im.z
  have h25 := h25.mv im no_No no_No
  have m0 := m0.trans im.no
  refine X.sub (e' := [(44, .bool (x99.2 == x113)), (10, .pointer (some ⟨b100, o100, none⟩)), (2, .slice a5 st92.1.length c5), (9, .slice a23 st92.2.1.length c23), (4, .pointer (some ⟨b8, 0, none⟩)), (3, .slice a25 st92.2.2.length c25)]) ?_ (Sub.cons g13_ (Sub.cons (ib 10 _ R) (Sub.cons (ib 2 _ R) (Sub.cons (ib 9 _ R) (Sub.cons (ib 4 _ R) (Sub.cons (ib 3 _ R) Sub.nil))))))
  refine X.seqN ?_
  rcases ifS hm with ⟨hc, hm⟩ | ⟨hc, hm⟩
  ·refine E.cT R hc (ER (L.mv Y R R (L.mv Y R R (L.nc Y R R (L.fa fa133_0 Y R R (L.ld (j := 0) me100 nag3 Y R R R R (L.bsE (k := 1) (cs := [.int .i64 x99.1]) 0 bs27 (nb R) Y R R R R fun b118 s119 m120 bx118 => ?_)))))))
   replace h25 := h25.mv m120 no_No no_No
   have h118 := Bx.rdL (r := qI) (xs := ([x99.1] : List Int)) bx118 ⟨[.int .i64 x99.1], _, R, R, R⟩ (nb R)
   obtain ⟨x121, ex121, hm⟩ := bindS hm
   refine L.ap (r := qI) Tryz.underlying27 el3 R (tgpV zt3) h25 h118.wk Y R R ex121 R fun a122 c122 s123 m124 h122 => ?_
   replace m0 := (m0.trans m120.no).trans (m124.one (.inr (.inr R)))
   replace h23 := (h23.mv m120 no_No no_No).mv m124 (tgW lt3) (tgz zt3)
   replace h5 := (h5.mv m120 no_No no_No).mv m124 nt2_t3 (tgz zt3)
   replace bx8 := (bx8.mv m120 no_No).mv m124 (tgW lt3)
   replace h1 := (h1.mono m120.z).mono (m124.le (tgz zt3))
   replace h2 := (h2.mono m120.z).mono (m124.le (tgz zt3))
   replace h3 := (h3.mono m120.z).mono (m124.le (tgz zt3))
   replace h4 := (h4.mono m120.z).mono (m124.le (tgz zt3))
   refine L.as Y R R (LN (ER (L.mv Y R R (L.mv Y R R (L.len sl134 Y R R (L.bi Y R R R R ?_))))))
   obtain ⟨x125, ex125, hm⟩ := bindS hm
   exact L.sho (r := (rP qI qI)) sl134 h23 Y R R ex125 R fun a126 c126 h126 => L.as Y R R (LN (E.exit (X.seqX (X.blkE (X.sub (ih92 _ (oi hm).symm _ _ ⟨s123, a126, c126, a122, c122, m0, h5, h126, h122, h1, h2, h3, h4, bx8, R, R⟩) (Sub.rf R))))))
  refine E.cF R hc (E.skip (X.seqN (E.seq ?_)))
  obtain ⟨x135, ex135, hm⟩ := bindS hm
  refine E.draw [[], [0], [0, 1], [], [3], [3, 4], [3, 4, 5], [0, 1, 2, 3, 4, 5, 6], [0, 1, 2, 3, 4, 5, 6, 7], [0, 1, 2, 3, 4, 5, 6, 7, 8], [0, 1, 2, 3, 4, 5, 6, 7, 8, 9]] (fun D e sx => Mv No s117 sx ∧ Sub [(10, .pointer (some ⟨b100, o100, none⟩)), (2, .slice a5 st92.1.length c5), (9, .slice a23 st92.2.1.length c23), (4, .pointer (some ⟨b8, 0, none⟩)), (3, .slice a25 st92.2.2.length c25)] e ∧ AllP [G D e 0 57 (.pointer (some ⟨b8, 0, none⟩)), G D e 1 58 (.pointer (some ⟨b8, 3, none⟩)), G D e 2 59 (.slice a3 p0.1.2.2.2.length c3), G D e 3 60 (.pointer (some ⟨b100, o100, none⟩)), G D e 4 61 (.pointer (some ⟨b100, o100, none⟩)), G D e 5 62 (.pointer (some ⟨b100, o100 + 1, none⟩)), G D e 6 63 (.int .i64 x99.2), D 7 = true → (∃ (b136 : Nat) (o136 : Nat), Env.get e 64 = some (.pointer (some ⟨b136, o136, none⟩)) ∧ Mem sx 0 b136 o136 [.int .i64 x135.1, .int .i64 x135.2.1, .int .i64 x135.2.2]), D 8 = true → ∀ (b136 : Nat) (o136 : Nat), Env.get e 64 = some (.pointer (some ⟨b136, o136, none⟩)) → (Env.get e 65 = some (.pointer (some ⟨b136, o136 + 2, none⟩))), G D e 9 66 (.int .i64 x135.2.2), G D e 10 11 (.int .i64 x135.2.2)]) (by kernel_rfl) (by kernel_rfl) (by kernel_rfl) ?_ ?_ ?_
  ·intro sz mz
   exact ⟨mz, (Sub.rf R), nofun, nofun, nofun, nofun, nofun, nofun, nofun, nofun, nofun, nofun, nofun, trivial⟩
  ·refine ⟨?_, ?_, ?_, ?_, ?_, ?_, ?_, ?_, ?_, ?_, ?_, trivial⟩
   ·rintro D e s127 ⟨im, ib, i⟩ hk hf ha
    have kn := K1 (ib 4 _ R)
    exact kn.g (L.fa fa91_0 Y R R (L.nil (X.dk kn ⟨im, Sub.fresh ib R, i.u 0 (fun _ => R)⟩)))
   ·rintro D e s128 ⟨im, ib, i⟩ hk hf ha
    have kn := K1 ((i.p 0) (ha.at 0 R))
    exact kn.g (L.fa fa30_3 Y R R (L.nil (X.dk kn ⟨im, Sub.fresh ib R, i.u 1 (fun _ => R)⟩)))
   ·rintro D e s129 ⟨im, ib, i⟩ hk hf ha
    have bx8 := bx8.mv im no_No
    have kn := K1 ((i.p 1) (ha.at 1 R))
    exact kn.g (L.ld (j := 3) bx8.mem nag28 Y R R R R (L.nil (X.dk kn ⟨im, Sub.fresh ib R, i.u 2 (fun _ => R)⟩)))
   ·rintro D e s130 ⟨im, ib, i⟩ hk hf ha
    have kn := K1 (ib 10 _ R)
    exact kn.g (L.mv Y R R (L.nil (X.dk kn ⟨im, Sub.fresh ib R, i.u 3 (fun _ => R)⟩)))
   ·rintro D e s131 ⟨im, ib, i⟩ hk hf ha
    have kn := K1 ((i.p 3) (ha.at 3 R))
    exact kn.g (L.nc Y R R (L.nil (X.dk kn ⟨im, Sub.fresh ib R, i.u 4 (fun _ => R)⟩)))
   ·rintro D e s132 ⟨im, ib, i⟩ hk hf ha
    have kn := K1 ((i.p 4) (ha.at 4 R))
    exact kn.g (L.fa fa133_1 Y R R (L.nil (X.dk kn ⟨im, Sub.fresh ib R, i.u 5 (fun _ => R)⟩)))
   ·rintro D e s133 ⟨im, ib, i⟩ hk hf ha
    have me100 := me100.mv im no_No
    have kn := K1 ((i.p 5) (ha.at 5 R))
    exact kn.g (L.ld (j := 1) me100 nag3 Y R R R R (L.nil (X.dk kn ⟨im, Sub.fresh ib R, i.u 6 (fun _ => R)⟩)))
   ·rintro D e s134 ⟨im, ib, i⟩ hk hf ha
    have h3 := h3.mono im.z
    have kn := K2 ((i.p 2) (ha.at 2 R)) ((i.p 6) (ha.at 6 R))
    refine kn.g (L.ix (r := qT) sl28 h3 Y R R ex135 R fun b136 o136 cc136 me136 rd136 => ?_)
    obtain ⟨_, _, rfl, rfl, ⟨_, _, rfl, rfl, rfl⟩⟩ := rd136
    exact L.nil (X.dk kn ⟨im, Sub.fresh ib R, (i.u 7 (fun _ => ⟨b136, o136, R, me136⟩)).u 8 (fun z => Bool.noConfusion ((hf 8 (nb R) R).symm.trans z))⟩)
   ·rintro D e s137 ⟨im, ib, i⟩ hk hf ha
    obtain ⟨b136, o136, g7_, me136⟩ := (i.p 7) (ha.at 7 R)
    have kn := K1 g7_
    exact kn.g (L.fa fa62_2 Y R R (L.nil (X.dk kn ⟨im, Sub.fresh ib R, i.u 8 (fun _ _ _ q7 => by cases g7_.symm.trans q7; exact R)⟩)))
   ·rintro D e s138 ⟨im, ib, i⟩ hk hf ha
    obtain ⟨b136, o136, g7_, me136⟩ := (i.p 7) (ha.at 7 R)
    have g8_ := (i.p 8) (ha.at 8 R) b136 o136 g7_
    have kn := K1 g8_
    exact kn.g (L.ld (j := 2) me136 nag3 Y R R R R (L.nil (X.dk kn ⟨im, Sub.fresh ib R, i.u 9 (fun _ => R)⟩)))
   rintro D e s139 ⟨im, ib, i⟩ hk hf ha
   have kn := K1 ((i.p 9) (ha.at 9 R))
   exact kn.g (L.as Y R R (L.nil (X.dk kn ⟨im, Sub.fresh ib R, i.u 10 (fun _ => R)⟩)))
  rintro D e s140 hD ⟨im, ib, i⟩
  have g10_ := (i.p 10) (hD 10 R)
  have me100 := me100.mv im no_No
  have h5 := h5.mv im no_No no_No
  have h23 := h23.mv im no_No no_No
  have bx8 := bx8.mv im no_No
  have h1 := h1.mono im.z
  have h2 := h2.mono im.z
  have h3 := h3.mono im.z
  have h4 := h4.mono im.z
  have h25 := h25.mv im no_No no_No
  have m0 := m0.trans im.no
  refine X.sub (e' := [(11, .int .i64 x135.2.2), (10, .pointer (some ⟨b100, o100, none⟩)), (2, .slice a5 st92.1.length c5), (9, .slice a23 st92.2.1.length c23), (4, .pointer (some ⟨b8, 0, none⟩)), (3, .slice a25 st92.2.2.length c25)]) ?_ (Sub.cons g10_ (Sub.cons (ib 10 _ R) (Sub.cons (ib 2 _ R) (Sub.cons (ib 9 _ R) (Sub.cons (ib 4 _ R) (Sub.cons (ib 3 _ R) Sub.nil))))))
  refine X.seqN (ER (L.mv Y R R (L.nc Y R R (L.fa fa133_1 Y R R (L.ld (j := 1) me100 nag3 Y R R R R (L.bi Y R R R R (L.nc Y R R (L.fa fa133_1 Y R R ?_))))))))
  obtain ⟨x141, ex141, hm⟩ := bindS hm
  have elx141 := upd_len ex141
  refine L.su (fo := 1) (c := [.int .i64 (W (x99.2 + 1))]) (z := (x99.1, W (x99.2 + 1))) h23 sp100 ex99 ex141 (tgp hN) nag3.sz Y R R R R R R (fun c0 hc0 => by obtain ⟨_, _, rfl, rfl, rfl⟩ := hc0; exact ⟨[.int .i64 x99.1], [.int .i64 (W (x99.2 + 1))], R, R, R⟩) fun s142 m143 h23 => ?_
  replace m0 := m0.trans (m143.one up)
  replace h5 := h5.mv m143 (tgV lt2) (tg0 hN)
  replace h25 := h25.mv m143 (tgV lt3) (tg0 hN)
  replace bx8 := bx8.mv m143 (tq R)
  replace h1 := h1.mono (m143.le (tg0 hN))
  replace h2 := h2.mono (m143.le (tg0 hN))
  replace h3 := h3.mono (m143.le (tg0 hN))
  replace h4 := h4.mono (m143.le (tg0 hN))
  refine L.reval (d := 9) R elx141 (LN (ER (L.mv Y R R (L.mv Y R R ?_))))
  obtain ⟨x144, ex144, hm⟩ := bindS hm
  refine L.ir (r := rB) sl55 h5 Y R R ex144 R fun b145 o145 cc145 me145 rd145 sp145 => ?_
  obtain rfl := rd145
  refine L.ld (j := 0) me145 nag4 Y R R R R (L.not Y R R (L.nil (X.seqN ?_)))
  rcases ifS hm with ⟨hc, hm⟩ | ⟨hc, hm⟩
  ·refine E.cT R hc (ER (L.mv Y R R (L.mv Y R R ?_)))
   obtain ⟨x146, ex146, hm⟩ := bindS hm
   refine L.ir (r := rB) sl55 h5 Y R R ex146 R fun b147 o147 cc147 me147 rd147 sp147 => ?_
   obtain rfl := rd147
   obtain ⟨x148, ex148, hm⟩ := bindS hm
   have elx148 := upd_len ex148
   refine L.su (fo := 0) (c := [.bool true]) (z := true) h5 sp147 ex146 ex148 (tgpV zt2) nag4.sz Y R R R R R R (fun c0 hc0 => by obtain rfl := hc0; exact R) fun s149 m150 h5 => ?_
   replace bx8 := bx8.mv m150 (tgW lt2)
   replace h4 := h4.mono (m150.le (tgz zt2))
   refine L.reval (d := 2) R elx148 (LN (E.reg (L.mv Y R R (L.mv Y R R (L.fa fa91_1 Y R R (L.ld (j := 4) bx8.mem nag27 Y R R R R (L.mv Y R R ?_)))))))
   obtain ⟨x151, ex151, hm⟩ := bindS hm
   refine L.ix (r := qI) sl27 h4 Y R R ex151 R fun b152 o152 cc152 me152 rd152 => ?_
   obtain rfl := rd152
   refine L.ld (j := 0) me152 nag3 Y R R R R (L.bu (cs := [.int .i64 x135.2.2, .int .i64 x151]) pl133 Y R R R (L.bsE (k := 1) (cs := [.int .i64 x135.2.2, .int .i64 x151]) 0 bs134 (nb R) Y R R R R fun b153 s154 m155 bx153 => ?_))
   replace h23 := (h23.mv m150 (tgW lt2) (tgz zt2)).mv m155 no_No no_No
   have h153 := Bx.rdL (r := (rP qI qI)) (xs := ([(x135.2.2, x151)] : List (Int × Int))) bx153 ⟨[.int .i64 x135.2.2, .int .i64 x151], _, R, ⟨[.int .i64 x135.2.2], [.int .i64 x151], R, R, R⟩, R⟩ (nb R)
   obtain ⟨x156, ex156, hm⟩ := bindS hm
   refine L.ap (r := (rP qI qI)) Tryz.underlying134 el133 R (tgp hN) h23 h153.wk Y R R ex156 R fun a157 c157 s158 m159 h157 => ?_
   replace m0 := ((m0.trans (m150.one (.inr (.inl R)))).trans m155.no).trans (m159.one up)
   replace h5 := (h5.mv m155 no_No no_No).mv m159 (tgV lt2) (tg0 hN)
   replace h25 := ((h25.mv m150 nt3_t2 (tgz zt2)).mv m155 no_No no_No).mv m159 (tgV lt3) (tg0 hN)
   replace bx8 := (bx8.mv m155 no_No).mv m159 (tq R)
   replace h1 := ((h1.mono (m150.le (tgz zt2))).mono m155.z).mono (m159.le (tg0 hN))
   replace h2 := ((h2.mono (m150.le (tgz zt2))).mono m155.z).mono (m159.le (tg0 hN))
   replace h3 := ((h3.mono (m150.le (tgz zt2))).mono m155.z).mono (m159.le (tg0 hN))
   replace h4 := (h4.mono m155.z).mono (m159.le (tg0 hN))
   exact L.as Y R R (L.nil (X.blkN (X.sub (ih92 _ (oi hm).symm _ _ ⟨s158, a157, c157, a25, c25, m0, h5, h157, h25, h1, h2, h3, h4, bx8, R, R⟩) (Sub.rf R))))
  exact E.cF R hc (E.skip (X.blkN (X.sub (ih92 _ (oi hm).symm _ _ ⟨s142, a23, c23, a25, c25, m0, h5, h23, h25, h1, h2, h3, h4, bx8, R, R⟩) (Sub.rf R))))
 refine E.cF R hc (E.exit (X.seqX (X.seqX ?_)))
 have hx := ho92 _ (oi hm).symm
 subst hx
 exact X.sub (K98 _ _ ⟨s96, a25, c25, m0, h25, h5, R, R⟩) (Sub.rf R)

theorem cf53 : Cf Tryz.prog 53 := Cf.mk Tryz.func53 (by kernel_rfl) (by kernel_rfl)
theorem cf54 : Cf Tryz.prog 54 := Cf.mk Tryz.func54 (by kernel_rfl) (by kernel_rfl)
theorem cf55 : Cf Tryz.prog 55 := Cf.mk Tryz.func55 (by kernel_rfl) (by kernel_rfl)
theorem cf56 : Cf Tryz.prog 56 := Cf.mk Tryz.func56 (by kernel_rfl) (by kernel_rfl)
theorem cf57 : Cf Tryz.prog 57 := Cf.mk Tryz.func57 (by kernel_rfl) (by kernel_rfl)
theorem nag46 : NAg Tryz.prog 46 := NAg.mk' Tryz.underlying46 rfl (by kernel_rfl)
theorem zrn27 : Zr Tryz.prog (rNil (α := Int)) 27 24 [] := Zr.mk' (v := .slice none 0 0) (by kernel_rfl) (by kernel_rfl) (by kernel_rfl) (fun _ => ⟨rfl, rfl⟩)
theorem zz46 : (Tryz.prog.info? 46).bind (·.zero) = some (.slice none 0 0) := by kernel_rfl
noncomputable def m_reach_Components_j1 (st484 : Int × List Int × List Int) (l491 : List Int) (l493 : List Int) : Option ((Int × List Int × List Int) ⊕ (List Int × List Int)) :=
 some (.inl (W (st484.1 + 1), l491, l493))
noncomputable def m_reach_Components_l5 (st318 : List Int × List (List Int)) (x447 : List Int) (st484 : Int × List Int × List Int) : Option ((Int × List Int × List Int) ⊕ (List Int × List Int)) :=
 if decide (st484.1 < (x447.length : Int)) then
  (idx x447 st484.1).bind fun x496 =>
  (idx st484.2.2 x496).bind fun x498 =>
  if (x498 == 0) then
   (idx st484.2.2 x496).bind fun x500 =>
   (upd st484.2.2 x496 (W ((st318.2.length : Int) + 1))).bind fun x502 =>
   (app st484.2.1 ([x496] : List Int)).bind fun x508 =>
   m_reach_Components_j1 st484 x508 x502
  else
   m_reach_Components_j1 st484 st484.2.1 st484.2.2
 else
  some (.inr st484.2)
noncomputable def m_reach_Components_l4 (o104 : List (List Int)) (st318 : List Int × List (List Int)) (st418 : Int × List Int × List Int) : Option ((Int × List Int × List Int) ⊕ (List Int × List Int)) :=
 if decide (st418.1 < (st418.2.1.length : Int)) then
  (idx st418.2.1 st418.1).bind fun x443 =>
  (idx o104 x443).bind fun x447 =>
  (iter (m_reach_Components_l5 st318 x447) (0, st418.2)).bind fun o484 =>
  some (.inl (W (st418.1 + 1), o484))
 else
  some (.inr st418.2)
noncomputable def m_reach_Components_l3 (o104 : List (List Int)) (x320 : Int × Int) (st318 : List Int × List (List Int)) : Option (List Int × List (List Int)) :=
 (idx st318.1 x320.2).bind fun x327 =>
 if decide (x327 > 0) then
  some st318
 else
  (idx st318.1 x320.2).bind fun x329 =>
  (upd st318.1 x320.2 (W ((st318.2.length : Int) + 1))).bind fun x331 =>
  (iter (m_reach_Components_l4 o104 st318) (0, ([x320.2] : List Int), x331)).bind fun o418 =>
  (m_slices_Sort_int o418.1).bind fun r424 =>
  (lenEq r424 o418.1).bind fun _ =>
  (app st318.2 ([r424] : List (List Int))).bind fun x432 =>
  some (o418.2, x432)
noncomputable def m_reach_Components_l2 (p0 : AutT) (st104 : Int × List (List Int)) : Option ((Int × List (List Int)) ⊕ (List (List Int))) :=
 if decide (st104.1 < (p0.2.2.2.length : Int)) then
  (idx p0.2.2.2 st104.1).bind fun x519 =>
  (idx st104.2 x519.2.2).bind fun x533 =>
  (app x533 ([x519.1] : List Int)).bind fun x544 =>
  (idx st104.2 x519.2.2).bind fun x549 =>
  (upd st104.2 x519.2.2 x544).bind fun x552 =>
  some (.inl (W (st104.1 + 1), x552))
 else
  some (.inr st104.2)
noncomputable def m_reach_Components_j2 (st49 : Int × List Bool × List Int) (l557 : List Int) (l559 : List Bool) : Option ((Int × List Bool × List Int) ⊕ (List Int)) :=
 some (.inl (W (st49.1 + 1), l559, l557))
noncomputable def m_reach_Components_l1 (p0 : AutT) (r13 : (AutT × List Int)) (st49 : Int × List Bool × List Int) : Option ((Int × List Bool × List Int) ⊕ (List Int)) :=
 if decide (st49.1 < p0.2.1) then
  (idx st49.2.1 st49.1).bind fun x562 =>
  if (!x562) then
   (m_reach_graph_finish r13 st49.1 st49.2.1 st49.2.2).bind fun r564 =>
   (lenEq r564.2 st49.2.1).bind fun _ =>
   m_reach_Components_j2 st49 r564.1 r564.2
  else
   m_reach_Components_j2 st49 st49.2.2 st49.2.1
 else
  some (.inr st49.2.2)
noncomputable def m_reach_Components (p0 : AutT) : Option (List (List Int) × Int) :=
 (m_automaton_Check p0).bind fun r8 =>
 if (r8 != 0) then
  some (([] : List (List Int)), r8)
 else
  (m_reach_newGraph p0).bind fun r13 =>
  (mkL p0.2.1 false).bind fun x25 =>
  (iter (m_reach_Components_l1 p0 r13) (0, x25, ([] : List Int))).bind fun o49 =>
  (mkL p0.2.1 ([] : List Int)).bind fun x54 =>
  (iter (m_reach_Components_l2 p0) (0, x54)).bind fun o104 =>
  (mkL p0.2.1 (0 : Int)).bind fun x109 =>
  (m_slices_Backward_int o49).bind fun r122 =>
  (rngF (fun k => m_reach_Components_l3 o104 (r122.getD k (0, 0))) r122.length 0 (x109, ([] : List (List Int)))).bind fun o318 =>
  (m_slices_SortFunc_int o318.2).bind fun r512 =>
  (lenEq r512 o318.2).bind fun _ =>
  some (r512, 0)
theorem m_reach_Components_c {s : Sig} {p0 : AutT} {a1 : Option Addr} {c1 : Nat} {a2 : Option Addr} {c2 : Nat} {a3 : Option Addr} {c3 : Nat} {u0 : Nat} {r : List (List Int) × Int} (h1 : RdL qI s a1 c1 p0.1) (h2 : RdL qI s a2 c2 p0.2.2.1) (h3 : RdL qT s a3 c3 p0.2.2.2) (hm : m_reach_Components p0 = some r) :
    Calls Tryz.prog 23 #[.agg #[.slice a1 p0.1.length c1, .int .i64 p0.2.1, .slice a2 p0.2.2.1.length c2, .slice a3 p0.2.2.2.length c3]] s.w (RetS No s fun v s' => ∃ (a4 : Option Addr) (c4 : Nat), v = .tuple #[.slice a4 r.1.length c4, .int .i64 r.2] ∧ RowT (rL qI) s' u0 27 a4 c4 r.1) := by
 unfold m_reach_Components at hm
 obtain ⟨N, hN, hNb⟩ := s.fresh
 have m0 : Mv (Up N No) s s := Mv.refl _ _
 have mk0 : Mks s (N + 0) [] := Mks.nil
 refine E.entryM (vs := [.agg #[.slice a1 p0.1.length c1, .int .i64 p0.2.1, .slice a2 p0.2.2.1.length c2, .slice a3 p0.2.2.2.length c3]]) (e := [(0, .agg #[.slice a1 p0.1.length c1, .int .i64 p0.2.1, .slice a2 p0.2.2.1.length c2, .slice a3 p0.2.2.2.length c3])]) Tryz.func23 R Tryz.ntmps23 R R (ER (L.box (N + 1) Y R R R fun b5 s6 m7 bx5 => ?_))
 replace h1 := h1.mono m7.z
 replace h2 := h2.mono m7.z
 replace h3 := h3.mono m7.z
 refine L.as Y R R (L.as Y R R (LN (E.seq (ER (L.lg (j := 0) (cs := [.slice a1 p0.1.length c1, .int .i64 p0.2.1, .slice a2 p0.2.2.1.length c2, .slice a3 p0.2.2.2.length c3]) bx5.mem ag30 Y R R R R R ?_)))))
 obtain ⟨r8, er8, hm⟩ := bindS hm
 refine L.ca cf16 R R Y R (m_automaton_Check_c (s := s6) (p0 := p0) h1 h2 h3 er8) R ?_
 rintro _ s9 m10 rfl
 replace m0 := (m0.trans m7.no).trans m10.no
 replace mk0 := (mk0.mv m7 no_No).mv m10 no_No
 replace bx5 := bx5.mv m10 no_No
 replace h1 := h1.mono m10.z
 replace h2 := h2.mono m10.z
 replace h3 := h3.mono m10.z
 refine L.as Y R R (LN (ER (L.mv Y R R (L.bi Y R R R R (L.nil (X.seqN ?_))))))
 rcases ifS hm with ⟨hc, hm⟩ | ⟨hc, hm⟩
 ·refine E.cT R hc (ER (L.mv Y R R (L.as Y R R (L.as Y R R (LN (E.ret (X.seqR (X.lv (.inl R) mk0 fun s11 m12 => ?_))))))))
  replace m0 := m0.trans (m12.one up)
  obtain rfl := oi hm
  exact X.rt (.inl R) Tryz.results23 (Rs.tmp R (Rs.tmp R Rs.nil)) R ⟨_, (s11).ren N (fun _ => 0), R, R, m0.ren hNb, ⟨none, 0, R, RowT.nil⟩⟩
 refine E.cF R hc (E.skip (X.seqN (ER (L.lg (j := 0) (cs := [.slice a1 p0.1.length c1, .int .i64 p0.2.1, .slice a2 p0.2.2.1.length c2, .slice a3 p0.2.2.2.length c3]) bx5.mem ag30 Y R R R R R ?_))))
 obtain ⟨r13, er13, hm⟩ := bindS hm
 refine L.ca cf53 R R Y R (m_reach_newGraph_c (s := s9) (p0 := p0) (u3 := 0) h1 h2 h3 er13) R ?_
 rintro _ s14 m15 ⟨a16, c16, a17, c17, a18, c18, a19, c19, rfl, h16, h17, h18, h19⟩
 refine L.al (N + 2) zz91 R Y R fun b20 s21 m22 bx20 => ?_
 refine L.st (c := [.slice a16 r13.1.1.length c16, .int .i64 r13.1.2.1, .slice a17 r13.1.2.2.1.length c17, .slice a18 r13.1.2.2.2.length c18, .slice a19 r13.2.length c19]) (cs' := #[.slice a16 r13.1.1.length c16, .int .i64 r13.1.2.1, .slice a17 r13.1.2.2.1.length c17, .slice a18 r13.1.2.2.2.length c18, .slice a19 r13.2.length c19]) bx20 ag91.sz Y R R R R R (nb R) R fun s23 m24 bx20 => ?_
 replace bx5 := ((bx5.mv m15 no_No).mv m22 no_No).mv m24 (tq R)
 refine LN (ER (L.as Y R R (LN (ER (L.fa fa30_1 Y R R (L.ld (j := 1) bx5.mem nag3 Y R R R R ?_))))))
 obtain ⟨x25, ex25, hm⟩ := bindS hm
 refine L.mk (z := false) (N + 3) Tryz.underlying55 zr4 R Y R R ex25 R fun b26 s27 m28 h26 => ?_
 replace m0 := (((m0.trans m15.no).trans m22.no).trans (m24.one up)).trans m28.no
 replace mk0 := (((mk0.mv m15 no_No).mv m22 no_No).mv m24 (tq R)).mv m28 no_No
 replace bx5 := bx5.mv m28 no_No
 replace h1 := (((h1.mono m15.z).mono m22.z).mono (m24.le (tg0 hN))).mono m28.z
 replace h2 := (((h2.mono m15.z).mono m22.z).mono (m24.le (tg0 hN))).mono m28.z
 replace h3 := (((h3.mono m15.z).mono m22.z).mono (m24.le (tg0 hN))).mono m28.z
 replace bx20 := bx20.mv m28 no_No
 replace h16 := ((h16.mono m22.z).mono (m24.le (tg0 hN))).mono m28.z
 replace h17 := ((h17.mono m22.z).mono (m24.le (tg0 hN))).mono m28.z
 replace h18 := ((h18.mono m22.z).mono (m24.le (tg0 hN))).mono m28.z
 replace h19 := (((h19.p).mono m22.z).mono (m24.le (tg0 hN))).mono m28.z
 refine L.as Y R R (LN (E.seq (ER (L.fa fa30_1 Y R R (L.ld (j := 1) bx5.mem nag3 Y R R R R (L.mv Y R R (LN (E.block ?_))))))))
 obtain ⟨o49, eo49, hm⟩ := bindS hm
 refine E.cutM (x := .exit 0) (fun e w ds => ∃ (s53 : Sig) (a51 : Option Addr) (c51 : Nat), Mv (Up N No) s s53 ∧ RowT qI s53 (N + 4) 3 a51 c51 o49 ∧ RdL qI s53 a1 c1 p0.1 ∧ RdL qI s53 a2 c2 p0.2.2.1 ∧ RdL qT s53 a3 c3 p0.2.2.2 ∧ Mks s53 (N + 0) ds ∧ Bx s53 (N + 1) b5 #[.slice a1 p0.1.length c1, .int .i64 p0.2.1, .slice a2 p0.2.2.1.length c2, .slice a3 p0.2.2.2.length c3] 30 ∧ e = [(6, .slice a51 o49.length c51), (1, .pointer (some ⟨b5, 0, none⟩))] ∧ w = s53.w) ?_ ?_
 ·rintro _ _ ds ⟨s53, a51, c51, m0, h51, h1, h2, h3, mk0, bx5, rfl, rfl⟩
  refine X.blkE (X.seqN (ER (L.fa fa30_1 Y R R (L.ld (j := 1) bx5.mem nag3 Y R R R R ?_))))
  obtain ⟨x54, ex54, hm⟩ := bindS hm
  refine L.mk (r := rNil) (z := ([] : List Int)) (N + 5) Tryz.underlying46 zrn27 R Y R R ex54 R fun b55 s56 m57 h55 => ?_
  have mp55 := RowR.start (r := qI) (N := N) (q := 5) (U := 3) h55 (by simp)
  refine L.al (N + 6) zz46 R Y R fun b58 s59 m60 bx58 => ?_
  refine L.st (c := [.slice (some ⟨b55, 0, none⟩) x54.length x54.length]) (cs' := #[.slice (some ⟨b55, 0, none⟩) x54.length x54.length]) bx58 nag46.sz Y R R R R R (nb R) R fun s61 m62 bx58 => ?_
  replace m0 := ((m0.trans m57.no).trans m60.no).trans (m62.one up)
  replace h51 := ((h51.mv m57 no_No no_No).mv m60 no_No no_No).mv m62 (tq R) (tg0 hN)
  replace mk0 := ((mk0.mv m57 no_No).mv m60 no_No).mv m62 (tq R)
  replace bx5 := ((bx5.mv m57 no_No).mv m60 no_No).mv m62 (tq R)
  replace h1 := ((h1.mono m57.z).mono m60.z).mono (m62.le (tg0 hN))
  replace h2 := ((h2.mono m57.z).mono m60.z).mono (m62.le (tg0 hN))
  replace h3 := ((h3.mono m57.z).mono m60.z).mono (m62.le (tg0 hN))
  replace mp55 := (mp55.mv m60 no_No no_No (fun _ _ => no_No)).mv m62 (tq R) (tg0 hN) (fun i ho => (fmM (by decide)))
  refine LN (E.seq (ER (L.fa fa30_3 Y R R (L.ld (j := 3) bx5.mem nag28 Y R R R R (L.len sl28 Y R R (L.mv Y R R (LN (E.block ?_))))))))
  obtain ⟨o104, eo104, hm⟩ := bindS hm
  refine E.cutM (x := .exit 2) (fun e w ds => ∃ (s107 : Sig), Mv (Up N No) s s107 ∧ RowT qI s107 (N + 4) 3 a51 c51 o49 ∧ RdL qI s107 a1 c1 p0.1 ∧ RdL qI s107 a2 c2 p0.2.2.1 ∧ RdL qT s107 a3 c3 p0.2.2.2 ∧ RowR qI s107 N 5 (N + 5) 27 3 (some ⟨b55, 0, none⟩) x54.length x54.length o104 none ∧ Mks s107 (N + 0) ds ∧ Bx s107 (N + 1) b5 #[.slice a1 p0.1.length c1, .int .i64 p0.2.1, .slice a2 p0.2.2.1.length c2, .slice a3 p0.2.2.2.length c3] 30 ∧ Bx s107 (N + 6) b58 #[.slice (some ⟨b55, 0, none⟩) x54.length x54.length] 46 ∧ e = [(9, .pointer (some ⟨b58, 0, none⟩)), (6, .slice a51 o49.length c51), (1, .pointer (some ⟨b5, 0, none⟩))] ∧ w = s107.w) ?_ ?_
  ·rintro _ _ ds ⟨s107, m0, h51, h1, h2, h3, mp55, mk0, bx5, bx58, rfl, rfl⟩
   refine X.blkE (X.seqN (E.seq ?_))
   have m108 := Sig.fzP_mv (pF N [5]) s107
   have elmp55 := mp55.is.1
   have h55 := mp55.fz (p := (pF N [5])) (pF_0 hN) (pF_k R) (fun _ => pF_f)
   replace bx58 : Bx s107 (N + 6) b58 #[.slice (some ⟨b55, 0, none⟩) o104.length x54.length] 46 := by rw [elmp55]; exact bx58
   replace bx5 := bx5.mv m108 (pF_no (by decide))
   refine E.toR (s' := (Sig.fzP (pF N [5]) s107)) R (E.reg (L.fa fa30_1 Y R R (L.ld (j := 1) bx5.mem nag3 Y R R R R ?_)))
   obtain ⟨x109, ex109, hm⟩ := bindS hm
   refine L.mk (z := (0 : Int)) (N + 8) Tryz.underlying27 zr3 R Y R R ex109 R fun b110 s111 m112 h110 => ?_
   refine L.al (N + 9) zz27 R Y R fun b113 s114 m115 bx113 => ?_
   refine L.st (c := [.slice (some ⟨b110, 0, none⟩) x109.length x109.length]) (cs' := #[.slice (some ⟨b110, 0, none⟩) x109.length x109.length]) bx113 nag27.sz Y R R R R R (nb R) R fun s116 m117 bx113 => ?_
   refine LN (ER (L.al (N + 10) zz46 R Y R fun b118 s119 m120 bx118 => ?_))
   refine LN (E.seq (ER (L.mv Y R R ?_)))
   have m121 := Sig.fz_mv (N + 4) s119
   replace h51 := (((((h51.mv m108 (pF_no (by decide)) (pF_n0 hN)).mv m112 no_No no_No).mv m115 no_No no_No).mv m117 (tq R) (tg0 hN)).mv m120 no_No no_No).fz (tgn hN)
   refine L.toR (s' := (Sig.fz (N + 4) s119)) R ?_
   obtain ⟨r122, er122, hm⟩ := bindS hm
   refine L.ca cf55 R R Y R (m_slices_Backward_int_c (s := (Sig.fz (N + 4) s119)) (p0 := o49) h51 er122) R fun v125 s123 m124 h125 => ?_
   replace m0 := ((((((m0.trans (m108.weak fun _ e => pF_up e)).trans m112.no).trans m115.no).trans (m117.one up)).trans m120.no).trans (m121.one up)).trans m124.no
   replace mk0 := ((((((mk0.mv m108 (pF_no (by decide))).mv m112 no_No).mv m115 no_No).mv m117 (tq R)).mv m120 no_No).mv m121 (tq R)).mv m124 no_No
   replace bx58 := ((((((bx58.mv m108 (pF_no (by decide))).mv m112 no_No).mv m115 no_No).mv m117 (tq R)).mv m120 no_No).mv m121 (tq R)).mv m124 no_No
   replace h55 := (((((h55.mono m112.z).mono m115.z).mono (m117.le (tg0 hN))).mono m120.z).mono (m121.le (tg0 hN))).mono m124.z
   replace bx113 := ((bx113.mv m120 no_No).mv m121 (tq R)).mv m124 no_No
   replace h110 := ((((h110.mv m115 no_No no_No).mv m117 (tq R) (tg0 hN)).mv m120 no_No no_No).mv m121 (tq R) (tg0 hN)).mv m124 no_No no_No
   replace bx118 := (bx118.mv m121 (tq R)).mv m124 no_No
   refine LN (E.block ?_)
   obtain ⟨o318, eo318, hm⟩ := bindS hm
   have mko318 := mk0.old
   refine E.range (N + 11) (N + 0) (tgn hN) (by omega) (fun (k : Nat) (s319 : Sig) => ∃ (st318 : List Int × List (List Int)) (a128 : Option Addr) (c128 : Nat), rngF (fun k => m_reach_Components_l3 o104 (r122.getD k (0, 0))) (r122.length - k) k st318 = some o318 ∧ Mv (Up N No) s s319 ∧ RdL (rL qI) s319 (some ⟨b55, 0, none⟩) x54.length o104 ∧ RowT qI s319 (N + 8) 3 (some ⟨b110, 0, none⟩) x109.length st318.1 ∧ RowT (rL qI) s319 (N + 13) 27 a128 c128 st318.2 ∧ Mks s319 (N + 0) ds ∧ Bx s319 (N + 6) b58 #[.slice (some ⟨b55, 0, none⟩) o104.length x54.length] 46 ∧ Bx s319 (N + 9) b113 #[.slice (some ⟨b110, 0, none⟩) st318.1.length x109.length] 27 ∧ Bx s319 (N + 10) b118 #[.slice a128 st318.2.length c128] 46) R h125 (fun _ => R) (by decide) ⟨(x109, ([] : List (List Int))), none, 0, eo318, m0, h55, h110, RowT.nil, mk0, bx58, bx113, bx118⟩ ?_ ?_
   ·rintro k318 D318 r318 s319 s321 hk318 ⟨st318, a128, c128, hj318, m0, h55, h110, h128, mk0, bx58, bx113, bx118⟩ m322 rc323 hr318
    obtain ⟨res318, hm, hj318⟩ := rng_step hk318 hj318
    have hm : m_reach_Components_l3 o104 (r122.getD k318 (0, 0)) st318 = some res318 := hm
    show E _ _ _ _ _ (Env.zp _ (encB (r122.getD k318 (0, 0))) _) _
    generalize r122.getD k318 (0, 0) = x320 at hm ⊢
    refine E.sub (e' := [(13, .pointer (some ⟨b118, 0, none⟩)), (12, .pointer (some ⟨b113, 0, none⟩)), (9, .pointer (some ⟨b58, 0, none⟩)), (76, .int .i64 x320.1), (77, .int .i64 x320.2)]) (Sub.rf R) ?_
    unfold m_reach_Components_l3 at hm
    have h324 : Lf s321 s321 := Le.refl _
    refine E.reg (L.as Y R R (L.nil (X.beg rc323 hr318 fun s325 m326 rc323 => ?_)))
    replace m0 := (m0.trans (m322.one up)).trans (m326.one up)
    replace mk0 := (mk0.mv m322 (tq R)).mv m326 (tq R)
    replace h324 := h324.mono (m326.le (tg0 hN))
    replace bx118 := (bx118.mv m322 (tq R)).mv m326 (tq R)
    replace h128 := (h128.mv m322 (tq R) (tg0 hN)).mv m326 (tq R) (tg0 hN)
    replace bx113 := (bx113.mv m322 (tq R)).mv m326 (tq R)
    replace h110 := (h110.mv m322 (tq R) (tg0 hN)).mv m326 (tq R) (tg0 hN)
    replace bx58 := (bx58.mv m322 (tq R)).mv m326 (tq R)
    replace h55 := (h55.mono (m322.le (tg0 hN))).mono (m326.le (tg0 hN))
    refine E.block (E.seq (ER (L.ld (j := 0) bx113.mem nag27 Y R R R R (L.mv Y R R ?_))))
    obtain ⟨x327, ex327, hm⟩ := bindS hm
    refine L.ir (r := qI) sl27 h110 Y R R ex327 R fun b328 o328 cc328 me328 rd328 sp328 => ?_
    obtain rfl := rd328
    refine L.ld (j := 0) me328 nag3 Y R R R R (L.bi Y R R R R (L.nil (X.seqN ?_)))
    rcases ifS hm with ⟨hc, hm⟩ | ⟨hc, hm⟩
    ·refine E.cT R hc (E.exit (X.seqX (X.blkE ?_)))
     obtain rfl := oi hm
     exact X.rnd ⟨⟨st318, a128, c128, hj318, m0, h55, h110, h128, mk0, bx58, bx113, bx118⟩, rc323, h324⟩
    refine E.cF R hc (E.skip (X.seqN (ER (L.ld (j := 0) bx118.mem nag46 Y R R R R (L.len sl46 Y R R (L.bi Y R R R R (L.as Y R R (LN (ER (L.ld (j := 0) bx113.mem nag27 Y R R R R (L.mv Y R R (L.mv Y R R ?_))))))))))))
    obtain ⟨x329, ex329, hm⟩ := bindS hm
    refine L.ir (r := qI) sl27 h110 Y R R ex329 R fun b330 o330 cc330 me330 rd330 sp330 => ?_
    obtain rfl := rd330
    obtain ⟨x331, ex331, hm⟩ := bindS hm
    have elx331 := upd_len ex331
    refine L.su (fo := 0) (c := [.int .i64 (W ((st318.2.length : Int) + 1))]) (z := W ((st318.2.length : Int) + 1)) h110 sp330 ex329 ex331 (tgp hN) nag3.sz Y R R R R R R (fun c0 hc0 => by obtain rfl := hc0; exact R) fun s332 m333 h110 => ?_
    replace bx113 := bx113.mv m333 (tq R)
    replace bx113 : Bx s332 (N + 9) b113 #[.slice (some ⟨b110, 0, none⟩) x331.length x109.length] 27 := by rw [elx331]; exact bx113
    refine LN (ER (L.mv Y R R (L.bsE (k := 1) (cs := [.int .i64 x320.2]) (N + 12) bs27 (nb R) Y R R R R fun b334 s335 m336 bx334 => ?_)))
    replace m0 := (m0.trans (m333.one up)).trans m336.no
    replace mk0 := (mk0.mv m333 (tq R)).mv m336 no_No
    replace h324 := (h324.mono (m333.le (tg0 hN))).mono m336.z
    replace rc323 := (rc323.mv m333 (tq R) (tq R)).mv m336 no_No no_No
    replace bx58 := (bx58.mv m333 (tq R)).mv m336 no_No
    replace h55 := (h55.mono (m333.le (tg0 hN))).mono m336.z
    replace bx113 := bx113.mv m336 no_No
    replace h110 := h110.mv m336 no_No no_No
    replace bx118 := (bx118.mv m333 (tq R)).mv m336 no_No
    replace h128 := (h128.mv m333 (tq R) (tg0 hN)).mv m336 no_No no_No
    have h334 := Bx.row (r := qI) (xs := ([x320.2] : List Int)) bx334 ⟨[.int .i64 x320.2], _, R, R, R⟩ (nb R)
    refine L.as Y R R (LN (E.seq (ER (L.as Y R R (LN (E.block ?_))))))
    obtain ⟨o418, eo418, hm⟩ := bindS hm
    refine E.cut (x := .exit 6) (fun e w => ∃ (s423 : Sig) (a420 : Option Addr) (c420 : Nat), Mv (Up N No) s s423 ∧ RowT qI s423 (N + 12) 3 a420 c420 o418.1 ∧ RdL (rL qI) s423 (some ⟨b55, 0, none⟩) x54.length o104 ∧ RowT qI s423 (N + 8) 3 (some ⟨b110, 0, none⟩) x109.length o418.2 ∧ RowT (rL qI) s423 (N + 13) 27 a128 c128 st318.2 ∧ Lf s321 s423 ∧ Mks s423 (N + 0) ds ∧ Bx s423 (N + 6) b58 #[.slice (some ⟨b55, 0, none⟩) o104.length x54.length] 46 ∧ Bx s423 (N + 9) b113 #[.slice (some ⟨b110, 0, none⟩) o418.2.length x109.length] 27 ∧ Bx s423 (N + 10) b118 #[.slice a128 st318.2.length c128] 46 ∧ Rc s423 (N + 11) (N + 0) D318 { r318 with state := .busy } ∧ e = [(17, .slice a420 o418.1.length c420), (13, .pointer (some ⟨b118, 0, none⟩)), (12, .pointer (some ⟨b113, 0, none⟩)), (9, .pointer (some ⟨b58, 0, none⟩))] ∧ w = s423.w) ?_ ?_
    ·rintro _ _ ⟨s423, a420, c420, m0, h420, h55, h110, h128, h324, mk0, bx58, bx113, bx118, rc323, rfl, rfl⟩
     refine X.blkE (X.seqN (ER (L.mv Y R R ?_)))
     obtain ⟨r424, er424, hm⟩ := bindS hm
     refine L.ca cf56 R R Y R (m_slices_Sort_int_c (s := s423) (p0 := o418.1) (t0 := (N + 12)) (tpos hN) h420 er424) R ?_
     rintro _ s425 m426 ⟨rfl, h420⟩
     obtain ⟨_, qz427, hm⟩ := bindS hm
     have elz427 := len_some qz427
     replace bx118 := bx118.mv m426 (tq R)
     refine L.reval (d := 17) R elz427 (LN (E.reg (L.ld (j := 0) bx118.mem nag46 Y R R R R (L.mv Y R R ?_))))
     have m428 := Sig.fz_mv (N + 12) s425
     refine L.toR (s' := (Sig.fz (N + 12) s425)) R (L.bsE (k := 1) (cs := [.slice a420 r424.length c420]) 0 bs46 (nb R) Y R R R R fun b429 s430 m431 bx429 => ?_)
     replace h128 := ((h128.mv m426 (tq R) (tg0 hN)).mv m428 (tq R) (tg0 hN)).mv m431 no_No no_No
     replace h420 := (h420.fz (tgn hN)).mono m431.z
     have h429 := Bx.rdL (r := (rL qI)) (xs := ([r424] : List (List Int))) bx429 ⟨[.slice a420 r424.length c420], _, R, ⟨_, _, R, h420⟩, R⟩ (nb R)
     obtain ⟨x432, ex432, hm⟩ := bindS hm
     refine L.ap (r := (rL qI)) Tryz.underlying46 el27 R (tgp hN) h128 h429.wk Y R R ex432 R fun a433 c433 s434 m435 h433 => ?_
     replace bx118 := ((bx118.mv m428 (tq R)).mv m431 no_No).mv m435 (tq R)
     refine L.st (c := [.slice a433 x432.length c433]) (cs' := #[.slice a433 x432.length c433]) bx118 nag46.sz Y R R R R R (nb R) R fun s436 m437 bx118 => ?_
     replace m0 := ((((m0.trans (m426.one up)).trans (m428.one up)).trans m431.no).trans (m435.one up)).trans (m437.one up)
     replace mk0 := ((((mk0.mv m426 (tq R)).mv m428 (tq R)).mv m431 no_No).mv m435 (tq R)).mv m437 (tq R)
     replace h324 := ((((h324.mono (m426.le (tg0 hN))).mono (m428.le (tg0 hN))).mono m431.z).mono (m435.le (tg0 hN))).mono (m437.le (tg0 hN))
     replace rc323 := ((((rc323.mv m426 (tq R) (tq R)).mv m428 (tq R) (tq R)).mv m431 no_No no_No).mv m435 (tq R) (tq R)).mv m437 (tq R) (tq R)
     replace bx58 := ((((bx58.mv m426 (tq R)).mv m428 (tq R)).mv m431 no_No).mv m435 (tq R)).mv m437 (tq R)
     replace h55 := ((((h55.mono (m426.le (tg0 hN))).mono (m428.le (tg0 hN))).mono m431.z).mono (m435.le (tg0 hN))).mono (m437.le (tg0 hN))
     replace bx113 := ((((bx113.mv m426 (tq R)).mv m428 (tq R)).mv m431 no_No).mv m435 (tq R)).mv m437 (tq R)
     replace h110 := ((((h110.mv m426 (tq R) (tg0 hN)).mv m428 (tq R) (tg0 hN)).mv m431 no_No no_No).mv m435 (tq R) (tg0 hN)).mv m437 (tq R) (tg0 hN)
     replace h433 := h433.mv m437 (tq R) (tg0 hN)
     refine L.nil (X.blkN ?_)
     obtain rfl := oi hm
     exact X.rnd ⟨⟨(o418.2, x432), a433, c433, hj318, m0, h55, h110, h433, mk0, bx58, bx113, bx118⟩, rc323, h324⟩
    intro K438
    refine E.iter (fun (st418 : Int × List Int × List Int) (e : List (Nat × Value)) (w : World) => ∃ (s422 : Sig) (a339 : Option Addr) (c339 : Nat), Mv (Up N No) s s422 ∧ RowT qI s422 (N + 12) 3 a339 c339 st418.2.1 ∧ RdL (rL qI) s422 (some ⟨b55, 0, none⟩) x54.length o104 ∧ RowT qI s422 (N + 8) 3 (some ⟨b110, 0, none⟩) x109.length st418.2.2 ∧ RowT (rL qI) s422 (N + 13) 27 a128 c128 st318.2 ∧ Lf s321 s422 ∧ Mks s422 (N + 0) ds ∧ Bx s422 (N + 6) b58 #[.slice (some ⟨b55, 0, none⟩) o104.length x54.length] 46 ∧ Bx s422 (N + 9) b113 #[.slice (some ⟨b110, 0, none⟩) st418.2.2.length x109.length] 27 ∧ Bx s422 (N + 10) b118 #[.slice a128 st318.2.length c128] 46 ∧ Rc s422 (N + 11) (N + 0) D318 { r318 with state := .busy } ∧ e = [(18, .int .i64 st418.1), (17, .slice a339 st418.2.1.length c339), (16, .int .i64 (W ((st318.2.length : Int) + 1))), (13, .pointer (some ⟨b118, 0, none⟩)), (12, .pointer (some ⟨b113, 0, none⟩)), (9, .pointer (some ⟨b58, 0, none⟩))] ∧ w = s422.w) eo418 ⟨s335, (some ⟨b334, 0, none⟩), ([x320.2] : List Int).length, m0, h334, h55, h110, h128, h324, mk0, bx58, bx113, bx118, rc323, R, R⟩ (Sub.rf R) ?_
    rintro st418 res418 hm ih418 ho418 _ _ ⟨s422, a339, c339, m0, h339, h55, h110, h128, h324, mk0, bx58, bx113, bx118, rc323, rfl, rfl⟩
    unfold m_reach_Components_l4 at hm
    refine E.seq (ER (L.mv Y R R (L.mv Y R R (L.len sl27 Y R R (L.bi Y R R R R (L.nil (X.seqN ?_)))))))
    rcases ifS hm with ⟨hc, hm⟩ | ⟨hc, hm⟩
    ·refine E.cT R hc (E.skip (X.seqN (E.seq (E.block (E.seq ?_)))))
     obtain ⟨x443, ex443, hm⟩ := bindS hm
     obtain ⟨x447, ex447, hm⟩ := bindS hm
     refine E.draw [[], [], [], [1, 2], [1, 2, 3], [0, 1, 2, 3, 4], [0, 1, 2, 3, 4, 5], [0, 1, 2, 3, 4, 5, 6], []] (fun D e sx => Mv No s422 sx ∧ Sub [(18, .int .i64 st418.1), (17, .slice a339 st418.2.1.length c339), (16, .int .i64 (W ((st318.2.length : Int) + 1))), (13, .pointer (some ⟨b118, 0, none⟩)), (12, .pointer (some ⟨b113, 0, none⟩)), (9, .pointer (some ⟨b58, 0, none⟩))] e ∧ AllP [G D e 0 98 (.slice (some ⟨b55, 0, none⟩) o104.length x54.length), G D e 1 99 (.slice a339 st418.2.1.length c339), G D e 2 100 (.int .i64 st418.1), D 3 = true → (∃ (b444 : Nat) (o444 : Nat), Env.get e 101 = some (.pointer (some ⟨b444, o444, none⟩)) ∧ Mem sx (N + 12) b444 o444 [.int .i64 x443] ∧ Spot a339 qI.sz (st418.1).toNat b444 o444), G D e 4 102 (.int .i64 x443), D 5 = true → (∃ (b448 : Nat) (o448 : Nat) (a449 : Option Addr) (c449 : Nat), Env.get e 103 = some (.pointer (some ⟨b448, o448, none⟩)) ∧ Mem sx 0 b448 o448 [.slice a449 x447.length c449] ∧ RdL qI sx a449 c449 x447), D 6 = true → (∃ (a451 : Option Addr) (c451 : Nat), Env.get e 104 = some (.slice a451 x447.length c451) ∧ RdL qI sx a451 c451 x447), G D e 7 105 (.int .i64 (x447.length : Int)), G D e 8 106 (.int .i64 0)]) (by kernel_rfl) (by kernel_rfl) (by kernel_rfl) ?_ ?_ ?_
     ·intro sz mz
      exact ⟨mz, (Sub.rf R), nofun, nofun, nofun, nofun, nofun, nofun, nofun, nofun, nofun, trivial⟩
     ·refine ⟨?_, ?_, ?_, ?_, ?_, ?_, ?_, ?_, ?_, trivial⟩
      ·rintro D e s439 ⟨im, ib, i⟩ hk hf ha
       have bx58 := bx58.mv im no_No
       have kn := K1 (ib 9 _ R)
       exact kn.g (L.ld (j := 0) bx58.mem nag46 Y R R R R (L.nil (X.dk kn ⟨im, Sub.fresh ib R, i.u 0 (fun _ => R)⟩)))
      ·rintro D e s440 ⟨im, ib, i⟩ hk hf ha
       have kn := K1 (ib 17 _ R)
       exact kn.g (L.mv Y R R (L.nil (X.dk kn ⟨im, Sub.fresh ib R, i.u 1 (fun _ => R)⟩)))
      ·rintro D e s441 ⟨im, ib, i⟩ hk hf ha
       have kn := K1 (ib 18 _ R)
       exact kn.g (L.mv Y R R (L.nil (X.dk kn ⟨im, Sub.fresh ib R, i.u 2 (fun _ => R)⟩)))
      ·rintro D e s442 ⟨im, ib, i⟩ hk hf ha
       have h339 := h339.mv im no_No no_No
       have kn := K2 ((i.p 1) (ha.at 1 R)) ((i.p 2) (ha.at 2 R))
       refine kn.g (L.ir (r := qI) sl27 h339 Y R R ex443 R fun b444 o444 cc444 me444 rd444 sp444 => ?_)
       obtain rfl := rd444
       exact L.nil (X.dk kn ⟨im, Sub.fresh ib R, i.u 3 (fun _ => ⟨b444, o444, R, me444, sp444⟩)⟩)
      ·rintro D e s445 ⟨im, ib, i⟩ hk hf ha
       obtain ⟨b444, o444, g3_, me444, sp444⟩ := (i.p 3) (ha.at 3 R)
       have kn := K1 g3_
       exact kn.g (L.ld (j := 0) me444 nag3 Y R R R R (L.nil (X.dk kn ⟨im, Sub.fresh ib R, i.u 4 (fun _ => R)⟩)))
      ·rintro D e s446 ⟨im, ib, i⟩ hk hf ha
       have h55 := h55.mono im.z
       have kn := K2 ((i.p 0) (ha.at 0 R)) ((i.p 4) (ha.at 4 R))
       refine kn.g (L.ix (r := (rL qI)) sl46 h55 Y R R ex447 R fun b448 o448 cc448 me448 rd448 => ?_)
       obtain ⟨a449, c449, rfl, h449⟩ := rd448
       exact L.nil (X.dk kn ⟨im, Sub.fresh ib R, i.u 5 (fun _ => ⟨b448, o448, a449, c449, R, me448, h449⟩)⟩)
      ·rintro D e s450 ⟨im, ib, i⟩ hk hf ha
       obtain ⟨b448, o448, a449, c449, g5_, me448, h449⟩ := (i.p 5) (ha.at 5 R)
       have kn := K1 g5_
       refine kn.g (L.ld (j := 0) me448 nag27 Y R R R R ?_)
       obtain ⟨a451, c451, ea451, ec451, h451⟩ : ∃ a c, a = a449 ∧ c = c449 ∧ RdL qI s450 a c x447 := ⟨_, _, rfl, rfl, h449⟩
       subst ea451 ec451
       exact L.nil (X.dk kn ⟨im, Sub.fresh ib R, i.u 6 (fun _ => ⟨a451, c451, R, h451⟩)⟩)
      ·rintro D e s452 ⟨im, ib, i⟩ hk hf ha
       obtain ⟨a451, c451, g6_, h451⟩ := (i.p 6) (ha.at 6 R)
       have kn := K1 g6_
       exact kn.g (L.len sl27 Y R R (L.nil (X.dk kn ⟨im, Sub.fresh ib R, i.u 7 (fun _ => R)⟩)))
      rintro D e s453 ⟨im, ib, i⟩ hk hf ha
      exact L.mv Y R R (L.nil (X.dr (s := s453) (e' := (106, .int .i64 0) :: e) (Sub.both (Sub.refl)) ⟨im, Sub.fresh ib R, i.u 8 (fun _ => R)⟩))
     rintro D e s454 hD ⟨im, ib, i⟩
     obtain ⟨a451, c451, g6_, h451⟩ := (i.p 6) (hD 6 R)
     have g7_ := (i.p 7) (hD 7 R)
     have g8_ := (i.p 8) (hD 8 R)
     have h339 := h339.mv im no_No no_No
     have bx118 := bx118.mv im no_No
     have h128 := h128.mv im no_No no_No
     have bx113 := bx113.mv im no_No
     have h110 := h110.mv im no_No no_No
     have bx58 := bx58.mv im no_No
     have h55 := h55.mono im.z
     have mk0 := mk0.mv im no_No
     have h324 := h324.mono im.z
     have rc323 := rc323.mv im no_No no_No
     have m0 := m0.trans im.no
     refine X.sub (e' := [(106, .int .i64 0), (105, .int .i64 (x447.length : Int)), (104, .slice a451 x447.length c451), (18, .int .i64 st418.1), (17, .slice a339 st418.2.1.length c339), (16, .int .i64 (W ((st318.2.length : Int) + 1))), (13, .pointer (some ⟨b118, 0, none⟩)), (12, .pointer (some ⟨b113, 0, none⟩)), (9, .pointer (some ⟨b58, 0, none⟩))]) ?_ (Sub.cons g8_ (Sub.cons g7_ (Sub.cons g6_ (Sub.cons (ib 18 _ R) (Sub.cons (ib 17 _ R) (Sub.cons (ib 16 _ R) (Sub.cons (ib 13 _ R) (Sub.cons (ib 12 _ R) (Sub.cons (ib 9 _ R) Sub.nil)))))))))
     refine X.seqN (E.block ?_)
     obtain ⟨o484, eo484, hm⟩ := bindS hm
     refine E.cut (x := .exit 8) (fun e w => ∃ (s489 : Sig) (a486 : Option Addr) (c486 : Nat), Mv (Up N No) s s489 ∧ RowT qI s489 (N + 12) 3 a486 c486 o484.1 ∧ RdL (rL qI) s489 (some ⟨b55, 0, none⟩) x54.length o104 ∧ RowT qI s489 (N + 8) 3 (some ⟨b110, 0, none⟩) x109.length o484.2 ∧ RowT (rL qI) s489 (N + 13) 27 a128 c128 st318.2 ∧ Lf s321 s489 ∧ Mks s489 (N + 0) ds ∧ Bx s489 (N + 6) b58 #[.slice (some ⟨b55, 0, none⟩) o104.length x54.length] 46 ∧ Bx s489 (N + 9) b113 #[.slice (some ⟨b110, 0, none⟩) o484.2.length x109.length] 27 ∧ Bx s489 (N + 10) b118 #[.slice a128 st318.2.length c128] 46 ∧ Rc s489 (N + 11) (N + 0) D318 { r318 with state := .busy } ∧ e = [(18, .int .i64 st418.1), (17, .slice a486 o484.1.length c486), (16, .int .i64 (W ((st318.2.length : Int) + 1))), (13, .pointer (some ⟨b118, 0, none⟩)), (12, .pointer (some ⟨b113, 0, none⟩)), (9, .pointer (some ⟨b58, 0, none⟩))] ∧ w = s489.w) ?_ ?_
     ·rintro _ _ ⟨s489, a486, c486, m0, h486, h55, h110, h128, h324, mk0, bx58, bx113, bx118, rc323, rfl, rfl⟩
      exact X.blkE (X.blkN (X.seqN (E.reg (L.mv Y R R (L.bi Y R R R R (L.as Y R R (L.nil (X.sub (ih418 _ (oi hm).symm _ _ ⟨s489, a486, c486, m0, h486, h55, h110, h128, h324, mk0, bx58, bx113, bx118, rc323, R, R⟩) (Sub.rf R)))))))))
     intro K490
     refine E.iter (fun (st484 : Int × List Int × List Int) (e : List (Nat × Value)) (w : World) => ∃ (s488 : Sig) (a457 : Option Addr) (c457 : Nat), Mv (Up N No) s s488 ∧ RdL qI s488 a451 c451 x447 ∧ RowT qI s488 (N + 12) 3 a457 c457 st484.2.1 ∧ RdL (rL qI) s488 (some ⟨b55, 0, none⟩) x54.length o104 ∧ RowT qI s488 (N + 8) 3 (some ⟨b110, 0, none⟩) x109.length st484.2.2 ∧ RowT (rL qI) s488 (N + 13) 27 a128 c128 st318.2 ∧ Lf s321 s488 ∧ Mks s488 (N + 0) ds ∧ Bx s488 (N + 6) b58 #[.slice (some ⟨b55, 0, none⟩) o104.length x54.length] 46 ∧ Bx s488 (N + 9) b113 #[.slice (some ⟨b110, 0, none⟩) st484.2.2.length x109.length] 27 ∧ Bx s488 (N + 10) b118 #[.slice a128 st318.2.length c128] 46 ∧ Rc s488 (N + 11) (N + 0) D318 { r318 with state := .busy } ∧ e = [(106, .int .i64 st484.1), (105, .int .i64 (x447.length : Int)), (104, .slice a451 x447.length c451), (18, .int .i64 st418.1), (17, .slice a457 st484.2.1.length c457), (16, .int .i64 (W ((st318.2.length : Int) + 1))), (13, .pointer (some ⟨b118, 0, none⟩)), (12, .pointer (some ⟨b113, 0, none⟩)), (9, .pointer (some ⟨b58, 0, none⟩))] ∧ w = s488.w) eo484 ⟨s454, a339, c339, m0, h451, h339, h55, h110, h128, h324, mk0, bx58, bx113, bx118, rc323, R, R⟩ (Sub.rf R) ?_
     rintro st484 res484 hm ih484 ho484 _ _ ⟨s488, a457, c457, m0, h451, h457, h55, h110, h128, h324, mk0, bx58, bx113, bx118, rc323, rfl, rfl⟩
     unfold m_reach_Components_l5 at hm
     refine ER (L.bi Y R R R R (LN (E.seq ?_)))
     rcases ifS hm with ⟨hc, hm⟩ | ⟨hc, hm⟩
     ·refine E.cT R hc (E.skip (X.seqN (E.seqJ (fun e w => ∃ (s494 : Sig) (l491 : List Int) (l493 : List Int) (a492 : Option Addr) (c492 : Nat), m_reach_Components_j1 st484 l491 l493 = some res484 ∧ Mv (Up N No) s s494 ∧ RowT qI s494 (N + 12) 3 a492 c492 l491 ∧ RdL qI s494 a451 c451 x447 ∧ RdL (rL qI) s494 (some ⟨b55, 0, none⟩) x54.length o104 ∧ RowT qI s494 (N + 8) 3 (some ⟨b110, 0, none⟩) x109.length l493 ∧ RowT (rL qI) s494 (N + 13) 27 a128 c128 st318.2 ∧ Lf s321 s494 ∧ Mks s494 (N + 0) ds ∧ Bx s494 (N + 6) b58 #[.slice (some ⟨b55, 0, none⟩) o104.length x54.length] 46 ∧ Bx s494 (N + 9) b113 #[.slice (some ⟨b110, 0, none⟩) l493.length x109.length] 27 ∧ Bx s494 (N + 10) b118 #[.slice a128 st318.2.length c128] 46 ∧ Rc s494 (N + 11) (N + 0) D318 { r318 with state := .busy } ∧ e = [(17, .slice a492 l491.length c492), (106, .int .i64 st484.1), (105, .int .i64 (x447.length : Int)), (104, .slice a451 x447.length c451), (18, .int .i64 st418.1), (16, .int .i64 (W ((st318.2.length : Int) + 1))), (13, .pointer (some ⟨b118, 0, none⟩)), (12, .pointer (some ⟨b113, 0, none⟩)), (9, .pointer (some ⟨b58, 0, none⟩))] ∧ w = s494.w) ?_ ?_)))
      ·rintro _ _ ⟨s494, l491, l493, a492, c492, hm, m0, h492, h451, h55, h110, h128, h324, mk0, bx58, bx113, bx118, rc323, rfl, rfl⟩
       unfold m_reach_Components_j1 at hm
       exact E.reg (L.bi Y R R R R (L.mv Y R R (L.nil (X.sub (ih484 _ (oi hm).symm _ _ ⟨s494, a492, c492, m0, h451, h492, h55, h110, h128, h324, mk0, bx58, bx113, bx118, rc323, R, R⟩) (Sub.rf R)))))
      intro Jj495
      refine E.block (E.seq (E.reg ?_))
      obtain ⟨x496, ex496, hm⟩ := bindS hm
      refine L.ix (r := qI) sl27 h451 Y R R ex496 R fun b497 o497 cc497 me497 rd497 => ?_
      obtain rfl := rd497
      refine L.ld (j := 0) me497 nag3 Y R R R R (L.as Y R R (LN (ER (L.ld (j := 0) bx113.mem nag27 Y R R R R (L.mv Y R R ?_)))))
      obtain ⟨x498, ex498, hm⟩ := bindS hm
      refine L.ir (r := qI) sl27 h110 Y R R ex498 R fun b499 o499 cc499 me499 rd499 sp499 => ?_
      obtain rfl := rd499
      refine L.ld (j := 0) me499 nag3 Y R R R R (L.bi Y R R R R (L.nil (X.seqN ?_)))
      rcases ifS hm with ⟨hc, hm⟩ | ⟨hc, hm⟩
      ·refine E.cT R hc (ER (L.ld (j := 0) bx113.mem nag27 Y R R R R (L.mv Y R R (L.mv Y R R ?_))))
       obtain ⟨x500, ex500, hm⟩ := bindS hm
       refine L.ir (r := qI) sl27 h110 Y R R ex500 R fun b501 o501 cc501 me501 rd501 sp501 => ?_
       obtain rfl := rd501
       obtain ⟨x502, ex502, hm⟩ := bindS hm
       have elx502 := upd_len ex502
       refine L.su (fo := 0) (c := [.int .i64 (W ((st318.2.length : Int) + 1))]) (z := W ((st318.2.length : Int) + 1)) h110 sp501 ex500 ex502 (tgp hN) nag3.sz Y R R R R R R (fun c0 hc0 => by obtain rfl := hc0; exact R) fun s503 m504 h110 => ?_
       replace bx113 := bx113.mv m504 (tq R)
       replace bx113 : Bx s503 (N + 9) b113 #[.slice (some ⟨b110, 0, none⟩) x502.length x109.length] 27 := by rw [elx502]; exact bx113
       refine LN (E.reg (L.mv Y R R (L.mv Y R R (L.bsE (k := 1) (cs := [.int .i64 x496]) 0 bs27 (nb R) Y R R R R fun b505 s506 m507 bx505 => ?_))))
       replace h457 := (h457.mv m504 (tq R) (tg0 hN)).mv m507 no_No no_No
       have h505 := Bx.rdL (r := qI) (xs := ([x496] : List Int)) bx505 ⟨[.int .i64 x496], _, R, R, R⟩ (nb R)
       obtain ⟨x508, ex508, hm⟩ := bindS hm
       refine L.ap (r := qI) Tryz.underlying27 el3 R (tgp hN) h457 h505.wk Y R R ex508 R fun a509 c509 s510 m511 h509 => ?_
       replace m0 := ((m0.trans (m504.one up)).trans m507.no).trans (m511.one up)
       replace h451 := ((h451.mono (m504.le (tg0 hN))).mono m507.z).mono (m511.le (tg0 hN))
       replace mk0 := ((mk0.mv m504 (tq R)).mv m507 no_No).mv m511 (tq R)
       replace h324 := ((h324.mono (m504.le (tg0 hN))).mono m507.z).mono (m511.le (tg0 hN))
       replace rc323 := ((rc323.mv m504 (tq R) (tq R)).mv m507 no_No no_No).mv m511 (tq R) (tq R)
       replace bx58 := ((bx58.mv m504 (tq R)).mv m507 no_No).mv m511 (tq R)
       replace h55 := ((h55.mono (m504.le (tg0 hN))).mono m507.z).mono (m511.le (tg0 hN))
       replace bx113 := (bx113.mv m507 no_No).mv m511 (tq R)
       replace h110 := (h110.mv m507 no_No no_No).mv m511 (tq R) (tg0 hN)
       replace bx118 := ((bx118.mv m504 (tq R)).mv m507 no_No).mv m511 (tq R)
       replace h128 := ((h128.mv m504 (tq R) (tg0 hN)).mv m507 no_No no_No).mv m511 (tq R) (tg0 hN)
       exact L.as Y R R (L.nil (X.blkN (X.sub (Jj495 _ _ ⟨s510, x508, x502, a509, c509, hm, m0, h509, h451, h55, h110, h128, h324, mk0, bx58, bx113, bx118, rc323, R, R⟩) (Sub.rf R))))
      exact E.cF R hc (E.skip (X.blkN (X.sub (Jj495 _ _ ⟨s488, st484.2.1, st484.2.2, a457, c457, hm, m0, h457, h451, h55, h110, h128, h324, mk0, bx58, bx113, bx118, rc323, R, R⟩) (Sub.rf R))))
     refine E.cF R hc (E.exit (X.seqX (X.seqX ?_)))
     have hx := ho484 _ (oi hm).symm
     subst hx
     exact X.sub (K490 _ _ ⟨s488, a457, c457, m0, h457, h55, h110, h128, h324, mk0, bx58, bx113, bx118, rc323, R, R⟩) (Sub.rf R)
    refine E.cF R hc (E.exit (X.seqX (X.seqX ?_)))
    have hx := ho418 _ (oi hm).symm
    subst hx
    exact X.sub (K438 _ _ ⟨s422, a339, c339, m0, h339, h55, h110, h128, h324, mk0, bx58, bx113, bx118, rc323, R, R⟩) (Sub.rf R)
   rintro D318 s319 s321 hD318 ⟨st318, a128, c128, hj318, m0, h55, h110, h128, mk0, bx58, bx113, bx118⟩ m322 mk318
   have hx := (rng_end hj318).symm
   subst hx
   replace bx118 := bx118.mv m322 (tq R)
   replace h128 := h128.mv m322 (tq R) (tg0 hN)
   refine X.blkN (X.seqN (ER (L.ld (j := 0) bx118.mem nag46 Y R R R R ?_)))
   obtain ⟨r512, er512, hm⟩ := bindS hm
   refine L.ca cf57 R R Y R (m_slices_SortFunc_int_c (s := s321) (p0 := o318.2) (t0 := (N + 13)) (tpos hN) h128 er512) R ?_
   rintro _ s513 m514 ⟨rfl, h128⟩
   obtain ⟨_, qz515, hm⟩ := bindS hm
   have elz515 := len_some qz515
   replace mk0 := ((mk0.mv m322 (tq R)).cons mko318 hD318 mk318).mv m514 (tq R)
   replace bx118 := bx118.mv m514 (tq R)
   replace bx118 : Bx s513 (N + 10) b118 #[.slice a128 r512.length c128] 46 := by rw [elz515]; exact bx118
   refine LN (ER (L.ld (j := 0) bx118.mem nag46 Y R R R R (L.as Y R R (L.as Y R R (LN (E.ret (X.lv (.inl R) mk0 fun s516 m517 => ?_)))))))
   replace m0 := ((m0.trans (m322.one up)).trans (m514.one up)).trans (m517.one up)
   replace h128 := h128.mv m517 (tq R) (tg0 hN)
   obtain rfl := oi hm
   exact X.rt (.inl R) Tryz.results23 (Rs.tmp R (Rs.tmp R Rs.nil)) R ⟨_, (s516).ren N (fun k => cond (Nat.beq k 13) u0 (0)), R, R, m0.ren hNb, ⟨a128, c128, R, (h128.ren hN)⟩⟩
  intro K518
  refine EiterM (fun (st104 : Int × List (List Int)) (e : List (Nat × Value)) (w : World) (ds : List Deferred) => ∃ (s106 : Sig), Mv (Up N No) s s106 ∧ RdL qT s106 a3 c3 p0.2.2.2 ∧ RowT qI s106 (N + 4) 3 a51 c51 o49 ∧ RdL qI s106 a1 c1 p0.1 ∧ RdL qI s106 a2 c2 p0.2.2.1 ∧ RowR qI s106 N 5 (N + 5) 27 3 (some ⟨b55, 0, none⟩) x54.length x54.length st104.2 none ∧ Mks s106 (N + 0) ds ∧ Bx s106 (N + 1) b5 #[.slice a1 p0.1.length c1, .int .i64 p0.2.1, .slice a2 p0.2.2.1.length c2, .slice a3 p0.2.2.2.length c3] 30 ∧ Bx s106 (N + 6) b58 #[.slice (some ⟨b55, 0, none⟩) x54.length x54.length] 46 ∧ e = [(53, .int .i64 st104.1), (52, .int .i64 (p0.2.2.2.length : Int)), (51, .slice a3 p0.2.2.2.length c3), (9, .pointer (some ⟨b58, 0, none⟩)), (6, .slice a51 o49.length c51), (1, .pointer (some ⟨b5, 0, none⟩))] ∧ w = s106.w) eo104 ⟨s61, m0, h3, h51, h1, h2, mp55, mk0, bx5, bx58, R, R⟩ (Sub.rf R) ?_
  rintro st104 res104 hm ih104 ho104 _ _ ds ⟨s106, m0, h3, h51, h1, h2, mp55, mk0, bx5, bx58, rfl, rfl⟩
  unfold m_reach_Components_l2 at hm
  refine ER (L.bi Y R R R R (LN (E.seq ?_)))
  rcases ifS hm with ⟨hc, hm⟩ | ⟨hc, hm⟩
  ·refine E.cT R hc (E.skip (X.seqN (E.seq (E.block (E.seq (E.reg ?_))))))
   obtain ⟨x519, ex519, hm⟩ := bindS hm
   refine L.ix (r := qT) sl28 h3 Y R R ex519 R fun b520 o520 cc520 me520 rd520 => ?_
   obtain ⟨_, _, rfl, rfl, ⟨_, _, rfl, rfl, rfl⟩⟩ := rd520
   refine L.lg (j := 0) (cs := [.int .i64 x519.1, .int .i64 x519.2.1, .int .i64 x519.2.2]) me520 ag62 Y R R R R R (L.al (N + 7) zz62 R Y R fun b521 s522 m523 bx521 => ?_)
   refine L.st (c := [.int .i64 x519.1, .int .i64 x519.2.1, .int .i64 x519.2.2]) (cs' := #[.int .i64 x519.1, .int .i64 x519.2.1, .int .i64 x519.2.2]) bx521 ag62.sz Y R R R R R (nb R) R fun s524 m525 bx521 => ?_
   replace m0 := (m0.trans m523.no).trans (m525.one up)
   replace h3 := (h3.mono m523.z).mono (m525.le (tg0 hN))
   replace h51 := (h51.mv m523 no_No no_No).mv m525 (tq R) (tg0 hN)
   replace mk0 := (mk0.mv m523 no_No).mv m525 (tq R)
   replace bx5 := (bx5.mv m523 no_No).mv m525 (tq R)
   replace h1 := (h1.mono m523.z).mono (m525.le (tg0 hN))
   replace h2 := (h2.mono m523.z).mono (m525.le (tg0 hN))
   replace bx58 := (bx58.mv m523 no_No).mv m525 (tq R)
   replace mp55 := (mp55.mv m523 no_No no_No (fun _ _ => no_No)).mv m525 (tq R) (tg0 hN) (fun i ho => (fmM (by decide)))
   refine L.nil (X.seqN ?_)
   obtain ⟨x533, ex533, hm⟩ := bindS hm
   obtain ⟨x544, ex544, hm⟩ := bindS hm
   obtain ⟨x549, ex549, hm⟩ := bindS hm
   obtain ⟨x552, ex552, hm⟩ := bindS hm
   refine E.draw [[], [], [1], [], [], [4], [3, 4, 5], [3, 4, 5, 6], [], [8], [8, 9], [3, 4, 5, 6, 7, 8, 9, 10], [0, 1, 2, 3, 4, 5, 6, 7, 8, 9, 10, 11], [0, 1, 2, 3, 4, 5, 6, 7, 8, 9, 10, 11, 12]] (fun D e sx => Mv (fun t => t = (fam N 5 (x519.2.2.toNat)) ∨ t = (N + 5)) s524 sx ∧ Sub [(11, .pointer (some ⟨b521, 0, none⟩)), (53, .int .i64 st104.1), (52, .int .i64 (p0.2.2.2.length : Int)), (51, .slice a3 p0.2.2.2.length c3), (9, .pointer (some ⟨b58, 0, none⟩)), (6, .slice a51 o49.length c51), (1, .pointer (some ⟨b5, 0, none⟩))] e ∧ AllP [G D e 0 57 (.slice (some ⟨b55, 0, none⟩) x54.length x54.length), G D e 1 58 (.pointer (some ⟨b521, 2, none⟩)), G D e 2 59 (.int .i64 x519.2.2), G D e 3 60 (.slice (some ⟨b55, 0, none⟩) x54.length x54.length), G D e 4 61 (.pointer (some ⟨b521, 2, none⟩)), G D e 5 62 (.int .i64 x519.2.2), D 6 = true → (∃ (b534 : Nat) (o534 : Nat), Env.get e 63 = some (.pointer (some ⟨b534, o534, none⟩)) ∧ Spot (some ⟨b55, 0, none⟩) 1 (x519.2.2).toNat b534 o534), D 7 = true → (∃ (a536 : Option Addr) (c536 : Nat), Env.get e 64 = some (.slice a536 x533.length c536)), G D e 8 65 (.pointer (some ⟨b521, 0, none⟩)), G D e 9 66 (.int .i64 x519.1), D 10 = true → (∃ (b540 : Nat), Env.get e 67 = some (.slice (some ⟨b540, 0, none⟩) ([x519.1] : List Int).length (([x519.1] : List Int).length)) ∧ RdL qI sx (some ⟨b540, 0, none⟩) (([x519.1] : List Int).length) ([x519.1] : List Int)), D 11 = true → (∃ (a545 : Option Addr) (c545 : Nat), Env.get e 68 = some (.slice a545 x544.length c545)), D 12 = true → (∃ (b550 : Nat) (o550 : Nat), Env.get e 69 = some (.pointer (some ⟨b550, o550, none⟩)) ∧ Spot (some ⟨b55, 0, none⟩) 1 (x519.2.2).toNat b550 o550), D 7 = false → RowR qI sx N 5 (N + 5) 27 3 (some ⟨b55, 0, none⟩) x54.length x54.length st104.2 none, D 7 = true → D 11 = false → ∀ (a536 : Option Addr) (c536 : Nat), Env.get e 64 = some (.slice a536 x533.length c536) → RowT qI sx (fam N 5 (x519.2.2.toNat)) 3 a536 c536 x533 ∧ RowR qI sx N 5 (N + 5) 27 3 (some ⟨b55, 0, none⟩) x54.length x54.length st104.2 (some x519.2.2.toNat), D 11 = true → D 13 = false → ∀ (a545 : Option Addr) (c545 : Nat), Env.get e 68 = some (.slice a545 x544.length c545) → RowT qI sx (fam N 5 (x519.2.2.toNat)) 3 a545 c545 x544 ∧ RowR qI sx N 5 (N + 5) 27 3 (some ⟨b55, 0, none⟩) x54.length x54.length st104.2 (some x519.2.2.toNat), D 13 = true → RowR qI sx N 5 (N + 5) 27 3 (some ⟨b55, 0, none⟩) x54.length x54.length x552 none]) (by kernel_rfl) (by kernel_rfl) (by kernel_rfl) ?_ ?_ ?_
   ·intro sz mz
    exact ⟨mz.no, (Sub.rf R), nofun, nofun, nofun, nofun, nofun, nofun, nofun, nofun, nofun, nofun, nofun, nofun, nofun, fun _ => mp55.mv mz no_No no_No (fun _ _ => no_No), nofun, nofun, nofun, trivial⟩
   ·refine ⟨?_, ?_, ?_, ?_, ?_, ?_, ?_, ?_, ?_, ?_, ?_, ?_, ?_, ?_, trivial⟩
    ·rintro D e s526 ⟨im, ib, i⟩ hk hf ha
     have bx58 := bx58.mv im (nor (fmN (by decide)) (tq R))
     have kn := K1 (ib 9 _ R)
     exact kn.g (L.ld (j := 0) bx58.mem nag46 Y R R R R (L.nil (X.dk kn ⟨im, Sub.fresh ib R, i.u 0 (fun _ => R)⟩)))
    ·rintro D e s527 ⟨im, ib, i⟩ hk hf ha
     have kn := K1 (ib 11 _ R)
     exact kn.g (L.fa fa62_2 Y R R (L.nil (X.dk kn ⟨im, Sub.fresh ib R, i.u 1 (fun _ => R)⟩)))
    ·rintro D e s528 ⟨im, ib, i⟩ hk hf ha
     have bx521 := bx521.mv im (nor (fmN (by decide)) (tq R))
     have kn := K1 ((i.p 1) (ha.at 1 R))
     exact kn.g (L.ld (j := 2) bx521.mem nag3 Y R R R R (L.nil (X.dk kn ⟨im, Sub.fresh ib R, i.u 2 (fun _ => R)⟩)))
    ·rintro D e s529 ⟨im, ib, i⟩ hk hf ha
     have bx58 := bx58.mv im (nor (fmN (by decide)) (tq R))
     have kn := K1 (ib 9 _ R)
     exact kn.g (L.ld (j := 0) bx58.mem nag46 Y R R R R (L.nil (X.dk kn ⟨im, Sub.fresh ib R, i.u 3 (fun _ => R)⟩)))
    ·rintro D e s530 ⟨im, ib, i⟩ hk hf ha
     have kn := K1 (ib 11 _ R)
     exact kn.g (L.fa fa62_2 Y R R (L.nil (X.dk kn ⟨im, Sub.fresh ib R, i.u 4 (fun _ => R)⟩)))
    ·rintro D e s531 ⟨im, ib, i⟩ hk hf ha
     have bx521 := bx521.mv im (nor (fmN (by decide)) (tq R))
     have kn := K1 ((i.p 4) (ha.at 4 R))
     exact kn.g (L.ld (j := 2) bx521.mem nag3 Y R R R R (L.nil (X.dk kn ⟨im, Sub.fresh ib R, i.u 5 (fun _ => R)⟩)))
    ·rintro D e s532 ⟨im, ib, i⟩ hk hf ha
     obtain mp55 := (i.p 13) (hf 7 (nb R) R)
     have kn := K2 ((i.p 3) (ha.at 3 R)) ((i.p 5) (ha.at 5 R))
     exact kn.g (L.irR sl46 mp55 Y R R ex533 R fun b534 o534 sp534 => L.nil (X.dk kn ⟨im, Sub.fresh ib R, i.u 6 (fun _ => ⟨b534, o534, R, sp534⟩)⟩))
    ·rintro D e s535 ⟨im, ib, i⟩ hk hf ha
     obtain ⟨b534, o534, g6_, sp534⟩ := (i.p 6) (ha.at 6 R)
     obtain mp55 := (i.p 13) hk
     have kn := K1 g6_
     exact kn.g (L.ldR mp55 sp534 ex533 nag27 Y R R fun a536 c536 h536 mp55 => L.nil (X.dk kn ⟨im, Sub.fresh ib R, ((i.u 7 (fun _ => ⟨a536, c536, R⟩)).u 13 (fun z => Bool.noConfusion (show true = false from z))).u 14 (fun _ _ _ _ q7 => by cases (show some (.slice a536 x533.length c536 : Value) = some _ from q7); exact ⟨h536, mp55⟩)⟩))
    ·rintro D e s537 ⟨im, ib, i⟩ hk hf ha
     have kn := K1 (ib 11 _ R)
     exact kn.g (L.fa fa62_0 Y R R (L.nil (X.dk kn ⟨im, Sub.fresh ib R, i.u 8 (fun _ => R)⟩)))
    ·rintro D e s538 ⟨im, ib, i⟩ hk hf ha
     have bx521 := bx521.mv im (nor (fmN (by decide)) (tq R))
     have kn := K1 ((i.p 8) (ha.at 8 R))
     exact kn.g (L.ld (j := 0) bx521.mem nag3 Y R R R R (L.nil (X.dk kn ⟨im, Sub.fresh ib R, i.u 9 (fun _ => R)⟩)))
    ·rintro D e s539 ⟨im, ib, i⟩ hk hf ha
     have kn := K1 ((i.p 9) (ha.at 9 R))
     refine kn.g (L.bsE (k := 1) (cs := [.int .i64 x519.1]) 0 bs27 (nb R) Y R R R R fun b540 s541 m542 bx540 => ?_)
     have h540 := Bx.rdL (r := qI) (xs := ([x519.1] : List Int)) bx540 ⟨[.int .i64 x519.1], _, R, R, R⟩ (nb R)
     exact L.nil (X.dk kn ⟨im.trans m542.no, Sub.fresh ib R, ((((((i.u 6 (fun z => let ⟨b534, o534, q, sp534⟩ := (i.p 6) z; ⟨b534, o534, q, sp534⟩)).u 10 (fun _ => ⟨b540, R, h540⟩)).u 12 (fun z => let ⟨b550, o550, q, sp550⟩ := (i.p 12) z; ⟨b550, o550, q, sp550⟩)).u 13 (fun z2 => (((i.p 13) z2).mv m542 no_No no_No (fun _ _ => no_No)))).u 14 (fun z z2 a536 c536 q7 => let ⟨h536, mp55⟩ := (i.p 14) z z2 a536 c536 q7; ⟨(h536.mv m542 no_No no_No), (mp55.mv m542 no_No no_No (fun _ _ => no_No))⟩)).u 15 (fun z z2 a545 c545 q11 => let ⟨h545, mp55⟩ := (i.p 15) z z2 a545 c545 q11; ⟨(h545.mv m542 no_No no_No), (mp55.mv m542 no_No no_No (fun _ _ => no_No))⟩)).u 16 (fun z => (((i.p 16) z).mv m542 no_No no_No (fun _ _ => no_No)))⟩)
    ·rintro D e s543 ⟨im, ib, i⟩ hk hf ha
     obtain ⟨a536, c536, g7_⟩ := (i.p 7) (ha.at 7 R)
     obtain ⟨b540, g10_, h540⟩ := (i.p 10) (ha.at 10 R)
     obtain ⟨h536, mp55⟩ := (i.p 14) (ha.at 7 R) hk a536 c536 g7_
     have kn := K2 g7_ g10_
     exact kn.g (L.ap (r := qI) Tryz.underlying27 el3 R (tgpF hN) h536 h540.wk Y R R ex544 R fun a545 c545 s546 m547 h545 => L.nil (X.dk kn ⟨im.trans (m547.one (.inl R)), Sub.fresh ib R, (((((((i.u 6 (fun z => let ⟨b534, o534, q, sp534⟩ := (i.p 6) z; ⟨b534, o534, q, sp534⟩)).u 10 (fun z => let ⟨b540, q, h540⟩ := (i.p 10) z; ⟨b540, q, (h540.mono (m547.le (fm0 hN)))⟩)).u 11 (fun _ => ⟨a545, c545, R⟩)).u 12 (fun z => let ⟨b550, o550, q, sp550⟩ := (i.p 12) z; ⟨b550, o550, q, sp550⟩)).u 13 (fun z2 => absurd (show D 7 = false from z2) (by rw [(ha.at 7 R)]; exact Bool.noConfusion))).u 14 (fun _ z => Bool.noConfusion (show true = false from z))).u 15 (fun _ _ _ _ q11 => by cases (show some (.slice a545 x544.length c545 : Value) = some _ from q11); exact ⟨h545, (mp55.mv m547 (fmN (by decide)) (fm0 hN) (fun i ho => (fam_ne (Ne.symm (ho _ R)))))⟩)).u 16 (fun z => Bool.noConfusion ((hf 13 (nb R) R).symm.trans z))⟩))
    ·rintro D e s548 ⟨im, ib, i⟩ hk hf ha
     obtain ⟨a545, c545, g11_⟩ := (i.p 11) (ha.at 11 R)
     obtain ⟨h545, mp55⟩ := (i.p 15) (ha.at 11 R) (hf 13 (nb R) R) a545 c545 g11_
     have kn := K2 ((i.p 0) (ha.at 0 R)) ((i.p 2) (ha.at 2 R))
     exact kn.g (L.irR sl46 mp55 Y R R ex549 R fun b550 o550 sp550 => L.nil (X.dk kn ⟨im, Sub.fresh ib R, i.u 12 (fun _ => ⟨b550, o550, R, sp550⟩)⟩))
    rintro D e s551 ⟨im, ib, i⟩ hk hf ha
    obtain ⟨a545, c545, g11_⟩ := (i.p 11) (ha.at 11 R)
    obtain ⟨b550, o550, g12_, sp550⟩ := (i.p 12) (ha.at 12 R)
    obtain ⟨h545, mp55⟩ := (i.p 15) (ha.at 11 R) hk a545 c545 g11_
    have kn := K2 g12_ g11_
    exact kn.g (L.suR mp55 h545 sp550 ex549 ex552 (tgp hN) (fun _ => fam_neN (by decide)) nag27.sz Y R R fun s553 m554 mp55 => L.nil (X.dn kn ⟨im.trans (m554.one (.inr R)), ib, ((((((i.u 6 (fun z => let ⟨b534, o534, q, sp534⟩ := (i.p 6) z; ⟨b534, o534, q, sp534⟩)).u 10 (fun z => let ⟨b540, q, h540⟩ := (i.p 10) z; ⟨b540, q, (h540.mono (m554.le (tg0 hN)))⟩)).u 12 (fun z => let ⟨b550, o550, q, sp550⟩ := (i.p 12) z; ⟨b550, o550, q, sp550⟩)).u 13 (fun z2 => absurd (show D 7 = false from z2) (by rw [(ha.at 7 R)]; exact Bool.noConfusion))).u 14 (fun z z2 a536 c536 q7 => absurd (show D 11 = false from z2) (by rw [(ha.at 11 R)]; exact Bool.noConfusion))).u 15 (fun _ z => Bool.noConfusion (show true = false from z))).u 16 (fun _ => by exact mp55)⟩))
   rintro D e s555 hD ⟨im, ib, i⟩
   obtain mp55 := (i.p 16) (hD 13 R)
   have h3 := h3.mono (im.le (nor (fm0 hN) (tg0 hN)))
   have bx58 := bx58.mv im (nor (fmN (by decide)) (tq R))
   have h51 := h51.mv im (nor (fmN (by decide)) (tq R)) (nor (fm0 hN) (tg0 hN))
   have bx5 := bx5.mv im (nor (fmN (by decide)) (tq R))
   have h1 := h1.mono (im.le (nor (fm0 hN) (tg0 hN)))
   have h2 := h2.mono (im.le (nor (fm0 hN) (tg0 hN)))
   have mk0 := mk0.mv im (nor (fmN (by decide)) (tq R))
   have m0 := m0.trans (im.weak fun _ e => by rcases e with e | e; (rw [e]; exact upF); (rw [e]; exact up))
   refine X.sub (e' := [(53, .int .i64 st104.1), (52, .int .i64 (p0.2.2.2.length : Int)), (51, .slice a3 p0.2.2.2.length c3), (9, .pointer (some ⟨b58, 0, none⟩)), (6, .slice a51 o49.length c51), (1, .pointer (some ⟨b5, 0, none⟩))]) ?_ (Sub.cons (ib 53 _ R) (Sub.cons (ib 52 _ R) (Sub.cons (ib 51 _ R) (Sub.cons (ib 9 _ R) (Sub.cons (ib 6 _ R) (Sub.cons (ib 1 _ R) Sub.nil))))))
   exact X.blkN (X.seqN (E.reg (L.bi Y R R R R (L.mv Y R R (L.nil (X.sub (ih104 _ (oi hm).symm _ _ _ ⟨s555, m0, h3, h51, h1, h2, mp55, mk0, bx5, bx58, R, R⟩) (Sub.rf R)))))))
  refine E.cF R hc (E.exit (X.seqX (X.seqX ?_)))
  have hx := ho104 _ (oi hm).symm
  subst hx
  exact X.sub (K518 _ _ _ ⟨s106, m0, h51, h1, h2, h3, mp55, mk0, bx5, bx58, R, R⟩) (Sub.rf R)
 intro K556
 refine EiterM (fun (st49 : Int × List Bool × List Int) (e : List (Nat × Value)) (w : World) (ds : List Deferred) => ∃ (s52 : Sig) (a32 : Option Addr) (c32 : Nat), Mv (Up N No) s s52 ∧ RowT rB s52 (N + 3) 4 (some ⟨b26, 0, none⟩) x25.length st49.2.1 ∧ RowT qI s52 (N + 4) 3 a32 c32 st49.2.2 ∧ RdL qI s52 a1 c1 p0.1 ∧ RdL qI s52 a2 c2 p0.2.2.1 ∧ RdL qT s52 a3 c3 p0.2.2.2 ∧ RdL qI s52 a16 c16 r13.1.1 ∧ RdL qI s52 a17 c17 r13.1.2.2.1 ∧ RdL qT s52 a18 c18 r13.1.2.2.2 ∧ RdL qI s52 a19 c19 r13.2 ∧ Mks s52 (N + 0) ds ∧ Bx s52 (N + 1) b5 #[.slice a1 p0.1.length c1, .int .i64 p0.2.1, .slice a2 p0.2.2.1.length c2, .slice a3 p0.2.2.2.length c3] 30 ∧ Bx s52 (N + 2) b20 #[.slice a16 r13.1.1.length c16, .int .i64 r13.1.2.1, .slice a17 r13.1.2.2.1.length c17, .slice a18 r13.1.2.2.2.length c18, .slice a19 r13.2.length c19] 91 ∧ e = [(33, .int .i64 st49.1), (32, .int .i64 p0.2.1), (7, .slice (some ⟨b26, 0, none⟩) st49.2.1.length x25.length), (6, .slice a32 st49.2.2.length c32), (5, .pointer (some ⟨b20, 0, none⟩)), (1, .pointer (some ⟨b5, 0, none⟩))] ∧ w = s52.w) eo49 ⟨s27, none, 0, m0, h26, RowT.nil, h1, h2, h3, h16, h17, h18, h19, mk0, bx5, bx20, R, R⟩ (Sub.rf R) ?_
 rintro st49 res49 hm ih49 ho49 _ _ ds ⟨s52, a32, c32, m0, h26, h32, h1, h2, h3, h16, h17, h18, h19, mk0, bx5, bx20, rfl, rfl⟩
 unfold m_reach_Components_l1 at hm
 refine ER (L.bi Y R R R R (LN (E.seq ?_)))
 rcases ifS hm with ⟨hc, hm⟩ | ⟨hc, hm⟩
 ·refine E.cT R hc (E.skip (X.seqN (E.seqJM (fun e w ds => ∃ (s560 : Sig) (l557 : List Int) (l559 : List Bool) (a558 : Option Addr) (c558 : Nat), m_reach_Components_j2 st49 l557 l559 = some res49 ∧ Mv (Up N No) s s560 ∧ RowT qI s560 (N + 4) 3 a558 c558 l557 ∧ RowT rB s560 (N + 3) 4 (some ⟨b26, 0, none⟩) x25.length l559 ∧ RdL qI s560 a1 c1 p0.1 ∧ RdL qI s560 a2 c2 p0.2.2.1 ∧ RdL qT s560 a3 c3 p0.2.2.2 ∧ RdL qI s560 a16 c16 r13.1.1 ∧ RdL qI s560 a17 c17 r13.1.2.2.1 ∧ RdL qT s560 a18 c18 r13.1.2.2.2 ∧ RdL qI s560 a19 c19 r13.2 ∧ Mks s560 (N + 0) ds ∧ Bx s560 (N + 1) b5 #[.slice a1 p0.1.length c1, .int .i64 p0.2.1, .slice a2 p0.2.2.1.length c2, .slice a3 p0.2.2.2.length c3] 30 ∧ Bx s560 (N + 2) b20 #[.slice a16 r13.1.1.length c16, .int .i64 r13.1.2.1, .slice a17 r13.1.2.2.1.length c17, .slice a18 r13.1.2.2.2.length c18, .slice a19 r13.2.length c19] 91 ∧ e = [(6, .slice a558 l557.length c558), (7, .slice (some ⟨b26, 0, none⟩) l559.length x25.length), (33, .int .i64 st49.1), (32, .int .i64 p0.2.1), (5, .pointer (some ⟨b20, 0, none⟩)), (1, .pointer (some ⟨b5, 0, none⟩))] ∧ w = s560.w) ?_ ?_)))
  ·rintro _ _ ds ⟨s560, l557, l559, a558, c558, hm, m0, h558, h26, h1, h2, h3, h16, h17, h18, h19, mk0, bx5, bx20, rfl, rfl⟩
   unfold m_reach_Components_j2 at hm
   exact E.reg (L.bi Y R R R R (L.mv Y R R (L.nil (X.sub (ih49 _ (oi hm).symm _ _ _ ⟨s560, a558, c558, m0, h26, h558, h1, h2, h3, h16, h17, h18, h19, mk0, bx5, bx20, R, R⟩) (Sub.rf R)))))
  intro Jj561
  refine E.block (ER (L.mv Y R R (L.as Y R R (LN (ER (L.mv Y R R (L.mv Y R R ?_)))))))
  obtain ⟨x562, ex562, hm⟩ := bindS hm
  refine L.ir (r := rB) sl55 h26 Y R R ex562 R fun b563 o563 cc563 me563 rd563 sp563 => ?_
  obtain rfl := rd563
  refine L.ld (j := 0) me563 nag4 Y R R R R (L.not Y R R (L.nil (X.seqN ?_)))
  rcases ifS hm with ⟨hc, hm⟩ | ⟨hc, hm⟩
  ·refine E.cT R hc (E.reg (L.lg (j := 0) (cs := [.slice a16 r13.1.1.length c16, .int .i64 r13.1.2.1, .slice a17 r13.1.2.2.1.length c17, .slice a18 r13.1.2.2.2.length c18, .slice a19 r13.2.length c19]) bx20.mem ag91 Y R R R R R (L.mv Y R R (L.mv Y R R (L.mv Y R R ?_)))))
   obtain ⟨r564, er564, hm⟩ := bindS hm
   refine L.ca cf54 R R Y R (m_reach_graph_finish_c (s := s52) (p0 := r13) (p1 := st49.1) (p2 := st49.2.1) (p3 := st49.2.2) (t2 := (N + 3)) (t3 := (N + 4)) (tne (by decide)) (tne (by decide)) (tpos hN) (tpos hN) h16 h17 h18 h19 h26 h32 er564) R ?_
   rintro _ s565 m566 ⟨a567, c567, rfl, h567, h26⟩
   obtain ⟨_, qz568, hm⟩ := bindS hm
   have elz568 := len_some qz568
   replace m0 := m0.trans (m566.weak fun _ e => by rcases e with e | e; (rw [e]; exact up); (rw [e]; exact up))
   replace mk0 := mk0.mv m566 (nor (tq R) (tq R))
   replace bx5 := bx5.mv m566 (nor (tq R) (tq R))
   replace h1 := h1.mono (m566.le (nor (tg0 hN) (tg0 hN)))
   replace h2 := h2.mono (m566.le (nor (tg0 hN) (tg0 hN)))
   replace h3 := h3.mono (m566.le (nor (tg0 hN) (tg0 hN)))
   replace bx20 := bx20.mv m566 (nor (tq R) (tq R))
   replace h16 := h16.mono (m566.le (nor (tg0 hN) (tg0 hN)))
   replace h17 := h17.mono (m566.le (nor (tg0 hN) (tg0 hN)))
   replace h18 := h18.mono (m566.le (nor (tg0 hN) (tg0 hN)))
   replace h19 := h19.mono (m566.le (nor (tg0 hN) (tg0 hN)))
   exact L.reval (d := 7) R elz568 (L.as Y R R (L.nil (X.blkN (X.sub (Jj561 _ _ _ ⟨s565, r564.1, r564.2, a567, c567, hm, m0, h567, h26, h1, h2, h3, h16, h17, h18, h19, mk0, bx5, bx20, R, R⟩) (Sub.rf R)))))
  exact E.cF R hc (E.skip (X.blkN (X.sub (Jj561 _ _ _ ⟨s52, st49.2.2, st49.2.1, a32, c32, hm, m0, h32, h26, h1, h2, h3, h16, h17, h18, h19, mk0, bx5, bx20, R, R⟩) (Sub.rf R))))
 refine E.cF R hc (E.exit (X.seqX (X.seqX ?_)))
 have hx := ho49 _ (oi hm).symm
 subst hx
 exact X.sub (K556 _ _ _ ⟨s52, a32, c32, m0, h32, h1, h2, h3, mk0, bx5, R, R⟩) (Sub.rf R)

theorem cf23 : Cf Tryz.prog 23 := Cf.mk Tryz.func23 (by kernel_rfl) (by kernel_rfl)
noncomputable def m_blocking_Traps_j1 (st167 : Int × List Int × List (List Int)) (l175 : List Int) (l177 : List (List Int)) : Option ((Int × List Int × List (List Int)) ⊕ (List Int × List (List Int))) :=
 some (.inl (W (st167.1 + 1), l175, l177))
noncomputable def m_blocking_Traps_j2 (st167 : Int × List Int × List (List Int)) (x181 : List Int) (l186 : List Int) : Option ((Int × List Int × List (List Int)) ⊕ (List Int × List (List Int))) :=
 (app st167.2.2 ([x181] : List (List Int))).bind fun x193 =>
 m_blocking_Traps_j1 st167 l186 x193
noncomputable def m_blocking_Traps_l4 (r9 : List (List Int) × Int) (o105 : List Bool) (o122 : List Bool) (st167 : Int × List Int × List (List Int)) : Option ((Int × List Int × List (List Int)) ⊕ (List Int × List (List Int))) :=
 if decide (st167.1 < (r9.1.length : Int)) then
  (idx r9.1 st167.1).bind fun x181 =>
  (idx o105 st167.1).bind fun x184 =>
  if x184 then
   m_blocking_Traps_j1 st167 st167.2.1 st167.2.2
  else
   (idx o122 st167.1).bind fun x197 =>
   if (!x197) then
    (app st167.2.1 ([(st167.2.2.length : Int)] : List Int)).bind fun x202 =>
    m_blocking_Traps_j2 st167 x181 x202
   else
    m_blocking_Traps_j2 st167 x181 st167.2.1
 else
  some (.inr st167.2)
noncomputable def m_blocking_Traps_l3 (p0 : AutT) (o47 : List Int) (st122 : Int × List Bool) : Option ((Int × List Bool) ⊕ (List Bool)) :=
 if decide (st122.1 < (p0.2.2.1.length : Int)) then
  (idx p0.2.2.1 st122.1).bind fun x207 =>
  (idx o47 x207).bind fun x209 =>
  (idx st122.2 x209).bind fun x211 =>
  (upd st122.2 x209 true).bind fun x213 =>
  some (.inl (W (st122.1 + 1), x213))
 else
  some (.inr st122.2)
noncomputable def m_blocking_Traps_j3 (st105 : Int × List Bool) (l217 : List Bool) : Option ((Int × List Bool) ⊕ (List Bool)) :=
 some (.inl (W (st105.1 + 1), l217))
noncomputable def m_blocking_Traps_l2 (p0 : AutT) (o47 : List Int) (st105 : Int × List Bool) : Option ((Int × List Bool) ⊕ (List Bool)) :=
 if decide (st105.1 < (p0.2.2.2.length : Int)) then
  (idx p0.2.2.2 st105.1).bind fun x220 =>
  (idx o47 x220.1).bind fun x231 =>
  (idx o47 x220.2.2).bind fun x238 =>
  if (x231 != x238) then
   (idx o47 x220.1).bind fun x243 =>
   (idx st105.2 x243).bind fun x245 =>
   (upd st105.2 x243 true).bind fun x247 =>
   m_blocking_Traps_j3 st105 x247
  else
   m_blocking_Traps_j3 st105 st105.2
 else
  some (.inr st105.2)
noncomputable def m_blocking_Traps_l5 (st47 : Int × List Int) (x251 : List Int) (st265 : Int × List Int) : Option ((Int × List Int) ⊕ (List Int)) :=
 if decide (st265.1 < (x251.length : Int)) then
  (idx x251 st265.1).bind fun x270 =>
  (idx st265.2 x270).bind fun x272 =>
  (upd st265.2 x270 st47.1).bind fun x274 =>
  some (.inl (W (st265.1 + 1), x274))
 else
  some (.inr st265.2)
noncomputable def m_blocking_Traps_l1 (r9 : List (List Int) × Int) (st47 : Int × List Int) : Option ((Int × List Int) ⊕ (List Int)) :=
 if decide (st47.1 < (r9.1.length : Int)) then
  (idx r9.1 st47.1).bind fun x251 =>
  (iter (m_blocking_Traps_l5 st47 x251) (0, st47.2)).bind fun o265 =>
  some (.inl (W (st47.1 + 1), o265))
 else
  some (.inr st47.2)
noncomputable def m_blocking_Traps (p0 : AutT) : Option (List (List Int) × List Int × Int) :=
 (m_reach_Components p0).bind fun r9 =>
 if (r9.2 != 0) then
  some (([] : List (List Int)), ([] : List Int), r9.2)
 else
  (mkL p0.2.1 (0 : Int)).bind fun x13 =>
  (iter (m_blocking_Traps_l1 r9) (0, x13)).bind fun o47 =>
  (mkL (r9.1.length : Int) false).bind fun x54 =>
  (mkL (r9.1.length : Int) false).bind fun x61 =>
  (iter (m_blocking_Traps_l2 p0 o47) (0, x54)).bind fun o105 =>
  (iter (m_blocking_Traps_l3 p0 o47) (0, x61)).bind fun o122 =>
  (iter (m_blocking_Traps_l4 r9 o105 o122) (0, ([] : List Int), ([] : List (List Int)))).bind fun o167 =>
  some (o167.2, o167.1, 0)
abbrev m_blocking_Traps_w0 : List (List Nat) := [[], [0], [0, 1], [], [3], [3, 4], [0, 1, 2], [0, 1, 2, 3, 4, 5, 6]]
abbrev m_blocking_Traps_w1 : List (List Nat) := [[], [], [1], [0, 1, 2], [0, 1, 2, 3], [], [], [6], [5, 6, 7], [5, 6, 7, 8], [0, 1, 2, 3, 4, 5, 6, 7, 8, 9]]
theorem m_blocking_Traps_c {s : Sig} {p0 : AutT} {a1 : Option Addr} {c1 : Nat} {a2 : Option Addr} {c2 : Nat} {a3 : Option Addr} {c3 : Nat} {u0 : Nat} {u1 : Nat} {r : List (List Int) × List Int × Int} (h1 : RdL qI s a1 c1 p0.1) (h2 : RdL qI s a2 c2 p0.2.2.1) (h3 : RdL qT s a3 c3 p0.2.2.2) (hm : m_blocking_Traps p0 = some r) :
    Calls Tryz.prog 20 #[.agg #[.slice a1 p0.1.length c1, .int .i64 p0.2.1, .slice a2 p0.2.2.1.length c2, .slice a3 p0.2.2.2.length c3]] s.w (RetS No s fun v s' => ∃ (a4 : Option Addr) (c4 : Nat) (a5 : Option Addr) (c5 : Nat), v = .tuple #[.slice a4 r.1.length c4, .slice a5 r.2.1.length c5, .int .i64 r.2.2] ∧ RowT (rL qI) s' u0 27 a4 c4 r.1 ∧ RowT qI s' u1 3 a5 c5 r.2.1) := by
 unfold m_blocking_Traps at hm
 obtain ⟨N, hN, hNb⟩ := s.fresh
 have m0 : Mv (Up N No) s s := Mv.refl _ _
 refine E.entry Tryz.func20 R Tryz.ntmps20 R R (ER (L.box (N + 0) Y R R R fun b6 s7 m8 bx6 => ?_))
 replace h1 := h1.mono m8.z
 replace h2 := h2.mono m8.z
 replace h3 := h3.mono m8.z
 refine L.as Y R R (L.as Y R R (L.as Y R R (LN (ER (L.lg (j := 0) (cs := [.slice a1 p0.1.length c1, .int .i64 p0.2.1, .slice a2 p0.2.2.1.length c2, .slice a3 p0.2.2.2.length c3]) bx6.mem ag30 Y R R R R R ?_)))))
 obtain ⟨r9, er9, hm⟩ := bindS hm
 refine L.ca cf23 R R Y R (m_reach_Components_c (s := s7) (p0 := p0) (u0 := 0) h1 h2 h3 er9) R ?_
 rintro _ s10 m11 ⟨a12, c12, rfl, h12⟩
 replace m0 := (m0.trans m8.no).trans m11.no
 replace bx6 := bx6.mv m11 no_No
 refine L.mv Y R R (L.ex Y R R R (L.ex Y R R R (L.as Y R R (L.as Y R R (LN (E.seq (ER (L.mv Y R R (L.bi Y R R R R (L.nil (X.seqN ?_)))))))))))
 rcases ifS hm with ⟨hc, hm⟩ | ⟨hc, hm⟩
 ·refine E.cT R hc (ER (L.mv Y R R (L.as Y R R (L.as Y R R (L.as Y R R (LN (E.ret (X.seqR ?_))))))))
  obtain rfl := oi hm
  exact X.rt (.inl R) Tryz.results20 (Rs.tmp R (Rs.tmp R (Rs.tmp R Rs.nil))) R ⟨_, (s10).ren N (fun _ => 0), R, R, m0.ren hNb, ⟨none, 0, none, 0, R, RowT.nil, RowT.nil⟩⟩
 refine E.cF R hc (E.skip (X.seqN (ER (L.fa fa30_1 Y R R (L.ld (j := 1) bx6.mem nag3 Y R R R R ?_)))))
 obtain ⟨x13, ex13, hm⟩ := bindS hm
 refine L.mk (z := (0 : Int)) (N + 1) Tryz.underlying27 zr3 R Y R R ex13 R fun b14 s15 m16 h14 => ?_
 replace m0 := m0.trans m16.no
 replace h12 := (h12.p).mono m16.z
 replace bx6 := bx6.mv m16 no_No
 replace h1 := (h1.mono m11.z).mono m16.z
 replace h2 := (h2.mono m11.z).mono m16.z
 replace h3 := (h3.mono m11.z).mono m16.z
 refine L.as Y R R (LN (E.seq (ER (L.mv Y R R (L.len sl46 Y R R (L.mv Y R R (LN (E.block ?_))))))))
 obtain ⟨o47, eo47, hm⟩ := bindS hm
 refine E.cut (x := .exit 0) (fun e w => ∃ (s50 : Sig), Mv (Up N No) s s50 ∧ RowT qI s50 (N + 1) 3 (some ⟨b14, 0, none⟩) x13.length o47 ∧ RdL (rL qI) s50 a12 c12 r9.1 ∧ RdL qI s50 a1 c1 p0.1 ∧ RdL qI s50 a2 c2 p0.2.2.1 ∧ RdL qT s50 a3 c3 p0.2.2.2 ∧ Bx s50 (N + 0) b6 #[.slice a1 p0.1.length c1, .int .i64 p0.2.1, .slice a2 p0.2.2.1.length c2, .slice a3 p0.2.2.2.length c3] 30 ∧ e = [(6, .slice (some ⟨b14, 0, none⟩) o47.length x13.length), (5, .slice a12 r9.1.length c12), (3, .slice none 0 0), (2, .slice none 0 0), (1, .pointer (some ⟨b6, 0, none⟩))] ∧ w = s50.w) ?_ ?_
 ·rintro _ _ ⟨s50, m0, h14, h12, h1, h2, h3, bx6, rfl, rfl⟩
  refine X.blkE (X.seqN (E.seq ?_))
  obtain ⟨x54, ex54, hm⟩ := bindS hm
  obtain ⟨x61, ex61, hm⟩ := bindS hm
  refine E.draw m_blocking_Traps_w0 (fun D e sx => Mv No s50 sx ∧ Sub [(6, .slice (some ⟨b14, 0, none⟩) o47.length x13.length), (5, .slice a12 r9.1.length c12), (3, .slice none 0 0), (2, .slice none 0 0), (1, .pointer (some ⟨b6, 0, none⟩))] e ∧ AllP [G D e 0 49 (.slice a12 r9.1.length c12), G D e 1 50 (.int .i64 (r9.1.length : Int)), D 2 = true → (∃ (b55 : Nat), Env.get e 51 = some (.slice (some ⟨b55, 0, none⟩) x54.length x54.length) ∧ RowT rB sx (N + 2) 4 (some ⟨b55, 0, none⟩) x54.length x54), G D e 3 52 (.slice a12 r9.1.length c12), G D e 4 53 (.int .i64 (r9.1.length : Int)), D 5 = true → (∃ (b62 : Nat), Env.get e 54 = some (.slice (some ⟨b62, 0, none⟩) x61.length x61.length) ∧ RowT rB sx (N + 3) 4 (some ⟨b62, 0, none⟩) x61.length x61), D 6 = true → ∀ (b55 : Nat), Env.get e 51 = some (.slice (some ⟨b55, 0, none⟩) x54.length x54.length) → (Env.get e 11 = some (.slice (some ⟨b55, 0, none⟩) x54.length x54.length)), D 7 = true → ∀ (b62 : Nat), Env.get e 54 = some (.slice (some ⟨b62, 0, none⟩) x61.length x61.length) → (Env.get e 12 = some (.slice (some ⟨b62, 0, none⟩) x61.length x61.length))]) (by kernel_rfl) (by kernel_rfl) (by kernel_rfl) ?_ ?_ ?_
  ·intro sz mz
   exact ⟨mz, (Sub.rf R), nofun, nofun, nofun, nofun, nofun, nofun, nofun, nofun, trivial⟩
  ·refine ⟨?_, ?_, ?_, ?_, ?_, ?_, ?_, ?_, trivial⟩
   ·rintro D e s51 ⟨im, ib, i⟩ hk hf ha
    have kn := K1 (ib 5 _ R)
    exact kn.g (L.mv Y R R (L.nil (X.dk kn ⟨im, Sub.fresh ib R, i.u 0 (fun _ => R)⟩)))
   ·rintro D e s52 ⟨im, ib, i⟩ hk hf ha
    have kn := K1 ((i.p 0) (ha.at 0 R))
    exact kn.g (L.len sl46 Y R R (L.nil (X.dk kn ⟨im, Sub.fresh ib R, i.u 1 (fun _ => R)⟩)))
   ·rintro D e s53 ⟨im, ib, i⟩ hk hf ha
    have kn := K1 ((i.p 1) (ha.at 1 R))
    exact kn.g (L.mk (z := false) (N + 2) Tryz.underlying55 zr4 R Y R R ex54 R fun b55 s56 m57 h55 => L.nil (X.dk kn ⟨im.trans m57.no, Sub.fresh ib R, ((i.u 2 (fun _ => ⟨b55, R, h55⟩)).u 5 (fun z => let ⟨b62, q, h62⟩ := (i.p 5) z; ⟨b62, q, (h62.mv m57 no_No no_No)⟩)).u 6 (fun z => Bool.noConfusion ((hf 6 (nb R) R).symm.trans z))⟩))
   ·rintro D e s58 ⟨im, ib, i⟩ hk hf ha
    have kn := K1 (ib 5 _ R)
    exact kn.g (L.mv Y R R (L.nil (X.dk kn ⟨im, Sub.fresh ib R, i.u 3 (fun _ => R)⟩)))
   ·rintro D e s59 ⟨im, ib, i⟩ hk hf ha
    have kn := K1 ((i.p 3) (ha.at 3 R))
    exact kn.g (L.len sl46 Y R R (L.nil (X.dk kn ⟨im, Sub.fresh ib R, i.u 4 (fun _ => R)⟩)))
   ·rintro D e s60 ⟨im, ib, i⟩ hk hf ha
    have kn := K1 ((i.p 4) (ha.at 4 R))
    exact kn.g (L.mk (z := false) (N + 3) Tryz.underlying55 zr4 R Y R R ex61 R fun b62 s63 m64 h62 => L.nil (X.dk kn ⟨im.trans m64.no, Sub.fresh ib R, ((i.u 2 (fun z => let ⟨b55, q, h55⟩ := (i.p 2) z; ⟨b55, q, (h55.mv m64 no_No no_No)⟩)).u 5 (fun _ => ⟨b62, R, h62⟩)).u 7 (fun z => Bool.noConfusion ((hf 7 (nb R) R).symm.trans z))⟩))
   ·rintro D e s65 ⟨im, ib, i⟩ hk hf ha
    obtain ⟨b55, g2_, h55⟩ := (i.p 2) (ha.at 2 R)
    have kn := K1 g2_
    exact kn.g (L.as Y R R (L.nil (X.dk kn ⟨im, Sub.fresh ib R, i.u 6 (fun _ _ q2 => by cases g2_.symm.trans q2; exact R)⟩)))
   rintro D e s66 ⟨im, ib, i⟩ hk hf ha
   obtain ⟨b62, g5_, h62⟩ := (i.p 5) (ha.at 5 R)
   have kn := K1 g5_
   exact kn.g (L.as Y R R (L.nil (X.dk kn ⟨im, Sub.fresh ib R, i.u 7 (fun _ _ q5 => by cases g5_.symm.trans q5; exact R)⟩)))
  rintro D e s67 hD ⟨im, ib, i⟩
  obtain ⟨b55, g2_, h55⟩ := (i.p 2) (hD 2 R)
  obtain ⟨b62, g5_, h62⟩ := (i.p 5) (hD 5 R)
  have g6_ := (i.p 6) (hD 6 R) b55 g2_
  have g7_ := (i.p 7) (hD 7 R) b62 g5_
  have h14 := h14.mv im no_No no_No
  have h12 := h12.mono im.z
  have bx6 := bx6.mv im no_No
  have h1 := h1.mono im.z
  have h2 := h2.mono im.z
  have h3 := h3.mono im.z
  have m0 := m0.trans im.no
  refine X.sub (e' := [(12, .slice (some ⟨b62, 0, none⟩) x61.length x61.length), (11, .slice (some ⟨b55, 0, none⟩) x54.length x54.length), (6, .slice (some ⟨b14, 0, none⟩) o47.length x13.length), (5, .slice a12 r9.1.length c12), (3, .slice none 0 0), (2, .slice none 0 0), (1, .pointer (some ⟨b6, 0, none⟩))]) ?_ (Sub.cons g7_ (Sub.cons g6_ (Sub.cons (ib 6 _ R) (Sub.cons (ib 5 _ R) (Sub.cons (ib 3 _ R) (Sub.cons (ib 2 _ R) (Sub.cons (ib 1 _ R) Sub.nil)))))))
  refine X.seqN (E.seq (ER (L.fa fa30_3 Y R R (L.ld (j := 3) bx6.mem nag28 Y R R R R (L.len sl28 Y R R (L.mv Y R R (LN (E.block ?_))))))))
  obtain ⟨o105, eo105, hm⟩ := bindS hm
  refine E.cut (x := .exit 4) (fun e w => ∃ (s108 : Sig), Mv (Up N No) s s108 ∧ RowT rB s108 (N + 3) 4 (some ⟨b62, 0, none⟩) x61.length x61 ∧ RowT rB s108 (N + 2) 4 (some ⟨b55, 0, none⟩) x54.length o105 ∧ RowT qI s108 (N + 1) 3 (some ⟨b14, 0, none⟩) x13.length o47 ∧ RdL (rL qI) s108 a12 c12 r9.1 ∧ RdL qI s108 a1 c1 p0.1 ∧ RdL qI s108 a2 c2 p0.2.2.1 ∧ RdL qT s108 a3 c3 p0.2.2.2 ∧ Bx s108 (N + 0) b6 #[.slice a1 p0.1.length c1, .int .i64 p0.2.1, .slice a2 p0.2.2.1.length c2, .slice a3 p0.2.2.2.length c3] 30 ∧ e = [(12, .slice (some ⟨b62, 0, none⟩) x61.length x61.length), (11, .slice (some ⟨b55, 0, none⟩) o105.length x54.length), (6, .slice (some ⟨b14, 0, none⟩) o47.length x13.length), (5, .slice a12 r9.1.length c12), (3, .slice none 0 0), (2, .slice none 0 0), (1, .pointer (some ⟨b6, 0, none⟩))] ∧ w = s108.w) ?_ ?_
  ·rintro _ _ ⟨s108, m0, h62, h55, h14, h12, h1, h2, h3, bx6, rfl, rfl⟩
   refine X.blkE (X.seqN (E.seq (ER (L.fa fa30_2 Y R R (L.ld (j := 2) bx6.mem nag27 Y R R R R (L.len sl27 Y R R (L.mv Y R R (LN (E.block ?_)))))))))
   obtain ⟨o122, eo122, hm⟩ := bindS hm
   refine E.cut (x := .exit 6) (fun e w => ∃ (s125 : Sig), Mv (Up N No) s s125 ∧ RowT rB s125 (N + 3) 4 (some ⟨b62, 0, none⟩) x61.length o122 ∧ RowT rB s125 (N + 2) 4 (some ⟨b55, 0, none⟩) x54.length o105 ∧ RdL (rL qI) s125 a12 c12 r9.1 ∧ e = [(12, .slice (some ⟨b62, 0, none⟩) o122.length x61.length), (11, .slice (some ⟨b55, 0, none⟩) o105.length x54.length), (5, .slice a12 r9.1.length c12), (3, .slice none 0 0), (2, .slice none 0 0)] ∧ w = s125.w) ?_ ?_
   ·rintro _ _ ⟨s125, m0, h62, h55, h12, rfl, rfl⟩
    refine X.blkE (X.seqN (E.seq (ER (L.mv Y R R (L.len sl46 Y R R (L.mv Y R R (LN (E.block ?_))))))))
    obtain ⟨o167, eo167, hm⟩ := bindS hm
    refine E.cut (x := .exit 8) (fun e w => ∃ (s173 : Sig) (a169 : Option Addr) (c169 : Nat) (a171 : Option Addr) (c171 : Nat), Mv (Up N No) s s173 ∧ RowT qI s173 (N + 5) 3 a169 c169 o167.1 ∧ RowT (rL qI) s173 (N + 6) 27 a171 c171 o167.2 ∧ e = [(3, .slice a169 o167.1.length c169), (2, .slice a171 o167.2.length c171)] ∧ w = s173.w) ?_ ?_
    ·rintro _ _ ⟨s173, a169, c169, a171, c171, m0, h169, h171, rfl, rfl⟩
     refine X.blkE (X.seqN (ER (L.mv Y R R (L.mv Y R R (L.as Y R R (L.as Y R R (L.as Y R R (LN (E.ret ?_)))))))))
     obtain rfl := oi hm
     exact X.rt (.inl R) Tryz.results20 (Rs.tmp R (Rs.tmp R (Rs.tmp R Rs.nil))) R ⟨_, (s173).ren N (fun k => cond (Nat.beq k 6) u0 (cond (Nat.beq k 5) u1 (0))), R, R, m0.ren hNb, ⟨a171, c171, a169, c169, R, (h171.ren hN), (h169.ren hN)⟩⟩
    intro K174
    refine E.iter (fun (st167 : Int × List Int × List (List Int)) (e : List (Nat × Value)) (w : World) => ∃ (s172 : Sig) (a128 : Option Addr) (c128 : Nat) (a130 : Option Addr) (c130 : Nat), Mv (Up N No) s s172 ∧ RdL (rL qI) s172 a12 c12 r9.1 ∧ RowT rB s172 (N + 3) 4 (some ⟨b62, 0, none⟩) x61.length o122 ∧ RowT rB s172 (N + 2) 4 (some ⟨b55, 0, none⟩) x54.length o105 ∧ RowT qI s172 (N + 5) 3 a128 c128 st167.2.1 ∧ RowT (rL qI) s172 (N + 6) 27 a130 c130 st167.2.2 ∧ e = [(97, .int .i64 st167.1), (96, .int .i64 (r9.1.length : Int)), (95, .slice a12 r9.1.length c12), (12, .slice (some ⟨b62, 0, none⟩) o122.length x61.length), (11, .slice (some ⟨b55, 0, none⟩) o105.length x54.length), (3, .slice a128 st167.2.1.length c128), (2, .slice a130 st167.2.2.length c130)] ∧ w = s172.w) eo167 ⟨s125, none, 0, none, 0, m0, h12, h62, h55, RowT.nil, RowT.nil, R, R⟩ (Sub.rf R) ?_
    rintro st167 res167 hm ih167 ho167 _ _ ⟨s172, a128, c128, a130, c130, m0, h12, h62, h55, h128, h130, rfl, rfl⟩
    unfold m_blocking_Traps_l4 at hm
    refine ER (L.bi Y R R R R (LN (E.seq ?_)))
    rcases ifS hm with ⟨hc, hm⟩ | ⟨hc, hm⟩
    ·refine E.cT R hc (E.skip (X.seqN (E.seqJ (fun e w => ∃ (s179 : Sig) (l175 : List Int) (l177 : List (List Int)) (a176 : Option Addr) (c176 : Nat) (a178 : Option Addr) (c178 : Nat), m_blocking_Traps_j1 st167 l175 l177 = some res167 ∧ Mv (Up N No) s s179 ∧ RdL (rL qI) s179 a12 c12 r9.1 ∧ RowT rB s179 (N + 3) 4 (some ⟨b62, 0, none⟩) x61.length o122 ∧ RowT rB s179 (N + 2) 4 (some ⟨b55, 0, none⟩) x54.length o105 ∧ RowT qI s179 (N + 5) 3 a176 c176 l175 ∧ RowT (rL qI) s179 (N + 6) 27 a178 c178 l177 ∧ e = [(97, .int .i64 st167.1), (96, .int .i64 (r9.1.length : Int)), (95, .slice a12 r9.1.length c12), (12, .slice (some ⟨b62, 0, none⟩) o122.length x61.length), (11, .slice (some ⟨b55, 0, none⟩) o105.length x54.length), (3, .slice a176 l175.length c176), (2, .slice a178 l177.length c178)] ∧ w = s179.w) ?_ ?_)))
     ·rintro _ _ ⟨s179, l175, l177, a176, c176, a178, c178, hm, m0, h12, h62, h55, h176, h178, rfl, rfl⟩
      unfold m_blocking_Traps_j1 at hm
      exact E.reg (L.bi Y R R R R (L.mv Y R R (L.nil (X.sub (ih167 _ (oi hm).symm _ _ ⟨s179, a176, c176, a178, c178, m0, h12, h62, h55, h176, h178, R, R⟩) (Sub.rf R)))))
     intro Jj180
     refine E.block (ER (L.mv Y R R ?_))
     obtain ⟨x181, ex181, hm⟩ := bindS hm
     refine L.ix (r := (rL qI)) sl46 h12 Y R R ex181 R fun b182 o182 cc182 me182 rd182 => ?_
     obtain ⟨a183, c183, rfl, h183⟩ := rd182
     refine L.ld (j := 0) me182 nag27 Y R R R R (L.as Y R R (L.as Y R R (LN (E.seq (ER (L.mv Y R R (L.mv Y R R ?_)))))))
     obtain ⟨x184, ex184, hm⟩ := bindS hm
     refine L.ir (r := rB) sl55 h55 Y R R ex184 R fun b185 o185 cc185 me185 rd185 sp185 => ?_
     obtain rfl := rd185
     refine L.ld (j := 0) me185 nag4 Y R R R R (L.nil (X.seqN ?_))
     rcases ifS hm with ⟨hc, hm⟩ | ⟨hc, hm⟩
     ·exact E.cT R hc (E.exit (X.seqX (X.blkE (X.sub (Jj180 _ _ ⟨s172, st167.2.1, st167.2.2, a128, c128, a130, c130, hm, m0, h12, h62, h55, h128, h130, R, R⟩) (Sub.rf R)))))
     refine E.cF R hc (E.skip (X.seqN (E.seqJ (fun e w => ∃ (s188 : Sig) (l186 : List Int) (a187 : Option Addr) (c187 : Nat), m_blocking_Traps_j2 st167 x181 l186 = some res167 ∧ Mv (Up N No) s s188 ∧ RowT qI s188 (N + 5) 3 a187 c187 l186 ∧ RdL qI s188 a183 c183 x181 ∧ RdL (rL qI) s188 a12 c12 r9.1 ∧ RowT rB s188 (N + 3) 4 (some ⟨b62, 0, none⟩) x61.length o122 ∧ RowT rB s188 (N + 2) 4 (some ⟨b55, 0, none⟩) x54.length o105 ∧ RowT (rL qI) s188 (N + 6) 27 a130 c130 st167.2.2 ∧ e = [(3, .slice a187 l186.length c187), (18, .slice a183 x181.length c183), (97, .int .i64 st167.1), (96, .int .i64 (r9.1.length : Int)), (95, .slice a12 r9.1.length c12), (12, .slice (some ⟨b62, 0, none⟩) o122.length x61.length), (11, .slice (some ⟨b55, 0, none⟩) o105.length x54.length), (2, .slice a130 st167.2.2.length c130)] ∧ w = s188.w) ?_ ?_)))
     ·rintro _ _ ⟨s188, l186, a187, c187, hm, m0, h187, h183, h12, h62, h55, h130, rfl, rfl⟩
      unfold m_blocking_Traps_j2 at hm
      refine E.reg (L.mv Y R R (L.mv Y R R (L.bsE (k := 1) (cs := [.slice a183 x181.length c183]) 0 bs46 (nb R) Y R R R R fun b190 s191 m192 bx190 => ?_)))
      replace h130 := h130.mv m192 no_No no_No
      replace h183 := h183.mono m192.z
      have h190 := Bx.rdL (r := (rL qI)) (xs := ([x181] : List (List Int))) bx190 ⟨[.slice a183 x181.length c183], _, R, ⟨_, _, R, h183⟩, R⟩ (nb R)
      obtain ⟨x193, ex193, hm⟩ := bindS hm
      refine L.ap (r := (rL qI)) Tryz.underlying46 el27 R (tgp hN) h130 h190.wk Y R R ex193 R fun a194 c194 s195 m196 h194 => ?_
      replace m0 := (m0.trans m192.no).trans (m196.one up)
      replace h187 := (h187.mv m192 no_No no_No).mv m196 (tq R) (tg0 hN)
      replace h55 := (h55.mv m192 no_No no_No).mv m196 (tq R) (tg0 hN)
      replace h62 := (h62.mv m192 no_No no_No).mv m196 (tq R) (tg0 hN)
      replace h12 := (h12.mono m192.z).mono (m196.le (tg0 hN))
      exact L.as Y R R (L.nil (X.blkN (X.sub (Jj180 _ _ ⟨s195, l186, x193, a187, c187, a194, c194, hm, m0, h12, h62, h55, h187, h194, R, R⟩) (Sub.rf R))))
     intro Jj189
     refine ER (L.mv Y R R (L.mv Y R R ?_))
     obtain ⟨x197, ex197, hm⟩ := bindS hm
     refine L.ir (r := rB) sl55 h62 Y R R ex197 R fun b198 o198 cc198 me198 rd198 sp198 => ?_
     obtain rfl := rd198
     refine L.ld (j := 0) me198 nag4 Y R R R R (L.not Y R R (L.nil (X.seqN ?_)))
     rcases ifS hm with ⟨hc, hm⟩ | ⟨hc, hm⟩
     ·refine E.cT R hc (E.reg (L.mv Y R R (L.mv Y R R (L.len sl46 Y R R (L.bsE (k := 1) (cs := [.int .i64 (st167.2.2.length : Int)]) 0 bs27 (nb R) Y R R R R fun b199 s200 m201 bx199 => ?_)))))
      replace h128 := h128.mv m201 no_No no_No
      have h199 := Bx.rdL (r := qI) (xs := ([(st167.2.2.length : Int)] : List Int)) bx199 ⟨[.int .i64 (st167.2.2.length : Int)], _, R, R, R⟩ (nb R)
      obtain ⟨x202, ex202, hm⟩ := bindS hm
      refine L.ap (r := qI) Tryz.underlying27 el3 R (tgp hN) h128 h199.wk Y R R ex202 R fun a203 c203 s204 m205 h203 => ?_
      replace m0 := (m0.trans m201.no).trans (m205.one up)
      replace h130 := (h130.mv m201 no_No no_No).mv m205 (tq R) (tg0 hN)
      replace h55 := (h55.mv m201 no_No no_No).mv m205 (tq R) (tg0 hN)
      replace h62 := (h62.mv m201 no_No no_No).mv m205 (tq R) (tg0 hN)
      replace h183 := (h183.mono m201.z).mono (m205.le (tg0 hN))
      replace h12 := (h12.mono m201.z).mono (m205.le (tg0 hN))
      exact L.as Y R R (L.nil (X.sub (Jj189 _ _ ⟨s204, x202, a203, c203, hm, m0, h203, h183, h12, h62, h55, h130, R, R⟩) (Sub.rf R)))
     exact E.cF R hc (E.skip (X.sub (Jj189 _ _ ⟨s172, st167.2.1, a128, c128, hm, m0, h128, h183, h12, h62, h55, h130, R, R⟩) (Sub.rf R)))
    refine E.cF R hc (E.exit (X.seqX (X.seqX ?_)))
    have hx := ho167 _ (oi hm).symm
    subst hx
    exact X.sub (K174 _ _ ⟨s172, a128, c128, a130, c130, m0, h128, h130, R, R⟩) (Sub.rf R)
   intro K206
   refine E.iter (fun (st122 : Int × List Bool) (e : List (Nat × Value)) (w : World) => ∃ (s124 : Sig), Mv (Up N No) s s124 ∧ RdL qI s124 a2 c2 p0.2.2.1 ∧ RowT rB s124 (N + 3) 4 (some ⟨b62, 0, none⟩) x61.length st122.2 ∧ RowT rB s124 (N + 2) 4 (some ⟨b55, 0, none⟩) x54.length o105 ∧ RowT qI s124 (N + 1) 3 (some ⟨b14, 0, none⟩) x13.length o47 ∧ RdL (rL qI) s124 a12 c12 r9.1 ∧ e = [(84, .int .i64 st122.1), (83, .int .i64 (p0.2.2.1.length : Int)), (82, .slice a2 p0.2.2.1.length c2), (12, .slice (some ⟨b62, 0, none⟩) st122.2.length x61.length), (11, .slice (some ⟨b55, 0, none⟩) o105.length x54.length), (6, .slice (some ⟨b14, 0, none⟩) o47.length x13.length), (5, .slice a12 r9.1.length c12), (3, .slice none 0 0), (2, .slice none 0 0)] ∧ w = s124.w) eo122 ⟨s108, m0, h2, h62, h55, h14, h12, R, R⟩ (Sub.rf R) ?_
   rintro st122 res122 hm ih122 ho122 _ _ ⟨s124, m0, h2, h62, h55, h14, h12, rfl, rfl⟩
   unfold m_blocking_Traps_l3 at hm
   refine ER (L.bi Y R R R R (LN (E.seq ?_)))
   rcases ifS hm with ⟨hc, hm⟩ | ⟨hc, hm⟩
   ·refine E.cT R hc (E.skip (X.seqN (E.seq (E.block (E.seq (E.reg ?_))))))
    obtain ⟨x207, ex207, hm⟩ := bindS hm
    refine L.ix (r := qI) sl27 h2 Y R R ex207 R fun b208 o208 cc208 me208 rd208 => ?_
    obtain rfl := rd208
    refine L.ld (j := 0) me208 nag3 Y R R R R (L.as Y R R (LN (E.reg (L.mv Y R R (L.mv Y R R (L.mv Y R R ?_))))))
    obtain ⟨x209, ex209, hm⟩ := bindS hm
    refine L.ir (r := qI) sl27 h14 Y R R ex209 R fun b210 o210 cc210 me210 rd210 sp210 => ?_
    obtain rfl := rd210
    refine L.ld (j := 0) me210 nag3 Y R R R R ?_
    obtain ⟨x211, ex211, hm⟩ := bindS hm
    refine L.ir (r := rB) sl55 h62 Y R R ex211 R fun b212 o212 cc212 me212 rd212 sp212 => ?_
    obtain rfl := rd212
    obtain ⟨x213, ex213, hm⟩ := bindS hm
    have elx213 := upd_len ex213
    refine L.su (fo := 0) (c := [.bool true]) (z := true) h62 sp212 ex211 ex213 (tgp hN) nag4.sz Y R R R R R R (fun c0 hc0 => by obtain rfl := hc0; exact R) fun s214 m215 h62 => ?_
    replace m0 := m0.trans (m215.one up)
    replace h12 := h12.mono (m215.le (tg0 hN))
    replace h14 := h14.mv m215 (tq R) (tg0 hN)
    replace h55 := h55.mv m215 (tq R) (tg0 hN)
    replace h2 := h2.mono (m215.le (tg0 hN))
    exact L.reval (d := 12) R elx213 (L.nil (X.blkN (X.seqN (E.reg (L.bi Y R R R R (L.mv Y R R (L.nil (X.sub (ih122 _ (oi hm).symm _ _ ⟨s214, m0, h2, h62, h55, h14, h12, R, R⟩) (Sub.rf R)))))))))
   refine E.cF R hc (E.exit (X.seqX (X.seqX ?_)))
   have hx := ho122 _ (oi hm).symm
   subst hx
   exact X.sub (K206 _ _ ⟨s124, m0, h62, h55, h12, R, R⟩) (Sub.rf R)
  intro K216
  refine E.iter (fun (st105 : Int × List Bool) (e : List (Nat × Value)) (w : World) => ∃ (s107 : Sig), Mv (Up N No) s s107 ∧ RdL qT s107 a3 c3 p0.2.2.2 ∧ RowT rB s107 (N + 3) 4 (some ⟨b62, 0, none⟩) x61.length x61 ∧ RowT rB s107 (N + 2) 4 (some ⟨b55, 0, none⟩) x54.length st105.2 ∧ RowT qI s107 (N + 1) 3 (some ⟨b14, 0, none⟩) x13.length o47 ∧ RdL (rL qI) s107 a12 c12 r9.1 ∧ RdL qI s107 a1 c1 p0.1 ∧ RdL qI s107 a2 c2 p0.2.2.1 ∧ Bx s107 (N + 0) b6 #[.slice a1 p0.1.length c1, .int .i64 p0.2.1, .slice a2 p0.2.2.1.length c2, .slice a3 p0.2.2.2.length c3] 30 ∧ e = [(58, .int .i64 st105.1), (57, .int .i64 (p0.2.2.2.length : Int)), (56, .slice a3 p0.2.2.2.length c3), (12, .slice (some ⟨b62, 0, none⟩) x61.length x61.length), (11, .slice (some ⟨b55, 0, none⟩) st105.2.length x54.length), (6, .slice (some ⟨b14, 0, none⟩) o47.length x13.length), (5, .slice a12 r9.1.length c12), (3, .slice none 0 0), (2, .slice none 0 0), (1, .pointer (some ⟨b6, 0, none⟩))] ∧ w = s107.w) eo105 ⟨s67, m0, h3, h62, h55, h14, h12, h1, h2, bx6, R, R⟩ (Sub.rf R) ?_
  rintro st105 res105 hm ih105 ho105 _ _ ⟨s107, m0, h3, h62, h55, h14, h12, h1, h2, bx6, rfl, rfl⟩
  unfold m_blocking_Traps_l2 at hm
  refine ER (L.bi Y R R R R (LN (E.seq ?_)))
  rcases ifS hm with ⟨hc, hm⟩ | ⟨hc, hm⟩
  ·refine E.cT R hc (E.skip (X.seqN (E.seqJ (fun e w => ∃ (s218 : Sig) (l217 : List Bool), m_blocking_Traps_j3 st105 l217 = some res105 ∧ Mv (Up N No) s s218 ∧ RowT rB s218 (N + 2) 4 (some ⟨b55, 0, none⟩) x54.length l217 ∧ RdL qT s218 a3 c3 p0.2.2.2 ∧ RowT rB s218 (N + 3) 4 (some ⟨b62, 0, none⟩) x61.length x61 ∧ RowT qI s218 (N + 1) 3 (some ⟨b14, 0, none⟩) x13.length o47 ∧ RdL (rL qI) s218 a12 c12 r9.1 ∧ RdL qI s218 a1 c1 p0.1 ∧ RdL qI s218 a2 c2 p0.2.2.1 ∧ Bx s218 (N + 0) b6 #[.slice a1 p0.1.length c1, .int .i64 p0.2.1, .slice a2 p0.2.2.1.length c2, .slice a3 p0.2.2.2.length c3] 30 ∧ e = [(11, .slice (some ⟨b55, 0, none⟩) l217.length x54.length), (58, .int .i64 st105.1), (57, .int .i64 (p0.2.2.2.length : Int)), (56, .slice a3 p0.2.2.2.length c3), (12, .slice (some ⟨b62, 0, none⟩) x61.length x61.length), (6, .slice (some ⟨b14, 0, none⟩) o47.length x13.length), (5, .slice a12 r9.1.length c12), (3, .slice none 0 0), (2, .slice none 0 0), (1, .pointer (some ⟨b6, 0, none⟩))] ∧ w = s218.w) ?_ ?_)))
   ·rintro _ _ ⟨s218, l217, hm, m0, h55, h3, h62, h14, h12, h1, h2, bx6, rfl, rfl⟩
    unfold m_blocking_Traps_j3 at hm
    exact E.reg (L.bi Y R R R R (L.mv Y R R (L.nil (X.sub (ih105 _ (oi hm).symm _ _ ⟨s218, m0, h3, h62, h55, h14, h12, h1, h2, bx6, R, R⟩) (Sub.rf R)))))
   intro Jj219
   refine E.block (E.seq (E.reg ?_))
   obtain ⟨x220, ex220, hm⟩ := bindS hm
   refine L.ix (r := qT) sl28 h3 Y R R ex220 R fun b221 o221 cc221 me221 rd221 => ?_
   obtain ⟨_, _, rfl, rfl, ⟨_, _, rfl, rfl, rfl⟩⟩ := rd221
   refine L.lg (j := 0) (cs := [.int .i64 x220.1, .int .i64 x220.2.1, .int .i64 x220.2.2]) me221 ag62 Y R R R R R (L.al (N + 4) zz62 R Y R fun b222 s223 m224 bx222 => ?_)
   refine L.st (c := [.int .i64 x220.1, .int .i64 x220.2.1, .int .i64 x220.2.2]) (cs' := #[.int .i64 x220.1, .int .i64 x220.2.1, .int .i64 x220.2.2]) bx222 ag62.sz Y R R R R R (nb R) R fun s225 m226 bx222 => ?_
   replace m0 := (m0.trans m224.no).trans (m226.one up)
   replace h12 := (h12.mono m224.z).mono (m226.le (tg0 hN))
   replace h14 := (h14.mv m224 no_No no_No).mv m226 (tq R) (tg0 hN)
   replace h55 := (h55.mv m224 no_No no_No).mv m226 (tq R) (tg0 hN)
   replace h62 := (h62.mv m224 no_No no_No).mv m226 (tq R) (tg0 hN)
   replace h3 := (h3.mono m224.z).mono (m226.le (tg0 hN))
   replace bx6 := (bx6.mv m224 no_No).mv m226 (tq R)
   replace h1 := (h1.mono m224.z).mono (m226.le (tg0 hN))
   replace h2 := (h2.mono m224.z).mono (m226.le (tg0 hN))
   refine LN (E.seq ?_)
   obtain ⟨x231, ex231, hm⟩ := bindS hm
   obtain ⟨x238, ex238, hm⟩ := bindS hm
   refine E.draw m_blocking_Traps_w1 (fun D e sx => Mv No s225 sx ∧ Sub [(14, .pointer (some ⟨b222, 0, none⟩)), (58, .int .i64 st105.1), (57, .int .i64 (p0.2.2.2.length : Int)), (56, .slice a3 p0.2.2.2.length c3), (12, .slice (some ⟨b62, 0, none⟩) x61.length x61.length), (11, .slice (some ⟨b55, 0, none⟩) st105.2.length x54.length), (6, .slice (some ⟨b14, 0, none⟩) o47.length x13.length), (5, .slice a12 r9.1.length c12), (3, .slice none 0 0), (2, .slice none 0 0), (1, .pointer (some ⟨b6, 0, none⟩))] e ∧ AllP [G D e 0 62 (.slice (some ⟨b14, 0, none⟩) o47.length x13.length), G D e 1 63 (.pointer (some ⟨b222, 0, none⟩)), G D e 2 64 (.int .i64 x220.1), D 3 = true → (∃ (b232 : Nat) (o232 : Nat), Env.get e 65 = some (.pointer (some ⟨b232, o232, none⟩)) ∧ Mem sx (N + 1) b232 o232 [.int .i64 x231] ∧ Spot (some ⟨b14, 0, none⟩) qI.sz (x220.1).toNat b232 o232), G D e 4 66 (.int .i64 x231), G D e 5 67 (.slice (some ⟨b14, 0, none⟩) o47.length x13.length), G D e 6 68 (.pointer (some ⟨b222, 2, none⟩)), G D e 7 69 (.int .i64 x220.2.2), D 8 = true → (∃ (b239 : Nat) (o239 : Nat), Env.get e 70 = some (.pointer (some ⟨b239, o239, none⟩)) ∧ Mem sx (N + 1) b239 o239 [.int .i64 x238] ∧ Spot (some ⟨b14, 0, none⟩) qI.sz (x220.2.2).toNat b239 o239), G D e 9 71 (.int .i64 x238), G D e 10 72 (.bool (x231 != x238))]) (by kernel_rfl) (by kernel_rfl) (by kernel_rfl) ?_ ?_ ?_
   ·intro sz mz
    exact ⟨mz, (Sub.rf R), nofun, nofun, nofun, nofun, nofun, nofun, nofun, nofun, nofun, nofun, nofun, trivial⟩
   ·refine ⟨?_, ?_, ?_, ?_, ?_, ?_, ?_, ?_, ?_, ?_, ?_, trivial⟩
    ·rintro D e s227 ⟨im, ib, i⟩ hk hf ha
     have kn := K1 (ib 6 _ R)
     exact kn.g (L.mv Y R R (L.nil (X.dk kn ⟨im, Sub.fresh ib R, i.u 0 (fun _ => R)⟩)))
    ·rintro D e s228 ⟨im, ib, i⟩ hk hf ha
     have kn := K1 (ib 14 _ R)
     exact kn.g (L.fa fa62_0 Y R R (L.nil (X.dk kn ⟨im, Sub.fresh ib R, i.u 1 (fun _ => R)⟩)))
    ·rintro D e s229 ⟨im, ib, i⟩ hk hf ha
     have bx222 := bx222.mv im no_No
     have kn := K1 ((i.p 1) (ha.at 1 R))
     exact kn.g (L.ld (j := 0) bx222.mem nag3 Y R R R R (L.nil (X.dk kn ⟨im, Sub.fresh ib R, i.u 2 (fun _ => R)⟩)))
    ·rintro D e s230 ⟨im, ib, i⟩ hk hf ha
     have h14 := h14.mv im no_No no_No
     have kn := K2 ((i.p 0) (ha.at 0 R)) ((i.p 2) (ha.at 2 R))
     refine kn.g (L.ir (r := qI) sl27 h14 Y R R ex231 R fun b232 o232 cc232 me232 rd232 sp232 => ?_)
     obtain rfl := rd232
     exact L.nil (X.dk kn ⟨im, Sub.fresh ib R, i.u 3 (fun _ => ⟨b232, o232, R, me232, sp232⟩)⟩)
    ·rintro D e s233 ⟨im, ib, i⟩ hk hf ha
     obtain ⟨b232, o232, g3_, me232, sp232⟩ := (i.p 3) (ha.at 3 R)
     have kn := K1 g3_
     exact kn.g (L.ld (j := 0) me232 nag3 Y R R R R (L.nil (X.dk kn ⟨im, Sub.fresh ib R, i.u 4 (fun _ => R)⟩)))
    ·rintro D e s234 ⟨im, ib, i⟩ hk hf ha
     have kn := K1 (ib 6 _ R)
     exact kn.g (L.mv Y R R (L.nil (X.dk kn ⟨im, Sub.fresh ib R, i.u 5 (fun _ => R)⟩)))
    ·rintro D e s235 ⟨im, ib, i⟩ hk hf ha
     have kn := K1 (ib 14 _ R)
     exact kn.g (L.fa fa62_2 Y R R (L.nil (X.dk kn ⟨im, Sub.fresh ib R, i.u 6 (fun _ => R)⟩)))
    ·rintro D e s236 ⟨im, ib, i⟩ hk hf ha
     have bx222 := bx222.mv im no_No
     have kn := K1 ((i.p 6) (ha.at 6 R))
     exact kn.g (L.ld (j := 2) bx222.mem nag3 Y R R R R (L.nil (X.dk kn ⟨im, Sub.fresh ib R, i.u 7 (fun _ => R)⟩)))
    ·rintro D e s237 ⟨im, ib, i⟩ hk hf ha
     have h14 := h14.mv im no_No no_No
     have kn := K2 ((i.p 5) (ha.at 5 R)) ((i.p 7) (ha.at 7 R))
     refine kn.g (L.ir (r := qI) sl27 h14 Y R R ex238 R fun b239 o239 cc239 me239 rd239 sp239 => ?_)
     obtain rfl := rd239
     exact L.nil (X.dk kn ⟨im, Sub.fresh ib R, i.u 8 (fun _ => ⟨b239, o239, R, me239, sp239⟩)⟩)
    ·rintro D e s240 ⟨im, ib, i⟩ hk hf ha
     obtain ⟨b239, o239, g8_, me239, sp239⟩ := (i.p 8) (ha.at 8 R)
     have kn := K1 g8_
     exact kn.g (L.ld (j := 0) me239 nag3 Y R R R R (L.nil (X.dk kn ⟨im, Sub.fresh ib R, i.u 9 (fun _ => R)⟩)))
    rintro D e s241 ⟨im, ib, i⟩ hk hf ha
    have kn := K2 ((i.p 4) (ha.at 4 R)) ((i.p 9) (ha.at 9 R))
    exact kn.g (L.bi Y R R R R (L.nil (X.dk kn ⟨im, Sub.fresh ib R, i.u 10 (fun _ => R)⟩)))
   rintro D e s242 hD ⟨im, ib, i⟩
   have g10_ := (i.p 10) (hD 10 R)
   have bx222 := bx222.mv im no_No
   have h3 := h3.mono im.z
   have h62 := h62.mv im no_No no_No
   have h55 := h55.mv im no_No no_No
   have h14 := h14.mv im no_No no_No
   have h12 := h12.mono im.z
   have bx6 := bx6.mv im no_No
   have h1 := h1.mono im.z
   have h2 := h2.mono im.z
   have m0 := m0.trans im.no
   refine X.sub (e' := [(72, .bool (x231 != x238)), (14, .pointer (some ⟨b222, 0, none⟩)), (58, .int .i64 st105.1), (57, .int .i64 (p0.2.2.2.length : Int)), (56, .slice a3 p0.2.2.2.length c3), (12, .slice (some ⟨b62, 0, none⟩) x61.length x61.length), (11, .slice (some ⟨b55, 0, none⟩) st105.2.length x54.length), (6, .slice (some ⟨b14, 0, none⟩) o47.length x13.length), (5, .slice a12 r9.1.length c12), (3, .slice none 0 0), (2, .slice none 0 0), (1, .pointer (some ⟨b6, 0, none⟩))]) ?_ (Sub.cons g10_ (Sub.cons (ib 14 _ R) (Sub.cons (ib 58 _ R) (Sub.cons (ib 57 _ R) (Sub.cons (ib 56 _ R) (Sub.cons (ib 12 _ R) (Sub.cons (ib 11 _ R) (Sub.cons (ib 6 _ R) (Sub.cons (ib 5 _ R) (Sub.cons (ib 3 _ R) (Sub.cons (ib 2 _ R) (Sub.cons (ib 1 _ R) Sub.nil))))))))))))
   refine X.seqN ?_
   rcases ifS hm with ⟨hc, hm⟩ | ⟨hc, hm⟩
   ·refine E.cT R hc (E.reg (L.mv Y R R (L.mv Y R R (L.fa fa62_0 Y R R (L.ld (j := 0) bx222.mem nag3 Y R R R R ?_)))))
    obtain ⟨x243, ex243, hm⟩ := bindS hm
    refine L.ir (r := qI) sl27 h14 Y R R ex243 R fun b244 o244 cc244 me244 rd244 sp244 => ?_
    obtain rfl := rd244
    refine L.ld (j := 0) me244 nag3 Y R R R R ?_
    obtain ⟨x245, ex245, hm⟩ := bindS hm
    refine L.ir (r := rB) sl55 h55 Y R R ex245 R fun b246 o246 cc246 me246 rd246 sp246 => ?_
    obtain rfl := rd246
    obtain ⟨x247, ex247, hm⟩ := bindS hm
    have elx247 := upd_len ex247
    refine L.su (fo := 0) (c := [.bool true]) (z := true) h55 sp246 ex245 ex247 (tgp hN) nag4.sz Y R R R R R R (fun c0 hc0 => by obtain rfl := hc0; exact R) fun s248 m249 h55 => ?_
    replace m0 := m0.trans (m249.one up)
    replace h12 := h12.mono (m249.le (tg0 hN))
    replace h14 := h14.mv m249 (tq R) (tg0 hN)
    replace h62 := h62.mv m249 (tq R) (tg0 hN)
    replace h3 := h3.mono (m249.le (tg0 hN))
    replace bx6 := bx6.mv m249 (tq R)
    replace h1 := h1.mono (m249.le (tg0 hN))
    replace h2 := h2.mono (m249.le (tg0 hN))
    exact L.reval (d := 11) R elx247 (L.nil (X.blkN (X.sub (Jj219 _ _ ⟨s248, x247, hm, m0, h55, h3, h62, h14, h12, h1, h2, bx6, R, R⟩) (Sub.rf R))))
   exact E.cF R hc (E.skip (X.blkN (X.sub (Jj219 _ _ ⟨s242, st105.2, hm, m0, h55, h3, h62, h14, h12, h1, h2, bx6, R, R⟩) (Sub.rf R))))
  refine E.cF R hc (E.exit (X.seqX (X.seqX ?_)))
  have hx := ho105 _ (oi hm).symm
  subst hx
  exact X.sub (K216 _ _ ⟨s107, m0, h62, h55, h14, h12, h1, h2, h3, bx6, R, R⟩) (Sub.rf R)
 intro K250
 refine E.iter (fun (st47 : Int × List Int) (e : List (Nat × Value)) (w : World) => ∃ (s49 : Sig), Mv (Up N No) s s49 ∧ RdL (rL qI) s49 a12 c12 r9.1 ∧ RowT qI s49 (N + 1) 3 (some ⟨b14, 0, none⟩) x13.length st47.2 ∧ RdL qI s49 a1 c1 p0.1 ∧ RdL qI s49 a2 c2 p0.2.2.1 ∧ RdL qT s49 a3 c3 p0.2.2.2 ∧ Bx s49 (N + 0) b6 #[.slice a1 p0.1.length c1, .int .i64 p0.2.1, .slice a2 p0.2.2.1.length c2, .slice a3 p0.2.2.2.length c3] 30 ∧ e = [(32, .int .i64 st47.1), (31, .int .i64 (r9.1.length : Int)), (30, .slice a12 r9.1.length c12), (6, .slice (some ⟨b14, 0, none⟩) st47.2.length x13.length), (5, .slice a12 r9.1.length c12), (3, .slice none 0 0), (2, .slice none 0 0), (1, .pointer (some ⟨b6, 0, none⟩))] ∧ w = s49.w) eo47 ⟨s15, m0, h12, h14, h1, h2, h3, bx6, R, R⟩ (Sub.rf R) ?_
 rintro st47 res47 hm ih47 ho47 _ _ ⟨s49, m0, h12, h14, h1, h2, h3, bx6, rfl, rfl⟩
 unfold m_blocking_Traps_l1 at hm
 refine ER (L.bi Y R R R R (LN (E.seq ?_)))
 rcases ifS hm with ⟨hc, hm⟩ | ⟨hc, hm⟩
 ·refine E.cT R hc (E.skip (X.seqN (E.seq (E.block (ER (L.mv Y R R ?_))))))
  obtain ⟨x251, ex251, hm⟩ := bindS hm
  refine L.ix (r := (rL qI)) sl46 h12 Y R R ex251 R fun b252 o252 cc252 me252 rd252 => ?_
  obtain ⟨a253, c253, rfl, h253⟩ := rd252
  refine L.ld (j := 0) me252 nag27 Y R R R R (L.as Y R R (L.as Y R R (LN (ER (L.mv Y R R (L.len sl27 Y R R (L.mv Y R R (LN (E.block ?_)))))))))
  obtain ⟨o265, eo265, hm⟩ := bindS hm
  refine E.cut (x := .exit 2) (fun e w => ∃ (s268 : Sig), Mv (Up N No) s s268 ∧ RdL (rL qI) s268 a12 c12 r9.1 ∧ RowT qI s268 (N + 1) 3 (some ⟨b14, 0, none⟩) x13.length o265 ∧ RdL qI s268 a1 c1 p0.1 ∧ RdL qI s268 a2 c2 p0.2.2.1 ∧ RdL qT s268 a3 c3 p0.2.2.2 ∧ Bx s268 (N + 0) b6 #[.slice a1 p0.1.length c1, .int .i64 p0.2.1, .slice a2 p0.2.2.1.length c2, .slice a3 p0.2.2.2.length c3] 30 ∧ e = [(32, .int .i64 st47.1), (31, .int .i64 (r9.1.length : Int)), (30, .slice a12 r9.1.length c12), (6, .slice (some ⟨b14, 0, none⟩) o265.length x13.length), (5, .slice a12 r9.1.length c12), (3, .slice none 0 0), (2, .slice none 0 0), (1, .pointer (some ⟨b6, 0, none⟩))] ∧ w = s268.w) ?_ ?_
  ·rintro _ _ ⟨s268, m0, h12, h14, h1, h2, h3, bx6, rfl, rfl⟩
   exact X.blkE (X.blkN (X.seqN (E.reg (L.bi Y R R R R (L.mv Y R R (L.nil (X.sub (ih47 _ (oi hm).symm _ _ ⟨s268, m0, h12, h14, h1, h2, h3, bx6, R, R⟩) (Sub.rf R))))))))
  intro K269
  refine E.iter (fun (st265 : Int × List Int) (e : List (Nat × Value)) (w : World) => ∃ (s267 : Sig), Mv (Up N No) s s267 ∧ RdL qI s267 a253 c253 x251 ∧ RdL (rL qI) s267 a12 c12 r9.1 ∧ RowT qI s267 (N + 1) 3 (some ⟨b14, 0, none⟩) x13.length st265.2 ∧ RdL qI s267 a1 c1 p0.1 ∧ RdL qI s267 a2 c2 p0.2.2.1 ∧ RdL qT s267 a3 c3 p0.2.2.2 ∧ Bx s267 (N + 0) b6 #[.slice a1 p0.1.length c1, .int .i64 p0.2.1, .slice a2 p0.2.2.1.length c2, .slice a3 p0.2.2.2.length c3] 30 ∧ e = [(39, .int .i64 st265.1), (38, .int .i64 (x251.length : Int)), (37, .slice a253 x251.length c253), (7, .int .i64 st47.1), (32, .int .i64 st47.1), (31, .int .i64 (r9.1.length : Int)), (30, .slice a12 r9.1.length c12), (6, .slice (some ⟨b14, 0, none⟩) st265.2.length x13.length), (5, .slice a12 r9.1.length c12), (3, .slice none 0 0), (2, .slice none 0 0), (1, .pointer (some ⟨b6, 0, none⟩))] ∧ w = s267.w) eo265 ⟨s49, m0, h253, h12, h14, h1, h2, h3, bx6, R, R⟩ (Sub.rf R) ?_
  rintro st265 res265 hm ih265 ho265 _ _ ⟨s267, m0, h253, h12, h14, h1, h2, h3, bx6, rfl, rfl⟩
  unfold m_blocking_Traps_l5 at hm
  refine ER (L.bi Y R R R R (LN (E.seq ?_)))
  rcases ifS hm with ⟨hc, hm⟩ | ⟨hc, hm⟩
  ·refine E.cT R hc (E.skip (X.seqN (E.seq (E.block (E.seq (E.reg ?_))))))
   obtain ⟨x270, ex270, hm⟩ := bindS hm
   refine L.ix (r := qI) sl27 h253 Y R R ex270 R fun b271 o271 cc271 me271 rd271 => ?_
   obtain rfl := rd271
   refine L.ld (j := 0) me271 nag3 Y R R R R (L.as Y R R (LN (E.reg (L.mv Y R R (L.mv Y R R (L.mv Y R R ?_))))))
   obtain ⟨x272, ex272, hm⟩ := bindS hm
   refine L.ir (r := qI) sl27 h14 Y R R ex272 R fun b273 o273 cc273 me273 rd273 sp273 => ?_
   obtain rfl := rd273
   obtain ⟨x274, ex274, hm⟩ := bindS hm
   have elx274 := upd_len ex274
   refine L.su (fo := 0) (c := [.int .i64 st47.1]) (z := st47.1) h14 sp273 ex272 ex274 (tgp hN) nag3.sz Y R R R R R R (fun c0 hc0 => by obtain rfl := hc0; exact R) fun s275 m276 h14 => ?_
   replace m0 := m0.trans (m276.one up)
   replace h253 := h253.mono (m276.le (tg0 hN))
   replace h12 := h12.mono (m276.le (tg0 hN))
   replace bx6 := bx6.mv m276 (tq R)
   replace h1 := h1.mono (m276.le (tg0 hN))
   replace h2 := h2.mono (m276.le (tg0 hN))
   replace h3 := h3.mono (m276.le (tg0 hN))
   exact L.reval (d := 6) R elx274 (L.nil (X.blkN (X.seqN (E.reg (L.bi Y R R R R (L.mv Y R R (L.nil (X.sub (ih265 _ (oi hm).symm _ _ ⟨s275, m0, h253, h12, h14, h1, h2, h3, bx6, R, R⟩) (Sub.rf R)))))))))
  refine E.cF R hc (E.exit (X.seqX (X.seqX ?_)))
  have hx := ho265 _ (oi hm).symm
  subst hx
  exact X.sub (K269 _ _ ⟨s267, m0, h12, h14, h1, h2, h3, bx6, R, R⟩) (Sub.rf R)
 refine E.cF R hc (E.exit (X.seqX (X.seqX ?_)))
 have hx := ho47 _ (oi hm).symm
 subst hx
 exact X.sub (K250 _ _ ⟨s49, m0, h14, h12, h1, h2, h3, bx6, R, R⟩) (Sub.rf R)

noncomputable def m_blocking_Verify_l3 (p1 : List Int) (o43 : List Bool) (o82 : List Bool) (st106 : Int) : Option (Int ⊕ (Unit ⊕ Unit)) :=
 if decide (st106 < (p1.length : Int)) then
  (idx p1 st106).bind fun x114 =>
  (if decide (x114 < 0) then
   some true
  else
   (if (x114 == 0) then
    (idx o43 st106).bind fun x130 =>
    some (!x130)
   else
    some false).bind fun b127 =>
   some b127).bind fun b116 =>
  (if b116 then
   some true
  else
   (if decide (x114 > 0) then
    (idx o82 st106).bind fun x124 =>
    some (!x124)
   else
    some false).bind fun b121 =>
   some b121).bind fun b118 =>
  if b118 then
   some (.inr (.inr (())))
  else
   some (.inl (W (st106 + 1)))
 else
  some (.inr (.inl ()))
noncomputable def m_blocking_Verify_j1 (st82 : Int × List Bool) (l133 : List Bool) : Option ((Int × List Bool) ⊕ (List Bool)) :=
 some (.inl (W (st82.1 + 1), l133))
noncomputable def m_blocking_Verify_l2 (p1 : List Int) (r3 : AutT × List (List Int) × Int) (st82 : Int × List Bool) : Option ((Int × List Bool) ⊕ (List Bool)) :=
 if decide (st82.1 < (r3.1.2.2.2.length : Int)) then
  (idx r3.1.2.2.2 st82.1).bind fun x136 =>
  (idx p1 x136.2.2).bind fun x147 =>
  (idx p1 x136.1).bind fun x154 =>
  if decide (x147 < x154) then
   (idx st82.2 x136.1).bind fun x159 =>
   (upd st82.2 x136.1 true).bind fun x161 =>
   m_blocking_Verify_j1 st82 x161
  else
   m_blocking_Verify_j1 st82 st82.2
 else
  some (.inr st82.2)
noncomputable def m_blocking_Verify_l1 (r3 : AutT × List (List Int) × Int) (st43 : Int × List Bool) : Option ((Int × List Bool) ⊕ (List Bool)) :=
 if decide (st43.1 < (r3.1.2.2.1.length : Int)) then
  (idx r3.1.2.2.1 st43.1).bind fun x165 =>
  (idx st43.2 x165).bind fun x167 =>
  (upd st43.2 x165 true).bind fun x169 =>
  some (.inl (W (st43.1 + 1), x169))
 else
  some (.inr st43.2)
noncomputable def m_blocking_Verify (p0 : List AutT) (p1 : List Int) : Option Int :=
 (m_product_Synchronous p0).bind fun r3 =>
 if (r3.2.2 != 0) then
  some r3.2.2
 else
  if ((p1.length : Int) != r3.1.2.1) then
   some 4
  else
   (mkL r3.1.2.1 false).bind fun x18 =>
   (mkL r3.1.2.1 false).bind fun x25 =>
   (iter (m_blocking_Verify_l1 r3) (0, x18)).bind fun o43 =>
   (iter (m_blocking_Verify_l2 p1 r3) (0, x25)).bind fun o82 =>
   (iter (m_blocking_Verify_l3 p1 o43 o82) 0).bind fun o106 =>
   match o106 with
   | .inl u108 =>
    some 0
   | .inr (u111) =>
    some 24
theorem m_blocking_Verify_c {s : Sig} {p0 : List AutT} {p1 : List Int} {a1 : Option Addr} {c1 : Nat} {a2 : Option Addr} {c2 : Nat} {r : Int} (h1 : RdL (rP (rL qI) (rP qI (rP (rL qI) (rL qT)))) s a1 c1 p0) (h2 : RdL qI s a2 c2 p1) (hm : m_blocking_Verify p0 p1 = some r) :
    Calls Tryz.prog 22 #[.slice a1 p0.length c1, .slice a2 p1.length c2] s.w (RetS No s fun v s' => v = .int .i64 r) := by
 unfold m_blocking_Verify at hm
 obtain ⟨N, hN, hNb⟩ := s.fresh
 have m0 : Mv (Up N No) s s := Mv.refl _ _
 refine E.entry Tryz.func22 R Tryz.ntmps22 R R (ER (L.as Y R R (LN (ER (L.mv Y R R ?_)))))
 obtain ⟨r3, er3, hm⟩ := bindS hm
 refine L.ca cf21 R R Y R (m_product_Synchronous_c (s := s) (p0 := p0) (u1 := 0) (u2 := 0) (u3 := 0) h1 er3) R ?_
 rintro _ s4 m5 ⟨a6, c6, a7, c7, a8, c8, a9, c9, rfl, h6, h7, h8, h9⟩
 replace h9 := h9.p
 refine L.mv Y R R (L.ex Y R R R (L.ex Y R R R (L.ex Y R R R (L.al (N + 0) zz30 R Y R fun b10 s11 m12 bx10 => ?_))))
 refine L.st (c := [.slice a6 r3.1.1.length c6, .int .i64 r3.1.2.1, .slice a7 r3.1.2.2.1.length c7, .slice a8 r3.1.2.2.2.length c8]) (cs' := #[.slice a6 r3.1.1.length c6, .int .i64 r3.1.2.1, .slice a7 r3.1.2.2.1.length c7, .slice a8 r3.1.2.2.2.length c8]) bx10 ag30.sz Y R R R R R (nb R) R fun s13 m14 bx10 => ?_
 replace m0 := ((m0.trans m5.no).trans m12.no).trans (m14.one up)
 replace h2 := ((h2.mono m5.z).mono m12.z).mono (m14.le (tg0 hN))
 replace h6 := (h6.mono m12.z).mono (m14.le (tg0 hN))
 replace h7 := ((h7.p).mono m12.z).mono (m14.le (tg0 hN))
 replace h8 := ((h8.p).mono m12.z).mono (m14.le (tg0 hN))
 refine L.as Y R R (L.as Y R R (LN (E.seq (ER (L.mv Y R R (L.bi Y R R R R (L.nil (X.seqN ?_))))))))
 rcases ifS hm with ⟨hc, hm⟩ | ⟨hc, hm⟩
 ·refine E.cT R hc (ER (L.mv Y R R (L.as Y R R (LN (E.ret (X.seqR ?_))))))
  obtain rfl := oi hm
  exact X.rt (.inl R) Tryz.results22 (Rs.tmp R Rs.nil) R ⟨_, (s13).ren N (fun _ => 0), R, R, m0.ren hNb, R⟩
 refine E.cF R hc (E.skip (X.seqN (E.seq (ER (L.mv Y R R (L.len sl27 Y R R (L.fa fa30_1 Y R R (L.ld (j := 1) bx10.mem nag3 Y R R R R (L.bi Y R R R R (L.nil (X.seqN ?_)))))))))))
 rcases ifS hm with ⟨hc, hm⟩ | ⟨hc, hm⟩
 ·refine E.cT R hc (ER (L.as Y R R (LN (E.ret (X.seqR ?_)))))
  obtain rfl := oi hm
  exact X.rt (.inl R) Tryz.results22 (Rs.tmp R Rs.nil) R ⟨_, (s13).ren N (fun _ => 0), R, R, m0.ren hNb, R⟩
 refine E.cF R hc (E.skip (X.seqN (E.seq ?_)))
 obtain ⟨x18, ex18, hm⟩ := bindS hm
 obtain ⟨x25, ex25, hm⟩ := bindS hm
 refine E.draw m_blocking_Traps_w0 (fun D e sx => Mv No s13 sx ∧ Sub [(5, .pointer (some ⟨b10, 0, none⟩)), (1, .slice a2 p1.length c2)] e ∧ AllP [G D e 0 30 (.pointer (some ⟨b10, 1, none⟩)), G D e 1 31 (.int .i64 r3.1.2.1), D 2 = true → (∃ (b19 : Nat), Env.get e 32 = some (.slice (some ⟨b19, 0, none⟩) x18.length x18.length) ∧ RowT rB sx (N + 1) 4 (some ⟨b19, 0, none⟩) x18.length x18), G D e 3 33 (.pointer (some ⟨b10, 1, none⟩)), G D e 4 34 (.int .i64 r3.1.2.1), D 5 = true → (∃ (b26 : Nat), Env.get e 35 = some (.slice (some ⟨b26, 0, none⟩) x25.length x25.length) ∧ RowT rB sx (N + 2) 4 (some ⟨b26, 0, none⟩) x25.length x25), D 6 = true → ∀ (b19 : Nat), Env.get e 32 = some (.slice (some ⟨b19, 0, none⟩) x18.length x18.length) → (Env.get e 8 = some (.slice (some ⟨b19, 0, none⟩) x18.length x18.length)), D 7 = true → ∀ (b26 : Nat), Env.get e 35 = some (.slice (some ⟨b26, 0, none⟩) x25.length x25.length) → (Env.get e 9 = some (.slice (some ⟨b26, 0, none⟩) x25.length x25.length))]) (by kernel_rfl) (by kernel_rfl) (by kernel_rfl) ?_ ?_ ?_
 ·intro sz mz
  exact ⟨mz, (Sub.rf R), nofun, nofun, nofun, nofun, nofun, nofun, nofun, nofun, trivial⟩
 ·refine ⟨?_, ?_, ?_, ?_, ?_, ?_, ?_, ?_, trivial⟩
  ·rintro D e s15 ⟨im, ib, i⟩ hk hf ha
   have kn := K1 (ib 5 _ R)
   exact kn.g (L.fa fa30_1 Y R R (L.nil (X.dk kn ⟨im, Sub.fresh ib R, i.u 0 (fun _ => R)⟩)))
  ·rintro D e s16 ⟨im, ib, i⟩ hk hf ha
   have bx10 := bx10.mv im no_No
   have kn := K1 ((i.p 0) (ha.at 0 R))
   exact kn.g (L.ld (j := 1) bx10.mem nag3 Y R R R R (L.nil (X.dk kn ⟨im, Sub.fresh ib R, i.u 1 (fun _ => R)⟩)))
  ·rintro D e s17 ⟨im, ib, i⟩ hk hf ha
   have kn := K1 ((i.p 1) (ha.at 1 R))
   exact kn.g (L.mk (z := false) (N + 1) Tryz.underlying55 zr4 R Y R R ex18 R fun b19 s20 m21 h19 => L.nil (X.dk kn ⟨im.trans m21.no, Sub.fresh ib R, ((i.u 2 (fun _ => ⟨b19, R, h19⟩)).u 5 (fun z => let ⟨b26, q, h26⟩ := (i.p 5) z; ⟨b26, q, (h26.mv m21 no_No no_No)⟩)).u 6 (fun z => Bool.noConfusion ((hf 6 (nb R) R).symm.trans z))⟩))
  ·rintro D e s22 ⟨im, ib, i⟩ hk hf ha
   have kn := K1 (ib 5 _ R)
   exact kn.g (L.fa fa30_1 Y R R (L.nil (X.dk kn ⟨im, Sub.fresh ib R, i.u 3 (fun _ => R)⟩)))
  ·rintro D e s23 ⟨im, ib, i⟩ hk hf ha
   have bx10 := bx10.mv im no_No
   have kn := K1 ((i.p 3) (ha.at 3 R))
   exact kn.g (L.ld (j := 1) bx10.mem nag3 Y R R R R (L.nil (X.dk kn ⟨im, Sub.fresh ib R, i.u 4 (fun _ => R)⟩)))
  ·rintro D e s24 ⟨im, ib, i⟩ hk hf ha
   have kn := K1 ((i.p 4) (ha.at 4 R))
   exact kn.g (L.mk (z := false) (N + 2) Tryz.underlying55 zr4 R Y R R ex25 R fun b26 s27 m28 h26 => L.nil (X.dk kn ⟨im.trans m28.no, Sub.fresh ib R, ((i.u 2 (fun z => let ⟨b19, q, h19⟩ := (i.p 2) z; ⟨b19, q, (h19.mv m28 no_No no_No)⟩)).u 5 (fun _ => ⟨b26, R, h26⟩)).u 7 (fun z => Bool.noConfusion ((hf 7 (nb R) R).symm.trans z))⟩))
  ·rintro D e s29 ⟨im, ib, i⟩ hk hf ha
   obtain ⟨b19, g2_, h19⟩ := (i.p 2) (ha.at 2 R)
   have kn := K1 g2_
   exact kn.g (L.as Y R R (L.nil (X.dk kn ⟨im, Sub.fresh ib R, i.u 6 (fun _ _ q2 => by cases g2_.symm.trans q2; exact R)⟩)))
  rintro D e s30 ⟨im, ib, i⟩ hk hf ha
  obtain ⟨b26, g5_, h26⟩ := (i.p 5) (ha.at 5 R)
  have kn := K1 g5_
  exact kn.g (L.as Y R R (L.nil (X.dk kn ⟨im, Sub.fresh ib R, i.u 7 (fun _ _ q5 => by cases g5_.symm.trans q5; exact R)⟩)))
 rintro D e s31 hD ⟨im, ib, i⟩
 obtain ⟨b19, g2_, h19⟩ := (i.p 2) (hD 2 R)
 obtain ⟨b26, g5_, h26⟩ := (i.p 5) (hD 5 R)
 have g6_ := (i.p 6) (hD 6 R) b19 g2_
 have g7_ := (i.p 7) (hD 7 R) b26 g5_
 have bx10 := bx10.mv im no_No
 have h6 := h6.mono im.z
 have h7 := h7.mono im.z
 have h8 := h8.mono im.z
 have h2 := h2.mono im.z
 have m0 := m0.trans im.no
 refine X.sub (e' := [(9, .slice (some ⟨b26, 0, none⟩) x25.length x25.length), (8, .slice (some ⟨b19, 0, none⟩) x18.length x18.length), (5, .pointer (some ⟨b10, 0, none⟩)), (1, .slice a2 p1.length c2)]) ?_ (Sub.cons g7_ (Sub.cons g6_ (Sub.cons (ib 5 _ R) (Sub.cons (ib 1 _ R) Sub.nil))))
 refine X.seqN (E.seq (ER (L.fa fa30_2 Y R R (L.ld (j := 2) bx10.mem nag27 Y R R R R (L.len sl27 Y R R (L.mv Y R R (LN (E.block ?_))))))))
 obtain ⟨o43, eo43, hm⟩ := bindS hm
 refine E.cut (x := .exit 0) (fun e w => ∃ (s46 : Sig), Mv (Up N No) s s46 ∧ RowT rB s46 (N + 2) 4 (some ⟨b26, 0, none⟩) x25.length x25 ∧ RowT rB s46 (N + 1) 4 (some ⟨b19, 0, none⟩) x18.length o43 ∧ RdL qI s46 a2 c2 p1 ∧ RdL qI s46 a6 c6 r3.1.1 ∧ RdL qI s46 a7 c7 r3.1.2.2.1 ∧ RdL qT s46 a8 c8 r3.1.2.2.2 ∧ Bx s46 (N + 0) b10 #[.slice a6 r3.1.1.length c6, .int .i64 r3.1.2.1, .slice a7 r3.1.2.2.1.length c7, .slice a8 r3.1.2.2.2.length c8] 30 ∧ e = [(9, .slice (some ⟨b26, 0, none⟩) x25.length x25.length), (8, .slice (some ⟨b19, 0, none⟩) o43.length x18.length), (5, .pointer (some ⟨b10, 0, none⟩)), (1, .slice a2 p1.length c2)] ∧ w = s46.w) ?_ ?_
 ·rintro _ _ ⟨s46, m0, h26, h19, h2, h6, h7, h8, bx10, rfl, rfl⟩
  refine X.blkE (X.seqN (E.seq (ER (L.fa fa30_3 Y R R (L.ld (j := 3) bx10.mem nag28 Y R R R R (L.len sl28 Y R R (L.mv Y R R (LN (E.block ?_)))))))))
  obtain ⟨o82, eo82, hm⟩ := bindS hm
  refine E.cut (x := .exit 2) (fun e w => ∃ (s85 : Sig), Mv (Up N No) s s85 ∧ RowT rB s85 (N + 2) 4 (some ⟨b26, 0, none⟩) x25.length o82 ∧ RowT rB s85 (N + 1) 4 (some ⟨b19, 0, none⟩) x18.length o43 ∧ RdL qI s85 a2 c2 p1 ∧ e = [(9, .slice (some ⟨b26, 0, none⟩) o82.length x25.length), (8, .slice (some ⟨b19, 0, none⟩) o43.length x18.length), (1, .slice a2 p1.length c2)] ∧ w = s85.w) ?_ ?_
  ·rintro _ _ ⟨s85, m0, h26, h19, h2, rfl, rfl⟩
   refine X.blkE (X.seqN (E.seq (ER (L.mv Y R R (L.len sl27 Y R R (L.mv Y R R (LN (E.block ?_))))))))
   obtain ⟨o106, eo106, hm⟩ := bindS hm
   refine E.cut (x := .exit 4) (fun e w => ∃ (s109 : Sig) (u108 : Unit), o106 = .inl u108 ∧ Mv (Up N No) s s109 ∧ e = [] ∧ w = s109.w) ?_ ?_
   ·rintro _ _ ⟨s109, u108, rfl, m0, rfl, rfl⟩
    dsimp only at hm
    refine X.blkE (X.seqN (ER (L.as Y R R (LN (E.ret ?_)))))
    obtain rfl := oi hm
    exact X.rt (.inl R) Tryz.results22 (Rs.tmp R Rs.nil) R ⟨_, (s109).ren N (fun _ => 0), R, R, m0.ren hNb, R⟩
   intro K110
   refine E.cut (x := .ret) (fun e w => ∃ (s112 : Sig) (u111 : Unit), o106 = .inr (u111) ∧ Mv (Up N No) s s112 ∧ e = [(4, .int .i64 24)] ∧ w = s112.w) ?_ ?_
   ·rintro _ _ ⟨s112, u111, rfl, m0, rfl, rfl⟩
    dsimp only at hm
    refine X.blkR (X.seqR ?_)
    obtain rfl := oi hm
    exact X.rt (.inl R) Tryz.results22 (Rs.tmp R Rs.nil) R ⟨_, (s112).ren N (fun _ => 0), R, R, m0.ren hNb, R⟩
   intro K113
   refine E.iter (fun (st106 : Int) (e : List (Nat × Value)) (w : World) => ∃ (s107 : Sig), Mv (Up N No) s s107 ∧ RdL qI s107 a2 c2 p1 ∧ RowT rB s107 (N + 2) 4 (some ⟨b26, 0, none⟩) x25.length o82 ∧ RowT rB s107 (N + 1) 4 (some ⟨b19, 0, none⟩) x18.length o43 ∧ e = [(72, .int .i64 st106), (71, .int .i64 (p1.length : Int)), (70, .slice a2 p1.length c2), (9, .slice (some ⟨b26, 0, none⟩) o82.length x25.length), (8, .slice (some ⟨b19, 0, none⟩) o43.length x18.length)] ∧ w = s107.w) eo106 ⟨s85, m0, h2, h26, h19, R, R⟩ (Sub.rf R) ?_
   rintro st106 res106 hm ih106 ho106 _ _ ⟨s107, m0, h2, h26, h19, rfl, rfl⟩
   unfold m_blocking_Verify_l3 at hm
   refine ER (L.bi Y R R R R (LN (E.seq ?_)))
   rcases ifS hm with ⟨hc, hm⟩ | ⟨hc, hm⟩
   ·refine E.cT R hc (E.skip (X.seqN (E.seq (E.block (ER (L.mv Y R R ?_))))))
    obtain ⟨x114, ex114, hm⟩ := bindS hm
    refine L.ix (r := qI) sl27 h2 Y R R ex114 R fun b115 o115 cc115 me115 rd115 => ?_
    obtain rfl := rd115
    refine L.ld (j := 0) me115 nag3 Y R R R R (L.as Y R R (L.as Y R R (LN (ER (L.mv Y R R (L.bi Y R R R R (L.mv Y R R ?_)))))))
    obtain ⟨b116, eb116, hm⟩ := bindS hm
    refine L.cut 10 (fun e w => ∃ (v117 : Bool), b116 = v117 ∧ e = (89, .bool v117) :: [(15, .int .i64 x114), (14, .int .i64 st106), (72, .int .i64 st106), (71, .int .i64 (p1.length : Int)), (70, .slice a2 p1.length c2), (9, .slice (some ⟨b26, 0, none⟩) o82.length x25.length), (8, .slice (some ⟨b19, 0, none⟩) o43.length x18.length)] ∧ w = s107.w) ?_ ?_
    ·rintro _ _ ⟨v117, rfl, rfl, rfl⟩
     refine L.mv Y R R ?_
     obtain ⟨b118, eb118, hm⟩ := bindS hm
     refine L.cut 10 (fun e w => ∃ (v119 : Bool), b118 = v119 ∧ e = (100, .bool v119) :: [(72, .int .i64 st106), (71, .int .i64 (p1.length : Int)), (70, .slice a2 p1.length c2), (9, .slice (some ⟨b26, 0, none⟩) o82.length x25.length), (8, .slice (some ⟨b19, 0, none⟩) o43.length x18.length)] ∧ w = s107.w) ?_ ?_
     ·rintro _ _ ⟨v119, rfl, rfl, rfl⟩
      refine L.nil (X.seqN ?_)
      rcases ifS hm with ⟨hc, hm⟩ | ⟨hc, hm⟩
      ·refine E.cT R hc (ER (L.as Y R R (LN (E.ret (X.blkR (X.seqR (X.seqR ?_)))))))
       have hx := ho106 _ (oi hm).symm
       exact X.sub (K113 _ _ ⟨s107, (), hx.symm, m0, R, R⟩) (Sub.rf R)
      exact E.cF R hc (E.skip (X.blkN (X.seqN (E.reg (L.bi Y R R R R (L.mv Y R R (L.nil (X.sub (ih106 _ (oi hm).symm _ _ ⟨s107, m0, h2, h26, h19, R, R⟩) (Sub.rf R)))))))))
     intro J120
     rcases ifS eb118 with ⟨hc, hm⟩ | ⟨hc, hm⟩
     ·exact L.know (d := 90) R hc (L.skip R R R R (L.skip R R R R (L.skip R R R R (L.skipU R R R (L.skipU R R R (L.skipU R R R (L.skipU R R R (L.skipU R R R (L.skip R R R R (L.pkT Y R R R R (L.sb (J120 _ _ ⟨true, (oi hm).symm, R, R⟩) R)))))))))))
     refine L.know (d := 90) R hc (L.mv (Wt.mk R R) R R (L.bi (Wt.mk R R) R R R R (L.mv (Wt.mk R R) R R ?_)))
     obtain ⟨b121, eb121, hm⟩ := bindS hm
     refine L.cut 6 (fun e w => ∃ (v122 : Bool), b121 = v122 ∧ e = (99, .bool v122) :: [(90, .bool false), (72, .int .i64 st106), (71, .int .i64 (p1.length : Int)), (70, .slice a2 p1.length c2), (9, .slice (some ⟨b26, 0, none⟩) o82.length x25.length), (8, .slice (some ⟨b19, 0, none⟩) o43.length x18.length)] ∧ w = s107.w) ?_ ?_
     ·rintro _ _ ⟨v122, rfl, rfl, rfl⟩
      exact L.pkF Y R R R R (L.sb (J120 _ _ ⟨b121, (oi hm).symm, R, R⟩) R)
     intro J123
     rcases ifS eb121 with ⟨hc, hm⟩ | ⟨hc, hm⟩
     ·refine L.know (d := 93) R hc (L.mv (Wt.mk R R) R R (L.mv (Wt.mk R R) R R ?_))
      obtain ⟨x124, ex124, hm⟩ := bindS hm
      refine L.ir (r := rB) sl55 h26 (Wt.mk R R) R R ex124 R fun b125 o125 cc125 me125 rd125 sp125 => ?_
      obtain rfl := rd125
      exact L.ld (j := 0) me125 nag4 (Wt.mk R R) R R R R (L.not (Wt.mk R R) R R (L.pkT (Wt.mk R R) R R R R (L.sb (J123 _ _ ⟨(!x124), (oi hm).symm, R, R⟩) R)))
     exact L.know (d := 93) R hc (L.skip R R R R (L.skip R R R R (L.skip R R R R (L.skip R R R R (L.skip R R R R (L.pkF (Wt.mk R R) R R R R (L.sb (J123 _ _ ⟨false, (oi hm).symm, R, R⟩) R)))))))
    intro J126
    rcases ifS eb116 with ⟨hc, hm⟩ | ⟨hc, hm⟩
    ·exact L.know (d := 79) R hc (L.skip R R R R (L.skip R R R R (L.skip R R R R (L.skipU R R R (L.skipU R R R (L.skipU R R R (L.skipU R R R (L.skipU R R R (L.skip R R R R (L.pkT Y R R R R (L.sb (J126 _ _ ⟨true, (oi hm).symm, R, R⟩) R)))))))))))
    refine L.know (d := 79) R hc (L.mv (Wt.mk R R) R R (L.bi (Wt.mk R R) R R R R (L.mv (Wt.mk R R) R R ?_)))
    obtain ⟨b127, eb127, hm⟩ := bindS hm
    refine L.cut 6 (fun e w => ∃ (v128 : Bool), b127 = v128 ∧ e = (88, .bool v128) :: [(79, .bool false), (15, .int .i64 x114), (14, .int .i64 st106), (72, .int .i64 st106), (71, .int .i64 (p1.length : Int)), (70, .slice a2 p1.length c2), (9, .slice (some ⟨b26, 0, none⟩) o82.length x25.length), (8, .slice (some ⟨b19, 0, none⟩) o43.length x18.length)] ∧ w = s107.w) ?_ ?_
    ·rintro _ _ ⟨v128, rfl, rfl, rfl⟩
     exact L.pkF Y R R R R (L.sb (J126 _ _ ⟨b127, (oi hm).symm, R, R⟩) R)
    intro J129
    rcases ifS eb127 with ⟨hc, hm⟩ | ⟨hc, hm⟩
    ·refine L.know (d := 82) R hc (L.mv (Wt.mk R R) R R (L.mv (Wt.mk R R) R R ?_))
     obtain ⟨x130, ex130, hm⟩ := bindS hm
     refine L.ir (r := rB) sl55 h19 (Wt.mk R R) R R ex130 R fun b131 o131 cc131 me131 rd131 sp131 => ?_
     obtain rfl := rd131
     exact L.ld (j := 0) me131 nag4 (Wt.mk R R) R R R R (L.not (Wt.mk R R) R R (L.pkT (Wt.mk R R) R R R R (L.sb (J129 _ _ ⟨(!x130), (oi hm).symm, R, R⟩) R)))
    exact L.know (d := 82) R hc (L.skip R R R R (L.skip R R R R (L.skip R R R R (L.skip R R R R (L.skip R R R R (L.pkF (Wt.mk R R) R R R R (L.sb (J129 _ _ ⟨false, (oi hm).symm, R, R⟩) R)))))))
   refine E.cF R hc (E.exit (X.seqX (X.seqX ?_)))
   have hx := ho106 _ (oi hm).symm
   exact X.sub (K110 _ _ ⟨s107, (), hx.symm, m0, R, R⟩) Sub.nil
  intro K132
  refine E.iter (fun (st82 : Int × List Bool) (e : List (Nat × Value)) (w : World) => ∃ (s84 : Sig), Mv (Up N No) s s84 ∧ RdL qT s84 a8 c8 r3.1.2.2.2 ∧ RowT rB s84 (N + 2) 4 (some ⟨b26, 0, none⟩) x25.length st82.2 ∧ RowT rB s84 (N + 1) 4 (some ⟨b19, 0, none⟩) x18.length o43 ∧ RdL qI s84 a2 c2 p1 ∧ e = [(50, .int .i64 st82.1), (49, .int .i64 (r3.1.2.2.2.length : Int)), (48, .slice a8 r3.1.2.2.2.length c8), (9, .slice (some ⟨b26, 0, none⟩) st82.2.length x25.length), (8, .slice (some ⟨b19, 0, none⟩) o43.length x18.length), (1, .slice a2 p1.length c2)] ∧ w = s84.w) eo82 ⟨s46, m0, h8, h26, h19, h2, R, R⟩ (Sub.rf R) ?_
  rintro st82 res82 hm ih82 ho82 _ _ ⟨s84, m0, h8, h26, h19, h2, rfl, rfl⟩
  unfold m_blocking_Verify_l2 at hm
  refine ER (L.bi Y R R R R (LN (E.seq ?_)))
  rcases ifS hm with ⟨hc, hm⟩ | ⟨hc, hm⟩
  ·refine E.cT R hc (E.skip (X.seqN (E.seqJ (fun e w => ∃ (s134 : Sig) (l133 : List Bool), m_blocking_Verify_j1 st82 l133 = some res82 ∧ Mv (Up N No) s s134 ∧ RowT rB s134 (N + 2) 4 (some ⟨b26, 0, none⟩) x25.length l133 ∧ RdL qT s134 a8 c8 r3.1.2.2.2 ∧ RowT rB s134 (N + 1) 4 (some ⟨b19, 0, none⟩) x18.length o43 ∧ RdL qI s134 a2 c2 p1 ∧ e = [(9, .slice (some ⟨b26, 0, none⟩) l133.length x25.length), (50, .int .i64 st82.1), (49, .int .i64 (r3.1.2.2.2.length : Int)), (48, .slice a8 r3.1.2.2.2.length c8), (8, .slice (some ⟨b19, 0, none⟩) o43.length x18.length), (1, .slice a2 p1.length c2)] ∧ w = s134.w) ?_ ?_)))
   ·rintro _ _ ⟨s134, l133, hm, m0, h26, h8, h19, h2, rfl, rfl⟩
    unfold m_blocking_Verify_j1 at hm
    exact E.reg (L.bi Y R R R R (L.mv Y R R (L.nil (X.sub (ih82 _ (oi hm).symm _ _ ⟨s134, m0, h8, h26, h19, h2, R, R⟩) (Sub.rf R)))))
   intro Jj135
   refine E.block (E.seq (E.reg ?_))
   obtain ⟨x136, ex136, hm⟩ := bindS hm
   refine L.ix (r := qT) sl28 h8 Y R R ex136 R fun b137 o137 cc137 me137 rd137 => ?_
   obtain ⟨_, _, rfl, rfl, ⟨_, _, rfl, rfl, rfl⟩⟩ := rd137
   refine L.lg (j := 0) (cs := [.int .i64 x136.1, .int .i64 x136.2.1, .int .i64 x136.2.2]) me137 ag62 Y R R R R R (L.al (N + 3) zz62 R Y R fun b138 s139 m140 bx138 => ?_)
   refine L.st (c := [.int .i64 x136.1, .int .i64 x136.2.1, .int .i64 x136.2.2]) (cs' := #[.int .i64 x136.1, .int .i64 x136.2.1, .int .i64 x136.2.2]) bx138 ag62.sz Y R R R R R (nb R) R fun s141 m142 bx138 => ?_
   replace m0 := (m0.trans m140.no).trans (m142.one up)
   replace h8 := (h8.mono m140.z).mono (m142.le (tg0 hN))
   replace h2 := (h2.mono m140.z).mono (m142.le (tg0 hN))
   replace h19 := (h19.mv m140 no_No no_No).mv m142 (tq R) (tg0 hN)
   replace h26 := (h26.mv m140 no_No no_No).mv m142 (tq R) (tg0 hN)
   refine LN (E.seq ?_)
   obtain ⟨x147, ex147, hm⟩ := bindS hm
   obtain ⟨x154, ex154, hm⟩ := bindS hm
   refine E.draw m_blocking_Traps_w1 (fun D e sx => Mv No s141 sx ∧ Sub [(13, .pointer (some ⟨b138, 0, none⟩)), (50, .int .i64 st82.1), (49, .int .i64 (r3.1.2.2.2.length : Int)), (48, .slice a8 r3.1.2.2.2.length c8), (9, .slice (some ⟨b26, 0, none⟩) st82.2.length x25.length), (8, .slice (some ⟨b19, 0, none⟩) o43.length x18.length), (1, .slice a2 p1.length c2)] e ∧ AllP [G D e 0 54 (.slice a2 p1.length c2), G D e 1 55 (.pointer (some ⟨b138, 2, none⟩)), G D e 2 56 (.int .i64 x136.2.2), D 3 = true → (∃ (b148 : Nat) (o148 : Nat), Env.get e 57 = some (.pointer (some ⟨b148, o148, none⟩)) ∧ Mem sx 0 b148 o148 [.int .i64 x147]), G D e 4 58 (.int .i64 x147), G D e 5 59 (.slice a2 p1.length c2), G D e 6 60 (.pointer (some ⟨b138, 0, none⟩)), G D e 7 61 (.int .i64 x136.1), D 8 = true → (∃ (b155 : Nat) (o155 : Nat), Env.get e 62 = some (.pointer (some ⟨b155, o155, none⟩)) ∧ Mem sx 0 b155 o155 [.int .i64 x154]), G D e 9 63 (.int .i64 x154), G D e 10 64 (.bool (decide (x147 < x154)))]) (by kernel_rfl) (by kernel_rfl) (by kernel_rfl) ?_ ?_ ?_
   ·intro sz mz
    exact ⟨mz, (Sub.rf R), nofun, nofun, nofun, nofun, nofun, nofun, nofun, nofun, nofun, nofun, nofun, trivial⟩
   ·refine ⟨?_, ?_, ?_, ?_, ?_, ?_, ?_, ?_, ?_, ?_, ?_, trivial⟩
    ·rintro D e s143 ⟨im, ib, i⟩ hk hf ha
     have kn := K1 (ib 1 _ R)
     exact kn.g (L.mv Y R R (L.nil (X.dk kn ⟨im, Sub.fresh ib R, i.u 0 (fun _ => R)⟩)))
    ·rintro D e s144 ⟨im, ib, i⟩ hk hf ha
     have kn := K1 (ib 13 _ R)
     exact kn.g (L.fa fa62_2 Y R R (L.nil (X.dk kn ⟨im, Sub.fresh ib R, i.u 1 (fun _ => R)⟩)))
    ·rintro D e s145 ⟨im, ib, i⟩ hk hf ha
     have bx138 := bx138.mv im no_No
     have kn := K1 ((i.p 1) (ha.at 1 R))
     exact kn.g (L.ld (j := 2) bx138.mem nag3 Y R R R R (L.nil (X.dk kn ⟨im, Sub.fresh ib R, i.u 2 (fun _ => R)⟩)))
    ·rintro D e s146 ⟨im, ib, i⟩ hk hf ha
     have h2 := h2.mono im.z
     have kn := K2 ((i.p 0) (ha.at 0 R)) ((i.p 2) (ha.at 2 R))
     refine kn.g (L.ix (r := qI) sl27 h2 Y R R ex147 R fun b148 o148 cc148 me148 rd148 => ?_)
     obtain rfl := rd148
     exact L.nil (X.dk kn ⟨im, Sub.fresh ib R, i.u 3 (fun _ => ⟨b148, o148, R, me148⟩)⟩)
    ·rintro D e s149 ⟨im, ib, i⟩ hk hf ha
     obtain ⟨b148, o148, g3_, me148⟩ := (i.p 3) (ha.at 3 R)
     have kn := K1 g3_
     exact kn.g (L.ld (j := 0) me148 nag3 Y R R R R (L.nil (X.dk kn ⟨im, Sub.fresh ib R, i.u 4 (fun _ => R)⟩)))
    ·rintro D e s150 ⟨im, ib, i⟩ hk hf ha
     have kn := K1 (ib 1 _ R)
     exact kn.g (L.mv Y R R (L.nil (X.dk kn ⟨im, Sub.fresh ib R, i.u 5 (fun _ => R)⟩)))
    ·rintro D e s151 ⟨im, ib, i⟩ hk hf ha
     have kn := K1 (ib 13 _ R)
     exact kn.g (L.fa fa62_0 Y R R (L.nil (X.dk kn ⟨im, Sub.fresh ib R, i.u 6 (fun _ => R)⟩)))
    ·rintro D e s152 ⟨im, ib, i⟩ hk hf ha
     have bx138 := bx138.mv im no_No
     have kn := K1 ((i.p 6) (ha.at 6 R))
     exact kn.g (L.ld (j := 0) bx138.mem nag3 Y R R R R (L.nil (X.dk kn ⟨im, Sub.fresh ib R, i.u 7 (fun _ => R)⟩)))
    ·rintro D e s153 ⟨im, ib, i⟩ hk hf ha
     have h2 := h2.mono im.z
     have kn := K2 ((i.p 5) (ha.at 5 R)) ((i.p 7) (ha.at 7 R))
     refine kn.g (L.ix (r := qI) sl27 h2 Y R R ex154 R fun b155 o155 cc155 me155 rd155 => ?_)
     obtain rfl := rd155
     exact L.nil (X.dk kn ⟨im, Sub.fresh ib R, i.u 8 (fun _ => ⟨b155, o155, R, me155⟩)⟩)
    ·rintro D e s156 ⟨im, ib, i⟩ hk hf ha
     obtain ⟨b155, o155, g8_, me155⟩ := (i.p 8) (ha.at 8 R)
     have kn := K1 g8_
     exact kn.g (L.ld (j := 0) me155 nag3 Y R R R R (L.nil (X.dk kn ⟨im, Sub.fresh ib R, i.u 9 (fun _ => R)⟩)))
    rintro D e s157 ⟨im, ib, i⟩ hk hf ha
    have kn := K2 ((i.p 4) (ha.at 4 R)) ((i.p 9) (ha.at 9 R))
    exact kn.g (L.bi Y R R R R (L.nil (X.dk kn ⟨im, Sub.fresh ib R, i.u 10 (fun _ => R)⟩)))
   rintro D e s158 hD ⟨im, ib, i⟩
   have g10_ := (i.p 10) (hD 10 R)
   have bx138 := bx138.mv im no_No
   have h8 := h8.mono im.z
   have h26 := h26.mv im no_No no_No
   have h19 := h19.mv im no_No no_No
   have h2 := h2.mono im.z
   have m0 := m0.trans im.no
   refine X.sub (e' := [(64, .bool (decide (x147 < x154))), (13, .pointer (some ⟨b138, 0, none⟩)), (50, .int .i64 st82.1), (49, .int .i64 (r3.1.2.2.2.length : Int)), (48, .slice a8 r3.1.2.2.2.length c8), (9, .slice (some ⟨b26, 0, none⟩) st82.2.length x25.length), (8, .slice (some ⟨b19, 0, none⟩) o43.length x18.length), (1, .slice a2 p1.length c2)]) ?_ (Sub.cons g10_ (Sub.cons (ib 13 _ R) (Sub.cons (ib 50 _ R) (Sub.cons (ib 49 _ R) (Sub.cons (ib 48 _ R) (Sub.cons (ib 9 _ R) (Sub.cons (ib 8 _ R) (Sub.cons (ib 1 _ R) Sub.nil))))))))
   refine X.seqN ?_
   rcases ifS hm with ⟨hc, hm⟩ | ⟨hc, hm⟩
   ·refine E.cT R hc (E.reg (L.mv Y R R (L.fa fa62_0 Y R R (L.ld (j := 0) bx138.mem nag3 Y R R R R ?_))))
    obtain ⟨x159, ex159, hm⟩ := bindS hm
    refine L.ir (r := rB) sl55 h26 Y R R ex159 R fun b160 o160 cc160 me160 rd160 sp160 => ?_
    obtain rfl := rd160
    obtain ⟨x161, ex161, hm⟩ := bindS hm
    have elx161 := upd_len ex161
    refine L.su (fo := 0) (c := [.bool true]) (z := true) h26 sp160 ex159 ex161 (tgp hN) nag4.sz Y R R R R R R (fun c0 hc0 => by obtain rfl := hc0; exact R) fun s162 m163 h26 => ?_
    replace m0 := m0.trans (m163.one up)
    replace h8 := h8.mono (m163.le (tg0 hN))
    replace h2 := h2.mono (m163.le (tg0 hN))
    replace h19 := h19.mv m163 (tq R) (tg0 hN)
    exact L.reval (d := 9) R elx161 (L.nil (X.blkN (X.sub (Jj135 _ _ ⟨s162, x161, hm, m0, h26, h8, h19, h2, R, R⟩) (Sub.rf R))))
   exact E.cF R hc (E.skip (X.blkN (X.sub (Jj135 _ _ ⟨s158, st82.2, hm, m0, h26, h8, h19, h2, R, R⟩) (Sub.rf R))))
  refine E.cF R hc (E.exit (X.seqX (X.seqX ?_)))
  have hx := ho82 _ (oi hm).symm
  subst hx
  exact X.sub (K132 _ _ ⟨s84, m0, h26, h19, h2, R, R⟩) (Sub.rf R)
 intro K164
 refine E.iter (fun (st43 : Int × List Bool) (e : List (Nat × Value)) (w : World) => ∃ (s45 : Sig), Mv (Up N No) s s45 ∧ RdL qI s45 a7 c7 r3.1.2.2.1 ∧ RowT rB s45 (N + 2) 4 (some ⟨b26, 0, none⟩) x25.length x25 ∧ RowT rB s45 (N + 1) 4 (some ⟨b19, 0, none⟩) x18.length st43.2 ∧ RdL qI s45 a2 c2 p1 ∧ RdL qI s45 a6 c6 r3.1.1 ∧ RdL qT s45 a8 c8 r3.1.2.2.2 ∧ Bx s45 (N + 0) b10 #[.slice a6 r3.1.1.length c6, .int .i64 r3.1.2.1, .slice a7 r3.1.2.2.1.length c7, .slice a8 r3.1.2.2.2.length c8] 30 ∧ e = [(39, .int .i64 st43.1), (38, .int .i64 (r3.1.2.2.1.length : Int)), (37, .slice a7 r3.1.2.2.1.length c7), (9, .slice (some ⟨b26, 0, none⟩) x25.length x25.length), (8, .slice (some ⟨b19, 0, none⟩) st43.2.length x18.length), (5, .pointer (some ⟨b10, 0, none⟩)), (1, .slice a2 p1.length c2)] ∧ w = s45.w) eo43 ⟨s31, m0, h7, h26, h19, h2, h6, h8, bx10, R, R⟩ (Sub.rf R) ?_
 rintro st43 res43 hm ih43 ho43 _ _ ⟨s45, m0, h7, h26, h19, h2, h6, h8, bx10, rfl, rfl⟩
 unfold m_blocking_Verify_l1 at hm
 refine ER (L.bi Y R R R R (LN (E.seq ?_)))
 rcases ifS hm with ⟨hc, hm⟩ | ⟨hc, hm⟩
 ·refine E.cT R hc (E.skip (X.seqN (E.seq (E.block (E.seq (E.reg ?_))))))
  obtain ⟨x165, ex165, hm⟩ := bindS hm
  refine L.ix (r := qI) sl27 h7 Y R R ex165 R fun b166 o166 cc166 me166 rd166 => ?_
  obtain rfl := rd166
  refine L.ld (j := 0) me166 nag3 Y R R R R (L.as Y R R (LN (E.reg (L.mv Y R R (L.mv Y R R ?_)))))
  obtain ⟨x167, ex167, hm⟩ := bindS hm
  refine L.ir (r := rB) sl55 h19 Y R R ex167 R fun b168 o168 cc168 me168 rd168 sp168 => ?_
  obtain rfl := rd168
  obtain ⟨x169, ex169, hm⟩ := bindS hm
  have elx169 := upd_len ex169
  refine L.su (fo := 0) (c := [.bool true]) (z := true) h19 sp168 ex167 ex169 (tgp hN) nag4.sz Y R R R R R R (fun c0 hc0 => by obtain rfl := hc0; exact R) fun s170 m171 h19 => ?_
  replace m0 := m0.trans (m171.one up)
  replace h2 := h2.mono (m171.le (tg0 hN))
  replace h7 := h7.mono (m171.le (tg0 hN))
  replace h26 := h26.mv m171 (tq R) (tg0 hN)
  replace bx10 := bx10.mv m171 (tq R)
  replace h6 := h6.mono (m171.le (tg0 hN))
  replace h8 := h8.mono (m171.le (tg0 hN))
  exact L.reval (d := 8) R elx169 (L.nil (X.blkN (X.seqN (E.reg (L.bi Y R R R R (L.mv Y R R (L.nil (X.sub (ih43 _ (oi hm).symm _ _ ⟨s170, m0, h7, h26, h19, h2, h6, h8, bx10, R, R⟩) (Sub.rf R)))))))))
 refine E.cF R hc (E.exit (X.seqX (X.seqX ?_)))
 have hx := ho43 _ (oi hm).symm
 subst hx
 exact X.sub (K164 _ _ ⟨s45, m0, h26, h19, h2, h6, h7, h8, bx10, R, R⟩) (Sub.rf R)

noncomputable def m_blocking_Shortest (p0 : AutT) (p1 : Int) : Option (List Int × Bool × Int) :=
 (m_automaton_Check p0).bind fun r8 =>
 if (r8 != 0) then
  some (([] : List Int), false, r8)
 else
  if ((decide (p1 < 0)) || (decide (p1 ≥ p0.2.1))) then
   some (([] : List Int), false, 2)
  else
   (m_blocking_path p0 p1 p0.2.2.1).bind fun r12 =>
   some (r12.1, r12.2, 0)
theorem m_blocking_Shortest_c {s : Sig} {p0 : AutT} {p1 : Int} {a1 : Option Addr} {c1 : Nat} {a2 : Option Addr} {c2 : Nat} {a3 : Option Addr} {c3 : Nat} {r : List Int × Bool × Int} (h1 : RdL qI s a1 c1 p0.1) (h2 : RdL qI s a2 c2 p0.2.2.1) (h3 : RdL qT s a3 c3 p0.2.2.2) (hm : m_blocking_Shortest p0 p1 = some r) :
    Calls Tryz.prog 13 #[.agg #[.slice a1 p0.1.length c1, .int .i64 p0.2.1, .slice a2 p0.2.2.1.length c2, .slice a3 p0.2.2.2.length c3], .int .i64 p1] s.w (RetS No s fun v s' => ∃ (a4 : Option Addr) (c4 : Nat), v = .tuple #[.slice a4 r.1.length c4, .bool r.2.1, .int .i64 r.2.2] ∧ RdL qI s' a4 c4 r.1) := by
 unfold m_blocking_Shortest at hm
 obtain ⟨N, hN, hNb⟩ := s.fresh
 have m0 : Mv (Up N No) s s := Mv.refl _ _
 refine E.entry Tryz.func13 R Tryz.ntmps13 R R (ER (L.box (N + 0) Y R R R fun b5 s6 m7 bx5 => ?_))
 replace h1 := h1.mono m7.z
 replace h2 := h2.mono m7.z
 replace h3 := h3.mono m7.z
 refine L.as Y R R (L.as Y R R (L.as Y R R (LN (E.seq (ER (L.lg (j := 0) (cs := [.slice a1 p0.1.length c1, .int .i64 p0.2.1, .slice a2 p0.2.2.1.length c2, .slice a3 p0.2.2.2.length c3]) bx5.mem ag30 Y R R R R R ?_))))))
 obtain ⟨r8, er8, hm⟩ := bindS hm
 refine L.ca cf16 R R Y R (m_automaton_Check_c (s := s6) (p0 := p0) h1 h2 h3 er8) R ?_
 rintro _ s9 m10 rfl
 replace m0 := (m0.trans m7.no).trans m10.no
 replace bx5 := bx5.mv m10 no_No
 replace h1 := h1.mono m10.z
 replace h2 := h2.mono m10.z
 replace h3 := h3.mono m10.z
 refine L.as Y R R (LN (ER (L.mv Y R R (L.bi Y R R R R (L.nil (X.seqN ?_))))))
 rcases ifS hm with ⟨hc, hm⟩ | ⟨hc, hm⟩
 ·refine E.cT R hc (ER (L.mv Y R R (L.as Y R R (L.as Y R R (L.as Y R R (LN (E.ret (X.seqR ?_))))))))
  obtain rfl := oi hm
  exact X.rt (.inl R) Tryz.results13 (Rs.tmp R (Rs.tmp R (Rs.tmp R Rs.nil))) R ⟨_, (s9).ren N (fun _ => 0), R, R, m0.ren hNb, ⟨none, 0, R, RdL.nil⟩⟩
 refine E.cF R hc (E.skip (X.seqN (E.seq (ER (L.mv Y R R (L.bi Y R R R R (L.mv Y R R (L.cut 5 (fun e w => ∃ (v11 : Bool), ((decide (p1 < 0)) || (decide (p1 ≥ p0.2.1))) = v11 ∧ e = (20, .bool v11) :: [(2, .pointer (some ⟨b5, 0, none⟩)), (1, .int .i64 p1)] ∧ w = s9.w) ?_ ?_))))))))
 ·rintro _ _ ⟨v11, rfl, rfl, rfl⟩
  refine L.nil (X.seqN ?_)
  rcases ifS hm with ⟨hc, hm⟩ | ⟨hc, hm⟩
  ·refine E.cT R hc (ER (L.as Y R R (L.as Y R R (L.as Y R R (LN (E.ret (X.seqR ?_)))))))
   obtain rfl := oi hm
   exact X.rt (.inl R) Tryz.results13 (Rs.tmp R (Rs.tmp R (Rs.tmp R Rs.nil))) R ⟨_, (s9).ren N (fun _ => 0), R, R, m0.ren hNb, ⟨none, 0, R, RdL.nil⟩⟩
  refine E.cF R hc (E.skip (X.seqN (ER (L.lg (j := 0) (cs := [.slice a1 p0.1.length c1, .int .i64 p0.2.1, .slice a2 p0.2.2.1.length c2, .slice a3 p0.2.2.2.length c3]) bx5.mem ag30 Y R R R R R (L.mv Y R R (L.fa fa30_2 Y R R (L.ld (j := 2) bx5.mem nag27 Y R R R R ?_)))))))
  obtain ⟨r12, er12, hm⟩ := bindS hm
  refine L.ca cf33 R R Y R (m_blocking_path_c (s := s9) (p0 := p0) (p1 := p1) (p2 := p0.2.2.1) h1 h2 h3 h2 er12) R ?_
  rintro _ s13 m14 ⟨a15, c15, rfl, h15⟩
  replace m0 := m0.trans m14.no
  refine L.mv Y R R (L.ex Y R R R (L.ex Y R R R (L.as Y R R (L.as Y R R (LN (ER (L.mv Y R R (L.mv Y R R (L.as Y R R (L.as Y R R (L.as Y R R (LN (E.ret ?_)))))))))))))
  obtain rfl := oi hm
  exact X.rt (.inl R) Tryz.results13 (Rs.tmp R (Rs.tmp R (Rs.tmp R Rs.nil))) R ⟨_, (s13).ren N (fun _ => 0), R, R, m0.ren hNb, ⟨a15, c15, R, (h15.ren hN)⟩⟩
 intro J16
 rcases Bool.eq_false_or_eq_true (decide (p1 < 0)) with hc | hc
 ·exact L.know (d := 15) R hc (L.skip R R R R (L.skip R R R R (L.skip R R R R (L.skip R R R R (L.pkT Y R R R R (L.sb (J16 _ _ ⟨true, (orT hc).symm, R, R⟩) R))))))
 exact L.know (d := 15) R hc (L.mv (Wt.mk R R) R R (L.fa fa30_1 (Wt.mk R R) R R (L.ld (j := 1) bx5.mem nag3 (Wt.mk R R) R R R R (L.bi (Wt.mk R R) R R R R (L.pkF Y R R R R (L.sb (J16 _ _ ⟨(decide (p1 ≥ p0.2.1)), (orF hc).symm, R, R⟩) R))))))

end Go.Proofs.YtfbapajcheammaaGreatDoor

namespace Go.Proofs.YtfbapajcheammaaGreatDoor
open Go Go.RowKit
noncomputable def m_blocking_Escape_j1 (st35 : Int × List Int) (l46 : List Int) : Option ((Int × List Int) ⊕ (List Int)) :=
 some (.inl (W (st35.1 + 1), l46))
noncomputable def m_blocking_Escape_l1 (p1 : Int) (r12 : List Int) (st35 : Int × List Int) : Option ((Int × List Int) ⊕ (List Int)) :=
 if decide (st35.1 < (r12.length : Int)) then
  (idx r12 st35.1).bind fun x50 =>
  if (x50 == p1) then
   (app st35.2 ([st35.1] : List Int)).bind fun x55 =>
   m_blocking_Escape_j1 st35 x55
  else
   m_blocking_Escape_j1 st35 st35.2
 else
  some (.inr st35.2)
noncomputable def m_blocking_Escape (p0 : AutT) (p1 : Int) : Option (List Int × Bool × Int) :=
 (m_automaton_Check p0).bind fun r8 =>
 if (r8 != 0) then
  some (([] : List Int), false, r8)
 else
  if ((decide (p1 < 1)) || (decide (p1 > 5))) then
   some (([] : List Int), false, 11)
  else
   (m_blocking_kinds p0).bind fun r12 =>
   (iter (m_blocking_Escape_l1 p1 r12) (0, ([] : List Int))).bind fun o35 =>
   (m_blocking_path p0 0 o35).bind fun r41 =>
   some (r41.1, r41.2, 0)
theorem m_blocking_Escape_c {s : Sig} {p0 : AutT} {p1 : Int} {a1 : Option Addr} {c1 : Nat} {a2 : Option Addr} {c2 : Nat} {a3 : Option Addr} {c3 : Nat} {r : List Int × Bool × Int} (h1 : RdL qI s a1 c1 p0.1) (h2 : RdL qI s a2 c2 p0.2.2.1) (h3 : RdL qT s a3 c3 p0.2.2.2) (hm : m_blocking_Escape p0 p1 = some r) :
    Calls Tryz.prog 11 #[.agg #[.slice a1 p0.1.length c1, .int .i64 p0.2.1, .slice a2 p0.2.2.1.length c2, .slice a3 p0.2.2.2.length c3], .int .i64 p1] s.w (RetS No s fun v s' => ∃ (a4 : Option Addr) (c4 : Nat), v = .tuple #[.slice a4 r.1.length c4, .bool r.2.1, .int .i64 r.2.2] ∧ RdL qI s' a4 c4 r.1) := by
 unfold m_blocking_Escape at hm
 obtain ⟨N, hN, hNb⟩ := s.fresh
 have m0 : Mv (Up N No) s s := Mv.refl _ _
 refine E.entry Tryz.func11 R Tryz.ntmps11 R R (ER (L.box (N + 0) Y R R R fun b5 s6 m7 bx5 => ?_))
 replace h1 := h1.mono m7.z
 replace h2 := h2.mono m7.z
 replace h3 := h3.mono m7.z
 refine L.as Y R R (L.as Y R R (L.as Y R R (LN (E.seq (ER (L.lg (j := 0) (cs := [.slice a1 p0.1.length c1, .int .i64 p0.2.1, .slice a2 p0.2.2.1.length c2, .slice a3 p0.2.2.2.length c3]) bx5.mem ag30 Y R R R R R ?_))))))
 obtain ⟨r8, er8, hm⟩ := bindS hm
 refine L.ca cf16 R R Y R (m_automaton_Check_c (s := s6) (p0 := p0) h1 h2 h3 er8) R ?_
 rintro _ s9 m10 rfl
 replace m0 := (m0.trans m7.no).trans m10.no
 replace bx5 := bx5.mv m10 no_No
 replace h1 := h1.mono m10.z
 replace h2 := h2.mono m10.z
 replace h3 := h3.mono m10.z
 refine L.as Y R R (LN (ER (L.mv Y R R (L.bi Y R R R R (L.nil (X.seqN ?_))))))
 rcases ifS hm with ⟨hc, hm⟩ | ⟨hc, hm⟩
 ·refine E.cT R hc (ER (L.mv Y R R (L.as Y R R (L.as Y R R (L.as Y R R (LN (E.ret (X.seqR ?_))))))))
  obtain rfl := oi hm
  exact X.rt (.inl R) Tryz.results11 (Rs.tmp R (Rs.tmp R (Rs.tmp R Rs.nil))) R ⟨_, (s9).ren N (fun _ => 0), R, R, m0.ren hNb, ⟨none, 0, R, RdL.nil⟩⟩
 refine E.cF R hc (E.skip (X.seqN (E.seq (ER (L.mv Y R R (L.bi Y R R R R (L.mv Y R R (L.cut 3 (fun e w => ∃ (v11 : Bool), ((decide (p1 < 1)) || (decide (p1 > 5))) = v11 ∧ e = (21, .bool v11) :: [(2, .pointer (some ⟨b5, 0, none⟩)), (1, .int .i64 p1)] ∧ w = s9.w) ?_ ?_))))))))
 ·rintro _ _ ⟨v11, rfl, rfl, rfl⟩
  refine L.nil (X.seqN ?_)
  rcases ifS hm with ⟨hc, hm⟩ | ⟨hc, hm⟩
  ·refine E.cT R hc (ER (L.as Y R R (L.as Y R R (L.as Y R R (LN (E.ret (X.seqR ?_)))))))
   obtain rfl := oi hm
   exact X.rt (.inl R) Tryz.results11 (Rs.tmp R (Rs.tmp R (Rs.tmp R Rs.nil))) R ⟨_, (s9).ren N (fun _ => 0), R, R, m0.ren hNb, ⟨none, 0, R, RdL.nil⟩⟩
  refine E.cF R hc (E.skip (X.seqN (ER (L.as Y R R (LN (E.seq (ER (L.lg (j := 0) (cs := [.slice a1 p0.1.length c1, .int .i64 p0.2.1, .slice a2 p0.2.2.1.length c2, .slice a3 p0.2.2.2.length c3]) bx5.mem ag30 Y R R R R R ?_))))))))
  obtain ⟨r12, er12, hm⟩ := bindS hm
  refine L.ca cf36 R R Y R (m_blocking_kinds_c (s := s9) (p0 := p0) (u0 := 0) h1 h2 h3 er12) R ?_
  rintro _ s13 m14 ⟨a15, c15, rfl, h15⟩
  replace h15 := h15.p
  replace m0 := m0.trans m14.no
  replace bx5 := bx5.mv m14 no_No
  replace h1 := h1.mono m14.z
  replace h2 := h2.mono m14.z
  replace h3 := h3.mono m14.z
  refine L.len sl27 Y R R (L.mv Y R R (LN (E.block ?_)))
  obtain ⟨o35, eo35, hm⟩ := bindS hm
  refine E.cut (x := .exit 0) (fun e w => ∃ (s39 : Sig) (a37 : Option Addr) (c37 : Nat), Mv (Up N No) s s39 ∧ RowT qI s39 (N + 1) 3 a37 c37 o35 ∧ RdL qI s39 a1 c1 p0.1 ∧ RdL qI s39 a2 c2 p0.2.2.1 ∧ RdL qT s39 a3 c3 p0.2.2.2 ∧ Bx s39 (N + 0) b5 #[.slice a1 p0.1.length c1, .int .i64 p0.2.1, .slice a2 p0.2.2.1.length c2, .slice a3 p0.2.2.2.length c3] 30 ∧ e = [(8, .slice a37 o35.length c37), (2, .pointer (some ⟨b5, 0, none⟩))] ∧ w = s39.w) ?_ ?_
  ·rintro _ _ ⟨s39, a37, c37, m0, h37, h1, h2, h3, bx5, rfl, rfl⟩
   refine X.blkE (X.seqN (ER (L.lg (j := 0) (cs := [.slice a1 p0.1.length c1, .int .i64 p0.2.1, .slice a2 p0.2.2.1.length c2, .slice a3 p0.2.2.2.length c3]) bx5.mem ag30 Y R R R R R (L.mv Y R R ?_))))
   have m40 := Sig.fz_mv (N + 1) s39
   replace h37 := h37.fz (tgn hN)
   replace h1 := h1.mono (m40.le (tg0 hN))
   replace h2 := h2.mono (m40.le (tg0 hN))
   replace h3 := h3.mono (m40.le (tg0 hN))
   refine L.toR (s' := (Sig.fz (N + 1) s39)) R ?_
   obtain ⟨r41, er41, hm⟩ := bindS hm
   refine L.ca cf33 R R Y R (m_blocking_path_c (s := (Sig.fz (N + 1) s39)) (p0 := p0) (p1 := 0) (p2 := o35) h1 h2 h3 h37 er41) R ?_
   rintro _ s42 m43 ⟨a44, c44, rfl, h44⟩
   replace m0 := (m0.trans (m40.one up)).trans m43.no
   refine L.mv Y R R (L.ex Y R R R (L.ex Y R R R (L.as Y R R (L.as Y R R (LN (ER (L.mv Y R R (L.mv Y R R (L.as Y R R (L.as Y R R (L.as Y R R (LN (E.ret ?_)))))))))))))
   obtain rfl := oi hm
   exact X.rt (.inl R) Tryz.results11 (Rs.tmp R (Rs.tmp R (Rs.tmp R Rs.nil))) R ⟨_, (s42).ren N (fun _ => 0), R, R, m0.ren hNb, ⟨a44, c44, R, (h44.ren hN)⟩⟩
  intro K45
  refine E.iter (fun (st35 : Int × List Int) (e : List (Nat × Value)) (w : World) => ∃ (s38 : Sig) (a18 : Option Addr) (c18 : Nat), Mv (Up N No) s s38 ∧ RdL qI s38 a15 c15 r12 ∧ RowT qI s38 (N + 1) 3 a18 c18 st35.2 ∧ RdL qI s38 a1 c1 p0.1 ∧ RdL qI s38 a2 c2 p0.2.2.1 ∧ RdL qT s38 a3 c3 p0.2.2.2 ∧ Bx s38 (N + 0) b5 #[.slice a1 p0.1.length c1, .int .i64 p0.2.1, .slice a2 p0.2.2.1.length c2, .slice a3 p0.2.2.2.length c3] 30 ∧ e = [(25, .int .i64 st35.1), (24, .int .i64 (r12.length : Int)), (23, .slice a15 r12.length c15), (8, .slice a18 st35.2.length c18), (2, .pointer (some ⟨b5, 0, none⟩)), (1, .int .i64 p1)] ∧ w = s38.w) eo35 ⟨s13, none, 0, m0, h15, RowT.nil, h1, h2, h3, bx5, R, R⟩ (Sub.rf R) ?_
  rintro st35 res35 hm ih35 ho35 _ _ ⟨s38, a18, c18, m0, h15, h18, h1, h2, h3, bx5, rfl, rfl⟩
  unfold m_blocking_Escape_l1 at hm
  refine ER (L.bi Y R R R R (LN (E.seq ?_)))
  rcases ifS hm with ⟨hc, hm⟩ | ⟨hc, hm⟩
  ·refine E.cT R hc (E.skip (X.seqN (E.seqJ (fun e w => ∃ (s48 : Sig) (l46 : List Int) (a47 : Option Addr) (c47 : Nat), m_blocking_Escape_j1 st35 l46 = some res35 ∧ Mv (Up N No) s s48 ∧ RowT qI s48 (N + 1) 3 a47 c47 l46 ∧ RdL qI s48 a15 c15 r12 ∧ RdL qI s48 a1 c1 p0.1 ∧ RdL qI s48 a2 c2 p0.2.2.1 ∧ RdL qT s48 a3 c3 p0.2.2.2 ∧ Bx s48 (N + 0) b5 #[.slice a1 p0.1.length c1, .int .i64 p0.2.1, .slice a2 p0.2.2.1.length c2, .slice a3 p0.2.2.2.length c3] 30 ∧ e = [(8, .slice a47 l46.length c47), (25, .int .i64 st35.1), (24, .int .i64 (r12.length : Int)), (23, .slice a15 r12.length c15), (2, .pointer (some ⟨b5, 0, none⟩)), (1, .int .i64 p1)] ∧ w = s48.w) ?_ ?_)))
   ·rintro _ _ ⟨s48, l46, a47, c47, hm, m0, h47, h15, h1, h2, h3, bx5, rfl, rfl⟩
    unfold m_blocking_Escape_j1 at hm
    exact E.reg (L.bi Y R R R R (L.mv Y R R (L.nil (X.sub (ih35 _ (oi hm).symm _ _ ⟨s48, a47, c47, m0, h15, h47, h1, h2, h3, bx5, R, R⟩) (Sub.rf R)))))
   intro Jj49
   refine E.block (ER (L.mv Y R R ?_))
   obtain ⟨x50, ex50, hm⟩ := bindS hm
   refine L.ix (r := qI) sl27 h15 Y R R ex50 R fun b51 o51 cc51 me51 rd51 => ?_
   obtain rfl := rd51
   refine L.ld (j := 0) me51 nag3 Y R R R R (L.as Y R R (L.as Y R R (LN (ER (L.mv Y R R (L.mv Y R R (L.bi Y R R R R (L.nil (X.seqN ?_)))))))))
   rcases ifS hm with ⟨hc, hm⟩ | ⟨hc, hm⟩
   ·refine E.cT R hc (E.reg (L.mv Y R R (L.mv Y R R (L.bsE (k := 1) (cs := [.int .i64 st35.1]) 0 bs27 (nb R) Y R R R R fun b52 s53 m54 bx52 => ?_))))
    replace h18 := h18.mv m54 no_No no_No
    have h52 := Bx.rdL (r := qI) (xs := ([st35.1] : List Int)) bx52 ⟨[.int .i64 st35.1], _, R, R, R⟩ (nb R)
    obtain ⟨x55, ex55, hm⟩ := bindS hm
    refine L.ap (r := qI) Tryz.underlying27 el3 R (tgp hN) h18 h52.wk Y R R ex55 R fun a56 c56 s57 m58 h56 => ?_
    replace m0 := (m0.trans m54.no).trans (m58.one up)
    replace h15 := (h15.mono m54.z).mono (m58.le (tg0 hN))
    replace bx5 := (bx5.mv m54 no_No).mv m58 (tq R)
    replace h1 := (h1.mono m54.z).mono (m58.le (tg0 hN))
    replace h2 := (h2.mono m54.z).mono (m58.le (tg0 hN))
    replace h3 := (h3.mono m54.z).mono (m58.le (tg0 hN))
    exact L.as Y R R (L.nil (X.blkN (X.sub (Jj49 _ _ ⟨s57, x55, a56, c56, hm, m0, h56, h15, h1, h2, h3, bx5, R, R⟩) (Sub.rf R))))
   exact E.cF R hc (E.skip (X.blkN (X.sub (Jj49 _ _ ⟨s38, st35.2, a18, c18, hm, m0, h18, h15, h1, h2, h3, bx5, R, R⟩) (Sub.rf R))))
  refine E.cF R hc (E.exit (X.seqX (X.seqX ?_)))
  have hx := ho35 _ (oi hm).symm
  subst hx
  exact X.sub (K45 _ _ ⟨s38, a18, c18, m0, h18, h1, h2, h3, bx5, R, R⟩) (Sub.rf R)
 intro J59
 rcases Bool.eq_false_or_eq_true (decide (p1 < 1)) with hc | hc
 ·exact L.know (d := 18) R hc (L.skip R R R R (L.skip R R R R (L.pkT Y R R R R (L.sb (J59 _ _ ⟨true, (orT hc).symm, R, R⟩) R))))
 exact L.know (d := 18) R hc (L.mv (Wt.mk R R) R R (L.bi (Wt.mk R R) R R R R (L.pkF Y R R R R (L.sb (J59 _ _ ⟨(decide (p1 > 5)), (orF hc).symm, R, R⟩) R))))

theorem cf11 : Cf Tryz.prog 11 := Cf.mk Tryz.func11 (by kernel_rfl) (by kernel_rfl)
theorem cf13 : Cf Tryz.prog 13 := Cf.mk Tryz.func13 (by kernel_rfl) (by kernel_rfl)
theorem cf14 : Cf Tryz.prog 14 := Cf.mk Tryz.func14 (by kernel_rfl) (by kernel_rfl)
theorem cf15 : Cf Tryz.prog 15 := Cf.mk Tryz.func15 (by kernel_rfl) (by kernel_rfl)
theorem cf19 : Cf Tryz.prog 19 := Cf.mk Tryz.func19 (by kernel_rfl) (by kernel_rfl)
theorem cf20 : Cf Tryz.prog 20 := Cf.mk Tryz.func20 (by kernel_rfl) (by kernel_rfl)
theorem cf22 : Cf Tryz.prog 22 := Cf.mk Tryz.func22 (by kernel_rfl) (by kernel_rfl)
noncomputable def m_overseerlaw24_BlockingRefuses_j2 (r68 : List Int × Bool × Int) (n76 : Int) : Option Bool :=
 some ((r68.2.2 == n76) && ((n76 == 0) || (((r68.1.length : Int) == 0) && (!r68.2.1))))
noncomputable def m_overseerlaw24_BlockingRefuses_j1 (p2 : Int) (r16 : Int) (r64 : List Int × Bool × Int) (r68 : List Int × Bool × Int) (n72 : Int) : Option Bool :=
 if ((r64.2.2 != n72) || ((n72 != 0) && ((decide ((r64.1.length : Int) > 0)) || r64.2.1))) then
  some false
 else
  if ((r16 == 0) && ((decide (p2 < 1)) || (decide (p2 > 5)))) then
   m_overseerlaw24_BlockingRefuses_j2 r68 11
  else
   m_overseerlaw24_BlockingRefuses_j2 r68 r16
noncomputable def m_overseerlaw24_BlockingRefuses (p0 : AutT) (p1 : Int) (p2 : Int) : Option Bool :=
 (m_overseerlaw24_known).bind fun r7 =>
 (if (!r7) then
  some true
 else
  (m_overseerlaw24_few p0).bind fun r113 =>
  some (!r113)).bind fun b10 =>
 if b10 then
  (m_overseerlaw24_known).bind fun r13 =>
  some r13
 else
  (m_automaton_Check p0).bind fun r16 =>
  (m_blocking_Kinds p0).bind fun r19 =>
  (m_blocking_Ranks p0).bind fun r23 =>
  (m_blocking_Blocked p0).bind fun r27 =>
  (m_blocking_Traps p0).bind fun r31 =>
  if ((((r19.2 != r16) || (r23.2 != r16)) || (r27.2 != r16)) || (r31.2.2 != r16)) then
   some false
  else
   (m_product_Synchronous ([p0] : List AutT)).bind fun r42 =>
   (m_blocking_Nonblocking ([p0] : List AutT)).bind fun r57 =>
   (if (r57.2.2 != r42.2.2) then
    some true
   else
    (if (r42.2.2 != 0) then
     (m_blocking_Verify ([p0] : List AutT) ([] : List Int)).bind fun r106 =>
     some (r106 != r42.2.2)
    else
     some false).bind fun b99 =>
    some b99).bind fun b61 =>
   if b61 then
    some false
   else
    (m_blocking_Shortest p0 p1).bind fun r64 =>
    (m_blocking_Escape p0 p2).bind fun r68 =>
    if ((r16 == 0) && ((decide (p1 < 0)) || (decide (p1 ≥ p0.2.1)))) then
     m_overseerlaw24_BlockingRefuses_j1 p2 r16 r64 r68 2
    else
     m_overseerlaw24_BlockingRefuses_j1 p2 r16 r64 r68 r16
theorem m_overseerlaw24_BlockingRefuses_c {s : Sig} {p0 : AutT} {p1 : Int} {p2 : Int} {a1 : Option Addr} {c1 : Nat} {a2 : Option Addr} {c2 : Nat} {a3 : Option Addr} {c3 : Nat} {r : Bool} (h1 : RdL qI s a1 c1 p0.1) (h2 : RdL qI s a2 c2 p0.2.2.1) (h3 : RdL qT s a3 c3 p0.2.2.2) (hm : m_overseerlaw24_BlockingRefuses p0 p1 p2 = some r) :
    Calls Tryz.prog 4 #[.agg #[.slice a1 p0.1.length c1, .int .i64 p0.2.1, .slice a2 p0.2.2.1.length c2, .slice a3 p0.2.2.2.length c3], .int .i64 p1, .int .i64 p2] s.w (RetS No s fun v s' => v = .bool r) := by
 unfold m_overseerlaw24_BlockingRefuses at hm
 obtain ⟨N, hN, hNb⟩ := s.fresh
 have m0 : Mv (Up N No) s s := Mv.refl _ _
 refine E.entry Tryz.func4 R Tryz.ntmps4 R R (ER (L.box (N + 0) Y R R R fun b4 s5 m6 bx4 => ?_))
 refine L.as Y R R (LN (E.seq (E.seq (E.reg ?_))))
 obtain ⟨r7, er7, hm⟩ := bindS hm
 refine L.ca cf14 R R Y R (m_overseerlaw24_known_c (s := s5) er7) R ?_
 rintro _ s8 m9 rfl
 replace m0 := (m0.trans m6.no).trans m9.no
 replace bx4 := bx4.mv m9 no_No
 replace h1 := (h1.mono m6.z).mono m9.z
 replace h2 := (h2.mono m6.z).mono m9.z
 replace h3 := (h3.mono m6.z).mono m9.z
 refine L.not Y R R (L.mv Y R R ?_)
 obtain ⟨b10, eb10, hm⟩ := bindS hm
 refine L.cut 4 (fun e w => ∃ (s12 : Sig) (v11 : Bool), b10 = v11 ∧ Mv (Up N No) s s12 ∧ RdL qI s12 a1 c1 p0.1 ∧ RdL qI s12 a2 c2 p0.2.2.1 ∧ RdL qT s12 a3 c3 p0.2.2.2 ∧ Bx s12 (N + 0) b4 #[.slice a1 p0.1.length c1, .int .i64 p0.2.1, .slice a2 p0.2.2.1.length c2, .slice a3 p0.2.2.2.length c3] 30 ∧ e = (36, .bool v11) :: [(3, .pointer (some ⟨b4, 0, none⟩)), (1, .int .i64 p1), (2, .int .i64 p2)] ∧ w = s12.w) ?_ ?_
 ·rintro _ _ ⟨s12, v11, rfl, m0, h1, h2, h3, bx4, rfl, rfl⟩
  refine L.nil (X.seqN ?_)
  rcases ifS hm with ⟨hc, hm⟩ | ⟨hc, hm⟩
  ·refine E.cT R hc (E.seq (E.reg ?_))
   obtain ⟨r13, er13, hm⟩ := bindS hm
   refine L.ca cf14 R R Y R (m_overseerlaw24_known_c (s := s12) er13) R ?_
   rintro _ s14 m15 rfl
   replace m0 := m0.trans m15.no
   refine L.as Y R R (LN (E.ret (X.seqR ?_)))
   obtain rfl := oi hm
   exact X.rt (.inl R) Tryz.results4 (Rs.tmp R Rs.nil) R ⟨_, (s14).ren N (fun _ => 0), R, R, m0.ren hNb, R⟩
  refine E.cF R hc (E.skip (X.seqN (ER (L.lg (j := 0) (cs := [.slice a1 p0.1.length c1, .int .i64 p0.2.1, .slice a2 p0.2.2.1.length c2, .slice a3 p0.2.2.2.length c3]) bx4.mem ag30 Y R R R R R ?_))))
  obtain ⟨r16, er16, hm⟩ := bindS hm
  refine L.ca cf16 R R Y R (m_automaton_Check_c (s := s12) (p0 := p0) h1 h2 h3 er16) R ?_
  rintro _ s17 m18 rfl
  replace bx4 := bx4.mv m18 no_No
  replace h1 := h1.mono m18.z
  replace h2 := h2.mono m18.z
  replace h3 := h3.mono m18.z
  refine L.as Y R R (LN (ER (L.lg (j := 0) (cs := [.slice a1 p0.1.length c1, .int .i64 p0.2.1, .slice a2 p0.2.2.1.length c2, .slice a3 p0.2.2.2.length c3]) bx4.mem ag30 Y R R R R R ?_)))
  obtain ⟨r19, er19, hm⟩ := bindS hm
  refine L.ca cf17 R R Y R (m_blocking_Kinds_c (s := s17) (p0 := p0) (u0 := 0) h1 h2 h3 er19) R ?_
  rintro _ s20 m21 ⟨a22, c22, rfl, h22⟩
  replace h22 := h22.p
  replace bx4 := bx4.mv m21 no_No
  replace h1 := h1.mono m21.z
  replace h2 := h2.mono m21.z
  replace h3 := h3.mono m21.z
  refine L.mv Y R R (L.ex Y R R R (L.ex Y R R R (L.as Y R R (L.as Y R R (LN (ER (L.lg (j := 0) (cs := [.slice a1 p0.1.length c1, .int .i64 p0.2.1, .slice a2 p0.2.2.1.length c2, .slice a3 p0.2.2.2.length c3]) bx4.mem ag30 Y R R R R R ?_)))))))
  obtain ⟨r23, er23, hm⟩ := bindS hm
  refine L.ca cf18 R R Y R (m_blocking_Ranks_c (s := s20) (p0 := p0) (u0 := 0) h1 h2 h3 er23) R ?_
  rintro _ s24 m25 ⟨a26, c26, rfl, h26⟩
  replace h26 := h26.p
  replace bx4 := bx4.mv m25 no_No
  replace h1 := h1.mono m25.z
  replace h2 := h2.mono m25.z
  replace h3 := h3.mono m25.z
  refine L.mv Y R R (L.ex Y R R R (L.ex Y R R R (L.as Y R R (L.as Y R R (LN (ER (L.lg (j := 0) (cs := [.slice a1 p0.1.length c1, .int .i64 p0.2.1, .slice a2 p0.2.2.1.length c2, .slice a3 p0.2.2.2.length c3]) bx4.mem ag30 Y R R R R R ?_)))))))
  obtain ⟨r27, er27, hm⟩ := bindS hm
  refine L.ca cf19 R R Y R (m_blocking_Blocked_c (s := s24) (p0 := p0) (u0 := 0) h1 h2 h3 er27) R ?_
  rintro _ s28 m29 ⟨a30, c30, rfl, h30⟩
  replace h30 := h30.p
  replace bx4 := bx4.mv m29 no_No
  replace h1 := h1.mono m29.z
  replace h2 := h2.mono m29.z
  replace h3 := h3.mono m29.z
  refine L.mv Y R R (L.ex Y R R R (L.ex Y R R R (L.as Y R R (L.as Y R R (LN (ER (L.lg (j := 0) (cs := [.slice a1 p0.1.length c1, .int .i64 p0.2.1, .slice a2 p0.2.2.1.length c2, .slice a3 p0.2.2.2.length c3]) bx4.mem ag30 Y R R R R R ?_)))))))
  obtain ⟨r31, er31, hm⟩ := bindS hm
  refine L.ca cf20 R R Y R (m_blocking_Traps_c (s := s28) (p0 := p0) (u0 := 0) (u1 := 0) h1 h2 h3 er31) R ?_
  rintro _ s32 m33 ⟨a34, c34, a35, c35, rfl, h34, h35⟩
  replace h34 := h34.p
  replace h35 := h35.p
  replace m0 := ((((m0.trans m18.no).trans m21.no).trans m25.no).trans m29.no).trans m33.no
  replace bx4 := bx4.mv m33 no_No
  replace h1 := h1.mono m33.z
  replace h2 := h2.mono m33.z
  replace h3 := h3.mono m33.z
  refine L.mv Y R R (L.ex Y R R R (L.ex Y R R R (L.ex Y R R R (L.as Y R R (L.as Y R R (L.as Y R R (LN (E.seq (ER (L.mv Y R R (L.mv Y R R (L.bi Y R R R R (L.mv Y R R (L.cut 4 (fun e w => ∃ (v36 : Bool), ((r19.2 != r16) || (r23.2 != r16)) = v36 ∧ e = (68, .bool v36) :: [(16, .int .i64 r31.2.2), (13, .int .i64 r27.2), (7, .int .i64 r16), (3, .pointer (some ⟨b4, 0, none⟩)), (1, .int .i64 p1), (2, .int .i64 p2)] ∧ w = s32.w) ?_ ?_))))))))))))))
  ·rintro _ _ ⟨v36, rfl, rfl, rfl⟩
   refine L.mv Y R R (L.cut 4 (fun e w => ∃ (v37 : Bool), (((r19.2 != r16) || (r23.2 != r16)) || (r27.2 != r16)) = v37 ∧ e = (73, .bool v37) :: [(16, .int .i64 r31.2.2), (7, .int .i64 r16), (3, .pointer (some ⟨b4, 0, none⟩)), (1, .int .i64 p1), (2, .int .i64 p2)] ∧ w = s32.w) ?_ ?_)
   ·rintro _ _ ⟨v37, rfl, rfl, rfl⟩
    refine L.mv Y R R (L.cut 4 (fun e w => ∃ (v38 : Bool), ((((r19.2 != r16) || (r23.2 != r16)) || (r27.2 != r16)) || (r31.2.2 != r16)) = v38 ∧ e = (78, .bool v38) :: [(7, .int .i64 r16), (3, .pointer (some ⟨b4, 0, none⟩)), (1, .int .i64 p1), (2, .int .i64 p2)] ∧ w = s32.w) ?_ ?_)
    ·rintro _ _ ⟨v38, rfl, rfl, rfl⟩
     refine L.nil (X.seqN ?_)
     rcases ifS hm with ⟨hc, hm⟩ | ⟨hc, hm⟩
     ·refine E.cT R hc (ER (L.as Y R R (LN (E.ret (X.seqR ?_)))))
      obtain rfl := oi hm
      exact X.rt (.inl R) Tryz.results4 (Rs.tmp R Rs.nil) R ⟨_, (s32).ren N (fun _ => 0), R, R, m0.ren hNb, R⟩
     refine E.cF R hc (E.skip (X.seqN (ER (L.lg (j := 0) (cs := [.slice a1 p0.1.length c1, .int .i64 p0.2.1, .slice a2 p0.2.2.1.length c2, .slice a3 p0.2.2.2.length c3]) bx4.mem ag30 Y R R R R R (L.bsE (k := 1) (cs := [.slice a1 p0.1.length c1, .int .i64 p0.2.1, .slice a2 p0.2.2.1.length c2, .slice a3 p0.2.2.2.length c3]) 0 bs37 (nb R) Y R R R R fun b39 s40 m41 bx39 => ?_)))))
     replace h1 := h1.mono m41.z
     replace h2 := h2.mono m41.z
     replace h3 := h3.mono m41.z
     have h39 := Bx.rdL (r := (rP (rL qI) (rP qI (rP (rL qI) (rL qT))))) (xs := ([p0] : List AutT)) bx39 ⟨[.slice a1 p0.1.length c1, .int .i64 p0.2.1, .slice a2 p0.2.2.1.length c2, .slice a3 p0.2.2.2.length c3], _, R, ⟨[.slice a1 p0.1.length c1], [.int .i64 p0.2.1, .slice a2 p0.2.2.1.length c2, .slice a3 p0.2.2.2.length c3], R, ⟨_, _, R, h1⟩, ⟨[.int .i64 p0.2.1], [.slice a2 p0.2.2.1.length c2, .slice a3 p0.2.2.2.length c3], R, R, ⟨[.slice a2 p0.2.2.1.length c2], [.slice a3 p0.2.2.2.length c3], R, ⟨_, _, R, h2⟩, ⟨_, _, R, h3⟩⟩⟩⟩, R⟩ (nb R)
     obtain ⟨r42, er42, hm⟩ := bindS hm
     refine L.ca cf21 R R Y R (m_product_Synchronous_c (s := s40) (p0 := ([p0] : List AutT)) (u1 := 0) (u2 := 0) (u3 := 0) h39 er42) R ?_
     rintro _ s43 m44 ⟨a45, c45, a46, c46, a47, c47, a48, c48, rfl, h45, h46, h47, h48⟩
     replace h46 := h46.p
     replace h47 := h47.p
     replace h48 := h48.p
     refine L.mv Y R R (L.ex Y R R R (L.ex Y R R R (L.ex Y R R R (L.al (N + 1) zz30 R Y R fun b49 s50 m51 bx49 => ?_))))
     refine L.st (c := [.slice a45 r42.1.1.length c45, .int .i64 r42.1.2.1, .slice a46 r42.1.2.2.1.length c46, .slice a47 r42.1.2.2.2.length c47]) (cs' := #[.slice a45 r42.1.1.length c45, .int .i64 r42.1.2.1, .slice a46 r42.1.2.2.1.length c46, .slice a47 r42.1.2.2.2.length c47]) bx49 ag30.sz Y R R R R R (nb R) R fun s52 m53 bx49 => ?_
     replace bx4 := (((bx4.mv m41 no_No).mv m44 no_No).mv m51 no_No).mv m53 (tq R)
     refine L.as Y R R (L.as Y R R (LN (ER (L.lg (j := 0) (cs := [.slice a1 p0.1.length c1, .int .i64 p0.2.1, .slice a2 p0.2.2.1.length c2, .slice a3 p0.2.2.2.length c3]) bx4.mem ag30 Y R R R R R (L.bsE (k := 1) (cs := [.slice a1 p0.1.length c1, .int .i64 p0.2.1, .slice a2 p0.2.2.1.length c2, .slice a3 p0.2.2.2.length c3]) 0 bs37 (nb R) Y R R R R fun b54 s55 m56 bx54 => ?_)))))
     replace h1 := (((h1.mono m44.z).mono m51.z).mono (m53.le (tg0 hN))).mono m56.z
     replace h2 := (((h2.mono m44.z).mono m51.z).mono (m53.le (tg0 hN))).mono m56.z
     replace h3 := (((h3.mono m44.z).mono m51.z).mono (m53.le (tg0 hN))).mono m56.z
     have h54 := Bx.rdL (r := (rP (rL qI) (rP qI (rP (rL qI) (rL qT))))) (xs := ([p0] : List AutT)) bx54 ⟨[.slice a1 p0.1.length c1, .int .i64 p0.2.1, .slice a2 p0.2.2.1.length c2, .slice a3 p0.2.2.2.length c3], _, R, ⟨[.slice a1 p0.1.length c1], [.int .i64 p0.2.1, .slice a2 p0.2.2.1.length c2, .slice a3 p0.2.2.2.length c3], R, ⟨_, _, R, h1⟩, ⟨[.int .i64 p0.2.1], [.slice a2 p0.2.2.1.length c2, .slice a3 p0.2.2.2.length c3], R, R, ⟨[.slice a2 p0.2.2.1.length c2], [.slice a3 p0.2.2.2.length c3], R, ⟨_, _, R, h2⟩, ⟨_, _, R, h3⟩⟩⟩⟩, R⟩ (nb R)
     obtain ⟨r57, er57, hm⟩ := bindS hm
     refine L.ca cf10 R R Y R (m_blocking_Nonblocking_c (s := s55) (p0 := ([p0] : List AutT)) h54 er57) R ?_
     rintro _ s58 m59 ⟨a60, c60, rfl, h60⟩
     replace m0 := (((((m0.trans m41.no).trans m44.no).trans m51.no).trans (m53.one up)).trans m56.no).trans m59.no
     replace bx4 := (bx4.mv m56 no_No).mv m59 no_No
     replace h1 := h1.mono m59.z
     replace h2 := h2.mono m59.z
     replace h3 := h3.mono m59.z
     refine L.mv Y R R (L.ex Y R R R (L.ex Y R R R (L.ex Y R R R (L.as Y R R (L.as Y R R (L.as Y R R (LN (E.seq (ER (L.mv Y R R (L.mv Y R R (L.bi Y R R R R (L.mv Y R R ?_)))))))))))))
     obtain ⟨b61, eb61, hm⟩ := bindS hm
     refine L.cut 10 (fun e w => ∃ (s63 : Sig) (v62 : Bool), b61 = v62 ∧ Mv (Up N No) s s63 ∧ RdL qI s63 a1 c1 p0.1 ∧ RdL qI s63 a2 c2 p0.2.2.1 ∧ RdL qT s63 a3 c3 p0.2.2.2 ∧ Bx s63 (N + 0) b4 #[.slice a1 p0.1.length c1, .int .i64 p0.2.1, .slice a2 p0.2.2.1.length c2, .slice a3 p0.2.2.2.length c3] 30 ∧ e = (106, .bool v62) :: [(7, .int .i64 r16), (3, .pointer (some ⟨b4, 0, none⟩)), (1, .int .i64 p1), (2, .int .i64 p2)] ∧ w = s63.w) ?_ ?_
     ·rintro _ _ ⟨s63, v62, rfl, m0, h1, h2, h3, bx4, rfl, rfl⟩
      refine L.nil (X.seqN ?_)
      rcases ifS hm with ⟨hc, hm⟩ | ⟨hc, hm⟩
      ·refine E.cT R hc (ER (L.as Y R R (LN (E.ret (X.seqR ?_)))))
       obtain rfl := oi hm
       exact X.rt (.inl R) Tryz.results4 (Rs.tmp R Rs.nil) R ⟨_, (s63).ren N (fun _ => 0), R, R, m0.ren hNb, R⟩
      refine E.cF R hc (E.skip (X.seqN (ER (L.lg (j := 0) (cs := [.slice a1 p0.1.length c1, .int .i64 p0.2.1, .slice a2 p0.2.2.1.length c2, .slice a3 p0.2.2.2.length c3]) bx4.mem ag30 Y R R R R R (L.mv Y R R ?_)))))
      obtain ⟨r64, er64, hm⟩ := bindS hm
      refine L.ca cf13 R R Y R (m_blocking_Shortest_c (s := s63) (p0 := p0) (p1 := p1) h1 h2 h3 er64) R ?_
      rintro _ s65 m66 ⟨a67, c67, rfl, h67⟩
      replace bx4 := bx4.mv m66 no_No
      replace h1 := h1.mono m66.z
      replace h2 := h2.mono m66.z
      replace h3 := h3.mono m66.z
      refine L.mv Y R R (L.ex Y R R R (L.ex Y R R R (L.ex Y R R R (L.as Y R R (L.as Y R R (L.as Y R R (LN (ER (L.lg (j := 0) (cs := [.slice a1 p0.1.length c1, .int .i64 p0.2.1, .slice a2 p0.2.2.1.length c2, .slice a3 p0.2.2.2.length c3]) bx4.mem ag30 Y R R R R R (L.mv Y R R ?_))))))))))
      obtain ⟨r68, er68, hm⟩ := bindS hm
      refine L.ca cf11 R R Y R (m_blocking_Escape_c (s := s65) (p0 := p0) (p1 := p2) h1 h2 h3 er68) R ?_
      rintro _ s69 m70 ⟨a71, c71, rfl, h71⟩
      replace m0 := (m0.trans m66.no).trans m70.no
      replace h67 := h67.mono m70.z
      replace bx4 := bx4.mv m70 no_No
      refine L.mv Y R R (L.ex Y R R R (L.ex Y R R R (L.ex Y R R R (L.as Y R R (L.as Y R R (L.as Y R R (LN (ER (L.mv Y R R (L.as Y R R (LN (E.seqJ (fun e w => ∃ (s73 : Sig) (n72 : Int), m_overseerlaw24_BlockingRefuses_j1 p2 r16 r64 r68 n72 = some r ∧ Mv (Up N No) s s73 ∧ RdL qI s73 a71 c71 r68.1 ∧ RdL qI s73 a67 c67 r64.1 ∧ e = [(29, .int .i64 n72), (28, .int .i64 r68.2.2), (27, .bool r68.2.1), (26, .slice a71 r68.1.length c71), (25, .int .i64 r64.2.2), (24, .bool r64.2.1), (23, .slice a67 r64.1.length c67), (7, .int .i64 r16), (2, .int .i64 p2)] ∧ w = s73.w) ?_ ?_))))))))))))
      ·rintro _ _ ⟨s73, n72, hm, m0, h71, h67, rfl, rfl⟩
       unfold m_overseerlaw24_BlockingRefuses_j1 at hm
       refine E.seq (ER (L.mv Y R R (L.mv Y R R (L.bi Y R R R R (L.mv Y R R (L.cut 11 (fun e w => ∃ (v75 : Bool), ((r64.2.2 != n72) || ((n72 != 0) && ((decide ((r64.1.length : Int) > 0)) || r64.2.1))) = v75 ∧ e = (148, .bool v75) :: [(28, .int .i64 r68.2.2), (27, .bool r68.2.1), (26, .slice a71 r68.1.length c71), (7, .int .i64 r16), (2, .int .i64 p2)] ∧ w = s73.w) ?_ ?_))))))
       ·rintro _ _ ⟨v75, rfl, rfl, rfl⟩
        refine L.nil (X.seqN ?_)
        rcases ifS hm with ⟨hc, hm⟩ | ⟨hc, hm⟩
        ·refine E.cT R hc (ER (L.as Y R R (LN (E.ret (X.seqR ?_)))))
         obtain rfl := oi hm
         exact X.rt (.inl R) Tryz.results4 (Rs.tmp R Rs.nil) R ⟨_, (s73).ren N (fun _ => 0), R, R, m0.ren hNb, R⟩
        refine E.cF R hc (E.skip (X.seqN (ER (L.mv Y R R (L.as Y R R (LN (E.seqJ (fun e w => ∃ (s77 : Sig) (n76 : Int), m_overseerlaw24_BlockingRefuses_j2 r68 n76 = some r ∧ Mv (Up N No) s s77 ∧ RdL qI s77 a71 c71 r68.1 ∧ e = [(29, .int .i64 n76), (28, .int .i64 r68.2.2), (27, .bool r68.2.1), (26, .slice a71 r68.1.length c71)] ∧ w = s77.w) ?_ ?_)))))))
        ·rintro _ _ ⟨s77, n76, hm, m0, h71, rfl, rfl⟩
         unfold m_overseerlaw24_BlockingRefuses_j2 at hm
         refine ER (L.mv Y R R (L.mv Y R R (L.bi Y R R R R (L.mv Y R R (L.cut 12 (fun e w => ∃ (v79 : Bool), ((r68.2.2 == n76) && ((n76 == 0) || (((r68.1.length : Int) == 0) && (!r68.2.1)))) = v79 ∧ e = (175, .bool v79) :: [] ∧ w = s77.w) ?_ ?_)))))
         ·rintro _ _ ⟨v79, rfl, rfl, rfl⟩
          refine L.as Y R R (LN (E.ret ?_))
          obtain rfl := oi hm
          exact X.rt (.inl R) Tryz.results4 (Rs.tmp R Rs.nil) R ⟨_, (s77).ren N (fun _ => 0), R, R, m0.ren hNb, R⟩
         intro J80
         rcases Bool.eq_false_or_eq_true (r68.2.2 == n76) with hc | hc
         ·refine L.know (d := 163) R hc (L.mv (Wt.mk R R) R R (L.bi (Wt.mk R R) R R R R (L.mv (Wt.mk R R) R R (L.cut 8 (fun e w => ∃ (v81 : Bool), ((n76 == 0) || (((r68.1.length : Int) == 0) && (!r68.2.1))) = v81 ∧ e = (174, .bool v81) :: [(163, .bool true)] ∧ w = s77.w) ?_ ?_))))
          ·rintro _ _ ⟨v81, rfl, rfl, rfl⟩
           exact L.pkT Y R R R R (L.sb (J80 _ _ ⟨((n76 == 0) || (((r68.1.length : Int) == 0) && (!r68.2.1))), (andT hc).symm, R, R⟩) R)
          intro J82
          rcases Bool.eq_false_or_eq_true (n76 == 0) with hc | hc
          ·exact L.know (d := 166) R hc (L.skip R R R R (L.skip R R R R (L.skip R R R R (L.skip R R R R (L.skipU R R R (L.skipU R R R (L.skip R R R R (L.pkT (Wt.mk R R) R R R R (L.sb (J82 _ _ ⟨true, (orT hc).symm, R, R⟩) R)))))))))
          refine L.know (d := 166) R hc (L.mv (Wt.mk R R) R R (L.len sl27 (Wt.mk R R) R R (L.bi (Wt.mk R R) R R R R (L.mv (Wt.mk R R) R R (L.cut 3 (fun e w => ∃ (v83 : Bool), (((r68.1.length : Int) == 0) && (!r68.2.1)) = v83 ∧ e = (173, .bool v83) :: [(166, .bool false), (163, .bool true)] ∧ w = s77.w) ?_ ?_)))))
          ·rintro _ _ ⟨v83, rfl, rfl, rfl⟩
           exact L.pkF (Wt.mk R R) R R R R (L.sb (J82 _ _ ⟨(((r68.1.length : Int) == 0) && (!r68.2.1)), (orF hc).symm, R, R⟩) R)
          intro J84
          rcases Bool.eq_false_or_eq_true ((r68.1.length : Int) == 0) with hc | hc
          ·exact L.know (d := 170) R hc (L.mv (Wt.mk R R) R R (L.not (Wt.mk R R) R R (L.pkT (Wt.mk R R) R R R R (L.sb (J84 _ _ ⟨(!r68.2.1), (andT hc).symm, R, R⟩) R))))
          exact L.know (d := 170) R hc (L.skip R R R R (L.skip R R R R (L.pkF (Wt.mk R R) R R R R (L.sb (J84 _ _ ⟨false, (andF hc).symm, R, R⟩) R))))
         exact L.know (d := 163) R hc (L.skip R R R R (L.skip R R R R (L.skip R R R R (L.skipU R R R (L.skipU R R R (L.skipU R R R (L.skipU R R R (L.skipU R R R (L.skipU R R R (L.skipU R R R (L.skip R R R R (L.pkF Y R R R R (L.sb (J80 _ _ ⟨false, (andF hc).symm, R, R⟩) R)))))))))))))
        intro Jj78
        refine ER (L.mv Y R R (L.bi Y R R R R (L.mv Y R R (L.cut 7 (fun e w => ∃ (v85 : Bool), ((r16 == 0) && ((decide (p2 < 1)) || (decide (p2 > 5)))) = v85 ∧ e = (159, .bool v85) :: [(29, .int .i64 r16), (28, .int .i64 r68.2.2), (27, .bool r68.2.1), (26, .slice a71 r68.1.length c71)] ∧ w = s73.w) ?_ ?_))))
        ·rintro _ _ ⟨v85, rfl, rfl, rfl⟩
         refine L.nil (X.seqN ?_)
         rcases ifS hm with ⟨hc, hm⟩ | ⟨hc, hm⟩
         ·exact E.cT R hc (E.reg (L.as Y R R (L.nil (X.sub (Jj78 _ _ ⟨s73, 11, hm, m0, h71, R, R⟩) (Sub.rf R)))))
         exact E.cF R hc (E.skip (X.sub (Jj78 _ _ ⟨s73, r16, hm, m0, h71, R, R⟩) (Sub.rf R)))
        intro J86
        rcases Bool.eq_false_or_eq_true (r16 == 0) with hc | hc
        ·refine L.know (d := 152) R hc (L.mv (Wt.mk R R) R R (L.bi (Wt.mk R R) R R R R (L.mv (Wt.mk R R) R R (L.cut 3 (fun e w => ∃ (v87 : Bool), ((decide (p2 < 1)) || (decide (p2 > 5))) = v87 ∧ e = (158, .bool v87) :: [(152, .bool true), (29, .int .i64 r16), (28, .int .i64 r68.2.2), (27, .bool r68.2.1), (26, .slice a71 r68.1.length c71)] ∧ w = s73.w) ?_ ?_))))
         ·rintro _ _ ⟨v87, rfl, rfl, rfl⟩
          exact L.pkT Y R R R R (L.sb (J86 _ _ ⟨((decide (p2 < 1)) || (decide (p2 > 5))), (andT hc).symm, R, R⟩) R)
         intro J88
         rcases Bool.eq_false_or_eq_true (decide (p2 < 1)) with hc | hc
         ·exact L.know (d := 155) R hc (L.skip R R R R (L.skip R R R R (L.pkT (Wt.mk R R) R R R R (L.sb (J88 _ _ ⟨true, (orT hc).symm, R, R⟩) R))))
         exact L.know (d := 155) R hc (L.mv (Wt.mk R R) R R (L.bi (Wt.mk R R) R R R R (L.pkF (Wt.mk R R) R R R R (L.sb (J88 _ _ ⟨(decide (p2 > 5)), (orF hc).symm, R, R⟩) R))))
        exact L.know (d := 152) R hc (L.skip R R R R (L.skip R R R R (L.skip R R R R (L.skipU R R R (L.skipU R R R (L.skip R R R R (L.pkF Y R R R R (L.sb (J86 _ _ ⟨false, (andF hc).symm, R, R⟩) R))))))))
       intro J89
       rcases Bool.eq_false_or_eq_true (r64.2.2 != n72) with hc | hc
       ·exact L.know (d := 137) R hc (L.skip R R R R (L.skip R R R R (L.skip R R R R (L.skipU R R R (L.skipU R R R (L.skipU R R R (L.skipU R R R (L.skipU R R R (L.skipU R R R (L.skip R R R R (L.pkT Y R R R R (L.sb (J89 _ _ ⟨true, (orT hc).symm, R, R⟩) R))))))))))))
       refine L.know (d := 137) R hc (L.mv (Wt.mk R R) R R (L.bi (Wt.mk R R) R R R R (L.mv (Wt.mk R R) R R (L.cut 7 (fun e w => ∃ (v90 : Bool), ((n72 != 0) && ((decide ((r64.1.length : Int) > 0)) || r64.2.1)) = v90 ∧ e = (147, .bool v90) :: [(137, .bool false), (28, .int .i64 r68.2.2), (27, .bool r68.2.1), (26, .slice a71 r68.1.length c71), (7, .int .i64 r16), (2, .int .i64 p2)] ∧ w = s73.w) ?_ ?_))))
       ·rintro _ _ ⟨v90, rfl, rfl, rfl⟩
        exact L.pkF Y R R R R (L.sb (J89 _ _ ⟨((n72 != 0) && ((decide ((r64.1.length : Int) > 0)) || r64.2.1)), (orF hc).symm, R, R⟩) R)
       intro J91
       rcases Bool.eq_false_or_eq_true (n72 != 0) with hc | hc
       ·refine L.know (d := 140) R hc (L.mv (Wt.mk R R) R R (L.len sl27 (Wt.mk R R) R R (L.bi (Wt.mk R R) R R R R (L.mv (Wt.mk R R) R R (L.cut 2 (fun e w => ∃ (v92 : Bool), ((decide ((r64.1.length : Int) > 0)) || r64.2.1) = v92 ∧ e = (146, .bool v92) :: [(140, .bool true), (137, .bool false), (28, .int .i64 r68.2.2), (27, .bool r68.2.1), (26, .slice a71 r68.1.length c71), (7, .int .i64 r16), (2, .int .i64 p2)] ∧ w = s73.w) ?_ ?_)))))
        ·rintro _ _ ⟨v92, rfl, rfl, rfl⟩
         exact L.pkT (Wt.mk R R) R R R R (L.sb (J91 _ _ ⟨((decide ((r64.1.length : Int) > 0)) || r64.2.1), (andT hc).symm, R, R⟩) R)
        intro J93
        rcases Bool.eq_false_or_eq_true (decide ((r64.1.length : Int) > 0)) with hc | hc
        ·exact L.know (d := 144) R hc (L.skip R R R R (L.pkT (Wt.mk R R) R R R R (L.sb (J93 _ _ ⟨true, (orT hc).symm, R, R⟩) R)))
        exact L.know (d := 144) R hc (L.mv (Wt.mk R R) R R (L.pkF (Wt.mk R R) R R R R (L.sb (J93 _ _ ⟨r64.2.1, (orF hc).symm, R, R⟩) R)))
       exact L.know (d := 140) R hc (L.skip R R R R (L.skip R R R R (L.skip R R R R (L.skip R R R R (L.skipU R R R (L.skip R R R R (L.pkF (Wt.mk R R) R R R R (L.sb (J91 _ _ ⟨false, (andF hc).symm, R, R⟩) R))))))))
      intro Jj74
      refine ER (L.mv Y R R (L.bi Y R R R R (L.mv Y R R (L.cut 9 (fun e w => ∃ (v94 : Bool), ((r16 == 0) && ((decide (p1 < 0)) || (decide (p1 ≥ p0.2.1)))) = v94 ∧ e = (133, .bool v94) :: [(29, .int .i64 r16), (28, .int .i64 r68.2.2), (27, .bool r68.2.1), (26, .slice a71 r68.1.length c71), (25, .int .i64 r64.2.2), (24, .bool r64.2.1), (23, .slice a67 r64.1.length c67), (7, .int .i64 r16), (2, .int .i64 p2)] ∧ w = s69.w) ?_ ?_))))
      ·rintro _ _ ⟨v94, rfl, rfl, rfl⟩
       refine L.nil (X.seqN ?_)
       rcases ifS hm with ⟨hc, hm⟩ | ⟨hc, hm⟩
       ·exact E.cT R hc (E.reg (L.as Y R R (L.nil (X.sub (Jj74 _ _ ⟨s69, 2, hm, m0, h71, h67, R, R⟩) (Sub.rf R)))))
       exact E.cF R hc (E.skip (X.sub (Jj74 _ _ ⟨s69, r16, hm, m0, h71, h67, R, R⟩) (Sub.rf R)))
      intro J95
      rcases Bool.eq_false_or_eq_true (r16 == 0) with hc | hc
      ·refine L.know (d := 124) R hc (L.mv (Wt.mk R R) R R (L.bi (Wt.mk R R) R R R R (L.mv (Wt.mk R R) R R (L.cut 5 (fun e w => ∃ (v96 : Bool), ((decide (p1 < 0)) || (decide (p1 ≥ p0.2.1))) = v96 ∧ e = (132, .bool v96) :: [(124, .bool true), (29, .int .i64 r16), (28, .int .i64 r68.2.2), (27, .bool r68.2.1), (26, .slice a71 r68.1.length c71), (25, .int .i64 r64.2.2), (24, .bool r64.2.1), (23, .slice a67 r64.1.length c67), (7, .int .i64 r16), (2, .int .i64 p2)] ∧ w = s69.w) ?_ ?_))))
       ·rintro _ _ ⟨v96, rfl, rfl, rfl⟩
        exact L.pkT Y R R R R (L.sb (J95 _ _ ⟨((decide (p1 < 0)) || (decide (p1 ≥ p0.2.1))), (andT hc).symm, R, R⟩) R)
       intro J97
       rcases Bool.eq_false_or_eq_true (decide (p1 < 0)) with hc | hc
       ·exact L.know (d := 127) R hc (L.skip R R R R (L.skip R R R R (L.skip R R R R (L.skip R R R R (L.pkT (Wt.mk R R) R R R R (L.sb (J97 _ _ ⟨true, (orT hc).symm, R, R⟩) R))))))
       exact L.know (d := 127) R hc (L.mv (Wt.mk R R) R R (L.fa fa30_1 (Wt.mk R R) R R (L.ld (j := 1) bx4.mem nag3 (Wt.mk R R) R R R R (L.bi (Wt.mk R R) R R R R (L.pkF (Wt.mk R R) R R R R (L.sb (J97 _ _ ⟨(decide (p1 ≥ p0.2.1)), (orF hc).symm, R, R⟩) R))))))
      exact L.know (d := 124) R hc (L.skip R R R R (L.skip R R R R (L.skip R R R R (L.skipU R R R (L.skipU R R R (L.skipU R R R (L.skipU R R R (L.skip R R R R (L.pkF Y R R R R (L.sb (J95 _ _ ⟨false, (andF hc).symm, R, R⟩) R))))))))))
     intro J98
     rcases ifS eb61 with ⟨hc, hm⟩ | ⟨hc, hm⟩
     ·exact L.know (d := 96) R hc (L.skip R R R R (L.skip R R R R (L.skip R R R R (L.skipU R R R (L.skipU R R R (L.skipU R R R (L.skipU R R R (L.skipU R R R (L.skip R R R R (L.pkT Y R R R R (L.sb (J98 _ _ ⟨s58, true, (oi hm).symm, m0, h1, h2, h3, bx4, R, R⟩) R)))))))))))
     refine L.know (d := 96) R hc (L.mv (Wt.mk R R) R R (L.bi (Wt.mk R R) R R R R (L.mv (Wt.mk R R) R R ?_)))
     obtain ⟨b99, eb99, hm⟩ := bindS hm
     refine L.cut 6 (fun e w => ∃ (s101 : Sig) (v100 : Bool), b99 = v100 ∧ Mv (Up N No) s s101 ∧ RdL qI s101 a1 c1 p0.1 ∧ RdL qI s101 a2 c2 p0.2.2.1 ∧ RdL qT s101 a3 c3 p0.2.2.2 ∧ Bx s101 (N + 0) b4 #[.slice a1 p0.1.length c1, .int .i64 p0.2.1, .slice a2 p0.2.2.1.length c2, .slice a3 p0.2.2.2.length c3] 30 ∧ e = (105, .bool v100) :: [(96, .bool false), (7, .int .i64 r16), (3, .pointer (some ⟨b4, 0, none⟩)), (1, .int .i64 p1), (2, .int .i64 p2)] ∧ w = s101.w) ?_ ?_
     ·rintro _ _ ⟨s101, v100, rfl, m0, h1, h2, h3, bx4, rfl, rfl⟩
      exact L.pkF Y R R R R (L.sb (J98 _ _ ⟨s101, b99, (oi hm).symm, m0, h1, h2, h3, bx4, R, R⟩) R)
     intro J102
     rcases ifS eb99 with ⟨hc, hm⟩ | ⟨hc, hm⟩
     ·refine L.know (d := 99) R hc (L.lg (j := 0) (cs := [.slice a1 p0.1.length c1, .int .i64 p0.2.1, .slice a2 p0.2.2.1.length c2, .slice a3 p0.2.2.2.length c3]) bx4.mem ag30 (Wt.mk R R) R R R R R (L.bsE (k := 1) (cs := [.slice a1 p0.1.length c1, .int .i64 p0.2.1, .slice a2 p0.2.2.1.length c2, .slice a3 p0.2.2.2.length c3]) 0 bs37 (nb R) (Wt.mk R R) R R R R fun b103 s104 m105 bx103 => ?_))
      replace h1 := h1.mono m105.z
      replace h2 := h2.mono m105.z
      replace h3 := h3.mono m105.z
      have h103 := Bx.rdL (r := (rP (rL qI) (rP qI (rP (rL qI) (rL qT))))) (xs := ([p0] : List AutT)) bx103 ⟨[.slice a1 p0.1.length c1, .int .i64 p0.2.1, .slice a2 p0.2.2.1.length c2, .slice a3 p0.2.2.2.length c3], _, R, ⟨[.slice a1 p0.1.length c1], [.int .i64 p0.2.1, .slice a2 p0.2.2.1.length c2, .slice a3 p0.2.2.2.length c3], R, ⟨_, _, R, h1⟩, ⟨[.int .i64 p0.2.1], [.slice a2 p0.2.2.1.length c2, .slice a3 p0.2.2.2.length c3], R, R, ⟨[.slice a2 p0.2.2.1.length c2], [.slice a3 p0.2.2.2.length c3], R, ⟨_, _, R, h2⟩, ⟨_, _, R, h3⟩⟩⟩⟩, R⟩ (nb R)
      obtain ⟨r106, er106, hm⟩ := bindS hm
      refine L.ca cf22 R R (Wt.mk R R) R (m_blocking_Verify_c (s := s104) (p0 := ([p0] : List AutT)) (p1 := ([] : List Int)) h103 RdL.nil er106) R ?_
      rintro _ s107 m108 rfl
      replace m0 := (m0.trans m105.no).trans m108.no
      replace bx4 := (bx4.mv m105 no_No).mv m108 no_No
      replace h1 := h1.mono m108.z
      replace h2 := h2.mono m108.z
      replace h3 := h3.mono m108.z
      exact L.mv (Wt.mk R R) R R (L.bi (Wt.mk R R) R R R R (L.pkT (Wt.mk R R) R R R R (L.sb (J102 _ _ ⟨s107, (r106 != r42.2.2), (oi hm).symm, m0, h1, h2, h3, bx4, R, R⟩) R)))
     exact L.know (d := 99) R hc (L.skip R R R R (L.skip R R R R (L.skip R R R R (L.skip R R R R (L.skip R R R R (L.pkF (Wt.mk R R) R R R R (L.sb (J102 _ _ ⟨s58, false, (oi hm).symm, m0, h1, h2, h3, bx4, R, R⟩) R)))))))
    intro J109
    rcases Bool.eq_false_or_eq_true (((r19.2 != r16) || (r23.2 != r16)) || (r27.2 != r16)) with hc | hc
    ·exact L.know (d := 74) R hc (L.skip R R R R (L.skip R R R R (L.skip R R R R (L.pkT Y R R R R (L.sb (J109 _ _ ⟨true, (orT hc).symm, R, R⟩) R)))))
    exact L.know (d := 74) R hc (L.mv (Wt.mk R R) R R (L.mv (Wt.mk R R) R R (L.bi (Wt.mk R R) R R R R (L.pkF Y R R R R (L.sb (J109 _ _ ⟨(r31.2.2 != r16), (orF hc).symm, R, R⟩) R)))))
   intro J110
   rcases Bool.eq_false_or_eq_true ((r19.2 != r16) || (r23.2 != r16)) with hc | hc
   ·exact L.know (d := 69) R hc (L.skip R R R R (L.skip R R R R (L.skip R R R R (L.pkT Y R R R R (L.sb (J110 _ _ ⟨true, (orT hc).symm, R, R⟩) R)))))
   exact L.know (d := 69) R hc (L.mv (Wt.mk R R) R R (L.mv (Wt.mk R R) R R (L.bi (Wt.mk R R) R R R R (L.pkF Y R R R R (L.sb (J110 _ _ ⟨(r27.2 != r16), (orF hc).symm, R, R⟩) R)))))
  intro J111
  rcases Bool.eq_false_or_eq_true (r19.2 != r16) with hc | hc
  ·exact L.know (d := 64) R hc (L.skip R R R R (L.skip R R R R (L.skip R R R R (L.pkT Y R R R R (L.sb (J111 _ _ ⟨true, (orT hc).symm, R, R⟩) R)))))
  exact L.know (d := 64) R hc (L.mv (Wt.mk R R) R R (L.mv (Wt.mk R R) R R (L.bi (Wt.mk R R) R R R R (L.pkF Y R R R R (L.sb (J111 _ _ ⟨(r23.2 != r16), (orF hc).symm, R, R⟩) R)))))
 intro J112
 rcases ifS eb10 with ⟨hc, hm⟩ | ⟨hc, hm⟩
 ·exact L.know (d := 32) R hc (L.skip R R R R (L.skip R R R R (L.skip R R R R (L.pkT Y R R R R (L.sb (J112 _ _ ⟨s8, true, (oi hm).symm, m0, h1, h2, h3, bx4, R, R⟩) R)))))
 refine L.know (d := 32) R hc (L.lg (j := 0) (cs := [.slice a1 p0.1.length c1, .int .i64 p0.2.1, .slice a2 p0.2.2.1.length c2, .slice a3 p0.2.2.2.length c3]) bx4.mem ag30 (Wt.mk R R) R R R R R ?_)
 obtain ⟨r113, er113, hm⟩ := bindS hm
 refine L.ca cf15 R R (Wt.mk R R) R (m_overseerlaw24_few_c (s := s8) (p0 := p0) h1 h2 h3 er113) R ?_
 rintro _ s114 m115 rfl
 replace m0 := m0.trans m115.no
 replace bx4 := bx4.mv m115 no_No
 replace h1 := h1.mono m115.z
 replace h2 := h2.mono m115.z
 replace h3 := h3.mono m115.z
 exact L.not (Wt.mk R R) R R (L.pkF Y R R R R (L.sb (J112 _ _ ⟨s114, (!r113), (oi hm).symm, m0, h1, h2, h3, bx4, R, R⟩) R))

end Go.Proofs.YtfbapajcheammaaGreatDoor

namespace Go.Proofs.YtfbapajcheammaaGreatDoor

def wval (u : List Int) : Int := u.foldl (fun acc e => 33 * acc + e + 1) 0
theorem wval_snoc (u : List Int) (e : Int) : wval (u ++ [e]) = 33 * wval u + e + 1 := by simp [wval, List.foldl_append]
def Evs (u : List Int) : Prop := ∀ e ∈ u, 0 ≤ e ∧ e < 32
theorem Evs.nil : Evs [] := fun e h => by cases h
theorem Evs.of_snoc {u : List Int} {e : Int} (h : Evs (u ++ [e])) : Evs u ∧ 0 ≤ e ∧ e < 32 :=
 ⟨fun x hx => h x (List.mem_append_left _ hx), h e (by simp)⟩
theorem snoc_ind {α : Type} {P : List α → Prop} (h0 : P []) (h1 : ∀ u e, P u → P (u ++ [e])) (u : List α) : P u := by
 have h2 : ∀ n (u : List α), u.length = n → P u := by
  intro n
  induction n with
  | zero => intro u hu; rw [List.eq_nil_of_length_eq_zero hu]; exact h0
  | succ n ih =>
   intro u hu
   rcases List.eq_nil_or_concat u with rfl | ⟨l, b, rfl⟩
   ·cases hu
   ·have hl : l.length = n := by simpa using hu
    simpa using h1 l b (ih l hl)
 exact h2 _ u rfl
theorem wval_nonneg (u : List Int) : Evs u → 0 ≤ wval u := by
 refine snoc_ind (P := fun u => Evs u → 0 ≤ wval u) (fun _ => Int.le_refl 0) (fun u e ih h => ?_) u
 have h1 := h.of_snoc
 have := ih h1.1
 rw [wval_snoc]; omega
def wlo : Nat → Int
 | 0 => 0
 | n + 1 => 33 * wlo n + 1
def whi : Nat → Int
 | 0 => 0
 | n + 1 => 33 * whi n + 32
theorem wlo_le (u : List Int) : Evs u → wlo u.length ≤ wval u ∧ wval u ≤ whi u.length := by
 refine snoc_ind (P := fun u => Evs u → wlo u.length ≤ wval u ∧ wval u ≤ whi u.length) (fun _ => ⟨Int.le_refl _, Int.le_refl _⟩) (fun u e ih h => ?_) u
 have h1 := h.of_snoc
 have := ih h1.1
 rw [wval_snoc, List.length_append, List.length_singleton, wlo, whi]; omega
theorem whi_lt (n : Nat) : whi n < wlo (n + 1) := by
 induction n with
 | zero => decide
 | succ n ih => rw [whi, wlo]; omega
theorem wlo_mono {m n : Nat} (h : m ≤ n) : wlo m ≤ wlo n := by
 induction n with
 | zero =>
  obtain rfl : m = 0 := by omega
  exact Int.le_refl _
 | succ n ih =>
  by_cases e : m = n + 1
  ·rw [e]; exact Int.le_refl _
  ·have h1 := ih (by omega)
   have h2 : 0 ≤ wlo n := by
    clear h1 ih h e
    induction n with
    | zero => exact Int.le_refl _
    | succ n ih => rw [wlo]; omega
   rw [wlo]; omega
theorem wval_len {u v : List Int} (hu : Evs u) (hv : Evs v) (h : wval u ≤ wval v) : u.length ≤ v.length := by
 by_cases hlt : v.length < u.length
 ·have h1 := (wlo_le u hu).1
  have h2 := (wlo_le v hv).2
  have h3 := whi_lt v.length
  have h4 := wlo_mono (show v.length + 1 ≤ u.length by omega)
  omega
 ·omega

def Leads (es : List Ed) (perm : Ed → Bool) (s : Int) : List Int → Int → Prop
 | [], t => s = t
 | e :: u, t => ∃ x ∈ es, x.f = s ∧ x.e = e ∧ perm x = true ∧ Leads es perm x.t u t
theorem Leads.snoc {es : List Ed} {perm : Ed → Bool} : ∀ {u : List Int} {s t : Int}, Leads es perm s u t → ∀ {x : Ed}, x ∈ es → x.f = t → perm x = true → Leads es perm s (u ++ [x.e]) x.t
 | [], s, t, h, x, hx, hf, hp => ⟨x, hx, by rw [hf]; exact h.symm, rfl, hp, rfl⟩
 | e :: u, s, t, ⟨y, hy, h1, h2, h3, h4⟩, x, hx, hf, hp => ⟨y, hy, h1, h2, h3, h4.snoc hx hf hp⟩
theorem Leads.of_snoc {es : List Ed} {perm : Ed → Bool} {e : Int} : ∀ {u : List Int} {s t : Int}, Leads es perm s (u ++ [e]) t → ∃ x ∈ es, Leads es perm s u x.f ∧ x.e = e ∧ x.t = t ∧ perm x = true
 | [], s, t, ⟨y, hy, h1, h2, h3, h4⟩ => ⟨y, hy, h1.symm, h2, h4, h3⟩
 | a :: u, s, t, ⟨y, hy, h1, h2, h3, h4⟩ => by
  obtain ⟨x, hx, g1, g2, g3, g4⟩ := Leads.of_snoc (u := u) h4
  exact ⟨x, hx, ⟨y, hy, h1, h2, h3, g1⟩, g2, g3, g4⟩
def EvEs (es : List Ed) : Prop := ∀ x ∈ es, 0 ≤ x.e ∧ x.e < 32
theorem Leads.evs {es : List Ed} {perm : Ed → Bool} (he : EvEs es) : ∀ {u : List Int} {s t : Int}, Leads es perm s u t → Evs u
 | [], _, _, _ => Evs.nil
 | e :: u, s, t, ⟨y, hy, h1, h2, h3, h4⟩ => by
  intro z hz
  rcases List.mem_cons.1 hz with rfl | hz
  ·rw [← h2]; exact he y hy
  ·exact Leads.evs he h4 z hz

structure Found (es : List Ed) (perm : Ed → Bool) (s : Int) (L : List (List Int × Int)) (b : Int) : Prop where
 lead : ∀ r ∈ L, Leads es perm s r.1 r.2
 sorted : ∀ j k : Nat, j < k → ∀ r r' : List Int × Int, L[j]? = some r → L[k]? = some r' → wval r.1 < wval r'.1
 bd : ∀ r ∈ L, wval r.1 ≤ b
def Followed (es : List Ed) (perm : Ed → Bool) (L : List (List Int × Int)) (m i : Nat) : Prop :=
 ∀ j : Nat, j < i → ∀ r : List Int × Int, L[j]? = some r → ∀ x ∈ es, x.f = r.2 → perm x = true → ∃ k : Nat, m ≤ k ∧ ∃ r' : List Int × Int, L[k]? = some r' ∧ r'.2 = x.t ∧ wval r'.1 ≤ 33 * wval r.1 + x.e + 1

section
variable {es : List Ed} {perm : Ed → Bool} {s : Int} {L : List (List Int × Int)} {b : Int} {m i : Nat}
theorem Found.push (h : Found es perm s L b) {w : List Int} {t : Int} (hl : Leads es perm s w t) (hb : b < wval w) : Found es perm s (L ++ [(w, t)]) (wval w) := by
 refine ⟨fun r hr => ?_, fun j k hjk r r' hj hk => ?_, fun r hr => ?_⟩
 ·rcases List.mem_append.1 hr with h1 | h1
  ·exact h.lead r h1
  ·rw [List.mem_singleton.1 h1]; exact hl
 ·by_cases hk2 : k < L.length
  ·rw [List.getElem?_append_left hk2] at hk
   rw [List.getElem?_append_left (by omega)] at hj
   exact h.sorted j k hjk r r' hj hk
  ·rw [List.getElem?_append_right (by omega)] at hk
   have h3 : k - L.length = 0 := by
    by_cases h4 : k - L.length = 0
    ·exact h4
    ·rw [List.getElem?_eq_none (by simp; omega)] at hk; cases hk
   rw [h3] at hk
   simp only [List.getElem?_cons_zero, Option.some.injEq] at hk
   subst hk
   rw [List.getElem?_append_left (by omega)] at hj
   have := h.bd r (List.mem_of_getElem? hj)
   dsimp only; omega
 ·rcases List.mem_append.1 hr with h1 | h1
  ·have := h.bd r h1; omega
  ·rw [List.mem_singleton.1 h1]; exact Int.le_refl _
theorem Found.mono (h : Found es perm s L b) {j k : Nat} (hjk : j ≤ k) {r r' : List Int × Int} (hj : L[j]? = some r) (hk : L[k]? = some r') : wval r.1 ≤ wval r'.1 := by
 by_cases e : j = k
 ·subst e; rw [hj] at hk; cases hk; exact Int.le_refl _
 ·exact Int.le_of_lt (h.sorted j k (by omega) r r' hj hk)
theorem Followed.append (h : Followed es perm L m i) (hi : i ≤ L.length) (M : List (List Int × Int)) : Followed es perm (L ++ M) m i := by
 intro j hj r hr x hx hf hp
 rw [List.getElem?_append_left (by omega)] at hr
 obtain ⟨k, hk, r', hr', h1, h2⟩ := h j hj r hr x hx hf hp
 refine ⟨k, hk, r', ?_, h1, h2⟩
 rw [List.getElem?_append_left (by have := (List.getElem?_eq_some_iff.1 hr').1; omega)]
 exact hr'
theorem Followed.place (he : EvEs es) (hF : Found es perm s L b) (hC : Followed es perm L m i) (h0 : L[0]? = some ([], s)) (u : List Int) :
  ∀ t, Leads es perm s u t → (∃ (k : Nat) (r : List Int × Int), (u = [] ∨ m ≤ k) ∧ L[k]? = some r ∧ r.2 = t ∧ wval r.1 ≤ wval u) ∨ (∃ r : List Int × Int, L[i]? = some r ∧ wval r.1 < wval u) ∨ L.length ≤ i := by
 induction u using snoc_ind with
 | h0 =>
  intro t ht
  refine .inl ⟨0, _, .inl rfl, h0, ht, Int.le_refl _⟩
 | h1 u e ih =>
  intro t ht
  by_cases hil : L.length ≤ i
  ·exact .inr (.inr hil)
  obtain ⟨x, hx, g1, rfl, rfl, g4⟩ := ht.of_snoc
  have hxe := he x hx
  have hi : L[i]? = some L[i] := List.getElem?_eq_getElem (by omega)
  have hu := wval_nonneg u (g1.evs he)
  rcases ih x.f g1 with ⟨k, r, hk0, hk, hr, hle⟩ | ⟨r, hk, hle⟩ | h3
  ·by_cases hki : k < i
   ·obtain ⟨k', hk', r', h1, h2, h3⟩ := hC k hki r hk x hx hr.symm g4
    refine .inl ⟨k', r', .inr hk', h1, h2, ?_⟩
    rw [wval_snoc]; omega
   ·refine .inr (.inl ⟨_, hi, ?_⟩)
    have := hF.mono (show i ≤ k by omega) hi hk
    rw [wval_snoc]; omega
  ·refine .inr (.inl ⟨r, hk, ?_⟩)
   rw [wval_snoc]; omega
  ·exact .inr (.inr h3)
theorem Followed.all (_he : EvEs es) (hC : Followed es perm L m L.length) (h0 : L[0]? = some ([], s)) (u : List Int) :
  ∀ t, Leads es perm s u t → ∃ (k : Nat) (r : List Int × Int), (u = [] ∨ m ≤ k) ∧ L[k]? = some r ∧ r.2 = t ∧ wval r.1 ≤ wval u := by
 induction u using snoc_ind with
 | h0 =>
  intro t ht
  exact ⟨0, _, .inl rfl, h0, ht, Int.le_refl _⟩
 | h1 u e ih =>
  intro t ht
  obtain ⟨x, hx, g1, rfl, rfl, g4⟩ := ht.of_snoc
  obtain ⟨k, r, hk0, hk, hr, hle⟩ := ih x.f g1
  obtain ⟨k', hk', r', h1, h2, h3⟩ := hC k (List.getElem?_eq_some_iff.1 hk).1 r hk x hx hr.symm g4
  refine ⟨k', r', .inr hk', h1, h2, ?_⟩
  rw [wval_snoc]; omega

structure Least (es : List Ed) (perm : Ed → Bool) (want : Int → Bool) (s : Int) (least : Nat) (w : List Int) : Prop where
 ev : Evs w
 len : least ≤ w.length
 leads : ∃ t, Leads es perm s w t ∧ want t = true
 le : ∀ u t, Leads es perm s u t → want t = true → least ≤ u.length → wval w ≤ wval u
theorem Found.least {want : Int → Bool} (he : EvEs es) (hF : Found es perm s L b) (hC : Followed es perm L 0 i) (h0 : L[0]? = some ([], s)) {r : List Int × Int} (hi : L[i]? = some r) (hw : want r.2 = true)
  (hn : ∀ j : Nat, j < i → ∀ r : List Int × Int, L[j]? = some r → want r.2 = false) : Least es perm want s 0 r.1 := by
 have hl := hF.lead r (List.mem_of_getElem? hi)
 refine ⟨hl.evs he, Nat.zero_le _, ⟨_, hl, hw⟩, fun u t hu ht _ => ?_⟩
 rcases hC.place he hF h0 u t hu with ⟨k, r', hk0, hk, hr, hle⟩ | ⟨r', hk, hle⟩ | h3
 ·by_cases hki : k < i
  ·have := hn k hki r' hk
   rw [hr, ht] at this; cases this
  ·have := hF.mono (show i ≤ k by omega) hi hk; omega
 ·rw [hi] at hk; cases hk; omega
 ·have := (List.getElem?_eq_some_iff.1 hi).1; omega
theorem Followed.none {want : Int → Bool} (he : EvEs es) (hC : Followed es perm L 0 L.length) (h0 : L[0]? = some ([], s)) (hn : ∀ (j : Nat) (r : List Int × Int), L[j]? = some r → want r.2 = false) :
  ∀ u t, Leads es perm s u t → want t = false := by
 intro u t hu
 obtain ⟨k, r, _, hk, rfl, _⟩ := hC.all he h0 u t hu
 exact hn k r hk
end
end Go.Proofs.YtfbapajcheammaaGreatDoor

