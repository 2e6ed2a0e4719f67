/- Parts of the proof, without what nothing here names. -/
import Derived.Test.YtfbapajcheammaaGreatDoorProg
import Derived.Deep.Slices
import Derived.ChangeSame
import Derived.ProofKit
import Derived.Test.YtfbapajcheammaaGreatDoorRows
import Derived.Test.YtfbapajcheammaaGreatDoorTie
import Derived.Test.YtfbapajcheammaaGreatDoorCards
import Derived.Lay
import Derived.LaidMore
import Derived.LaidHandle
import Derived.SevenTiedAt
import Derived.Stop.Joined
import Derived.Test.YtfbapajcheammaaGreatDoorQcx5
set_option maxRecDepth 100000
set_option maxHeartbeats 8000000
namespace Go.Proofs.YtfbapajcheammaaGreatDoor
open Go Go.RowKit
theorem cf29 : Cf Tryz.prog 29 := Cf.mk Tryz.func29 (by kernel_rfl) (by kernel_rfl)
noncomputable def m_overseerlaw24_Known : Option Bool :=
 (m_overseerlaw24_known).bind fun r1 =>
 (if r1 then
  (m_overseerlaw04_Known).bind fun r8 =>
  some r8
 else
  some false).bind fun b4 =>
 some b4
theorem m_overseerlaw24_Known_c {s : Sig} {r : Bool} (hm : m_overseerlaw24_Known = some r) :
    Calls Tryz.prog 6 #[] s.w (RetS No s fun v s' => v = .bool r) := by
 unfold m_overseerlaw24_Known at hm
 obtain ⟨N, hN, hNb⟩ := s.fresh
 have m0 : Mv (Up N No) s s := Mv.refl _ _
 refine E.entry Tryz.func6 R Tryz.ntmps6 R R (ER (L.as Y R R (LN (E.seq (E.reg ?_)))))
 obtain ⟨r1, er1, hm⟩ := bindS hm
 refine L.ca cf14 R R Y R (m_overseerlaw24_known_c (s := s) er1) R ?_
 rintro _ s2 m3 rfl
 replace m0 := m0.trans m3.no
 refine L.mv Y R R ?_
 obtain ⟨b4, eb4, hm⟩ := bindS hm
 refine L.cut 2 (fun e w => ∃ (s6 : Sig) (v5 : Bool), b4 = v5 ∧ Mv (Up N No) s s6 ∧ e = (4, .bool v5) :: [] ∧ w = s6.w) ?_ ?_
 ·rintro _ _ ⟨s6, v5, rfl, m0, rfl, rfl⟩
  refine L.as Y R R (LN (E.ret ?_))
  obtain rfl := oi hm
  exact X.rt (.inl R) Tryz.results6 (Rs.tmp R Rs.nil) R ⟨_, (s6).ren N (fun _ => 0), R, R, m0.ren hNb, R⟩
 intro J7
 rcases ifS eb4 with ⟨hc, hm⟩ | ⟨hc, hm⟩
 ·refine L.know (d := 2) R hc ?_
  obtain ⟨r8, er8, hm⟩ := bindS hm
  refine L.ca cf29 R R (Wt.mk R R) R (m_overseerlaw04_Known_c (s := s2) er8) R ?_
  rintro _ s9 m10 rfl
  replace m0 := m0.trans m10.no
  exact L.pkT Y R R R R (L.sb (J7 _ _ ⟨s9, r8, (oi hm).symm, m0, R, R⟩) R)
 exact L.know (d := 2) R hc (L.skip R R R R (L.pkF Y R R R R (L.sb (J7 _ _ ⟨s2, false, (oi hm).symm, m0, R, R⟩) R)))

theorem fa25_0 : FA Tryz.prog 25 0 0 := FA.mk Tryz.underlying25 rfl rfl ⟨1, by decide, by kernel_rfl⟩
theorem fa25_1 : FA Tryz.prog 25 1 1 := FA.mk Tryz.underlying25 rfl rfl ⟨1, by decide, by kernel_rfl⟩
theorem fa25_2 : FA Tryz.prog 25 2 2 := FA.mk Tryz.underlying25 rfl rfl ⟨24, by decide, by kernel_rfl⟩
theorem ia22 : IA Tryz.prog 22 4 1 := IA.mk Tryz.underlying22 (by kernel_rfl)
theorem ia23 : IA Tryz.prog 23 6 4 := IA.mk Tryz.underlying23 (by kernel_rfl)
theorem nag5 : NAg Tryz.prog 5 := NAg.mk' Tryz.underlying5 rfl (by kernel_rfl)
noncomputable def m_overseerlaw04_Make_j2 (st128 : Int × (List (Int × Int × Int))) (l134 : List (Int × Int × Int)) : Option ((Int × (List (Int × Int × Int))) ⊕ (List (Int × Int × Int))) :=
 some (.inl (W (st128.1 + 1), l134))
noncomputable def m_overseerlaw04_Make_l2 (p0 : Int × Int × ((Int × Int × Int × Int) × (Int × Int × Int × Int) × (Int × Int × Int × Int) × (Int × Int × Int × Int) × (Int × Int × Int × Int) × (Int × Int × Int × Int))) (st90 : Int × List Int × (List (Int × Int × Int))) (st128 : Int × (List (Int × Int × Int))) : Option ((Int × (List (Int × Int × Int))) ⊕ (List (Int × Int × Int))) :=
 if decide (st128.1 < 4) then
  (rng st90.1 6).bind fun _ =>
  (rng st128.1 4).bind fun _ =>
  (([p0.2.2.1.1, p0.2.2.1.2.1, p0.2.2.1.2.2.1, p0.2.2.1.2.2.2, p0.2.2.2.1.1, p0.2.2.2.1.2.1, p0.2.2.2.1.2.2.1, p0.2.2.2.1.2.2.2, p0.2.2.2.2.1.1, p0.2.2.2.2.1.2.1, p0.2.2.2.2.1.2.2.1, p0.2.2.2.2.1.2.2.2, p0.2.2.2.2.2.1.1, p0.2.2.2.2.2.1.2.1, p0.2.2.2.2.2.1.2.2.1, p0.2.2.2.2.2.1.2.2.2, p0.2.2.2.2.2.2.1.1, p0.2.2.2.2.2.2.1.2.1, p0.2.2.2.2.2.2.1.2.2.1, p0.2.2.2.2.2.2.1.2.2.2, p0.2.2.2.2.2.2.2.1, p0.2.2.2.2.2.2.2.2.1, p0.2.2.2.2.2.2.2.2.2.1, p0.2.2.2.2.2.2.2.2.2.2] : List Int)[st90.1.toNat * 4 + st128.1.toNat * 1]?).bind fun x140 =>
  if ((decide ((W ((W (x140.tmod 7)) - 1)) ≥ 0)) && (decide ((W ((W (x140.tmod 7)) - 1)) < (W (1 + (W (p0.1.tmod 6))))))) then
   (app st128.2 ([(st90.1, st128.1, W ((W (x140.tmod 7)) - 1))] : List (Int × Int × Int))).bind fun x145 =>
   m_overseerlaw04_Make_j2 st128 x145
  else
   m_overseerlaw04_Make_j2 st128 st128.2
 else
  some (.inr st128.2)
noncomputable def m_overseerlaw04_Make_j1 (p0 : Int × Int × ((Int × Int × Int × Int) × (Int × Int × Int × Int) × (Int × Int × Int × Int) × (Int × Int × Int × Int) × (Int × Int × Int × Int) × (Int × Int × Int × Int))) (st90 : Int × List Int × (List (Int × Int × Int))) (l100 : List Int) : Option ((Int × List Int × (List (Int × Int × Int))) ⊕ (List Int × (List (Int × Int × Int)))) :=
 (iter (m_overseerlaw04_Make_l2 p0 st90) (0, st90.2.2)).bind fun o128 =>
 some (.inl (W (st90.1 + 1), l100, o128))
noncomputable def m_overseerlaw04_Make_l1 (p0 : Int × Int × ((Int × Int × Int × Int) × (Int × Int × Int × Int) × (Int × Int × Int × Int) × (Int × Int × Int × Int) × (Int × Int × Int × Int) × (Int × Int × Int × Int))) (st90 : Int × List Int × (List (Int × Int × Int))) : Option ((Int × List Int × (List (Int × Int × Int))) ⊕ (List Int × (List (Int × Int × Int)))) :=
 if decide (st90.1 < (W (1 + (W (p0.1.tmod 6))))) then
  (ng st90.1).bind fun _ =>
  if ((IntKind.u8.wrap (((BitVec.ofInt 8 (p0.2.1.fdiv (2 ^ (min st90.1.toNat 8))) &&& BitVec.ofInt 8 1).toNat : Int))) == 1) then
   (app st90.2.1 ([st90.1] : List Int)).bind fun x156 =>
   m_overseerlaw04_Make_j1 p0 st90 x156
  else
   m_overseerlaw04_Make_j1 p0 st90 st90.2.1
 else
  some (.inr st90.2)
noncomputable def m_overseerlaw04_Make (p0 : Int × Int × ((Int × Int × Int × Int) × (Int × Int × Int × Int) × (Int × Int × Int × Int) × (Int × Int × Int × Int) × (Int × Int × Int × Int) × (Int × Int × Int × Int))) : Option AutT :=
 (iter (m_overseerlaw04_Make_l1 p0) (0, ([] : List Int), ([] : List (Int × Int × Int)))).bind fun o90 =>
 some (([0, 1, 2, 3] : List Int), W (1 + (W (p0.1.tmod 6))), o90)
theorem m_overseerlaw04_Make_c {s : Sig} {p0 : Int × Int × ((Int × Int × Int × Int) × (Int × Int × Int × Int) × (Int × Int × Int × Int) × (Int × Int × Int × Int) × (Int × Int × Int × Int) × (Int × Int × Int × Int))} {u1 : Nat} {u2 : Nat} {r : AutT} (hm : m_overseerlaw04_Make p0 = some r) :
    Calls Tryz.prog 7 #[.agg #[.int .u8 p0.1, .int .u8 p0.2.1, .int .u8 p0.2.2.1.1, .int .u8 p0.2.2.1.2.1, .int .u8 p0.2.2.1.2.2.1, .int .u8 p0.2.2.1.2.2.2, .int .u8 p0.2.2.2.1.1, .int .u8 p0.2.2.2.1.2.1, .int .u8 p0.2.2.2.1.2.2.1, .int .u8 p0.2.2.2.1.2.2.2, .int .u8 p0.2.2.2.2.1.1, .int .u8 p0.2.2.2.2.1.2.1, .int .u8 p0.2.2.2.2.1.2.2.1, .int .u8 p0.2.2.2.2.1.2.2.2, .int .u8 p0.2.2.2.2.2.1.1, .int .u8 p0.2.2.2.2.2.1.2.1, .int .u8 p0.2.2.2.2.2.1.2.2.1, .int .u8 p0.2.2.2.2.2.1.2.2.2, .int .u8 p0.2.2.2.2.2.2.1.1, .int .u8 p0.2.2.2.2.2.2.1.2.1, .int .u8 p0.2.2.2.2.2.2.1.2.2.1, .int .u8 p0.2.2.2.2.2.2.1.2.2.2, .int .u8 p0.2.2.2.2.2.2.2.1, .int .u8 p0.2.2.2.2.2.2.2.2.1, .int .u8 p0.2.2.2.2.2.2.2.2.2.1, .int .u8 p0.2.2.2.2.2.2.2.2.2.2]] s.w (RetS No s fun v s' => ∃ (a1 : Option Addr) (c1 : Nat) (a2 : Option Addr) (c2 : Nat) (a3 : Option Addr) (c3 : Nat), v = .agg #[.slice a1 r.1.length c1, .int .i64 r.2.1, .slice a2 r.2.2.1.length c2, .slice a3 r.2.2.2.length c3] ∧ RdL qI s' a1 c1 r.1 ∧ RowT qI s' u1 3 a2 c2 r.2.2.1 ∧ RowT qT s' u2 62 a3 c3 r.2.2.2) := by
 unfold m_overseerlaw04_Make at hm
 obtain ⟨N, hN, hNb⟩ := s.fresh
 have m0 : Mv (Up N No) s s := Mv.refl _ _
 refine E.entry Tryz.func7 R Tryz.ntmps7 R R (ER (L.box (N + 0) Y R R R fun b4 s5 m6 bx4 => ?_))
 refine L.al (N + 1) zz30 R Y R fun b7 s8 m9 bx7 => ?_
 refine LN (ER (L.bsE (k := 4) (cs := [.int .i64 0, .int .i64 1, .int .i64 2, .int .i64 3]) 0 bs27 (nb R) Y R R R R fun b10 s11 m12 bx10 => ?_))
 replace bx4 := (bx4.mv m9 no_No).mv m12 no_No
 have h10 := Bx.rdL (r := qI) (xs := ([0, 1, 2, 3] : List Int)) bx10 ⟨[.int .i64 0], _, R, R, ⟨[.int .i64 1], _, R, R, ⟨[.int .i64 2], _, R, R, ⟨[.int .i64 3], _, R, R, R⟩⟩⟩⟩ (nb R)
 refine L.fa fa25_0 Y R R (L.ld (j := 0) bx4.mem nag5 Y R R R R (L.rem Y R R (by decide) R (L.cv Tryz.underlying5 Tryz.underlying3 Y R R (L.bi Y R R R R (L.bu (cs := [.slice (some ⟨b10, 0, none⟩) ([0, 1, 2, 3] : List Int).length (([0, 1, 2, 3] : List Int).length), .int .i64 (W (1 + (W (p0.1.tmod 6)))), .slice none 0 0, .slice none 0 0]) pl30 Y R R R (L.al (N + 2) zz30 R Y R fun b13 s14 m15 bx13 => ?_))))))
 refine L.st (c := [.slice (some ⟨b10, 0, none⟩) ([0, 1, 2, 3] : List Int).length (([0, 1, 2, 3] : List Int).length), .int .i64 (W (1 + (W (p0.1.tmod 6)))), .slice none 0 0, .slice none 0 0]) (cs' := #[.slice (some ⟨b10, 0, none⟩) ([0, 1, 2, 3] : List Int).length (([0, 1, 2, 3] : List Int).length), .int .i64 (W (1 + (W (p0.1.tmod 6)))), .slice none 0 0, .slice none 0 0]) bx13 ag30.sz Y R R R R R (nb R) R fun s16 m17 bx13 => ?_
 replace m0 := ((((m0.trans m6.no).trans m9.no).trans m12.no).trans m15.no).trans (m17.one up)
 replace bx4 := (bx4.mv m15 no_No).mv m17 (tq R)
 replace bx7 := ((bx7.mv m12 no_No).mv m15 no_No).mv m17 (tq R)
 replace h10 := (h10.mono m15.z).mono (m17.le (tg0 hN))
 refine LN (E.seq (ER (L.as Y R R (LN (E.block ?_)))))
 obtain ⟨o90, eo90, hm⟩ := bindS hm
 refine E.cut (x := .exit 0) (fun e w => ∃ (s96 : Sig) (a92 : Option Addr) (c92 : Nat) (a94 : Option Addr) (c94 : Nat), Mv (Up N No) s s96 ∧ RdL qI s96 (some ⟨b10, 0, none⟩) (([0, 1, 2, 3] : List Int).length) ([0, 1, 2, 3] : List Int) ∧ RowT qI s96 (N + 3) 3 a92 c92 o90.1 ∧ RowT qT s96 (N + 4) 62 a94 c94 o90.2 ∧ Bx s96 (N + 1) b7 #[.slice none 0 0, .int .i64 0, .slice none 0 0, .slice none 0 0] 30 ∧ Bx s96 (N + 2) b13 #[.slice (some ⟨b10, 0, none⟩) ([0, 1, 2, 3] : List Int).length (([0, 1, 2, 3] : List Int).length), .int .i64 (W (1 + (W (p0.1.tmod 6)))), .slice a92 o90.1.length c92, .slice a94 o90.2.length c94] 30 ∧ e = [(3, .pointer (some ⟨b13, 0, none⟩)), (2, .pointer (some ⟨b7, 0, none⟩))] ∧ w = s96.w) ?_ ?_
 ·rintro _ _ ⟨s96, a92, c92, a94, c94, m0, h10, h92, h94, bx7, bx13, rfl, rfl⟩
  refine X.blkE (X.seqN (ER (L.lg (j := 0) (cs := [.slice (some ⟨b10, 0, none⟩) ([0, 1, 2, 3] : List Int).length (([0, 1, 2, 3] : List Int).length), .int .i64 (W (1 + (W (p0.1.tmod 6)))), .slice a92 o90.1.length c92, .slice a94 o90.2.length c94]) bx13.mem ag30 Y R R R R R (L.st (c := [.slice (some ⟨b10, 0, none⟩) ([0, 1, 2, 3] : List Int).length (([0, 1, 2, 3] : List Int).length), .int .i64 (W (1 + (W (p0.1.tmod 6)))), .slice a92 o90.1.length c92, .slice a94 o90.2.length c94]) (cs' := #[.slice (some ⟨b10, 0, none⟩) ([0, 1, 2, 3] : List Int).length (([0, 1, 2, 3] : List Int).length), .int .i64 (W (1 + (W (p0.1.tmod 6)))), .slice a92 o90.1.length c92, .slice a94 o90.2.length c94]) bx7 ag30.sz Y R R R R R (nb R) R fun s97 m98 bx7 => ?_))))
  replace m0 := m0.trans (m98.one up)
  replace h10 := h10.mono (m98.le (tg0 hN))
  replace h92 := h92.mv m98 (tq R) (tg0 hN)
  replace h94 := h94.mv m98 (tq R) (tg0 hN)
  refine LN (E.ret ?_)
  obtain rfl := oi hm
  exact X.rt (.inl R) Tryz.results7 (Rs.cell R bx7 ag30 R Rs.nil) R ⟨_, (s97).ren N (fun k => cond (Nat.beq k 4) u2 (cond (Nat.beq k 3) u1 (0))), R, R, m0.ren hNb, ⟨(some ⟨b10, 0, none⟩), ([0, 1, 2, 3] : List Int).length, a92, c92, a94, c94, R, (h10.ren hN), (h92.ren hN), (h94.ren hN)⟩⟩
 intro K99
 refine E.iter (fun (st90 : Int × List Int × (List (Int × Int × Int))) (e : List (Nat × Value)) (w : World) => ∃ (s95 : Sig) (a20 : Option Addr) (c20 : Nat) (a22 : Option Addr) (c22 : Nat), Mv (Up N No) s s95 ∧ RdL qI s95 (some ⟨b10, 0, none⟩) (([0, 1, 2, 3] : List Int).length) ([0, 1, 2, 3] : List Int) ∧ RowT qI s95 (N + 3) 3 a20 c20 st90.2.1 ∧ RowT qT s95 (N + 4) 62 a22 c22 st90.2.2 ∧ Bx s95 (N + 0) b4 #[.int .u8 p0.1, .int .u8 p0.2.1, .int .u8 p0.2.2.1.1, .int .u8 p0.2.2.1.2.1, .int .u8 p0.2.2.1.2.2.1, .int .u8 p0.2.2.1.2.2.2, .int .u8 p0.2.2.2.1.1, .int .u8 p0.2.2.2.1.2.1, .int .u8 p0.2.2.2.1.2.2.1, .int .u8 p0.2.2.2.1.2.2.2, .int .u8 p0.2.2.2.2.1.1, .int .u8 p0.2.2.2.2.1.2.1, .int .u8 p0.2.2.2.2.1.2.2.1, .int .u8 p0.2.2.2.2.1.2.2.2, .int .u8 p0.2.2.2.2.2.1.1, .int .u8 p0.2.2.2.2.2.1.2.1, .int .u8 p0.2.2.2.2.2.1.2.2.1, .int .u8 p0.2.2.2.2.2.1.2.2.2, .int .u8 p0.2.2.2.2.2.2.1.1, .int .u8 p0.2.2.2.2.2.2.1.2.1, .int .u8 p0.2.2.2.2.2.2.1.2.2.1, .int .u8 p0.2.2.2.2.2.2.1.2.2.2, .int .u8 p0.2.2.2.2.2.2.2.1, .int .u8 p0.2.2.2.2.2.2.2.2.1, .int .u8 p0.2.2.2.2.2.2.2.2.2.1, .int .u8 p0.2.2.2.2.2.2.2.2.2.2] 25 ∧ Bx s95 (N + 1) b7 #[.slice none 0 0, .int .i64 0, .slice none 0 0, .slice none 0 0] 30 ∧ Bx s95 (N + 2) b13 #[.slice (some ⟨b10, 0, none⟩) ([0, 1, 2, 3] : List Int).length (([0, 1, 2, 3] : List Int).length), .int .i64 (W (1 + (W (p0.1.tmod 6)))), .slice a20 st90.2.1.length c20, .slice a22 st90.2.2.length c22] 30 ∧ e = [(4, .int .i64 st90.1), (3, .pointer (some ⟨b13, 0, none⟩)), (2, .pointer (some ⟨b7, 0, none⟩)), (1, .pointer (some ⟨b4, 0, none⟩))] ∧ w = s95.w) eo90 ⟨s16, none, 0, none, 0, m0, h10, RowT.nil, RowT.nil, bx4, bx7, bx13, R, R⟩ (Sub.rf R) ?_
 rintro st90 res90 hm ih90 ho90 _ _ ⟨s95, a20, c20, a22, c22, m0, h10, h20, h22, bx4, bx7, bx13, rfl, rfl⟩
 unfold m_overseerlaw04_Make_l1 at hm
 refine E.seq (ER (L.mv Y R R (L.fa fa30_1 Y R R (L.ld (j := 1) bx13.mem nag3 Y R R R R (L.bi Y R R R R (L.nil (X.seqN ?_)))))))
 rcases ifS hm with ⟨hc, hm⟩ | ⟨hc, hm⟩
 ·refine E.cT R hc (E.skip (X.seqN (E.seq (E.block (E.seqJ (fun e w => ∃ (s102 : Sig) (l100 : List Int) (a101 : Option Addr) (c101 : Nat), m_overseerlaw04_Make_j1 p0 st90 l100 = some res90 ∧ Mv (Up N No) s s102 ∧ RdL qI s102 (some ⟨b10, 0, none⟩) (([0, 1, 2, 3] : List Int).length) ([0, 1, 2, 3] : List Int) ∧ RowT qI s102 (N + 3) 3 a101 c101 l100 ∧ RowT qT s102 (N + 4) 62 a22 c22 st90.2.2 ∧ Bx s102 (N + 0) b4 #[.int .u8 p0.1, .int .u8 p0.2.1, .int .u8 p0.2.2.1.1, .int .u8 p0.2.2.1.2.1, .int .u8 p0.2.2.1.2.2.1, .int .u8 p0.2.2.1.2.2.2, .int .u8 p0.2.2.2.1.1, .int .u8 p0.2.2.2.1.2.1, .int .u8 p0.2.2.2.1.2.2.1, .int .u8 p0.2.2.2.1.2.2.2, .int .u8 p0.2.2.2.2.1.1, .int .u8 p0.2.2.2.2.1.2.1, .int .u8 p0.2.2.2.2.1.2.2.1, .int .u8 p0.2.2.2.2.1.2.2.2, .int .u8 p0.2.2.2.2.2.1.1, .int .u8 p0.2.2.2.2.2.1.2.1, .int .u8 p0.2.2.2.2.2.1.2.2.1, .int .u8 p0.2.2.2.2.2.1.2.2.2, .int .u8 p0.2.2.2.2.2.2.1.1, .int .u8 p0.2.2.2.2.2.2.1.2.1, .int .u8 p0.2.2.2.2.2.2.1.2.2.1, .int .u8 p0.2.2.2.2.2.2.1.2.2.2, .int .u8 p0.2.2.2.2.2.2.2.1, .int .u8 p0.2.2.2.2.2.2.2.2.1, .int .u8 p0.2.2.2.2.2.2.2.2.2.1, .int .u8 p0.2.2.2.2.2.2.2.2.2.2] 25 ∧ Bx s102 (N + 1) b7 #[.slice none 0 0, .int .i64 0, .slice none 0 0, .slice none 0 0] 30 ∧ Bx s102 (N + 2) b13 #[.slice (some ⟨b10, 0, none⟩) ([0, 1, 2, 3] : List Int).length (([0, 1, 2, 3] : List Int).length), .int .i64 (W (1 + (W (p0.1.tmod 6)))), .slice a101 l100.length c101, .slice a22 st90.2.2.length c22] 30 ∧ e = [(4, .int .i64 st90.1), (3, .pointer (some ⟨b13, 0, none⟩)), (2, .pointer (some ⟨b7, 0, none⟩)), (1, .pointer (some ⟨b4, 0, none⟩))] ∧ w = s102.w) ?_ ?_)))))
  ·rintro _ _ ⟨s102, l100, a101, c101, hm, m0, h10, h101, h22, bx4, bx7, bx13, rfl, rfl⟩
   unfold m_overseerlaw04_Make_j1 at hm
   refine ER (L.as Y R R (LN (E.block ?_)))
   obtain ⟨o128, eo128, hm⟩ := bindS hm
   refine E.cut (x := .exit 2) (fun e w => ∃ (s132 : Sig) (a130 : Option Addr) (c130 : Nat), Mv (Up N No) s s132 ∧ RdL qI s132 (some ⟨b10, 0, none⟩) (([0, 1, 2, 3] : List Int).length) ([0, 1, 2, 3] : List Int) ∧ RowT qI s132 (N + 3) 3 a101 c101 l100 ∧ RowT qT s132 (N + 4) 62 a130 c130 o128 ∧ Bx s132 (N + 0) b4 #[.int .u8 p0.1, .int .u8 p0.2.1, .int .u8 p0.2.2.1.1, .int .u8 p0.2.2.1.2.1, .int .u8 p0.2.2.1.2.2.1, .int .u8 p0.2.2.1.2.2.2, .int .u8 p0.2.2.2.1.1, .int .u8 p0.2.2.2.1.2.1, .int .u8 p0.2.2.2.1.2.2.1, .int .u8 p0.2.2.2.1.2.2.2, .int .u8 p0.2.2.2.2.1.1, .int .u8 p0.2.2.2.2.1.2.1, .int .u8 p0.2.2.2.2.1.2.2.1, .int .u8 p0.2.2.2.2.1.2.2.2, .int .u8 p0.2.2.2.2.2.1.1, .int .u8 p0.2.2.2.2.2.1.2.1, .int .u8 p0.2.2.2.2.2.1.2.2.1, .int .u8 p0.2.2.2.2.2.1.2.2.2, .int .u8 p0.2.2.2.2.2.2.1.1, .int .u8 p0.2.2.2.2.2.2.1.2.1, .int .u8 p0.2.2.2.2.2.2.1.2.2.1, .int .u8 p0.2.2.2.2.2.2.1.2.2.2, .int .u8 p0.2.2.2.2.2.2.2.1, .int .u8 p0.2.2.2.2.2.2.2.2.1, .int .u8 p0.2.2.2.2.2.2.2.2.2.1, .int .u8 p0.2.2.2.2.2.2.2.2.2.2] 25 ∧ Bx s132 (N + 1) b7 #[.slice none 0 0, .int .i64 0, .slice none 0 0, .slice none 0 0] 30 ∧ Bx s132 (N + 2) b13 #[.slice (some ⟨b10, 0, none⟩) ([0, 1, 2, 3] : List Int).length (([0, 1, 2, 3] : List Int).length), .int .i64 (W (1 + (W (p0.1.tmod 6)))), .slice a101 l100.length c101, .slice a130 o128.length c130] 30 ∧ e = [(4, .int .i64 st90.1), (3, .pointer (some ⟨b13, 0, none⟩)), (2, .pointer (some ⟨b7, 0, none⟩)), (1, .pointer (some ⟨b4, 0, none⟩))] ∧ w = s132.w) ?_ ?_
   ·rintro _ _ ⟨s132, a130, c130, m0, h10, h101, h130, bx4, bx7, bx13, rfl, rfl⟩
    exact X.blkE (X.blkN (X.seqN (E.reg (L.mv Y R R (L.bi Y R R R R (L.as Y R R (L.nil (X.sub (ih90 _ (oi hm).symm _ _ ⟨s132, a101, c101, a130, c130, m0, h10, h101, h130, bx4, bx7, bx13, R, R⟩) (Sub.rf R)))))))))
   intro K133
   refine E.iter (fun (st128 : Int × (List (Int × Int × Int))) (e : List (Nat × Value)) (w : World) => ∃ (s131 : Sig) (a106 : Option Addr) (c106 : Nat), Mv (Up N No) s s131 ∧ RdL qI s131 (some ⟨b10, 0, none⟩) (([0, 1, 2, 3] : List Int).length) ([0, 1, 2, 3] : List Int) ∧ RowT qI s131 (N + 3) 3 a101 c101 l100 ∧ RowT qT s131 (N + 4) 62 a106 c106 st128.2 ∧ Bx s131 (N + 0) b4 #[.int .u8 p0.1, .int .u8 p0.2.1, .int .u8 p0.2.2.1.1, .int .u8 p0.2.2.1.2.1, .int .u8 p0.2.2.1.2.2.1, .int .u8 p0.2.2.1.2.2.2, .int .u8 p0.2.2.2.1.1, .int .u8 p0.2.2.2.1.2.1, .int .u8 p0.2.2.2.1.2.2.1, .int .u8 p0.2.2.2.1.2.2.2, .int .u8 p0.2.2.2.2.1.1, .int .u8 p0.2.2.2.2.1.2.1, .int .u8 p0.2.2.2.2.1.2.2.1, .int .u8 p0.2.2.2.2.1.2.2.2, .int .u8 p0.2.2.2.2.2.1.1, .int .u8 p0.2.2.2.2.2.1.2.1, .int .u8 p0.2.2.2.2.2.1.2.2.1, .int .u8 p0.2.2.2.2.2.1.2.2.2, .int .u8 p0.2.2.2.2.2.2.1.1, .int .u8 p0.2.2.2.2.2.2.1.2.1, .int .u8 p0.2.2.2.2.2.2.1.2.2.1, .int .u8 p0.2.2.2.2.2.2.1.2.2.2, .int .u8 p0.2.2.2.2.2.2.2.1, .int .u8 p0.2.2.2.2.2.2.2.2.1, .int .u8 p0.2.2.2.2.2.2.2.2.2.1, .int .u8 p0.2.2.2.2.2.2.2.2.2.2] 25 ∧ Bx s131 (N + 1) b7 #[.slice none 0 0, .int .i64 0, .slice none 0 0, .slice none 0 0] 30 ∧ Bx s131 (N + 2) b13 #[.slice (some ⟨b10, 0, none⟩) ([0, 1, 2, 3] : List Int).length (([0, 1, 2, 3] : List Int).length), .int .i64 (W (1 + (W (p0.1.tmod 6)))), .slice a101 l100.length c101, .slice a106 st128.2.length c106] 30 ∧ e = [(5, .int .i64 st128.1), (4, .int .i64 st90.1), (3, .pointer (some ⟨b13, 0, none⟩)), (2, .pointer (some ⟨b7, 0, none⟩)), (1, .pointer (some ⟨b4, 0, none⟩))] ∧ w = s131.w) eo128 ⟨s102, a22, c22, m0, h10, h101, h22, bx4, bx7, bx13, R, R⟩ (Sub.rf R) ?_
   rintro st128 res128 hm ih128 ho128 _ _ ⟨s131, a106, c106, m0, h10, h101, h106, bx4, bx7, bx13, rfl, rfl⟩
   unfold m_overseerlaw04_Make_l2 at hm
   refine E.seq (ER (L.mv Y R R (L.bi Y R R R R (L.nil (X.seqN ?_)))))
   rcases ifS hm with ⟨hc, hm⟩ | ⟨hc, hm⟩
   ·refine E.cT R hc (E.skip (X.seqN (E.seqJ (fun e w => ∃ (s136 : Sig) (l134 : List (Int × Int × Int)) (a135 : Option Addr) (c135 : Nat), m_overseerlaw04_Make_j2 st128 l134 = some res128 ∧ Mv (Up N No) s s136 ∧ RdL qI s136 (some ⟨b10, 0, none⟩) (([0, 1, 2, 3] : List Int).length) ([0, 1, 2, 3] : List Int) ∧ RowT qI s136 (N + 3) 3 a101 c101 l100 ∧ RowT qT s136 (N + 4) 62 a135 c135 l134 ∧ Bx s136 (N + 0) b4 #[.int .u8 p0.1, .int .u8 p0.2.1, .int .u8 p0.2.2.1.1, .int .u8 p0.2.2.1.2.1, .int .u8 p0.2.2.1.2.2.1, .int .u8 p0.2.2.1.2.2.2, .int .u8 p0.2.2.2.1.1, .int .u8 p0.2.2.2.1.2.1, .int .u8 p0.2.2.2.1.2.2.1, .int .u8 p0.2.2.2.1.2.2.2, .int .u8 p0.2.2.2.2.1.1, .int .u8 p0.2.2.2.2.1.2.1, .int .u8 p0.2.2.2.2.1.2.2.1, .int .u8 p0.2.2.2.2.1.2.2.2, .int .u8 p0.2.2.2.2.2.1.1, .int .u8 p0.2.2.2.2.2.1.2.1, .int .u8 p0.2.2.2.2.2.1.2.2.1, .int .u8 p0.2.2.2.2.2.1.2.2.2, .int .u8 p0.2.2.2.2.2.2.1.1, .int .u8 p0.2.2.2.2.2.2.1.2.1, .int .u8 p0.2.2.2.2.2.2.1.2.2.1, .int .u8 p0.2.2.2.2.2.2.1.2.2.2, .int .u8 p0.2.2.2.2.2.2.2.1, .int .u8 p0.2.2.2.2.2.2.2.2.1, .int .u8 p0.2.2.2.2.2.2.2.2.2.1, .int .u8 p0.2.2.2.2.2.2.2.2.2.2] 25 ∧ Bx s136 (N + 1) b7 #[.slice none 0 0, .int .i64 0, .slice none 0 0, .slice none 0 0] 30 ∧ Bx s136 (N + 2) b13 #[.slice (some ⟨b10, 0, none⟩) ([0, 1, 2, 3] : List Int).length (([0, 1, 2, 3] : List Int).length), .int .i64 (W (1 + (W (p0.1.tmod 6)))), .slice a101 l100.length c101, .slice a135 l134.length c135] 30 ∧ e = [(5, .int .i64 st128.1), (4, .int .i64 st90.1), (3, .pointer (some ⟨b13, 0, none⟩)), (2, .pointer (some ⟨b7, 0, none⟩)), (1, .pointer (some ⟨b4, 0, none⟩))] ∧ w = s136.w) ?_ ?_)))
    ·rintro _ _ ⟨s136, l134, a135, c135, hm, m0, h10, h101, h135, bx4, bx7, bx13, rfl, rfl⟩
     unfold m_overseerlaw04_Make_j2 at hm
     exact E.reg (L.mv Y R R (L.bi Y R R R R (L.as Y R R (L.nil (X.sub (ih128 _ (oi hm).symm _ _ ⟨s136, a135, c135, m0, h10, h101, h135, bx4, bx7, bx13, R, R⟩) (Sub.rf R))))))
    intro Jj137
    refine E.block (ER (L.mv Y R R (L.mv Y R R (L.fa fa25_2 Y R R ?_))))
    obtain ⟨_, z138, hm⟩ := bindS hm
    refine L.ia ia23 Y R R (rng_some z138) R ?_
    obtain ⟨_, z139, hm⟩ := bindS hm
    refine L.ia ia22 Y R R (rng_some z139) R ?_
    obtain ⟨x140, ex140, hm⟩ := bindS hm
    refine L.ld (j := st90.1.toNat * 4 + st128.1.toNat * 1) (c := [.int .u8 p0.2.2.1.1, .int .u8 p0.2.2.1.2.1, .int .u8 p0.2.2.1.2.2.1, .int .u8 p0.2.2.1.2.2.2, .int .u8 p0.2.2.2.1.1, .int .u8 p0.2.2.2.1.2.1, .int .u8 p0.2.2.2.1.2.2.1, .int .u8 p0.2.2.2.1.2.2.2, .int .u8 p0.2.2.2.2.1.1, .int .u8 p0.2.2.2.2.1.2.1, .int .u8 p0.2.2.2.2.1.2.2.1, .int .u8 p0.2.2.2.2.1.2.2.2, .int .u8 p0.2.2.2.2.2.1.1, .int .u8 p0.2.2.2.2.2.1.2.1, .int .u8 p0.2.2.2.2.2.1.2.2.1, .int .u8 p0.2.2.2.2.2.1.2.2.2, .int .u8 p0.2.2.2.2.2.2.1.1, .int .u8 p0.2.2.2.2.2.2.1.2.1, .int .u8 p0.2.2.2.2.2.2.1.2.2.1, .int .u8 p0.2.2.2.2.2.2.1.2.2.2, .int .u8 p0.2.2.2.2.2.2.2.1, .int .u8 p0.2.2.2.2.2.2.2.2.1, .int .u8 p0.2.2.2.2.2.2.2.2.2.1, .int .u8 p0.2.2.2.2.2.2.2.2.2.2]) (v := Value.int .u8 x140) (Mem.sub bx4.mem 2 24 (nb R)) nag5 Y R (by omega) (show [Value.int .u8 p0.2.2.1.1, Value.int .u8 p0.2.2.1.2.1, Value.int .u8 p0.2.2.1.2.2.1, Value.int .u8 p0.2.2.1.2.2.2, Value.int .u8 p0.2.2.2.1.1, Value.int .u8 p0.2.2.2.1.2.1, Value.int .u8 p0.2.2.2.1.2.2.1, Value.int .u8 p0.2.2.2.1.2.2.2, Value.int .u8 p0.2.2.2.2.1.1, Value.int .u8 p0.2.2.2.2.1.2.1, Value.int .u8 p0.2.2.2.2.1.2.2.1, Value.int .u8 p0.2.2.2.2.1.2.2.2, Value.int .u8 p0.2.2.2.2.2.1.1, Value.int .u8 p0.2.2.2.2.2.1.2.1, Value.int .u8 p0.2.2.2.2.2.1.2.2.1, Value.int .u8 p0.2.2.2.2.2.1.2.2.2, Value.int .u8 p0.2.2.2.2.2.2.1.1, Value.int .u8 p0.2.2.2.2.2.2.1.2.1, Value.int .u8 p0.2.2.2.2.2.2.1.2.2.1, Value.int .u8 p0.2.2.2.2.2.2.1.2.2.2, Value.int .u8 p0.2.2.2.2.2.2.2.1, Value.int .u8 p0.2.2.2.2.2.2.2.2.1, Value.int .u8 p0.2.2.2.2.2.2.2.2.2.1, Value.int .u8 p0.2.2.2.2.2.2.2.2.2.2][st90.1.toNat * 4 + st128.1.toNat * 1]? = some (Value.int .u8 x140) from getMap (f := fun z => Value.int .u8 z) ex140) R (L.rem Y R R (by decide) R (L.cv Tryz.underlying5 Tryz.underlying3 Y R R (L.bi Y R R R R (L.as Y R R (LN (ER (L.mv Y R R (L.bi Y R R R R (L.mv Y R R (L.cut 5 (fun e w => ∃ (v141 : Bool), ((decide ((W ((W (x140.tmod 7)) - 1)) ≥ 0)) && (decide ((W ((W (x140.tmod 7)) - 1)) < (W (1 + (W (p0.1.tmod 6))))))) = v141 ∧ e = (52, .bool v141) :: [(6, .int .i64 (W ((W (x140.tmod 7)) - 1))), (5, .int .i64 st128.1), (4, .int .i64 st90.1), (3, .pointer (some ⟨b13, 0, none⟩)), (2, .pointer (some ⟨b7, 0, none⟩)), (1, .pointer (some ⟨b4, 0, none⟩))] ∧ w = s131.w) ?_ ?_))))))))))
    ·rintro _ _ ⟨v141, rfl, rfl, rfl⟩
     refine L.nil (X.seqN ?_)
     rcases ifS hm with ⟨hc, hm⟩ | ⟨hc, hm⟩
     ·refine E.cT R hc (E.reg (L.fa fa30_3 Y R R (L.ld (j := 3) bx13.mem nag28 Y R R R R (L.mv Y R R (L.mv Y R R (L.mv Y R R (L.bu (cs := [.int .i64 st90.1, .int .i64 st128.1, .int .i64 (W ((W (x140.tmod 7)) - 1))]) pl62 Y R R R (L.bsE (k := 1) (cs := [.int .i64 st90.1, .int .i64 st128.1, .int .i64 (W ((W (x140.tmod 7)) - 1))]) 0 bs28 (nb R) Y R R R R fun b142 s143 m144 bx142 => ?_))))))))
      replace h106 := h106.mv m144 no_No no_No
      have h142 := Bx.rdL (r := qT) (xs := ([(st90.1, st128.1, W ((W (x140.tmod 7)) - 1))] : List (Int × Int × Int))) bx142 ⟨[.int .i64 st90.1, .int .i64 st128.1, .int .i64 (W ((W (x140.tmod 7)) - 1))], _, R, ⟨[.int .i64 st90.1], [.int .i64 st128.1, .int .i64 (W ((W (x140.tmod 7)) - 1))], R, R, ⟨[.int .i64 st128.1], [.int .i64 (W ((W (x140.tmod 7)) - 1))], R, R, R⟩⟩, R⟩ (nb R)
      obtain ⟨x145, ex145, hm⟩ := bindS hm
      refine L.ap (r := qT) Tryz.underlying28 el62 R (tgp hN) h106 h142.wk Y R R ex145 R fun a146 c146 s147 m148 h146 => ?_
      replace bx13 := (bx13.mv m144 no_No).mv m148 (tq R)
      refine L.fa fa30_3 Y R R (L.st (c := [.slice a146 x145.length c146]) (cs' := #[.slice (some ⟨b10, 0, none⟩) ([0, 1, 2, 3] : List Int).length (([0, 1, 2, 3] : List Int).length), .int .i64 (W (1 + (W (p0.1.tmod 6)))), .slice a101 l100.length c101, .slice a146 x145.length c146]) bx13 nag28.sz Y R R R R R (nb R) R fun s149 m150 bx13 => ?_)
      replace m0 := ((m0.trans m144.no).trans (m148.one up)).trans (m150.one up)
      replace bx4 := ((bx4.mv m144 no_No).mv m148 (tq R)).mv m150 (tq R)
      replace bx7 := ((bx7.mv m144 no_No).mv m148 (tq R)).mv m150 (tq R)
      replace h10 := ((h10.mono m144.z).mono (m148.le (tg0 hN))).mono (m150.le (tg0 hN))
      replace h101 := ((h101.mv m144 no_No no_No).mv m148 (tq R) (tg0 hN)).mv m150 (tq R) (tg0 hN)
      replace h146 := h146.mv m150 (tq R) (tg0 hN)
      exact L.nil (X.blkN (X.sub (Jj137 _ _ ⟨s149, x145, a146, c146, hm, m0, h10, h101, h146, bx4, bx7, bx13, R, R⟩) (Sub.rf R)))
     exact E.cF R hc (E.skip (X.blkN (X.sub (Jj137 _ _ ⟨s131, st128.2, a106, c106, hm, m0, h10, h101, h106, bx4, bx7, bx13, R, R⟩) (Sub.rf R))))
    intro J151
    rcases Bool.eq_false_or_eq_true (decide ((W ((W (x140.tmod 7)) - 1)) ≥ 0)) with hc | hc
    ·exact L.know (d := 47) R hc (L.mv (Wt.mk R R) R R (L.fa fa30_1 (Wt.mk R R) R R (L.ld (j := 1) bx13.mem nag3 (Wt.mk R R) R R R R (L.bi (Wt.mk R R) R R R R (L.pkT Y R R R R (L.sb (J151 _ _ ⟨(decide ((W ((W (x140.tmod 7)) - 1)) < (W (1 + (W (p0.1.tmod 6)))))), (andT hc).symm, R, R⟩) R))))))
    exact L.know (d := 47) R hc (L.skip R R R R (L.skip R R R R (L.skip R R R R (L.skip R R R R (L.pkF Y R R R R (L.sb (J151 _ _ ⟨false, (andF hc).symm, R, R⟩) R))))))
   refine E.cF R hc (E.exit (X.seqX (X.seqX ?_)))
   have hx := ho128 _ (oi hm).symm
   subst hx
   exact X.sub (K133 _ _ ⟨s131, a106, c106, m0, h10, h101, h106, bx4, bx7, bx13, R, R⟩) (Sub.rf R)
  intro Jj103
  refine ER (L.fa fa25_1 Y R R (L.ld (j := 1) bx4.mem nag5 Y R R R R (L.mv Y R R ?_)))
  obtain ⟨_, z152, hm⟩ := bindS hm
  refine L.shr Y R R (ng_some z152) R (L.bi Y R R R R (L.bi Y R R R R (L.nil (X.seqN ?_))))
  rcases ifS hm with ⟨hc, hm⟩ | ⟨hc, hm⟩
  ·refine E.cT R hc (E.reg (L.fa fa30_2 Y R R (L.ld (j := 2) bx13.mem nag27 Y R R R R (L.mv Y R R (L.bsE (k := 1) (cs := [.int .i64 st90.1]) 0 bs27 (nb R) Y R R R R fun b153 s154 m155 bx153 => ?_)))))
   replace h20 := h20.mv m155 no_No no_No
   have h153 := Bx.rdL (r := qI) (xs := ([st90.1] : List Int)) bx153 ⟨[.int .i64 st90.1], _, R, R, R⟩ (nb R)
   obtain ⟨x156, ex156, hm⟩ := bindS hm
   refine L.ap (r := qI) Tryz.underlying27 el3 R (tgp hN) h20 h153.wk Y R R ex156 R fun a157 c157 s158 m159 h157 => ?_
   replace bx13 := (bx13.mv m155 no_No).mv m159 (tq R)
   refine L.fa fa30_2 Y R R (L.st (c := [.slice a157 x156.length c157]) (cs' := #[.slice (some ⟨b10, 0, none⟩) ([0, 1, 2, 3] : List Int).length (([0, 1, 2, 3] : List Int).length), .int .i64 (W (1 + (W (p0.1.tmod 6)))), .slice a157 x156.length c157, .slice a22 st90.2.2.length c22]) bx13 nag27.sz Y R R R R R (nb R) R fun s160 m161 bx13 => ?_)
   replace m0 := ((m0.trans m155.no).trans (m159.one up)).trans (m161.one up)
   replace bx4 := ((bx4.mv m155 no_No).mv m159 (tq R)).mv m161 (tq R)
   replace bx7 := ((bx7.mv m155 no_No).mv m159 (tq R)).mv m161 (tq R)
   replace h10 := ((h10.mono m155.z).mono (m159.le (tg0 hN))).mono (m161.le (tg0 hN))
   replace h157 := h157.mv m161 (tq R) (tg0 hN)
   replace h22 := ((h22.mv m155 no_No no_No).mv m159 (tq R) (tg0 hN)).mv m161 (tq R) (tg0 hN)
   exact L.nil (X.sub (Jj103 _ _ ⟨s160, x156, a157, c157, hm, m0, h10, h157, h22, bx4, bx7, bx13, R, R⟩) (Sub.rf R))
  exact E.cF R hc (E.skip (X.sub (Jj103 _ _ ⟨s95, st90.2.1, a20, c20, hm, m0, h10, h20, h22, bx4, bx7, bx13, R, R⟩) (Sub.rf R)))
 refine E.cF R hc (E.exit (X.seqX (X.seqX ?_)))
 have hx := ho90 _ (oi hm).symm
 subst hx
 exact X.sub (K99 _ _ ⟨s95, a20, c20, a22, c22, m0, h10, h20, h22, bx7, bx13, R, R⟩) (Sub.rf R)

noncomputable def m_overseerlaw24_from_j1 (st221 : Int × List Bool × List Int) (l228 : List Int) (l230 : List Bool) : Option ((Int × List Bool × List Int) ⊕ (List Bool × List Int)) :=
 some (.inl (W (st221.1 + 1), l230, l228))
noncomputable def m_overseerlaw24_from_j2 (st221 : Int × List Bool × List Int) (x233 : Int × Int × Int) (b235 : Bool) : Option ((Int × List Bool × List Int) ⊕ (List Bool × List Int)) :=
 if b235 then
  (idx st221.2.1 x233.2.2).bind fun x238 =>
  (upd st221.2.1 x233.2.2 true).bind fun x240 =>
  (app st221.2.2 ([x233.2.2] : List Int)).bind fun x246 =>
  m_overseerlaw24_from_j1 st221 x246 x240
 else
  m_overseerlaw24_from_j1 st221 st221.2.2 st221.2.1
noncomputable def m_overseerlaw24_from_l2 (p0 : AutT) (st153 : Int × List Bool × List Int) (st221 : Int × List Bool × List Int) : Option ((Int × List Bool × List Int) ⊕ (List Bool × List Int)) :=
 if decide (st221.1 < (p0.2.2.2.length : Int)) then
  (idx p0.2.2.2 st221.1).bind fun x233 =>
  (idx p0.2.2.2 st221.1).bind fun x254 =>
  (idx st221.2.2 st153.1).bind fun x261 =>
  if (x254.1 == x261) then
   (idx st221.2.1 x233.2.2).bind fun x270 =>
   m_overseerlaw24_from_j2 st221 x233 (!x270)
  else
   m_overseerlaw24_from_j2 st221 x233 false
 else
  some (.inr st221.2)
noncomputable def m_overseerlaw24_from_l1 (p0 : AutT) (st153 : Int × List Bool × List Int) : Option ((Int × List Bool × List Int) ⊕ (List Bool)) :=
 if decide (st153.1 < (st153.2.2.length : Int)) then
  (iter (m_overseerlaw24_from_l2 p0 st153) (0, st153.2)).bind fun o221 =>
  some (.inl (W (st153.1 + 1), o221))
 else
  some (.inr st153.2.1)
noncomputable def m_overseerlaw24_from (p0 : AutT) (p1 : Int) : Option (List Bool) :=
 (mkL p0.2.1 false).bind fun x8 =>
 (idx x8 p1).bind fun x15 =>
 (upd x8 p1 true).bind fun x17 =>
 (iter (m_overseerlaw24_from_l1 p0) (0, x17, ([p1] : List Int))).bind fun o153 =>
 some o153
abbrev m_overseerlaw24_from_w0 : List (List Nat) := [[], [0], [], [0, 1, 2], [0, 1, 2, 3], [0, 1, 2, 3, 4], [], [], [6, 7], [6, 7, 8], [0, 1, 2, 3, 4, 5, 6, 7, 8, 9], [0, 1, 2, 3, 4, 5, 6, 7, 8, 9, 10], [0, 1, 2, 3, 4, 5, 6, 7, 8, 9, 10, 11], [0, 1, 2, 3, 4, 5, 6, 7, 8, 9, 10, 11], [0, 1, 2, 3, 4, 5, 6, 7, 8, 9, 10, 11, 12, 13], [0, 1, 2, 3, 4, 5, 6, 7, 8, 9, 10, 11, 12, 13, 14], [0, 1, 2, 3, 4, 5, 6, 7, 8, 9, 10, 11, 12, 13, 14, 15], [0, 1, 2, 3, 4, 5, 6, 7, 8, 9, 10, 11, 12, 13, 14, 15, 16]]
theorem m_overseerlaw24_from_c {s : Sig} {p0 : AutT} {p1 : Int} {a1 : Option Addr} {c1 : Nat} {a2 : Option Addr} {c2 : Nat} {a3 : Option Addr} {c3 : Nat} {u0 : Nat} {r : List Bool} (h1 : RdL qI s a1 c1 p0.1) (h2 : RdL qI s a2 c2 p0.2.2.1) (h3 : RdL qT s a3 c3 p0.2.2.2) (hm : m_overseerlaw24_from p0 p1 = some r) :
    Calls Tryz.prog 24 #[.agg #[.slice a1 p0.1.length c1, .int .i64 p0.2.1, .slice a2 p0.2.2.1.length c2, .slice a3 p0.2.2.2.length c3], .int .i64 p1] s.w (RetS No s fun v s' => ∃ (a4 : Option Addr) (c4 : Nat), v = .slice a4 r.length c4 ∧ RowT rB s' u0 4 a4 c4 r) := by
 unfold m_overseerlaw24_from at hm
 obtain ⟨N, hN, hNb⟩ := s.fresh
 have m0 : Mv (Up N No) s s := Mv.refl _ _
 refine E.entry Tryz.func24 R Tryz.ntmps24 R R (ER (L.box (N + 0) Y R R R fun b5 s6 m7 bx5 => ?_))
 refine L.as Y R R (LN (ER (L.fa fa30_1 Y R R (L.ld (j := 1) bx5.mem nag3 Y R R R R ?_))))
 obtain ⟨x8, ex8, hm⟩ := bindS hm
 refine L.mk (z := false) (N + 1) Tryz.underlying55 zr4 R Y R R ex8 R fun b9 s10 m11 h9 => ?_
 refine L.as Y R R (LN (ER (L.mv Y R R (L.bsE (k := 1) (cs := [.int .i64 p1]) (N + 2) bs27 (nb R) Y R R R R fun b12 s13 m14 bx12 => ?_))))
 replace h9 := h9.mv m14 no_No no_No
 have h12 := Bx.row (r := qI) (xs := ([p1] : List Int)) bx12 ⟨[.int .i64 p1], _, R, R, R⟩ (nb R)
 refine L.as Y R R (LN (ER (L.mv Y R R (L.mv Y R R ?_))))
 obtain ⟨x15, ex15, hm⟩ := bindS hm
 refine L.ir (r := rB) sl55 h9 Y R R ex15 R fun b16 o16 cc16 me16 rd16 sp16 => ?_
 obtain rfl := rd16
 obtain ⟨x17, ex17, hm⟩ := bindS hm
 have elx17 := upd_len ex17
 refine L.su (fo := 0) (c := [.bool true]) (z := true) h9 sp16 ex15 ex17 (tgp hN) nag4.sz Y R R R R R R (fun c0 hc0 => by obtain rfl := hc0; exact R) fun s18 m19 h9 => ?_
 replace m0 := (((m0.trans m7.no).trans m11.no).trans m14.no).trans (m19.one up)
 replace h12 := h12.mv m19 (tq R) (tg0 hN)
 replace bx5 := ((bx5.mv m11 no_No).mv m14 no_No).mv m19 (tq R)
 replace h1 := (((h1.mono m7.z).mono m11.z).mono m14.z).mono (m19.le (tg0 hN))
 replace h2 := (((h2.mono m7.z).mono m11.z).mono m14.z).mono (m19.le (tg0 hN))
 replace h3 := (((h3.mono m7.z).mono m11.z).mono m14.z).mono (m19.le (tg0 hN))
 refine L.reval (d := 5) R elx17 (LN (E.seq (ER (L.as Y R R (LN (E.block ?_))))))
 obtain ⟨o153, eo153, hm⟩ := bindS hm
 refine E.cut (x := .exit 0) (fun e w => ∃ (s156 : Sig), Mv (Up N No) s s156 ∧ RowT rB s156 (N + 1) 4 (some ⟨b9, 0, none⟩) x8.length o153 ∧ e = [(5, .slice (some ⟨b9, 0, none⟩) o153.length x8.length)] ∧ w = s156.w) ?_ ?_
 ·rintro _ _ ⟨s156, m0, h9, rfl, rfl⟩
  refine X.blkE (X.seqN (ER (L.mv Y R R (L.as Y R R (LN (E.ret ?_))))))
  obtain rfl := oi hm
  exact X.rt (.inl R) Tryz.results24 (Rs.tmp R Rs.nil) R ⟨_, (s156).ren N (fun k => cond (Nat.beq k 1) u0 (0)), R, R, m0.ren hNb, ⟨(some ⟨b9, 0, none⟩), x8.length, R, (h9.ren hN)⟩⟩
 intro K157
 refine E.iter (fun (st153 : Int × List Bool × List Int) (e : List (Nat × Value)) (w : World) => ∃ (s155 : Sig) (a23 : Option Addr) (c23 : Nat), Mv (Up N No) s s155 ∧ RowT rB s155 (N + 1) 4 (some ⟨b9, 0, none⟩) x8.length st153.2.1 ∧ RowT qI s155 (N + 2) 3 a23 c23 st153.2.2 ∧ RdL qI s155 a1 c1 p0.1 ∧ RdL qI s155 a2 c2 p0.2.2.1 ∧ RdL qT s155 a3 c3 p0.2.2.2 ∧ Bx s155 (N + 0) b5 #[.slice a1 p0.1.length c1, .int .i64 p0.2.1, .slice a2 p0.2.2.1.length c2, .slice a3 p0.2.2.2.length c3] 30 ∧ e = [(7, .int .i64 st153.1), (5, .slice (some ⟨b9, 0, none⟩) st153.2.1.length x8.length), (6, .slice a23 st153.2.2.length c23), (2, .pointer (some ⟨b5, 0, none⟩))] ∧ w = s155.w) eo153 ⟨s18, (some ⟨b12, 0, none⟩), ([p1] : List Int).length, m0, h9, h12, h1, h2, h3, bx5, R, R⟩ (Sub.rf R) ?_
 rintro st153 res153 hm ih153 ho153 _ _ ⟨s155, a23, c23, m0, h9, h23, h1, h2, h3, bx5, rfl, rfl⟩
 unfold m_overseerlaw24_from_l1 at hm
 refine E.seq (ER (L.mv Y R R (L.mv Y R R (L.len sl27 Y R R (L.bi Y R R R R (L.nil (X.seqN ?_)))))))
 rcases ifS hm with ⟨hc, hm⟩ | ⟨hc, hm⟩
 ·refine E.cT R hc (E.skip (X.seqN (E.seq (E.block (ER (L.as Y R R (LN (E.block ?_))))))))
  obtain ⟨o221, eo221, hm⟩ := bindS hm
  refine E.cut (x := .exit 2) (fun e w => ∃ (s226 : Sig) (a224 : Option Addr) (c224 : Nat), Mv (Up N No) s s226 ∧ RowT rB s226 (N + 1) 4 (some ⟨b9, 0, none⟩) x8.length o221.1 ∧ RowT qI s226 (N + 2) 3 a224 c224 o221.2 ∧ RdL qI s226 a1 c1 p0.1 ∧ RdL qI s226 a2 c2 p0.2.2.1 ∧ RdL qT s226 a3 c3 p0.2.2.2 ∧ Bx s226 (N + 0) b5 #[.slice a1 p0.1.length c1, .int .i64 p0.2.1, .slice a2 p0.2.2.1.length c2, .slice a3 p0.2.2.2.length c3] 30 ∧ e = [(7, .int .i64 st153.1), (5, .slice (some ⟨b9, 0, none⟩) o221.1.length x8.length), (6, .slice a224 o221.2.length c224), (2, .pointer (some ⟨b5, 0, none⟩))] ∧ w = s226.w) ?_ ?_
  ·rintro _ _ ⟨s226, a224, c224, m0, h9, h224, h1, h2, h3, bx5, rfl, rfl⟩
   exact X.blkE (X.blkN (X.seqN (E.reg (L.mv Y R R (L.bi Y R R R R (L.as Y R R (L.nil (X.sub (ih153 _ (oi hm).symm _ _ ⟨s226, a224, c224, m0, h9, h224, h1, h2, h3, bx5, R, R⟩) (Sub.rf R)))))))))
  intro K227
  refine E.iter (fun (st221 : Int × List Bool × List Int) (e : List (Nat × Value)) (w : World) => ∃ (s225 : Sig) (a161 : Option Addr) (c161 : Nat), Mv (Up N No) s s225 ∧ RowT rB s225 (N + 1) 4 (some ⟨b9, 0, none⟩) x8.length st221.2.1 ∧ RowT qI s225 (N + 2) 3 a161 c161 st221.2.2 ∧ RdL qI s225 a1 c1 p0.1 ∧ RdL qI s225 a2 c2 p0.2.2.1 ∧ RdL qT s225 a3 c3 p0.2.2.2 ∧ Bx s225 (N + 0) b5 #[.slice a1 p0.1.length c1, .int .i64 p0.2.1, .slice a2 p0.2.2.1.length c2, .slice a3 p0.2.2.2.length c3] 30 ∧ e = [(8, .int .i64 st221.1), (7, .int .i64 st153.1), (5, .slice (some ⟨b9, 0, none⟩) st221.2.1.length x8.length), (6, .slice a161 st221.2.2.length c161), (2, .pointer (some ⟨b5, 0, none⟩))] ∧ w = s225.w) eo221 ⟨s155, a23, c23, m0, h9, h23, h1, h2, h3, bx5, R, R⟩ (Sub.rf R) ?_
  rintro st221 res221 hm ih221 ho221 _ _ ⟨s225, a161, c161, m0, h9, h161, h1, h2, h3, bx5, rfl, rfl⟩
  unfold m_overseerlaw24_from_l2 at hm
  refine E.seq (ER (L.mv Y R R (L.fa fa30_3 Y R R (L.ld (j := 3) bx5.mem nag28 Y R R R R (L.len sl28 Y R R (L.bi Y R R R R (L.nil (X.seqN ?_))))))))
  rcases ifS hm with ⟨hc, hm⟩ | ⟨hc, hm⟩
  ·refine E.cT R hc (E.skip (X.seqN (E.seqJ (fun e w => ∃ (s231 : Sig) (l228 : List Int) (l230 : List Bool) (a229 : Option Addr) (c229 : Nat), m_overseerlaw24_from_j1 st221 l228 l230 = some res221 ∧ Mv (Up N No) s s231 ∧ RowT qI s231 (N + 2) 3 a229 c229 l228 ∧ RowT rB s231 (N + 1) 4 (some ⟨b9, 0, none⟩) x8.length l230 ∧ RdL qI s231 a1 c1 p0.1 ∧ RdL qI s231 a2 c2 p0.2.2.1 ∧ RdL qT s231 a3 c3 p0.2.2.2 ∧ Bx s231 (N + 0) b5 #[.slice a1 p0.1.length c1, .int .i64 p0.2.1, .slice a2 p0.2.2.1.length c2, .slice a3 p0.2.2.2.length c3] 30 ∧ e = [(6, .slice a229 l228.length c229), (5, .slice (some ⟨b9, 0, none⟩) l230.length x8.length), (8, .int .i64 st221.1), (7, .int .i64 st153.1), (2, .pointer (some ⟨b5, 0, none⟩))] ∧ w = s231.w) ?_ ?_)))
   ·rintro _ _ ⟨s231, l228, l230, a229, c229, hm, m0, h229, h9, h1, h2, h3, bx5, rfl, rfl⟩
    unfold m_overseerlaw24_from_j1 at hm
    exact E.reg (L.mv Y R R (L.bi Y R R R R (L.as Y R R (L.nil (X.sub (ih221 _ (oi hm).symm _ _ ⟨s231, a229, c229, m0, h9, h229, h1, h2, h3, bx5, R, R⟩) (Sub.rf R))))))
   intro Jj232
   refine E.block (ER (L.fa fa30_3 Y R R (L.ld (j := 3) bx5.mem nag28 Y R R R R (L.mv Y R R ?_))))
   obtain ⟨x233, ex233, hm⟩ := bindS hm
   refine L.ix (r := qT) sl28 h3 Y R R ex233 R fun b234 o234 cc234 me234 rd234 => ?_
   obtain ⟨_, _, rfl, rfl, ⟨_, _, rfl, rfl, rfl⟩⟩ := rd234
   refine L.fa fa62_2 Y R R (L.ld (j := 2) me234 nag3 Y R R R R (L.as Y R R (LN (E.seqJ (fun e w => ∃ (s236 : Sig) (b235 : Bool), m_overseerlaw24_from_j2 st221 x233 b235 = some res221 ∧ Mv (Up N No) s s236 ∧ RowT rB s236 (N + 1) 4 (some ⟨b9, 0, none⟩) x8.length st221.2.1 ∧ RowT qI s236 (N + 2) 3 a161 c161 st221.2.2 ∧ RdL qI s236 a1 c1 p0.1 ∧ RdL qI s236 a2 c2 p0.2.2.1 ∧ RdL qT s236 a3 c3 p0.2.2.2 ∧ Bx s236 (N + 0) b5 #[.slice a1 p0.1.length c1, .int .i64 p0.2.1, .slice a2 p0.2.2.1.length c2, .slice a3 p0.2.2.2.length c3] 30 ∧ e = [(54, .bool b235), (9, .int .i64 x233.2.2), (8, .int .i64 st221.1), (7, .int .i64 st153.1), (5, .slice (some ⟨b9, 0, none⟩) st221.2.1.length x8.length), (6, .slice a161 st221.2.2.length c161), (2, .pointer (some ⟨b5, 0, none⟩))] ∧ w = s236.w) ?_ ?_))))
   ·rintro _ _ ⟨s236, b235, hm, m0, h9, h161, h1, h2, h3, bx5, rfl, rfl⟩
    unfold m_overseerlaw24_from_j2 at hm
    rcases ifS hm with ⟨hc, hm⟩ | ⟨hc, hm⟩
    ·refine E.cT R hc (ER (L.mv Y R R (L.mv Y R R ?_)))
     obtain ⟨x238, ex238, hm⟩ := bindS hm
     refine L.ir (r := rB) sl55 h9 Y R R ex238 R fun b239 o239 cc239 me239 rd239 sp239 => ?_
     obtain rfl := rd239
     obtain ⟨x240, ex240, hm⟩ := bindS hm
     have elx240 := upd_len ex240
     refine L.su (fo := 0) (c := [.bool true]) (z := true) h9 sp239 ex238 ex240 (tgp hN) nag4.sz Y R R R R R R (fun c0 hc0 => by obtain rfl := hc0; exact R) fun s241 m242 h9 => ?_
     refine L.reval (d := 5) R elx240 (LN (E.reg (L.mv Y R R (L.mv Y R R (L.bsE (k := 1) (cs := [.int .i64 x233.2.2]) 0 bs27 (nb R) Y R R R R fun b243 s244 m245 bx243 => ?_)))))
     replace h161 := (h161.mv m242 (tq R) (tg0 hN)).mv m245 no_No no_No
     have h243 := Bx.rdL (r := qI) (xs := ([x233.2.2] : List Int)) bx243 ⟨[.int .i64 x233.2.2], _, R, R, R⟩ (nb R)
     obtain ⟨x246, ex246, hm⟩ := bindS hm
     refine L.ap (r := qI) Tryz.underlying27 el3 R (tgp hN) h161 h243.wk Y R R ex246 R fun a247 c247 s248 m249 h247 => ?_
     replace m0 := ((m0.trans (m242.one up)).trans m245.no).trans (m249.one up)
     replace h9 := (h9.mv m245 no_No no_No).mv m249 (tq R) (tg0 hN)
     replace bx5 := ((bx5.mv m242 (tq R)).mv m245 no_No).mv m249 (tq R)
     replace h1 := ((h1.mono (m242.le (tg0 hN))).mono m245.z).mono (m249.le (tg0 hN))
     replace h2 := ((h2.mono (m242.le (tg0 hN))).mono m245.z).mono (m249.le (tg0 hN))
     replace h3 := ((h3.mono (m242.le (tg0 hN))).mono m245.z).mono (m249.le (tg0 hN))
     exact L.as Y R R (L.nil (X.blkN (X.sub (Jj232 _ _ ⟨s248, x246, x240, a247, c247, hm, m0, h247, h9, h1, h2, h3, bx5, R, R⟩) (Sub.rf R))))
    exact E.cF R hc (E.skip (X.blkN (X.sub (Jj232 _ _ ⟨s236, st221.2.2, st221.2.1, a161, c161, hm, m0, h161, h9, h1, h2, h3, bx5, R, R⟩) (Sub.rf R))))
   intro Jj237
   obtain ⟨x254, ex254, hm⟩ := bindS hm
   obtain ⟨x261, ex261, hm⟩ := bindS hm
   rcases ifS hm with ⟨hc266, hm⟩ | ⟨hc266, hm⟩
   ·have _ := hN
    obtain ⟨x270, ex270, hm⟩ := bindS hm
    refine E.draw m_overseerlaw24_from_w0 (fun D e sx => Mv No s225 sx ∧ Sub [(9, .int .i64 x233.2.2), (8, .int .i64 st221.1), (7, .int .i64 st153.1), (5, .slice (some ⟨b9, 0, none⟩) st221.2.1.length x8.length), (6, .slice a161 st221.2.2.length c161), (2, .pointer (some ⟨b5, 0, none⟩))] e ∧ AllP [G D e 0 37 (.pointer (some ⟨b5, 3, none⟩)), G D e 1 38 (.slice a3 p0.2.2.2.length c3), G D e 2 39 (.int .i64 st221.1), D 3 = true → (∃ (b255 : Nat) (o255 : Nat), Env.get e 40 = some (.pointer (some ⟨b255, o255, none⟩)) ∧ Mem sx 0 b255 o255 [.int .i64 x254.1, .int .i64 x254.2.1, .int .i64 x254.2.2]), D 4 = true → ∀ (b255 : Nat) (o255 : Nat), Env.get e 40 = some (.pointer (some ⟨b255, o255, none⟩)) → (Env.get e 41 = some (.pointer (some ⟨b255, o255 + 0, none⟩))), G D e 5 42 (.int .i64 x254.1), G D e 6 43 (.slice a161 st221.2.2.length c161), G D e 7 44 (.int .i64 st153.1), D 8 = true → (∃ (b262 : Nat) (o262 : Nat), Env.get e 45 = some (.pointer (some ⟨b262, o262, none⟩)) ∧ Mem sx (N + 2) b262 o262 [.int .i64 x261] ∧ Spot a161 qI.sz (st153.1).toNat b262 o262), G D e 9 46 (.int .i64 x261), G D e 10 47 (.bool (x254.1 == x261)), G D e 11 48 (.bool (x254.1 == x261)), G D e 12 49 (.slice (some ⟨b9, 0, none⟩) st221.2.1.length x8.length), G D e 13 50 (.int .i64 x233.2.2), D 14 = true → (∃ (b271 : Nat) (o271 : Nat), Env.get e 51 = some (.pointer (some ⟨b271, o271, none⟩)) ∧ Mem sx (N + 1) b271 o271 [.bool x270] ∧ Spot (some ⟨b9, 0, none⟩) rB.sz (x233.2.2).toNat b271 o271), G D e 15 52 (.bool x270), G D e 16 53 (.bool (!x270)), G D e 17 54 (.bool (!x270))]) (by kernel_rfl) (by kernel_rfl) (by kernel_rfl) ?_ ?_ ?_
    ·intro sz mz
     exact ⟨mz, (Sub.rf R), nofun, nofun, nofun, nofun, nofun, nofun, nofun, nofun, nofun, nofun, nofun, nofun, nofun, nofun, nofun, nofun, nofun, nofun, trivial⟩
    ·refine ⟨?_, ?_, ?_, ?_, ?_, ?_, ?_, ?_, ?_, ?_, ?_, ?_, ?_, ?_, ?_, ?_, ?_, ?_, trivial⟩
     ·rintro D e s250 ⟨im, ib, i⟩ hk hf ha
      have kn := K1 (ib 2 _ R)
      exact kn.g (L.fa fa30_3 Y R R (L.nil (X.dk kn ⟨im, Sub.fresh ib R, i.u 0 (fun _ => R)⟩)))
     ·rintro D e s251 ⟨im, ib, i⟩ hk hf ha
      have bx5 := bx5.mv im no_No
      have kn := K1 ((i.p 0) (ha.at 0 R))
      exact kn.g (L.ld (j := 3) bx5.mem nag28 Y R R R R (L.nil (X.dk kn ⟨im, Sub.fresh ib R, i.u 1 (fun _ => R)⟩)))
     ·rintro D e s252 ⟨im, ib, i⟩ hk hf ha
      have kn := K1 (ib 8 _ R)
      exact kn.g (L.mv Y R R (L.nil (X.dk kn ⟨im, Sub.fresh ib R, i.u 2 (fun _ => R)⟩)))
     ·rintro D e s253 ⟨im, ib, i⟩ hk hf ha
      have h3 := h3.mono im.z
      have kn := K2 ((i.p 1) (ha.at 1 R)) ((i.p 2) (ha.at 2 R))
      refine kn.g (L.ix (r := qT) sl28 h3 Y R R ex254 R fun b255 o255 cc255 me255 rd255 => ?_)
      obtain ⟨_, _, rfl, rfl, ⟨_, _, rfl, rfl, rfl⟩⟩ := rd255
      exact L.nil (X.dk kn ⟨im, Sub.fresh ib R, (i.u 3 (fun _ => ⟨b255, o255, R, me255⟩)).u 4 (fun z => Bool.noConfusion ((hf 4 (nb R) R).symm.trans z))⟩)
     ·rintro D e s256 ⟨im, ib, i⟩ hk hf ha
      obtain ⟨b255, o255, g3_, me255⟩ := (i.p 3) (ha.at 3 R)
      have kn := K1 g3_
      exact kn.g (L.fa fa62_0 Y R R (L.nil (X.dk kn ⟨im, Sub.fresh ib R, i.u 4 (fun _ _ _ q3 => by cases g3_.symm.trans q3; exact R)⟩)))
     ·rintro D e s257 ⟨im, ib, i⟩ hk hf ha
      obtain ⟨b255, o255, g3_, me255⟩ := (i.p 3) (ha.at 3 R)
      have g4_ := (i.p 4) (ha.at 4 R) b255 o255 g3_
      have kn := K1 g4_
      exact kn.g (L.ld (j := 0) me255 nag3 Y R R R R (L.nil (X.dk kn ⟨im, Sub.fresh ib R, i.u 5 (fun _ => R)⟩)))
     ·rintro D e s258 ⟨im, ib, i⟩ hk hf ha
      have kn := K1 (ib 6 _ R)
      exact kn.g (L.mv Y R R (L.nil (X.dk kn ⟨im, Sub.fresh ib R, i.u 6 (fun _ => R)⟩)))
     ·rintro D e s259 ⟨im, ib, i⟩ hk hf ha
      have kn := K1 (ib 7 _ R)
      exact kn.g (L.mv Y R R (L.nil (X.dk kn ⟨im, Sub.fresh ib R, i.u 7 (fun _ => R)⟩)))
     ·rintro D e s260 ⟨im, ib, i⟩ hk hf ha
      have h161 := h161.mv im no_No no_No
      have kn := K2 ((i.p 6) (ha.at 6 R)) ((i.p 7) (ha.at 7 R))
      refine kn.g (L.ir (r := qI) sl27 h161 Y R R ex261 R fun b262 o262 cc262 me262 rd262 sp262 => ?_)
      obtain rfl := rd262
      exact L.nil (X.dk kn ⟨im, Sub.fresh ib R, i.u 8 (fun _ => ⟨b262, o262, R, me262, sp262⟩)⟩)
     ·rintro D e s263 ⟨im, ib, i⟩ hk hf ha
      obtain ⟨b262, o262, g8_, me262, sp262⟩ := (i.p 8) (ha.at 8 R)
      have kn := K1 g8_
      exact kn.g (L.ld (j := 0) me262 nag3 Y R R R R (L.nil (X.dk kn ⟨im, Sub.fresh ib R, i.u 9 (fun _ => R)⟩)))
     ·rintro D e s264 ⟨im, ib, i⟩ hk hf ha
      have kn := K2 ((i.p 5) (ha.at 5 R)) ((i.p 9) (ha.at 9 R))
      exact kn.g (L.bi Y R R R R (L.nil (X.dk kn ⟨im, Sub.fresh ib R, i.u 10 (fun _ => R)⟩)))
     ·rintro D e s265 ⟨im, ib, i⟩ hk hf ha
      have kn := K1 ((i.p 10) (ha.at 10 R))
      exact kn.g (L.mv Y R R (L.nil (X.dk kn ⟨im, Sub.fresh ib R, i.u 11 (fun _ => R)⟩)))
     ·rintro D e s267 ⟨im, ib, i⟩ hk hf ha
      have g11_ := (i.p 11) (ha.at 11 R)
      rw [hc266] at g11_
      have kn := K2 (ib 5 _ R) g11_
      exact kn.g (L.mv (Wt.mk R R) R R (L.nil (X.dk kn ⟨im, Sub.fresh ib R, i.u 12 (fun _ => R)⟩)))
     ·rintro D e s268 ⟨im, ib, i⟩ hk hf ha
      have g11_ := (i.p 11) (ha.at 11 R)
      rw [hc266] at g11_
      have kn := K2 (ib 9 _ R) g11_
      exact kn.g (L.mv (Wt.mk R R) R R (L.nil (X.dk kn ⟨im, Sub.fresh ib R, i.u 13 (fun _ => R)⟩)))
     ·rintro D e s269 ⟨im, ib, i⟩ hk hf ha
      have g11_ := (i.p 11) (ha.at 11 R)
      have h9 := h9.mv im no_No no_No
      rw [hc266] at g11_
      have kn := K3 ((i.p 12) (ha.at 12 R)) ((i.p 13) (ha.at 13 R)) g11_
      refine kn.g (L.ir (r := rB) sl55 h9 (Wt.mk R R) R R ex270 R fun b271 o271 cc271 me271 rd271 sp271 => ?_)
      obtain rfl := rd271
      exact L.nil (X.dk kn ⟨im, Sub.fresh ib R, i.u 14 (fun _ => ⟨b271, o271, R, me271, sp271⟩)⟩)
     ·rintro D e s272 ⟨im, ib, i⟩ hk hf ha
      have g11_ := (i.p 11) (ha.at 11 R)
      obtain ⟨b271, o271, g14_, me271, sp271⟩ := (i.p 14) (ha.at 14 R)
      rw [hc266] at g11_
      have kn := K2 g14_ g11_
      exact kn.g (L.ld (j := 0) me271 nag4 (Wt.mk R R) R R R R (L.nil (X.dk kn ⟨im, Sub.fresh ib R, i.u 15 (fun _ => R)⟩)))
     ·rintro D e s273 ⟨im, ib, i⟩ hk hf ha
      have g11_ := (i.p 11) (ha.at 11 R)
      rw [hc266] at g11_
      have kn := K2 ((i.p 15) (ha.at 15 R)) g11_
      exact kn.g (L.not (Wt.mk R R) R R (L.nil (X.dk kn ⟨im, Sub.fresh ib R, i.u 16 (fun _ => R)⟩)))
     rintro D e s274 ⟨im, ib, i⟩ hk hf ha
     have g11_ := (i.p 11) (ha.at 11 R)
     rw [hc266] at g11_
     have kn := K2 g11_ ((i.p 16) (ha.at 16 R))
     exact kn.g (L.pkT Y R R R R (L.nil (X.dk kn ⟨im, Sub.fresh ib R, i.u 17 (fun _ => R)⟩)))
    rintro D e s275 hD ⟨im, ib, i⟩
    have g17_ := (i.p 17) (hD 17 R)
    have h9 := h9.mv im no_No no_No
    have h161 := h161.mv im no_No no_No
    have bx5 := bx5.mv im no_No
    have h1 := h1.mono im.z
    have h2 := h2.mono im.z
    have h3 := h3.mono im.z
    have m0 := m0.trans im.no
    refine X.sub (e' := [(54, .bool (!x270)), (9, .int .i64 x233.2.2), (8, .int .i64 st221.1), (7, .int .i64 st153.1), (5, .slice (some ⟨b9, 0, none⟩) st221.2.1.length x8.length), (6, .slice a161 st221.2.2.length c161), (2, .pointer (some ⟨b5, 0, none⟩))]) ?_ (Sub.cons g17_ (Sub.cons (ib 9 _ R) (Sub.cons (ib 8 _ R) (Sub.cons (ib 7 _ R) (Sub.cons (ib 5 _ R) (Sub.cons (ib 6 _ R) (Sub.cons (ib 2 _ R) Sub.nil)))))))
    exact X.sub (Jj237 _ _ ⟨s275, (!x270), hm, m0, h9, h161, h1, h2, h3, bx5, R, R⟩) (Sub.rf R)
   have _ := hN
   refine E.draw m_overseerlaw24_from_w0 (fun D e sx => Mv No s225 sx ∧ Sub [(9, .int .i64 x233.2.2), (8, .int .i64 st221.1), (7, .int .i64 st153.1), (5, .slice (some ⟨b9, 0, none⟩) st221.2.1.length x8.length), (6, .slice a161 st221.2.2.length c161), (2, .pointer (some ⟨b5, 0, none⟩))] e ∧ AllP [G D e 0 37 (.pointer (some ⟨b5, 3, none⟩)), G D e 1 38 (.slice a3 p0.2.2.2.length c3), G D e 2 39 (.int .i64 st221.1), D 3 = true → (∃ (b255 : Nat) (o255 : Nat), Env.get e 40 = some (.pointer (some ⟨b255, o255, none⟩)) ∧ Mem sx 0 b255 o255 [.int .i64 x254.1, .int .i64 x254.2.1, .int .i64 x254.2.2]), D 4 = true → ∀ (b255 : Nat) (o255 : Nat), Env.get e 40 = some (.pointer (some ⟨b255, o255, none⟩)) → (Env.get e 41 = some (.pointer (some ⟨b255, o255 + 0, none⟩))), G D e 5 42 (.int .i64 x254.1), G D e 6 43 (.slice a161 st221.2.2.length c161), G D e 7 44 (.int .i64 st153.1), D 8 = true → (∃ (b262 : Nat) (o262 : Nat), Env.get e 45 = some (.pointer (some ⟨b262, o262, none⟩)) ∧ Mem sx (N + 2) b262 o262 [.int .i64 x261] ∧ Spot a161 qI.sz (st153.1).toNat b262 o262), G D e 9 46 (.int .i64 x261), G D e 10 47 (.bool (x254.1 == x261)), G D e 11 48 (.bool (x254.1 == x261)), G D e 12 49 undef, G D e 13 50 undef, G D e 14 51 undef, G D e 15 52 undef, G D e 16 53 undef, G D e 17 54 (.bool false)]) (by kernel_rfl) (by kernel_rfl) (by kernel_rfl) ?_ ?_ ?_
   ·intro sz mz
    exact ⟨mz, (Sub.rf R), nofun, nofun, nofun, nofun, nofun, nofun, nofun, nofun, nofun, nofun, nofun, nofun, nofun, nofun, nofun, nofun, nofun, nofun, trivial⟩
   ·refine ⟨?_, ?_, ?_, ?_, ?_, ?_, ?_, ?_, ?_, ?_, ?_, ?_, ?_, ?_, ?_, ?_, ?_, ?_, trivial⟩
    ·rintro D e s250 ⟨im, ib, i⟩ hk hf ha
     have kn := K1 (ib 2 _ R)
     exact kn.g (L.fa fa30_3 Y R R (L.nil (X.dk kn ⟨im, Sub.fresh ib R, i.u 0 (fun _ => R)⟩)))
    ·rintro D e s251 ⟨im, ib, i⟩ hk hf ha
     have bx5 := bx5.mv im no_No
     have kn := K1 ((i.p 0) (ha.at 0 R))
     exact kn.g (L.ld (j := 3) bx5.mem nag28 Y R R R R (L.nil (X.dk kn ⟨im, Sub.fresh ib R, i.u 1 (fun _ => R)⟩)))
    ·rintro D e s252 ⟨im, ib, i⟩ hk hf ha
     have kn := K1 (ib 8 _ R)
     exact kn.g (L.mv Y R R (L.nil (X.dk kn ⟨im, Sub.fresh ib R, i.u 2 (fun _ => R)⟩)))
    ·rintro D e s253 ⟨im, ib, i⟩ hk hf ha
     have h3 := h3.mono im.z
     have kn := K2 ((i.p 1) (ha.at 1 R)) ((i.p 2) (ha.at 2 R))
     refine kn.g (L.ix (r := qT) sl28 h3 Y R R ex254 R fun b255 o255 cc255 me255 rd255 => ?_)
     obtain ⟨_, _, rfl, rfl, ⟨_, _, rfl, rfl, rfl⟩⟩ := rd255
     exact L.nil (X.dk kn ⟨im, Sub.fresh ib R, (i.u 3 (fun _ => ⟨b255, o255, R, me255⟩)).u 4 (fun z => Bool.noConfusion ((hf 4 (nb R) R).symm.trans z))⟩)
    ·rintro D e s256 ⟨im, ib, i⟩ hk hf ha
     obtain ⟨b255, o255, g3_, me255⟩ := (i.p 3) (ha.at 3 R)
     have kn := K1 g3_
     exact kn.g (L.fa fa62_0 Y R R (L.nil (X.dk kn ⟨im, Sub.fresh ib R, i.u 4 (fun _ _ _ q3 => by cases g3_.symm.trans q3; exact R)⟩)))
    ·rintro D e s257 ⟨im, ib, i⟩ hk hf ha
     obtain ⟨b255, o255, g3_, me255⟩ := (i.p 3) (ha.at 3 R)
     have g4_ := (i.p 4) (ha.at 4 R) b255 o255 g3_
     have kn := K1 g4_
     exact kn.g (L.ld (j := 0) me255 nag3 Y R R R R (L.nil (X.dk kn ⟨im, Sub.fresh ib R, i.u 5 (fun _ => R)⟩)))
    ·rintro D e s258 ⟨im, ib, i⟩ hk hf ha
     have kn := K1 (ib 6 _ R)
     exact kn.g (L.mv Y R R (L.nil (X.dk kn ⟨im, Sub.fresh ib R, i.u 6 (fun _ => R)⟩)))
    ·rintro D e s259 ⟨im, ib, i⟩ hk hf ha
     have kn := K1 (ib 7 _ R)
     exact kn.g (L.mv Y R R (L.nil (X.dk kn ⟨im, Sub.fresh ib R, i.u 7 (fun _ => R)⟩)))
    ·rintro D e s260 ⟨im, ib, i⟩ hk hf ha
     have h161 := h161.mv im no_No no_No
     have kn := K2 ((i.p 6) (ha.at 6 R)) ((i.p 7) (ha.at 7 R))
     refine kn.g (L.ir (r := qI) sl27 h161 Y R R ex261 R fun b262 o262 cc262 me262 rd262 sp262 => ?_)
     obtain rfl := rd262
     exact L.nil (X.dk kn ⟨im, Sub.fresh ib R, i.u 8 (fun _ => ⟨b262, o262, R, me262, sp262⟩)⟩)
    ·rintro D e s263 ⟨im, ib, i⟩ hk hf ha
     obtain ⟨b262, o262, g8_, me262, sp262⟩ := (i.p 8) (ha.at 8 R)
     have kn := K1 g8_
     exact kn.g (L.ld (j := 0) me262 nag3 Y R R R R (L.nil (X.dk kn ⟨im, Sub.fresh ib R, i.u 9 (fun _ => R)⟩)))
    ·rintro D e s264 ⟨im, ib, i⟩ hk hf ha
     have kn := K2 ((i.p 5) (ha.at 5 R)) ((i.p 9) (ha.at 9 R))
     exact kn.g (L.bi Y R R R R (L.nil (X.dk kn ⟨im, Sub.fresh ib R, i.u 10 (fun _ => R)⟩)))
    ·rintro D e s265 ⟨im, ib, i⟩ hk hf ha
     have kn := K1 ((i.p 10) (ha.at 10 R))
     exact kn.g (L.mv Y R R (L.nil (X.dk kn ⟨im, Sub.fresh ib R, i.u 11 (fun _ => R)⟩)))
    ·rintro D e s276 ⟨im, ib, i⟩ hk hf ha
     have g11_ := (i.p 11) (ha.at 11 R)
     rw [hc266] at g11_
     have kn := K2 (ib 5 _ R) g11_
     exact kn.g (L.skip R R R R (L.nil (X.dk kn ⟨im, Sub.fresh ib R, i.u 12 (fun _ => R)⟩)))
    ·rintro D e s277 ⟨im, ib, i⟩ hk hf ha
     have g11_ := (i.p 11) (ha.at 11 R)
     rw [hc266] at g11_
     have kn := K2 (ib 9 _ R) g11_
     exact kn.g (L.skip R R R R (L.nil (X.dk kn ⟨im, Sub.fresh ib R, i.u 13 (fun _ => R)⟩)))
    ·rintro D e s278 ⟨im, ib, i⟩ hk hf ha
     have g11_ := (i.p 11) (ha.at 11 R)
     rw [hc266] at g11_
     have kn := K3 ((i.p 12) (ha.at 12 R)) ((i.p 13) (ha.at 13 R)) g11_
     exact kn.g (L.skip R R R R (L.nil (X.dk kn ⟨im, Sub.fresh ib R, i.u 14 (fun _ => R)⟩)))
    ·rintro D e s279 ⟨im, ib, i⟩ hk hf ha
     have g11_ := (i.p 11) (ha.at 11 R)
     rw [hc266] at g11_
     have kn := K2 ((i.p 14) (ha.at 14 R)) g11_
     exact kn.g (L.skip R R R R (L.nil (X.dk kn ⟨im, Sub.fresh ib R, i.u 15 (fun _ => R)⟩)))
    ·rintro D e s280 ⟨im, ib, i⟩ hk hf ha
     have g11_ := (i.p 11) (ha.at 11 R)
     rw [hc266] at g11_
     have kn := K2 ((i.p 15) (ha.at 15 R)) g11_
     exact kn.g (L.skip R R R R (L.nil (X.dk kn ⟨im, Sub.fresh ib R, i.u 16 (fun _ => R)⟩)))
    rintro D e s281 ⟨im, ib, i⟩ hk hf ha
    have g11_ := (i.p 11) (ha.at 11 R)
    rw [hc266] at g11_
    have kn := K2 g11_ ((i.p 16) (ha.at 16 R))
    exact kn.g (L.pkF Y R R R R (L.nil (X.dk kn ⟨im, Sub.fresh ib R, i.u 17 (fun _ => R)⟩)))
   rintro D e s282 hD ⟨im, ib, i⟩
   have g17_ := (i.p 17) (hD 17 R)
   have h9 := h9.mv im no_No no_No
   have h161 := h161.mv im no_No no_No
   have bx5 := bx5.mv im no_No
   have h1 := h1.mono im.z
   have h2 := h2.mono im.z
   have h3 := h3.mono im.z
   have m0 := m0.trans im.no
   refine X.sub (e' := [(54, .bool false), (9, .int .i64 x233.2.2), (8, .int .i64 st221.1), (7, .int .i64 st153.1), (5, .slice (some ⟨b9, 0, none⟩) st221.2.1.length x8.length), (6, .slice a161 st221.2.2.length c161), (2, .pointer (some ⟨b5, 0, none⟩))]) ?_ (Sub.cons g17_ (Sub.cons (ib 9 _ R) (Sub.cons (ib 8 _ R) (Sub.cons (ib 7 _ R) (Sub.cons (ib 5 _ R) (Sub.cons (ib 6 _ R) (Sub.cons (ib 2 _ R) Sub.nil)))))))
   exact X.sub (Jj237 _ _ ⟨s282, false, hm, m0, h9, h161, h1, h2, h3, bx5, R, R⟩) (Sub.rf R)
  refine E.cF R hc (E.exit (X.seqX (X.seqX ?_)))
  have hx := ho221 _ (oi hm).symm
  subst hx
  exact X.sub (K227 _ _ ⟨s225, a161, c161, m0, h9, h161, h1, h2, h3, bx5, R, R⟩) (Sub.rf R)
 refine E.cF R hc (E.exit (X.seqX (X.seqX ?_)))
 have hx := ho153 _ (oi hm).symm
 subst hx
 exact X.sub (K157 _ _ ⟨s155, m0, h9, R, R⟩) (Sub.rf R)

noncomputable def m_overseerlaw24_has_l1 (p0 : List Int) (p1 : Int) (st6 : Int) : Option (Int ⊕ (Unit ⊕ Unit)) :=
 if decide (st6 < (p0.length : Int)) then
  (idx p0 st6).bind fun x14 =>
  if (x14 == p1) then
   some (.inr (.inr (())))
  else
   some (.inl (W (st6 + 1)))
 else
  some (.inr (.inl ()))
noncomputable def m_overseerlaw24_has (p0 : List Int) (p1 : Int) : Option Bool :=
 (iter (m_overseerlaw24_has_l1 p0 p1) 0).bind fun o6 =>
 match o6 with
 | .inl u8 =>
  some false
 | .inr (u11) =>
  some true
theorem m_overseerlaw24_has_c {s : Sig} {p0 : List Int} {p1 : Int} {a1 : Option Addr} {c1 : Nat} {r : Bool} (h1 : RdL qI s a1 c1 p0) (hm : m_overseerlaw24_has p0 p1 = some r) :
    Calls Tryz.prog 25 #[.slice a1 p0.length c1, .int .i64 p1] s.w (RetS No s fun v s' => v = .bool r) := by
 unfold m_overseerlaw24_has at hm
 obtain ⟨N, hN, hNb⟩ := s.fresh
 have m0 : Mv (Up N No) s s := Mv.refl _ _
 refine E.entry Tryz.func25 R Tryz.ntmps25 R R (ER (L.as Y R R (LN (E.seq (ER (L.as Y R R (LN (E.block ?_))))))))
 obtain ⟨o6, eo6, hm⟩ := bindS hm
 refine E.cut (x := .exit 0) (fun e w => ∃ (s9 : Sig) (u8 : Unit), o6 = .inl u8 ∧ Mv (Up N No) s s9 ∧ e = [] ∧ w = s9.w) ?_ ?_
 ·rintro _ _ ⟨s9, u8, rfl, m0, rfl, rfl⟩
  dsimp only at hm
  refine X.blkE (X.seqN (ER (L.as Y R R (LN (E.ret ?_)))))
  obtain rfl := oi hm
  exact X.rt (.inl R) Tryz.results25 (Rs.tmp R Rs.nil) R ⟨_, (s9).ren N (fun _ => 0), R, R, m0.ren hNb, R⟩
 intro K10
 refine E.cut (x := .ret) (fun e w => ∃ (s12 : Sig) (u11 : Unit), o6 = .inr (u11) ∧ Mv (Up N No) s s12 ∧ e = [(4, .bool true)] ∧ w = s12.w) ?_ ?_
 ·rintro _ _ ⟨s12, u11, rfl, m0, rfl, rfl⟩
  dsimp only at hm
  refine X.blkR (X.seqR ?_)
  obtain rfl := oi hm
  exact X.rt (.inl R) Tryz.results25 (Rs.tmp R Rs.nil) R ⟨_, (s12).ren N (fun _ => 0), R, R, m0.ren hNb, R⟩
 intro K13
 refine E.iter (fun (st6 : Int) (e : List (Nat × Value)) (w : World) => ∃ (s7 : Sig), Mv (Up N No) s s7 ∧ RdL qI s7 a1 c1 p0 ∧ e = [(5, .int .i64 st6), (0, .slice a1 p0.length c1), (1, .int .i64 p1)] ∧ w = s7.w) eo6 ⟨s, m0, h1, R, R⟩ (Sub.rf R) ?_
 rintro st6 res6 hm ih6 ho6 _ _ ⟨s7, m0, h1, rfl, rfl⟩
 unfold m_overseerlaw24_has_l1 at hm
 refine E.seq (ER (L.mv Y R R (L.mv Y R R (L.len sl27 Y R R (L.bi Y R R R R (L.nil (X.seqN ?_)))))))
 rcases ifS hm with ⟨hc, hm⟩ | ⟨hc, hm⟩
 ·refine E.cT R hc (E.skip (X.seqN (E.seq (E.block (ER (L.mv Y R R (L.mv Y R R ?_)))))))
  obtain ⟨x14, ex14, hm⟩ := bindS hm
  refine L.ix (r := qI) sl27 h1 Y R R ex14 R fun b15 o15 cc15 me15 rd15 => ?_
  obtain rfl := rd15
  refine L.ld (j := 0) me15 nag3 Y R R R R (L.mv Y R R (L.bi Y R R R R (L.nil (X.seqN ?_))))
  rcases ifS hm with ⟨hc, hm⟩ | ⟨hc, hm⟩
  ·refine E.cT R hc (ER (L.as Y R R (LN (E.ret (X.blkR (X.seqR (X.seqR ?_)))))))
   have hx := ho6 _ (oi hm).symm
   exact X.sub (K13 _ _ ⟨s7, (), hx.symm, m0, R, R⟩) (Sub.rf R)
  exact E.cF R hc (E.skip (X.blkN (X.seqN (E.reg (L.mv Y R R (L.bi Y R R R R (L.as Y R R (L.nil (X.sub (ih6 _ (oi hm).symm _ _ ⟨s7, m0, h1, R, R⟩) (Sub.rf R))))))))))
 refine E.cF R hc (E.exit (X.seqX (X.seqX ?_)))
 have hx := ho6 _ (oi hm).symm
 exact X.sub (K10 _ _ ⟨s7, (), hx.symm, m0, R, R⟩) Sub.nil

noncomputable def m_overseerlaw24_meets_l1 (p0 : List Bool) (p1 : List Int) (st9 : Int) : Option (Int ⊕ (Unit ⊕ Unit)) :=
 if decide (st9 < (p1.length : Int)) then
  (idx p1 st9).bind fun x17 =>
  (idx p0 x17).bind fun x19 =>
  if x19 then
   some (.inr (.inr (())))
  else
   some (.inl (W (st9 + 1)))
 else
  some (.inr (.inl ()))
noncomputable def m_overseerlaw24_meets (p0 : List Bool) (p1 : List Int) : Option Bool :=
 (iter (m_overseerlaw24_meets_l1 p0 p1) 0).bind fun o9 =>
 match o9 with
 | .inl u11 =>
  some false
 | .inr (u14) =>
  some true
theorem m_overseerlaw24_meets_c {s : Sig} {p0 : List Bool} {p1 : List Int} {a1 : Option Addr} {c1 : Nat} {a2 : Option Addr} {c2 : Nat} {r : Bool} (h1 : RdL rB s a1 c1 p0) (h2 : RdL qI s a2 c2 p1) (hm : m_overseerlaw24_meets p0 p1 = some r) :
    Calls Tryz.prog 27 #[.slice a1 p0.length c1, .slice a2 p1.length c2] s.w (RetS No s fun v s' => v = .bool r) := by
 unfold m_overseerlaw24_meets at hm
 obtain ⟨N, hN, hNb⟩ := s.fresh
 have m0 : Mv (Up N No) s s := Mv.refl _ _
 refine E.entry Tryz.func27 R Tryz.ntmps27 R R (ER (L.as Y R R (LN (E.seq (ER (L.as Y R R (LN (E.block ?_))))))))
 obtain ⟨o9, eo9, hm⟩ := bindS hm
 refine E.cut (x := .exit 0) (fun e w => ∃ (s12 : Sig) (u11 : Unit), o9 = .inl u11 ∧ Mv (Up N No) s s12 ∧ e = [] ∧ w = s12.w) ?_ ?_
 ·rintro _ _ ⟨s12, u11, rfl, m0, rfl, rfl⟩
  dsimp only at hm
  refine X.blkE (X.seqN (ER (L.as Y R R (LN (E.ret ?_)))))
  obtain rfl := oi hm
  exact X.rt (.inl R) Tryz.results27 (Rs.tmp R Rs.nil) R ⟨_, (s12).ren N (fun _ => 0), R, R, m0.ren hNb, R⟩
 intro K13
 refine E.cut (x := .ret) (fun e w => ∃ (s15 : Sig) (u14 : Unit), o9 = .inr (u14) ∧ Mv (Up N No) s s15 ∧ e = [(4, .bool true)] ∧ w = s15.w) ?_ ?_
 ·rintro _ _ ⟨s15, u14, rfl, m0, rfl, rfl⟩
  dsimp only at hm
  refine X.blkR (X.seqR ?_)
  obtain rfl := oi hm
  exact X.rt (.inl R) Tryz.results27 (Rs.tmp R Rs.nil) R ⟨_, (s15).ren N (fun _ => 0), R, R, m0.ren hNb, R⟩
 intro K16
 refine E.iter (fun (st9 : Int) (e : List (Nat × Value)) (w : World) => ∃ (s10 : Sig), Mv (Up N No) s s10 ∧ RdL rB s10 a1 c1 p0 ∧ RdL qI s10 a2 c2 p1 ∧ e = [(5, .int .i64 st9), (0, .slice a1 p0.length c1), (1, .slice a2 p1.length c2)] ∧ w = s10.w) eo9 ⟨s, m0, h1, h2, R, R⟩ (Sub.rf R) ?_
 rintro st9 res9 hm ih9 ho9 _ _ ⟨s10, m0, h1, h2, rfl, rfl⟩
 unfold m_overseerlaw24_meets_l1 at hm
 refine E.seq (ER (L.mv Y R R (L.mv Y R R (L.len sl27 Y R R (L.bi Y R R R R (L.nil (X.seqN ?_)))))))
 rcases ifS hm with ⟨hc, hm⟩ | ⟨hc, hm⟩
 ·refine E.cT R hc (E.skip (X.seqN (E.seq (E.block (ER (L.mv Y R R (L.mv Y R R (L.mv Y R R ?_))))))))
  obtain ⟨x17, ex17, hm⟩ := bindS hm
  refine L.ix (r := qI) sl27 h2 Y R R ex17 R fun b18 o18 cc18 me18 rd18 => ?_
  obtain rfl := rd18
  refine L.ld (j := 0) me18 nag3 Y R R R R ?_
  obtain ⟨x19, ex19, hm⟩ := bindS hm
  refine L.ix (r := rB) sl55 h1 Y R R ex19 R fun b20 o20 cc20 me20 rd20 => ?_
  obtain rfl := rd20
  refine L.ld (j := 0) me20 nag4 Y R R R R (L.nil (X.seqN ?_))
  rcases ifS hm with ⟨hc, hm⟩ | ⟨hc, hm⟩
  ·refine E.cT R hc (ER (L.as Y R R (LN (E.ret (X.blkR (X.seqR (X.seqR ?_)))))))
   have hx := ho9 _ (oi hm).symm
   exact X.sub (K16 _ _ ⟨s10, (), hx.symm, m0, R, R⟩) (Sub.rf R)
  exact E.cF R hc (E.skip (X.blkN (X.seqN (E.reg (L.mv Y R R (L.bi Y R R R R (L.as Y R R (L.nil (X.sub (ih9 _ (oi hm).symm _ _ ⟨s10, m0, h1, h2, R, R⟩) (Sub.rf R))))))))))
 refine E.cF R hc (E.exit (X.seqX (X.seqX ?_)))
 have hx := ho9 _ (oi hm).symm
 exact X.sub (K13 _ _ ⟨s10, (), hx.symm, m0, R, R⟩) Sub.nil

noncomputable def m_overseerlaw24_dead_l1 (p0 : AutT) (p1 : Int) (st11 : Int) : Option (Int ⊕ (Unit ⊕ Unit)) :=
 if decide (st11 < (p0.2.2.2.length : Int)) then
  (idx p0.2.2.2 st11).bind fun x19 =>
  if (x19.1 == p1) then
   some (.inr (.inr (())))
  else
   some (.inl (W (st11 + 1)))
 else
  some (.inr (.inl ()))
noncomputable def m_overseerlaw24_dead (p0 : AutT) (p1 : Int) : Option Bool :=
 (iter (m_overseerlaw24_dead_l1 p0 p1) 0).bind fun o11 =>
 match o11 with
 | .inl u13 =>
  some true
 | .inr (u16) =>
  some false
theorem m_overseerlaw24_dead_c {s : Sig} {p0 : AutT} {p1 : Int} {a1 : Option Addr} {c1 : Nat} {a2 : Option Addr} {c2 : Nat} {a3 : Option Addr} {c3 : Nat} {r : Bool} (h1 : RdL qI s a1 c1 p0.1) (h2 : RdL qI s a2 c2 p0.2.2.1) (h3 : RdL qT s a3 c3 p0.2.2.2) (hm : m_overseerlaw24_dead p0 p1 = some r) :
    Calls Tryz.prog 59 #[.agg #[.slice a1 p0.1.length c1, .int .i64 p0.2.1, .slice a2 p0.2.2.1.length c2, .slice a3 p0.2.2.2.length c3], .int .i64 p1] s.w (RetS No s fun v s' => v = .bool r) := by
 unfold m_overseerlaw24_dead at hm
 obtain ⟨N, hN, hNb⟩ := s.fresh
 have m0 : Mv (Up N No) s s := Mv.refl _ _
 refine E.entry Tryz.func59 R Tryz.ntmps59 R R (ER (L.box (N + 0) Y R R R fun b4 s5 m6 bx4 => ?_))
 replace m0 := m0.trans m6.no
 replace h1 := h1.mono m6.z
 replace h2 := h2.mono m6.z
 replace h3 := h3.mono m6.z
 refine L.as Y R R (LN (E.seq (ER (L.as Y R R (LN (E.block ?_))))))
 obtain ⟨o11, eo11, hm⟩ := bindS hm
 refine E.cut (x := .exit 0) (fun e w => ∃ (s14 : Sig) (u13 : Unit), o11 = .inl u13 ∧ Mv (Up N No) s s14 ∧ e = [] ∧ w = s14.w) ?_ ?_
 ·rintro _ _ ⟨s14, u13, rfl, m0, rfl, rfl⟩
  dsimp only at hm
  refine X.blkE (X.seqN (ER (L.as Y R R (LN (E.ret ?_)))))
  obtain rfl := oi hm
  exact X.rt (.inl R) Tryz.results59 (Rs.tmp R Rs.nil) R ⟨_, (s14).ren N (fun _ => 0), R, R, m0.ren hNb, R⟩
 intro K15
 refine E.cut (x := .ret) (fun e w => ∃ (s17 : Sig) (u16 : Unit), o11 = .inr (u16) ∧ Mv (Up N No) s s17 ∧ e = [(4, .bool false)] ∧ w = s17.w) ?_ ?_
 ·rintro _ _ ⟨s17, u16, rfl, m0, rfl, rfl⟩
  dsimp only at hm
  refine X.blkR (X.seqR ?_)
  obtain rfl := oi hm
  exact X.rt (.inl R) Tryz.results59 (Rs.tmp R Rs.nil) R ⟨_, (s17).ren N (fun _ => 0), R, R, m0.ren hNb, R⟩
 intro K18
 refine E.iter (fun (st11 : Int) (e : List (Nat × Value)) (w : World) => ∃ (s12 : Sig), Mv (Up N No) s s12 ∧ RdL qI s12 a1 c1 p0.1 ∧ RdL qI s12 a2 c2 p0.2.2.1 ∧ RdL qT s12 a3 c3 p0.2.2.2 ∧ Bx s12 (N + 0) b4 #[.slice a1 p0.1.length c1, .int .i64 p0.2.1, .slice a2 p0.2.2.1.length c2, .slice a3 p0.2.2.2.length c3] 30 ∧ e = [(5, .int .i64 st11), (2, .pointer (some ⟨b4, 0, none⟩)), (1, .int .i64 p1)] ∧ w = s12.w) eo11 ⟨s5, m0, h1, h2, h3, bx4, R, R⟩ (Sub.rf R) ?_
 rintro st11 res11 hm ih11 ho11 _ _ ⟨s12, m0, h1, h2, h3, bx4, rfl, rfl⟩
 unfold m_overseerlaw24_dead_l1 at hm
 refine E.seq (ER (L.mv Y R R (L.fa fa30_3 Y R R (L.ld (j := 3) bx4.mem nag28 Y R R R R (L.len sl28 Y R R (L.bi Y R R R R (L.nil (X.seqN ?_))))))))
 rcases ifS hm with ⟨hc, hm⟩ | ⟨hc, hm⟩
 ·refine E.cT R hc (E.skip (X.seqN (E.seq (E.block (ER (L.fa fa30_3 Y R R (L.ld (j := 3) bx4.mem nag28 Y R R R R (L.mv Y R R ?_))))))))
  obtain ⟨x19, ex19, hm⟩ := bindS hm
  refine L.ix (r := qT) sl28 h3 Y R R ex19 R fun b20 o20 cc20 me20 rd20 => ?_
  obtain ⟨_, _, rfl, rfl, ⟨_, _, rfl, rfl, rfl⟩⟩ := rd20
  refine L.fa fa62_0 Y R R (L.ld (j := 0) me20 nag3 Y R R R R (L.mv Y R R (L.bi Y R R R R (L.nil (X.seqN ?_)))))
  rcases ifS hm with ⟨hc, hm⟩ | ⟨hc, hm⟩
  ·refine E.cT R hc (ER (L.as Y R R (LN (E.ret (X.blkR (X.seqR (X.seqR ?_)))))))
   have hx := ho11 _ (oi hm).symm
   exact X.sub (K18 _ _ ⟨s12, (), hx.symm, m0, R, R⟩) (Sub.rf R)
  exact E.cF R hc (E.skip (X.blkN (X.seqN (E.reg (L.mv Y R R (L.bi Y R R R R (L.as Y R R (L.nil (X.sub (ih11 _ (oi hm).symm _ _ ⟨s12, m0, h1, h2, h3, bx4, R, R⟩) (Sub.rf R))))))))))
 refine E.cF R hc (E.exit (X.seqX (X.seqX ?_)))
 have hx := ho11 _ (oi hm).symm
 exact X.sub (K15 _ _ ⟨s12, (), hx.symm, m0, R, R⟩) Sub.nil

theorem cf24 : Cf Tryz.prog 24 := Cf.mk Tryz.func24 (by kernel_rfl) (by kernel_rfl)
theorem cf25 : Cf Tryz.prog 25 := Cf.mk Tryz.func25 (by kernel_rfl) (by kernel_rfl)
theorem cf27 : Cf Tryz.prog 27 := Cf.mk Tryz.func27 (by kernel_rfl) (by kernel_rfl)
theorem cf59 : Cf Tryz.prog 59 := Cf.mk Tryz.func59 (by kernel_rfl) (by kernel_rfl)
noncomputable def m_overseerlaw24_kind_l1 (p0 : AutT) (r7 : List Bool) (st31 : Int) : Option (Int ⊕ (Unit ⊕ Unit)) :=
 if decide (st31 < p0.2.1) then
  (idx r7 st31).bind fun x39 =>
  (if x39 then
   (m_overseerlaw24_dead p0 st31).bind fun r45 =>
   some r45
  else
   some false).bind fun b41 =>
  if b41 then
   some (.inr (.inr (())))
  else
   some (.inl (W (st31 + 1)))
 else
  some (.inr (.inl ()))
noncomputable def m_overseerlaw24_kind (p0 : AutT) (p1 : Int) : Option Int :=
 (m_overseerlaw24_from p0 p1).bind fun r7 =>
 (m_overseerlaw24_has p0.2.2.1 p1).bind fun r11 =>
 if r11 then
  some 1
 else
  (m_overseerlaw24_meets r7 p0.2.2.1).bind fun r14 =>
  if r14 then
   some 2
  else
   (m_overseerlaw24_dead p0 p1).bind fun r17 =>
   if r17 then
    some 3
   else
    (iter (m_overseerlaw24_kind_l1 p0 r7) 0).bind fun o31 =>
    match o31 with
    | .inl u33 =>
     some 4
    | .inr (u36) =>
     some 5
theorem m_overseerlaw24_kind_c {s : Sig} {p0 : AutT} {p1 : Int} {a1 : Option Addr} {c1 : Nat} {a2 : Option Addr} {c2 : Nat} {a3 : Option Addr} {c3 : Nat} {r : Int} (h1 : RdL qI s a1 c1 p0.1) (h2 : RdL qI s a2 c2 p0.2.2.1) (h3 : RdL qT s a3 c3 p0.2.2.2) (hm : m_overseerlaw24_kind p0 p1 = some r) :
    Calls Tryz.prog 28 #[.agg #[.slice a1 p0.1.length c1, .int .i64 p0.2.1, .slice a2 p0.2.2.1.length c2, .slice a3 p0.2.2.2.length c3], .int .i64 p1] s.w (RetS No s fun v s' => v = .int .i64 r) := by
 unfold m_overseerlaw24_kind at hm
 obtain ⟨N, hN, hNb⟩ := s.fresh
 have m0 : Mv (Up N No) s s := Mv.refl _ _
 refine E.entry Tryz.func28 R Tryz.ntmps28 R R (ER (L.box (N + 0) Y R R R fun b4 s5 m6 bx4 => ?_))
 replace h1 := h1.mono m6.z
 replace h2 := h2.mono m6.z
 replace h3 := h3.mono m6.z
 refine L.as Y R R (LN (ER (L.lg (j := 0) (cs := [.slice a1 p0.1.length c1, .int .i64 p0.2.1, .slice a2 p0.2.2.1.length c2, .slice a3 p0.2.2.2.length c3]) bx4.mem ag30 Y R R R R R (L.mv Y R R ?_))))
 obtain ⟨r7, er7, hm⟩ := bindS hm
 refine L.ca cf24 R R Y R (m_overseerlaw24_from_c (s := s5) (p0 := p0) (p1 := p1) (u0 := 0) h1 h2 h3 er7) R ?_
 rintro _ s8 m9 ⟨a10, c10, rfl, h10⟩
 replace bx4 := bx4.mv m9 no_No
 replace h2 := h2.mono m9.z
 refine L.as Y R R (LN (E.seq (E.block (ER (L.fa fa30_2 Y R R (L.ld (j := 2) bx4.mem nag27 Y R R R R (L.mv Y R R ?_)))))))
 obtain ⟨r11, er11, hm⟩ := bindS hm
 refine L.ca cf25 R R Y R (m_overseerlaw24_has_c (s := s8) (p0 := p0.2.2.1) (p1 := p1) h2 er11) R ?_
 rintro _ s12 m13 rfl
 replace m0 := ((m0.trans m6.no).trans m9.no).trans m13.no
 replace h10 := (h10.p).mono m13.z
 replace bx4 := bx4.mv m13 no_No
 replace h2 := h2.mono m13.z
 refine L.as Y R R (L.nil (X.seqN ?_))
 rcases ifS hm with ⟨hc, hm⟩ | ⟨hc, hm⟩
 ·refine E.cT R hc (ER (L.as Y R R (LN (E.ret (X.blkR (X.seqR ?_))))))
  obtain rfl := oi hm
  exact X.rt (.inl R) Tryz.results28 (Rs.tmp R Rs.nil) R ⟨_, (s12).ren N (fun _ => 0), R, R, m0.ren hNb, R⟩
 refine E.cF R hc (ER (L.mv Y R R (L.fa fa30_2 Y R R (L.ld (j := 2) bx4.mem nag27 Y R R R R ?_))))
 obtain ⟨r14, er14, hm⟩ := bindS hm
 refine L.ca cf27 R R Y R (m_overseerlaw24_meets_c (s := s12) (p0 := r7) (p1 := p0.2.2.1) h10 h2 er14) R ?_
 rintro _ s15 m16 rfl
 replace m0 := m0.trans m16.no
 replace bx4 := bx4.mv m16 no_No
 replace h1 := ((h1.mono m9.z).mono m13.z).mono m16.z
 replace h2 := h2.mono m16.z
 replace h3 := ((h3.mono m9.z).mono m13.z).mono m16.z
 refine L.as Y R R (L.nil (X.seqN ?_))
 rcases ifS hm with ⟨hc, hm⟩ | ⟨hc, hm⟩
 ·refine E.cT R hc (ER (L.as Y R R (LN (E.ret (X.blkR (X.seqR ?_))))))
  obtain rfl := oi hm
  exact X.rt (.inl R) Tryz.results28 (Rs.tmp R Rs.nil) R ⟨_, (s15).ren N (fun _ => 0), R, R, m0.ren hNb, R⟩
 refine E.cF R hc (ER (L.lg (j := 0) (cs := [.slice a1 p0.1.length c1, .int .i64 p0.2.1, .slice a2 p0.2.2.1.length c2, .slice a3 p0.2.2.2.length c3]) bx4.mem ag30 Y R R R R R (L.mv Y R R ?_)))
 obtain ⟨r17, er17, hm⟩ := bindS hm
 refine L.ca cf59 R R Y R (m_overseerlaw24_dead_c (s := s15) (p0 := p0) (p1 := p1) h1 h2 h3 er17) R ?_
 rintro _ s18 m19 rfl
 replace m0 := m0.trans m19.no
 replace h10 := (h10.mono m16.z).mono m19.z
 replace bx4 := bx4.mv m19 no_No
 replace h1 := h1.mono m19.z
 replace h2 := h2.mono m19.z
 replace h3 := h3.mono m19.z
 refine L.as Y R R (L.nil (X.seqN ?_))
 rcases ifS hm with ⟨hc, hm⟩ | ⟨hc, hm⟩
 ·refine E.cT R hc (ER (L.as Y R R (LN (E.ret (X.blkR (X.seqR ?_))))))
  obtain rfl := oi hm
  exact X.rt (.inl R) Tryz.results28 (Rs.tmp R Rs.nil) R ⟨_, (s18).ren N (fun _ => 0), R, R, m0.ren hNb, R⟩
 refine E.cF R hc (E.skip (X.blkN (X.seqN (E.seq (ER (L.as Y R R (LN (E.block ?_))))))))
 obtain ⟨o31, eo31, hm⟩ := bindS hm
 refine E.cut (x := .exit 1) (fun e w => ∃ (s34 : Sig) (u33 : Unit), o31 = .inl u33 ∧ Mv (Up N No) s s34 ∧ e = [] ∧ w = s34.w) ?_ ?_
 ·rintro _ _ ⟨s34, u33, rfl, m0, rfl, rfl⟩
  dsimp only at hm
  refine X.blkE (X.seqN (ER (L.as Y R R (LN (E.ret ?_)))))
  obtain rfl := oi hm
  exact X.rt (.inl R) Tryz.results28 (Rs.tmp R Rs.nil) R ⟨_, (s34).ren N (fun _ => 0), R, R, m0.ren hNb, R⟩
 intro K35
 refine E.cut (x := .ret) (fun e w => ∃ (s37 : Sig) (u36 : Unit), o31 = .inr (u36) ∧ Mv (Up N No) s s37 ∧ e = [(4, .int .i64 5)] ∧ w = s37.w) ?_ ?_
 ·rintro _ _ ⟨s37, u36, rfl, m0, rfl, rfl⟩
  dsimp only at hm
  refine X.blkR (X.seqR ?_)
  obtain rfl := oi hm
  exact X.rt (.inl R) Tryz.results28 (Rs.tmp R Rs.nil) R ⟨_, (s37).ren N (fun _ => 0), R, R, m0.ren hNb, R⟩
 intro K38
 refine E.iter (fun (st31 : Int) (e : List (Nat × Value)) (w : World) => ∃ (s32 : Sig), Mv (Up N No) s s32 ∧ RdL rB s32 a10 c10 r7 ∧ RdL qI s32 a1 c1 p0.1 ∧ RdL qI s32 a2 c2 p0.2.2.1 ∧ RdL qT s32 a3 c3 p0.2.2.2 ∧ Bx s32 (N + 0) b4 #[.slice a1 p0.1.length c1, .int .i64 p0.2.1, .slice a2 p0.2.2.1.length c2, .slice a3 p0.2.2.2.length c3] 30 ∧ e = [(6, .int .i64 st31), (5, .slice a10 r7.length c10), (2, .pointer (some ⟨b4, 0, none⟩))] ∧ w = s32.w) eo31 ⟨s18, m0, h10, h1, h2, h3, bx4, R, R⟩ (Sub.rf R) ?_
 rintro st31 res31 hm ih31 ho31 _ _ ⟨s32, m0, h10, h1, h2, h3, bx4, rfl, rfl⟩
 unfold m_overseerlaw24_kind_l1 at hm
 refine E.seq (ER (L.mv Y R R (L.fa fa30_1 Y R R (L.ld (j := 1) bx4.mem nag3 Y R R R R (L.bi Y R R R R (L.nil (X.seqN ?_)))))))
 rcases ifS hm with ⟨hc, hm⟩ | ⟨hc, hm⟩
 ·refine E.cT R hc (E.skip (X.seqN (E.seq (E.block (ER (L.mv Y R R (L.mv Y R R ?_)))))))
  obtain ⟨x39, ex39, hm⟩ := bindS hm
  refine L.ix (r := rB) sl55 h10 Y R R ex39 R fun b40 o40 cc40 me40 rd40 => ?_
  obtain rfl := rd40
  refine L.ld (j := 0) me40 nag4 Y R R R R (L.mv Y R R ?_)
  obtain ⟨b41, eb41, hm⟩ := bindS hm
  refine L.cut 4 (fun e w => ∃ (s43 : Sig) (v42 : Bool), b41 = v42 ∧ Mv (Up N No) s s43 ∧ RdL rB s43 a10 c10 r7 ∧ RdL qI s43 a1 c1 p0.1 ∧ RdL qI s43 a2 c2 p0.2.2.1 ∧ RdL qT s43 a3 c3 p0.2.2.2 ∧ Bx s43 (N + 0) b4 #[.slice a1 p0.1.length c1, .int .i64 p0.2.1, .slice a2 p0.2.2.1.length c2, .slice a3 p0.2.2.2.length c3] 30 ∧ e = (38, .bool v42) :: [(6, .int .i64 st31), (5, .slice a10 r7.length c10), (2, .pointer (some ⟨b4, 0, none⟩))] ∧ w = s43.w) ?_ ?_
  ·rintro _ _ ⟨s43, v42, rfl, m0, h10, h1, h2, h3, bx4, rfl, rfl⟩
   refine L.nil (X.seqN ?_)
   rcases ifS hm with ⟨hc, hm⟩ | ⟨hc, hm⟩
   ·refine E.cT R hc (ER (L.as Y R R (LN (E.ret (X.blkR (X.seqR (X.seqR ?_)))))))
    have hx := ho31 _ (oi hm).symm
    exact X.sub (K38 _ _ ⟨s43, (), hx.symm, m0, R, R⟩) (Sub.rf R)
   exact E.cF R hc (E.skip (X.blkN (X.seqN (E.reg (L.mv Y R R (L.bi Y R R R R (L.as Y R R (L.nil (X.sub (ih31 _ (oi hm).symm _ _ ⟨s43, m0, h10, h1, h2, h3, bx4, R, R⟩) (Sub.rf R))))))))))
  intro J44
  rcases ifS eb41 with ⟨hc, hm⟩ | ⟨hc, hm⟩
  ·refine L.know (d := 34) R hc (L.lg (j := 0) (cs := [.slice a1 p0.1.length c1, .int .i64 p0.2.1, .slice a2 p0.2.2.1.length c2, .slice a3 p0.2.2.2.length c3]) bx4.mem ag30 (Wt.mk R R) R R R R R (L.mv (Wt.mk R R) R R ?_))
   obtain ⟨r45, er45, hm⟩ := bindS hm
   refine L.ca cf59 R R (Wt.mk R R) R (m_overseerlaw24_dead_c (s := s32) (p0 := p0) (p1 := st31) h1 h2 h3 er45) R ?_
   rintro _ s46 m47 rfl
   replace m0 := m0.trans m47.no
   replace h10 := h10.mono m47.z
   replace bx4 := bx4.mv m47 no_No
   replace h1 := h1.mono m47.z
   replace h2 := h2.mono m47.z
   replace h3 := h3.mono m47.z
   exact L.pkT Y R R R R (L.sb (J44 _ _ ⟨s46, r45, (oi hm).symm, m0, h10, h1, h2, h3, bx4, R, R⟩) R)
  exact L.know (d := 34) R hc (L.skip R R R R (L.skip R R R R (L.skip R R R R (L.pkF Y R R R R (L.sb (J44 _ _ ⟨s32, false, (oi hm).symm, m0, h10, h1, h2, h3, bx4, R, R⟩) R)))))
 refine E.cF R hc (E.exit (X.seqX (X.seqX ?_)))
 have hx := ho31 _ (oi hm).symm
 exact X.sub (K35 _ _ ⟨s32, (), hx.symm, m0, R, R⟩) Sub.nil

end Go.Proofs.YtfbapajcheammaaGreatDoor

namespace Go.Proofs.YtfbapajcheammaaGreatDoor
open Go Go.RowKit
theorem ag25 : Ag Tryz.prog 25 26 := Ag.mk' Tryz.underlying25 rfl (by kernel_rfl)
theorem cf28 : Cf Tryz.prog 28 := Cf.mk Tryz.func28 (by kernel_rfl) (by kernel_rfl)
theorem cf6 : Cf Tryz.prog 6 := Cf.mk Tryz.func6 (by kernel_rfl) (by kernel_rfl)
theorem cf7 : Cf Tryz.prog 7 := Cf.mk Tryz.func7 (by kernel_rfl) (by kernel_rfl)
noncomputable def m_overseerlaw24_BlockingTraps_l4 (r18 : List (List Int) × List Int × Int) (r292 : List Bool) (st329 : Int × Bool × Bool) : Option ((Int × Bool × Bool) ⊕ (Bool × Bool)) :=
 if decide (st329.1 < (r18.1.length : Int)) then
  (if st329.2.2 then
   some true
  else
   (idx r18.1 st329.1).bind fun x365 =>
   (m_overseerlaw24_meets r292 x365).bind fun r368 =>
   some r368).bind fun b344 =>
  (if st329.2.1 then
   some true
  else
   (idx r18.1 st329.1).bind fun x351 =>
   (m_overseerlaw24_meets r292 x351).bind fun r354 =>
   (if r354 then
    (m_overseerlaw24_has r18.2.1 st329.1).bind fun r361 =>
    some r361
   else
    some false).bind fun b357 =>
   some b357).bind fun b347 =>
  some (.inl (W (st329.1 + 1), b347, b344))
 else
  some (.inr st329.2)
noncomputable def m_overseerlaw24_BlockingTraps_l3 (r7 : AutT) (r18 : List (List Int) × List Int × Int) (st284 : Int) : Option (Int ⊕ (Unit ⊕ Unit)) :=
 if decide (st284 < r7.2.1) then
  (m_overseerlaw24_from r7 st284).bind fun r292 =>
  (iter (m_overseerlaw24_BlockingTraps_l4 r18 r292) (0, false, false)).bind fun o329 =>
  (if (!o329.2) then
   some true
  else
   (m_overseerlaw24_kind r7 st284).bind fun r338 =>
   some ((decide (r338 ≥ 3)) && (!o329.1))).bind fun b334 =>
  if b334 then
   some (.inr (.inr (())))
  else
   some (.inl (W (st284 + 1)))
 else
  some (.inr (.inl ()))
noncomputable def m_overseerlaw24_BlockingTraps_l2 (r18 : List (List Int) × List Int × Int) (o165 : List Int × List (List Int)) (st199 : Int) : Option (Int ⊕ (Unit ⊕ Unit)) :=
 if decide (st199 < (r18.1.length : Int)) then
  (idx r18.1 st199).bind fun x378 =>
  (idx o165.2 st199).bind fun x386 =>
  (m_overseerlaw24_same x378 x386).bind fun r392 =>
  if (!r392) then
   some (.inr (.inr (())))
  else
   some (.inl (W (st199 + 1)))
 else
  some (.inr (.inl ()))
noncomputable def m_overseerlaw24_BlockingTraps_j1 (st165 : Int × List Int × List (List Int)) (l402 : List (List Int)) (l404 : List Int) : Option ((Int × List Int × List (List Int)) ⊕ (List Int × List (List Int))) :=
 some (.inl (W (st165.1 + 1), l404, l402))
noncomputable def m_overseerlaw24_BlockingTraps_j2 (r23 : List (List Int) × Int) (st165 : Int × List Int × List (List Int)) (o467 : Bool × Bool) (l472 : List Int) : Option ((Int × List Int × List (List Int)) ⊕ (List Int × List (List Int))) :=
 if o467.2 then
  (idx r23.1 st165.1).bind fun x476 =>
  (app st165.2.2 ([x476] : List (List Int))).bind fun x482 =>
  m_overseerlaw24_BlockingTraps_j1 st165 x482 l472
 else
  m_overseerlaw24_BlockingTraps_j1 st165 st165.2.2 l472
noncomputable def m_overseerlaw24_BlockingTraps_l5 (r7 : AutT) (r23 : List (List Int) × Int) (st165 : Int × List Int × List (List Int)) (r422 : List Bool) (st467 : Int × Bool × Bool) : Option ((Int × Bool × Bool) ⊕ (Bool × Bool)) :=
 if decide (st467.1 < r7.2.1) then
  (if st467.2.2 then
   (idx r422 st467.1).bind fun x517 =>
   (if (!x517) then
    some true
   else
    (idx r23.1 st165.1).bind fun x523 =>
    (m_overseerlaw24_has x523 st467.1).bind fun r526 =>
    some r526).bind fun b519 =>
   some b519
  else
   some false).bind fun b496 =>
  (if st467.2.1 then
   some true
  else
   (idx r23.1 st165.1).bind fun x503 =>
   (m_overseerlaw24_has x503 st467.1).bind fun r506 =>
   (if r506 then
    (m_overseerlaw24_has r7.2.2.1 st467.1).bind fun r513 =>
    some r513
   else
    some false).bind fun b509 =>
   some b509).bind fun b499 =>
  some (.inl (W (st467.1 + 1), b499, b496))
 else
  some (.inr st467.2)
noncomputable def m_overseerlaw24_BlockingTraps_l1 (r7 : AutT) (r23 : List (List Int) × Int) (st165 : Int × List Int × List (List Int)) : Option ((Int × List Int × List (List Int)) ⊕ (List Int × List (List Int))) :=
 if decide (st165.1 < (r23.1.length : Int)) then
  (idx r23.1 st165.1).bind fun x412 =>
  (idx x412 0).bind fun x418 =>
  (m_overseerlaw24_from r7 x418).bind fun r422 =>
  (iter (m_overseerlaw24_BlockingTraps_l5 r7 r23 st165 r422) (0, false, true)).bind fun o467 =>
  if (o467.2 && (!o467.1)) then
   (app st165.2.1 ([(st165.2.2.length : Int)] : List Int)).bind fun x490 =>
   m_overseerlaw24_BlockingTraps_j2 r23 st165 o467 x490
  else
   m_overseerlaw24_BlockingTraps_j2 r23 st165 o467 st165.2.1
 else
  some (.inr st165.2)
noncomputable def m_overseerlaw24_BlockingTraps (p0 : Int × Int × ((Int × Int × Int × Int) × (Int × Int × Int × Int) × (Int × Int × Int × Int) × (Int × Int × Int × Int) × (Int × Int × Int × Int) × (Int × Int × Int × Int))) : Option Bool :=
 (m_overseerlaw24_Known).bind fun r4 =>
 if (!r4) then
  some false
 else
  (m_overseerlaw04_Make p0).bind fun r7 =>
  (m_blocking_Traps r7).bind fun r18 =>
  (m_reach_Components r7).bind fun r23 =>
  if ((r18.2.2 != 0) || (r23.2 != 0)) then
   some false
  else
   (iter (m_overseerlaw24_BlockingTraps_l1 r7 r23) (0, ([] : List Int), ([] : List (List Int)))).bind fun o165 =>
   (if ((r18.1.length : Int) != (o165.2.length : Int)) then
    some true
   else
    (m_overseerlaw24_same r18.2.1 o165.1).bind fun r398 =>
    some (!r398)).bind fun b172 =>
   if b172 then
    some false
   else
    (iter (m_overseerlaw24_BlockingTraps_l2 r18 o165) 0).bind fun o199 =>
    match o199 with
    | .inl u201 =>
     (iter (m_overseerlaw24_BlockingTraps_l3 r7 r18) 0).bind fun o284 =>
     match o284 with
     | .inl u286 =>
      some true
     | .inr (u289) =>
      some false
    | .inr (u372) =>
     some false
theorem m_overseerlaw24_BlockingTraps_c {s : Sig} {p0 : Int × Int × ((Int × Int × Int × Int) × (Int × Int × Int × Int) × (Int × Int × Int × Int) × (Int × Int × Int × Int) × (Int × Int × Int × Int) × (Int × Int × Int × Int))} {r : Bool} (hm : m_overseerlaw24_BlockingTraps p0 = some r) :
    Calls Tryz.prog 5 #[.agg #[.int .u8 p0.1, .int .u8 p0.2.1, .int .u8 p0.2.2.1.1, .int .u8 p0.2.2.1.2.1, .int .u8 p0.2.2.1.2.2.1, .int .u8 p0.2.2.1.2.2.2, .int .u8 p0.2.2.2.1.1, .int .u8 p0.2.2.2.1.2.1, .int .u8 p0.2.2.2.1.2.2.1, .int .u8 p0.2.2.2.1.2.2.2, .int .u8 p0.2.2.2.2.1.1, .int .u8 p0.2.2.2.2.1.2.1, .int .u8 p0.2.2.2.2.1.2.2.1, .int .u8 p0.2.2.2.2.1.2.2.2, .int .u8 p0.2.2.2.2.2.1.1, .int .u8 p0.2.2.2.2.2.1.2.1, .int .u8 p0.2.2.2.2.2.1.2.2.1, .int .u8 p0.2.2.2.2.2.1.2.2.2, .int .u8 p0.2.2.2.2.2.2.1.1, .int .u8 p0.2.2.2.2.2.2.1.2.1, .int .u8 p0.2.2.2.2.2.2.1.2.2.1, .int .u8 p0.2.2.2.2.2.2.1.2.2.2, .int .u8 p0.2.2.2.2.2.2.2.1, .int .u8 p0.2.2.2.2.2.2.2.2.1, .int .u8 p0.2.2.2.2.2.2.2.2.2.1, .int .u8 p0.2.2.2.2.2.2.2.2.2.2]] s.w (RetS No s fun v s' => v = .bool r) := by
 unfold m_overseerlaw24_BlockingTraps at hm
 obtain ⟨N, hN, hNb⟩ := s.fresh
 have m0 : Mv (Up N No) s s := Mv.refl _ _
 refine E.entry Tryz.func5 R Tryz.ntmps5 R R (ER (L.box (N + 0) Y R R R fun b1 s2 m3 bx1 => ?_))
 refine L.as Y R R (LN (E.seq (E.seq (E.reg ?_))))
 obtain ⟨r4, er4, hm⟩ := bindS hm
 refine L.ca cf6 R R Y R (m_overseerlaw24_Known_c (s := s2) er4) R ?_
 rintro _ s5 m6 rfl
 replace m0 := (m0.trans m3.no).trans m6.no
 replace bx1 := bx1.mv m6 no_No
 refine L.not Y R R (L.nil (X.seqN ?_))
 rcases ifS hm with ⟨hc, hm⟩ | ⟨hc, hm⟩
 ·refine E.cT R hc (ER (L.as Y R R (LN (E.ret (X.seqR ?_)))))
  obtain rfl := oi hm
  exact X.rt (.inl R) Tryz.results5 (Rs.tmp R Rs.nil) R ⟨_, (s5).ren N (fun _ => 0), R, R, m0.ren hNb, R⟩
 refine E.cF R hc (E.skip (X.seqN (ER (L.lg (j := 0) (cs := [.int .u8 p0.1, .int .u8 p0.2.1, .int .u8 p0.2.2.1.1, .int .u8 p0.2.2.1.2.1, .int .u8 p0.2.2.1.2.2.1, .int .u8 p0.2.2.1.2.2.2, .int .u8 p0.2.2.2.1.1, .int .u8 p0.2.2.2.1.2.1, .int .u8 p0.2.2.2.1.2.2.1, .int .u8 p0.2.2.2.1.2.2.2, .int .u8 p0.2.2.2.2.1.1, .int .u8 p0.2.2.2.2.1.2.1, .int .u8 p0.2.2.2.2.1.2.2.1, .int .u8 p0.2.2.2.2.1.2.2.2, .int .u8 p0.2.2.2.2.2.1.1, .int .u8 p0.2.2.2.2.2.1.2.1, .int .u8 p0.2.2.2.2.2.1.2.2.1, .int .u8 p0.2.2.2.2.2.1.2.2.2, .int .u8 p0.2.2.2.2.2.2.1.1, .int .u8 p0.2.2.2.2.2.2.1.2.1, .int .u8 p0.2.2.2.2.2.2.1.2.2.1, .int .u8 p0.2.2.2.2.2.2.1.2.2.2, .int .u8 p0.2.2.2.2.2.2.2.1, .int .u8 p0.2.2.2.2.2.2.2.2.1, .int .u8 p0.2.2.2.2.2.2.2.2.2.1, .int .u8 p0.2.2.2.2.2.2.2.2.2.2]) bx1.mem ag25 Y R R R R R ?_))))
 obtain ⟨r7, er7, hm⟩ := bindS hm
 refine L.ca cf7 R R Y R (m_overseerlaw04_Make_c (s := s5) (p0 := p0) (u1 := 0) (u2 := 0) er7) R ?_
 rintro _ s8 m9 ⟨a10, c10, a11, c11, a12, c12, rfl, h10, h11, h12⟩
 refine L.al (N + 1) zz30 R Y R fun b13 s14 m15 bx13 => ?_
 refine L.st (c := [.slice a10 r7.1.length c10, .int .i64 r7.2.1, .slice a11 r7.2.2.1.length c11, .slice a12 r7.2.2.2.length c12]) (cs' := #[.slice a10 r7.1.length c10, .int .i64 r7.2.1, .slice a11 r7.2.2.1.length c11, .slice a12 r7.2.2.2.length c12]) bx13 ag30.sz Y R R R R R (nb R) R fun s16 m17 bx13 => ?_
 replace h10 := (h10.mono m15.z).mono (m17.le (tg0 hN))
 replace h11 := ((h11.p).mono m15.z).mono (m17.le (tg0 hN))
 replace h12 := ((h12.p).mono m15.z).mono (m17.le (tg0 hN))
 refine LN (ER (L.lg (j := 0) (cs := [.slice a10 r7.1.length c10, .int .i64 r7.2.1, .slice a11 r7.2.2.1.length c11, .slice a12 r7.2.2.2.length c12]) bx13.mem ag30 Y R R R R R ?_))
 obtain ⟨r18, er18, hm⟩ := bindS hm
 refine L.ca cf20 R R Y R (m_blocking_Traps_c (s := s16) (p0 := r7) (u0 := 0) (u1 := 0) h10 h11 h12 er18) R ?_
 rintro _ s19 m20 ⟨a21, c21, a22, c22, rfl, h21, h22⟩
 replace bx13 := bx13.mv m20 no_No
 replace h10 := h10.mono m20.z
 replace h11 := h11.mono m20.z
 replace h12 := h12.mono m20.z
 refine L.mv Y R R (L.ex Y R R R (L.ex Y R R R (L.ex Y R R R (L.as Y R R (L.as Y R R (L.as Y R R (LN (ER (L.lg (j := 0) (cs := [.slice a10 r7.1.length c10, .int .i64 r7.2.1, .slice a11 r7.2.2.1.length c11, .slice a12 r7.2.2.2.length c12]) bx13.mem ag30 Y R R R R R ?_)))))))))
 obtain ⟨r23, er23, hm⟩ := bindS hm
 refine L.ca cf23 R R Y R (m_reach_Components_c (s := s19) (p0 := r7) (u0 := 0) h10 h11 h12 er23) R ?_
 rintro _ s24 m25 ⟨a26, c26, rfl, h26⟩
 replace h26 := h26.p
 replace m0 := ((((m0.trans m9.no).trans m15.no).trans (m17.one up)).trans m20.no).trans m25.no
 replace h21 := (h21.p).mono m25.z
 replace h22 := (h22.p).mono m25.z
 replace bx13 := bx13.mv m25 no_No
 replace h10 := h10.mono m25.z
 replace h11 := h11.mono m25.z
 replace h12 := h12.mono m25.z
 refine L.mv Y R R (L.ex Y R R R (L.ex Y R R R (L.as Y R R (L.as Y R R (LN (E.seq (ER (L.mv Y R R (L.bi Y R R R R (L.mv Y R R (L.cut 3 (fun e w => ∃ (v27 : Bool), ((r18.2.2 != 0) || (r23.2 != 0)) = v27 ∧ e = (42, .bool v27) :: [(7, .slice a26 r23.1.length c26), (5, .slice a22 r18.2.1.length c22), (4, .slice a21 r18.1.length c21), (3, .pointer (some ⟨b13, 0, none⟩))] ∧ w = s24.w) ?_ ?_)))))))))))
 ·rintro _ _ ⟨v27, rfl, rfl, rfl⟩
  refine L.nil (X.seqN ?_)
  rcases ifS hm with ⟨hc, hm⟩ | ⟨hc, hm⟩
  ·refine E.cT R hc (ER (L.as Y R R (LN (E.ret (X.seqR ?_)))))
   obtain rfl := oi hm
   exact X.rt (.inl R) Tryz.results5 (Rs.tmp R Rs.nil) R ⟨_, (s24).ren N (fun _ => 0), R, R, m0.ren hNb, R⟩
  refine E.cF R hc (E.skip (X.seqN (ER (L.as Y R R (LN (ER (L.as Y R R (LN (E.seq (ER (L.as Y R R (LN (E.block ?_)))))))))))))
  obtain ⟨o165, eo165, hm⟩ := bindS hm
  refine E.cut (x := .exit 0) (fun e w => ∃ (s171 : Sig) (a167 : Option Addr) (c167 : Nat) (a169 : Option Addr) (c169 : Nat), Mv (Up N No) s s171 ∧ RowT qI s171 (N + 2) 3 a167 c167 o165.1 ∧ RowT (rL qI) s171 (N + 3) 27 a169 c169 o165.2 ∧ RdL qI s171 a22 c22 r18.2.1 ∧ RdL (rL qI) s171 a21 c21 r18.1 ∧ RdL qI s171 a10 c10 r7.1 ∧ RdL qI s171 a11 c11 r7.2.2.1 ∧ RdL qT s171 a12 c12 r7.2.2.2 ∧ Bx s171 (N + 1) b13 #[.slice a10 r7.1.length c10, .int .i64 r7.2.1, .slice a11 r7.2.2.1.length c11, .slice a12 r7.2.2.2.length c12] 30 ∧ e = [(10, .slice a167 o165.1.length c167), (9, .slice a169 o165.2.length c169), (5, .slice a22 r18.2.1.length c22), (4, .slice a21 r18.1.length c21), (3, .pointer (some ⟨b13, 0, none⟩))] ∧ w = s171.w) ?_ ?_
  ·rintro _ _ ⟨s171, a167, c167, a169, c169, m0, h167, h169, h22, h21, h10, h11, h12, bx13, rfl, rfl⟩
   refine X.blkE (X.seqN (E.seq (ER (L.mv Y R R (L.len sl46 Y R R (L.mv Y R R (L.len sl46 Y R R (L.bi Y R R R R (L.mv Y R R ?_)))))))))
   obtain ⟨b172, eb172, hm⟩ := bindS hm
   refine L.cut 5 (fun e w => ∃ (s174 : Sig) (v173 : Bool), b172 = v173 ∧ Mv (Up N No) s s174 ∧ RowT (rL qI) s174 (N + 3) 27 a169 c169 o165.2 ∧ RdL qI s174 a22 c22 r18.2.1 ∧ RdL (rL qI) s174 a21 c21 r18.1 ∧ RdL qI s174 a10 c10 r7.1 ∧ RdL qI s174 a11 c11 r7.2.2.1 ∧ RdL qT s174 a12 c12 r7.2.2.2 ∧ Bx s174 (N + 1) b13 #[.slice a10 r7.1.length c10, .int .i64 r7.2.1, .slice a11 r7.2.2.1.length c11, .slice a12 r7.2.2.2.length c12] 30 ∧ e = (122, .bool v173) :: [(9, .slice a169 o165.2.length c169), (5, .slice a22 r18.2.1.length c22), (4, .slice a21 r18.1.length c21), (3, .pointer (some ⟨b13, 0, none⟩))] ∧ w = s174.w) ?_ ?_
   ·rintro _ _ ⟨s174, v173, rfl, m0, h169, h22, h21, h10, h11, h12, bx13, rfl, rfl⟩
    refine L.nil (X.seqN ?_)
    rcases ifS hm with ⟨hc, hm⟩ | ⟨hc, hm⟩
    ·refine E.cT R hc (ER (L.as Y R R (LN (E.ret (X.seqR ?_)))))
     obtain rfl := oi hm
     exact X.rt (.inl R) Tryz.results5 (Rs.tmp R Rs.nil) R ⟨_, (s174).ren N (fun _ => 0), R, R, m0.ren hNb, R⟩
    refine E.cF R hc (E.skip (X.seqN (E.seq (ER (L.as Y R R (LN (E.block ?_)))))))
    obtain ⟨o199, eo199, hm⟩ := bindS hm
    refine E.cut (x := .exit 4) (fun e w => ∃ (s202 : Sig) (u201 : Unit), o199 = .inl u201 ∧ Mv (Up N No) s s202 ∧ RdL qI s202 a22 c22 r18.2.1 ∧ RdL (rL qI) s202 a21 c21 r18.1 ∧ RdL qI s202 a10 c10 r7.1 ∧ RdL qI s202 a11 c11 r7.2.2.1 ∧ RdL qT s202 a12 c12 r7.2.2.2 ∧ Bx s202 (N + 1) b13 #[.slice a10 r7.1.length c10, .int .i64 r7.2.1, .slice a11 r7.2.2.1.length c11, .slice a12 r7.2.2.2.length c12] 30 ∧ e = [(5, .slice a22 r18.2.1.length c22), (4, .slice a21 r18.1.length c21), (3, .pointer (some ⟨b13, 0, none⟩))] ∧ w = s202.w) ?_ ?_
    ·rintro _ _ ⟨s202, u201, rfl, m0, h22, h21, h10, h11, h12, bx13, rfl, rfl⟩
     dsimp only at hm
     refine X.blkE (X.seqN (E.seq (ER (L.as Y R R (LN (E.block ?_))))))
     obtain ⟨o284, eo284, hm⟩ := bindS hm
     refine E.cut (x := .exit 6) (fun e w => ∃ (s287 : Sig) (u286 : Unit), o284 = .inl u286 ∧ Mv (Up N No) s s287 ∧ e = [] ∧ w = s287.w) ?_ ?_
     ·rintro _ _ ⟨s287, u286, rfl, m0, rfl, rfl⟩
      dsimp only at hm
      refine X.blkE (X.seqN (ER (L.as Y R R (LN (E.ret ?_)))))
      obtain rfl := oi hm
      exact X.rt (.inl R) Tryz.results5 (Rs.tmp R Rs.nil) R ⟨_, (s287).ren N (fun _ => 0), R, R, m0.ren hNb, R⟩
     intro K288
     refine E.cut (x := .ret) (fun e w => ∃ (s290 : Sig) (u289 : Unit), o284 = .inr (u289) ∧ Mv (Up N No) s s290 ∧ e = [(2, .bool false)] ∧ w = s290.w) ?_ ?_
     ·rintro _ _ ⟨s290, u289, rfl, m0, rfl, rfl⟩
      dsimp only at hm
      refine X.blkR (X.seqR ?_)
      obtain rfl := oi hm
      exact X.rt (.inl R) Tryz.results5 (Rs.tmp R Rs.nil) R ⟨_, (s290).ren N (fun _ => 0), R, R, m0.ren hNb, R⟩
     intro K291
     refine E.iter (fun (st284 : Int) (e : List (Nat × Value)) (w : World) => ∃ (s285 : Sig), Mv (Up N No) s s285 ∧ RdL qI s285 a22 c22 r18.2.1 ∧ RdL (rL qI) s285 a21 c21 r18.1 ∧ RdL qI s285 a10 c10 r7.1 ∧ RdL qI s285 a11 c11 r7.2.2.1 ∧ RdL qT s285 a12 c12 r7.2.2.2 ∧ Bx s285 (N + 1) b13 #[.slice a10 r7.1.length c10, .int .i64 r7.2.1, .slice a11 r7.2.2.1.length c11, .slice a12 r7.2.2.2.length c12] 30 ∧ e = [(17, .int .i64 st284), (5, .slice a22 r18.2.1.length c22), (4, .slice a21 r18.1.length c21), (3, .pointer (some ⟨b13, 0, none⟩))] ∧ w = s285.w) eo284 ⟨s202, m0, h22, h21, h10, h11, h12, bx13, R, R⟩ (Sub.rf R) ?_
     rintro st284 res284 hm ih284 ho284 _ _ ⟨s285, m0, h22, h21, h10, h11, h12, bx13, rfl, rfl⟩
     unfold m_overseerlaw24_BlockingTraps_l3 at hm
     refine E.seq (ER (L.mv Y R R (L.fa fa30_1 Y R R (L.ld (j := 1) bx13.mem nag3 Y R R R R (L.bi Y R R R R (L.nil (X.seqN ?_)))))))
     rcases ifS hm with ⟨hc, hm⟩ | ⟨hc, hm⟩
     ·refine E.cT R hc (E.skip (X.seqN (E.seq (E.block (ER (L.lg (j := 0) (cs := [.slice a10 r7.1.length c10, .int .i64 r7.2.1, .slice a11 r7.2.2.1.length c11, .slice a12 r7.2.2.2.length c12]) bx13.mem ag30 Y R R R R R (L.mv Y R R ?_)))))))
      obtain ⟨r292, er292, hm⟩ := bindS hm
      refine L.ca cf24 R R Y R (m_overseerlaw24_from_c (s := s285) (p0 := r7) (p1 := st284) (u0 := 0) h10 h11 h12 er292) R ?_
      rintro _ s293 m294 ⟨a295, c295, rfl, h295⟩
      replace h295 := h295.p
      replace m0 := m0.trans m294.no
      replace h21 := h21.mono m294.z
      replace h22 := h22.mono m294.z
      replace bx13 := bx13.mv m294 no_No
      replace h10 := h10.mono m294.z
      replace h11 := h11.mono m294.z
      replace h12 := h12.mono m294.z
      refine L.as Y R R (LN (ER (L.as Y R R (L.as Y R R (LN (E.seq (ER (L.as Y R R (LN (E.block ?_))))))))))
      obtain ⟨o329, eo329, hm⟩ := bindS hm
      refine E.cut (x := .exit 8) (fun e w => ∃ (s333 : Sig), Mv (Up N No) s s333 ∧ RdL qI s333 a22 c22 r18.2.1 ∧ RdL (rL qI) s333 a21 c21 r18.1 ∧ RdL qI s333 a10 c10 r7.1 ∧ RdL qI s333 a11 c11 r7.2.2.1 ∧ RdL qT s333 a12 c12 r7.2.2.2 ∧ Bx s333 (N + 1) b13 #[.slice a10 r7.1.length c10, .int .i64 r7.2.1, .slice a11 r7.2.2.1.length c11, .slice a12 r7.2.2.2.length c12] 30 ∧ e = [(20, .bool o329.1), (19, .bool o329.2), (17, .int .i64 st284), (5, .slice a22 r18.2.1.length c22), (4, .slice a21 r18.1.length c21), (3, .pointer (some ⟨b13, 0, none⟩))] ∧ w = s333.w) ?_ ?_
      ·rintro _ _ ⟨s333, m0, h22, h21, h10, h11, h12, bx13, rfl, rfl⟩
       refine X.blkE (X.seqN (ER (L.mv Y R R (L.not Y R R (L.mv Y R R ?_)))))
       obtain ⟨b334, eb334, hm⟩ := bindS hm
       refine L.cut 9 (fun e w => ∃ (s336 : Sig) (v335 : Bool), b334 = v335 ∧ Mv (Up N No) s s336 ∧ RdL qI s336 a22 c22 r18.2.1 ∧ RdL (rL qI) s336 a21 c21 r18.1 ∧ RdL qI s336 a10 c10 r7.1 ∧ RdL qI s336 a11 c11 r7.2.2.1 ∧ RdL qT s336 a12 c12 r7.2.2.2 ∧ Bx s336 (N + 1) b13 #[.slice a10 r7.1.length c10, .int .i64 r7.2.1, .slice a11 r7.2.2.1.length c11, .slice a12 r7.2.2.2.length c12] 30 ∧ e = (188, .bool v335) :: [(17, .int .i64 st284), (5, .slice a22 r18.2.1.length c22), (4, .slice a21 r18.1.length c21), (3, .pointer (some ⟨b13, 0, none⟩))] ∧ w = s336.w) ?_ ?_
       ·rintro _ _ ⟨s336, v335, rfl, m0, h22, h21, h10, h11, h12, bx13, rfl, rfl⟩
        refine L.nil (X.seqN ?_)
        rcases ifS hm with ⟨hc, hm⟩ | ⟨hc, hm⟩
        ·refine E.cT R hc (ER (L.as Y R R (LN (E.ret (X.blkR (X.seqR (X.seqR ?_)))))))
         have hx := ho284 _ (oi hm).symm
         exact X.sub (K291 _ _ ⟨s336, (), hx.symm, m0, R, R⟩) (Sub.rf R)
        exact E.cF R hc (E.skip (X.blkN (X.seqN (E.reg (L.mv Y R R (L.bi Y R R R R (L.as Y R R (L.nil (X.sub (ih284 _ (oi hm).symm _ _ ⟨s336, m0, h22, h21, h10, h11, h12, bx13, R, R⟩) (Sub.rf R))))))))))
       intro J337
       rcases ifS eb334 with ⟨hc, hm⟩ | ⟨hc, hm⟩
       ·exact L.know (d := 179) R hc (L.skip R R R R (L.skip R R R R (L.skip R R R R (L.skip R R R R (L.skip R R R R (L.skipU R R R (L.skipU R R R (L.skip R R R R (L.pkT Y R R R R (L.sb (J337 _ _ ⟨s333, true, (oi hm).symm, m0, h22, h21, h10, h11, h12, bx13, R, R⟩) R))))))))))
       refine L.know (d := 179) R hc (L.lg (j := 0) (cs := [.slice a10 r7.1.length c10, .int .i64 r7.2.1, .slice a11 r7.2.2.1.length c11, .slice a12 r7.2.2.2.length c12]) bx13.mem ag30 (Wt.mk R R) R R R R R (L.mv (Wt.mk R R) R R ?_))
       obtain ⟨r338, er338, hm⟩ := bindS hm
       refine L.ca cf28 R R (Wt.mk R R) R (m_overseerlaw24_kind_c (s := s333) (p0 := r7) (p1 := st284) h10 h11 h12 er338) R ?_
       rintro _ s339 m340 rfl
       replace m0 := m0.trans m340.no
       replace h21 := h21.mono m340.z
       replace h22 := h22.mono m340.z
       replace bx13 := bx13.mv m340 no_No
       replace h10 := h10.mono m340.z
       replace h11 := h11.mono m340.z
       replace h12 := h12.mono m340.z
       refine L.bi (Wt.mk R R) R R R R (L.mv (Wt.mk R R) R R (L.cut 3 (fun e w => ∃ (v341 : Bool), ((decide (r338 ≥ 3)) && (!o329.1)) = v341 ∧ e = (187, .bool v341) :: [(179, .bool false), (17, .int .i64 st284), (5, .slice a22 r18.2.1.length c22), (4, .slice a21 r18.1.length c21), (3, .pointer (some ⟨b13, 0, none⟩))] ∧ w = s339.w) ?_ ?_))
       ·rintro _ _ ⟨v341, rfl, rfl, rfl⟩
        exact L.pkF Y R R R R (L.sb (J337 _ _ ⟨s339, ((decide (r338 ≥ 3)) && (!o329.1)), (oi hm).symm, m0, h22, h21, h10, h11, h12, bx13, R, R⟩) R)
       intro J342
       rcases Bool.eq_false_or_eq_true (decide (r338 ≥ 3)) with hc | hc
       ·exact L.know (d := 184) R hc (L.mv (Wt.mk R R) R R (L.not (Wt.mk R R) R R (L.pkT (Wt.mk R R) R R R R (L.sb (J342 _ _ ⟨(!o329.1), (andT hc).symm, R, R⟩) R))))
       exact L.know (d := 184) R hc (L.skip R R R R (L.skip R R R R (L.pkF (Wt.mk R R) R R R R (L.sb (J342 _ _ ⟨false, (andF hc).symm, R, R⟩) R))))
      intro K343
      refine E.iter (fun (st329 : Int × Bool × Bool) (e : List (Nat × Value)) (w : World) => ∃ (s332 : Sig), Mv (Up N No) s s332 ∧ RdL rB s332 a295 c295 r292 ∧ RdL qI s332 a22 c22 r18.2.1 ∧ RdL (rL qI) s332 a21 c21 r18.1 ∧ RdL qI s332 a10 c10 r7.1 ∧ RdL qI s332 a11 c11 r7.2.2.1 ∧ RdL qT s332 a12 c12 r7.2.2.2 ∧ Bx s332 (N + 1) b13 #[.slice a10 r7.1.length c10, .int .i64 r7.2.1, .slice a11 r7.2.2.1.length c11, .slice a12 r7.2.2.2.length c12] 30 ∧ e = [(21, .int .i64 st329.1), (20, .bool st329.2.1), (19, .bool st329.2.2), (18, .slice a295 r292.length c295), (17, .int .i64 st284), (5, .slice a22 r18.2.1.length c22), (4, .slice a21 r18.1.length c21), (3, .pointer (some ⟨b13, 0, none⟩))] ∧ w = s332.w) eo329 ⟨s293, m0, h295, h22, h21, h10, h11, h12, bx13, R, R⟩ (Sub.rf R) ?_
      rintro st329 res329 hm ih329 ho329 _ _ ⟨s332, m0, h295, h22, h21, h10, h11, h12, bx13, rfl, rfl⟩
      unfold m_overseerlaw24_BlockingTraps_l4 at hm
      refine E.seq (ER (L.mv Y R R (L.mv Y R R (L.len sl46 Y R R (L.bi Y R R R R (L.nil (X.seqN ?_)))))))
      rcases ifS hm with ⟨hc, hm⟩ | ⟨hc, hm⟩
      ·refine E.cT R hc (E.skip (X.seqN (E.seq (E.block (ER (L.mv Y R R (L.mv Y R R ?_)))))))
       obtain ⟨b344, eb344, hm⟩ := bindS hm
       refine L.cut 7 (fun e w => ∃ (s346 : Sig) (v345 : Bool), b344 = v345 ∧ Mv (Up N No) s s346 ∧ RdL rB s346 a295 c295 r292 ∧ RdL qI s346 a22 c22 r18.2.1 ∧ RdL (rL qI) s346 a21 c21 r18.1 ∧ RdL qI s346 a10 c10 r7.1 ∧ RdL qI s346 a11 c11 r7.2.2.1 ∧ RdL qT s346 a12 c12 r7.2.2.2 ∧ Bx s346 (N + 1) b13 #[.slice a10 r7.1.length c10, .int .i64 r7.2.1, .slice a11 r7.2.2.1.length c11, .slice a12 r7.2.2.2.length c12] 30 ∧ e = (162, .bool v345) :: [(21, .int .i64 st329.1), (20, .bool st329.2.1), (18, .slice a295 r292.length c295), (17, .int .i64 st284), (5, .slice a22 r18.2.1.length c22), (4, .slice a21 r18.1.length c21), (3, .pointer (some ⟨b13, 0, none⟩))] ∧ w = s346.w) ?_ ?_
       ·rintro _ _ ⟨s346, v345, rfl, m0, h295, h22, h21, h10, h11, h12, bx13, rfl, rfl⟩
        refine L.as Y R R (LN (E.reg (L.mv Y R R (L.mv Y R R ?_))))
        obtain ⟨b347, eb347, hm⟩ := bindS hm
        refine L.cut 12 (fun e w => ∃ (s349 : Sig) (v348 : Bool), b347 = v348 ∧ Mv (Up N No) s s349 ∧ RdL rB s349 a295 c295 r292 ∧ RdL qI s349 a22 c22 r18.2.1 ∧ RdL (rL qI) s349 a21 c21 r18.1 ∧ RdL qI s349 a10 c10 r7.1 ∧ RdL qI s349 a11 c11 r7.2.2.1 ∧ RdL qT s349 a12 c12 r7.2.2.2 ∧ Bx s349 (N + 1) b13 #[.slice a10 r7.1.length c10, .int .i64 r7.2.1, .slice a11 r7.2.2.1.length c11, .slice a12 r7.2.2.2.length c12] 30 ∧ e = (176, .bool v348) :: [(19, .bool b344), (21, .int .i64 st329.1), (18, .slice a295 r292.length c295), (17, .int .i64 st284), (5, .slice a22 r18.2.1.length c22), (4, .slice a21 r18.1.length c21), (3, .pointer (some ⟨b13, 0, none⟩))] ∧ w = s349.w) ?_ ?_
        ·rintro _ _ ⟨s349, v348, rfl, m0, h295, h22, h21, h10, h11, h12, bx13, rfl, rfl⟩
         exact L.as Y R R (L.nil (X.blkN (X.seqN (E.reg (L.mv Y R R (L.bi Y R R R R (L.as Y R R (L.nil (X.sub (ih329 _ (oi hm).symm _ _ ⟨s349, m0, h295, h22, h21, h10, h11, h12, bx13, R, R⟩) (Sub.rf R))))))))))
        intro J350
        rcases ifS eb347 with ⟨hc, hm⟩ | ⟨hc, hm⟩
        ·exact L.know (d := 164) R hc (L.skip R R R R (L.skip R R R R (L.skip R R R R (L.skip R R R R (L.skip R R R R (L.skip R R R R (L.skip R R R R (L.skipU R R R (L.skipU R R R (L.skipU R R R (L.skip R R R R (L.pkT Y R R R R (L.sb (J350 _ _ ⟨s346, true, (oi hm).symm, m0, h295, h22, h21, h10, h11, h12, bx13, R, R⟩) R)))))))))))))
        refine L.know (d := 164) R hc (L.mv (Wt.mk R R) R R (L.mv (Wt.mk R R) R R (L.mv (Wt.mk R R) R R ?_)))
        obtain ⟨x351, ex351, hm⟩ := bindS hm
        refine L.ix (r := (rL qI)) sl46 h21 (Wt.mk R R) R R ex351 R fun b352 o352 cc352 me352 rd352 => ?_
        obtain ⟨a353, c353, rfl, h353⟩ := rd352
        refine L.ld (j := 0) me352 nag27 (Wt.mk R R) R R R R ?_
        obtain ⟨r354, er354, hm⟩ := bindS hm
        refine L.ca cf27 R R (Wt.mk R R) R (m_overseerlaw24_meets_c (s := s346) (p0 := r292) (p1 := x351) h295 h353 er354) R ?_
        rintro _ s355 m356 rfl
        replace m0 := m0.trans m356.no
        replace h21 := h21.mono m356.z
        replace h22 := h22.mono m356.z
        replace h295 := h295.mono m356.z
        replace bx13 := bx13.mv m356 no_No
        replace h10 := h10.mono m356.z
        replace h11 := h11.mono m356.z
        replace h12 := h12.mono m356.z
        refine L.mv (Wt.mk R R) R R ?_
        obtain ⟨b357, eb357, hm⟩ := bindS hm
        refine L.cut 4 (fun e w => ∃ (s359 : Sig) (v358 : Bool), b357 = v358 ∧ Mv (Up N No) s s359 ∧ RdL rB s359 a295 c295 r292 ∧ RdL qI s359 a22 c22 r18.2.1 ∧ RdL (rL qI) s359 a21 c21 r18.1 ∧ RdL qI s359 a10 c10 r7.1 ∧ RdL qI s359 a11 c11 r7.2.2.1 ∧ RdL qT s359 a12 c12 r7.2.2.2 ∧ Bx s359 (N + 1) b13 #[.slice a10 r7.1.length c10, .int .i64 r7.2.1, .slice a11 r7.2.2.1.length c11, .slice a12 r7.2.2.2.length c12] 30 ∧ e = (175, .bool v358) :: [(164, .bool false), (19, .bool b344), (21, .int .i64 st329.1), (18, .slice a295 r292.length c295), (17, .int .i64 st284), (5, .slice a22 r18.2.1.length c22), (4, .slice a21 r18.1.length c21), (3, .pointer (some ⟨b13, 0, none⟩))] ∧ w = s359.w) ?_ ?_
        ·rintro _ _ ⟨s359, v358, rfl, m0, h295, h22, h21, h10, h11, h12, bx13, rfl, rfl⟩
         exact L.pkF Y R R R R (L.sb (J350 _ _ ⟨s359, b357, (oi hm).symm, m0, h295, h22, h21, h10, h11, h12, bx13, R, R⟩) R)
        intro J360
        rcases ifS eb357 with ⟨hc, hm⟩ | ⟨hc, hm⟩
        ·refine L.know (d := 171) R hc (L.mv (Wt.mk R R) R R (L.mv (Wt.mk R R) R R ?_))
         obtain ⟨r361, er361, hm⟩ := bindS hm
         refine L.ca cf25 R R (Wt.mk R R) R (m_overseerlaw24_has_c (s := s355) (p0 := r18.2.1) (p1 := st329.1) h22 er361) R ?_
         rintro _ s362 m363 rfl
         replace m0 := m0.trans m363.no
         replace h21 := h21.mono m363.z
         replace h22 := h22.mono m363.z
         replace h295 := h295.mono m363.z
         replace bx13 := bx13.mv m363 no_No
         replace h10 := h10.mono m363.z
         replace h11 := h11.mono m363.z
         replace h12 := h12.mono m363.z
         exact L.pkT (Wt.mk R R) R R R R (L.sb (J360 _ _ ⟨s362, r361, (oi hm).symm, m0, h295, h22, h21, h10, h11, h12, bx13, R, R⟩) R)
        exact L.know (d := 171) R hc (L.skip R R R R (L.skip R R R R (L.skip R R R R (L.pkF (Wt.mk R R) R R R R (L.sb (J360 _ _ ⟨s355, false, (oi hm).symm, m0, h295, h22, h21, h10, h11, h12, bx13, R, R⟩) R)))))
       intro J364
       rcases ifS eb344 with ⟨hc, hm⟩ | ⟨hc, hm⟩
       ·exact L.know (d := 155) R hc (L.skip R R R R (L.skip R R R R (L.skip R R R R (L.skip R R R R (L.skip R R R R (L.skip R R R R (L.pkT Y R R R R (L.sb (J364 _ _ ⟨s332, true, (oi hm).symm, m0, h295, h22, h21, h10, h11, h12, bx13, R, R⟩) R))))))))
       refine L.know (d := 155) R hc (L.mv (Wt.mk R R) R R (L.mv (Wt.mk R R) R R (L.mv (Wt.mk R R) R R ?_)))
       obtain ⟨x365, ex365, hm⟩ := bindS hm
       refine L.ix (r := (rL qI)) sl46 h21 (Wt.mk R R) R R ex365 R fun b366 o366 cc366 me366 rd366 => ?_
       obtain ⟨a367, c367, rfl, h367⟩ := rd366
       refine L.ld (j := 0) me366 nag27 (Wt.mk R R) R R R R ?_
       obtain ⟨r368, er368, hm⟩ := bindS hm
       refine L.ca cf27 R R (Wt.mk R R) R (m_overseerlaw24_meets_c (s := s332) (p0 := r292) (p1 := x365) h295 h367 er368) R ?_
       rintro _ s369 m370 rfl
       replace m0 := m0.trans m370.no
       replace h21 := h21.mono m370.z
       replace h22 := h22.mono m370.z
       replace h295 := h295.mono m370.z
       replace bx13 := bx13.mv m370 no_No
       replace h10 := h10.mono m370.z
       replace h11 := h11.mono m370.z
       replace h12 := h12.mono m370.z
       exact L.pkF Y R R R R (L.sb (J364 _ _ ⟨s369, r368, (oi hm).symm, m0, h295, h22, h21, h10, h11, h12, bx13, R, R⟩) R)
      refine E.cF R hc (E.exit (X.seqX (X.seqX ?_)))
      have hx := ho329 _ (oi hm).symm
      subst hx
      exact X.sub (K343 _ _ ⟨s332, m0, h22, h21, h10, h11, h12, bx13, R, R⟩) (Sub.rf R)
     refine E.cF R hc (E.exit (X.seqX (X.seqX ?_)))
     have hx := ho284 _ (oi hm).symm
     exact X.sub (K288 _ _ ⟨s285, (), hx.symm, m0, R, R⟩) Sub.nil
    intro K371
    refine E.cut (x := .ret) (fun e w => ∃ (s373 : Sig) (u372 : Unit), o199 = .inr (u372) ∧ Mv (Up N No) s s373 ∧ e = [(2, .bool false)] ∧ w = s373.w) ?_ ?_
    ·rintro _ _ ⟨s373, u372, rfl, m0, rfl, rfl⟩
     dsimp only at hm
     refine X.blkR (X.seqR ?_)
     obtain rfl := oi hm
     exact X.rt (.inl R) Tryz.results5 (Rs.tmp R Rs.nil) R ⟨_, (s373).ren N (fun _ => 0), R, R, m0.ren hNb, R⟩
    intro K374
    refine E.iter (fun (st199 : Int) (e : List (Nat × Value)) (w : World) => ∃ (s200 : Sig), Mv (Up N No) s s200 ∧ RowT (rL qI) s200 (N + 3) 27 a169 c169 o165.2 ∧ RdL qI s200 a22 c22 r18.2.1 ∧ RdL (rL qI) s200 a21 c21 r18.1 ∧ RdL qI s200 a10 c10 r7.1 ∧ RdL qI s200 a11 c11 r7.2.2.1 ∧ RdL qT s200 a12 c12 r7.2.2.2 ∧ Bx s200 (N + 1) b13 #[.slice a10 r7.1.length c10, .int .i64 r7.2.1, .slice a11 r7.2.2.1.length c11, .slice a12 r7.2.2.2.length c12] 30 ∧ e = [(16, .int .i64 st199), (9, .slice a169 o165.2.length c169), (5, .slice a22 r18.2.1.length c22), (4, .slice a21 r18.1.length c21), (3, .pointer (some ⟨b13, 0, none⟩))] ∧ w = s200.w) eo199 ⟨s174, m0, h169, h22, h21, h10, h11, h12, bx13, R, R⟩ (Sub.rf R) ?_
    rintro st199 res199 hm ih199 ho199 _ _ ⟨s200, m0, h169, h22, h21, h10, h11, h12, bx13, rfl, rfl⟩
    unfold m_overseerlaw24_BlockingTraps_l2 at hm
    refine E.seq (ER (L.mv Y R R (L.mv Y R R (L.len sl46 Y R R (L.bi Y R R R R (L.nil (X.seqN ?_)))))))
    rcases ifS hm with ⟨hc, hm⟩ | ⟨hc, hm⟩
    ·refine E.cT R hc (E.skip (X.seqN (E.seq (E.block (E.seq ?_)))))
     obtain ⟨x378, ex378, hm⟩ := bindS hm
     obtain ⟨x386, ex386, hm⟩ := bindS hm
     obtain ⟨r392, er392, hm⟩ := bindS hm
     refine E.draw [[], [], [0, 1], [0, 1, 2], [], [], [4, 5], [4, 5, 6], [0, 1, 2, 3, 4, 5, 6, 7], [0, 1, 2, 3, 4, 5, 6, 7, 8]] (fun D e sx => Mv No s200 sx ∧ Sub [(16, .int .i64 st199), (9, .slice a169 o165.2.length c169), (5, .slice a22 r18.2.1.length c22), (4, .slice a21 r18.1.length c21), (3, .pointer (some ⟨b13, 0, none⟩))] e ∧ AllP [G D e 0 129 (.slice a21 r18.1.length c21), G D e 1 130 (.int .i64 st199), D 2 = true → (∃ (b379 : Nat) (o379 : Nat) (a380 : Option Addr) (c380 : Nat), Env.get e 131 = some (.pointer (some ⟨b379, o379, none⟩)) ∧ Mem sx 0 b379 o379 [.slice a380 x378.length c380] ∧ RdL qI sx a380 c380 x378), D 3 = true → (∃ (a382 : Option Addr) (c382 : Nat), Env.get e 132 = some (.slice a382 x378.length c382) ∧ RdL qI sx a382 c382 x378), G D e 4 133 (.slice a169 o165.2.length c169), G D e 5 134 (.int .i64 st199), D 6 = true → (∃ (b387 : Nat) (o387 : Nat) (a388 : Option Addr) (c388 : Nat), Env.get e 135 = some (.pointer (some ⟨b387, o387, none⟩)) ∧ Mem sx (N + 3) b387 o387 [.slice a388 x386.length c388] ∧ RdL qI sx a388 c388 x386 ∧ Spot a169 (rL qI).sz (st199).toNat b387 o387), D 7 = true → (∃ (a390 : Option Addr) (c390 : Nat), Env.get e 136 = some (.slice a390 x386.length c390) ∧ RdL qI sx a390 c390 x386), G D e 8 137 (.bool r392), G D e 9 138 (.bool (!r392))]) (by kernel_rfl) (by kernel_rfl) (by kernel_rfl) ?_ ?_ ?_
     ·intro sz mz
      exact ⟨mz, (Sub.rf R), nofun, nofun, nofun, nofun, nofun, nofun, nofun, nofun, nofun, nofun, trivial⟩
     ·refine ⟨?_, ?_, ?_, ?_, ?_, ?_, ?_, ?_, ?_, ?_, trivial⟩
      ·rintro D e s375 ⟨im, ib, i⟩ hk hf ha
       have kn := K1 (ib 4 _ R)
       exact kn.g (L.mv Y R R (L.nil (X.dk kn ⟨im, Sub.fresh ib R, i.u 0 (fun _ => R)⟩)))
      ·rintro D e s376 ⟨im, ib, i⟩ hk hf ha
       have kn := K1 (ib 16 _ R)
       exact kn.g (L.mv Y R R (L.nil (X.dk kn ⟨im, Sub.fresh ib R, i.u 1 (fun _ => R)⟩)))
      ·rintro D e s377 ⟨im, ib, i⟩ hk hf ha
       have h21 := h21.mono im.z
       have kn := K2 ((i.p 0) (ha.at 0 R)) ((i.p 1) (ha.at 1 R))
       refine kn.g (L.ix (r := (rL qI)) sl46 h21 Y R R ex378 R fun b379 o379 cc379 me379 rd379 => ?_)
       obtain ⟨a380, c380, rfl, h380⟩ := rd379
       exact L.nil (X.dk kn ⟨im, Sub.fresh ib R, i.u 2 (fun _ => ⟨b379, o379, a380, c380, R, me379, h380⟩)⟩)
      ·rintro D e s381 ⟨im, ib, i⟩ hk hf ha
       obtain ⟨b379, o379, a380, c380, g2_, me379, h380⟩ := (i.p 2) (ha.at 2 R)
       have kn := K1 g2_
       refine kn.g (L.ld (j := 0) me379 nag27 Y R R R R ?_)
       obtain ⟨a382, c382, ea382, ec382, h382⟩ : ∃ a c, a = a380 ∧ c = c380 ∧ RdL qI s381 a c x378 := ⟨_, _, rfl, rfl, h380⟩
       subst ea382 ec382
       exact L.nil (X.dk kn ⟨im, Sub.fresh ib R, i.u 3 (fun _ => ⟨a382, c382, R, h382⟩)⟩)
      ·rintro D e s383 ⟨im, ib, i⟩ hk hf ha
       have kn := K1 (ib 9 _ R)
       exact kn.g (L.mv Y R R (L.nil (X.dk kn ⟨im, Sub.fresh ib R, i.u 4 (fun _ => R)⟩)))
      ·rintro D e s384 ⟨im, ib, i⟩ hk hf ha
       have kn := K1 (ib 16 _ R)
       exact kn.g (L.mv Y R R (L.nil (X.dk kn ⟨im, Sub.fresh ib R, i.u 5 (fun _ => R)⟩)))
      ·rintro D e s385 ⟨im, ib, i⟩ hk hf ha
       have h169 := h169.mv im no_No no_No
       have kn := K2 ((i.p 4) (ha.at 4 R)) ((i.p 5) (ha.at 5 R))
       refine kn.g (L.ir (r := (rL qI)) sl46 h169 Y R R ex386 R fun b387 o387 cc387 me387 rd387 sp387 => ?_)
       obtain ⟨a388, c388, rfl, h388⟩ := rd387
       exact L.nil (X.dk kn ⟨im, Sub.fresh ib R, i.u 6 (fun _ => ⟨b387, o387, a388, c388, R, me387, h388, sp387⟩)⟩)
      ·rintro D e s389 ⟨im, ib, i⟩ hk hf ha
       obtain ⟨b387, o387, a388, c388, g6_, me387, h388, sp387⟩ := (i.p 6) (ha.at 6 R)
       have kn := K1 g6_
       refine kn.g (L.ld (j := 0) me387 nag27 Y R R R R ?_)
       obtain ⟨a390, c390, ea390, ec390, h390⟩ : ∃ a c, a = a388 ∧ c = c388 ∧ RdL qI s389 a c x386 := ⟨_, _, rfl, rfl, h388⟩
       subst ea390 ec390
       exact L.nil (X.dk kn ⟨im, Sub.fresh ib R, i.u 7 (fun _ => ⟨a390, c390, R, h390⟩)⟩)
      ·rintro D e s391 ⟨im, ib, i⟩ hk hf ha
       obtain ⟨a382, c382, g3_, h382⟩ := (i.p 3) (ha.at 3 R)
       obtain ⟨a390, c390, g7_, h390⟩ := (i.p 7) (ha.at 7 R)
       have kn := K2 g3_ g7_
       refine kn.g (L.ca cf26 R R Y R (m_overseerlaw24_same_c (s := s391) (p0 := x378) (p1 := x386) h382 h390 er392) R ?_)
       rintro _ s393 m394 rfl
       exact L.nil (X.dk kn ⟨im.trans m394.no, Sub.fresh ib R, ((((i.u 2 (fun z => let ⟨b379, o379, a380, c380, q, me379, h380⟩ := (i.p 2) z; ⟨b379, o379, a380, c380, q, (me379.mv m394 no_No), (h380.mono m394.z)⟩)).u 3 (fun z => let ⟨a382, c382, q, h382⟩ := (i.p 3) z; ⟨a382, c382, q, (h382.mono m394.z)⟩)).u 6 (fun z => let ⟨b387, o387, a388, c388, q, me387, h388, sp387⟩ := (i.p 6) z; ⟨b387, o387, a388, c388, q, (me387.mv m394 no_No), (h388.mono m394.z), sp387⟩)).u 7 (fun z => let ⟨a390, c390, q, h390⟩ := (i.p 7) z; ⟨a390, c390, q, (h390.mono m394.z)⟩)).u 8 (fun _ => R)⟩)
      rintro D e s395 ⟨im, ib, i⟩ hk hf ha
      have kn := K1 ((i.p 8) (ha.at 8 R))
      exact kn.g (L.not Y R R (L.nil (X.dk kn ⟨im, Sub.fresh ib R, i.u 9 (fun _ => R)⟩)))
     rintro D e s396 hD ⟨im, ib, i⟩
     have g9_ := (i.p 9) (hD 9 R)
     have h169 := h169.mv im no_No no_No
     have h22 := h22.mono im.z
     have h21 := h21.mono im.z
     have bx13 := bx13.mv im no_No
     have h10 := h10.mono im.z
     have h11 := h11.mono im.z
     have h12 := h12.mono im.z
     have m0 := m0.trans im.no
     refine X.sub (e' := [(138, .bool (!r392)), (16, .int .i64 st199), (9, .slice a169 o165.2.length c169), (5, .slice a22 r18.2.1.length c22), (4, .slice a21 r18.1.length c21), (3, .pointer (some ⟨b13, 0, none⟩))]) ?_ (Sub.cons g9_ (Sub.cons (ib 16 _ R) (Sub.cons (ib 9 _ R) (Sub.cons (ib 5 _ R) (Sub.cons (ib 4 _ R) (Sub.cons (ib 3 _ R) Sub.nil))))))
     refine X.seqN ?_
     rcases ifS hm with ⟨hc, hm⟩ | ⟨hc, hm⟩
     ·refine E.cT R hc (ER (L.as Y R R (LN (E.ret (X.blkR (X.seqR (X.seqR ?_)))))))
      have hx := ho199 _ (oi hm).symm
      exact X.sub (K374 _ _ ⟨s396, (), hx.symm, m0, R, R⟩) (Sub.rf R)
     exact E.cF R hc (E.skip (X.blkN (X.seqN (E.reg (L.mv Y R R (L.bi Y R R R R (L.as Y R R (L.nil (X.sub (ih199 _ (oi hm).symm _ _ ⟨s396, m0, h169, h22, h21, h10, h11, h12, bx13, R, R⟩) (Sub.rf R))))))))))
    refine E.cF R hc (E.exit (X.seqX (X.seqX ?_)))
    have hx := ho199 _ (oi hm).symm
    exact X.sub (K371 _ _ ⟨s200, (), hx.symm, m0, h22, h21, h10, h11, h12, bx13, R, R⟩) (Sub.rf R)
   intro J397
   rcases ifS eb172 with ⟨hc, hm⟩ | ⟨hc, hm⟩
   ·exact L.know (d := 117) R hc (L.skip R R R R (L.skip R R R R (L.skip R R R R (L.skip R R R R (L.pkT Y R R R R (L.sb (J397 _ _ ⟨s171, true, (oi hm).symm, m0, h169, h22, h21, h10, h11, h12, bx13, R, R⟩) R))))))
   refine L.know (d := 117) R hc (L.mv (Wt.mk R R) R R (L.mv (Wt.mk R R) R R ?_))
   obtain ⟨r398, er398, hm⟩ := bindS hm
   refine L.ca cf26 R R (Wt.mk R R) R (Calls.lendG (s0 := (Sig.drop N s171)) (s := s171) R (m_overseerlaw24_same_c (s := (Sig.drop N s171)) (p0 := r18.2.1) (p1 := o165.1) (h22.mono (Sig.drop_le N _)) (h167.drop (Nat.le_add_right _ _)) er398) (fun v s' h => h)) R ?_
   rintro _ s399 m400 rfl
   replace m0 := m0.trans m400.no
   replace h21 := h21.mono m400.z
   replace h22 := h22.mono m400.z
   replace h169 := h169.mv m400 no_No no_No
   replace bx13 := bx13.mv m400 no_No
   replace h10 := h10.mono m400.z
   replace h11 := h11.mono m400.z
   replace h12 := h12.mono m400.z
   exact L.not (Wt.mk R R) R R (L.pkF Y R R R R (L.sb (J397 _ _ ⟨s399, (!r398), (oi hm).symm, m0, h169, h22, h21, h10, h11, h12, bx13, R, R⟩) R))
  intro K401
  refine E.iter (fun (st165 : Int × List Int × List (List Int)) (e : List (Nat × Value)) (w : World) => ∃ (s170 : Sig) (a30 : Option Addr) (c30 : Nat) (a32 : Option Addr) (c32 : Nat), Mv (Up N No) s s170 ∧ RowT qI s170 (N + 2) 3 a30 c30 st165.2.1 ∧ RowT (rL qI) s170 (N + 3) 27 a32 c32 st165.2.2 ∧ RdL (rL qI) s170 a26 c26 r23.1 ∧ RdL qI s170 a22 c22 r18.2.1 ∧ RdL (rL qI) s170 a21 c21 r18.1 ∧ RdL qI s170 a10 c10 r7.1 ∧ RdL qI s170 a11 c11 r7.2.2.1 ∧ RdL qT s170 a12 c12 r7.2.2.2 ∧ Bx s170 (N + 1) b13 #[.slice a10 r7.1.length c10, .int .i64 r7.2.1, .slice a11 r7.2.2.1.length c11, .slice a12 r7.2.2.2.length c12] 30 ∧ e = [(11, .int .i64 st165.1), (10, .slice a30 st165.2.1.length c30), (9, .slice a32 st165.2.2.length c32), (7, .slice a26 r23.1.length c26), (5, .slice a22 r18.2.1.length c22), (4, .slice a21 r18.1.length c21), (3, .pointer (some ⟨b13, 0, none⟩))] ∧ w = s170.w) eo165 ⟨s24, none, 0, none, 0, m0, RowT.nil, RowT.nil, h26, h22, h21, h10, h11, h12, bx13, R, R⟩ (Sub.rf R) ?_
  rintro st165 res165 hm ih165 ho165 _ _ ⟨s170, a30, c30, a32, c32, m0, h30, h32, h26, h22, h21, h10, h11, h12, bx13, rfl, rfl⟩
  unfold m_overseerlaw24_BlockingTraps_l1 at hm
  refine E.seq (ER (L.mv Y R R (L.mv Y R R (L.len sl46 Y R R (L.bi Y R R R R (L.nil (X.seqN ?_)))))))
  rcases ifS hm with ⟨hc, hm⟩ | ⟨hc, hm⟩
  ·refine E.cT R hc (E.skip (X.seqN (E.seqJ (fun e w => ∃ (s406 : Sig) (l402 : List (List Int)) (l404 : List Int) (a403 : Option Addr) (c403 : Nat) (a405 : Option Addr) (c405 : Nat), m_overseerlaw24_BlockingTraps_j1 st165 l402 l404 = some res165 ∧ Mv (Up N No) s s406 ∧ RowT (rL qI) s406 (N + 3) 27 a403 c403 l402 ∧ RowT qI s406 (N + 2) 3 a405 c405 l404 ∧ RdL (rL qI) s406 a26 c26 r23.1 ∧ RdL qI s406 a22 c22 r18.2.1 ∧ RdL (rL qI) s406 a21 c21 r18.1 ∧ RdL qI s406 a10 c10 r7.1 ∧ RdL qI s406 a11 c11 r7.2.2.1 ∧ RdL qT s406 a12 c12 r7.2.2.2 ∧ Bx s406 (N + 1) b13 #[.slice a10 r7.1.length c10, .int .i64 r7.2.1, .slice a11 r7.2.2.1.length c11, .slice a12 r7.2.2.2.length c12] 30 ∧ e = [(9, .slice a403 l402.length c403), (10, .slice a405 l404.length c405), (11, .int .i64 st165.1), (7, .slice a26 r23.1.length c26), (5, .slice a22 r18.2.1.length c22), (4, .slice a21 r18.1.length c21), (3, .pointer (some ⟨b13, 0, none⟩))] ∧ w = s406.w) ?_ ?_)))
   ·rintro _ _ ⟨s406, l402, l404, a403, c403, a405, c405, hm, m0, h403, h405, h26, h22, h21, h10, h11, h12, bx13, rfl, rfl⟩
    unfold m_overseerlaw24_BlockingTraps_j1 at hm
    exact E.reg (L.mv Y R R (L.bi Y R R R R (L.as Y R R (L.nil (X.sub (ih165 _ (oi hm).symm _ _ ⟨s406, a405, c405, a403, c403, m0, h405, h403, h26, h22, h21, h10, h11, h12, bx13, R, R⟩) (Sub.rf R))))))
   intro Jj407
   refine E.block (E.seq ?_)
   obtain ⟨x412, ex412, hm⟩ := bindS hm
   obtain ⟨x418, ex418, hm⟩ := bindS hm
   obtain ⟨r422, er422, hm⟩ := bindS hm
   refine E.draw [[], [], [], [1, 2], [1, 2, 3], [1, 2, 3, 4], [1, 2, 3, 4, 5], [0, 1, 2, 3, 4, 5, 6], [0, 1, 2, 3, 4, 5, 6, 7]] (fun D e sx => Mv No s170 sx ∧ Sub [(11, .int .i64 st165.1), (10, .slice a30 st165.2.1.length c30), (9, .slice a32 st165.2.2.length c32), (7, .slice a26 r23.1.length c26), (5, .slice a22 r18.2.1.length c22), (4, .slice a21 r18.1.length c21), (3, .pointer (some ⟨b13, 0, none⟩))] e ∧ AllP [G D e 0 49 (.agg #[.slice a10 r7.1.length c10, .int .i64 r7.2.1, .slice a11 r7.2.2.1.length c11, .slice a12 r7.2.2.2.length c12]), G D e 1 50 (.slice a26 r23.1.length c26), G D e 2 51 (.int .i64 st165.1), D 3 = true → (∃ (b413 : Nat) (o413 : Nat) (a414 : Option Addr) (c414 : Nat), Env.get e 52 = some (.pointer (some ⟨b413, o413, none⟩)) ∧ Mem sx 0 b413 o413 [.slice a414 x412.length c414] ∧ RdL qI sx a414 c414 x412), D 4 = true → (∃ (a416 : Option Addr) (c416 : Nat), Env.get e 53 = some (.slice a416 x412.length c416) ∧ RdL qI sx a416 c416 x412), D 5 = true → (∃ (b419 : Nat) (o419 : Nat), Env.get e 54 = some (.pointer (some ⟨b419, o419, none⟩)) ∧ Mem sx 0 b419 o419 [.int .i64 x418]), G D e 6 55 (.int .i64 x418), D 7 = true → (∃ (a425 : Option Addr) (c425 : Nat), Env.get e 56 = some (.slice a425 r422.length c425) ∧ RdL rB sx a425 c425 r422), D 8 = true → ∀ (a425 : Option Addr) (c425 : Nat), Env.get e 56 = some (.slice a425 r422.length c425) → (Env.get e 12 = some (.slice a425 r422.length c425))]) (by kernel_rfl) (by kernel_rfl) (by kernel_rfl) ?_ ?_ ?_
   ·intro sz mz
    exact ⟨mz, (Sub.rf R), nofun, nofun, nofun, nofun, nofun, nofun, nofun, nofun, nofun, trivial⟩
   ·refine ⟨?_, ?_, ?_, ?_, ?_, ?_, ?_, ?_, ?_, trivial⟩
    ·rintro D e s408 ⟨im, ib, i⟩ hk hf ha
     have bx13 := bx13.mv im no_No
     have kn := K1 (ib 3 _ R)
     exact kn.g (L.lg (j := 0) (cs := [.slice a10 r7.1.length c10, .int .i64 r7.2.1, .slice a11 r7.2.2.1.length c11, .slice a12 r7.2.2.2.length c12]) bx13.mem ag30 Y R R R R R (L.nil (X.dk kn ⟨im, Sub.fresh ib R, i.u 0 (fun _ => R)⟩)))
    ·rintro D e s409 ⟨im, ib, i⟩ hk hf ha
     have kn := K1 (ib 7 _ R)
     exact kn.g (L.mv Y R R (L.nil (X.dk kn ⟨im, Sub.fresh ib R, i.u 1 (fun _ => R)⟩)))
    ·rintro D e s410 ⟨im, ib, i⟩ hk hf ha
     have kn := K1 (ib 11 _ R)
     exact kn.g (L.mv Y R R (L.nil (X.dk kn ⟨im, Sub.fresh ib R, i.u 2 (fun _ => R)⟩)))
    ·rintro D e s411 ⟨im, ib, i⟩ hk hf ha
     have h26 := h26.mono im.z
     have kn := K2 ((i.p 1) (ha.at 1 R)) ((i.p 2) (ha.at 2 R))
     refine kn.g (L.ix (r := (rL qI)) sl46 h26 Y R R ex412 R fun b413 o413 cc413 me413 rd413 => ?_)
     obtain ⟨a414, c414, rfl, h414⟩ := rd413
     exact L.nil (X.dk kn ⟨im, Sub.fresh ib R, i.u 3 (fun _ => ⟨b413, o413, a414, c414, R, me413, h414⟩)⟩)
    ·rintro D e s415 ⟨im, ib, i⟩ hk hf ha
     obtain ⟨b413, o413, a414, c414, g3_, me413, h414⟩ := (i.p 3) (ha.at 3 R)
     have kn := K1 g3_
     refine kn.g (L.ld (j := 0) me413 nag27 Y R R R R ?_)
     obtain ⟨a416, c416, ea416, ec416, h416⟩ : ∃ a c, a = a414 ∧ c = c414 ∧ RdL qI s415 a c x412 := ⟨_, _, rfl, rfl, h414⟩
     subst ea416 ec416
     exact L.nil (X.dk kn ⟨im, Sub.fresh ib R, i.u 4 (fun _ => ⟨a416, c416, R, h416⟩)⟩)
    ·rintro D e s417 ⟨im, ib, i⟩ hk hf ha
     obtain ⟨a416, c416, g4_, h416⟩ := (i.p 4) (ha.at 4 R)
     have kn := K1 g4_
     refine kn.g (L.ix (r := qI) sl27 h416 Y R R ex418 R fun b419 o419 cc419 me419 rd419 => ?_)
     obtain rfl := rd419
     exact L.nil (X.dk kn ⟨im, Sub.fresh ib R, i.u 5 (fun _ => ⟨b419, o419, R, me419⟩)⟩)
    ·rintro D e s420 ⟨im, ib, i⟩ hk hf ha
     obtain ⟨b419, o419, g5_, me419⟩ := (i.p 5) (ha.at 5 R)
     have kn := K1 g5_
     exact kn.g (L.ld (j := 0) me419 nag3 Y R R R R (L.nil (X.dk kn ⟨im, Sub.fresh ib R, i.u 6 (fun _ => R)⟩)))
    ·rintro D e s421 ⟨im, ib, i⟩ hk hf ha
     have h10 := h10.mono im.z
     have h11 := h11.mono im.z
     have h12 := h12.mono im.z
     have kn := K2 ((i.p 0) (ha.at 0 R)) ((i.p 6) (ha.at 6 R))
     refine kn.g (L.ca cf24 R R Y R (m_overseerlaw24_from_c (s := s421) (p0 := r7) (p1 := x418) (u0 := 0) h10 h11 h12 er422) R ?_)
     rintro _ s423 m424 ⟨a425, c425, rfl, h425⟩
     replace h425 := h425.p
     exact L.nil (X.dk kn ⟨im.trans m424.no, Sub.fresh ib R, ((((i.u 3 (fun z => let ⟨b413, o413, a414, c414, q, me413, h414⟩ := (i.p 3) z; ⟨b413, o413, a414, c414, q, (me413.mv m424 no_No), (h414.mono m424.z)⟩)).u 4 (fun z => let ⟨a416, c416, q, h416⟩ := (i.p 4) z; ⟨a416, c416, q, (h416.mono m424.z)⟩)).u 5 (fun z => let ⟨b419, o419, q, me419⟩ := (i.p 5) z; ⟨b419, o419, q, (me419.mv m424 no_No)⟩)).u 7 (fun _ => ⟨a425, c425, R, h425⟩)).u 8 (fun z => Bool.noConfusion ((hf 8 (nb R) R).symm.trans z))⟩)
    rintro D e s426 ⟨im, ib, i⟩ hk hf ha
    obtain ⟨a425, c425, g7_, h425⟩ := (i.p 7) (ha.at 7 R)
    have kn := K1 g7_
    exact kn.g (L.as Y R R (L.nil (X.dk kn ⟨im, Sub.fresh ib R, i.u 8 (fun _ _ _ q7 => by cases g7_.symm.trans q7; exact R)⟩)))
   rintro D e s427 hD ⟨im, ib, i⟩
   obtain ⟨a425, c425, g7_, h425⟩ := (i.p 7) (hD 7 R)
   have g8_ := (i.p 8) (hD 8 R) a425 c425 g7_
   have h30 := h30.mv im no_No no_No
   have h32 := h32.mv im no_No no_No
   have h26 := h26.mono im.z
   have h22 := h22.mono im.z
   have h21 := h21.mono im.z
   have bx13 := bx13.mv im no_No
   have h10 := h10.mono im.z
   have h11 := h11.mono im.z
   have h12 := h12.mono im.z
   have m0 := m0.trans im.no
   refine X.sub (e' := [(12, .slice a425 r422.length c425), (11, .int .i64 st165.1), (10, .slice a30 st165.2.1.length c30), (9, .slice a32 st165.2.2.length c32), (7, .slice a26 r23.1.length c26), (5, .slice a22 r18.2.1.length c22), (4, .slice a21 r18.1.length c21), (3, .pointer (some ⟨b13, 0, none⟩))]) ?_ (Sub.cons g8_ (Sub.cons (ib 11 _ R) (Sub.cons (ib 10 _ R) (Sub.cons (ib 9 _ R) (Sub.cons (ib 7 _ R) (Sub.cons (ib 5 _ R) (Sub.cons (ib 4 _ R) (Sub.cons (ib 3 _ R) Sub.nil))))))))
   refine X.seqN (ER (L.as Y R R (L.as Y R R (LN (E.seq (ER (L.as Y R R (LN (E.block ?_)))))))))
   obtain ⟨o467, eo467, hm⟩ := bindS hm
   refine E.cut (x := .exit 2) (fun e w => ∃ (s471 : Sig), Mv (Up N No) s s471 ∧ RowT qI s471 (N + 2) 3 a30 c30 st165.2.1 ∧ RowT (rL qI) s471 (N + 3) 27 a32 c32 st165.2.2 ∧ RdL (rL qI) s471 a26 c26 r23.1 ∧ RdL qI s471 a22 c22 r18.2.1 ∧ RdL (rL qI) s471 a21 c21 r18.1 ∧ RdL qI s471 a10 c10 r7.1 ∧ RdL qI s471 a11 c11 r7.2.2.1 ∧ RdL qT s471 a12 c12 r7.2.2.2 ∧ Bx s471 (N + 1) b13 #[.slice a10 r7.1.length c10, .int .i64 r7.2.1, .slice a11 r7.2.2.1.length c11, .slice a12 r7.2.2.2.length c12] 30 ∧ e = [(14, .bool o467.1), (13, .bool o467.2), (11, .int .i64 st165.1), (10, .slice a30 st165.2.1.length c30), (9, .slice a32 st165.2.2.length c32), (7, .slice a26 r23.1.length c26), (5, .slice a22 r18.2.1.length c22), (4, .slice a21 r18.1.length c21), (3, .pointer (some ⟨b13, 0, none⟩))] ∧ w = s471.w) ?_ ?_
   ·rintro _ _ ⟨s471, m0, h30, h32, h26, h22, h21, h10, h11, h12, bx13, rfl, rfl⟩
    refine X.blkE (X.seqN (E.seqJ (fun e w => ∃ (s474 : Sig) (l472 : List Int) (a473 : Option Addr) (c473 : Nat), m_overseerlaw24_BlockingTraps_j2 r23 st165 o467 l472 = some res165 ∧ Mv (Up N No) s s474 ∧ RowT qI s474 (N + 2) 3 a473 c473 l472 ∧ RowT (rL qI) s474 (N + 3) 27 a32 c32 st165.2.2 ∧ RdL (rL qI) s474 a26 c26 r23.1 ∧ RdL qI s474 a22 c22 r18.2.1 ∧ RdL (rL qI) s474 a21 c21 r18.1 ∧ RdL qI s474 a10 c10 r7.1 ∧ RdL qI s474 a11 c11 r7.2.2.1 ∧ RdL qT s474 a12 c12 r7.2.2.2 ∧ Bx s474 (N + 1) b13 #[.slice a10 r7.1.length c10, .int .i64 r7.2.1, .slice a11 r7.2.2.1.length c11, .slice a12 r7.2.2.2.length c12] 30 ∧ e = [(10, .slice a473 l472.length c473), (13, .bool o467.2), (11, .int .i64 st165.1), (9, .slice a32 st165.2.2.length c32), (7, .slice a26 r23.1.length c26), (5, .slice a22 r18.2.1.length c22), (4, .slice a21 r18.1.length c21), (3, .pointer (some ⟨b13, 0, none⟩))] ∧ w = s474.w) ?_ ?_))
    ·rintro _ _ ⟨s474, l472, a473, c473, hm, m0, h473, h32, h26, h22, h21, h10, h11, h12, bx13, rfl, rfl⟩
     unfold m_overseerlaw24_BlockingTraps_j2 at hm
     refine ER (L.mv Y R R (L.nil (X.seqN ?_)))
     rcases ifS hm with ⟨hc, hm⟩ | ⟨hc, hm⟩
     ·refine E.cT R hc (E.reg (L.mv Y R R (L.mv Y R R (L.mv Y R R ?_))))
      obtain ⟨x476, ex476, hm⟩ := bindS hm
      refine L.ix (r := (rL qI)) sl46 h26 Y R R ex476 R fun b477 o477 cc477 me477 rd477 => ?_
      obtain ⟨a478, c478, rfl, h478⟩ := rd477
      refine L.ld (j := 0) me477 nag27 Y R R R R (L.bsE (k := 1) (cs := [.slice a478 x476.length c478]) 0 bs46 (nb R) Y R R R R fun b479 s480 m481 bx479 => ?_)
      replace h32 := h32.mv m481 no_No no_No
      replace h478 := h478.mono m481.z
      have h479 := Bx.rdL (r := (rL qI)) (xs := ([x476] : List (List Int))) bx479 ⟨[.slice a478 x476.length c478], _, R, ⟨_, _, R, h478⟩, R⟩ (nb R)
      obtain ⟨x482, ex482, hm⟩ := bindS hm
      refine L.ap (r := (rL qI)) Tryz.underlying46 el27 R (tgp hN) h32 h479.wk Y R R ex482 R fun a483 c483 s484 m485 h483 => ?_
      replace m0 := (m0.trans m481.no).trans (m485.one up)
      replace h21 := (h21.mono m481.z).mono (m485.le (tg0 hN))
      replace h22 := (h22.mono m481.z).mono (m485.le (tg0 hN))
      replace h26 := (h26.mono m481.z).mono (m485.le (tg0 hN))
      replace h473 := (h473.mv m481 no_No no_No).mv m485 (tq R) (tg0 hN)
      replace bx13 := (bx13.mv m481 no_No).mv m485 (tq R)
      replace h10 := (h10.mono m481.z).mono (m485.le (tg0 hN))
      replace h11 := (h11.mono m481.z).mono (m485.le (tg0 hN))
      replace h12 := (h12.mono m481.z).mono (m485.le (tg0 hN))
      exact L.as Y R R (L.nil (X.blkN (X.sub (Jj407 _ _ ⟨s484, x482, l472, a483, c483, a473, c473, hm, m0, h483, h473, h26, h22, h21, h10, h11, h12, bx13, R, R⟩) (Sub.rf R))))
     exact E.cF R hc (E.skip (X.blkN (X.sub (Jj407 _ _ ⟨s474, st165.2.2, l472, a32, c32, a473, c473, hm, m0, h32, h473, h26, h22, h21, h10, h11, h12, bx13, R, R⟩) (Sub.rf R))))
    intro Jj475
    refine ER (L.mv Y R R (L.mv Y R R (L.cut 3 (fun e w => ∃ (v486 : Bool), (o467.2 && (!o467.1)) = v486 ∧ e = (98, .bool v486) :: [(13, .bool o467.2), (11, .int .i64 st165.1), (10, .slice a30 st165.2.1.length c30), (9, .slice a32 st165.2.2.length c32), (7, .slice a26 r23.1.length c26), (5, .slice a22 r18.2.1.length c22), (4, .slice a21 r18.1.length c21), (3, .pointer (some ⟨b13, 0, none⟩))] ∧ w = s471.w) ?_ ?_)))
    ·rintro _ _ ⟨v486, rfl, rfl, rfl⟩
     refine L.nil (X.seqN ?_)
     rcases ifS hm with ⟨hc, hm⟩ | ⟨hc, hm⟩
     ·refine E.cT R hc (E.reg (L.mv Y R R (L.mv Y R R (L.len sl46 Y R R (L.bsE (k := 1) (cs := [.int .i64 (st165.2.2.length : Int)]) 0 bs27 (nb R) Y R R R R fun b487 s488 m489 bx487 => ?_)))))
      replace h30 := h30.mv m489 no_No no_No
      have h487 := Bx.rdL (r := qI) (xs := ([(st165.2.2.length : Int)] : List Int)) bx487 ⟨[.int .i64 (st165.2.2.length : Int)], _, R, R, R⟩ (nb R)
      obtain ⟨x490, ex490, hm⟩ := bindS hm
      refine L.ap (r := qI) Tryz.underlying27 el3 R (tgp hN) h30 h487.wk Y R R ex490 R fun a491 c491 s492 m493 h491 => ?_
      replace m0 := (m0.trans m489.no).trans (m493.one up)
      replace h21 := (h21.mono m489.z).mono (m493.le (tg0 hN))
      replace h22 := (h22.mono m489.z).mono (m493.le (tg0 hN))
      replace h26 := (h26.mono m489.z).mono (m493.le (tg0 hN))
      replace h32 := (h32.mv m489 no_No no_No).mv m493 (tq R) (tg0 hN)
      replace bx13 := (bx13.mv m489 no_No).mv m493 (tq R)
      replace h10 := (h10.mono m489.z).mono (m493.le (tg0 hN))
      replace h11 := (h11.mono m489.z).mono (m493.le (tg0 hN))
      replace h12 := (h12.mono m489.z).mono (m493.le (tg0 hN))
      exact L.as Y R R (L.nil (X.sub (Jj475 _ _ ⟨s492, x490, a491, c491, hm, m0, h491, h32, h26, h22, h21, h10, h11, h12, bx13, R, R⟩) (Sub.rf R)))
     exact E.cF R hc (E.skip (X.sub (Jj475 _ _ ⟨s471, st165.2.1, a30, c30, hm, m0, h30, h32, h26, h22, h21, h10, h11, h12, bx13, R, R⟩) (Sub.rf R)))
    intro J494
    rcases Bool.eq_false_or_eq_true o467.2 with hc | hc
    ·exact L.know (d := 95) R hc (L.mv (Wt.mk R R) R R (L.not (Wt.mk R R) R R (L.pkT Y R R R R (L.sb (J494 _ _ ⟨(!o467.1), (andT hc).symm, R, R⟩) R))))
    exact L.know (d := 95) R hc (L.skip R R R R (L.skip R R R R (L.pkF Y R R R R (L.sb (J494 _ _ ⟨false, (andF hc).symm, R, R⟩) R))))
   intro K495
   refine E.iter (fun (st467 : Int × Bool × Bool) (e : List (Nat × Value)) (w : World) => ∃ (s470 : Sig), Mv (Up N No) s s470 ∧ RdL rB s470 a425 c425 r422 ∧ RowT qI s470 (N + 2) 3 a30 c30 st165.2.1 ∧ RowT (rL qI) s470 (N + 3) 27 a32 c32 st165.2.2 ∧ RdL (rL qI) s470 a26 c26 r23.1 ∧ RdL qI s470 a22 c22 r18.2.1 ∧ RdL (rL qI) s470 a21 c21 r18.1 ∧ RdL qI s470 a10 c10 r7.1 ∧ RdL qI s470 a11 c11 r7.2.2.1 ∧ RdL qT s470 a12 c12 r7.2.2.2 ∧ Bx s470 (N + 1) b13 #[.slice a10 r7.1.length c10, .int .i64 r7.2.1, .slice a11 r7.2.2.1.length c11, .slice a12 r7.2.2.2.length c12] 30 ∧ e = [(15, .int .i64 st467.1), (14, .bool st467.2.1), (13, .bool st467.2.2), (12, .slice a425 r422.length c425), (11, .int .i64 st165.1), (10, .slice a30 st165.2.1.length c30), (9, .slice a32 st165.2.2.length c32), (7, .slice a26 r23.1.length c26), (5, .slice a22 r18.2.1.length c22), (4, .slice a21 r18.1.length c21), (3, .pointer (some ⟨b13, 0, none⟩))] ∧ w = s470.w) eo467 ⟨s427, m0, h425, h30, h32, h26, h22, h21, h10, h11, h12, bx13, R, R⟩ (Sub.rf R) ?_
   rintro st467 res467 hm ih467 ho467 _ _ ⟨s470, m0, h425, h30, h32, h26, h22, h21, h10, h11, h12, bx13, rfl, rfl⟩
   unfold m_overseerlaw24_BlockingTraps_l5 at hm
   refine E.seq (ER (L.mv Y R R (L.fa fa30_1 Y R R (L.ld (j := 1) bx13.mem nag3 Y R R R R (L.bi Y R R R R (L.nil (X.seqN ?_)))))))
   rcases ifS hm with ⟨hc, hm⟩ | ⟨hc, hm⟩
   ·refine E.cT R hc (E.skip (X.seqN (E.seq (E.block (ER (L.mv Y R R (L.mv Y R R ?_)))))))
    obtain ⟨b496, eb496, hm⟩ := bindS hm
    refine L.cut 14 (fun e w => ∃ (s498 : Sig) (v497 : Bool), b496 = v497 ∧ Mv (Up N No) s s498 ∧ RdL rB s498 a425 c425 r422 ∧ RowT qI s498 (N + 2) 3 a30 c30 st165.2.1 ∧ RowT (rL qI) s498 (N + 3) 27 a32 c32 st165.2.2 ∧ RdL (rL qI) s498 a26 c26 r23.1 ∧ RdL qI s498 a22 c22 r18.2.1 ∧ RdL (rL qI) s498 a21 c21 r18.1 ∧ RdL qI s498 a10 c10 r7.1 ∧ RdL qI s498 a11 c11 r7.2.2.1 ∧ RdL qT s498 a12 c12 r7.2.2.2 ∧ Bx s498 (N + 1) b13 #[.slice a10 r7.1.length c10, .int .i64 r7.2.1, .slice a11 r7.2.2.1.length c11, .slice a12 r7.2.2.2.length c12] 30 ∧ e = (78, .bool v497) :: [(15, .int .i64 st467.1), (14, .bool st467.2.1), (12, .slice a425 r422.length c425), (11, .int .i64 st165.1), (10, .slice a30 st165.2.1.length c30), (9, .slice a32 st165.2.2.length c32), (7, .slice a26 r23.1.length c26), (5, .slice a22 r18.2.1.length c22), (4, .slice a21 r18.1.length c21), (3, .pointer (some ⟨b13, 0, none⟩))] ∧ w = s498.w) ?_ ?_
    ·rintro _ _ ⟨s498, v497, rfl, m0, h425, h30, h32, h26, h22, h21, h10, h11, h12, bx13, rfl, rfl⟩
     refine L.as Y R R (LN (E.reg (L.mv Y R R (L.mv Y R R ?_))))
     obtain ⟨b499, eb499, hm⟩ := bindS hm
     refine L.cut 13 (fun e w => ∃ (s501 : Sig) (v500 : Bool), b499 = v500 ∧ Mv (Up N No) s s501 ∧ RdL rB s501 a425 c425 r422 ∧ RowT qI s501 (N + 2) 3 a30 c30 st165.2.1 ∧ RowT (rL qI) s501 (N + 3) 27 a32 c32 st165.2.2 ∧ RdL (rL qI) s501 a26 c26 r23.1 ∧ RdL qI s501 a22 c22 r18.2.1 ∧ RdL (rL qI) s501 a21 c21 r18.1 ∧ RdL qI s501 a10 c10 r7.1 ∧ RdL qI s501 a11 c11 r7.2.2.1 ∧ RdL qT s501 a12 c12 r7.2.2.2 ∧ Bx s501 (N + 1) b13 #[.slice a10 r7.1.length c10, .int .i64 r7.2.1, .slice a11 r7.2.2.1.length c11, .slice a12 r7.2.2.2.length c12] 30 ∧ e = (93, .bool v500) :: [(13, .bool b496), (15, .int .i64 st467.1), (12, .slice a425 r422.length c425), (11, .int .i64 st165.1), (10, .slice a30 st165.2.1.length c30), (9, .slice a32 st165.2.2.length c32), (7, .slice a26 r23.1.length c26), (5, .slice a22 r18.2.1.length c22), (4, .slice a21 r18.1.length c21), (3, .pointer (some ⟨b13, 0, none⟩))] ∧ w = s501.w) ?_ ?_
     ·rintro _ _ ⟨s501, v500, rfl, m0, h425, h30, h32, h26, h22, h21, h10, h11, h12, bx13, rfl, rfl⟩
      exact L.as Y R R (L.nil (X.blkN (X.seqN (E.reg (L.mv Y R R (L.bi Y R R R R (L.as Y R R (L.nil (X.sub (ih467 _ (oi hm).symm _ _ ⟨s501, m0, h425, h30, h32, h26, h22, h21, h10, h11, h12, bx13, R, R⟩) (Sub.rf R))))))))))
     intro J502
     rcases ifS eb499 with ⟨hc, hm⟩ | ⟨hc, hm⟩
     ·exact L.know (d := 80) R hc (L.skip R R R R (L.skip R R R R (L.skip R R R R (L.skip R R R R (L.skip R R R R (L.skip R R R R (L.skip R R R R (L.skipU R R R (L.skipU R R R (L.skipU R R R (L.skipU R R R (L.skip R R R R (L.pkT Y R R R R (L.sb (J502 _ _ ⟨s498, true, (oi hm).symm, m0, h425, h30, h32, h26, h22, h21, h10, h11, h12, bx13, R, R⟩) R))))))))))))))
     refine L.know (d := 80) R hc (L.mv (Wt.mk R R) R R (L.mv (Wt.mk R R) R R ?_))
     obtain ⟨x503, ex503, hm⟩ := bindS hm
     refine L.ix (r := (rL qI)) sl46 h26 (Wt.mk R R) R R ex503 R fun b504 o504 cc504 me504 rd504 => ?_
     obtain ⟨a505, c505, rfl, h505⟩ := rd504
     refine L.ld (j := 0) me504 nag27 (Wt.mk R R) R R R R (L.mv (Wt.mk R R) R R ?_)
     obtain ⟨r506, er506, hm⟩ := bindS hm
     refine L.ca cf25 R R (Wt.mk R R) R (m_overseerlaw24_has_c (s := s498) (p0 := x503) (p1 := st467.1) h505 er506) R ?_
     rintro _ s507 m508 rfl
     replace m0 := m0.trans m508.no
     replace h21 := h21.mono m508.z
     replace h22 := h22.mono m508.z
     replace h26 := h26.mono m508.z
     replace h32 := h32.mv m508 no_No no_No
     replace h30 := h30.mv m508 no_No no_No
     replace h425 := h425.mono m508.z
     replace bx13 := bx13.mv m508 no_No
     replace h10 := h10.mono m508.z
     replace h11 := h11.mono m508.z
     replace h12 := h12.mono m508.z
     refine L.mv (Wt.mk R R) R R ?_
     obtain ⟨b509, eb509, hm⟩ := bindS hm
     refine L.cut 5 (fun e w => ∃ (s511 : Sig) (v510 : Bool), b509 = v510 ∧ Mv (Up N No) s s511 ∧ RdL rB s511 a425 c425 r422 ∧ RowT qI s511 (N + 2) 3 a30 c30 st165.2.1 ∧ RowT (rL qI) s511 (N + 3) 27 a32 c32 st165.2.2 ∧ RdL (rL qI) s511 a26 c26 r23.1 ∧ RdL qI s511 a22 c22 r18.2.1 ∧ RdL (rL qI) s511 a21 c21 r18.1 ∧ RdL qI s511 a10 c10 r7.1 ∧ RdL qI s511 a11 c11 r7.2.2.1 ∧ RdL qT s511 a12 c12 r7.2.2.2 ∧ Bx s511 (N + 1) b13 #[.slice a10 r7.1.length c10, .int .i64 r7.2.1, .slice a11 r7.2.2.1.length c11, .slice a12 r7.2.2.2.length c12] 30 ∧ e = (92, .bool v510) :: [(80, .bool false), (13, .bool b496), (15, .int .i64 st467.1), (12, .slice a425 r422.length c425), (11, .int .i64 st165.1), (10, .slice a30 st165.2.1.length c30), (9, .slice a32 st165.2.2.length c32), (7, .slice a26 r23.1.length c26), (5, .slice a22 r18.2.1.length c22), (4, .slice a21 r18.1.length c21), (3, .pointer (some ⟨b13, 0, none⟩))] ∧ w = s511.w) ?_ ?_
     ·rintro _ _ ⟨s511, v510, rfl, m0, h425, h30, h32, h26, h22, h21, h10, h11, h12, bx13, rfl, rfl⟩
      exact L.pkF Y R R R R (L.sb (J502 _ _ ⟨s511, b509, (oi hm).symm, m0, h425, h30, h32, h26, h22, h21, h10, h11, h12, bx13, R, R⟩) R)
     intro J512
     rcases ifS eb509 with ⟨hc, hm⟩ | ⟨hc, hm⟩
     ·refine L.know (d := 87) R hc (L.fa fa30_2 (Wt.mk R R) R R (L.ld (j := 2) bx13.mem nag27 (Wt.mk R R) R R R R (L.mv (Wt.mk R R) R R ?_)))
      obtain ⟨r513, er513, hm⟩ := bindS hm
      refine L.ca cf25 R R (Wt.mk R R) R (m_overseerlaw24_has_c (s := s507) (p0 := r7.2.2.1) (p1 := st467.1) h11 er513) R ?_
      rintro _ s514 m515 rfl
      replace m0 := m0.trans m515.no
      replace h21 := h21.mono m515.z
      replace h22 := h22.mono m515.z
      replace h26 := h26.mono m515.z
      replace h32 := h32.mv m515 no_No no_No
      replace h30 := h30.mv m515 no_No no_No
      replace h425 := h425.mono m515.z
      replace bx13 := bx13.mv m515 no_No
      replace h10 := h10.mono m515.z
      replace h11 := h11.mono m515.z
      replace h12 := h12.mono m515.z
      exact L.pkT (Wt.mk R R) R R R R (L.sb (J512 _ _ ⟨s514, r513, (oi hm).symm, m0, h425, h30, h32, h26, h22, h21, h10, h11, h12, bx13, R, R⟩) R)
     exact L.know (d := 87) R hc (L.skip R R R R (L.skip R R R R (L.skip R R R R (L.skip R R R R (L.pkF (Wt.mk R R) R R R R (L.sb (J512 _ _ ⟨s507, false, (oi hm).symm, m0, h425, h30, h32, h26, h22, h21, h10, h11, h12, bx13, R, R⟩) R))))))
    intro J516
    rcases ifS eb496 with ⟨hc, hm⟩ | ⟨hc, hm⟩
    ·refine L.know (d := 64) R hc (L.mv (Wt.mk R R) R R (L.mv (Wt.mk R R) R R ?_))
     obtain ⟨x517, ex517, hm⟩ := bindS hm
     refine L.ix (r := rB) sl55 h425 (Wt.mk R R) R R ex517 R fun b518 o518 cc518 me518 rd518 => ?_
     obtain rfl := rd518
     refine L.ld (j := 0) me518 nag4 (Wt.mk R R) R R R R (L.not (Wt.mk R R) R R (L.mv (Wt.mk R R) R R ?_))
     obtain ⟨b519, eb519, hm⟩ := bindS hm
     refine L.cut 7 (fun e w => ∃ (s521 : Sig) (v520 : Bool), b519 = v520 ∧ Mv (Up N No) s s521 ∧ RdL rB s521 a425 c425 r422 ∧ RowT qI s521 (N + 2) 3 a30 c30 st165.2.1 ∧ RowT (rL qI) s521 (N + 3) 27 a32 c32 st165.2.2 ∧ RdL (rL qI) s521 a26 c26 r23.1 ∧ RdL qI s521 a22 c22 r18.2.1 ∧ RdL (rL qI) s521 a21 c21 r18.1 ∧ RdL qI s521 a10 c10 r7.1 ∧ RdL qI s521 a11 c11 r7.2.2.1 ∧ RdL qT s521 a12 c12 r7.2.2.2 ∧ Bx s521 (N + 1) b13 #[.slice a10 r7.1.length c10, .int .i64 r7.2.1, .slice a11 r7.2.2.1.length c11, .slice a12 r7.2.2.2.length c12] 30 ∧ e = (77, .bool v520) :: [(64, .bool true), (15, .int .i64 st467.1), (14, .bool st467.2.1), (12, .slice a425 r422.length c425), (11, .int .i64 st165.1), (10, .slice a30 st165.2.1.length c30), (9, .slice a32 st165.2.2.length c32), (7, .slice a26 r23.1.length c26), (5, .slice a22 r18.2.1.length c22), (4, .slice a21 r18.1.length c21), (3, .pointer (some ⟨b13, 0, none⟩))] ∧ w = s521.w) ?_ ?_
     ·rintro _ _ ⟨s521, v520, rfl, m0, h425, h30, h32, h26, h22, h21, h10, h11, h12, bx13, rfl, rfl⟩
      exact L.pkT Y R R R R (L.sb (J516 _ _ ⟨s521, b519, (oi hm).symm, m0, h425, h30, h32, h26, h22, h21, h10, h11, h12, bx13, R, R⟩) R)
     intro J522
     rcases ifS eb519 with ⟨hc, hm⟩ | ⟨hc, hm⟩
     ·exact L.know (d := 70) R hc (L.skip R R R R (L.skip R R R R (L.skip R R R R (L.skip R R R R (L.skip R R R R (L.skip R R R R (L.pkT (Wt.mk R R) R R R R (L.sb (J522 _ _ ⟨s470, true, (oi hm).symm, m0, h425, h30, h32, h26, h22, h21, h10, h11, h12, bx13, R, R⟩) R))))))))
     refine L.know (d := 70) R hc (L.mv (Wt.mk R R) R R (L.mv (Wt.mk R R) R R ?_))
     obtain ⟨x523, ex523, hm⟩ := bindS hm
     refine L.ix (r := (rL qI)) sl46 h26 (Wt.mk R R) R R ex523 R fun b524 o524 cc524 me524 rd524 => ?_
     obtain ⟨a525, c525, rfl, h525⟩ := rd524
     refine L.ld (j := 0) me524 nag27 (Wt.mk R R) R R R R (L.mv (Wt.mk R R) R R ?_)
     obtain ⟨r526, er526, hm⟩ := bindS hm
     refine L.ca cf25 R R (Wt.mk R R) R (m_overseerlaw24_has_c (s := s470) (p0 := x523) (p1 := st467.1) h525 er526) R ?_
     rintro _ s527 m528 rfl
     replace m0 := m0.trans m528.no
     replace h21 := h21.mono m528.z
     replace h22 := h22.mono m528.z
     replace h26 := h26.mono m528.z
     replace h32 := h32.mv m528 no_No no_No
     replace h30 := h30.mv m528 no_No no_No
     replace h425 := h425.mono m528.z
     replace bx13 := bx13.mv m528 no_No
     replace h10 := h10.mono m528.z
     replace h11 := h11.mono m528.z
     replace h12 := h12.mono m528.z
     exact L.pkF (Wt.mk R R) R R R R (L.sb (J522 _ _ ⟨s527, r526, (oi hm).symm, m0, h425, h30, h32, h26, h22, h21, h10, h11, h12, bx13, R, R⟩) R)
    exact L.know (d := 64) R hc (L.skip R R R R (L.skip R R R R (L.skip R R R R (L.skip R R R R (L.skip R R R R (L.skip R R R R (L.skipU R R R (L.skipU R R R (L.skipU R R R (L.skipU R R R (L.skipU R R R (L.skipU R R R (L.skip R R R R (L.pkF Y R R R R (L.sb (J516 _ _ ⟨s470, false, (oi hm).symm, m0, h425, h30, h32, h26, h22, h21, h10, h11, h12, bx13, R, R⟩) R)))))))))))))))
   refine E.cF R hc (E.exit (X.seqX (X.seqX ?_)))
   have hx := ho467 _ (oi hm).symm
   subst hx
   exact X.sub (K495 _ _ ⟨s470, m0, h30, h32, h26, h22, h21, h10, h11, h12, bx13, R, R⟩) (Sub.rf R)
  refine E.cF R hc (E.exit (X.seqX (X.seqX ?_)))
  have hx := ho165 _ (oi hm).symm
  subst hx
  exact X.sub (K401 _ _ ⟨s170, a30, c30, a32, c32, m0, h30, h32, h22, h21, h10, h11, h12, bx13, R, R⟩) (Sub.rf R)
 intro J529
 rcases Bool.eq_false_or_eq_true (r18.2.2 != 0) with hc | hc
 ·exact L.know (d := 39) R hc (L.skip R R R R (L.skip R R R R (L.pkT Y R R R R (L.sb (J529 _ _ ⟨true, (orT hc).symm, R, R⟩) R))))
 exact L.know (d := 39) R hc (L.mv (Wt.mk R R) R R (L.bi (Wt.mk R R) R R R R (L.pkF Y R R R R (L.sb (J529 _ _ ⟨(r23.2 != 0), (orF hc).symm, R, R⟩) R))))

end Go.Proofs.YtfbapajcheammaaGreatDoor

namespace Go.Proofs.YtfbapajcheammaaGreatDoor

def edLt (x y : Ed) : Prop := x.f < y.f ∨ (x.f = y.f ∧ x.e < y.e)
def Sorted (es : List Ed) : Prop := es.Pairwise edLt
end Go.Proofs.YtfbapajcheammaaGreatDoor

namespace Go.Proofs.YtfbapajcheammaaGreatDoor

def ReachIn (es : List Ed) (tg : List Int) : Nat → Int → Prop
 | 0, s => s ∈ tg
 | k + 1, s => ∃ x ∈ es, x.f = s ∧ ReachIn es tg k x.t
end Go.Proofs.YtfbapajcheammaaGreatDoor

namespace Go.Proofs.YtfbapajcheammaaGreatDoor
open Go Go.RowKit
theorem W_of {x : Int} (h0 : -9223372036854775808 ≤ x) (h1 : x < 9223372036854775808) : W x = x := IntWalk.i64_in _ (by omega)
theorem W_nat {k : Nat} (h : k < 9223372036854775808) : W (k : Int) = k := W_of (by omega) (by omega)
theorem idx_at {α : Type} {xs : List α} {i : Nat} (h : i < xs.length) : idx xs (i : Int) = some xs[i] := by rw [idx_nat, List.getElem?_eq_getElem h]
theorem iter_of {S O : Type} {f : S → Option (S ⊕ O)} {s : S} {o : O} {n : Nat} (hn : n ≤ 18446744073709551616) (h : iterF f n s = some o) : iter f s = some o := by
 have mono : ∀ (n m : Nat) (s : S), n ≤ m → iterF f n s = some o → iterF f m s = some o := by
  intro n
  induction n with
  | zero => intro m s _ h; cases h
  | succ n ih =>
   intro m s hm h
   obtain ⟨k, rfl⟩ : ∃ k, m = k + 1 := ⟨m - 1, by omega⟩
   rw [iterF_succ] at h ⊢
   split at h
   ·cases h
   ·rename_i h1; exact ih k _ (by omega) h
   ·rename_i h1; exact h
 exact mono n _ s hn h

theorem iter_inv {S O : Type} {f : S → Option (S ⊕ O)} (P : Nat → S → Prop) (Q : O → Prop) : ∀ (n i : Nat), n < i + 18446744073709551616 → (∀ i s, i < n → P i s → (∃ s', f s = some (.inl s') ∧ P (i + 1) s') ∨ ∃ o, f s = some (.inr o) ∧ Q o) → (∀ s, P n s → ∃ o, f s = some (.inr o) ∧ Q o) → i ≤ n →
  ∀ s, P i s → ∃ o, iter f s = some o ∧ Q o := by
 have key : ∀ (n : Nat), (∀ i s, i < n → P i s → (∃ s', f s = some (.inl s') ∧ P (i + 1) s') ∨ ∃ o, f s = some (.inr o) ∧ Q o) → (∀ s, P n s → ∃ o, f s = some (.inr o) ∧ Q o) → ∀ (j i : Nat), i + j = n → ∀ s, P i s → ∃ o, iterF f (j + 1) s = some o ∧ Q o := by
  intro n step fin j
  induction j with
  | zero =>
   intro i hi s h
   obtain rfl : i = n := by omega
   obtain ⟨o, h1, h2⟩ := fin s h
   exact ⟨o, by rw [iterF_succ, h1], h2⟩
  | succ j ih =>
   intro i hi s h
   rcases step i s (by omega) h with ⟨s', h1, h2⟩ | ⟨o, h1, h2⟩
   ·obtain ⟨o, h3, h4⟩ := ih (i + 1) (by omega) s' h2
    exact ⟨o, by rw [iterF_succ, h1]; exact h3, h4⟩
   ·exact ⟨o, by rw [iterF_succ, h1], h2⟩
 intro n i hn step fin hi s h
 obtain ⟨o, h1, h2⟩ := key n step fin (n - i) i (by omega) s h
 exact ⟨o, iter_of (by omega) h1, h2⟩
theorem nxt {i : Nat} (h : i < 4611686018427387904) : W ((i : Int) + 1) = ((i + 1 : Nat) : Int) := by rw [show (i : Int) + 1 = ((i + 1 : Nat) : Int) by omega, W_nat (by omega)]
theorem ct_lt {i n : Nat} (h : i < n) : decide ((i : Int) < (n : Int)) = true := by simp; omega
theorem ct_ge {n : Nat} : ¬ decide ((n : Int) < (n : Int)) = true := by simp
theorem upd_at {α : Type} {xs : List α} {i : Nat} {y : α} (h : i < xs.length) : upd xs (i : Int) y = some (xs.set i y) := by
 unfold upd
 rw [if_pos ⟨by omega, by omega⟩, Int.toNat_natCast]
def errO (e : Int) : Unit ⊕ Int := if e = 0 then .inl () else .inr e
theorem checkSet_go {xs : List Int} {n : Int} (hl : xs.length < 4611686018427387904) : ∀ (j i : Nat), i + j = xs.length →
  iterF (m_automaton_checkSet_l1 xs n) (j + 1) (i : Int) = some (errO (setErr n (prevAt xs i) (xs.drop i))) := by
 intro j
 induction j with
 | zero =>
  intro i hi
  have e : xs.drop i = [] := List.drop_of_length_le (by omega)
  rw [iterF_succ, m_automaton_checkSet_l1, if_neg (by simp; omega), e]
  rfl
 | succ j ih =>
  intro i hi
  have hlt : i < xs.length := by omega
  rw [iterF_succ, m_automaton_checkSet_l1, if_pos (by simp; omega), idx_at hlt, Option.bind_some]
  by_cases h1 : xs[i] < 0 ∨ n ≤ xs[i]
  ·rw [if_pos (by simpa using h1), setErr_2 hlt h1]
   rfl
  ·rw [if_neg (by simpa using h1)]
   by_cases h0 : 0 < i
   ·rw [if_pos (by simp; omega), show (i : Int) - 1 = ((i - 1 : Nat) : Int) by omega, W_nat (by omega), idx_at (show i - 1 < xs.length by omega), Option.bind_some, Option.bind_some]
    by_cases h2 : xs[i] ≤ xs[i - 1]
    ·rw [if_pos (by simpa using h2), setErr_5 hlt h1 h0 h2]
     rfl
    ·rw [if_neg (by simpa using h2), show (i : Int) + 1 = ((i + 1 : Nat) : Int) by omega, W_nat (by omega), setErr_next hlt h1 (fun _ => by omega)]
     exact ih (i + 1) (by omega)
   ·rw [if_neg (by simp; omega), Option.bind_some, if_neg (by simp), show (i : Int) + 1 = ((i + 1 : Nat) : Int) by omega, W_nat (by omega), setErr_next hlt h1 (fun h => absurd h h0)]
    exact ih (i + 1) (by omega)
theorem checkSet_eq {xs : List Int} {n : Int} (hl : xs.length < 4611686018427387904) : m_automaton_checkSet xs n = some (setErr n none xs) := by
 have h : iter (m_automaton_checkSet_l1 xs n) 0 = some (errO (setErr n none xs)) := iter_of (by omega) (checkSet_go (n := n) hl xs.length 0 (by omega))
 rw [m_automaton_checkSet, h, Option.bind_some]
 by_cases h0 : setErr n none xs = 0
 ·rw [h0]; rfl
 ·rw [errO, if_neg h0]
theorem index_go {xs : List Int} {x : Int} (hl : xs.length < 4611686018427387904) : ∀ (j i : Nat), i + j = xs.length →
  ∃ o, iterF (m_slices_Index_int_l1 xs x) (j + 1) (i : Int) = some o ∧ ((o = .inl () ∧ x ∉ xs.drop i) ∨ ∃ k : Nat, i ≤ k ∧ o = .inr (k : Int) ∧ x ∈ xs.drop i) := by
 intro j
 induction j with
 | zero =>
  intro i hi
  have e : xs.drop i = [] := List.drop_of_length_le (by omega)
  refine ⟨.inl (), ?_, .inl ⟨rfl, by rw [e]; simp⟩⟩
  rw [iterF_succ, m_slices_Index_int_l1, if_neg (by simp; omega)]
 | succ j ih =>
  intro i hi
  have hlt : i < xs.length := by omega
  rw [iterF_succ, m_slices_Index_int_l1, if_pos (by simp; omega), idx_at hlt, Option.bind_some]
  by_cases h1 : x = xs[i]
  ·rw [if_pos (by simpa using h1)]
   exact ⟨_, rfl, .inr ⟨i, Nat.le_refl _, rfl, by rw [List.drop_eq_getElem_cons hlt, h1]; exact List.mem_cons_self⟩⟩
  ·rw [if_neg (by simpa using h1), show (i : Int) + 1 = ((i + 1 : Nat) : Int) by omega, W_nat (by omega)]
   obtain ⟨o, h2, h3⟩ := ih (i + 1) (by omega)
   refine ⟨o, h2, ?_⟩
   rw [List.drop_eq_getElem_cons hlt]
   rcases h3 with ⟨h4, h5⟩ | ⟨k, h4, h5, h6⟩
   ·exact .inl ⟨h4, fun hc => (List.mem_cons.1 hc).elim h1 h5⟩
   ·exact .inr ⟨k, by omega, h5, List.mem_cons_of_mem _ h6⟩
theorem contains_eq {xs : List Int} {x : Int} (hl : xs.length < 4611686018427387904) : m_slices_Contains_int xs x = some (hasB xs x) := by
 obtain ⟨o, h1, h2⟩ := index_go (x := x) hl xs.length 0 (by omega)
 have h : iter (m_slices_Index_int_l1 xs x) 0 = some o := iter_of (by omega) h1
 rw [m_slices_Contains_int, m_slices_Index_int, h, Option.bind_some]
 rcases h2 with ⟨rfl, h4⟩ | ⟨k, _, rfl, h4⟩
 ·rw [hasB_false.2 (by simpa using h4)]; rfl
 ·rw [hasB_true.2 (by simpa using h4)]
  show some (decide ((k : Int) ≥ 0)) = some true
  simp
def edP (x : Ed) : Int × Int × Int := (x.f, x.e, x.t)
def autP (a : Aut) : List Int × Int × List Int × List (Int × Int × Int) := (a.al, a.n, a.ms, a.es.map edP)
def prevE (es : List Ed) (k : Nat) : Option Ed := if k = 0 then none else es[k - 1]?
theorem edErr_dropP {al : List Int} {n : Int} {es : List Ed} {k : Nat} (hk : k < es.length) : edErr al n (prevE es k) (es.drop k) =
  if (es[k].f < 0 ∨ n ≤ es[k].f ∨ es[k].t < 0 ∨ n ≤ es[k].t) then 2 else if hasB al es[k].e = false then 9 else if (∃ q, prevE es k = some q ∧ (es[k].f < q.f ∨ (es[k].f = q.f ∧ es[k].e ≤ q.e))) then 5 else edErr al n (prevE es (k + 1)) (es.drop (k + 1)) := by
 rw [List.drop_eq_getElem_cons hk, edErr]
 congr 3
 simp [prevE, List.getElem?_eq_getElem hk]
theorem edges_go {a : Aut} (hl : a.es.length < 4611686018427387904) (hal : a.al.length < 4611686018427387904) : ∀ (j i : Nat), i + j = a.es.length →
  iterF (m_automaton_checkEdges_l1 (autP a)) (j + 1) (i : Int) = some (errO (edErr a.al a.n (prevE a.es i) (a.es.drop i))) := by
 have hlen : (autP a).2.2.2.length = a.es.length := by simp [autP]
 have hat : ∀ (i : Nat) (h : i < a.es.length), idx (autP a).2.2.2 (i : Int) = some (edP a.es[i]) := fun i h => by
  rw [idx_at (by rw [hlen]; exact h)]; simp [autP]
 intro j
 induction j with
 | zero =>
  intro i hi
  have e : a.es.drop i = [] := List.drop_of_length_le (by omega)
  rw [iterF_succ, m_automaton_checkEdges_l1, if_neg (by rw [hlen]; simp; omega), e]
  rfl
 | succ j ih =>
  intro i hi
  have hlt : i < a.es.length := by omega
  have hnext : m_automaton_checkEdges_j1 (i : Int) = some (.inl ((i + 1 : Nat) : Int)) := by
   rw [m_automaton_checkEdges_j1, show (i : Int) + 1 = ((i + 1 : Nat) : Int) by omega, W_nat (by omega)]
  rw [iterF_succ, m_automaton_checkEdges_l1, if_pos (by rw [hlen]; simp; omega), hat i hlt, Option.bind_some, edErr_dropP hlt]
  by_cases h1 : a.es[i].f < 0 ∨ a.n ≤ a.es[i].f ∨ a.es[i].t < 0 ∨ a.n ≤ a.es[i].t
  ·rw [if_pos (by simp only [Bool.or_eq_true, decide_eq_true_eq]; show ((a.es[i].f < 0 ∨ a.es[i].f ≥ a.n) ∨ a.es[i].t < 0) ∨ a.es[i].t ≥ a.n; omega), if_pos h1]
   rfl
  ·rw [if_neg (by simp only [Bool.or_eq_true, decide_eq_true_eq]; show ¬ (((a.es[i].f < 0 ∨ a.es[i].f ≥ a.n) ∨ a.es[i].t < 0) ∨ a.es[i].t ≥ a.n); omega), if_neg h1]
   rw [show m_slices_Contains_int (autP a).1 (edP a.es[i]).2.1 = some (hasB a.al a.es[i].e) from contains_eq hal, Option.bind_some]
   cases h2 : hasB a.al a.es[i].e with
   | false => rfl
   | true =>
    rw [if_neg (show ¬ (!true) = true by simp), if_neg (show ¬ (true = false) by simp)]
    by_cases h0 : i = 0
    ·subst h0
     rw [if_pos (by simp), hnext, if_neg (by rintro ⟨q, hq, _⟩; simp [prevE] at hq)]
     exact ih 1 (by omega)
    ·have hp : prevE a.es i = some a.es[i - 1] := by rw [prevE, if_neg h0, List.getElem?_eq_getElem (by omega)]
     rw [if_neg (by simp; omega), show (i : Int) - 1 = ((i - 1 : Nat) : Int) by omega, W_nat (by omega), hat (i - 1) (by omega), Option.bind_some]
     by_cases h3 : a.es[i].f < a.es[i - 1].f ∨ (a.es[i].f = a.es[i - 1].f ∧ a.es[i].e ≤ a.es[i - 1].e)
     ·rw [if_pos (by simp only [Bool.or_eq_true, Bool.and_eq_true, decide_eq_true_eq, beq_iff_eq]; exact h3), if_pos ⟨_, hp, h3⟩]
      rfl
     ·rw [if_neg (by simp only [Bool.or_eq_true, Bool.and_eq_true, decide_eq_true_eq, beq_iff_eq]; exact h3), hnext, if_neg (by rintro ⟨q, hq, h4⟩; rw [hp] at hq; cases hq; exact h3 h4)]
      exact ih (i + 1) (by omega)
theorem check_eq {a : Aut} (hl : a.es.length < 4611686018427387904) (hal : a.al.length < 4611686018427387904) (hms : a.ms.length < 4611686018427387904) : m_automaton_Check (autP a) = some a.err := by
 have h : iter (m_automaton_checkEdges_l1 (autP a)) 0 = some (errO (edErr a.al a.n none a.es)) := iter_of (by omega) (edges_go hl hal a.es.length 0 (by omega))
 have he : m_automaton_checkEdges (autP a) = some (edErr a.al a.n none a.es) := by
  rw [m_automaton_checkEdges, h, Option.bind_some]
  by_cases h0 : edErr a.al a.n none a.es = 0
  ·rw [h0]; rfl
  ·rw [errO, if_neg h0]
 rw [m_automaton_Check, show m_automaton_checkSet (autP a).1 32 = some (setErr 32 none a.al) from checkSet_eq hal, Option.bind_some, Aut.err]
 by_cases h1 : (setErr 32 none a.al != 0) = true
 ·rw [if_pos h1, if_pos h1]
 ·rw [if_neg h1, if_neg h1]
  by_cases h2 : a.n < 0
  ·rw [if_pos (show decide ((autP a).2.1 < 0) = true from decide_eq_true h2), if_pos h2]
  ·rw [if_neg (show ¬ decide ((autP a).2.1 < 0) = true from fun e => h2 (of_decide_eq_true e)), if_neg h2]
   by_cases h3 : 4096 < a.n
   ·rw [if_pos (show decide ((autP a).2.1 > 4096) = true from decide_eq_true h3), if_pos h3]
   ·rw [if_neg (show ¬ decide ((autP a).2.1 > 4096) = true from fun e => h3 (of_decide_eq_true e)), if_neg h3, show m_automaton_checkSet (autP a).2.2.1 (autP a).2.1 = some (setErr a.n none a.ms) from checkSet_eq hms, Option.bind_some]
    by_cases h4 : (setErr a.n none a.ms != 0) = true
    ·rw [if_pos h4, if_pos h4]
    ·rw [if_neg h4, if_neg h4, he]
     rfl
abbrev Inc (xs : List Int) : Prop := xs.Pairwise (· < ·)
theorem setErr_ok {n : Int} : ∀ {p : Option Int} {xs : List Int}, xs.Pairwise (· < ·) → (∀ x ∈ xs, 0 ≤ x ∧ x < n) → (∀ q, p = some q → ∀ x ∈ xs, q < x) → setErr n p xs = 0
 | _, [], _, _, _ => rfl
 | p, x :: xs, h, hr, hp => by
  obtain ⟨h1, h2⟩ := List.pairwise_cons.1 h
  have h3 := hr x (List.mem_cons_self ..)
  rw [setErr, if_neg (by omega), if_neg ?_]
  ·exact setErr_ok h2 (fun y hy => hr y (List.mem_cons_of_mem _ hy)) (fun q hq y hy => by cases hq; exact h1 y hy)
  ·rintro ⟨q, hq, hle⟩
   have := hp q hq x (List.mem_cons_self ..)
   omega
theorem edErr_ok {al : List Int} {n : Int} : ∀ {p : Option Ed} {es : List Ed}, Sorted es → (∀ x ∈ es, 0 ≤ x.f ∧ x.f < n ∧ 0 ≤ x.t ∧ x.t < n ∧ hasB al x.e = true) → (∀ q, p = some q → ∀ x ∈ es, edLt q x) → edErr al n p es = 0
 | _, [], _, _, _ => rfl
 | p, x :: xs, h, hr, hp => by
  obtain ⟨h1, h2⟩ := List.pairwise_cons.1 h
  have h3 := hr x (List.mem_cons_self ..)
  rw [edErr, if_neg (by omega), if_neg (by rw [h3.2.2.2.2]; simp), if_neg ?_]
  ·exact edErr_ok h2 (fun y hy => hr y (List.mem_cons_of_mem _ hy)) (fun q hq y hy => by cases hq; exact h1 y hy)
  ·rintro ⟨q, hq, hle⟩
   have := hp q hq x (List.mem_cons_self ..)
   unfold edLt at this
   omega

theorem autP_toAut (a : AutT) : autP (toAut a) = a := by
 obtain ⟨x, y, z, es⟩ := a
 simp only [autP, toAut, List.map_map]
 rw [show (edP ∘ toEd) = id from rfl, List.map_id]
structure Right (a : AutT) (n : Nat) : Prop where
 nn : a.2.1 = (n : Int)
 nl : n ≤ 4096
 ali : Inc a.1
 alr : ∀ x ∈ a.1, 0 ≤ x ∧ x < 32
 msi : Inc a.2.2.1
 msr : ∀ x ∈ a.2.2.1, 0 ≤ x ∧ x < (n : Int)
 es : ∀ x ∈ a.2.2.2, 0 ≤ x.1 ∧ x.1 < (n : Int) ∧ 0 ≤ x.2.2 ∧ x.2.2 < (n : Int) ∧ x.2.1 ∈ a.1
 so : a.2.2.2.Pairwise fun x y => x.1 < y.1 ∨ (x.1 = y.1 ∧ x.2.1 < y.2.1)
 l1 : a.1.length ≤ 1000000
 l2 : a.2.2.1.length ≤ 1000000
 l3 : a.2.2.2.length ≤ 1000000
namespace Right
variable {a : AutT} {n : Nat}
theorem sorted (h : Right a n) : Sorted (a.2.2.2.map toEd) := by
 unfold Sorted
 rw [List.pairwise_map]
 exact h.so
theorem ein (h : Right a n) : ∀ x ∈ a.2.2.2.map toEd, 0 ≤ x.f ∧ x.f < (n : Int) ∧ 0 ≤ x.t ∧ x.t < (n : Int) := fun x hx => by
 obtain ⟨y, hy, rfl⟩ := List.mem_map.1 hx
 have := h.es y hy
 exact ⟨this.1, this.2.1, this.2.2.1, this.2.2.2.1⟩
theorem err (h : Right a n) : (toAut a).err = 0 := by
 have h1 : setErr 32 none (toAut a).al = 0 := setErr_ok h.ali h.alr (fun q hq => by cases hq)
 have hn : (toAut a).n = n := h.nn
 have h2 : setErr (toAut a).n none (toAut a).ms = 0 := by rw [hn]; exact setErr_ok h.msi h.msr (fun q hq => by cases hq)
 have h3 : edErr (toAut a).al (toAut a).n none (toAut a).es = 0 := by
  rw [hn]
  refine edErr_ok h.sorted (fun x hx => ?_) (fun q hq => by cases hq)
  obtain ⟨y, hy, rfl⟩ := List.mem_map.1 hx
  have := h.es y hy
  exact ⟨this.1, this.2.1, this.2.2.1, this.2.2.2.1, hasB_true.2 this.2.2.2.2⟩
 have := h.nl
 unfold Aut.err
 rw [h1, if_neg (by decide), if_neg (by rw [hn]; omega), if_neg (by rw [hn]; omega), h2, if_neg (by decide), h3]
theorem check (h : Right a n) : m_automaton_Check a = some 0 := by
 have h1 := h.l1
 have h2 := h.l2
 have h3 := h.l3
 have := check_eq (a := toAut a) (by simp [toAut]; omega) (by simp [toAut]; omega) (by simp [toAut]; omega)
 rwa [autP_toAut, h.err] at this
end Right
theorem inc_len {n : Nat} : ∀ {xs : List Int} {lo : Int}, Inc xs → (∀ x ∈ xs, lo ≤ x ∧ x < (n : Int)) → 0 ≤ lo → xs.length ≤ n - lo.toNat
 | [], _, _, _, _ => Nat.zero_le _
 | x :: xs, lo, h, hr, h0 => by
  obtain ⟨h1, h2⟩ := List.pairwise_cons.1 h
  have hx := hr x (List.mem_cons_self ..)
  have := inc_len (n := n) (lo := x + 1) h2 (fun y hy => ⟨by have := h1 y hy; omega, (hr y (List.mem_cons_of_mem _ hy)).2⟩) (by omega)
  rw [List.length_cons]
  omega
theorem nodup_len : ∀ (N : Nat) (l : List Nat), l.Nodup → (∀ x ∈ l, x < N) → l.length ≤ N
 | 0, [], _, _ => Nat.le_refl _
 | 0, x :: l, _, h => absurd (h x (List.mem_cons_self ..)) (by omega)
 | N + 1, l, hn, h => by
  by_cases hm : N ∈ l
  ·have h1 := nodup_len N (l.erase N) (hn.erase N) (fun x hx => by
    have h2 := (hn.mem_erase_iff).1 hx
    have := h x h2.2
    omega)
   rw [List.length_erase_of_mem hm] at h1
   omega
  ·have h1 := nodup_len N l hn (fun x hx => by
    have := h x hx
    have : x ≠ N := fun e => hm (e ▸ hx)
    omega)
   omega
def Rch (es : List Ed) (x y : Int) : Prop := ∃ k, ReachIn es [y] k x
theorem reachIn_iff {es : List Ed} {tg : List Int} : ∀ {k : Nat} {x : Int}, ReachIn es tg k x ↔ ∃ y ∈ tg, ReachIn es [y] k x
 | 0, x => by simp [ReachIn]
 | k + 1, x => by
  constructor
  ·rintro ⟨e, he, h1, h2⟩
   obtain ⟨y, hy, h3⟩ := reachIn_iff.1 h2
   exact ⟨y, hy, e, he, h1, h3⟩
  ·rintro ⟨y, hy, e, he, h1, h2⟩
   exact ⟨e, he, h1, reachIn_iff.2 ⟨y, hy, h2⟩⟩
theorem ReachIn.snoc {es : List Ed} : ∀ {k : Nat} {x : Int} {e : Ed}, e ∈ es → ReachIn es [e.f] k x → ReachIn es [e.t] (k + 1) x
 | 0, x, e, he, h => ⟨e, he, (List.mem_singleton.1 h).symm, List.mem_singleton.2 rfl⟩
 | k + 1, x, e, he, ⟨y, hy, h1, h2⟩ => ⟨y, hy, h1, h2.snoc he⟩
theorem Rch.refl (es : List Ed) (x : Int) : Rch es x x := ⟨0, List.mem_singleton.2 rfl⟩
theorem Rch.snoc {es : List Ed} {x : Int} {e : Ed} (he : e ∈ es) (h : Rch es x e.f) : Rch es x e.t := by
 obtain ⟨k, h⟩ := h
 exact ⟨k + 1, h.snoc he⟩
theorem reachIn_closed {es : List Ed} {S : Int → Prop} (hS : ∀ e ∈ es, S e.f → S e.t) {y : Int} : ∀ {k : Nat} {x : Int}, S x → ReachIn es [y] k x → S y
 | 0, x, h, h1 => by rw [← List.mem_singleton.1 h1]; exact h
 | k + 1, x, h, ⟨e, he, h1, h2⟩ => reachIn_closed hS (hS e he (h1 ▸ h)) h2
theorem Rch.closed {es : List Ed} {S : Int → Prop} (hS : ∀ e ∈ es, S e.f → S e.t) {x y : Int} (h : S x) (hr : Rch es x y) : S y := by
 obtain ⟨k, hr⟩ := hr
 exact reachIn_closed hS h hr
structure FQ (p : AutT) (n : Nat) (x : Int) (i : Nat) (F : List Bool) (L : List Int) : Prop where
 len : F.length = n
 nd : L.Nodup
 mem : ∀ y ∈ L, 0 ≤ y ∧ y < (n : Int) ∧ Rch (p.2.2.2.map toEd) x y
 tr : ∀ y : Nat, y < n → (F[y]? = some true ↔ (y : Int) ∈ L)
 st : x ∈ L
 done : ∀ j (h : j < L.length), j < i → ∀ e ∈ p.2.2.2, e.1 = L[j] → e.2.2 ∈ L
section
variable {p : AutT} {n : Nat} {x : Int} {i : Nat} {F : List Bool} {L : List Int}
theorem FQ.le (h : FQ p n x i F L) : L.length ≤ n := by
 have := nodup_len n (L.map Int.toNat) ?_ ?_
 ·rwa [List.length_map] at this
 ·rw [List.Nodup, List.pairwise_map]
  refine List.Pairwise.imp_of_mem (fun {a b} ha hb hab e => hab ?_) h.nd
  have h1 := h.mem a ha
  have h2 := h.mem b hb
  omega
 ·intro y hy
  obtain ⟨z, hz, rfl⟩ := List.mem_map.1 hy
  have := h.mem z hz
  omega
theorem FQ.push (h : FQ p n x i F L) {y : Nat} (hy : y < n) (hn : (y : Int) ∉ L) (hr : Rch (p.2.2.2.map toEd) x y) (hi : i ≤ L.length) : FQ p n x i (F.set y true) (L ++ [(y : Int)]) := by
 have hl := h.len
 refine ⟨by rw [List.length_set]; exact hl, ?_, fun z hz => ?_, fun z hz => ?_, List.mem_append_left _ h.st, fun j hj hji e he h1 => ?_⟩
 ·rw [List.nodup_append]
  refine ⟨h.nd, by simp, fun a ha b hb => ?_⟩
  rw [List.mem_singleton.1 hb]
  exact fun e => hn (e ▸ ha)
 ·rcases List.mem_append.1 hz with hz | hz
  ·exact h.mem z hz
  ·rw [List.mem_singleton.1 hz]; exact ⟨by omega, by omega, hr⟩
 ·by_cases e : y = z
  ·subst e
   rw [List.getElem?_set_self (by omega)]
   exact ⟨fun _ => List.mem_append_right _ (List.mem_singleton.2 rfl), fun _ => rfl⟩
  ·rw [List.getElem?_set_ne e, h.tr z hz, List.mem_append, List.mem_singleton]
   exact ⟨.inl, fun h => h.resolve_right (by omega)⟩
 ·rw [List.getElem_append_left (by omega)] at h1
  exact List.mem_append_left _ (h.done j (by omega) hji e he h1)
end
theorem from_inner {p : AutT} {n : Nat} (hR : Right p n) {x : Int} {i : Nat} {F : List Bool} {L : List Int} (h : FQ p n x i F L) (hi : i < L.length) :
  ∃ F' L', iter (m_overseerlaw24_from_l2 p ((i : Int), F, L)) (0, F, L) = some (F', L') ∧ FQ p n x (i + 1) F' L' ∧ i < L'.length := by
 have hl3 := hR.l3
 have hnl := hR.nl
 obtain ⟨c, hc⟩ : ∃ c, L[i]? = some c := ⟨_, List.getElem?_eq_getElem hi⟩
 obtain ⟨o, h1, h2⟩ := iter_inv (f := m_overseerlaw24_from_l2 p ((i : Int), F, L)) (fun k s => k ≤ p.2.2.2.length ∧ s.1 = (k : Int) ∧ FQ p n x i s.2.1 s.2.2 ∧ s.2.2[i]? = some c ∧ ∀ e ∈ p.2.2.2.take k, e.1 = c → e.2.2 ∈ s.2.2) (fun o => FQ p n x (i + 1) o.1 o.2 ∧ i < o.2.length) p.2.2.2.length 0 (by omega) (fun k s hk ⟨_, e1, g1, g2, g3⟩ => by
   obtain ⟨k', F, L⟩ := s
   dsimp only at e1 g1 g2 g3
   subst e1
   obtain ⟨hiL, hiE⟩ := List.getElem?_eq_some_iff.1 g2
   have hLn := g1.le
   have hx := hR.es _ (List.getElem_mem hk)
   obtain ⟨y, hy⟩ := Int.eq_ofNat_of_zero_le hx.2.2.1
   have hyn : y < n := by omega
   have hyF : y < F.length := by rw [g1.len]; exact hyn
   have hj1 : ∀ u v, m_overseerlaw24_from_j1 ((k : Int), F, L) u v = some (.inl (((k + 1 : Nat) : Int), v, u)) := fun u v => by
    rw [m_overseerlaw24_from_j1]; dsimp only; rw [nxt (by omega)]
   have htr := g1.tr y hyn
   rw [List.getElem?_eq_getElem hyF] at htr
   have hts : ∀ e ∈ p.2.2.2.take (k + 1), e ∈ p.2.2.2.take k ∨ e = p.2.2.2[k] := fun e he => by
    rw [take_snoc p.2.2.2 k hk] at he
    rcases List.mem_append.1 he with he | he
    ·exact .inl he
    ·exact .inr (List.mem_singleton.1 he)
   left
   rw [m_overseerlaw24_from_l2]
   dsimp only
   rw [if_pos (ct_lt hk), idx_at hk, Option.bind_some, Option.bind_some, idx_at hiL, Option.bind_some]
   by_cases hf : p.2.2.2[k].1 = L[i]
   ·rw [if_pos (by simpa using hf), hy, idx_at hyF, Option.bind_some, m_overseerlaw24_from_j2]
    by_cases hb : F[y] = true
    ·rw [if_neg (by simp [hb])]
     dsimp only
     rw [hj1]
     refine ⟨_, rfl, by omega, rfl, g1, g2, fun e he h1 => ?_⟩
     rcases hts e he with he | he
     ·exact g3 e he h1
     ·rw [he, hy]; exact htr.1 (by rw [hb])
    ·have hnL : (y : Int) ∉ L := fun hm => hb (by have := htr.2 hm; simpa using this)
     rw [if_pos (by simp [hb])]
     dsimp only
     rw [hy, idx_at hyF, Option.bind_some, upd_at hyF, Option.bind_some, app_eq (by simp; omega), Option.bind_some, hj1]
     have hrch : Rch (p.2.2.2.map toEd) x y := by
      have := Rch.snoc (es := p.2.2.2.map toEd) (x := x) (e := toEd p.2.2.2[k]) (List.mem_map.2 ⟨_, List.getElem_mem hk, rfl⟩) (by
       show Rch _ x p.2.2.2[k].1
       rw [hf]; exact (g1.mem _ (List.getElem_mem hiL)).2.2)
      rw [← hy]; exact this
     refine ⟨_, rfl, by omega, rfl, g1.push hyn hnL hrch (by omega), ?_, fun e he h1 => ?_⟩
     ·dsimp only; rw [List.getElem?_append_left hiL]; exact g2
     ·rcases hts e he with he | he
      ·exact List.mem_append_left _ (g3 e he h1)
      ·rw [he, hy]; exact List.mem_append_right _ (List.mem_singleton.2 rfl)
   ·rw [if_neg (by simpa using hf), m_overseerlaw24_from_j2, if_neg (by simp)]
    dsimp only
    rw [hj1]
    refine ⟨_, rfl, by omega, rfl, g1, g2, fun e he h1 => ?_⟩
    rcases hts e he with he | he
    ·exact g3 e he h1
    ·rw [he, ← hiE] at h1; exact absurd h1 hf) (fun s ⟨_, e1, g1, g2, g3⟩ => by
   obtain ⟨k', F, L⟩ := s
   dsimp only at e1 g1 g2 g3
   subst e1
   obtain ⟨hiL, hiE⟩ := List.getElem?_eq_some_iff.1 g2
   refine ⟨(F, L), ?_, ⟨g1.len, g1.nd, g1.mem, g1.tr, g1.st, fun j hj hji e he h1 => ?_⟩, hiL⟩
   ·rw [m_overseerlaw24_from_l2]
    dsimp only
    rw [if_neg ct_ge]
   ·by_cases e : j < i
    ·exact g1.done j hj e _ he h1
    ·have : j = i := by omega
     subst this
     rw [List.take_length] at g3
     exact g3 _ he (h1.trans hiE)) (Nat.zero_le _) (0, F, L) ⟨Nat.zero_le _, rfl, h, hc, fun e he => by simp at he⟩
 exact ⟨o.1, o.2, h1, h2.1, h2.2⟩
theorem from_ex {p : AutT} {n : Nat} (hR : Right p n) {x : Nat} (hx : x < n) : ∃ F, m_overseerlaw24_from p (x : Int) = some F ∧ F.length = n ∧ ∀ y : Nat, y < n → (F[y]? = some true ↔ Rch (p.2.2.2.map toEd) x y) := by
 have hnl := hR.nl
 have h0 : FQ p n (x : Int) 0 ((List.replicate n false).set x true) [(x : Int)] := by
  refine ⟨by simp, by simp, fun y hy => ?_, fun y hy => ?_, List.mem_singleton.2 rfl, fun j hj hji => absurd hji (by omega)⟩
  ·rw [List.mem_singleton.1 hy]; exact ⟨by omega, by omega, Rch.refl _ _⟩
  ·rw [List.mem_singleton]
   by_cases e : x = y
   ·subst e; rw [List.getElem?_set_self (by simpa using hx)]; simp
   ·rw [List.getElem?_set_ne e, List.getElem?_replicate, if_pos hy]
    simp; omega
 obtain ⟨o, h1, h2⟩ := iter_inv (f := m_overseerlaw24_from_l1 p) (fun i s => s.1 = (i : Int) ∧ FQ p n x i s.2.1 s.2.2 ∧ i ≤ s.2.2.length) (fun F => ∃ L, FQ p n x L.length F L) n 0 (by omega) (fun i s _ ⟨e1, g1, g2⟩ => by
   obtain ⟨k, F, L⟩ := s
   dsimp only at e1 g1 g2
   subst e1
   have hle := g1.le
   by_cases hi : i < L.length
   ·obtain ⟨F', L', g3, g4, g5⟩ := from_inner hR g1 hi
    left
    rw [m_overseerlaw24_from_l1]
    dsimp only
    rw [if_pos (ct_lt hi), g3, Option.bind_some, nxt (by omega)]
    exact ⟨_, rfl, rfl, g4, g5⟩
   ·obtain rfl : i = L.length := by omega
    right
    refine ⟨F, ?_, L, g1⟩
    rw [m_overseerlaw24_from_l1]
    dsimp only
    rw [if_neg ct_ge]) (fun s ⟨e1, g1, g2⟩ => by
   obtain ⟨k, F, L⟩ := s
   dsimp only at e1 g1 g2
   subst e1
   have hle := g1.le
   obtain rfl : n = L.length := by omega
   refine ⟨F, ?_, L, g1⟩
   rw [m_overseerlaw24_from_l1]
   dsimp only
   rw [if_neg ct_ge]) (Nat.zero_le _) (0, (List.replicate n false).set x true, [(x : Int)]) ⟨rfl, h0, by simp⟩
 have hm : mkL p.2.1 false = some (List.replicate n false) := by unfold mkL; rw [hR.nn, if_pos ⟨by omega, by omega⟩, Int.toNat_natCast]
 have hxl : x < (List.replicate n false).length := by simpa using hx
 obtain ⟨L, h2⟩ := h2
 refine ⟨o, ?_, h2.len, fun y hy => ?_⟩
 ·rw [m_overseerlaw24_from, hm, Option.bind_some, idx_at hxl, Option.bind_some, upd_at hxl, Option.bind_some, h1]
  rfl
 ·rw [h2.tr y hy]
  refine ⟨fun hm => (h2.mem _ hm).2.2, fun hr => ?_⟩
  refine hr.closed (S := fun z => z ∈ L) (fun e he hf => ?_) h2.st
  obtain ⟨z, hz, rfl⟩ := List.mem_map.1 he
  obtain ⟨j, hj, hje⟩ := List.getElem_of_mem hf
  exact h2.done j hj hj z hz hje.symm
theorem find_loop {R : Type} {f : Int → Option (Int ⊕ (Unit ⊕ R))} (n : Nat) (hn : n ≤ 4000000) (b : Nat → Bool) (r : Nat → R) (step : ∀ i, i < n → f (i : Int) = if b i = true then some (.inr (.inr (r i))) else some (.inl ((i + 1 : Nat) : Int))) (last : f (n : Int) = some (.inr (.inl ()))) :
  ∃ o, iter f 0 = some o ∧ ((o = .inl () ∧ ∀ i, i < n → b i = false) ∨ ∃ i, i < n ∧ o = .inr (r i) ∧ b i = true ∧ ∀ j, j < i → b j = false) := by
 refine iter_inv (f := f) (fun i s => s = (i : Int) ∧ ∀ j, j < i → b j = false) _ n 0 (by omega) (fun i s hi ⟨e1, g1⟩ => ?_) (fun s ⟨e1, g1⟩ => ?_) (Nat.zero_le _) 0 ⟨rfl, fun j hj => absurd hj (by omega)⟩
 ·subst e1
  rw [step i hi]
  cases hb : b i with
  | true => exact .inr ⟨_, rfl, .inr ⟨i, hi, rfl, hb, g1⟩⟩
  | false =>
   refine .inl ⟨_, rfl, rfl, fun j hj => ?_⟩
   by_cases h : j < i
   ·exact g1 j h
   ·obtain rfl : j = i := by omega
    exact hb
 ·subst e1
  exact ⟨_, last, .inl ⟨rfl, g1⟩⟩
theorem lhas_eq {xs : List Int} {x : Int} (hl : xs.length ≤ 4000000) : m_overseerlaw24_has xs x = some (hasB xs x) := by
 obtain ⟨o, h1, h2⟩ := find_loop (f := m_overseerlaw24_has_l1 xs x) xs.length hl (fun i => xs.getD i 0 == x) (fun _ => ()) (fun i hi => by
   rw [m_overseerlaw24_has_l1, if_pos (ct_lt hi), idx_at hi, Option.bind_some, nxt (by omega), List.getD_eq_getElem?_getD, List.getElem?_eq_getElem hi]; rfl) (by rw [m_overseerlaw24_has_l1, if_neg ct_ge])
 rw [m_overseerlaw24_has, h1, Option.bind_some]
 rcases h2 with ⟨rfl, h3⟩ | ⟨i, hi, rfl, h3, _⟩
 ·rw [hasB_false.2]
  intro hm
  obtain ⟨k, hk, rfl⟩ := List.getElem_of_mem hm
  have := h3 k hk
  rw [List.getD_eq_getElem?_getD, List.getElem?_eq_getElem hk] at this
  simp at this
 ·rw [List.getD_eq_getElem?_getD, List.getElem?_eq_getElem hi] at h3
  rw [hasB_true.2]
  rw [← eq_of_beq h3]
  exact List.getElem_mem _
theorem meets_ex {F : List Bool} {ms : List Int} (hl : ms.length ≤ 4000000) (hr : ∀ y ∈ ms, 0 ≤ y ∧ y < (F.length : Int)) : ∃ b, m_overseerlaw24_meets F ms = some b ∧ (b = true ↔ ∃ y ∈ ms, F[y.toNat]? = some true) := by
 obtain ⟨o, h1, h2⟩ := find_loop (f := m_overseerlaw24_meets_l1 F ms) ms.length hl (fun i => F.getD (ms.getD i 0).toNat false) (fun _ => ()) (fun i hi => by
   have h0 := hr _ (List.getElem_mem hi)
   obtain ⟨y, hy⟩ := Int.eq_ofNat_of_zero_le h0.1
   have hyF : y < F.length := by omega
   rw [m_overseerlaw24_meets_l1, if_pos (ct_lt hi), idx_at hi, Option.bind_some, hy, idx_at hyF, Option.bind_some, nxt (by omega), List.getD_eq_getElem?_getD (l := ms), List.getElem?_eq_getElem hi, Option.getD_some, hy, Int.toNat_natCast, List.getD_eq_getElem?_getD, List.getElem?_eq_getElem hyF]; rfl) (by rw [m_overseerlaw24_meets_l1, if_neg ct_ge])
 have hg : ∀ (i : Nat) (hi : i < ms.length), (F.getD (ms.getD i 0).toNat false = true ↔ F[ms[i].toNat]? = some true) := fun i hi => by
  have h0 := hr _ (List.getElem_mem hi)
  have hyF : ms[i].toNat < F.length := by omega
  rw [List.getD_eq_getElem?_getD (l := ms), List.getElem?_eq_getElem hi, Option.getD_some, List.getD_eq_getElem?_getD, List.getElem?_eq_getElem hyF]
  simp
 rw [m_overseerlaw24_meets, h1, Option.bind_some]
 rcases h2 with ⟨rfl, h3⟩ | ⟨i, hi, rfl, h3, _⟩
 ·refine ⟨_, rfl, fun e => (by cases e), fun ⟨y, hy, hF⟩ => ?_⟩
  obtain ⟨k, hk, rfl⟩ := List.getElem_of_mem hy
  have := (hg k hk).2 hF
  rw [h3 k hk] at this
  exact this
 ·exact ⟨_, rfl, fun _ => ⟨_, List.getElem_mem hi, (hg i hi).1 h3⟩, fun _ => rfl⟩
def DeadS (p : AutT) (x : Int) : Prop := ∀ e ∈ p.2.2.2, e.1 ≠ x
theorem dead_ex {p : AutT} {x : Int} (hl : p.2.2.2.length ≤ 4000000) : ∃ b, m_overseerlaw24_dead p x = some b ∧ (b = true ↔ DeadS p x) := by
 obtain ⟨o, h1, h2⟩ := find_loop (f := m_overseerlaw24_dead_l1 p x) p.2.2.2.length hl (fun i => (p.2.2.2.getD i (0, 0, 0)).1 == x) (fun _ => ()) (fun i hi => by
   rw [m_overseerlaw24_dead_l1, if_pos (ct_lt hi), idx_at hi, Option.bind_some, nxt (by omega), List.getD_eq_getElem?_getD, List.getElem?_eq_getElem hi]; rfl) (by rw [m_overseerlaw24_dead_l1, if_neg ct_ge])
 rw [m_overseerlaw24_dead, h1, Option.bind_some]
 rcases h2 with ⟨rfl, h3⟩ | ⟨i, hi, rfl, h3, _⟩
 ·refine ⟨_, rfl, fun _ e he h => ?_, fun _ => rfl⟩
  obtain ⟨k, hk, rfl⟩ := List.getElem_of_mem he
  have := h3 k hk
  rw [List.getD_eq_getElem?_getD, List.getElem?_eq_getElem hk] at this
  simp [h] at this
 ·refine ⟨_, rfl, fun e => (by cases e), fun hd => ?_⟩
  rw [List.getD_eq_getElem?_getD, List.getElem?_eq_getElem hi] at h3
  exact absurd (eq_of_beq h3) (hd _ (List.getElem_mem hi))

abbrev edsOf (p : AutT) : List Ed := p.2.2.2.map toEd
def NoM (p : AutT) (x : Int) : Prop := ∀ k, ¬ ReachIn (edsOf p) p.2.2.1 k x
def KindIs (p : AutT) (x k : Int) : Prop :=
 (k = 1 ∧ x ∈ p.2.2.1) ∨ (k = 2 ∧ x ∉ p.2.2.1 ∧ ¬ NoM p x) ∨ (k = 3 ∧ NoM p x ∧ DeadS p x) ∨
 (k = 5 ∧ NoM p x ∧ ¬ DeadS p x ∧ ∃ y, Rch (edsOf p) x y ∧ DeadS p y) ∨ (k = 4 ∧ NoM p x ∧ ¬ DeadS p x ∧ ∀ y, Rch (edsOf p) x y → ¬ DeadS p y)
theorem NoM.not {p : AutT} {x : Int} (h : NoM p x) : x ∉ p.2.2.1 := fun hx => h 0 hx
theorem KindIs.block {p : AutT} {x k : Int} (h : KindIs p x k) : (3 ≤ k ∧ k ≤ 5) ↔ NoM p x := by
 have hn : NoM p x → x ∉ p.2.2.1 := NoM.not
 rcases h with ⟨rfl, h1⟩ | ⟨rfl, h1, h2⟩ | ⟨rfl, h1, h2⟩ | ⟨rfl, h1, h2, y, h3, h4⟩ | ⟨rfl, h1, h2, h3⟩
 ·exact ⟨fun h => by omega, fun h => absurd h1 (hn h)⟩
 ·exact ⟨fun h => by omega, fun h => absurd h h2⟩
 ·exact ⟨fun _ => h1, fun _ => by omega⟩
 ·exact ⟨fun _ => h1, fun _ => by omega⟩
 ·exact ⟨fun _ => h1, fun _ => by omega⟩
theorem noM_iff {p : AutT} {x : Int} : NoM p x ↔ ∀ y ∈ p.2.2.1, ¬ Rch (edsOf p) x y := by
 constructor
 ·rintro h y hy ⟨k, hk⟩
  exact h k (reachIn_iff.2 ⟨y, hy, hk⟩)
 ·intro h k hk
  obtain ⟨y, hy, h1⟩ := reachIn_iff.1 hk
  exact h y hy ⟨k, h1⟩
theorem Right.rch {p : AutT} {n : Nat} (hR : Right p n) {x y : Int} (h0 : 0 ≤ x ∧ x < (n : Int)) (h : Rch (edsOf p) x y) : 0 ≤ y ∧ y < (n : Int) :=
 h.closed (S := fun z => 0 ≤ z ∧ z < (n : Int)) (fun e he _ => (hR.ein e he).2.2) h0
theorem kind_ex {p : AutT} {n : Nat} (hR : Right p n) {x : Nat} (hx : x < n) : ∃ k, m_overseerlaw24_kind p (x : Int) = some k ∧ KindIs p x k := by
 have hnl := hR.nl
 have hl2 := hR.l2
 have hl3 := hR.l3
 obtain ⟨F, hF, hFl, hFr⟩ := from_ex hR hx
 have hrx : ∀ y, Rch (edsOf p) x y → 0 ≤ y ∧ y < (n : Int) := fun y => hR.rch ⟨by omega, by omega⟩
 obtain ⟨b, hb, hbi⟩ := meets_ex (F := F) (ms := p.2.2.1) (by omega) (fun y hy => by rw [hFl]; exact hR.msr y hy)
 obtain ⟨d, hd, hdi⟩ := dead_ex (p := p) (x := (x : Int)) (by omega)
 rw [m_overseerlaw24_kind, hF, Option.bind_some, lhas_eq (by omega), Option.bind_some]
 cases hm : hasB p.2.2.1 (x : Int) with
 | true =>
  rw [if_pos rfl]
  exact ⟨_, rfl, .inl ⟨rfl, hasB_true.1 hm⟩⟩
 | false =>
  have hm' := hasB_false.1 hm
  rw [if_neg (by simp), hb, Option.bind_some]
  cases b with
  | true =>
   rw [if_pos rfl]
   obtain ⟨y, hy, h1⟩ := hbi.1 rfl
   have h2 := hR.msr y hy
   have h3 := (hFr y.toNat (by omega)).1 h1
   rw [Int.toNat_of_nonneg h2.1] at h3
   exact ⟨_, rfl, .inr (.inl ⟨rfl, hm', fun h => noM_iff.1 h y hy h3⟩)⟩
  | false =>
   have hno : NoM p x := noM_iff.2 fun y hy hr => by
    have h2 := hR.msr y hy
    have h3 := (hFr y.toNat (by omega)).2 (by rw [Int.toNat_of_nonneg h2.1]; exact hr)
    have := hbi.2 ⟨y, hy, h3⟩
    cases this
   rw [if_neg (by simp), hd, Option.bind_some]
   cases d with
   | true =>
    rw [if_pos rfl]
    exact ⟨_, rfl, .inr (.inr (.inl ⟨rfl, hno, hdi.1 rfl⟩))⟩
   | false =>
    have hnd : ¬ DeadS p x := fun h => by have := hdi.2 h; cases this
    rw [if_neg (by simp)]
    have hdd : ∀ y : Int, ∃ b, m_overseerlaw24_dead p y = some b ∧ (b = true ↔ DeadS p y) := fun y => dead_ex (by omega)
    obtain ⟨o, h1, h2⟩ := find_loop (f := m_overseerlaw24_kind_l1 p F) n (by omega) (fun i => F.getD i false && (m_overseerlaw24_dead p (i : Int)).getD false) (fun _ => ()) (fun i hi => by
      obtain ⟨b, hb, _⟩ := hdd i
      have hiF : i < F.length := by omega
      rw [m_overseerlaw24_kind_l1, hR.nn, if_pos (ct_lt hi), idx_at hiF, Option.bind_some, hb, nxt (by omega), List.getD_eq_getElem?_getD, List.getElem?_eq_getElem hiF]
      simp only [Option.bind_some, Option.getD_some]
      cases F[i] <;> simp) (by rw [m_overseerlaw24_kind_l1, hR.nn, if_neg ct_ge])
    rw [h1, Option.bind_some]
    rcases h2 with ⟨rfl, h3⟩ | ⟨i, hi, rfl, h3, _⟩
    ·refine ⟨_, rfl, .inr (.inr (.inr (.inr ⟨rfl, hno, hnd, fun y hy hdy => ?_⟩)))⟩
     have hyn := hrx y hy
     have h4 := h3 y.toNat (by omega)
     obtain ⟨b, hb, hbi⟩ := hdd y
     have h5 := (hFr y.toNat (by omega)).2 (by rw [Int.toNat_of_nonneg hyn.1]; exact hy)
     rw [Int.toNat_of_nonneg hyn.1, hb, hbi.2 hdy, List.getD_eq_getElem?_getD, h5] at h4
     cases h4
    ·obtain ⟨b, hb, hbi⟩ := hdd i
     rw [hb, Bool.and_eq_true] at h3
     have hiF : i < F.length := by omega
     have h4 : F[i]? = some true := by
      have := h3.1
      rw [List.getD_eq_getElem?_getD, List.getElem?_eq_getElem hiF] at this
      rw [List.getElem?_eq_getElem hiF, ← this]; rfl
     exact ⟨_, rfl, .inr (.inr (.inr (.inl ⟨rfl, hno, hnd, i, (hFr i hi).1 h4, hbi.1 h3.2⟩)))⟩
abbrev Four := Int × Int × Int × Int
abbrev DesT := Int × Int × (Four × Four × Four × Four × Four × Four)
def desL (d : DesT) : List Int := [d.2.2.1.1, d.2.2.1.2.1, d.2.2.1.2.2.1, d.2.2.1.2.2.2, d.2.2.2.1.1, d.2.2.2.1.2.1, d.2.2.2.1.2.2.1, d.2.2.2.1.2.2.2, d.2.2.2.2.1.1, d.2.2.2.2.1.2.1, d.2.2.2.2.1.2.2.1, d.2.2.2.2.1.2.2.2, d.2.2.2.2.2.1.1, d.2.2.2.2.2.1.2.1, d.2.2.2.2.2.1.2.2.1, d.2.2.2.2.2.1.2.2.2, d.2.2.2.2.2.2.1.1, d.2.2.2.2.2.2.1.2.1, d.2.2.2.2.2.2.1.2.2.1, d.2.2.2.2.2.2.1.2.2.2, d.2.2.2.2.2.2.2.1, d.2.2.2.2.2.2.2.2.1, d.2.2.2.2.2.2.2.2.2.1, d.2.2.2.2.2.2.2.2.2.2]
structure ME (n : Nat) (i j : Nat) (E : List (Int × Int × Int)) : Prop where
 er : ∀ x ∈ E, 0 ≤ x.1 ∧ x.1 ≤ (i : Int) ∧ 0 ≤ x.2.1 ∧ x.2.1 < 4 ∧ 0 ≤ x.2.2 ∧ x.2.2 < (n : Int)
 es : ∀ x ∈ E, x.1 = (i : Int) → x.2.1 < (j : Int)
 so : E.Pairwise fun x y => x.1 < y.1 ∨ (x.1 = y.1 ∧ x.2.1 < y.2.1)
 el : E.length ≤ 4 * i + j
theorem ME.push {n i j : Nat} {E : List (Int × Int × Int)} {q : Int} (h : ME n i j E) (hj : j < 4) (h0 : 0 ≤ q) (h1 : q < (n : Int)) : ME n i (j + 1) (E ++ [((i : Int), (j : Int), q)]) := by
 refine ⟨fun x hx => ?_, fun x hx e => ?_, ?_, by have := h.el; rw [List.length_append, List.length_singleton]; omega⟩
 ·rcases List.mem_append.1 hx with hx | hx
  ·exact h.er x hx
  ·rw [List.mem_singleton.1 hx]; exact ⟨by dsimp only; omega, by dsimp only; omega, by dsimp only; omega, by dsimp only; omega, h0, h1⟩
 ·rcases List.mem_append.1 hx with hx | hx
  ·have := h.es x hx e; omega
  ·rw [List.mem_singleton.1 hx]; dsimp only; omega
 ·rw [List.pairwise_append]
  refine ⟨h.so, List.pairwise_singleton _ _, fun a ha b hb => ?_⟩
  rw [List.mem_singleton.1 hb]
  have h2 := h.er a ha
  by_cases e : a.1 = (i : Int)
  ·exact .inr ⟨e, h.es a ha e⟩
  ·exact .inl (by dsimp only; omega)
theorem ME.skip {n i j : Nat} {E : List (Int × Int × Int)} (h : ME n i j E) : ME n i (j + 1) E := ⟨h.er, fun x hx e => by have := h.es x hx e; omega, h.so, by have := h.el; omega⟩
theorem ME.next {n i : Nat} {E : List (Int × Int × Int)} (h : ME n i 4 E) : ME n (i + 1) 0 E := ⟨fun x hx => by have := h.er x hx; omega, fun x hx e => by have := h.er x hx; omega, h.so, by have := h.el; omega⟩
theorem make_inner {d : DesT} {n i : Nat} (hn : W (1 + W (d.1.tmod 6)) = (n : Int)) (hi : i < 6) {M : List Int} {E : List (Int × Int × Int)} (hE : ME n i 0 E) : ∃ E', iter (m_overseerlaw04_Make_l2 d ((i : Int), M, E)) (0, E) = some E' ∧ ME n i 4 E' := by
 refine iter_inv (f := m_overseerlaw04_Make_l2 d ((i : Int), M, E)) (fun j s => s.1 = (j : Int) ∧ ME n i j s.2) (fun o => ME n i 4 o) 4 0 (by omega) (fun j s hj ⟨e1, g1⟩ => ?_) (fun s ⟨e1, g1⟩ => ?_) (Nat.zero_le _) (0, E) ⟨rfl, hE⟩
 ·obtain ⟨k, E⟩ := s
  dsimp only at e1 g1
  subst e1
  have hj2 : ∀ u, m_overseerlaw04_Make_j2 ((j : Int), E) u = some (.inl (((j + 1 : Nat) : Int), u)) := fun u => by
   rw [m_overseerlaw04_Make_j2]; dsimp only; rw [nxt (by omega)]
  left
  rw [m_overseerlaw04_Make_l2]
  dsimp only
  rw [if_pos (by simp; omega), show rng (i : Int) 6 = some () by unfold rng; rw [if_pos (by simp; omega)], Option.bind_some, show rng (j : Int) 4 = some () by unfold rng; rw [if_pos (by simp; omega)], Option.bind_some]
  obtain ⟨x, hx⟩ : ∃ x, (desL d)[(i : Int).toNat * 4 + (j : Int).toNat * 1]? = some x := ⟨_, List.getElem?_eq_getElem (by simp [desL]; omega)⟩
  unfold desL at hx
  rw [hx, Option.bind_some, hn]
  have hx1 : -7 < x.tmod 7 := Int.lt_tmod_of_pos x (by omega)
  have hx2 : x.tmod 7 < 7 := Int.tmod_lt_of_pos x (by omega)
  rw [W_of (x := x.tmod 7) (by omega) (by omega), W_of (x := x.tmod 7 - 1) (by omega) (by omega)]
  have hel := g1.el
  by_cases hc : 0 ≤ x.tmod 7 - 1 ∧ x.tmod 7 - 1 < (n : Int)
  ·rw [if_pos (by simp; omega), app_eq (by simp; omega), Option.bind_some, hj2]
   exact ⟨_, rfl, rfl, g1.push hj hc.1 hc.2⟩
  ·rw [if_neg (by simp; omega), hj2]
   exact ⟨_, rfl, rfl, g1.skip⟩
 ·obtain ⟨k, E⟩ := s
  dsimp only at e1 g1
  subst e1
  refine ⟨E, ?_, g1⟩
  rw [m_overseerlaw04_Make_l2]
  dsimp only
  rw [if_neg (by simp)]
theorem make_ex {d : DesT} (h0 : 0 ≤ d.1) : ∃ a n, m_overseerlaw04_Make d = some a ∧ 1 ≤ n ∧ n ≤ 6 ∧ Right a n ∧ a.1 = [0, 1, 2, 3] ∧ a.2.2.2.length ≤ 24 := by
 have ht0 := Int.tmod_nonneg 6 h0
 have ht1 : d.1.tmod 6 < 6 := Int.tmod_lt_of_pos d.1 (by omega)
 obtain ⟨n, hn⟩ : ∃ n : Nat, 1 + d.1.tmod 6 = (n : Int) := ⟨(1 + d.1.tmod 6).toNat, by omega⟩
 have hW : W (1 + W (d.1.tmod 6)) = (n : Int) := by rw [W_of (x := d.1.tmod 6) (by omega) (by omega), W_of (by omega) (by omega), hn]
 obtain ⟨o, h1, h2⟩ := iter_inv (f := m_overseerlaw04_Make_l1 d) (fun i s => i ≤ n ∧ s.1 = (i : Int) ∧ Inc s.2.1 ∧ (∀ x ∈ s.2.1, 0 ≤ x ∧ x < (i : Int)) ∧ ME n i 0 s.2.2) (fun o => Inc o.1 ∧ (∀ x ∈ o.1, 0 ≤ x ∧ x < (n : Int)) ∧ ME n n 0 o.2) n 0 (by omega) (fun i s hi ⟨_, e1, g1, g2, g3⟩ => by
   obtain ⟨k, M, E⟩ := s
   dsimp only at e1 g1 g2 g3
   subst e1
   obtain ⟨E', g4, g5⟩ := make_inner (M := M) hW (show i < 6 by omega) g3
   have hMl := inc_len (n := i) (lo := 0) g1 g2 (Int.le_refl _)
   have hj1 : ∀ M', m_overseerlaw04_Make_j1 d ((i : Int), M, E) M' = some (.inl (((i + 1 : Nat) : Int), M', E')) := fun M' => by
    rw [m_overseerlaw04_Make_j1]; dsimp only; rw [g4, Option.bind_some, nxt (by omega)]
   left
   rw [m_overseerlaw04_Make_l1]
   dsimp only
   rw [hW, if_pos (ct_lt hi), show ng (i : Int) = some () from if_neg (by omega), Option.bind_some]
   split
   ·rw [app_eq (by simp; omega), Option.bind_some, hj1]
    refine ⟨_, rfl, by omega, rfl, ?_, fun x hx => ?_, g5.next⟩
    ·dsimp only
     unfold Inc at g1 ⊢
     rw [List.pairwise_append]
     exact ⟨g1, List.pairwise_singleton _ _, fun a ha b hb => by rw [List.mem_singleton.1 hb]; exact (g2 a ha).2⟩
    ·dsimp only at hx
     rcases List.mem_append.1 hx with hx | hx
     ·have := g2 x hx; omega
     ·rw [List.mem_singleton.1 hx]; omega
   ·rw [hj1]
    exact ⟨_, rfl, by omega, rfl, g1, fun x hx => by have := g2 x hx; omega, g5.next⟩) (fun s ⟨_, e1, g1, g2, g3⟩ => by
   obtain ⟨k, M, E⟩ := s
   dsimp only at e1 g1 g2 g3
   subst e1
   refine ⟨(M, E), ?_, g1, g2, g3⟩
   rw [m_overseerlaw04_Make_l1]
   dsimp only
   rw [hW, if_neg ct_ge]) (Nat.zero_le _) (0, [], []) ⟨Nat.zero_le _, rfl, List.Pairwise.nil, fun x hx => (by cases hx), fun x hx => (by cases hx), fun x hx => (by cases hx), List.Pairwise.nil, by simp⟩
 obtain ⟨g1, g2, g3⟩ := h2
 have hMl := inc_len (n := n) (lo := 0) g1 g2 (Int.le_refl _)
 have hel := g3.el
 refine ⟨([0, 1, 2, 3], (n : Int), o), n, by rw [m_overseerlaw04_Make, h1, hW]; rfl, by omega, by omega, ⟨rfl, by omega, ?_, ?_, g1, g2, fun x hx => ?_, g3.so, by simp, by dsimp only; omega, by dsimp only; omega⟩, rfl, by dsimp only; omega⟩
 ·dsimp only; unfold Inc; decide
 ·intro x hx
  have : x = 0 ∨ x = 1 ∨ x = 2 ∨ x = 3 := by simpa using hx
  omega
 ·have := g3.er x hx
  have h3 := g3.es x hx
  refine ⟨this.1, ?_, this.2.2.2.2.1, this.2.2.2.2.2, ?_⟩
  ·rcases Int.lt_or_le x.1 (n : Int) with h4 | h4
   ·exact h4
   ·have := h3 (by omega); omega
  ·show x.2.1 ∈ [0, 1, 2, 3]
   have h5 : x.2.1 = 0 ∨ x.2.1 = 1 ∨ x.2.1 = 2 ∨ x.2.1 = 3 := by omega
   rcases h5 with h | h | h | h <;> rw [h] <;> decide
theorem same_refl {xs : List Int} (hl : xs.length ≤ 4000000) : m_overseerlaw24_same xs xs = some true := by
 obtain ⟨o, h1, h2⟩ := find_loop (f := m_overseerlaw24_same_l1 xs xs) xs.length hl (fun _ => false) (fun _ => ()) (fun i hi => by
   rw [m_overseerlaw24_same_l1, if_pos (ct_lt hi), idx_at hi, Option.bind_some, Option.bind_some, if_neg (by simp), nxt (by omega)]; rfl) (by rw [m_overseerlaw24_same_l1, if_neg ct_ge])
 rw [m_overseerlaw24_same, if_neg (by simp), h1, Option.bind_some]
 rcases h2 with ⟨rfl, _⟩ | ⟨i, hi, rfl, h3, _⟩
 ·rfl
 ·cases h3
def Gd (fl : List Bool) (s : Int) : Prop := fl.getD s.toNat false = true
theorem mid_filter {α : Type} (q : α → Bool) : ∀ (xs : List α) (i j : Nat), i ≤ j → j ≤ xs.length → (∀ k (h : k < xs.length), q xs[k] = decide (i ≤ k ∧ k < j)) → (xs.take j).drop i = xs.filter q := by
 intro xs i j hij hj h
 have e1 : xs = xs.take i ++ ((xs.take j).drop i ++ xs.drop j) := by
  have h1 : (xs.take j).take i = xs.take i := by rw [List.take_take, Nat.min_eq_left hij]
  rw [← List.append_assoc, ← h1, List.take_append_drop, List.take_append_drop]
 have f1 : (xs.take i).filter q = [] := by
  refine List.filter_eq_nil_iff.2 fun x hx => ?_
  obtain ⟨k, hk, rfl⟩ := List.mem_iff_getElem.1 hx
  rw [List.length_take] at hk
  rw [List.getElem_take, h k (by omega)]
  simp; omega
 have f2 : ((xs.take j).drop i).filter q = (xs.take j).drop i := by
  refine List.filter_eq_self.2 fun x hx => ?_
  obtain ⟨k, hk, rfl⟩ := List.mem_iff_getElem.1 hx
  rw [List.length_drop, List.length_take] at hk
  rw [List.getElem_drop, List.getElem_take, h (i + k) (by omega)]
  simp; omega
 have f3 : (xs.drop j).filter q = [] := by
  refine List.filter_eq_nil_iff.2 fun x hx => ?_
  obtain ⟨k, hk, rfl⟩ := List.mem_iff_getElem.1 hx
  rw [List.length_drop] at hk
  rw [List.getElem_drop, h (j + k) (by omega)]
  simp
 conv => rhs; rw [e1]
 rw [List.filter_append, List.filter_append, f1, f2, f3]
 simp

theorem down_lt {α : Type} (p : α → Bool) : ∀ (xs : List α), (xs.Pairwise fun x y => p y = true → p x = true) → ∀ k (h : k < xs.length), p xs[k] = decide (k < xs.countP p)
 | [], _, k, h => by simp at h
 | x :: xs, hp, k, h => by
  rw [List.pairwise_cons] at hp
  cases hx : p x with
  | true =>
   rw [List.countP_cons_of_pos hx]
   cases k with
   | zero => simp [hx]
   | succ k =>
    rw [List.getElem_cons_succ, down_lt p xs hp.2 k (by simpa using h)]
    simp
  | false =>
   have h0 : xs.countP p = 0 := List.countP_eq_zero.2 fun y hy hpy => by have := hp.1 y hy hpy; rw [hx] at this; cases this
   rw [List.countP_cons_of_neg (by simp [hx]), h0]
   cases k with
   | zero => simp [hx]
   | succ k =>
    rw [List.getElem_cons_succ, down_lt p xs hp.2 k (by simpa using h), h0]
    simp
theorem countP_lt (i : Int) : ∀ es : List (Int × Int × Int), (es.countP fun x => decide (x.1 + 1 = i + 1)) + (es.countP fun x => decide (x.1 < i)) = es.countP fun x => decide (x.1 < i + 1)
 | [] => rfl
 | x :: es => by
  have := countP_lt i es
  simp only [List.countP_cons, decide_eq_true_eq]
  rcases Int.lt_trichotomy x.1 i with h | h | h
  ·rw [if_neg (by omega), if_pos h, if_pos (by omega)]; omega
  ·rw [if_pos (by omega), if_neg (by omega), if_pos (by omega)]; omega
  ·rw [if_neg (by omega), if_neg (by omega), if_neg (by omega)]; omega
structure FsOk (a : AutT) (n : Nat) (fs : List Int) (F : Nat → Nat) : Prop where
 len : fs.length = n + 1
 val : ∀ s (h : s < fs.length), fs[s] = (F s : Int)
 mono : ∀ q, q < n → F q ≤ F (q + 1) ∧ F (q + 1) ≤ a.2.2.2.length
 out : ∀ q, q < n → (a.2.2.2.take (F (q + 1))).drop (F q) = a.2.2.2.filter fun x => x.1 == (q : Int)
theorem newGraph_full {a : AutT} {n : Nat} (hr : Right a n) : ∃ fs F, m_reach_newGraph a = some (a, fs) ∧ FsOk a n fs F := by
 have hn := hr.nl
 have hl := hr.l3
 have hnn := hr.nn
 have hW : ∀ i : Nat, i ≤ n → W ((i : Int) + 1) = ((i + 1 : Nat) : Int) := fun i hi => nxt (by omega)
 obtain ⟨o, h1, ho, hv⟩ := iter_inv (f := m_reach_newGraph_l1 a) (fun i s => s.1 = (i : Int) ∧ s.2.length = n + 1 ∧ ∀ u (_ : u < s.2.length), s.2[u] = (((a.2.2.2.take i).countP fun x => decide (x.1 + 1 = (u : Int)) : Nat) : Int)) (fun o => o.length = n + 1 ∧ ∀ u (_ : u < o.length), o[u] = ((a.2.2.2.countP fun x => decide (x.1 + 1 = (u : Int)) : Nat) : Int)) a.2.2.2.length 0 (by omega) (fun i s hi ⟨e1, g1, g2⟩ => by
   obtain ⟨k, fs⟩ := s
   dsimp only at e1 g1 g2
   subst e1
   have hx := hr.es _ (List.getElem_mem hi)
   obtain ⟨f, hf⟩ : ∃ f : Nat, a.2.2.2[i].1 = f := ⟨a.2.2.2[i].1.toNat, by omega⟩
   have hfn : f < n := by omega
   have hc : ((a.2.2.2.take i).countP fun x => decide (x.1 + 1 = ((f + 1 : Nat) : Int))) ≤ i := Nat.le_trans List.countP_le_length (by rw [List.length_take]; omega)
   refine .inl ⟨(((i + 1 : Nat) : Int), fs.set (f + 1) (W (fs[f + 1]'(by omega) + 1))), ?_, rfl, by simp [g1], fun u hu => ?_⟩
   ·rw [m_reach_newGraph_l1]
    dsimp only
    rw [if_pos (ct_lt hi), idx_at hi, Option.bind_some, hf, hW f (by omega), idx_at (by omega), Option.bind_some, Option.bind_some, upd_at (by omega), Option.bind_some, nxt (by omega)]
   ·have hu2 : u < fs.length := by simpa using hu
    rw [List.take_succ_eq_append_getElem hi, List.countP_append, List.countP_singleton, hf]
    dsimp only
    rw [List.getElem_set]
    by_cases h : f + 1 = u
    ·subst h
     rw [if_pos rfl, g2, nxt (by omega), if_pos (by simp)]
    ·rw [if_neg h, g2, if_neg (by simp; omega)]
     rfl) (fun s ⟨e1, g1, g2⟩ => by
   obtain ⟨k, fs⟩ := s
   dsimp only at e1 g1 g2
   subst e1
   refine ⟨fs, ?_, g1, by rw [List.take_length] at g2; exact g2⟩
   rw [m_reach_newGraph_l1]
   dsimp only
   rw [if_neg ct_ge]) (Nat.zero_le _) (0, List.replicate (n + 1) 0) ⟨rfl, by simp, fun u hu => by simp⟩
 have hle : ∀ p : Int × Int × Int → Bool, a.2.2.2.countP p ≤ 1000000 := fun p => Nat.le_trans List.countP_le_length hl
 obtain ⟨o2, h2, ho2, hv2⟩ := iter_inv (f := m_reach_newGraph_l2 a) (fun i s => s.1 = (i : Int) ∧ s.2.length = n + 1 ∧ ∀ u (_ : u < s.2.length), s.2[u] = if u ≤ i then ((a.2.2.2.countP fun x => decide (x.1 < (u : Int)) : Nat) : Int) else ((a.2.2.2.countP fun x => decide (x.1 + 1 = (u : Int)) : Nat) : Int)) (fun o => o.length = n + 1 ∧ ∀ u (_ : u < o.length), o[u] = ((a.2.2.2.countP fun x => decide (x.1 < (u : Int)) : Nat) : Int)) n 0 (by omega) (fun i s hi ⟨e1, g1, g2⟩ => by
   obtain ⟨k, fs⟩ := s
   dsimp only at e1 g1 g2
   subst e1
   refine .inl ⟨(((i + 1 : Nat) : Int), fs.set (i + 1) (W (fs[i + 1]'(by omega) + fs[i]'(by omega)))), ?_, rfl, by simp [g1], fun u hu => ?_⟩
   ·rw [m_reach_newGraph_l2]
    dsimp only
    rw [hnn, if_pos (by simp; omega), hW i (by omega), idx_at (by omega), Option.bind_some, idx_at (by omega), Option.bind_some, Option.bind_some, upd_at (by omega), Option.bind_some]
   ·have hu2 : u < fs.length := by simpa using hu
    dsimp only
    rw [List.getElem_set]
    by_cases h : i + 1 = u
    ·subst h
     have e3 := countP_lt (i : Int) a.2.2.2
     have e4 := hle fun x => decide (x.1 < (i : Int) + 1)
     rw [if_pos rfl, if_pos (Nat.le_refl _), g2, g2, if_neg (by omega), if_pos (Nat.le_refl _), show ((i + 1 : Nat) : Int) = (i : Int) + 1 from rfl, W_of (by omega) (by omega)]
     omega
    ·rw [if_neg h, g2]
     by_cases h3 : u ≤ i
     ·rw [if_pos h3, if_pos (by omega)]
     ·rw [if_neg h3, if_neg (by omega)]) (fun s ⟨e1, g1, g2⟩ => by
   obtain ⟨k, fs⟩ := s
   dsimp only at e1 g1 g2
   subst e1
   refine ⟨fs, ?_, g1, fun u hu => by rw [g2 u hu, if_pos (by omega)]⟩
   rw [m_reach_newGraph_l2]
   dsimp only
   rw [hnn, if_neg (by simp)]) (Nat.zero_le _) (0, o) ⟨rfl, ho, fun u hu => by
   rw [hv u hu]
   by_cases h : u ≤ 0
   ·rw [if_pos h]
    obtain rfl : u = 0 := by omega
    rw [List.countP_eq_zero.2 fun x hx => by have := hr.es x hx; simp; omega, List.countP_eq_zero.2 fun x hx => by have := hr.es x hx; simp; omega]
   ·rw [if_neg h]⟩
 have hmono : ∀ q : Nat, (a.2.2.2.countP fun x => decide (x.1 < (q : Int))) ≤ a.2.2.2.countP fun x => decide (x.1 < ((q + 1 : Nat) : Int)) := fun q => by
  have e3 := countP_lt (q : Int) a.2.2.2
  rw [show ((q + 1 : Nat) : Int) = (q : Int) + 1 from rfl]; omega
 refine ⟨o2, fun s => a.2.2.2.countP fun x => decide (x.1 < (s : Int)), ?_, ho2, hv2, fun q _ => ⟨hmono q, List.countP_le_length⟩, fun q hq => ?_⟩
 ·rw [m_reach_newGraph, hnn, hW n (Nat.le_refl _), mkL_eq (by omega) (by omega), Option.bind_some, Int.toNat_natCast, h1, Option.bind_some, h2]
  rfl
 ·have hdn : ∀ (u : Nat) k (h : k < a.2.2.2.length), decide (a.2.2.2[k].1 < (u : Int)) = decide (k < a.2.2.2.countP fun x => decide (x.1 < (u : Int))) := fun u k h => down_lt (fun x => decide (x.1 < (u : Int))) a.2.2.2 (hr.so.imp fun {x y} hxy hy => by simp at hy ⊢; omega) k h
  exact mid_filter (fun x : Int × Int × Int => x.1 == (q : Int)) a.2.2.2 (a.2.2.2.countP fun x => decide (x.1 < (q : Int))) (a.2.2.2.countP fun x => decide (x.1 < ((q + 1 : Nat) : Int))) (hmono q) List.countP_le_length (fun k h => by
   have d1 := hdn q k h
   have d2 := hdn (q + 1) k h
   rw [decide_eq_decide] at d1 d2
   rw [Bool.eq_iff_iff, beq_iff_eq, decide_eq_true_eq]
   omega)
theorem rng_inv {S : Type} {f : Nat → S → Option S} (P : Nat → S → Prop) {N : Nat} (hs : ∀ k s, k < N → P k s → ∃ s', f k s = some s' ∧ P (k + 1) s') : ∀ (m k : Nat) (s : S), k + m = N → P k s → ∃ o, rngF f m k s = some o ∧ P N o
 | 0, k, s, e, h => ⟨s, rfl, by rw [← e]; exact h⟩
 | m + 1, k, s, e, h => by
  obtain ⟨s', h1, h2⟩ := hs k s (by omega) h
  obtain ⟨o, h3, h4⟩ := rng_inv P hs m (k + 1) s' (by omega) h2
  exact ⟨o, by rw [rngF, h1]; exact h3, h4⟩
end Go.Proofs.YtfbapajcheammaaGreatDoor

namespace Go.Proofs.YtfbapajcheammaaGreatDoor
open Go Go.RowKit Go.ChangeShapes Go.WideShapes Go.Deep

def Op (P : Program) {α : Type} (r : Rep α) (Q : α → Prop) (t : TypeId) : Prop :=
 ∀ (H : Type) (enc : TypeId × Value → H) (w : World) (fuel : Nat) (cs : List Value) (x : DataW H × List MemPlace), DataW.trod enc P w 0 (fun _ => true) true fuel t cs = some x → ∃ y : α, r.rd ⟨w, fun _ => 0⟩ cs y ∧ Q y
section
variable {P : Program} {α β : Type} {r : Rep α} {q : Rep β} {Q : α → Prop} {R : β → Prop} {t e : TypeId}
theorem op_agg {w : World} {base : Nat} {v : Value} {fs : Array Field} {ts : List TypeId} (ht : P.underlying t = some (.struct fs)) (hts : P.cellTypes P.depth t = some ts) (hsz : P.cellsOf t = ts.length) (hok : Value.okWide P w .any base t v) :
  ∃ cs, v = .agg cs ∧ cs.size = ts.length ∧ ∀ (i : Nat) (u : TypeId), ts[i]? = some u → ∃ c : Value, cs[i]? = some c ∧ Cell.okWide P w .any base u c := by
 simp only [Value.okWide, ht] at hok
 obtain ⟨cs, rfl, h1, ts', h2, h3, h4⟩ := hok
 rw [hts] at h2
 cases h2
 refine ⟨cs, rfl, by omega, fun i u hu => ?_⟩
 have hlt : i < ts.length := (List.getElem?_eq_some_iff.1 hu).1
 obtain ⟨u', g1, g2⟩ := h4 i cs[i] (Array.getElem?_eq_getElem (by omega))
 rw [Nat.mod_eq_of_lt hlt, hu] at g1
 cases g1
 exact ⟨_, Array.getElem?_eq_getElem (by omega), g2⟩
end
end Go.Proofs.YtfbapajcheammaaGreatDoor

namespace Go.Proofs.YtfbapajcheammaaGreatDoor
open Go Go.ChangeShapes Go.WideShapes Go.ChangeAt Go.RowKit Go.Deep

theorem Tryz.own : ownKnob Tryz.prog.godebug = none := by kernel_rfl
theorem Tryz.laidOut : laidOutB Tryz.prog = true := by kernel_rfl

section
variable {H : Type} {enc : TypeId × Value → H}
def carryB (P : Program) (ts : List TypeId) : Bool := ts.all fun t => P.readableRec t && decide (t < P.types.size)
theorem trodAll_carry {P : Program} (hl : laidOutB P = true) {W W' : World} (hb : Below W.heap.size W W') {sp : Nat → Bool} : ∀ {ts : List TypeId} {vs : List Value} {ds : List (DataW H)} {ps : List MemPlace}, carryB P ts = true →
  DataW.TrodAll enc P W 0 (fun _ => true) true ts vs ds ps → (∀ x ∈ ps, x.block < W.heap.size) → (∀ x ∈ ps, sp x.block = true) → DataW.TrodAll enc P W' 0 sp true ts vs ds ps
 | [], [], [], _, _, h, _, _ => h
 | [], _ :: _, _, _, _, h, _, _ => h.elim
 | [], [], _ :: _, _, _, h, _, _ => h.elim
 | t :: ts, [], _, _, _, h, _, _ => h.elim
 | t :: ts, _ :: _, [], _, _, h, _, _ => h.elim
 | t :: ts, v :: vs, d :: ds, ps, hc, ⟨p, q, h1, h2, e⟩, hlt, hsp => by
  subst e
  unfold carryB at hc
  rw [List.all_cons, Bool.and_eq_true, Bool.and_eq_true] at hc
  exact ⟨p, q, WideElems.Trod_stays hl hc.1.1 (of_decide_eq_true hc.1.2) h1 (fun x hx => hb.same (hlt x (List.mem_append_left _ hx))) (fun x hx => hsp x (List.mem_append_left _ hx)),
   trodAll_carry hl hb hc.2 h2 (fun x hx => hlt x (List.mem_append_right _ hx)) (fun x hx => hsp x (List.mem_append_right _ hx)), rfl⟩

theorem law_post {P : Program} (hl : laidOutB P = true) {f : Func} {s : ChangeSpec} {apart fresh handsOn again : Bool} {W W' : World} {args : Array Value} {ds : List (DataW H)} {before : List MemPlace} {tb : TypeId} {b : Bool}
  (hW : DataW.Whole enc P f.params.toList s.vars apart W args.toList ds [] before) (hv : s.vars = []) (hc : carryB P f.params.toList = true) (hrt : f.resultTypes = #[tb]) (ht : P.underlying tb = some .bool)
  (hr : (s.fn H (ds ++ [])).results = [.lit (.bool b)]) (ha : (s.fn H (ds ++ [])).args = ds) (hvn : (s.fn H (ds ++ [])).vars = []) (hb : Below W.heap.size W W') :
  s.post enc P f apart fresh handsOn again W args (.bool b) W' := by
 have hlt : ∀ p ∈ before, p.block < W.heap.size := fun p hp => hW.lt p hp
 have hWc := hW
 obtain ⟨p, q, hA, hV, rfl, hz, hn⟩ := hWc
 rw [hv] at hV
 obtain ⟨-, rfl⟩ := trodVars_none hV
 rw [List.append_nil] at hlt hz hn
 have hargs : ∀ sp : Nat → Bool, (∀ x ∈ p, sp x.block = true) → DataW.TrodAll enc P W' 0 sp true f.params.toList args.toList (s.fn H (ds ++ [])).args p := fun sp hsp => by
  rw [ha]; exact trodAll_carry hl hb hc hA hlt hsp
 have hres : ∀ (b0 : Nat) (sp : Nat → Bool) (hd : Bool), DataW.TrodAll enc P W' b0 sp hd f.resultTypes.toList ((Value.bool b).resultList f.resultTypes.size) (s.fn H (ds ++ [])).results [] := fun _ _ _ => by
  rw [hr, hrt]; exact trodAll_mk1 (shut_bool ht b)
 have hvars : ∀ sp : Nat → Bool, DataW.TrodVars enc P W' sp s.vars (s.fn H (ds ++ [])).vars [] := fun sp => by rw [hv, hvn]; rfl
 have hold : ∀ x ∈ p, (fun b => decide (b < W.heap.size)) x.block = true := fun x hx => by simpa using hlt x hx
 refine ⟨ds, [], p ++ [], [], p, [], hW, hres _ _ _, hargs _ hold, hvars _, World.keptBut_mono (fun x hx => ?_) (hb.frame (· ∈ p)), fun _ => ?_⟩
 ·exact ⟨by rwa [List.append_nil], Or.inr (.inl hx)⟩
 ·have hok := ok_one (f := f) (W' := W') (by rw [hrt]) rfl (okWide_bool_mk (W' := W') ht b)
  refine ⟨hok, _, _, ([] ++ p) ++ [], ⟨[] ++ p, [], trodAll_append (hargs _ (fun _ _ => rfl)) (hres _ _ _), hvars _, rfl, ?_, ?_⟩, ?_⟩
  ·intro b0 off hp
   have hin : MemPlace.cell b0 off ∈ p := by simpa using hp
   rw [hb.frozen (hlt _ hin)]
   exact hz b0 off hin
  ·intro hap
   simpa using hn hap
  ·intro x hx _
   simpa using hx
end

/-- A cell of a byte. -/
theorem cell_u8 {w : World} {r : Reach} {base : Nat} {v : Value} (h : Cell.okWide Tryz.prog w r base 5 v) : ∃ n : Int, v = .int .u8 n ∧ 0 ≤ n ∧ n < 256 := by
 simp only [Cell.okWide, Tryz.underlying5] at h
 cases v <;> simp_all [Cell.ok]
 rename_i k n
 obtain ⟨rfl, h2⟩ := h
 simp [IntKind.has, IntKind.min, IntKind.max, IntKind.signed, IntKind.bits] at h2
 omega

def lay24 : List (String × DataW Unit) := [("math/bits.deBruijn32tab", Rows.laid_math_bits_deBruijn32tab), ("math/bits.deBruijn64tab", Rows.laid_math_bits_deBruijn64tab), ("internal/strconv.uint64pow10", Rows.laid_internal_strconv_uint64pow10)]
theorem lay24_met (os : Os) (args : Array Value) : laidMetH Tryz.prog lay24 ((World.laidAll Tryz.prog os lay24).forCall (fun _ _ => 0) ⟨#[], args, []⟩).memory :=
 laidMetH_of_parts3 (fuel := 8) (laidMet_laidAll args (by kernel_rfl) (by kernel_rfl)) (by kernel_rfl) (by kernel_rfl)
section
variable {H : Type} {enc : TypeId × Value → H} {w : World} {base : Nat} {v : Value} {d : DataW H} {ps : List MemPlace}
def smT : List TypeId := List.replicate 26 5
theorem sm_types : Tryz.prog.cellTypes Tryz.prog.depth 25 = some smT := by kernel_rfl
theorem sm_cells : Tryz.prog.cellsOf 25 = smT.length := by kernel_rfl
theorem sm_at (i : Nat) (hi : i < 26) : smT[i]? = some 5 := by unfold smT; rw [List.getElem?_replicate, if_pos hi]
/-- A description. -/
theorem arg_small (hok : Value.okWide Tryz.prog w .any base 25 v) : ∃ p : DesT, 0 ≤ p.1 ∧ v = .agg #[.int .u8 p.1, .int .u8 p.2.1, .int .u8 p.2.2.1.1, .int .u8 p.2.2.1.2.1, .int .u8 p.2.2.1.2.2.1, .int .u8 p.2.2.1.2.2.2, .int .u8 p.2.2.2.1.1, .int .u8 p.2.2.2.1.2.1, .int .u8 p.2.2.2.1.2.2.1, .int .u8 p.2.2.2.1.2.2.2, .int .u8 p.2.2.2.2.1.1, .int .u8 p.2.2.2.2.1.2.1, .int .u8 p.2.2.2.2.1.2.2.1, .int .u8 p.2.2.2.2.1.2.2.2, .int .u8 p.2.2.2.2.2.1.1, .int .u8 p.2.2.2.2.2.1.2.1, .int .u8 p.2.2.2.2.2.1.2.2.1, .int .u8 p.2.2.2.2.2.1.2.2.2, .int .u8 p.2.2.2.2.2.2.1.1, .int .u8 p.2.2.2.2.2.2.1.2.1, .int .u8 p.2.2.2.2.2.2.1.2.2.1, .int .u8 p.2.2.2.2.2.2.1.2.2.2, .int .u8 p.2.2.2.2.2.2.2.1, .int .u8 p.2.2.2.2.2.2.2.2.1, .int .u8 p.2.2.2.2.2.2.2.2.2.1, .int .u8 p.2.2.2.2.2.2.2.2.2.2] := by
 obtain ⟨cs, rfl, h1, h2⟩ := op_agg Tryz.underlying25 sm_types sm_cells hok
 have h1' : cs.size = 26 := h1
 obtain ⟨f, hf⟩ := choose_lt (α := Int) (n := 26) (p := fun i n => cs[i]? = some (.int .u8 n) ∧ 0 ≤ n ∧ n < 256) (fun i hi => by
  obtain ⟨c, g1, g2⟩ := h2 i 5 (sm_at i hi)
  obtain ⟨n, rfl, g3⟩ := cell_u8 g2
  exact ⟨n, g1, g3⟩)
 have hcs : cs = ((List.range 26).map fun i => Value.int .u8 (f i)).toArray := by
  apply Array.ext_getElem?
  intro i
  by_cases hi : i < 26
  ·rw [(hf i hi).1]; simp [hi]
  ·rw [Array.getElem?_eq_none (by omega), Array.getElem?_eq_none (by simp; omega)]
 exact ⟨(f 0, f 1, ((f 2, f 3, f 4, f 5), (f 6, f 7, f 8, f 9), (f 10, f 11, f 12, f 13), (f 14, f 15, f 16, f 17), (f 18, f 19, f 20, f 21), (f 22, f 23, f 24, f 25))), (hf 0 (by omega)).2.1, by rw [hcs]; rfl⟩
end
end Go.Proofs.YtfbapajcheammaaGreatDoor

