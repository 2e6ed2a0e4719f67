/- Parts of the proof, without what nothing here names. -/
import Derived.Test.YtfbapajcheammaaDoorProg
import Derived.Test.YtfbapajcheammaaDoorQC5
namespace Go.Proofs.YtfbapajcheammaaDoor
open Go Go.RowKit
theorem cf25 : Cf Tryd.prog 25 := Cf.mk Tryd.func25 (by kernel_rfl) (by kernel_rfl)
theorem cf26 : Cf Tryd.prog 26 := Cf.mk Tryd.func26 (by kernel_rfl) (by kernel_rfl)
/-- What overseerlaw24.Known computes. -/
noncomputable def m_overseerlaw24_Known : Option Bool :=
  (m_overseerlaw24_known).bind fun r1 =>
  (if r1 then
    (m_overseerlaw04_Known).bind fun r8 =>
    some r8
  else
    some false).bind fun b4 =>
  some b4
set_option maxRecDepth 100000 in
set_option maxHeartbeats 8000000 in
theorem m_overseerlaw24_Known_c {s : Sig} {r : Bool} (hm : m_overseerlaw24_Known = some r) :
    Calls Tryd.prog 8 #[] s.w (RetS No s fun v s' => v = .bool r) := by
 unfold m_overseerlaw24_Known at hm
 obtain ⟨N, hN, hNb⟩ := s.fresh
 have m0 : Mv (Up N No) s s := Mv.refl _ _
 refine E.entry Tryd.func8 rfl Tryd.ntmps8 rfl rfl (E.seq (E.reg (L.as Wt.no rfl rfl (L.nil (X.seqN (E.seq (E.reg ?_)))))))
 obtain ⟨r1, er1, hm⟩ := bindS hm
 refine L.ca cf25 rfl rfl Wt.no rfl (m_overseerlaw24_known_c (s := s) er1) rfl ?_
 rintro _ s2 m3 rfl
 replace m0 := m0.trans m3.no
 refine L.mv Wt.no rfl rfl ?_
 obtain ⟨b4, eb4, hm⟩ := bindS hm
 refine L.cut 2 (fun e w => ∃ (s6 : Sig) (v5 : Bool), b4 = v5 ∧ Mv (Up N No) s s6 ∧ e = (4, .bool v5) :: [] ∧ w = s6.w) ?_ ?_
 ·rintro _ _ ⟨s6, v5, rfl, m0, rfl, rfl⟩
  refine L.as Wt.no rfl rfl (L.nil (X.seqN (E.ret ?_)))
  obtain rfl := Option.some.inj hm
  exact X.rt (.inl rfl) Tryd.results8 (Rs.tmp rfl Rs.nil) rfl ⟨_, (s6).ren N (fun _ => 0), rfl, rfl, m0.ren hNb, rfl⟩
 intro J7
 rcases ifS eb4 with ⟨hc, hm⟩ | ⟨hc, hm⟩
 ·refine L.know (d := 2) rfl hc ?_
  obtain ⟨r8, er8, hm⟩ := bindS hm
  refine L.ca cf26 rfl rfl (Wt.mk rfl rfl) rfl (m_overseerlaw04_Known_c (s := s2) er8) rfl ?_
  rintro _ s9 m10 rfl
  replace m0 := m0.trans m10.no
  exact L.pkT Wt.no rfl rfl rfl rfl (L.sb (J7 _ _ ⟨s9, r8, (Option.some.inj hm).symm, m0, rfl, rfl⟩) rfl)
 exact L.know (d := 2) rfl hc (L.skip rfl rfl rfl rfl (L.pkF Wt.no rfl rfl rfl rfl (L.sb (J7 _ _ ⟨s2, false, (Option.some.inj hm).symm, m0, rfl, rfl⟩) rfl)))

theorem fa25_0 : FA Tryd.prog 25 0 0 := FA.mk Tryd.underlying25 rfl rfl ⟨1, by decide, by kernel_rfl⟩
theorem fa25_1 : FA Tryd.prog 25 1 1 := FA.mk Tryd.underlying25 rfl rfl ⟨1, by decide, by kernel_rfl⟩
theorem fa25_2 : FA Tryd.prog 25 2 2 := FA.mk Tryd.underlying25 rfl rfl ⟨24, by decide, by kernel_rfl⟩
theorem ia22 : IA Tryd.prog 22 4 1 := IA.mk Tryd.underlying22 (by kernel_rfl)
theorem ia23 : IA Tryd.prog 23 6 4 := IA.mk Tryd.underlying23 (by kernel_rfl)
theorem nag5 : NAg Tryd.prog 5 := NAg.mk' Tryd.underlying5 rfl (by kernel_rfl)
noncomputable def m_overseerlaw04_Make_j2 (st128 : Int × (List (Int × Int × Int))) (l134 : List (Int × Int × Int)) : Option ((Int × (List (Int × Int × Int))) ⊕ (List (Int × Int × Int))) :=
  some (.inl (W (st128.1 + 1), l134))
noncomputable def m_overseerlaw04_Make_l2 (p0 : Int × Int × ((Int × Int × Int × Int) × (Int × Int × Int × Int) × (Int × Int × Int × Int) × (Int × Int × Int × Int) × (Int × Int × Int × Int) × (Int × Int × Int × Int))) (st90 : Int × List Int × (List (Int × Int × Int))) (st128 : Int × (List (Int × Int × Int))) : Option ((Int × (List (Int × Int × Int))) ⊕ (List (Int × Int × Int))) :=
  if decide (st128.1 < 4) then
    (rng st90.1 6).bind fun _ =>
    (rng st128.1 4).bind fun _ =>
    (([p0.2.2.1.1, p0.2.2.1.2.1, p0.2.2.1.2.2.1, p0.2.2.1.2.2.2, p0.2.2.2.1.1, p0.2.2.2.1.2.1, p0.2.2.2.1.2.2.1, p0.2.2.2.1.2.2.2, p0.2.2.2.2.1.1, p0.2.2.2.2.1.2.1, p0.2.2.2.2.1.2.2.1, p0.2.2.2.2.1.2.2.2, p0.2.2.2.2.2.1.1, p0.2.2.2.2.2.1.2.1, p0.2.2.2.2.2.1.2.2.1, p0.2.2.2.2.2.1.2.2.2, p0.2.2.2.2.2.2.1.1, p0.2.2.2.2.2.2.1.2.1, p0.2.2.2.2.2.2.1.2.2.1, p0.2.2.2.2.2.2.1.2.2.2, p0.2.2.2.2.2.2.2.1, p0.2.2.2.2.2.2.2.2.1, p0.2.2.2.2.2.2.2.2.2.1, p0.2.2.2.2.2.2.2.2.2.2] : List Int)[st90.1.toNat * 4 + st128.1.toNat * 1]?).bind fun x140 =>
    if ((decide ((W ((W (x140.tmod 7)) - 1)) ≥ 0)) && (decide ((W ((W (x140.tmod 7)) - 1)) < (W (1 + (W (p0.1.tmod 6))))))) then
      (app st128.2 ([(st90.1, st128.1, W ((W (x140.tmod 7)) - 1))] : List (Int × Int × Int))).bind fun x145 =>
      m_overseerlaw04_Make_j2 st128 x145
    else
      m_overseerlaw04_Make_j2 st128 st128.2
  else
    some (.inr st128.2)
noncomputable def m_overseerlaw04_Make_j1 (p0 : Int × Int × ((Int × Int × Int × Int) × (Int × Int × Int × Int) × (Int × Int × Int × Int) × (Int × Int × Int × Int) × (Int × Int × Int × Int) × (Int × Int × Int × Int))) (st90 : Int × List Int × (List (Int × Int × Int))) (l100 : List Int) : Option ((Int × List Int × (List (Int × Int × Int))) ⊕ (List Int × (List (Int × Int × Int)))) :=
  (iter (m_overseerlaw04_Make_l2 p0 st90) (0, st90.2.2)).bind fun o128 =>
  some (.inl (W (st90.1 + 1), l100, o128))
noncomputable def m_overseerlaw04_Make_l1 (p0 : Int × Int × ((Int × Int × Int × Int) × (Int × Int × Int × Int) × (Int × Int × Int × Int) × (Int × Int × Int × Int) × (Int × Int × Int × Int) × (Int × Int × Int × Int))) (st90 : Int × List Int × (List (Int × Int × Int))) : Option ((Int × List Int × (List (Int × Int × Int))) ⊕ (List Int × (List (Int × Int × Int)))) :=
  if decide (st90.1 < (W (1 + (W (p0.1.tmod 6))))) then
    (ng st90.1).bind fun _ =>
    if ((IntKind.u8.wrap (((BitVec.ofInt 8 (p0.2.1.fdiv (2 ^ (min st90.1.toNat 8))) &&& BitVec.ofInt 8 1).toNat : Int))) == 1) then
      (app st90.2.1 ([st90.1] : List Int)).bind fun x156 =>
      m_overseerlaw04_Make_j1 p0 st90 x156
    else
      m_overseerlaw04_Make_j1 p0 st90 st90.2.1
  else
    some (.inr st90.2)
/-- What overseerlaw04.Make computes. -/
noncomputable def m_overseerlaw04_Make (p0 : Int × Int × ((Int × Int × Int × Int) × (Int × Int × Int × Int) × (Int × Int × Int × Int) × (Int × Int × Int × Int) × (Int × Int × Int × Int) × (Int × Int × Int × Int))) : Option (List Int × Int × List Int × (List (Int × Int × Int))) :=
  (iter (m_overseerlaw04_Make_l1 p0) (0, ([] : List Int), ([] : List (Int × Int × Int)))).bind fun o90 =>
  some (([0, 1, 2, 3] : List Int), W (1 + (W (p0.1.tmod 6))), o90)
set_option maxRecDepth 100000 in
set_option maxHeartbeats 8000000 in
theorem m_overseerlaw04_Make_c {s : Sig} {p0 : Int × Int × ((Int × Int × Int × Int) × (Int × Int × Int × Int) × (Int × Int × Int × Int) × (Int × Int × Int × Int) × (Int × Int × Int × Int) × (Int × Int × Int × Int))} {u1 : Nat} {u2 : Nat} {r : (List Int × Int × List Int × (List (Int × Int × Int)))} (hm : m_overseerlaw04_Make p0 = some r) :
    Calls Tryd.prog 16 #[.agg #[.int .u8 p0.1, .int .u8 p0.2.1, .int .u8 p0.2.2.1.1, .int .u8 p0.2.2.1.2.1, .int .u8 p0.2.2.1.2.2.1, .int .u8 p0.2.2.1.2.2.2, .int .u8 p0.2.2.2.1.1, .int .u8 p0.2.2.2.1.2.1, .int .u8 p0.2.2.2.1.2.2.1, .int .u8 p0.2.2.2.1.2.2.2, .int .u8 p0.2.2.2.2.1.1, .int .u8 p0.2.2.2.2.1.2.1, .int .u8 p0.2.2.2.2.1.2.2.1, .int .u8 p0.2.2.2.2.1.2.2.2, .int .u8 p0.2.2.2.2.2.1.1, .int .u8 p0.2.2.2.2.2.1.2.1, .int .u8 p0.2.2.2.2.2.1.2.2.1, .int .u8 p0.2.2.2.2.2.1.2.2.2, .int .u8 p0.2.2.2.2.2.2.1.1, .int .u8 p0.2.2.2.2.2.2.1.2.1, .int .u8 p0.2.2.2.2.2.2.1.2.2.1, .int .u8 p0.2.2.2.2.2.2.1.2.2.2, .int .u8 p0.2.2.2.2.2.2.2.1, .int .u8 p0.2.2.2.2.2.2.2.2.1, .int .u8 p0.2.2.2.2.2.2.2.2.2.1, .int .u8 p0.2.2.2.2.2.2.2.2.2.2]] s.w (RetS No s fun v s' => ∃ (a1 : Option Addr) (c1 : Nat) (a2 : Option Addr) (c2 : Nat) (a3 : Option Addr) (c3 : Nat), v = .agg #[.slice a1 r.1.length c1, .int .i64 r.2.1, .slice a2 r.2.2.1.length c2, .slice a3 r.2.2.2.length c3] ∧ RdL (rK .i64) s' a1 c1 r.1 ∧ RowT (rK .i64) s' u1 3 a2 c2 r.2.2.1 ∧ RowT (rP (rK .i64) (rP (rK .i64) (rK .i64))) s' u2 58 a3 c3 r.2.2.2) := by
 unfold m_overseerlaw04_Make at hm
 obtain ⟨N, hN, hNb⟩ := s.fresh
 have m0 : Mv (Up N No) s s := Mv.refl _ _
 refine E.entry Tryd.func16 rfl Tryd.ntmps16 rfl rfl (E.seq (E.reg (L.box (N + 0) Wt.no rfl rfl rfl fun b4 s5 m6 bx4 => ?_)))
 replace m0 := m0.trans m6.no
 refine L.al (N + 1) zz34 rfl Wt.no rfl fun b7 s8 m9 bx7 => ?_
 replace m0 := m0.trans m9.no
 replace bx4 := bx4.mv m9 no_No
 refine L.nil (X.seqN (E.seq (E.reg (L.bsE (k := 4) (cs := [.int .i64 0, .int .i64 1, .int .i64 2, .int .i64 3]) 0 bs31 (Nat.le_of_ble_eq_true rfl) Wt.no rfl rfl rfl rfl fun b10 s11 m12 bx10 => ?_))))
 replace m0 := m0.trans m12.no
 replace bx4 := bx4.mv m12 no_No
 replace bx7 := bx7.mv m12 no_No
 have h10 := Bx.rdL (r := (rK .i64)) (xs := ([0, 1, 2, 3] : List Int)) bx10 ⟨[.int .i64 0], _, rfl, rfl, ⟨[.int .i64 1], _, rfl, rfl, ⟨[.int .i64 2], _, rfl, rfl, ⟨[.int .i64 3], _, rfl, rfl, rfl⟩⟩⟩⟩ (Nat.le_of_ble_eq_true rfl)
 refine L.fa fa25_0 Wt.no rfl rfl (L.ld (j := 0) bx4.mem nag5 Wt.no rfl rfl rfl rfl (L.rem Wt.no rfl rfl (by decide) rfl (L.cv Tryd.underlying5 Tryd.underlying3 Wt.no rfl rfl (L.bi Wt.no rfl rfl rfl rfl (L.bu (cs := [.slice (some ⟨b10, 0, none⟩) ([0, 1, 2, 3] : List Int).length (([0, 1, 2, 3] : List Int).length), .int .i64 (W (1 + (W (p0.1.tmod 6)))), .slice none 0 0, .slice none 0 0]) pl34 Wt.no rfl rfl rfl (L.al (N + 2) zz34 rfl Wt.no rfl fun b13 s14 m15 bx13 => ?_))))))
 replace m0 := m0.trans m15.no
 replace h10 := h10.mono (m15.le no_No)
 replace bx4 := bx4.mv m15 no_No
 replace bx7 := bx7.mv m15 no_No
 refine L.st (c := [.slice (some ⟨b10, 0, none⟩) ([0, 1, 2, 3] : List Int).length (([0, 1, 2, 3] : List Int).length), .int .i64 (W (1 + (W (p0.1.tmod 6)))), .slice none 0 0, .slice none 0 0]) (cs' := #[.slice (some ⟨b10, 0, none⟩) ([0, 1, 2, 3] : List Int).length (([0, 1, 2, 3] : List Int).length), .int .i64 (W (1 + (W (p0.1.tmod 6)))), .slice none 0 0, .slice none 0 0]) bx13 ag34.sz Wt.no rfl rfl rfl rfl rfl (Nat.le_of_ble_eq_true rfl) rfl fun s16 m17 bx13 => ?_
 replace m0 := m0.trans (m17.one up)
 replace bx4 := bx4.mv m17 (tgN (by decide))
 replace bx7 := bx7.mv m17 (tgN (by decide))
 replace h10 := h10.mono (m17.le (tg0 hN))
 refine L.nil (X.seqN (E.seq (E.seq (E.reg (L.as Wt.no rfl rfl (L.nil (X.seqN (E.block ?_))))))))
 obtain ⟨o90, eo90, hm⟩ := bindS hm
 refine E.cut (x := .exit 0) (fun e w => ∃ (s96 : Sig) (a92 : Option Addr) (c92 : Nat) (a94 : Option Addr) (c94 : Nat), Mv (Up N No) s s96 ∧ RdL (rK .i64) s96 (some ⟨b10, 0, none⟩) (([0, 1, 2, 3] : List Int).length) ([0, 1, 2, 3] : List Int) ∧ RowT (rK .i64) s96 (N + 3) 3 a92 c92 o90.1 ∧ RowT (rP (rK .i64) (rP (rK .i64) (rK .i64))) s96 (N + 4) 58 a94 c94 o90.2 ∧ Bx s96 (N + 1) b7 #[.slice none 0 0, .int .i64 0, .slice none 0 0, .slice none 0 0] 34 ∧ Bx s96 (N + 2) b13 #[.slice (some ⟨b10, 0, none⟩) ([0, 1, 2, 3] : List Int).length (([0, 1, 2, 3] : List Int).length), .int .i64 (W (1 + (W (p0.1.tmod 6)))), .slice a92 o90.1.length c92, .slice a94 o90.2.length c94] 34 ∧ e = [(3, .pointer (some ⟨b13, 0, none⟩)), (2, .pointer (some ⟨b7, 0, none⟩))] ∧ w = s96.w) ?_ ?_
 ·rintro _ _ ⟨s96, a92, c92, a94, c94, m0, h10, h92, h94, bx7, bx13, rfl, rfl⟩
  refine X.blkE (X.seqN (E.seq (E.reg (L.lg (j := 0) (cs := [.slice (some ⟨b10, 0, none⟩) ([0, 1, 2, 3] : List Int).length (([0, 1, 2, 3] : List Int).length), .int .i64 (W (1 + (W (p0.1.tmod 6)))), .slice a92 o90.1.length c92, .slice a94 o90.2.length c94]) bx13.mem ag34 Wt.no rfl rfl rfl rfl rfl (L.st (c := [.slice (some ⟨b10, 0, none⟩) ([0, 1, 2, 3] : List Int).length (([0, 1, 2, 3] : List Int).length), .int .i64 (W (1 + (W (p0.1.tmod 6)))), .slice a92 o90.1.length c92, .slice a94 o90.2.length c94]) (cs' := #[.slice (some ⟨b10, 0, none⟩) ([0, 1, 2, 3] : List Int).length (([0, 1, 2, 3] : List Int).length), .int .i64 (W (1 + (W (p0.1.tmod 6)))), .slice a92 o90.1.length c92, .slice a94 o90.2.length c94]) bx7 ag34.sz Wt.no rfl rfl rfl rfl rfl (Nat.le_of_ble_eq_true rfl) rfl fun s97 m98 bx7 => ?_)))))
  replace m0 := m0.trans (m98.one up)
  replace h10 := h10.mono (m98.le (tg0 hN))
  replace h92 := h92.mv m98 (tgN (by decide)) (tg0 hN)
  replace h94 := h94.mv m98 (tgN (by decide)) (tg0 hN)
  refine L.nil (X.seqN (E.ret ?_))
  obtain rfl := Option.some.inj hm
  exact X.rt (.inl rfl) Tryd.results16 (Rs.cell rfl bx7 ag34 rfl Rs.nil) rfl ⟨_, (s97).ren N (fun k => cond (Nat.beq k 4) u2 (cond (Nat.beq k 3) u1 (0))), rfl, rfl, m0.ren hNb, ⟨(some ⟨b10, 0, none⟩), ([0, 1, 2, 3] : List Int).length, a92, c92, a94, c94, rfl, (h10.ren hN), (h92.ren hN), (h94.ren hN)⟩⟩
 intro K99
 refine E.iter (fun (st90 : Int × List Int × (List (Int × Int × Int))) (e : List (Nat × Value)) (w : World) => ∃ (s95 : Sig) (a20 : Option Addr) (c20 : Nat) (a22 : Option Addr) (c22 : Nat), Mv (Up N No) s s95 ∧ RdL (rK .i64) s95 (some ⟨b10, 0, none⟩) (([0, 1, 2, 3] : List Int).length) ([0, 1, 2, 3] : List Int) ∧ RowT (rK .i64) s95 (N + 3) 3 a20 c20 st90.2.1 ∧ RowT (rP (rK .i64) (rP (rK .i64) (rK .i64))) s95 (N + 4) 58 a22 c22 st90.2.2 ∧ Bx s95 (N + 0) b4 #[.int .u8 p0.1, .int .u8 p0.2.1, .int .u8 p0.2.2.1.1, .int .u8 p0.2.2.1.2.1, .int .u8 p0.2.2.1.2.2.1, .int .u8 p0.2.2.1.2.2.2, .int .u8 p0.2.2.2.1.1, .int .u8 p0.2.2.2.1.2.1, .int .u8 p0.2.2.2.1.2.2.1, .int .u8 p0.2.2.2.1.2.2.2, .int .u8 p0.2.2.2.2.1.1, .int .u8 p0.2.2.2.2.1.2.1, .int .u8 p0.2.2.2.2.1.2.2.1, .int .u8 p0.2.2.2.2.1.2.2.2, .int .u8 p0.2.2.2.2.2.1.1, .int .u8 p0.2.2.2.2.2.1.2.1, .int .u8 p0.2.2.2.2.2.1.2.2.1, .int .u8 p0.2.2.2.2.2.1.2.2.2, .int .u8 p0.2.2.2.2.2.2.1.1, .int .u8 p0.2.2.2.2.2.2.1.2.1, .int .u8 p0.2.2.2.2.2.2.1.2.2.1, .int .u8 p0.2.2.2.2.2.2.1.2.2.2, .int .u8 p0.2.2.2.2.2.2.2.1, .int .u8 p0.2.2.2.2.2.2.2.2.1, .int .u8 p0.2.2.2.2.2.2.2.2.2.1, .int .u8 p0.2.2.2.2.2.2.2.2.2.2] 25 ∧ Bx s95 (N + 1) b7 #[.slice none 0 0, .int .i64 0, .slice none 0 0, .slice none 0 0] 34 ∧ Bx s95 (N + 2) b13 #[.slice (some ⟨b10, 0, none⟩) ([0, 1, 2, 3] : List Int).length (([0, 1, 2, 3] : List Int).length), .int .i64 (W (1 + (W (p0.1.tmod 6)))), .slice a20 st90.2.1.length c20, .slice a22 st90.2.2.length c22] 34 ∧ e = [(4, .int .i64 st90.1), (3, .pointer (some ⟨b13, 0, none⟩)), (2, .pointer (some ⟨b7, 0, none⟩)), (1, .pointer (some ⟨b4, 0, none⟩))] ∧ w = s95.w) eo90 ⟨s16, none, 0, none, 0, m0, h10, RowT.nil, RowT.nil, bx4, bx7, bx13, rfl, rfl⟩ (Sub.rf rfl) ?_
 rintro st90 res90 hm ih90 ho90 _ _ ⟨s95, a20, c20, a22, c22, m0, h10, h20, h22, bx4, bx7, bx13, rfl, rfl⟩
 unfold m_overseerlaw04_Make_l1 at hm
 refine E.seq (E.seq (E.reg (L.mv Wt.no rfl rfl (L.fa fa34_1 Wt.no rfl rfl (L.ld (j := 1) bx13.mem nag3 Wt.no rfl rfl rfl rfl (L.bi Wt.no rfl rfl rfl rfl (L.nil (X.seqN ?_))))))))
 rcases ifS hm with ⟨hc, hm⟩ | ⟨hc, hm⟩
 ·refine E.cT rfl hc (E.skip (X.seqN (E.seq (E.block (E.seqJ (fun e w => ∃ (s102 : Sig) (l100 : List Int) (a101 : Option Addr) (c101 : Nat), m_overseerlaw04_Make_j1 p0 st90 l100 = some res90 ∧ Mv (Up N No) s s102 ∧ RdL (rK .i64) s102 (some ⟨b10, 0, none⟩) (([0, 1, 2, 3] : List Int).length) ([0, 1, 2, 3] : List Int) ∧ RowT (rK .i64) s102 (N + 3) 3 a101 c101 l100 ∧ RowT (rP (rK .i64) (rP (rK .i64) (rK .i64))) s102 (N + 4) 58 a22 c22 st90.2.2 ∧ Bx s102 (N + 0) b4 #[.int .u8 p0.1, .int .u8 p0.2.1, .int .u8 p0.2.2.1.1, .int .u8 p0.2.2.1.2.1, .int .u8 p0.2.2.1.2.2.1, .int .u8 p0.2.2.1.2.2.2, .int .u8 p0.2.2.2.1.1, .int .u8 p0.2.2.2.1.2.1, .int .u8 p0.2.2.2.1.2.2.1, .int .u8 p0.2.2.2.1.2.2.2, .int .u8 p0.2.2.2.2.1.1, .int .u8 p0.2.2.2.2.1.2.1, .int .u8 p0.2.2.2.2.1.2.2.1, .int .u8 p0.2.2.2.2.1.2.2.2, .int .u8 p0.2.2.2.2.2.1.1, .int .u8 p0.2.2.2.2.2.1.2.1, .int .u8 p0.2.2.2.2.2.1.2.2.1, .int .u8 p0.2.2.2.2.2.1.2.2.2, .int .u8 p0.2.2.2.2.2.2.1.1, .int .u8 p0.2.2.2.2.2.2.1.2.1, .int .u8 p0.2.2.2.2.2.2.1.2.2.1, .int .u8 p0.2.2.2.2.2.2.1.2.2.2, .int .u8 p0.2.2.2.2.2.2.2.1, .int .u8 p0.2.2.2.2.2.2.2.2.1, .int .u8 p0.2.2.2.2.2.2.2.2.2.1, .int .u8 p0.2.2.2.2.2.2.2.2.2.2] 25 ∧ Bx s102 (N + 1) b7 #[.slice none 0 0, .int .i64 0, .slice none 0 0, .slice none 0 0] 34 ∧ Bx s102 (N + 2) b13 #[.slice (some ⟨b10, 0, none⟩) ([0, 1, 2, 3] : List Int).length (([0, 1, 2, 3] : List Int).length), .int .i64 (W (1 + (W (p0.1.tmod 6)))), .slice a101 l100.length c101, .slice a22 st90.2.2.length c22] 34 ∧ e = [(4, .int .i64 st90.1), (3, .pointer (some ⟨b13, 0, none⟩)), (2, .pointer (some ⟨b7, 0, none⟩)), (1, .pointer (some ⟨b4, 0, none⟩))] ∧ w = s102.w) ?_ ?_)))))
  ·rintro _ _ ⟨s102, l100, a101, c101, hm, m0, h10, h101, h22, bx4, bx7, bx13, rfl, rfl⟩
   unfold m_overseerlaw04_Make_j1 at hm
   refine E.seq (E.reg (L.as Wt.no rfl rfl (L.nil (X.seqN (E.block ?_)))))
   obtain ⟨o128, eo128, hm⟩ := bindS hm
   refine E.cut (x := .exit 2) (fun e w => ∃ (s132 : Sig) (a130 : Option Addr) (c130 : Nat), Mv (Up N No) s s132 ∧ RdL (rK .i64) s132 (some ⟨b10, 0, none⟩) (([0, 1, 2, 3] : List Int).length) ([0, 1, 2, 3] : List Int) ∧ RowT (rK .i64) s132 (N + 3) 3 a101 c101 l100 ∧ RowT (rP (rK .i64) (rP (rK .i64) (rK .i64))) s132 (N + 4) 58 a130 c130 o128 ∧ Bx s132 (N + 0) b4 #[.int .u8 p0.1, .int .u8 p0.2.1, .int .u8 p0.2.2.1.1, .int .u8 p0.2.2.1.2.1, .int .u8 p0.2.2.1.2.2.1, .int .u8 p0.2.2.1.2.2.2, .int .u8 p0.2.2.2.1.1, .int .u8 p0.2.2.2.1.2.1, .int .u8 p0.2.2.2.1.2.2.1, .int .u8 p0.2.2.2.1.2.2.2, .int .u8 p0.2.2.2.2.1.1, .int .u8 p0.2.2.2.2.1.2.1, .int .u8 p0.2.2.2.2.1.2.2.1, .int .u8 p0.2.2.2.2.1.2.2.2, .int .u8 p0.2.2.2.2.2.1.1, .int .u8 p0.2.2.2.2.2.1.2.1, .int .u8 p0.2.2.2.2.2.1.2.2.1, .int .u8 p0.2.2.2.2.2.1.2.2.2, .int .u8 p0.2.2.2.2.2.2.1.1, .int .u8 p0.2.2.2.2.2.2.1.2.1, .int .u8 p0.2.2.2.2.2.2.1.2.2.1, .int .u8 p0.2.2.2.2.2.2.1.2.2.2, .int .u8 p0.2.2.2.2.2.2.2.1, .int .u8 p0.2.2.2.2.2.2.2.2.1, .int .u8 p0.2.2.2.2.2.2.2.2.2.1, .int .u8 p0.2.2.2.2.2.2.2.2.2.2] 25 ∧ Bx s132 (N + 1) b7 #[.slice none 0 0, .int .i64 0, .slice none 0 0, .slice none 0 0] 34 ∧ Bx s132 (N + 2) b13 #[.slice (some ⟨b10, 0, none⟩) ([0, 1, 2, 3] : List Int).length (([0, 1, 2, 3] : List Int).length), .int .i64 (W (1 + (W (p0.1.tmod 6)))), .slice a101 l100.length c101, .slice a130 o128.length c130] 34 ∧ e = [(4, .int .i64 st90.1), (3, .pointer (some ⟨b13, 0, none⟩)), (2, .pointer (some ⟨b7, 0, none⟩)), (1, .pointer (some ⟨b4, 0, none⟩))] ∧ w = s132.w) ?_ ?_
   ·rintro _ _ ⟨s132, a130, c130, m0, h10, h101, h130, bx4, bx7, bx13, rfl, rfl⟩
    exact X.blkE (X.blkN (X.seqN (E.reg (L.mv Wt.no rfl rfl (L.bi Wt.no rfl rfl rfl rfl (L.as Wt.no rfl rfl (L.nil (X.sub (ih90 _ (Option.some.inj hm).symm _ _ ⟨s132, a101, c101, a130, c130, m0, h10, h101, h130, bx4, bx7, bx13, rfl, rfl⟩) (Sub.rf rfl)))))))))
   intro K133
   refine E.iter (fun (st128 : Int × (List (Int × Int × Int))) (e : List (Nat × Value)) (w : World) => ∃ (s131 : Sig) (a106 : Option Addr) (c106 : Nat), Mv (Up N No) s s131 ∧ RdL (rK .i64) s131 (some ⟨b10, 0, none⟩) (([0, 1, 2, 3] : List Int).length) ([0, 1, 2, 3] : List Int) ∧ RowT (rK .i64) s131 (N + 3) 3 a101 c101 l100 ∧ RowT (rP (rK .i64) (rP (rK .i64) (rK .i64))) s131 (N + 4) 58 a106 c106 st128.2 ∧ Bx s131 (N + 0) b4 #[.int .u8 p0.1, .int .u8 p0.2.1, .int .u8 p0.2.2.1.1, .int .u8 p0.2.2.1.2.1, .int .u8 p0.2.2.1.2.2.1, .int .u8 p0.2.2.1.2.2.2, .int .u8 p0.2.2.2.1.1, .int .u8 p0.2.2.2.1.2.1, .int .u8 p0.2.2.2.1.2.2.1, .int .u8 p0.2.2.2.1.2.2.2, .int .u8 p0.2.2.2.2.1.1, .int .u8 p0.2.2.2.2.1.2.1, .int .u8 p0.2.2.2.2.1.2.2.1, .int .u8 p0.2.2.2.2.1.2.2.2, .int .u8 p0.2.2.2.2.2.1.1, .int .u8 p0.2.2.2.2.2.1.2.1, .int .u8 p0.2.2.2.2.2.1.2.2.1, .int .u8 p0.2.2.2.2.2.1.2.2.2, .int .u8 p0.2.2.2.2.2.2.1.1, .int .u8 p0.2.2.2.2.2.2.1.2.1, .int .u8 p0.2.2.2.2.2.2.1.2.2.1, .int .u8 p0.2.2.2.2.2.2.1.2.2.2, .int .u8 p0.2.2.2.2.2.2.2.1, .int .u8 p0.2.2.2.2.2.2.2.2.1, .int .u8 p0.2.2.2.2.2.2.2.2.2.1, .int .u8 p0.2.2.2.2.2.2.2.2.2.2] 25 ∧ Bx s131 (N + 1) b7 #[.slice none 0 0, .int .i64 0, .slice none 0 0, .slice none 0 0] 34 ∧ Bx s131 (N + 2) b13 #[.slice (some ⟨b10, 0, none⟩) ([0, 1, 2, 3] : List Int).length (([0, 1, 2, 3] : List Int).length), .int .i64 (W (1 + (W (p0.1.tmod 6)))), .slice a101 l100.length c101, .slice a106 st128.2.length c106] 34 ∧ e = [(5, .int .i64 st128.1), (4, .int .i64 st90.1), (3, .pointer (some ⟨b13, 0, none⟩)), (2, .pointer (some ⟨b7, 0, none⟩)), (1, .pointer (some ⟨b4, 0, none⟩))] ∧ w = s131.w) eo128 ⟨s102, a22, c22, m0, h10, h101, h22, bx4, bx7, bx13, rfl, rfl⟩ (Sub.rf rfl) ?_
   rintro st128 res128 hm ih128 ho128 _ _ ⟨s131, a106, c106, m0, h10, h101, h106, bx4, bx7, bx13, rfl, rfl⟩
   unfold m_overseerlaw04_Make_l2 at hm
   refine E.seq (E.seq (E.reg (L.mv Wt.no rfl rfl (L.bi Wt.no rfl rfl rfl rfl (L.nil (X.seqN ?_))))))
   rcases ifS hm with ⟨hc, hm⟩ | ⟨hc, hm⟩
   ·refine E.cT rfl hc (E.skip (X.seqN (E.seqJ (fun e w => ∃ (s136 : Sig) (l134 : List (Int × Int × Int)) (a135 : Option Addr) (c135 : Nat), m_overseerlaw04_Make_j2 st128 l134 = some res128 ∧ Mv (Up N No) s s136 ∧ RdL (rK .i64) s136 (some ⟨b10, 0, none⟩) (([0, 1, 2, 3] : List Int).length) ([0, 1, 2, 3] : List Int) ∧ RowT (rK .i64) s136 (N + 3) 3 a101 c101 l100 ∧ RowT (rP (rK .i64) (rP (rK .i64) (rK .i64))) s136 (N + 4) 58 a135 c135 l134 ∧ Bx s136 (N + 0) b4 #[.int .u8 p0.1, .int .u8 p0.2.1, .int .u8 p0.2.2.1.1, .int .u8 p0.2.2.1.2.1, .int .u8 p0.2.2.1.2.2.1, .int .u8 p0.2.2.1.2.2.2, .int .u8 p0.2.2.2.1.1, .int .u8 p0.2.2.2.1.2.1, .int .u8 p0.2.2.2.1.2.2.1, .int .u8 p0.2.2.2.1.2.2.2, .int .u8 p0.2.2.2.2.1.1, .int .u8 p0.2.2.2.2.1.2.1, .int .u8 p0.2.2.2.2.1.2.2.1, .int .u8 p0.2.2.2.2.1.2.2.2, .int .u8 p0.2.2.2.2.2.1.1, .int .u8 p0.2.2.2.2.2.1.2.1, .int .u8 p0.2.2.2.2.2.1.2.2.1, .int .u8 p0.2.2.2.2.2.1.2.2.2, .int .u8 p0.2.2.2.2.2.2.1.1, .int .u8 p0.2.2.2.2.2.2.1.2.1, .int .u8 p0.2.2.2.2.2.2.1.2.2.1, .int .u8 p0.2.2.2.2.2.2.1.2.2.2, .int .u8 p0.2.2.2.2.2.2.2.1, .int .u8 p0.2.2.2.2.2.2.2.2.1, .int .u8 p0.2.2.2.2.2.2.2.2.2.1, .int .u8 p0.2.2.2.2.2.2.2.2.2.2] 25 ∧ Bx s136 (N + 1) b7 #[.slice none 0 0, .int .i64 0, .slice none 0 0, .slice none 0 0] 34 ∧ Bx s136 (N + 2) b13 #[.slice (some ⟨b10, 0, none⟩) ([0, 1, 2, 3] : List Int).length (([0, 1, 2, 3] : List Int).length), .int .i64 (W (1 + (W (p0.1.tmod 6)))), .slice a101 l100.length c101, .slice a135 l134.length c135] 34 ∧ e = [(5, .int .i64 st128.1), (4, .int .i64 st90.1), (3, .pointer (some ⟨b13, 0, none⟩)), (2, .pointer (some ⟨b7, 0, none⟩)), (1, .pointer (some ⟨b4, 0, none⟩))] ∧ w = s136.w) ?_ ?_)))
    ·rintro _ _ ⟨s136, l134, a135, c135, hm, m0, h10, h101, h135, bx4, bx7, bx13, rfl, rfl⟩
     unfold m_overseerlaw04_Make_j2 at hm
     exact E.reg (L.mv Wt.no rfl rfl (L.bi Wt.no rfl rfl rfl rfl (L.as Wt.no rfl rfl (L.nil (X.sub (ih128 _ (Option.some.inj hm).symm _ _ ⟨s136, a135, c135, m0, h10, h101, h135, bx4, bx7, bx13, rfl, rfl⟩) (Sub.rf rfl))))))
    intro Jj137
    refine E.block (E.seq (E.reg (L.mv Wt.no rfl rfl (L.mv Wt.no rfl rfl (L.fa fa25_2 Wt.no rfl rfl ?_)))))
    obtain ⟨_, z138, hm⟩ := bindS hm
    refine L.ia ia23 Wt.no rfl rfl (rng_some z138) rfl ?_
    obtain ⟨_, z139, hm⟩ := bindS hm
    refine L.ia ia22 Wt.no rfl rfl (rng_some z139) rfl ?_
    obtain ⟨x140, ex140, hm⟩ := bindS hm
    refine L.ld (j := st90.1.toNat * 4 + st128.1.toNat * 1) (c := [.int .u8 p0.2.2.1.1, .int .u8 p0.2.2.1.2.1, .int .u8 p0.2.2.1.2.2.1, .int .u8 p0.2.2.1.2.2.2, .int .u8 p0.2.2.2.1.1, .int .u8 p0.2.2.2.1.2.1, .int .u8 p0.2.2.2.1.2.2.1, .int .u8 p0.2.2.2.1.2.2.2, .int .u8 p0.2.2.2.2.1.1, .int .u8 p0.2.2.2.2.1.2.1, .int .u8 p0.2.2.2.2.1.2.2.1, .int .u8 p0.2.2.2.2.1.2.2.2, .int .u8 p0.2.2.2.2.2.1.1, .int .u8 p0.2.2.2.2.2.1.2.1, .int .u8 p0.2.2.2.2.2.1.2.2.1, .int .u8 p0.2.2.2.2.2.1.2.2.2, .int .u8 p0.2.2.2.2.2.2.1.1, .int .u8 p0.2.2.2.2.2.2.1.2.1, .int .u8 p0.2.2.2.2.2.2.1.2.2.1, .int .u8 p0.2.2.2.2.2.2.1.2.2.2, .int .u8 p0.2.2.2.2.2.2.2.1, .int .u8 p0.2.2.2.2.2.2.2.2.1, .int .u8 p0.2.2.2.2.2.2.2.2.2.1, .int .u8 p0.2.2.2.2.2.2.2.2.2.2]) (v := Value.int .u8 x140) (Mem.sub bx4.mem 2 24 (Nat.le_of_ble_eq_true rfl)) nag5 Wt.no rfl (by omega) (show [Value.int .u8 p0.2.2.1.1, Value.int .u8 p0.2.2.1.2.1, Value.int .u8 p0.2.2.1.2.2.1, Value.int .u8 p0.2.2.1.2.2.2, Value.int .u8 p0.2.2.2.1.1, Value.int .u8 p0.2.2.2.1.2.1, Value.int .u8 p0.2.2.2.1.2.2.1, Value.int .u8 p0.2.2.2.1.2.2.2, Value.int .u8 p0.2.2.2.2.1.1, Value.int .u8 p0.2.2.2.2.1.2.1, Value.int .u8 p0.2.2.2.2.1.2.2.1, Value.int .u8 p0.2.2.2.2.1.2.2.2, Value.int .u8 p0.2.2.2.2.2.1.1, Value.int .u8 p0.2.2.2.2.2.1.2.1, Value.int .u8 p0.2.2.2.2.2.1.2.2.1, Value.int .u8 p0.2.2.2.2.2.1.2.2.2, Value.int .u8 p0.2.2.2.2.2.2.1.1, Value.int .u8 p0.2.2.2.2.2.2.1.2.1, Value.int .u8 p0.2.2.2.2.2.2.1.2.2.1, Value.int .u8 p0.2.2.2.2.2.2.1.2.2.2, Value.int .u8 p0.2.2.2.2.2.2.2.1, Value.int .u8 p0.2.2.2.2.2.2.2.2.1, Value.int .u8 p0.2.2.2.2.2.2.2.2.2.1, Value.int .u8 p0.2.2.2.2.2.2.2.2.2.2][st90.1.toNat * 4 + st128.1.toNat * 1]? = some (Value.int .u8 x140) from getMap (f := fun z => Value.int .u8 z) ex140) rfl (L.rem Wt.no rfl rfl (by decide) rfl (L.cv Tryd.underlying5 Tryd.underlying3 Wt.no rfl rfl (L.bi Wt.no rfl rfl rfl rfl (L.as Wt.no rfl rfl (L.nil (X.seqN (E.seq (E.reg (L.mv Wt.no rfl rfl (L.bi Wt.no rfl rfl rfl rfl (L.mv Wt.no rfl rfl (L.cut 5 (fun e w => ∃ (v141 : Bool), ((decide ((W ((W (x140.tmod 7)) - 1)) ≥ 0)) && (decide ((W ((W (x140.tmod 7)) - 1)) < (W (1 + (W (p0.1.tmod 6))))))) = v141 ∧ e = (52, .bool v141) :: [(6, .int .i64 (W ((W (x140.tmod 7)) - 1))), (5, .int .i64 st128.1), (4, .int .i64 st90.1), (3, .pointer (some ⟨b13, 0, none⟩)), (2, .pointer (some ⟨b7, 0, none⟩)), (1, .pointer (some ⟨b4, 0, none⟩))] ∧ w = s131.w) ?_ ?_))))))))))))
    ·rintro _ _ ⟨v141, rfl, rfl, rfl⟩
     refine L.nil (X.seqN ?_)
     rcases ifS hm with ⟨hc, hm⟩ | ⟨hc, hm⟩
     ·refine E.cT rfl hc (E.reg (L.fa fa34_3 Wt.no rfl rfl (L.ld (j := 3) bx13.mem nag32 Wt.no rfl rfl rfl rfl (L.mv Wt.no rfl rfl (L.mv Wt.no rfl rfl (L.mv Wt.no rfl rfl (L.bu (cs := [.int .i64 st90.1, .int .i64 st128.1, .int .i64 (W ((W (x140.tmod 7)) - 1))]) pl58 Wt.no rfl rfl rfl (L.bsE (k := 1) (cs := [.int .i64 st90.1, .int .i64 st128.1, .int .i64 (W ((W (x140.tmod 7)) - 1))]) 0 bs32 (Nat.le_of_ble_eq_true rfl) Wt.no rfl rfl rfl rfl fun b142 s143 m144 bx142 => ?_))))))))
      replace m0 := m0.trans m144.no
      replace h106 := h106.mv m144 no_No no_No
      replace bx4 := bx4.mv m144 no_No
      replace bx7 := bx7.mv m144 no_No
      replace bx13 := bx13.mv m144 no_No
      replace h10 := h10.mono (m144.le no_No)
      replace h101 := h101.mv m144 no_No no_No
      have h142 := Bx.rdL (r := (rP (rK .i64) (rP (rK .i64) (rK .i64)))) (xs := ([(st90.1, st128.1, W ((W (x140.tmod 7)) - 1))] : List (Int × Int × Int))) bx142 ⟨[.int .i64 st90.1, .int .i64 st128.1, .int .i64 (W ((W (x140.tmod 7)) - 1))], _, rfl, ⟨[.int .i64 st90.1], [.int .i64 st128.1, .int .i64 (W ((W (x140.tmod 7)) - 1))], rfl, rfl, ⟨[.int .i64 st128.1], [.int .i64 (W ((W (x140.tmod 7)) - 1))], rfl, rfl, rfl⟩⟩, rfl⟩ (Nat.le_of_ble_eq_true rfl)
      obtain ⟨x145, ex145, hm⟩ := bindS hm
      refine L.ap (r := (rP (rK .i64) (rP (rK .i64) (rK .i64)))) Tryd.underlying32 el58 rfl (tgp hN) h106 h142.wk Wt.no rfl rfl ex145 rfl fun a146 c146 s147 m148 h146 => ?_
      replace m0 := m0.trans (m148.one up)
      replace bx4 := bx4.mv m148 (tgN (by decide))
      replace bx7 := bx7.mv m148 (tgN (by decide))
      replace bx13 := bx13.mv m148 (tgN (by decide))
      replace h10 := h10.mono (m148.le (tg0 hN))
      replace h101 := h101.mv m148 (tgN (by decide)) (tg0 hN)
      refine L.fa fa34_3 Wt.no rfl rfl (L.st (c := [.slice a146 x145.length c146]) (cs' := #[.slice (some ⟨b10, 0, none⟩) ([0, 1, 2, 3] : List Int).length (([0, 1, 2, 3] : List Int).length), .int .i64 (W (1 + (W (p0.1.tmod 6)))), .slice a101 l100.length c101, .slice a146 x145.length c146]) bx13 nag32.sz Wt.no rfl rfl rfl rfl rfl (Nat.le_of_ble_eq_true rfl) rfl fun s149 m150 bx13 => ?_)
      replace m0 := m0.trans (m150.one up)
      replace bx4 := bx4.mv m150 (tgN (by decide))
      replace bx7 := bx7.mv m150 (tgN (by decide))
      replace h10 := h10.mono (m150.le (tg0 hN))
      replace h101 := h101.mv m150 (tgN (by decide)) (tg0 hN)
      replace h146 := h146.mv m150 (tgN (by decide)) (tg0 hN)
      exact L.nil (X.blkN (X.sub (Jj137 _ _ ⟨s149, x145, a146, c146, hm, m0, h10, h101, h146, bx4, bx7, bx13, rfl, rfl⟩) (Sub.rf rfl)))
     exact E.cF rfl hc (E.skip (X.blkN (X.sub (Jj137 _ _ ⟨s131, st128.2, a106, c106, hm, m0, h10, h101, h106, bx4, bx7, bx13, rfl, rfl⟩) (Sub.rf rfl))))
    intro J151
    rcases Bool.eq_false_or_eq_true (decide ((W ((W (x140.tmod 7)) - 1)) ≥ 0)) with hc | hc
    ·exact L.know (d := 47) rfl hc (L.mv (Wt.mk rfl rfl) rfl rfl (L.fa fa34_1 (Wt.mk rfl rfl) rfl rfl (L.ld (j := 1) bx13.mem nag3 (Wt.mk rfl rfl) rfl rfl rfl rfl (L.bi (Wt.mk rfl rfl) rfl rfl rfl rfl (L.pkT Wt.no rfl rfl rfl rfl (L.sb (J151 _ _ ⟨(decide ((W ((W (x140.tmod 7)) - 1)) < (W (1 + (W (p0.1.tmod 6)))))), (andT hc).symm, rfl, rfl⟩) rfl))))))
    exact L.know (d := 47) rfl hc (L.skip rfl rfl rfl rfl (L.skip rfl rfl rfl rfl (L.skip rfl rfl rfl rfl (L.skip rfl rfl rfl rfl (L.pkF Wt.no rfl rfl rfl rfl (L.sb (J151 _ _ ⟨false, (andF hc).symm, rfl, rfl⟩) rfl))))))
   refine E.cF rfl hc (E.exit (X.seqX (X.seqX ?_)))
   have hx := ho128 _ (Option.some.inj hm).symm
   subst hx
   exact X.sub (K133 _ _ ⟨s131, a106, c106, m0, h10, h101, h106, bx4, bx7, bx13, rfl, rfl⟩) (Sub.rf rfl)
  intro Jj103
  refine E.seq (E.reg (L.fa fa25_1 Wt.no rfl rfl (L.ld (j := 1) bx4.mem nag5 Wt.no rfl rfl rfl rfl (L.mv Wt.no rfl rfl ?_))))
  obtain ⟨_, z152, hm⟩ := bindS hm
  refine L.shr Wt.no rfl rfl (ng_some z152) rfl (L.bi Wt.no rfl rfl rfl rfl (L.bi Wt.no rfl rfl rfl rfl (L.nil (X.seqN ?_))))
  rcases ifS hm with ⟨hc, hm⟩ | ⟨hc, hm⟩
  ·refine E.cT rfl hc (E.reg (L.fa fa34_2 Wt.no rfl rfl (L.ld (j := 2) bx13.mem nag31 Wt.no rfl rfl rfl rfl (L.mv Wt.no rfl rfl (L.bsE (k := 1) (cs := [.int .i64 st90.1]) 0 bs31 (Nat.le_of_ble_eq_true rfl) Wt.no rfl rfl rfl rfl fun b153 s154 m155 bx153 => ?_)))))
   replace m0 := m0.trans m155.no
   replace h20 := h20.mv m155 no_No no_No
   replace bx4 := bx4.mv m155 no_No
   replace bx7 := bx7.mv m155 no_No
   replace bx13 := bx13.mv m155 no_No
   replace h10 := h10.mono (m155.le no_No)
   replace h22 := h22.mv m155 no_No no_No
   have h153 := Bx.rdL (r := (rK .i64)) (xs := ([st90.1] : List Int)) bx153 ⟨[.int .i64 st90.1], _, rfl, rfl, rfl⟩ (Nat.le_of_ble_eq_true rfl)
   obtain ⟨x156, ex156, hm⟩ := bindS hm
   refine L.ap (r := (rK .i64)) Tryd.underlying31 el3 rfl (tgp hN) h20 h153.wk Wt.no rfl rfl ex156 rfl fun a157 c157 s158 m159 h157 => ?_
   replace m0 := m0.trans (m159.one up)
   replace bx4 := bx4.mv m159 (tgN (by decide))
   replace bx7 := bx7.mv m159 (tgN (by decide))
   replace bx13 := bx13.mv m159 (tgN (by decide))
   replace h10 := h10.mono (m159.le (tg0 hN))
   replace h22 := h22.mv m159 (tgN (by decide)) (tg0 hN)
   refine L.fa fa34_2 Wt.no rfl rfl (L.st (c := [.slice a157 x156.length c157]) (cs' := #[.slice (some ⟨b10, 0, none⟩) ([0, 1, 2, 3] : List Int).length (([0, 1, 2, 3] : List Int).length), .int .i64 (W (1 + (W (p0.1.tmod 6)))), .slice a157 x156.length c157, .slice a22 st90.2.2.length c22]) bx13 nag31.sz Wt.no rfl rfl rfl rfl rfl (Nat.le_of_ble_eq_true rfl) rfl fun s160 m161 bx13 => ?_)
   replace m0 := m0.trans (m161.one up)
   replace bx4 := bx4.mv m161 (tgN (by decide))
   replace bx7 := bx7.mv m161 (tgN (by decide))
   replace h10 := h10.mono (m161.le (tg0 hN))
   replace h157 := h157.mv m161 (tgN (by decide)) (tg0 hN)
   replace h22 := h22.mv m161 (tgN (by decide)) (tg0 hN)
   exact L.nil (X.sub (Jj103 _ _ ⟨s160, x156, a157, c157, hm, m0, h10, h157, h22, bx4, bx7, bx13, rfl, rfl⟩) (Sub.rf rfl))
  exact E.cF rfl hc (E.skip (X.sub (Jj103 _ _ ⟨s95, st90.2.1, a20, c20, hm, m0, h10, h20, h22, bx4, bx7, bx13, rfl, rfl⟩) (Sub.rf rfl)))
 refine E.cF rfl hc (E.exit (X.seqX (X.seqX ?_)))
 have hx := ho90 _ (Option.some.inj hm).symm
 subst hx
 exact X.sub (K99 _ _ ⟨s95, a20, c20, a22, c22, m0, h10, h20, h22, bx7, bx13, rfl, rfl⟩) (Sub.rf rfl)

theorem ag25 : Ag Tryd.prog 25 26 := Ag.mk' Tryd.underlying25 rfl (by kernel_rfl)
theorem cf16 : Cf Tryd.prog 16 := Cf.mk Tryd.func16 (by kernel_rfl) (by kernel_rfl)
theorem fa27_0 : FA Tryd.prog 27 0 0 := FA.mk Tryd.underlying27 rfl rfl ⟨26, by decide, by kernel_rfl⟩
theorem fa27_1 : FA Tryd.prog 27 1 26 := FA.mk Tryd.underlying27 rfl rfl ⟨26, by decide, by kernel_rfl⟩
theorem fa27_2 : FA Tryd.prog 27 2 52 := FA.mk Tryd.underlying27 rfl rfl ⟨1, by decide, by kernel_rfl⟩
noncomputable def m_overseerlaw24_list_j1 (r8 : (List Int × Int × List Int × (List (Int × Int × Int)))) (r17 : (List Int × Int × List Int × (List (Int × Int × Int)))) (l38 : List Int) (l40 : List (Int × Int × Int)) : Option (List (List Int × Int × List Int × (List (Int × Int × Int)))) :=
  some ([r8, (l38, r17.2.1, r17.2.2.1, l40)] : List (List Int × Int × List Int × (List (Int × Int × Int))))
noncomputable def m_overseerlaw24_list_l1 (r17 : (List Int × Int × List Int × (List (Int × Int × Int)))) (st79 : Int × (List (Int × Int × Int))) : Option ((Int × (List (Int × Int × Int))) ⊕ (List (Int × Int × Int))) :=
  if decide (st79.1 < (r17.2.2.2.length : Int)) then
    (idx r17.2.2.2 st79.1).bind fun x88 =>
    (app st79.2 ([(x88.1, W (x88.2.1 + 2), x88.2.2)] : List (Int × Int × Int))).bind fun x100 =>
    some (.inl (W (st79.1 + 1), x100))
  else
    some (.inr st79.2)
/-- What overseerlaw24.list computes. -/
noncomputable def m_overseerlaw24_list (p0 : (Int × Int × ((Int × Int × Int × Int) × (Int × Int × Int × Int) × (Int × Int × Int × Int) × (Int × Int × Int × Int) × (Int × Int × Int × Int) × (Int × Int × Int × Int))) × (Int × Int × ((Int × Int × Int × Int) × (Int × Int × Int × Int) × (Int × Int × Int × Int) × (Int × Int × Int × Int) × (Int × Int × Int × Int) × (Int × Int × Int × Int))) × Bool) : Option (List (List Int × Int × List Int × (List (Int × Int × Int)))) :=
  (m_overseerlaw04_Make p0.1).bind fun r8 =>
  (m_overseerlaw04_Make p0.2.1).bind fun r17 =>
  if (!p0.2.2) then
    (iter (m_overseerlaw24_list_l1 r17) (0, ([] : List (Int × Int × Int)))).bind fun o79 =>
    m_overseerlaw24_list_j1 r8 r17 ([2, 3, 4, 5] : List Int) o79
  else
    m_overseerlaw24_list_j1 r8 r17 r17.1 r17.2.2.2
set_option maxRecDepth 100000 in
set_option maxHeartbeats 8000000 in
theorem m_overseerlaw24_list_c {s : Sig} {p0 : (Int × Int × ((Int × Int × Int × Int) × (Int × Int × Int × Int) × (Int × Int × Int × Int) × (Int × Int × Int × Int) × (Int × Int × Int × Int) × (Int × Int × Int × Int))) × (Int × Int × ((Int × Int × Int × Int) × (Int × Int × Int × Int) × (Int × Int × Int × Int) × (Int × Int × Int × Int) × (Int × Int × Int × Int) × (Int × Int × Int × Int))) × Bool} {u0 : Nat} {r : (List (List Int × Int × List Int × (List (Int × Int × Int))))} (hm : m_overseerlaw24_list p0 = some r) :
    Calls Tryd.prog 9 #[.agg #[.int .u8 p0.1.1, .int .u8 p0.1.2.1, .int .u8 p0.1.2.2.1.1, .int .u8 p0.1.2.2.1.2.1, .int .u8 p0.1.2.2.1.2.2.1, .int .u8 p0.1.2.2.1.2.2.2, .int .u8 p0.1.2.2.2.1.1, .int .u8 p0.1.2.2.2.1.2.1, .int .u8 p0.1.2.2.2.1.2.2.1, .int .u8 p0.1.2.2.2.1.2.2.2, .int .u8 p0.1.2.2.2.2.1.1, .int .u8 p0.1.2.2.2.2.1.2.1, .int .u8 p0.1.2.2.2.2.1.2.2.1, .int .u8 p0.1.2.2.2.2.1.2.2.2, .int .u8 p0.1.2.2.2.2.2.1.1, .int .u8 p0.1.2.2.2.2.2.1.2.1, .int .u8 p0.1.2.2.2.2.2.1.2.2.1, .int .u8 p0.1.2.2.2.2.2.1.2.2.2, .int .u8 p0.1.2.2.2.2.2.2.1.1, .int .u8 p0.1.2.2.2.2.2.2.1.2.1, .int .u8 p0.1.2.2.2.2.2.2.1.2.2.1, .int .u8 p0.1.2.2.2.2.2.2.1.2.2.2, .int .u8 p0.1.2.2.2.2.2.2.2.1, .int .u8 p0.1.2.2.2.2.2.2.2.2.1, .int .u8 p0.1.2.2.2.2.2.2.2.2.2.1, .int .u8 p0.1.2.2.2.2.2.2.2.2.2.2, .int .u8 p0.2.1.1, .int .u8 p0.2.1.2.1, .int .u8 p0.2.1.2.2.1.1, .int .u8 p0.2.1.2.2.1.2.1, .int .u8 p0.2.1.2.2.1.2.2.1, .int .u8 p0.2.1.2.2.1.2.2.2, .int .u8 p0.2.1.2.2.2.1.1, .int .u8 p0.2.1.2.2.2.1.2.1, .int .u8 p0.2.1.2.2.2.1.2.2.1, .int .u8 p0.2.1.2.2.2.1.2.2.2, .int .u8 p0.2.1.2.2.2.2.1.1, .int .u8 p0.2.1.2.2.2.2.1.2.1, .int .u8 p0.2.1.2.2.2.2.1.2.2.1, .int .u8 p0.2.1.2.2.2.2.1.2.2.2, .int .u8 p0.2.1.2.2.2.2.2.1.1, .int .u8 p0.2.1.2.2.2.2.2.1.2.1, .int .u8 p0.2.1.2.2.2.2.2.1.2.2.1, .int .u8 p0.2.1.2.2.2.2.2.1.2.2.2, .int .u8 p0.2.1.2.2.2.2.2.2.1.1, .int .u8 p0.2.1.2.2.2.2.2.2.1.2.1, .int .u8 p0.2.1.2.2.2.2.2.2.1.2.2.1, .int .u8 p0.2.1.2.2.2.2.2.2.1.2.2.2, .int .u8 p0.2.1.2.2.2.2.2.2.2.1, .int .u8 p0.2.1.2.2.2.2.2.2.2.2.1, .int .u8 p0.2.1.2.2.2.2.2.2.2.2.2.1, .int .u8 p0.2.1.2.2.2.2.2.2.2.2.2.2, .bool p0.2.2]] s.w (RetS No s fun v s' => ∃ (a1 : Option Addr) (c1 : Nat), v = .slice a1 r.length c1 ∧ RowT (rP (rL (rK .i64)) (rP (rK .i64) (rP (rL (rK .i64)) (rL (rP (rK .i64) (rP (rK .i64) (rK .i64))))))) s' u0 34 a1 c1 r) := by
 unfold m_overseerlaw24_list at hm
 obtain ⟨N, hN, hNb⟩ := s.fresh
 have m0 : Mv (Up N No) s s := Mv.refl _ _
 refine E.entry Tryd.func9 rfl Tryd.ntmps9 rfl rfl (E.seq (E.reg (L.box (N + 0) Wt.no rfl rfl rfl fun b2 s3 m4 bx2 => ?_)))
 replace m0 := m0.trans m4.no
 refine L.as Wt.no rfl rfl (L.nil (X.seqN (E.seq ?_)))
 obtain ⟨r8, er8, hm⟩ := bindS hm
 obtain ⟨r17, er17, hm⟩ := bindS hm
 refine E.draw [[], [0], [0, 1], [], [3], [0, 1, 2, 3, 4], [], [], [0, 1, 2, 3, 4, 5, 6, 7], [0, 1, 2, 3, 4, 5, 6, 7, 8]] (fun D e sx => Mv (fun t => t = (N + 1) ∨ t = (N + 2)) s3 sx ∧ Sub [(1, .pointer (some ⟨b2, 0, none⟩))] e ∧ AllP [G D e 0 8 (.pointer (some ⟨b2, 0, none⟩)), G D e 1 9 (.agg #[.int .u8 p0.1.1, .int .u8 p0.1.2.1, .int .u8 p0.1.2.2.1.1, .int .u8 p0.1.2.2.1.2.1, .int .u8 p0.1.2.2.1.2.2.1, .int .u8 p0.1.2.2.1.2.2.2, .int .u8 p0.1.2.2.2.1.1, .int .u8 p0.1.2.2.2.1.2.1, .int .u8 p0.1.2.2.2.1.2.2.1, .int .u8 p0.1.2.2.2.1.2.2.2, .int .u8 p0.1.2.2.2.2.1.1, .int .u8 p0.1.2.2.2.2.1.2.1, .int .u8 p0.1.2.2.2.2.1.2.2.1, .int .u8 p0.1.2.2.2.2.1.2.2.2, .int .u8 p0.1.2.2.2.2.2.1.1, .int .u8 p0.1.2.2.2.2.2.1.2.1, .int .u8 p0.1.2.2.2.2.2.1.2.2.1, .int .u8 p0.1.2.2.2.2.2.1.2.2.2, .int .u8 p0.1.2.2.2.2.2.2.1.1, .int .u8 p0.1.2.2.2.2.2.2.1.2.1, .int .u8 p0.1.2.2.2.2.2.2.1.2.2.1, .int .u8 p0.1.2.2.2.2.2.2.1.2.2.2, .int .u8 p0.1.2.2.2.2.2.2.2.1, .int .u8 p0.1.2.2.2.2.2.2.2.2.1, .int .u8 p0.1.2.2.2.2.2.2.2.2.2.1, .int .u8 p0.1.2.2.2.2.2.2.2.2.2.2]), D 2 = true → (∃ (a11 : Option Addr) (c11 : Nat) (a12 : Option Addr) (c12 : Nat) (a13 : Option Addr) (c13 : Nat), Env.get e 10 = some (.agg #[.slice a11 r8.1.length c11, .int .i64 r8.2.1, .slice a12 r8.2.2.1.length c12, .slice a13 r8.2.2.2.length c13]) ∧ RdL (rK .i64) sx a11 c11 r8.1 ∧ RdL (rK .i64) sx a12 c12 r8.2.2.1 ∧ RdL (rP (rK .i64) (rP (rK .i64) (rK .i64))) sx a13 c13 r8.2.2.2), G D e 3 11 (.pointer (some ⟨b2, 26, none⟩)), G D e 4 12 (.agg #[.int .u8 p0.2.1.1, .int .u8 p0.2.1.2.1, .int .u8 p0.2.1.2.2.1.1, .int .u8 p0.2.1.2.2.1.2.1, .int .u8 p0.2.1.2.2.1.2.2.1, .int .u8 p0.2.1.2.2.1.2.2.2, .int .u8 p0.2.1.2.2.2.1.1, .int .u8 p0.2.1.2.2.2.1.2.1, .int .u8 p0.2.1.2.2.2.1.2.2.1, .int .u8 p0.2.1.2.2.2.1.2.2.2, .int .u8 p0.2.1.2.2.2.2.1.1, .int .u8 p0.2.1.2.2.2.2.1.2.1, .int .u8 p0.2.1.2.2.2.2.1.2.2.1, .int .u8 p0.2.1.2.2.2.2.1.2.2.2, .int .u8 p0.2.1.2.2.2.2.2.1.1, .int .u8 p0.2.1.2.2.2.2.2.1.2.1, .int .u8 p0.2.1.2.2.2.2.2.1.2.2.1, .int .u8 p0.2.1.2.2.2.2.2.1.2.2.2, .int .u8 p0.2.1.2.2.2.2.2.2.1.1, .int .u8 p0.2.1.2.2.2.2.2.2.1.2.1, .int .u8 p0.2.1.2.2.2.2.2.2.1.2.2.1, .int .u8 p0.2.1.2.2.2.2.2.2.1.2.2.2, .int .u8 p0.2.1.2.2.2.2.2.2.2.1, .int .u8 p0.2.1.2.2.2.2.2.2.2.2.1, .int .u8 p0.2.1.2.2.2.2.2.2.2.2.2.1, .int .u8 p0.2.1.2.2.2.2.2.2.2.2.2.2]), D 5 = true → (∃ (a20 : Option Addr) (c20 : Nat) (a21 : Option Addr) (c21 : Nat) (a22 : Option Addr) (c22 : Nat), Env.get e 13 = some (.agg #[.slice a20 r17.1.length c20, .int .i64 r17.2.1, .slice a21 r17.2.2.1.length c21, .slice a22 r17.2.2.2.length c22]) ∧ RdL (rK .i64) sx a20 c20 r17.1 ∧ RdL (rK .i64) sx a21 c21 r17.2.2.1 ∧ RdL (rP (rK .i64) (rP (rK .i64) (rK .i64))) sx a22 c22 r17.2.2.2), D 6 = true → (∃ (b24 : Nat), Env.get e 3 = some (.pointer (some ⟨b24, 0, none⟩))), D 7 = true → (∃ (b28 : Nat), Env.get e 4 = some (.pointer (some ⟨b28, 0, none⟩))), D 6 = true → D 8 = false → ∀ (b24 : Nat), Env.get e 3 = some (.pointer (some ⟨b24, 0, none⟩)) → Bx sx (N + 1) b24 #[.slice none 0 0, .int .i64 0, .slice none 0 0, .slice none 0 0] 34, D 8 = true → ∀ (a11 : Option Addr) (c11 : Nat) (a12 : Option Addr) (c12 : Nat) (a13 : Option Addr) (c13 : Nat) (b24 : Nat), Env.get e 10 = some (.agg #[.slice a11 r8.1.length c11, .int .i64 r8.2.1, .slice a12 r8.2.2.1.length c12, .slice a13 r8.2.2.2.length c13]) → Env.get e 3 = some (.pointer (some ⟨b24, 0, none⟩)) → Bx sx (N + 1) b24 #[.slice a11 r8.1.length c11, .int .i64 r8.2.1, .slice a12 r8.2.2.1.length c12, .slice a13 r8.2.2.2.length c13] 34, D 7 = true → D 9 = false → ∀ (b28 : Nat), Env.get e 4 = some (.pointer (some ⟨b28, 0, none⟩)) → Bx sx (N + 2) b28 #[.slice none 0 0, .int .i64 0, .slice none 0 0, .slice none 0 0] 34, D 9 = true → ∀ (a20 : Option Addr) (c20 : Nat) (a21 : Option Addr) (c21 : Nat) (a22 : Option Addr) (c22 : Nat) (b28 : Nat), Env.get e 13 = some (.agg #[.slice a20 r17.1.length c20, .int .i64 r17.2.1, .slice a21 r17.2.2.1.length c21, .slice a22 r17.2.2.2.length c22]) → Env.get e 4 = some (.pointer (some ⟨b28, 0, none⟩)) → Bx sx (N + 2) b28 #[.slice a20 r17.1.length c20, .int .i64 r17.2.1, .slice a21 r17.2.2.1.length c21, .slice a22 r17.2.2.2.length c22] 34]) (by kernel_rfl) (by kernel_rfl) (by kernel_rfl) ?_ ?_ ?_
 ·intro sz mz
  exact ⟨mz.no, (Sub.rf rfl), nofun, nofun, nofun, nofun, nofun, nofun, nofun, nofun, nofun, nofun, nofun, nofun, trivial⟩
 ·refine ⟨?_, ?_, ?_, ?_, ?_, ?_, ?_, ?_, ?_, ?_, trivial⟩
  ·rintro D e s5 ⟨im, ib, i⟩ hk hf ha
   have kn := K1 (ib 1 _ rfl)
   exact L.kns _ kn (L.fa fa27_0 Wt.no rfl rfl (L.nil (X.dk kn ⟨im, Sub.fresh ib rfl, i.u 0 (fun _ => rfl)⟩)))
  ·rintro D e s6 ⟨im, ib, i⟩ hk hf ha
   have bx2 := bx2.mv im (nor (tgN (by decide)) (tgN (by decide)))
   have kn := K1 ((i.p 0) (ha.at 0 rfl))
   exact L.kns _ kn (L.lg (j := 0) (cs := [.int .u8 p0.1.1, .int .u8 p0.1.2.1, .int .u8 p0.1.2.2.1.1, .int .u8 p0.1.2.2.1.2.1, .int .u8 p0.1.2.2.1.2.2.1, .int .u8 p0.1.2.2.1.2.2.2, .int .u8 p0.1.2.2.2.1.1, .int .u8 p0.1.2.2.2.1.2.1, .int .u8 p0.1.2.2.2.1.2.2.1, .int .u8 p0.1.2.2.2.1.2.2.2, .int .u8 p0.1.2.2.2.2.1.1, .int .u8 p0.1.2.2.2.2.1.2.1, .int .u8 p0.1.2.2.2.2.1.2.2.1, .int .u8 p0.1.2.2.2.2.1.2.2.2, .int .u8 p0.1.2.2.2.2.2.1.1, .int .u8 p0.1.2.2.2.2.2.1.2.1, .int .u8 p0.1.2.2.2.2.2.1.2.2.1, .int .u8 p0.1.2.2.2.2.2.1.2.2.2, .int .u8 p0.1.2.2.2.2.2.2.1.1, .int .u8 p0.1.2.2.2.2.2.2.1.2.1, .int .u8 p0.1.2.2.2.2.2.2.1.2.2.1, .int .u8 p0.1.2.2.2.2.2.2.1.2.2.2, .int .u8 p0.1.2.2.2.2.2.2.2.1, .int .u8 p0.1.2.2.2.2.2.2.2.2.1, .int .u8 p0.1.2.2.2.2.2.2.2.2.2.1, .int .u8 p0.1.2.2.2.2.2.2.2.2.2.2]) bx2.mem ag25 Wt.no rfl rfl rfl rfl rfl (L.nil (X.dk kn ⟨im, Sub.fresh ib rfl, i.u 1 (fun _ => rfl)⟩)))
  ·rintro D e s7 ⟨im, ib, i⟩ hk hf ha
   have kn := K1 ((i.p 1) (ha.at 1 rfl))
   refine L.kns _ kn (L.ca cf16 rfl rfl Wt.no rfl (m_overseerlaw04_Make_c (s := s7) (p0 := p0.1) (u1 := 0) (u2 := 0) er8) rfl ?_)
   rintro _ s9 m10 ⟨a11, c11, a12, c12, a13, c13, rfl, h11, h12, h13⟩
   replace h12 := h12.p
   replace h13 := h13.p
   exact L.nil (X.dk kn ⟨im.trans m10.no, Sub.fresh ib rfl, (((((i.u 2 (fun _ => ⟨a11, c11, a12, c12, a13, c13, rfl, h11, h12, h13⟩)).u 5 (fun z => let ⟨a20, c20, a21, c21, a22, c22, q, h20, h21, h22⟩ := (i.p 5) z; ⟨a20, c20, a21, c21, a22, c22, q, (h20.mono (m10.le no_No)), (h21.mono (m10.le no_No)), (h22.mono (m10.le no_No))⟩)).u 8 (fun z z2 b24 q6 => (((i.p 8) z z2 b24 q6).mv m10 no_No))).u 9 (fun z => Bool.noConfusion ((hf 8 (Nat.le_of_ble_eq_true rfl) rfl).symm.trans z))).u 10 (fun z z2 b28 q7 => (((i.p 10) z z2 b28 q7).mv m10 no_No))).u 11 (fun z a20 c20 a21 c21 a22 c22 b28 q5 q7 => (((i.p 11) z a20 c20 a21 c21 a22 c22 b28 q5 q7).mv m10 no_No))⟩)
  ·rintro D e s14 ⟨im, ib, i⟩ hk hf ha
   have kn := K1 (ib 1 _ rfl)
   exact L.kns _ kn (L.fa fa27_1 Wt.no rfl rfl (L.nil (X.dk kn ⟨im, Sub.fresh ib rfl, i.u 3 (fun _ => rfl)⟩)))
  ·rintro D e s15 ⟨im, ib, i⟩ hk hf ha
   have bx2 := bx2.mv im (nor (tgN (by decide)) (tgN (by decide)))
   have kn := K1 ((i.p 3) (ha.at 3 rfl))
   exact L.kns _ kn (L.lg (j := 26) (cs := [.int .u8 p0.2.1.1, .int .u8 p0.2.1.2.1, .int .u8 p0.2.1.2.2.1.1, .int .u8 p0.2.1.2.2.1.2.1, .int .u8 p0.2.1.2.2.1.2.2.1, .int .u8 p0.2.1.2.2.1.2.2.2, .int .u8 p0.2.1.2.2.2.1.1, .int .u8 p0.2.1.2.2.2.1.2.1, .int .u8 p0.2.1.2.2.2.1.2.2.1, .int .u8 p0.2.1.2.2.2.1.2.2.2, .int .u8 p0.2.1.2.2.2.2.1.1, .int .u8 p0.2.1.2.2.2.2.1.2.1, .int .u8 p0.2.1.2.2.2.2.1.2.2.1, .int .u8 p0.2.1.2.2.2.2.1.2.2.2, .int .u8 p0.2.1.2.2.2.2.2.1.1, .int .u8 p0.2.1.2.2.2.2.2.1.2.1, .int .u8 p0.2.1.2.2.2.2.2.1.2.2.1, .int .u8 p0.2.1.2.2.2.2.2.1.2.2.2, .int .u8 p0.2.1.2.2.2.2.2.2.1.1, .int .u8 p0.2.1.2.2.2.2.2.2.1.2.1, .int .u8 p0.2.1.2.2.2.2.2.2.1.2.2.1, .int .u8 p0.2.1.2.2.2.2.2.2.1.2.2.2, .int .u8 p0.2.1.2.2.2.2.2.2.2.1, .int .u8 p0.2.1.2.2.2.2.2.2.2.2.1, .int .u8 p0.2.1.2.2.2.2.2.2.2.2.2.1, .int .u8 p0.2.1.2.2.2.2.2.2.2.2.2.2]) bx2.mem ag25 Wt.no rfl rfl rfl rfl rfl (L.nil (X.dk kn ⟨im, Sub.fresh ib rfl, i.u 4 (fun _ => rfl)⟩)))
  ·rintro D e s16 ⟨im, ib, i⟩ hk hf ha
   have kn := K1 ((i.p 4) (ha.at 4 rfl))
   refine L.kns _ kn (L.ca cf16 rfl rfl Wt.no rfl (m_overseerlaw04_Make_c (s := s16) (p0 := p0.2.1) (u1 := 0) (u2 := 0) er17) rfl ?_)
   rintro _ s18 m19 ⟨a20, c20, a21, c21, a22, c22, rfl, h20, h21, h22⟩
   replace h21 := h21.p
   replace h22 := h22.p
   exact L.nil (X.dk kn ⟨im.trans m19.no, Sub.fresh ib rfl, (((((i.u 2 (fun z => let ⟨a11, c11, a12, c12, a13, c13, q, h11, h12, h13⟩ := (i.p 2) z; ⟨a11, c11, a12, c12, a13, c13, q, (h11.mono (m19.le no_No)), (h12.mono (m19.le no_No)), (h13.mono (m19.le no_No))⟩)).u 5 (fun _ => ⟨a20, c20, a21, c21, a22, c22, rfl, h20, h21, h22⟩)).u 8 (fun z z2 b24 q6 => (((i.p 8) z z2 b24 q6).mv m19 no_No))).u 9 (fun z a11 c11 a12 c12 a13 c13 b24 q2 q6 => (((i.p 9) z a11 c11 a12 c12 a13 c13 b24 q2 q6).mv m19 no_No))).u 10 (fun z z2 b28 q7 => (((i.p 10) z z2 b28 q7).mv m19 no_No))).u 11 (fun z => Bool.noConfusion ((hf 9 (Nat.le_of_ble_eq_true rfl) rfl).symm.trans z))⟩)
  ·rintro D e s23 ⟨im, ib, i⟩ hk hf ha
   exact L.al (N + 1) zz34 rfl Wt.no rfl fun b24 s25 m26 bx24 => L.nil (X.dr (s := s25) (e' := (3, .pointer (some ⟨b24, 0, none⟩)) :: e) (Sub.both (Sub.refl)) ⟨im.trans m26.no, Sub.fresh ib rfl, ((((((i.u 2 (fun z => let ⟨a11, c11, a12, c12, a13, c13, q, h11, h12, h13⟩ := (i.p 2) z; ⟨a11, c11, a12, c12, a13, c13, q, (h11.mono (m26.le no_No)), (h12.mono (m26.le no_No)), (h13.mono (m26.le no_No))⟩)).u 5 (fun z => let ⟨a20, c20, a21, c21, a22, c22, q, h20, h21, h22⟩ := (i.p 5) z; ⟨a20, c20, a21, c21, a22, c22, q, (h20.mono (m26.le no_No)), (h21.mono (m26.le no_No)), (h22.mono (m26.le no_No))⟩)).u 6 (fun _ => ⟨b24, rfl⟩)).u 8 (fun _ _ _ q6 => by cases (show some (.pointer (some ⟨b24, 0, none⟩) : Value) = some _ from q6); exact bx24)).u 9 (fun z => Bool.noConfusion ((hf 8 (Nat.le_of_ble_eq_true rfl) rfl).symm.trans z))).u 10 (fun z z2 b28 q7 => (((i.p 10) z z2 b28 q7).mv m26 no_No))).u 11 (fun z a20 c20 a21 c21 a22 c22 b28 q5 q7 => (((i.p 11) z a20 c20 a21 c21 a22 c22 b28 q5 q7).mv m26 no_No))⟩)
  ·rintro D e s27 ⟨im, ib, i⟩ hk hf ha
   exact L.al (N + 2) zz34 rfl Wt.no rfl fun b28 s29 m30 bx28 => L.nil (X.dr (s := s29) (e' := (4, .pointer (some ⟨b28, 0, none⟩)) :: e) (Sub.both (Sub.refl)) ⟨im.trans m30.no, Sub.fresh ib rfl, ((((((i.u 2 (fun z => let ⟨a11, c11, a12, c12, a13, c13, q, h11, h12, h13⟩ := (i.p 2) z; ⟨a11, c11, a12, c12, a13, c13, q, (h11.mono (m30.le no_No)), (h12.mono (m30.le no_No)), (h13.mono (m30.le no_No))⟩)).u 5 (fun z => let ⟨a20, c20, a21, c21, a22, c22, q, h20, h21, h22⟩ := (i.p 5) z; ⟨a20, c20, a21, c21, a22, c22, q, (h20.mono (m30.le no_No)), (h21.mono (m30.le no_No)), (h22.mono (m30.le no_No))⟩)).u 7 (fun _ => ⟨b28, rfl⟩)).u 8 (fun z z2 b24 q6 => (((i.p 8) z z2 b24 q6).mv m30 no_No))).u 9 (fun z a11 c11 a12 c12 a13 c13 b24 q2 q6 => (((i.p 9) z a11 c11 a12 c12 a13 c13 b24 q2 q6).mv m30 no_No))).u 10 (fun _ _ _ q7 => by cases (show some (.pointer (some ⟨b28, 0, none⟩) : Value) = some _ from q7); exact bx28)).u 11 (fun z => Bool.noConfusion ((hf 9 (Nat.le_of_ble_eq_true rfl) rfl).symm.trans z))⟩)
  ·rintro D e s31 ⟨im, ib, i⟩ hk hf ha
   obtain ⟨a11, c11, a12, c12, a13, c13, g2_, h11, h12, h13⟩ := (i.p 2) (ha.at 2 rfl)
   obtain ⟨b24, g6_⟩ := (i.p 6) (ha.at 6 rfl)
   obtain bx24 := (i.p 8) (ha.at 6 rfl) hk b24 g6_
   have kn := K2 g6_ g2_
   exact L.kns _ kn (L.st (c := [.slice a11 r8.1.length c11, .int .i64 r8.2.1, .slice a12 r8.2.2.1.length c12, .slice a13 r8.2.2.2.length c13]) (cs' := #[.slice a11 r8.1.length c11, .int .i64 r8.2.1, .slice a12 r8.2.2.1.length c12, .slice a13 r8.2.2.2.length c13]) bx24 ag34.sz Wt.no rfl rfl rfl rfl rfl (Nat.le_of_ble_eq_true rfl) rfl fun s32 m33 bx24 => L.nil (X.dn kn ⟨im.trans (m33.one (.inl rfl)), ib, (((((i.u 2 (fun z => let ⟨a11, c11, a12, c12, a13, c13, q, h11, h12, h13⟩ := (i.p 2) z; ⟨a11, c11, a12, c12, a13, c13, q, (h11.mono (m33.le (tg0 hN))), (h12.mono (m33.le (tg0 hN))), (h13.mono (m33.le (tg0 hN)))⟩)).u 5 (fun z => let ⟨a20, c20, a21, c21, a22, c22, q, h20, h21, h22⟩ := (i.p 5) z; ⟨a20, c20, a21, c21, a22, c22, q, (h20.mono (m33.le (tg0 hN))), (h21.mono (m33.le (tg0 hN))), (h22.mono (m33.le (tg0 hN)))⟩)).u 8 (fun _ z => Bool.noConfusion (show true = false from z))).u 9 (fun _ _ _ _ _ _ _ _ q2 q6 => by cases g2_.symm.trans q2; cases g6_.symm.trans q6; exact bx24)).u 10 (fun z z2 b28 q7 => (((i.p 10) z z2 b28 q7).mv m33 (tgN (by decide))))).u 11 (fun z a20 c20 a21 c21 a22 c22 b28 q5 q7 => (((i.p 11) z a20 c20 a21 c21 a22 c22 b28 q5 q7).mv m33 (tgN (by decide))))⟩))
  rintro D e s34 ⟨im, ib, i⟩ hk hf ha
  obtain ⟨a20, c20, a21, c21, a22, c22, g5_, h20, h21, h22⟩ := (i.p 5) (ha.at 5 rfl)
  obtain ⟨b28, g7_⟩ := (i.p 7) (ha.at 7 rfl)
  obtain bx28 := (i.p 10) (ha.at 7 rfl) hk b28 g7_
  have kn := K2 g7_ g5_
  exact L.kns _ kn (L.st (c := [.slice a20 r17.1.length c20, .int .i64 r17.2.1, .slice a21 r17.2.2.1.length c21, .slice a22 r17.2.2.2.length c22]) (cs' := #[.slice a20 r17.1.length c20, .int .i64 r17.2.1, .slice a21 r17.2.2.1.length c21, .slice a22 r17.2.2.2.length c22]) bx28 ag34.sz Wt.no rfl rfl rfl rfl rfl (Nat.le_of_ble_eq_true rfl) rfl fun s35 m36 bx28 => L.nil (X.dn kn ⟨im.trans (m36.one (.inr rfl)), ib, (((((i.u 2 (fun z => let ⟨a11, c11, a12, c12, a13, c13, q, h11, h12, h13⟩ := (i.p 2) z; ⟨a11, c11, a12, c12, a13, c13, q, (h11.mono (m36.le (tg0 hN))), (h12.mono (m36.le (tg0 hN))), (h13.mono (m36.le (tg0 hN)))⟩)).u 5 (fun z => let ⟨a20, c20, a21, c21, a22, c22, q, h20, h21, h22⟩ := (i.p 5) z; ⟨a20, c20, a21, c21, a22, c22, q, (h20.mono (m36.le (tg0 hN))), (h21.mono (m36.le (tg0 hN))), (h22.mono (m36.le (tg0 hN)))⟩)).u 8 (fun z z2 b24 q6 => (((i.p 8) z z2 b24 q6).mv m36 (tgN (by decide))))).u 9 (fun z a11 c11 a12 c12 a13 c13 b24 q2 q6 => (((i.p 9) z a11 c11 a12 c12 a13 c13 b24 q2 q6).mv m36 (tgN (by decide))))).u 10 (fun _ z => Bool.noConfusion (show true = false from z))).u 11 (fun _ _ _ _ _ _ _ _ q5 q7 => by cases g5_.symm.trans q5; cases g7_.symm.trans q7; exact bx28)⟩))
 rintro D e s37 hD ⟨im, ib, i⟩
 obtain ⟨a11, c11, a12, c12, a13, c13, g2_, h11, h12, h13⟩ := (i.p 2) (hD 2 rfl)
 obtain ⟨a20, c20, a21, c21, a22, c22, g5_, h20, h21, h22⟩ := (i.p 5) (hD 5 rfl)
 obtain ⟨b24, g6_⟩ := (i.p 6) (hD 6 rfl)
 obtain ⟨b28, g7_⟩ := (i.p 7) (hD 7 rfl)
 obtain bx24 := (i.p 9) (hD 8 rfl) a11 c11 a12 c12 a13 c13 b24 g2_ g6_
 obtain bx28 := (i.p 11) (hD 9 rfl) a20 c20 a21 c21 a22 c22 b28 g5_ g7_
 have bx2 := bx2.mv im (nor (tgN (by decide)) (tgN (by decide)))
 have m0 := m0.trans (im.weak fun _ e => by rcases e with e | e; (rw [e]; exact up); (rw [e]; exact up))
 refine X.sub (e' := [(4, .pointer (some ⟨b28, 0, none⟩)), (3, .pointer (some ⟨b24, 0, none⟩)), (1, .pointer (some ⟨b2, 0, none⟩))]) ?_ (Sub.cons g7_ (Sub.cons g6_ (Sub.cons (ib 1 _ rfl) Sub.nil)))
 refine X.seqN (E.seqJ (fun e w => ∃ (s42 : Sig) (l38 : List Int) (l40 : List (Int × Int × Int)) (a39 : Option Addr) (c39 : Nat) (a41 : Option Addr) (c41 : Nat), m_overseerlaw24_list_j1 r8 r17 l38 l40 = some r ∧ Mv (Up N No) s s42 ∧ RdL (rK .i64) s42 a11 c11 r8.1 ∧ RdL (rK .i64) s42 a12 c12 r8.2.2.1 ∧ RdL (rP (rK .i64) (rP (rK .i64) (rK .i64))) s42 a13 c13 r8.2.2.2 ∧ RdL (rK .i64) s42 a39 c39 l38 ∧ RdL (rK .i64) s42 a21 c21 r17.2.2.1 ∧ RdL (rP (rK .i64) (rP (rK .i64) (rK .i64))) s42 a41 c41 l40 ∧ Bx s42 (N + 1) b24 #[.slice a11 r8.1.length c11, .int .i64 r8.2.1, .slice a12 r8.2.2.1.length c12, .slice a13 r8.2.2.2.length c13] 34 ∧ Bx s42 (N + 2) b28 #[.slice a39 l38.length c39, .int .i64 r17.2.1, .slice a21 r17.2.2.1.length c21, .slice a41 l40.length c41] 34 ∧ e = [(4, .pointer (some ⟨b28, 0, none⟩)), (3, .pointer (some ⟨b24, 0, none⟩))] ∧ w = s42.w) ?_ ?_)
 ·rintro _ _ ⟨s42, l38, l40, a39, c39, a41, c41, hm, m0, h11, h12, h13, h39, h21, h41, bx24, bx28, rfl, rfl⟩
  unfold m_overseerlaw24_list_j1 at hm
  refine E.seq (E.reg (L.lg (j := 0) (cs := [.slice a11 r8.1.length c11, .int .i64 r8.2.1, .slice a12 r8.2.2.1.length c12, .slice a13 r8.2.2.2.length c13]) bx24.mem ag34 Wt.no rfl rfl rfl rfl rfl (L.lg (j := 0) (cs := [.slice a39 l38.length c39, .int .i64 r17.2.1, .slice a21 r17.2.2.1.length c21, .slice a41 l40.length c41]) bx28.mem ag34 Wt.no rfl rfl rfl rfl rfl (L.bsE (k := 2) (cs := [.slice a11 r8.1.length c11, .int .i64 r8.2.1, .slice a12 r8.2.2.1.length c12, .slice a13 r8.2.2.2.length c13, .slice a39 l38.length c39, .int .i64 r17.2.1, .slice a21 r17.2.2.1.length c21, .slice a41 l40.length c41]) (N + 6) bs29 (Nat.le_of_ble_eq_true rfl) Wt.no rfl rfl rfl rfl fun b44 s45 m46 bx44 => ?_))))
  replace m0 := m0.trans m46.no
  replace h11 := h11.mono (m46.le no_No)
  replace h12 := h12.mono (m46.le no_No)
  replace h13 := h13.mono (m46.le no_No)
  replace h39 := h39.mono (m46.le no_No)
  replace h21 := h21.mono (m46.le no_No)
  replace h41 := h41.mono (m46.le no_No)
  have h44 := Bx.row (r := (rP (rL (rK .i64)) (rP (rK .i64) (rP (rL (rK .i64)) (rL (rP (rK .i64) (rP (rK .i64) (rK .i64)))))))) (xs := ([r8, (l38, r17.2.1, r17.2.2.1, l40)] : List (List Int × Int × List Int × (List (Int × Int × Int))))) bx44 ⟨[.slice a11 r8.1.length c11, .int .i64 r8.2.1, .slice a12 r8.2.2.1.length c12, .slice a13 r8.2.2.2.length c13], _, rfl, ⟨[.slice a11 r8.1.length c11], [.int .i64 r8.2.1, .slice a12 r8.2.2.1.length c12, .slice a13 r8.2.2.2.length c13], rfl, ⟨_, _, rfl, h11⟩, ⟨[.int .i64 r8.2.1], [.slice a12 r8.2.2.1.length c12, .slice a13 r8.2.2.2.length c13], rfl, rfl, ⟨[.slice a12 r8.2.2.1.length c12], [.slice a13 r8.2.2.2.length c13], rfl, ⟨_, _, rfl, h12⟩, ⟨_, _, rfl, h13⟩⟩⟩⟩, ⟨[.slice a39 l38.length c39, .int .i64 r17.2.1, .slice a21 r17.2.2.1.length c21, .slice a41 l40.length c41], _, rfl, ⟨[.slice a39 l38.length c39], [.int .i64 r17.2.1, .slice a21 r17.2.2.1.length c21, .slice a41 l40.length c41], rfl, ⟨_, _, rfl, h39⟩, ⟨[.int .i64 r17.2.1], [.slice a21 r17.2.2.1.length c21, .slice a41 l40.length c41], rfl, rfl, ⟨[.slice a21 r17.2.2.1.length c21], [.slice a41 l40.length c41], rfl, ⟨_, _, rfl, h21⟩, ⟨_, _, rfl, h41⟩⟩⟩⟩, rfl⟩⟩ (Nat.le_of_ble_eq_true rfl)
  refine L.as Wt.no rfl rfl (L.nil (X.seqN (E.ret ?_)))
  obtain rfl := Option.some.inj hm
  exact X.rt (.inl rfl) Tryd.results9 (Rs.tmp rfl Rs.nil) rfl ⟨_, (s45).ren N (fun k => cond (Nat.beq k 6) u0 (0)), rfl, rfl, m0.ren hNb, ⟨(some ⟨b44, 0, none⟩), ([r8, (l38, r17.2.1, r17.2.2.1, l40)] : List (List Int × Int × List Int × (List (Int × Int × Int)))).length, rfl, (h44.ren hN)⟩⟩
 intro Jj43
 refine E.seq (E.reg (L.fa fa27_2 Wt.no rfl rfl (L.ld (j := 52) bx2.mem nag4 Wt.no rfl rfl rfl rfl (L.not Wt.no rfl rfl (L.nil (X.seqN ?_))))))
 rcases ifS hm with ⟨hc, hm⟩ | ⟨hc, hm⟩
 ·refine E.cT rfl hc (E.seq (E.reg (L.bsE (k := 4) (cs := [.int .i64 2, .int .i64 3, .int .i64 4, .int .i64 5]) 0 bs31 (Nat.le_of_ble_eq_true rfl) Wt.no rfl rfl rfl rfl fun b47 s48 m49 bx47 => ?_)))
  replace m0 := m0.trans m49.no
  replace bx24 := bx24.mv m49 no_No
  replace h11 := h11.mono (m49.le no_No)
  replace h12 := h12.mono (m49.le no_No)
  replace h13 := h13.mono (m49.le no_No)
  replace bx28 := bx28.mv m49 no_No
  replace h20 := h20.mono (m49.le no_No)
  replace h21 := h21.mono (m49.le no_No)
  replace h22 := h22.mono (m49.le no_No)
  have h47 := Bx.rdL (r := (rK .i64)) (xs := ([2, 3, 4, 5] : List Int)) bx47 ⟨[.int .i64 2], _, rfl, rfl, ⟨[.int .i64 3], _, rfl, rfl, ⟨[.int .i64 4], _, rfl, rfl, ⟨[.int .i64 5], _, rfl, rfl, rfl⟩⟩⟩⟩ (Nat.le_of_ble_eq_true rfl)
  refine L.fa fa34_1 Wt.no rfl rfl (L.ld (j := 1) bx28.mem nag3 Wt.no rfl rfl rfl rfl (L.fa fa34_2 Wt.no rfl rfl (L.ld (j := 2) bx28.mem nag31 Wt.no rfl rfl rfl rfl (L.bu (cs := [.slice (some ⟨b47, 0, none⟩) ([2, 3, 4, 5] : List Int).length (([2, 3, 4, 5] : List Int).length), .int .i64 r17.2.1, .slice a21 r17.2.2.1.length c21, .slice none 0 0]) pl34 Wt.no rfl rfl rfl (L.al (N + 3) zz34 rfl Wt.no rfl fun b50 s51 m52 bx50 => ?_)))))
  replace m0 := m0.trans m52.no
  replace h47 := h47.mono (m52.le no_No)
  replace h21 := h21.mono (m52.le no_No)
  replace bx24 := bx24.mv m52 no_No
  replace h11 := h11.mono (m52.le no_No)
  replace h12 := h12.mono (m52.le no_No)
  replace h13 := h13.mono (m52.le no_No)
  replace bx28 := bx28.mv m52 no_No
  replace h20 := h20.mono (m52.le no_No)
  replace h22 := h22.mono (m52.le no_No)
  refine L.st (c := [.slice (some ⟨b47, 0, none⟩) ([2, 3, 4, 5] : List Int).length (([2, 3, 4, 5] : List Int).length), .int .i64 r17.2.1, .slice a21 r17.2.2.1.length c21, .slice none 0 0]) (cs' := #[.slice (some ⟨b47, 0, none⟩) ([2, 3, 4, 5] : List Int).length (([2, 3, 4, 5] : List Int).length), .int .i64 r17.2.1, .slice a21 r17.2.2.1.length c21, .slice none 0 0]) bx50 ag34.sz Wt.no rfl rfl rfl rfl rfl (Nat.le_of_ble_eq_true rfl) rfl fun s53 m54 bx50 => ?_
  replace m0 := m0.trans (m54.one up)
  replace bx24 := bx24.mv m54 (tgN (by decide))
  replace h11 := h11.mono (m54.le (tg0 hN))
  replace h12 := h12.mono (m54.le (tg0 hN))
  replace h13 := h13.mono (m54.le (tg0 hN))
  replace bx28 := bx28.mv m54 (tgN (by decide))
  replace h20 := h20.mono (m54.le (tg0 hN))
  replace h21 := h21.mono (m54.le (tg0 hN))
  replace h22 := h22.mono (m54.le (tg0 hN))
  replace h47 := h47.mono (m54.le (tg0 hN))
  refine L.nil (X.seqN (E.seq (E.seq (E.reg (L.as Wt.no rfl rfl (L.nil (X.seqN (E.block ?_))))))))
  obtain ⟨o79, eo79, hm⟩ := bindS hm
  refine E.cut (x := .exit 0) (fun e w => ∃ (s83 : Sig) (a81 : Option Addr) (c81 : Nat), Mv (Up N No) s s83 ∧ RdL (rK .i64) s83 a11 c11 r8.1 ∧ RdL (rK .i64) s83 a12 c12 r8.2.2.1 ∧ RdL (rP (rK .i64) (rP (rK .i64) (rK .i64))) s83 a13 c13 r8.2.2.2 ∧ RdL (rK .i64) s83 a20 c20 r17.1 ∧ RdL (rK .i64) s83 a21 c21 r17.2.2.1 ∧ RdL (rP (rK .i64) (rP (rK .i64) (rK .i64))) s83 a22 c22 r17.2.2.2 ∧ RdL (rK .i64) s83 (some ⟨b47, 0, none⟩) (([2, 3, 4, 5] : List Int).length) ([2, 3, 4, 5] : List Int) ∧ RowT (rP (rK .i64) (rP (rK .i64) (rK .i64))) s83 (N + 5) 58 a81 c81 o79 ∧ Bx s83 (N + 1) b24 #[.slice a11 r8.1.length c11, .int .i64 r8.2.1, .slice a12 r8.2.2.1.length c12, .slice a13 r8.2.2.2.length c13] 34 ∧ Bx s83 (N + 2) b28 #[.slice a20 r17.1.length c20, .int .i64 r17.2.1, .slice a21 r17.2.2.1.length c21, .slice a22 r17.2.2.2.length c22] 34 ∧ Bx s83 (N + 3) b50 #[.slice (some ⟨b47, 0, none⟩) ([2, 3, 4, 5] : List Int).length (([2, 3, 4, 5] : List Int).length), .int .i64 r17.2.1, .slice a21 r17.2.2.1.length c21, .slice a81 o79.length c81] 34 ∧ e = [(5, .pointer (some ⟨b50, 0, none⟩)), (4, .pointer (some ⟨b28, 0, none⟩)), (3, .pointer (some ⟨b24, 0, none⟩))] ∧ w = s83.w) ?_ ?_
  ·rintro _ _ ⟨s83, a81, c81, m0, h11, h12, h13, h20, h21, h22, h47, h81, bx24, bx28, bx50, rfl, rfl⟩
   refine X.blkE (X.seqN (E.reg (L.lg (j := 0) (cs := [.slice (some ⟨b47, 0, none⟩) ([2, 3, 4, 5] : List Int).length (([2, 3, 4, 5] : List Int).length), .int .i64 r17.2.1, .slice a21 r17.2.2.1.length c21, .slice a81 o79.length c81]) bx50.mem ag34 Wt.no rfl rfl rfl rfl rfl (L.st (c := [.slice (some ⟨b47, 0, none⟩) ([2, 3, 4, 5] : List Int).length (([2, 3, 4, 5] : List Int).length), .int .i64 r17.2.1, .slice a21 r17.2.2.1.length c21, .slice a81 o79.length c81]) (cs' := #[.slice (some ⟨b47, 0, none⟩) ([2, 3, 4, 5] : List Int).length (([2, 3, 4, 5] : List Int).length), .int .i64 r17.2.1, .slice a21 r17.2.2.1.length c21, .slice a81 o79.length c81]) bx28 ag34.sz Wt.no rfl rfl rfl rfl rfl (Nat.le_of_ble_eq_true rfl) rfl fun s84 m85 bx28 => ?_))))
   replace m0 := m0.trans (m85.one up)
   replace bx24 := bx24.mv m85 (tgN (by decide))
   replace h11 := h11.mono (m85.le (tg0 hN))
   replace h12 := h12.mono (m85.le (tg0 hN))
   replace h13 := h13.mono (m85.le (tg0 hN))
   replace h47 := h47.mono (m85.le (tg0 hN))
   replace h21 := h21.mono (m85.le (tg0 hN))
   replace h81 := h81.mv m85 (tgN (by decide)) (tg0 hN)
   refine L.nil ?_
   have m86 := Sig.fz_mv (N + 5) s84
   replace h81 := h81.fz (tgn hN)
   replace m0 := m0.trans (m86.one up)
   replace bx28 := bx28.mv m86 (tgN (by decide))
   replace h47 := h47.mono (m86.le (tg0 hN))
   replace h21 := h21.mono (m86.le (tg0 hN))
   replace bx24 := bx24.mv m86 (tgN (by decide))
   replace h11 := h11.mono (m86.le (tg0 hN))
   replace h12 := h12.mono (m86.le (tg0 hN))
   replace h13 := h13.mono (m86.le (tg0 hN))
   exact X.sub (Jj43 _ _ ⟨(Sig.fz (N + 5) s84), ([2, 3, 4, 5] : List Int), o79, (some ⟨b47, 0, none⟩), ([2, 3, 4, 5] : List Int).length, a81, c81, hm, m0, h11, h12, h13, h47, h21, h81, bx24, bx28, rfl, rfl⟩) (Sub.rf rfl)
  intro K87
  refine E.iter (fun (st79 : Int × (List (Int × Int × Int))) (e : List (Nat × Value)) (w : World) => ∃ (s82 : Sig) (a57 : Option Addr) (c57 : Nat), Mv (Up N No) s s82 ∧ RdL (rK .i64) s82 a11 c11 r8.1 ∧ RdL (rK .i64) s82 a12 c12 r8.2.2.1 ∧ RdL (rP (rK .i64) (rP (rK .i64) (rK .i64))) s82 a13 c13 r8.2.2.2 ∧ RdL (rK .i64) s82 a20 c20 r17.1 ∧ RdL (rK .i64) s82 a21 c21 r17.2.2.1 ∧ RdL (rP (rK .i64) (rP (rK .i64) (rK .i64))) s82 a22 c22 r17.2.2.2 ∧ RdL (rK .i64) s82 (some ⟨b47, 0, none⟩) (([2, 3, 4, 5] : List Int).length) ([2, 3, 4, 5] : List Int) ∧ RowT (rP (rK .i64) (rP (rK .i64) (rK .i64))) s82 (N + 5) 58 a57 c57 st79.2 ∧ Bx s82 (N + 1) b24 #[.slice a11 r8.1.length c11, .int .i64 r8.2.1, .slice a12 r8.2.2.1.length c12, .slice a13 r8.2.2.2.length c13] 34 ∧ Bx s82 (N + 2) b28 #[.slice a20 r17.1.length c20, .int .i64 r17.2.1, .slice a21 r17.2.2.1.length c21, .slice a22 r17.2.2.2.length c22] 34 ∧ Bx s82 (N + 3) b50 #[.slice (some ⟨b47, 0, none⟩) ([2, 3, 4, 5] : List Int).length (([2, 3, 4, 5] : List Int).length), .int .i64 r17.2.1, .slice a21 r17.2.2.1.length c21, .slice a57 st79.2.length c57] 34 ∧ e = [(6, .int .i64 st79.1), (5, .pointer (some ⟨b50, 0, none⟩)), (4, .pointer (some ⟨b28, 0, none⟩)), (3, .pointer (some ⟨b24, 0, none⟩))] ∧ w = s82.w) eo79 ⟨s53, none, 0, m0, h11, h12, h13, h20, h21, h22, h47, RowT.nil, bx24, bx28, bx50, rfl, rfl⟩ (Sub.rf rfl) ?_
  rintro st79 res79 hm ih79 ho79 _ _ ⟨s82, a57, c57, m0, h11, h12, h13, h20, h21, h22, h47, h57, bx24, bx28, bx50, rfl, rfl⟩
  unfold m_overseerlaw24_list_l1 at hm
  refine E.seq (E.seq (E.reg (L.mv Wt.no rfl rfl (L.fa fa34_3 Wt.no rfl rfl (L.ld (j := 3) bx28.mem nag32 Wt.no rfl rfl rfl rfl (L.len sl32 Wt.no rfl rfl (L.bi Wt.no rfl rfl rfl rfl (L.nil (X.seqN ?_)))))))))
  rcases ifS hm with ⟨hc, hm⟩ | ⟨hc, hm⟩
  ·refine E.cT rfl hc (E.skip (X.seqN (E.seq (E.block (E.seq (E.reg (L.fa fa34_3 Wt.no rfl rfl (L.ld (j := 3) bx28.mem nag32 Wt.no rfl rfl rfl rfl (L.mv Wt.no rfl rfl ?_)))))))))
   obtain ⟨x88, ex88, hm⟩ := bindS hm
   refine L.ix (r := (rP (rK .i64) (rP (rK .i64) (rK .i64)))) sl32 h22 Wt.no rfl rfl ex88 rfl fun b89 o89 cc89 me89 rd89 => ?_
   obtain ⟨_, _, rfl, rfl, ⟨_, _, rfl, rfl, rfl⟩⟩ := rd89
   refine L.lg (j := 0) (cs := [.int .i64 x88.1, .int .i64 x88.2.1, .int .i64 x88.2.2]) me89 ag58 Wt.no rfl rfl rfl rfl rfl (L.al (N + 4) zz58 rfl Wt.no rfl fun b90 s91 m92 bx90 => ?_)
   replace m0 := m0.trans m92.no
   replace bx24 := bx24.mv m92 no_No
   replace h11 := h11.mono (m92.le no_No)
   replace h12 := h12.mono (m92.le no_No)
   replace h13 := h13.mono (m92.le no_No)
   replace bx28 := bx28.mv m92 no_No
   replace h20 := h20.mono (m92.le no_No)
   replace h21 := h21.mono (m92.le no_No)
   replace h22 := h22.mono (m92.le no_No)
   replace bx50 := bx50.mv m92 no_No
   replace h47 := h47.mono (m92.le no_No)
   replace h57 := h57.mv m92 no_No no_No
   refine L.st (c := [.int .i64 x88.1, .int .i64 x88.2.1, .int .i64 x88.2.2]) (cs' := #[.int .i64 x88.1, .int .i64 x88.2.1, .int .i64 x88.2.2]) bx90 ag58.sz Wt.no rfl rfl rfl rfl rfl (Nat.le_of_ble_eq_true rfl) rfl fun s93 m94 bx90 => ?_
   replace m0 := m0.trans (m94.one up)
   replace bx24 := bx24.mv m94 (tgN (by decide))
   replace h11 := h11.mono (m94.le (tg0 hN))
   replace h12 := h12.mono (m94.le (tg0 hN))
   replace h13 := h13.mono (m94.le (tg0 hN))
   replace bx28 := bx28.mv m94 (tgN (by decide))
   replace h20 := h20.mono (m94.le (tg0 hN))
   replace h21 := h21.mono (m94.le (tg0 hN))
   replace h22 := h22.mono (m94.le (tg0 hN))
   replace bx50 := bx50.mv m94 (tgN (by decide))
   replace h47 := h47.mono (m94.le (tg0 hN))
   replace h57 := h57.mv m94 (tgN (by decide)) (tg0 hN)
   refine L.nil (X.seqN (E.seq (E.reg (L.fa fa58_1 Wt.no rfl rfl (L.ld (j := 1) bx90.mem nag3 Wt.no rfl rfl rfl rfl (L.bi Wt.no rfl rfl rfl rfl (L.fa fa58_1 Wt.no rfl rfl (L.st (c := [.int .i64 (W (x88.2.1 + 2))]) (cs' := #[.int .i64 x88.1, .int .i64 (W (x88.2.1 + 2)), .int .i64 x88.2.2]) bx90 nag3.sz Wt.no rfl rfl rfl rfl rfl (Nat.le_of_ble_eq_true rfl) rfl fun s95 m96 bx90 => ?_))))))))
   replace m0 := m0.trans (m96.one up)
   replace bx24 := bx24.mv m96 (tgN (by decide))
   replace h11 := h11.mono (m96.le (tg0 hN))
   replace h12 := h12.mono (m96.le (tg0 hN))
   replace h13 := h13.mono (m96.le (tg0 hN))
   replace bx28 := bx28.mv m96 (tgN (by decide))
   replace h20 := h20.mono (m96.le (tg0 hN))
   replace h21 := h21.mono (m96.le (tg0 hN))
   replace h22 := h22.mono (m96.le (tg0 hN))
   replace bx50 := bx50.mv m96 (tgN (by decide))
   replace h47 := h47.mono (m96.le (tg0 hN))
   replace h57 := h57.mv m96 (tgN (by decide)) (tg0 hN)
   refine L.nil (X.seqN (E.reg (L.fa fa34_3 Wt.no rfl rfl (L.ld (j := 3) bx50.mem nag32 Wt.no rfl rfl rfl rfl (L.lg (j := 0) (cs := [.int .i64 x88.1, .int .i64 (W (x88.2.1 + 2)), .int .i64 x88.2.2]) bx90.mem ag58 Wt.no rfl rfl rfl rfl rfl (L.bsE (k := 1) (cs := [.int .i64 x88.1, .int .i64 (W (x88.2.1 + 2)), .int .i64 x88.2.2]) 0 bs32 (Nat.le_of_ble_eq_true rfl) Wt.no rfl rfl rfl rfl fun b97 s98 m99 bx97 => ?_))))))
   replace m0 := m0.trans m99.no
   replace h57 := h57.mv m99 no_No no_No
   replace bx24 := bx24.mv m99 no_No
   replace h11 := h11.mono (m99.le no_No)
   replace h12 := h12.mono (m99.le no_No)
   replace h13 := h13.mono (m99.le no_No)
   replace bx28 := bx28.mv m99 no_No
   replace h20 := h20.mono (m99.le no_No)
   replace h21 := h21.mono (m99.le no_No)
   replace h22 := h22.mono (m99.le no_No)
   replace bx50 := bx50.mv m99 no_No
   replace h47 := h47.mono (m99.le no_No)
   have h97 := Bx.rdL (r := (rP (rK .i64) (rP (rK .i64) (rK .i64)))) (xs := ([(x88.1, W (x88.2.1 + 2), x88.2.2)] : List (Int × Int × Int))) bx97 ⟨[.int .i64 x88.1, .int .i64 (W (x88.2.1 + 2)), .int .i64 x88.2.2], _, rfl, ⟨[.int .i64 x88.1], [.int .i64 (W (x88.2.1 + 2)), .int .i64 x88.2.2], rfl, rfl, ⟨[.int .i64 (W (x88.2.1 + 2))], [.int .i64 x88.2.2], rfl, rfl, rfl⟩⟩, rfl⟩ (Nat.le_of_ble_eq_true rfl)
   obtain ⟨x100, ex100, hm⟩ := bindS hm
   refine L.ap (r := (rP (rK .i64) (rP (rK .i64) (rK .i64)))) Tryd.underlying32 el58 rfl (tgp hN) h57 h97.wk Wt.no rfl rfl ex100 rfl fun a101 c101 s102 m103 h101 => ?_
   replace m0 := m0.trans (m103.one up)
   replace bx24 := bx24.mv m103 (tgN (by decide))
   replace h11 := h11.mono (m103.le (tg0 hN))
   replace h12 := h12.mono (m103.le (tg0 hN))
   replace h13 := h13.mono (m103.le (tg0 hN))
   replace bx28 := bx28.mv m103 (tgN (by decide))
   replace h20 := h20.mono (m103.le (tg0 hN))
   replace h21 := h21.mono (m103.le (tg0 hN))
   replace h22 := h22.mono (m103.le (tg0 hN))
   replace bx50 := bx50.mv m103 (tgN (by decide))
   replace h47 := h47.mono (m103.le (tg0 hN))
   refine L.fa fa34_3 Wt.no rfl rfl (L.st (c := [.slice a101 x100.length c101]) (cs' := #[.slice (some ⟨b47, 0, none⟩) ([2, 3, 4, 5] : List Int).length (([2, 3, 4, 5] : List Int).length), .int .i64 r17.2.1, .slice a21 r17.2.2.1.length c21, .slice a101 x100.length c101]) bx50 nag32.sz Wt.no rfl rfl rfl rfl rfl (Nat.le_of_ble_eq_true rfl) rfl fun s104 m105 bx50 => ?_)
   replace m0 := m0.trans (m105.one up)
   replace bx24 := bx24.mv m105 (tgN (by decide))
   replace h11 := h11.mono (m105.le (tg0 hN))
   replace h12 := h12.mono (m105.le (tg0 hN))
   replace h13 := h13.mono (m105.le (tg0 hN))
   replace bx28 := bx28.mv m105 (tgN (by decide))
   replace h20 := h20.mono (m105.le (tg0 hN))
   replace h21 := h21.mono (m105.le (tg0 hN))
   replace h22 := h22.mono (m105.le (tg0 hN))
   replace h47 := h47.mono (m105.le (tg0 hN))
   replace h101 := h101.mv m105 (tgN (by decide)) (tg0 hN)
   exact L.nil (X.blkN (X.seqN (E.reg (L.mv Wt.no rfl rfl (L.bi Wt.no rfl rfl rfl rfl (L.as Wt.no rfl rfl (L.nil (X.sub (ih79 _ (Option.some.inj hm).symm _ _ ⟨s104, a101, c101, m0, h11, h12, h13, h20, h21, h22, h47, h101, bx24, bx28, bx50, rfl, rfl⟩) (Sub.rf rfl)))))))))
  refine E.cF rfl hc (E.exit (X.seqX (X.seqX ?_)))
  have hx := ho79 _ (Option.some.inj hm).symm
  subst hx
  exact X.sub (K87 _ _ ⟨s82, a57, c57, m0, h11, h12, h13, h20, h21, h22, h47, h57, bx24, bx28, bx50, rfl, rfl⟩) (Sub.rf rfl)
 exact E.cF rfl hc (E.skip (X.sub (Jj43 _ _ ⟨s37, r17.1, r17.2.2.2, a20, c20, a22, c22, hm, m0, h11, h12, h13, h20, h21, h22, bx24, bx28, rfl, rfl⟩) (Sub.rf rfl)))

noncomputable def m_overseerlaw24_from_j1 (st221 : Int × List Bool × List Int) (l228 : List Int) (l230 : List Bool) : Option ((Int × List Bool × List Int) ⊕ (List Bool × List Int)) :=
  some (.inl (W (st221.1 + 1), l230, l228))
noncomputable def m_overseerlaw24_from_j2 (st221 : Int × List Bool × List Int) (x233 : Int × Int × Int) (b235 : Bool) : Option ((Int × List Bool × List Int) ⊕ (List Bool × List Int)) :=
  if b235 then
    (idx st221.2.1 x233.2.2).bind fun x238 =>
    (upd st221.2.1 x233.2.2 true).bind fun x240 =>
    (app st221.2.2 ([x233.2.2] : List Int)).bind fun x246 =>
    m_overseerlaw24_from_j1 st221 x246 x240
  else
    m_overseerlaw24_from_j1 st221 st221.2.2 st221.2.1
noncomputable def m_overseerlaw24_from_l2 (p0 : List Int × Int × List Int × (List (Int × Int × Int))) (st153 : Int × List Bool × List Int) (st221 : Int × List Bool × List Int) : Option ((Int × List Bool × List Int) ⊕ (List Bool × List Int)) :=
  if decide (st221.1 < (p0.2.2.2.length : Int)) then
    (idx p0.2.2.2 st221.1).bind fun x233 =>
    (idx p0.2.2.2 st221.1).bind fun x254 =>
    (idx st221.2.2 st153.1).bind fun x261 =>
    if (x254.1 == x261) then
      (idx st221.2.1 x233.2.2).bind fun x270 =>
      m_overseerlaw24_from_j2 st221 x233 (!x270)
    else
      m_overseerlaw24_from_j2 st221 x233 false
  else
    some (.inr st221.2)
noncomputable def m_overseerlaw24_from_l1 (p0 : List Int × Int × List Int × (List (Int × Int × Int))) (st153 : Int × List Bool × List Int) : Option ((Int × List Bool × List Int) ⊕ (List Bool)) :=
  if decide (st153.1 < (st153.2.2.length : Int)) then
    (iter (m_overseerlaw24_from_l2 p0 st153) (0, st153.2)).bind fun o221 =>
    some (.inl (W (st153.1 + 1), o221))
  else
    some (.inr st153.2.1)
/-- What overseerlaw24.from computes. -/
noncomputable def m_overseerlaw24_from (p0 : List Int × Int × List Int × (List (Int × Int × Int))) (p1 : Int) : Option (List Bool) :=
  (mkL p0.2.1 false).bind fun x8 =>
  (idx x8 p1).bind fun x15 =>
  (upd x8 p1 true).bind fun x17 =>
  (iter (m_overseerlaw24_from_l1 p0) (0, x17, ([p1] : List Int))).bind fun o153 =>
  some o153
set_option maxRecDepth 100000 in
set_option maxHeartbeats 8000000 in
abbrev m_overseerlaw24_from_w0 : List (List Nat) := [[], [0], [], [0, 1, 2], [0, 1, 2, 3], [0, 1, 2, 3, 4], [], [], [6, 7], [6, 7, 8], [0, 1, 2, 3, 4, 5, 6, 7, 8, 9], [0, 1, 2, 3, 4, 5, 6, 7, 8, 9, 10], [0, 1, 2, 3, 4, 5, 6, 7, 8, 9, 10, 11], [0, 1, 2, 3, 4, 5, 6, 7, 8, 9, 10, 11], [0, 1, 2, 3, 4, 5, 6, 7, 8, 9, 10, 11, 12, 13], [0, 1, 2, 3, 4, 5, 6, 7, 8, 9, 10, 11, 12, 13, 14], [0, 1, 2, 3, 4, 5, 6, 7, 8, 9, 10, 11, 12, 13, 14, 15], [0, 1, 2, 3, 4, 5, 6, 7, 8, 9, 10, 11, 12, 13, 14, 15, 16]]
theorem m_overseerlaw24_from_c {s : Sig} {p0 : List Int × Int × List Int × (List (Int × Int × Int))} {p1 : Int} {a1 : Option Addr} {c1 : Nat} {a2 : Option Addr} {c2 : Nat} {a3 : Option Addr} {c3 : Nat} {u0 : Nat} {r : List Bool} (h1 : RdL (rK .i64) s a1 c1 p0.1) (h2 : RdL (rK .i64) s a2 c2 p0.2.2.1) (h3 : RdL (rP (rK .i64) (rP (rK .i64) (rK .i64))) s a3 c3 p0.2.2.2) (hm : m_overseerlaw24_from p0 p1 = some r) :
    Calls Tryd.prog 59 #[.agg #[.slice a1 p0.1.length c1, .int .i64 p0.2.1, .slice a2 p0.2.2.1.length c2, .slice a3 p0.2.2.2.length c3], .int .i64 p1] s.w (RetS No s fun v s' => ∃ (a4 : Option Addr) (c4 : Nat), v = .slice a4 r.length c4 ∧ RowT rB s' u0 4 a4 c4 r) := by
 unfold m_overseerlaw24_from at hm
 obtain ⟨N, hN, hNb⟩ := s.fresh
 have m0 : Mv (Up N No) s s := Mv.refl _ _
 refine E.entry Tryd.func59 rfl Tryd.ntmps59 rfl rfl (E.seq (E.reg (L.box (N + 0) Wt.no rfl rfl rfl fun b5 s6 m7 bx5 => ?_)))
 replace m0 := m0.trans m7.no
 replace h1 := h1.mono (m7.le no_No)
 replace h2 := h2.mono (m7.le no_No)
 replace h3 := h3.mono (m7.le no_No)
 refine L.as Wt.no rfl rfl (L.nil (X.seqN (E.seq (E.reg (L.fa fa34_1 Wt.no rfl rfl (L.ld (j := 1) bx5.mem nag3 Wt.no rfl rfl rfl rfl ?_))))))
 obtain ⟨x8, ex8, hm⟩ := bindS hm
 refine L.mk (z := false) (N + 1) Tryd.underlying77 zr4 rfl Wt.no rfl rfl ex8 rfl fun b9 s10 m11 h9 => ?_
 replace m0 := m0.trans m11.no
 replace bx5 := bx5.mv m11 no_No
 replace h1 := h1.mono (m11.le no_No)
 replace h2 := h2.mono (m11.le no_No)
 replace h3 := h3.mono (m11.le no_No)
 refine L.as Wt.no rfl rfl (L.nil (X.seqN (E.seq (E.reg (L.mv Wt.no rfl rfl (L.bsE (k := 1) (cs := [.int .i64 p1]) (N + 2) bs31 (Nat.le_of_ble_eq_true rfl) Wt.no rfl rfl rfl rfl fun b12 s13 m14 bx12 => ?_))))))
 replace m0 := m0.trans m14.no
 replace h9 := h9.mv m14 no_No no_No
 replace bx5 := bx5.mv m14 no_No
 replace h1 := h1.mono (m14.le no_No)
 replace h2 := h2.mono (m14.le no_No)
 replace h3 := h3.mono (m14.le no_No)
 have h12 := Bx.row (r := (rK .i64)) (xs := ([p1] : List Int)) bx12 ⟨[.int .i64 p1], _, rfl, rfl, rfl⟩ (Nat.le_of_ble_eq_true rfl)
 refine L.as Wt.no rfl rfl (L.nil (X.seqN (E.seq (E.reg (L.mv Wt.no rfl rfl (L.mv Wt.no rfl rfl ?_))))))
 obtain ⟨x15, ex15, hm⟩ := bindS hm
 refine L.ir (r := rB) sl77 h9 Wt.no rfl rfl ex15 rfl fun b16 o16 cc16 me16 rd16 sp16 => ?_
 obtain rfl := rd16
 obtain ⟨x17, ex17, hm⟩ := bindS hm
 have elx17 := upd_len ex17
 refine L.su (fo := 0) (c := [.bool true]) (z := true) h9 sp16 ex15 ex17 (tgp hN) nag4.sz Wt.no rfl rfl rfl rfl rfl rfl (fun c0 hc0 => by obtain rfl := hc0; exact rfl) fun s18 m19 h9 => ?_
 replace m0 := m0.trans (m19.one up)
 replace h12 := h12.mv m19 (tgN (by decide)) (tg0 hN)
 replace bx5 := bx5.mv m19 (tgN (by decide))
 replace h1 := h1.mono (m19.le (tg0 hN))
 replace h2 := h2.mono (m19.le (tg0 hN))
 replace h3 := h3.mono (m19.le (tg0 hN))
 refine L.reval (d := 5) rfl elx17 (L.nil (X.seqN (E.seq (E.seq (E.reg (L.as Wt.no rfl rfl (L.nil (X.seqN (E.block ?_)))))))))
 obtain ⟨o153, eo153, hm⟩ := bindS hm
 refine E.cut (x := .exit 0) (fun e w => ∃ (s156 : Sig), Mv (Up N No) s s156 ∧ RowT rB s156 (N + 1) 4 (some ⟨b9, 0, none⟩) x8.length o153 ∧ e = [(5, .slice (some ⟨b9, 0, none⟩) o153.length x8.length)] ∧ w = s156.w) ?_ ?_
 ·rintro _ _ ⟨s156, m0, h9, rfl, rfl⟩
  refine X.blkE (X.seqN (E.seq (E.reg (L.mv Wt.no rfl rfl (L.as Wt.no rfl rfl (L.nil (X.seqN (E.ret ?_))))))))
  obtain rfl := Option.some.inj hm
  exact X.rt (.inl rfl) Tryd.results59 (Rs.tmp rfl Rs.nil) rfl ⟨_, (s156).ren N (fun k => cond (Nat.beq k 1) u0 (0)), rfl, rfl, m0.ren hNb, ⟨(some ⟨b9, 0, none⟩), x8.length, rfl, (h9.ren hN)⟩⟩
 intro K157
 refine E.iter (fun (st153 : Int × List Bool × List Int) (e : List (Nat × Value)) (w : World) => ∃ (s155 : Sig) (a23 : Option Addr) (c23 : Nat), Mv (Up N No) s s155 ∧ RowT rB s155 (N + 1) 4 (some ⟨b9, 0, none⟩) x8.length st153.2.1 ∧ RowT (rK .i64) s155 (N + 2) 3 a23 c23 st153.2.2 ∧ RdL (rK .i64) s155 a1 c1 p0.1 ∧ RdL (rK .i64) s155 a2 c2 p0.2.2.1 ∧ RdL (rP (rK .i64) (rP (rK .i64) (rK .i64))) s155 a3 c3 p0.2.2.2 ∧ Bx s155 (N + 0) b5 #[.slice a1 p0.1.length c1, .int .i64 p0.2.1, .slice a2 p0.2.2.1.length c2, .slice a3 p0.2.2.2.length c3] 34 ∧ e = [(7, .int .i64 st153.1), (5, .slice (some ⟨b9, 0, none⟩) st153.2.1.length x8.length), (6, .slice a23 st153.2.2.length c23), (2, .pointer (some ⟨b5, 0, none⟩))] ∧ w = s155.w) eo153 ⟨s18, (some ⟨b12, 0, none⟩), ([p1] : List Int).length, m0, h9, h12, h1, h2, h3, bx5, rfl, rfl⟩ (Sub.rf rfl) ?_
 rintro st153 res153 hm ih153 ho153 _ _ ⟨s155, a23, c23, m0, h9, h23, h1, h2, h3, bx5, rfl, rfl⟩
 unfold m_overseerlaw24_from_l1 at hm
 refine E.seq (E.seq (E.reg (L.mv Wt.no rfl rfl (L.mv Wt.no rfl rfl (L.len sl31 Wt.no rfl rfl (L.bi Wt.no rfl rfl rfl rfl (L.nil (X.seqN ?_))))))))
 rcases ifS hm with ⟨hc, hm⟩ | ⟨hc, hm⟩
 ·refine E.cT rfl hc (E.skip (X.seqN (E.seq (E.block (E.seq (E.reg (L.as Wt.no rfl rfl (L.nil (X.seqN (E.block ?_))))))))))
  obtain ⟨o221, eo221, hm⟩ := bindS hm
  refine E.cut (x := .exit 2) (fun e w => ∃ (s226 : Sig) (a224 : Option Addr) (c224 : Nat), Mv (Up N No) s s226 ∧ RowT rB s226 (N + 1) 4 (some ⟨b9, 0, none⟩) x8.length o221.1 ∧ RowT (rK .i64) s226 (N + 2) 3 a224 c224 o221.2 ∧ RdL (rK .i64) s226 a1 c1 p0.1 ∧ RdL (rK .i64) s226 a2 c2 p0.2.2.1 ∧ RdL (rP (rK .i64) (rP (rK .i64) (rK .i64))) s226 a3 c3 p0.2.2.2 ∧ Bx s226 (N + 0) b5 #[.slice a1 p0.1.length c1, .int .i64 p0.2.1, .slice a2 p0.2.2.1.length c2, .slice a3 p0.2.2.2.length c3] 34 ∧ e = [(7, .int .i64 st153.1), (5, .slice (some ⟨b9, 0, none⟩) o221.1.length x8.length), (6, .slice a224 o221.2.length c224), (2, .pointer (some ⟨b5, 0, none⟩))] ∧ w = s226.w) ?_ ?_
  ·rintro _ _ ⟨s226, a224, c224, m0, h9, h224, h1, h2, h3, bx5, rfl, rfl⟩
   exact X.blkE (X.blkN (X.seqN (E.reg (L.mv Wt.no rfl rfl (L.bi Wt.no rfl rfl rfl rfl (L.as Wt.no rfl rfl (L.nil (X.sub (ih153 _ (Option.some.inj hm).symm _ _ ⟨s226, a224, c224, m0, h9, h224, h1, h2, h3, bx5, rfl, rfl⟩) (Sub.rf rfl)))))))))
  intro K227
  refine E.iter (fun (st221 : Int × List Bool × List Int) (e : List (Nat × Value)) (w : World) => ∃ (s225 : Sig) (a161 : Option Addr) (c161 : Nat), Mv (Up N No) s s225 ∧ RowT rB s225 (N + 1) 4 (some ⟨b9, 0, none⟩) x8.length st221.2.1 ∧ RowT (rK .i64) s225 (N + 2) 3 a161 c161 st221.2.2 ∧ RdL (rK .i64) s225 a1 c1 p0.1 ∧ RdL (rK .i64) s225 a2 c2 p0.2.2.1 ∧ RdL (rP (rK .i64) (rP (rK .i64) (rK .i64))) s225 a3 c3 p0.2.2.2 ∧ Bx s225 (N + 0) b5 #[.slice a1 p0.1.length c1, .int .i64 p0.2.1, .slice a2 p0.2.2.1.length c2, .slice a3 p0.2.2.2.length c3] 34 ∧ e = [(8, .int .i64 st221.1), (7, .int .i64 st153.1), (5, .slice (some ⟨b9, 0, none⟩) st221.2.1.length x8.length), (6, .slice a161 st221.2.2.length c161), (2, .pointer (some ⟨b5, 0, none⟩))] ∧ w = s225.w) eo221 ⟨s155, a23, c23, m0, h9, h23, h1, h2, h3, bx5, rfl, rfl⟩ (Sub.rf rfl) ?_
  rintro st221 res221 hm ih221 ho221 _ _ ⟨s225, a161, c161, m0, h9, h161, h1, h2, h3, bx5, rfl, rfl⟩
  unfold m_overseerlaw24_from_l2 at hm
  refine E.seq (E.seq (E.reg (L.mv Wt.no rfl rfl (L.fa fa34_3 Wt.no rfl rfl (L.ld (j := 3) bx5.mem nag32 Wt.no rfl rfl rfl rfl (L.len sl32 Wt.no rfl rfl (L.bi Wt.no rfl rfl rfl rfl (L.nil (X.seqN ?_)))))))))
  rcases ifS hm with ⟨hc, hm⟩ | ⟨hc, hm⟩
  ·refine E.cT rfl hc (E.skip (X.seqN (E.seqJ (fun e w => ∃ (s231 : Sig) (l228 : List Int) (l230 : List Bool) (a229 : Option Addr) (c229 : Nat), m_overseerlaw24_from_j1 st221 l228 l230 = some res221 ∧ Mv (Up N No) s s231 ∧ RowT (rK .i64) s231 (N + 2) 3 a229 c229 l228 ∧ RowT rB s231 (N + 1) 4 (some ⟨b9, 0, none⟩) x8.length l230 ∧ RdL (rK .i64) s231 a1 c1 p0.1 ∧ RdL (rK .i64) s231 a2 c2 p0.2.2.1 ∧ RdL (rP (rK .i64) (rP (rK .i64) (rK .i64))) s231 a3 c3 p0.2.2.2 ∧ Bx s231 (N + 0) b5 #[.slice a1 p0.1.length c1, .int .i64 p0.2.1, .slice a2 p0.2.2.1.length c2, .slice a3 p0.2.2.2.length c3] 34 ∧ e = [(6, .slice a229 l228.length c229), (5, .slice (some ⟨b9, 0, none⟩) l230.length x8.length), (8, .int .i64 st221.1), (7, .int .i64 st153.1), (2, .pointer (some ⟨b5, 0, none⟩))] ∧ w = s231.w) ?_ ?_)))
   ·rintro _ _ ⟨s231, l228, l230, a229, c229, hm, m0, h229, h9, h1, h2, h3, bx5, rfl, rfl⟩
    unfold m_overseerlaw24_from_j1 at hm
    exact E.reg (L.mv Wt.no rfl rfl (L.bi Wt.no rfl rfl rfl rfl (L.as Wt.no rfl rfl (L.nil (X.sub (ih221 _ (Option.some.inj hm).symm _ _ ⟨s231, a229, c229, m0, h9, h229, h1, h2, h3, bx5, rfl, rfl⟩) (Sub.rf rfl))))))
   intro Jj232
   refine E.block (E.seq (E.reg (L.fa fa34_3 Wt.no rfl rfl (L.ld (j := 3) bx5.mem nag32 Wt.no rfl rfl rfl rfl (L.mv Wt.no rfl rfl ?_)))))
   obtain ⟨x233, ex233, hm⟩ := bindS hm
   refine L.ix (r := (rP (rK .i64) (rP (rK .i64) (rK .i64)))) sl32 h3 Wt.no rfl rfl ex233 rfl fun b234 o234 cc234 me234 rd234 => ?_
   obtain ⟨_, _, rfl, rfl, ⟨_, _, rfl, rfl, rfl⟩⟩ := rd234
   refine L.fa fa58_2 Wt.no rfl rfl (L.ld (j := 2) me234 nag3 Wt.no rfl rfl rfl rfl (L.as Wt.no rfl rfl (L.nil (X.seqN (E.seqJ (fun e w => ∃ (s236 : Sig) (b235 : Bool), m_overseerlaw24_from_j2 st221 x233 b235 = some res221 ∧ Mv (Up N No) s s236 ∧ RowT rB s236 (N + 1) 4 (some ⟨b9, 0, none⟩) x8.length st221.2.1 ∧ RowT (rK .i64) s236 (N + 2) 3 a161 c161 st221.2.2 ∧ RdL (rK .i64) s236 a1 c1 p0.1 ∧ RdL (rK .i64) s236 a2 c2 p0.2.2.1 ∧ RdL (rP (rK .i64) (rP (rK .i64) (rK .i64))) s236 a3 c3 p0.2.2.2 ∧ Bx s236 (N + 0) b5 #[.slice a1 p0.1.length c1, .int .i64 p0.2.1, .slice a2 p0.2.2.1.length c2, .slice a3 p0.2.2.2.length c3] 34 ∧ e = [(54, .bool b235), (9, .int .i64 x233.2.2), (8, .int .i64 st221.1), (7, .int .i64 st153.1), (5, .slice (some ⟨b9, 0, none⟩) st221.2.1.length x8.length), (6, .slice a161 st221.2.2.length c161), (2, .pointer (some ⟨b5, 0, none⟩))] ∧ w = s236.w) ?_ ?_)))))
   ·rintro _ _ ⟨s236, b235, hm, m0, h9, h161, h1, h2, h3, bx5, rfl, rfl⟩
    unfold m_overseerlaw24_from_j2 at hm
    rcases ifS hm with ⟨hc, hm⟩ | ⟨hc, hm⟩
    ·refine E.cT rfl hc (E.seq (E.reg (L.mv Wt.no rfl rfl (L.mv Wt.no rfl rfl ?_))))
     obtain ⟨x238, ex238, hm⟩ := bindS hm
     refine L.ir (r := rB) sl77 h9 Wt.no rfl rfl ex238 rfl fun b239 o239 cc239 me239 rd239 sp239 => ?_
     obtain rfl := rd239
     obtain ⟨x240, ex240, hm⟩ := bindS hm
     have elx240 := upd_len ex240
     refine L.su (fo := 0) (c := [.bool true]) (z := true) h9 sp239 ex238 ex240 (tgp hN) nag4.sz Wt.no rfl rfl rfl rfl rfl rfl (fun c0 hc0 => by obtain rfl := hc0; exact rfl) fun s241 m242 h9 => ?_
     replace m0 := m0.trans (m242.one up)
     replace h161 := h161.mv m242 (tgN (by decide)) (tg0 hN)
     replace bx5 := bx5.mv m242 (tgN (by decide))
     replace h1 := h1.mono (m242.le (tg0 hN))
     replace h2 := h2.mono (m242.le (tg0 hN))
     replace h3 := h3.mono (m242.le (tg0 hN))
     refine L.reval (d := 5) rfl elx240 (L.nil (X.seqN (E.reg (L.mv Wt.no rfl rfl (L.mv Wt.no rfl rfl (L.bsE (k := 1) (cs := [.int .i64 x233.2.2]) 0 bs31 (Nat.le_of_ble_eq_true rfl) Wt.no rfl rfl rfl rfl fun b243 s244 m245 bx243 => ?_))))))
     replace m0 := m0.trans m245.no
     replace h9 := h9.mv m245 no_No no_No
     replace h161 := h161.mv m245 no_No no_No
     replace bx5 := bx5.mv m245 no_No
     replace h1 := h1.mono (m245.le no_No)
     replace h2 := h2.mono (m245.le no_No)
     replace h3 := h3.mono (m245.le no_No)
     have h243 := Bx.rdL (r := (rK .i64)) (xs := ([x233.2.2] : List Int)) bx243 ⟨[.int .i64 x233.2.2], _, rfl, rfl, rfl⟩ (Nat.le_of_ble_eq_true rfl)
     obtain ⟨x246, ex246, hm⟩ := bindS hm
     refine L.ap (r := (rK .i64)) Tryd.underlying31 el3 rfl (tgp hN) h161 h243.wk Wt.no rfl rfl ex246 rfl fun a247 c247 s248 m249 h247 => ?_
     replace m0 := m0.trans (m249.one up)
     replace h9 := h9.mv m249 (tgN (by decide)) (tg0 hN)
     replace bx5 := bx5.mv m249 (tgN (by decide))
     replace h1 := h1.mono (m249.le (tg0 hN))
     replace h2 := h2.mono (m249.le (tg0 hN))
     replace h3 := h3.mono (m249.le (tg0 hN))
     exact L.as Wt.no rfl rfl (L.nil (X.blkN (X.sub (Jj232 _ _ ⟨s248, x246, x240, a247, c247, hm, m0, h247, h9, h1, h2, h3, bx5, rfl, rfl⟩) (Sub.rf rfl))))
    exact E.cF rfl hc (E.skip (X.blkN (X.sub (Jj232 _ _ ⟨s236, st221.2.2, st221.2.1, a161, c161, hm, m0, h161, h9, h1, h2, h3, bx5, rfl, rfl⟩) (Sub.rf rfl))))
   intro Jj237
   obtain ⟨x254, ex254, hm⟩ := bindS hm
   obtain ⟨x261, ex261, hm⟩ := bindS hm
   rcases ifS hm with ⟨hc266, hm⟩ | ⟨hc266, hm⟩
   ·have _ := hN
    obtain ⟨x270, ex270, hm⟩ := bindS hm
    refine E.draw m_overseerlaw24_from_w0 (fun D e sx => Mv No s225 sx ∧ Sub [(9, .int .i64 x233.2.2), (8, .int .i64 st221.1), (7, .int .i64 st153.1), (5, .slice (some ⟨b9, 0, none⟩) st221.2.1.length x8.length), (6, .slice a161 st221.2.2.length c161), (2, .pointer (some ⟨b5, 0, none⟩))] e ∧ AllP [G D e 0 37 (.pointer (some ⟨b5, 3, none⟩)), G D e 1 38 (.slice a3 p0.2.2.2.length c3), G D e 2 39 (.int .i64 st221.1), D 3 = true → (∃ (b255 : Nat) (o255 : Nat), Env.get e 40 = some (.pointer (some ⟨b255, o255, none⟩)) ∧ Mem sx 0 b255 o255 [.int .i64 x254.1, .int .i64 x254.2.1, .int .i64 x254.2.2]), D 4 = true → ∀ (b255 : Nat) (o255 : Nat), Env.get e 40 = some (.pointer (some ⟨b255, o255, none⟩)) → (Env.get e 41 = some (.pointer (some ⟨b255, o255 + 0, none⟩))), G D e 5 42 (.int .i64 x254.1), G D e 6 43 (.slice a161 st221.2.2.length c161), G D e 7 44 (.int .i64 st153.1), D 8 = true → (∃ (b262 : Nat) (o262 : Nat), Env.get e 45 = some (.pointer (some ⟨b262, o262, none⟩)) ∧ Mem sx (N + 2) b262 o262 [.int .i64 x261] ∧ Spot a161 (rK .i64).sz (st153.1).toNat b262 o262), G D e 9 46 (.int .i64 x261), G D e 10 47 (.bool (x254.1 == x261)), G D e 11 48 (.bool (x254.1 == x261)), G D e 12 49 (.slice (some ⟨b9, 0, none⟩) st221.2.1.length x8.length), G D e 13 50 (.int .i64 x233.2.2), D 14 = true → (∃ (b271 : Nat) (o271 : Nat), Env.get e 51 = some (.pointer (some ⟨b271, o271, none⟩)) ∧ Mem sx (N + 1) b271 o271 [.bool x270] ∧ Spot (some ⟨b9, 0, none⟩) rB.sz (x233.2.2).toNat b271 o271), G D e 15 52 (.bool x270), G D e 16 53 (.bool (!x270)), G D e 17 54 (.bool (!x270))]) (by kernel_rfl) (by kernel_rfl) (by kernel_rfl) ?_ ?_ ?_
    ·intro sz mz
     exact ⟨mz, (Sub.rf rfl), nofun, nofun, nofun, nofun, nofun, nofun, nofun, nofun, nofun, nofun, nofun, nofun, nofun, nofun, nofun, nofun, nofun, nofun, trivial⟩
    ·refine ⟨?_, ?_, ?_, ?_, ?_, ?_, ?_, ?_, ?_, ?_, ?_, ?_, ?_, ?_, ?_, ?_, ?_, ?_, trivial⟩
     ·rintro D e s250 ⟨im, ib, i⟩ hk hf ha
      have kn := K1 (ib 2 _ rfl)
      exact L.kns _ kn (L.fa fa34_3 Wt.no rfl rfl (L.nil (X.dk kn ⟨im, Sub.fresh ib rfl, i.u 0 (fun _ => rfl)⟩)))
     ·rintro D e s251 ⟨im, ib, i⟩ hk hf ha
      have bx5 := bx5.mv im no_No
      have kn := K1 ((i.p 0) (ha.at 0 rfl))
      exact L.kns _ kn (L.ld (j := 3) bx5.mem nag32 Wt.no rfl rfl rfl rfl (L.nil (X.dk kn ⟨im, Sub.fresh ib rfl, i.u 1 (fun _ => rfl)⟩)))
     ·rintro D e s252 ⟨im, ib, i⟩ hk hf ha
      have kn := K1 (ib 8 _ rfl)
      exact L.kns _ kn (L.mv Wt.no rfl rfl (L.nil (X.dk kn ⟨im, Sub.fresh ib rfl, i.u 2 (fun _ => rfl)⟩)))
     ·rintro D e s253 ⟨im, ib, i⟩ hk hf ha
      have h3 := h3.mono (im.le no_No)
      have kn := K2 ((i.p 1) (ha.at 1 rfl)) ((i.p 2) (ha.at 2 rfl))
      refine L.kns _ kn (L.ix (r := (rP (rK .i64) (rP (rK .i64) (rK .i64)))) sl32 h3 Wt.no rfl rfl ex254 rfl fun b255 o255 cc255 me255 rd255 => ?_)
      obtain ⟨_, _, rfl, rfl, ⟨_, _, rfl, rfl, rfl⟩⟩ := rd255
      exact L.nil (X.dk kn ⟨im, Sub.fresh ib rfl, (i.u 3 (fun _ => ⟨b255, o255, rfl, me255⟩)).u 4 (fun z => Bool.noConfusion ((hf 4 (Nat.le_of_ble_eq_true rfl) rfl).symm.trans z))⟩)
     ·rintro D e s256 ⟨im, ib, i⟩ hk hf ha
      obtain ⟨b255, o255, g3_, me255⟩ := (i.p 3) (ha.at 3 rfl)
      have kn := K1 g3_
      exact L.kns _ kn (L.fa fa58_0 Wt.no rfl rfl (L.nil (X.dk kn ⟨im, Sub.fresh ib rfl, i.u 4 (fun _ _ _ q3 => by cases g3_.symm.trans q3; exact rfl)⟩)))
     ·rintro D e s257 ⟨im, ib, i⟩ hk hf ha
      obtain ⟨b255, o255, g3_, me255⟩ := (i.p 3) (ha.at 3 rfl)
      have g4_ := (i.p 4) (ha.at 4 rfl) b255 o255 g3_
      have kn := K1 g4_
      exact L.kns _ kn (L.ld (j := 0) me255 nag3 Wt.no rfl rfl rfl rfl (L.nil (X.dk kn ⟨im, Sub.fresh ib rfl, i.u 5 (fun _ => rfl)⟩)))
     ·rintro D e s258 ⟨im, ib, i⟩ hk hf ha
      have kn := K1 (ib 6 _ rfl)
      exact L.kns _ kn (L.mv Wt.no rfl rfl (L.nil (X.dk kn ⟨im, Sub.fresh ib rfl, i.u 6 (fun _ => rfl)⟩)))
     ·rintro D e s259 ⟨im, ib, i⟩ hk hf ha
      have kn := K1 (ib 7 _ rfl)
      exact L.kns _ kn (L.mv Wt.no rfl rfl (L.nil (X.dk kn ⟨im, Sub.fresh ib rfl, i.u 7 (fun _ => rfl)⟩)))
     ·rintro D e s260 ⟨im, ib, i⟩ hk hf ha
      have h161 := h161.mv im no_No no_No
      have kn := K2 ((i.p 6) (ha.at 6 rfl)) ((i.p 7) (ha.at 7 rfl))
      refine L.kns _ kn (L.ir (r := (rK .i64)) sl31 h161 Wt.no rfl rfl ex261 rfl fun b262 o262 cc262 me262 rd262 sp262 => ?_)
      obtain rfl := rd262
      exact L.nil (X.dk kn ⟨im, Sub.fresh ib rfl, i.u 8 (fun _ => ⟨b262, o262, rfl, me262, sp262⟩)⟩)
     ·rintro D e s263 ⟨im, ib, i⟩ hk hf ha
      obtain ⟨b262, o262, g8_, me262, sp262⟩ := (i.p 8) (ha.at 8 rfl)
      have kn := K1 g8_
      exact L.kns _ kn (L.ld (j := 0) me262 nag3 Wt.no rfl rfl rfl rfl (L.nil (X.dk kn ⟨im, Sub.fresh ib rfl, i.u 9 (fun _ => rfl)⟩)))
     ·rintro D e s264 ⟨im, ib, i⟩ hk hf ha
      have kn := K2 ((i.p 5) (ha.at 5 rfl)) ((i.p 9) (ha.at 9 rfl))
      exact L.kns _ kn (L.bi Wt.no rfl rfl rfl rfl (L.nil (X.dk kn ⟨im, Sub.fresh ib rfl, i.u 10 (fun _ => rfl)⟩)))
     ·rintro D e s265 ⟨im, ib, i⟩ hk hf ha
      have kn := K1 ((i.p 10) (ha.at 10 rfl))
      exact L.kns _ kn (L.mv Wt.no rfl rfl (L.nil (X.dk kn ⟨im, Sub.fresh ib rfl, i.u 11 (fun _ => rfl)⟩)))
     ·rintro D e s267 ⟨im, ib, i⟩ hk hf ha
      have g11_ := (i.p 11) (ha.at 11 rfl)
      rw [hc266] at g11_
      have kn := K2 (ib 5 _ rfl) g11_
      exact L.kns _ kn (L.mv (Wt.mk rfl rfl) rfl rfl (L.nil (X.dk kn ⟨im, Sub.fresh ib rfl, i.u 12 (fun _ => rfl)⟩)))
     ·rintro D e s268 ⟨im, ib, i⟩ hk hf ha
      have g11_ := (i.p 11) (ha.at 11 rfl)
      rw [hc266] at g11_
      have kn := K2 (ib 9 _ rfl) g11_
      exact L.kns _ kn (L.mv (Wt.mk rfl rfl) rfl rfl (L.nil (X.dk kn ⟨im, Sub.fresh ib rfl, i.u 13 (fun _ => rfl)⟩)))
     ·rintro D e s269 ⟨im, ib, i⟩ hk hf ha
      have g11_ := (i.p 11) (ha.at 11 rfl)
      have h9 := h9.mv im no_No no_No
      rw [hc266] at g11_
      have kn := K3 ((i.p 12) (ha.at 12 rfl)) ((i.p 13) (ha.at 13 rfl)) g11_
      refine L.kns _ kn (L.ir (r := rB) sl77 h9 (Wt.mk rfl rfl) rfl rfl ex270 rfl fun b271 o271 cc271 me271 rd271 sp271 => ?_)
      obtain rfl := rd271
      exact L.nil (X.dk kn ⟨im, Sub.fresh ib rfl, i.u 14 (fun _ => ⟨b271, o271, rfl, me271, sp271⟩)⟩)
     ·rintro D e s272 ⟨im, ib, i⟩ hk hf ha
      have g11_ := (i.p 11) (ha.at 11 rfl)
      obtain ⟨b271, o271, g14_, me271, sp271⟩ := (i.p 14) (ha.at 14 rfl)
      rw [hc266] at g11_
      have kn := K2 g14_ g11_
      exact L.kns _ kn (L.ld (j := 0) me271 nag4 (Wt.mk rfl rfl) rfl rfl rfl rfl (L.nil (X.dk kn ⟨im, Sub.fresh ib rfl, i.u 15 (fun _ => rfl)⟩)))
     ·rintro D e s273 ⟨im, ib, i⟩ hk hf ha
      have g11_ := (i.p 11) (ha.at 11 rfl)
      rw [hc266] at g11_
      have kn := K2 ((i.p 15) (ha.at 15 rfl)) g11_
      exact L.kns _ kn (L.not (Wt.mk rfl rfl) rfl rfl (L.nil (X.dk kn ⟨im, Sub.fresh ib rfl, i.u 16 (fun _ => rfl)⟩)))
     rintro D e s274 ⟨im, ib, i⟩ hk hf ha
     have g11_ := (i.p 11) (ha.at 11 rfl)
     rw [hc266] at g11_
     have kn := K2 g11_ ((i.p 16) (ha.at 16 rfl))
     exact L.kns _ kn (L.pkT Wt.no rfl rfl rfl rfl (L.nil (X.dk kn ⟨im, Sub.fresh ib rfl, i.u 17 (fun _ => rfl)⟩)))
    rintro D e s275 hD ⟨im, ib, i⟩
    have g17_ := (i.p 17) (hD 17 rfl)
    have h9 := h9.mv im no_No no_No
    have h161 := h161.mv im no_No no_No
    have bx5 := bx5.mv im no_No
    have h1 := h1.mono (im.le no_No)
    have h2 := h2.mono (im.le no_No)
    have h3 := h3.mono (im.le no_No)
    have m0 := m0.trans im.no
    refine X.sub (e' := [(54, .bool (!x270)), (9, .int .i64 x233.2.2), (8, .int .i64 st221.1), (7, .int .i64 st153.1), (5, .slice (some ⟨b9, 0, none⟩) st221.2.1.length x8.length), (6, .slice a161 st221.2.2.length c161), (2, .pointer (some ⟨b5, 0, none⟩))]) ?_ (Sub.cons g17_ (Sub.cons (ib 9 _ rfl) (Sub.cons (ib 8 _ rfl) (Sub.cons (ib 7 _ rfl) (Sub.cons (ib 5 _ rfl) (Sub.cons (ib 6 _ rfl) (Sub.cons (ib 2 _ rfl) Sub.nil)))))))
    exact X.sub (Jj237 _ _ ⟨s275, (!x270), hm, m0, h9, h161, h1, h2, h3, bx5, rfl, rfl⟩) (Sub.rf rfl)
   have _ := hN
   refine E.draw m_overseerlaw24_from_w0 (fun D e sx => Mv No s225 sx ∧ Sub [(9, .int .i64 x233.2.2), (8, .int .i64 st221.1), (7, .int .i64 st153.1), (5, .slice (some ⟨b9, 0, none⟩) st221.2.1.length x8.length), (6, .slice a161 st221.2.2.length c161), (2, .pointer (some ⟨b5, 0, none⟩))] e ∧ AllP [G D e 0 37 (.pointer (some ⟨b5, 3, none⟩)), G D e 1 38 (.slice a3 p0.2.2.2.length c3), G D e 2 39 (.int .i64 st221.1), D 3 = true → (∃ (b255 : Nat) (o255 : Nat), Env.get e 40 = some (.pointer (some ⟨b255, o255, none⟩)) ∧ Mem sx 0 b255 o255 [.int .i64 x254.1, .int .i64 x254.2.1, .int .i64 x254.2.2]), D 4 = true → ∀ (b255 : Nat) (o255 : Nat), Env.get e 40 = some (.pointer (some ⟨b255, o255, none⟩)) → (Env.get e 41 = some (.pointer (some ⟨b255, o255 + 0, none⟩))), G D e 5 42 (.int .i64 x254.1), G D e 6 43 (.slice a161 st221.2.2.length c161), G D e 7 44 (.int .i64 st153.1), D 8 = true → (∃ (b262 : Nat) (o262 : Nat), Env.get e 45 = some (.pointer (some ⟨b262, o262, none⟩)) ∧ Mem sx (N + 2) b262 o262 [.int .i64 x261] ∧ Spot a161 (rK .i64).sz (st153.1).toNat b262 o262), G D e 9 46 (.int .i64 x261), G D e 10 47 (.bool (x254.1 == x261)), G D e 11 48 (.bool (x254.1 == x261)), G D e 12 49 undef, G D e 13 50 undef, G D e 14 51 undef, G D e 15 52 undef, G D e 16 53 undef, G D e 17 54 (.bool false)]) (by kernel_rfl) (by kernel_rfl) (by kernel_rfl) ?_ ?_ ?_
   ·intro sz mz
    exact ⟨mz, (Sub.rf rfl), nofun, nofun, nofun, nofun, nofun, nofun, nofun, nofun, nofun, nofun, nofun, nofun, nofun, nofun, nofun, nofun, nofun, nofun, trivial⟩
   ·refine ⟨?_, ?_, ?_, ?_, ?_, ?_, ?_, ?_, ?_, ?_, ?_, ?_, ?_, ?_, ?_, ?_, ?_, ?_, trivial⟩
    ·rintro D e s250 ⟨im, ib, i⟩ hk hf ha
     have kn := K1 (ib 2 _ rfl)
     exact L.kns _ kn (L.fa fa34_3 Wt.no rfl rfl (L.nil (X.dk kn ⟨im, Sub.fresh ib rfl, i.u 0 (fun _ => rfl)⟩)))
    ·rintro D e s251 ⟨im, ib, i⟩ hk hf ha
     have bx5 := bx5.mv im no_No
     have kn := K1 ((i.p 0) (ha.at 0 rfl))
     exact L.kns _ kn (L.ld (j := 3) bx5.mem nag32 Wt.no rfl rfl rfl rfl (L.nil (X.dk kn ⟨im, Sub.fresh ib rfl, i.u 1 (fun _ => rfl)⟩)))
    ·rintro D e s252 ⟨im, ib, i⟩ hk hf ha
     have kn := K1 (ib 8 _ rfl)
     exact L.kns _ kn (L.mv Wt.no rfl rfl (L.nil (X.dk kn ⟨im, Sub.fresh ib rfl, i.u 2 (fun _ => rfl)⟩)))
    ·rintro D e s253 ⟨im, ib, i⟩ hk hf ha
     have h3 := h3.mono (im.le no_No)
     have kn := K2 ((i.p 1) (ha.at 1 rfl)) ((i.p 2) (ha.at 2 rfl))
     refine L.kns _ kn (L.ix (r := (rP (rK .i64) (rP (rK .i64) (rK .i64)))) sl32 h3 Wt.no rfl rfl ex254 rfl fun b255 o255 cc255 me255 rd255 => ?_)
     obtain ⟨_, _, rfl, rfl, ⟨_, _, rfl, rfl, rfl⟩⟩ := rd255
     exact L.nil (X.dk kn ⟨im, Sub.fresh ib rfl, (i.u 3 (fun _ => ⟨b255, o255, rfl, me255⟩)).u 4 (fun z => Bool.noConfusion ((hf 4 (Nat.le_of_ble_eq_true rfl) rfl).symm.trans z))⟩)
    ·rintro D e s256 ⟨im, ib, i⟩ hk hf ha
     obtain ⟨b255, o255, g3_, me255⟩ := (i.p 3) (ha.at 3 rfl)
     have kn := K1 g3_
     exact L.kns _ kn (L.fa fa58_0 Wt.no rfl rfl (L.nil (X.dk kn ⟨im, Sub.fresh ib rfl, i.u 4 (fun _ _ _ q3 => by cases g3_.symm.trans q3; exact rfl)⟩)))
    ·rintro D e s257 ⟨im, ib, i⟩ hk hf ha
     obtain ⟨b255, o255, g3_, me255⟩ := (i.p 3) (ha.at 3 rfl)
     have g4_ := (i.p 4) (ha.at 4 rfl) b255 o255 g3_
     have kn := K1 g4_
     exact L.kns _ kn (L.ld (j := 0) me255 nag3 Wt.no rfl rfl rfl rfl (L.nil (X.dk kn ⟨im, Sub.fresh ib rfl, i.u 5 (fun _ => rfl)⟩)))
    ·rintro D e s258 ⟨im, ib, i⟩ hk hf ha
     have kn := K1 (ib 6 _ rfl)
     exact L.kns _ kn (L.mv Wt.no rfl rfl (L.nil (X.dk kn ⟨im, Sub.fresh ib rfl, i.u 6 (fun _ => rfl)⟩)))
    ·rintro D e s259 ⟨im, ib, i⟩ hk hf ha
     have kn := K1 (ib 7 _ rfl)
     exact L.kns _ kn (L.mv Wt.no rfl rfl (L.nil (X.dk kn ⟨im, Sub.fresh ib rfl, i.u 7 (fun _ => rfl)⟩)))
    ·rintro D e s260 ⟨im, ib, i⟩ hk hf ha
     have h161 := h161.mv im no_No no_No
     have kn := K2 ((i.p 6) (ha.at 6 rfl)) ((i.p 7) (ha.at 7 rfl))
     refine L.kns _ kn (L.ir (r := (rK .i64)) sl31 h161 Wt.no rfl rfl ex261 rfl fun b262 o262 cc262 me262 rd262 sp262 => ?_)
     obtain rfl := rd262
     exact L.nil (X.dk kn ⟨im, Sub.fresh ib rfl, i.u 8 (fun _ => ⟨b262, o262, rfl, me262, sp262⟩)⟩)
    ·rintro D e s263 ⟨im, ib, i⟩ hk hf ha
     obtain ⟨b262, o262, g8_, me262, sp262⟩ := (i.p 8) (ha.at 8 rfl)
     have kn := K1 g8_
     exact L.kns _ kn (L.ld (j := 0) me262 nag3 Wt.no rfl rfl rfl rfl (L.nil (X.dk kn ⟨im, Sub.fresh ib rfl, i.u 9 (fun _ => rfl)⟩)))
    ·rintro D e s264 ⟨im, ib, i⟩ hk hf ha
     have kn := K2 ((i.p 5) (ha.at 5 rfl)) ((i.p 9) (ha.at 9 rfl))
     exact L.kns _ kn (L.bi Wt.no rfl rfl rfl rfl (L.nil (X.dk kn ⟨im, Sub.fresh ib rfl, i.u 10 (fun _ => rfl)⟩)))
    ·rintro D e s265 ⟨im, ib, i⟩ hk hf ha
     have kn := K1 ((i.p 10) (ha.at 10 rfl))
     exact L.kns _ kn (L.mv Wt.no rfl rfl (L.nil (X.dk kn ⟨im, Sub.fresh ib rfl, i.u 11 (fun _ => rfl)⟩)))
    ·rintro D e s276 ⟨im, ib, i⟩ hk hf ha
     have g11_ := (i.p 11) (ha.at 11 rfl)
     rw [hc266] at g11_
     have kn := K2 (ib 5 _ rfl) g11_
     exact L.kns _ kn (L.skip rfl rfl rfl rfl (L.nil (X.dk kn ⟨im, Sub.fresh ib rfl, i.u 12 (fun _ => rfl)⟩)))
    ·rintro D e s277 ⟨im, ib, i⟩ hk hf ha
     have g11_ := (i.p 11) (ha.at 11 rfl)
     rw [hc266] at g11_
     have kn := K2 (ib 9 _ rfl) g11_
     exact L.kns _ kn (L.skip rfl rfl rfl rfl (L.nil (X.dk kn ⟨im, Sub.fresh ib rfl, i.u 13 (fun _ => rfl)⟩)))
    ·rintro D e s278 ⟨im, ib, i⟩ hk hf ha
     have g11_ := (i.p 11) (ha.at 11 rfl)
     rw [hc266] at g11_
     have kn := K3 ((i.p 12) (ha.at 12 rfl)) ((i.p 13) (ha.at 13 rfl)) g11_
     exact L.kns _ kn (L.skip rfl rfl rfl rfl (L.nil (X.dk kn ⟨im, Sub.fresh ib rfl, i.u 14 (fun _ => rfl)⟩)))
    ·rintro D e s279 ⟨im, ib, i⟩ hk hf ha
     have g11_ := (i.p 11) (ha.at 11 rfl)
     rw [hc266] at g11_
     have kn := K2 ((i.p 14) (ha.at 14 rfl)) g11_
     exact L.kns _ kn (L.skip rfl rfl rfl rfl (L.nil (X.dk kn ⟨im, Sub.fresh ib rfl, i.u 15 (fun _ => rfl)⟩)))
    ·rintro D e s280 ⟨im, ib, i⟩ hk hf ha
     have g11_ := (i.p 11) (ha.at 11 rfl)
     rw [hc266] at g11_
     have kn := K2 ((i.p 15) (ha.at 15 rfl)) g11_
     exact L.kns _ kn (L.skip rfl rfl rfl rfl (L.nil (X.dk kn ⟨im, Sub.fresh ib rfl, i.u 16 (fun _ => rfl)⟩)))
    rintro D e s281 ⟨im, ib, i⟩ hk hf ha
    have g11_ := (i.p 11) (ha.at 11 rfl)
    rw [hc266] at g11_
    have kn := K2 g11_ ((i.p 16) (ha.at 16 rfl))
    exact L.kns _ kn (L.pkF Wt.no rfl rfl rfl rfl (L.nil (X.dk kn ⟨im, Sub.fresh ib rfl, i.u 17 (fun _ => rfl)⟩)))
   rintro D e s282 hD ⟨im, ib, i⟩
   have g17_ := (i.p 17) (hD 17 rfl)
   have h9 := h9.mv im no_No no_No
   have h161 := h161.mv im no_No no_No
   have bx5 := bx5.mv im no_No
   have h1 := h1.mono (im.le no_No)
   have h2 := h2.mono (im.le no_No)
   have h3 := h3.mono (im.le no_No)
   have m0 := m0.trans im.no
   refine X.sub (e' := [(54, .bool false), (9, .int .i64 x233.2.2), (8, .int .i64 st221.1), (7, .int .i64 st153.1), (5, .slice (some ⟨b9, 0, none⟩) st221.2.1.length x8.length), (6, .slice a161 st221.2.2.length c161), (2, .pointer (some ⟨b5, 0, none⟩))]) ?_ (Sub.cons g17_ (Sub.cons (ib 9 _ rfl) (Sub.cons (ib 8 _ rfl) (Sub.cons (ib 7 _ rfl) (Sub.cons (ib 5 _ rfl) (Sub.cons (ib 6 _ rfl) (Sub.cons (ib 2 _ rfl) Sub.nil)))))))
   exact X.sub (Jj237 _ _ ⟨s282, false, hm, m0, h9, h161, h1, h2, h3, bx5, rfl, rfl⟩) (Sub.rf rfl)
  refine E.cF rfl hc (E.exit (X.seqX (X.seqX ?_)))
  have hx := ho221 _ (Option.some.inj hm).symm
  subst hx
  exact X.sub (K227 _ _ ⟨s225, a161, c161, m0, h9, h161, h1, h2, h3, bx5, rfl, rfl⟩) (Sub.rf rfl)
 refine E.cF rfl hc (E.exit (X.seqX (X.seqX ?_)))
 have hx := ho153 _ (Option.some.inj hm).symm
 subst hx
 exact X.sub (K157 _ _ ⟨s155, m0, h9, rfl, rfl⟩) (Sub.rf rfl)

noncomputable def m_overseerlaw24_has_l1 (p0 : List Int) (p1 : Int) (st6 : Int) : Option (Int ⊕ (Unit ⊕ Unit)) :=
  if decide (st6 < (p0.length : Int)) then
    (idx p0 st6).bind fun x14 =>
    if (x14 == p1) then
      some (.inr (.inr (())))
    else
      some (.inl (W (st6 + 1)))
  else
    some (.inr (.inl ()))
/-- What overseerlaw24.has computes. -/
noncomputable def m_overseerlaw24_has (p0 : List Int) (p1 : Int) : Option Bool :=
  (iter (m_overseerlaw24_has_l1 p0 p1) 0).bind fun o6 =>
  match o6 with
  | .inl u8 =>
    some false
  | .inr (u11) =>
    some true
set_option maxRecDepth 100000 in
set_option maxHeartbeats 8000000 in
theorem m_overseerlaw24_has_c {s : Sig} {p0 : List Int} {p1 : Int} {a1 : Option Addr} {c1 : Nat} {r : Bool} (h1 : RdL (rK .i64) s a1 c1 p0) (hm : m_overseerlaw24_has p0 p1 = some r) :
    Calls Tryd.prog 24 #[.slice a1 p0.length c1, .int .i64 p1] s.w (RetS No s fun v s' => v = .bool r) := by
 unfold m_overseerlaw24_has at hm
 obtain ⟨N, hN, hNb⟩ := s.fresh
 have m0 : Mv (Up N No) s s := Mv.refl _ _
 refine E.entry Tryd.func24 rfl Tryd.ntmps24 rfl rfl (E.seq (E.reg (L.as Wt.no rfl rfl (L.nil (X.seqN (E.seq (E.seq (E.reg (L.as Wt.no rfl rfl (L.nil (X.seqN (E.block ?_))))))))))))
 obtain ⟨o6, eo6, hm⟩ := bindS hm
 refine E.cut (x := .exit 0) (fun e w => ∃ (s9 : Sig) (u8 : Unit), o6 = .inl u8 ∧ Mv (Up N No) s s9 ∧ e = [] ∧ w = s9.w) ?_ ?_
 ·rintro _ _ ⟨s9, u8, rfl, m0, rfl, rfl⟩
  dsimp only at hm
  refine X.blkE (X.seqN (E.seq (E.reg (L.as Wt.no rfl rfl (L.nil (X.seqN (E.ret ?_)))))))
  obtain rfl := Option.some.inj hm
  exact X.rt (.inl rfl) Tryd.results24 (Rs.tmp rfl Rs.nil) rfl ⟨_, (s9).ren N (fun _ => 0), rfl, rfl, m0.ren hNb, rfl⟩
 intro K10
 refine E.cut (x := .ret) (fun e w => ∃ (s12 : Sig) (u11 : Unit), o6 = .inr (u11) ∧ Mv (Up N No) s s12 ∧ e = [(4, .bool true)] ∧ w = s12.w) ?_ ?_
 ·rintro _ _ ⟨s12, u11, rfl, m0, rfl, rfl⟩
  dsimp only at hm
  refine X.blkR (X.seqR ?_)
  obtain rfl := Option.some.inj hm
  exact X.rt (.inl rfl) Tryd.results24 (Rs.tmp rfl Rs.nil) rfl ⟨_, (s12).ren N (fun _ => 0), rfl, rfl, m0.ren hNb, rfl⟩
 intro K13
 refine E.iter (fun (st6 : Int) (e : List (Nat × Value)) (w : World) => ∃ (s7 : Sig), Mv (Up N No) s s7 ∧ RdL (rK .i64) s7 a1 c1 p0 ∧ e = [(5, .int .i64 st6), (0, .slice a1 p0.length c1), (1, .int .i64 p1)] ∧ w = s7.w) eo6 ⟨s, m0, h1, rfl, rfl⟩ (Sub.rf rfl) ?_
 rintro st6 res6 hm ih6 ho6 _ _ ⟨s7, m0, h1, rfl, rfl⟩
 unfold m_overseerlaw24_has_l1 at hm
 refine E.seq (E.seq (E.reg (L.mv Wt.no rfl rfl (L.mv Wt.no rfl rfl (L.len sl31 Wt.no rfl rfl (L.bi Wt.no rfl rfl rfl rfl (L.nil (X.seqN ?_))))))))
 rcases ifS hm with ⟨hc, hm⟩ | ⟨hc, hm⟩
 ·refine E.cT rfl hc (E.skip (X.seqN (E.seq (E.block (E.seq (E.reg (L.mv Wt.no rfl rfl (L.mv Wt.no rfl rfl ?_))))))))
  obtain ⟨x14, ex14, hm⟩ := bindS hm
  refine L.ix (r := (rK .i64)) sl31 h1 Wt.no rfl rfl ex14 rfl fun b15 o15 cc15 me15 rd15 => ?_
  obtain rfl := rd15
  refine L.ld (j := 0) me15 nag3 Wt.no rfl rfl rfl rfl (L.mv Wt.no rfl rfl (L.bi Wt.no rfl rfl rfl rfl (L.nil (X.seqN ?_))))
  rcases ifS hm with ⟨hc, hm⟩ | ⟨hc, hm⟩
  ·refine E.cT rfl hc (E.seq (E.reg (L.as Wt.no rfl rfl (L.nil (X.seqN (E.ret (X.blkR (X.seqR (X.seqR ?_)))))))))
   have hx := ho6 _ (Option.some.inj hm).symm
   exact X.sub (K13 _ _ ⟨s7, (), hx.symm, m0, rfl, rfl⟩) (Sub.rf rfl)
  exact E.cF rfl hc (E.skip (X.blkN (X.seqN (E.reg (L.mv Wt.no rfl rfl (L.bi Wt.no rfl rfl rfl rfl (L.as Wt.no rfl rfl (L.nil (X.sub (ih6 _ (Option.some.inj hm).symm _ _ ⟨s7, m0, h1, rfl, rfl⟩) (Sub.rf rfl))))))))))
 refine E.cF rfl hc (E.exit (X.seqX (X.seqX ?_)))
 have hx := ho6 _ (Option.some.inj hm).symm
 exact X.sub (K10 _ _ ⟨s7, (), hx.symm, m0, rfl, rfl⟩) Sub.nil

noncomputable def m_overseerlaw24_meets_l1 (p0 : List Bool) (p1 : List Int) (st9 : Int) : Option (Int ⊕ (Unit ⊕ Unit)) :=
  if decide (st9 < (p1.length : Int)) then
    (idx p1 st9).bind fun x17 =>
    (idx p0 x17).bind fun x19 =>
    if x19 then
      some (.inr (.inr (())))
    else
      some (.inl (W (st9 + 1)))
  else
    some (.inr (.inl ()))
/-- What overseerlaw24.meets computes. -/
noncomputable def m_overseerlaw24_meets (p0 : List Bool) (p1 : List Int) : Option Bool :=
  (iter (m_overseerlaw24_meets_l1 p0 p1) 0).bind fun o9 =>
  match o9 with
  | .inl u11 =>
    some false
  | .inr (u14) =>
    some true
set_option maxRecDepth 100000 in
set_option maxHeartbeats 8000000 in
theorem m_overseerlaw24_meets_c {s : Sig} {p0 : List Bool} {p1 : List Int} {a1 : Option Addr} {c1 : Nat} {a2 : Option Addr} {c2 : Nat} {r : Bool} (h1 : RdL rB s a1 c1 p0) (h2 : RdL (rK .i64) s a2 c2 p1) (hm : m_overseerlaw24_meets p0 p1 = some r) :
    Calls Tryd.prog 60 #[.slice a1 p0.length c1, .slice a2 p1.length c2] s.w (RetS No s fun v s' => v = .bool r) := by
 unfold m_overseerlaw24_meets at hm
 obtain ⟨N, hN, hNb⟩ := s.fresh
 have m0 : Mv (Up N No) s s := Mv.refl _ _
 refine E.entry Tryd.func60 rfl Tryd.ntmps60 rfl rfl (E.seq (E.reg (L.as Wt.no rfl rfl (L.nil (X.seqN (E.seq (E.seq (E.reg (L.as Wt.no rfl rfl (L.nil (X.seqN (E.block ?_))))))))))))
 obtain ⟨o9, eo9, hm⟩ := bindS hm
 refine E.cut (x := .exit 0) (fun e w => ∃ (s12 : Sig) (u11 : Unit), o9 = .inl u11 ∧ Mv (Up N No) s s12 ∧ e = [] ∧ w = s12.w) ?_ ?_
 ·rintro _ _ ⟨s12, u11, rfl, m0, rfl, rfl⟩
  dsimp only at hm
  refine X.blkE (X.seqN (E.seq (E.reg (L.as Wt.no rfl rfl (L.nil (X.seqN (E.ret ?_)))))))
  obtain rfl := Option.some.inj hm
  exact X.rt (.inl rfl) Tryd.results60 (Rs.tmp rfl Rs.nil) rfl ⟨_, (s12).ren N (fun _ => 0), rfl, rfl, m0.ren hNb, rfl⟩
 intro K13
 refine E.cut (x := .ret) (fun e w => ∃ (s15 : Sig) (u14 : Unit), o9 = .inr (u14) ∧ Mv (Up N No) s s15 ∧ e = [(4, .bool true)] ∧ w = s15.w) ?_ ?_
 ·rintro _ _ ⟨s15, u14, rfl, m0, rfl, rfl⟩
  dsimp only at hm
  refine X.blkR (X.seqR ?_)
  obtain rfl := Option.some.inj hm
  exact X.rt (.inl rfl) Tryd.results60 (Rs.tmp rfl Rs.nil) rfl ⟨_, (s15).ren N (fun _ => 0), rfl, rfl, m0.ren hNb, rfl⟩
 intro K16
 refine E.iter (fun (st9 : Int) (e : List (Nat × Value)) (w : World) => ∃ (s10 : Sig), Mv (Up N No) s s10 ∧ RdL rB s10 a1 c1 p0 ∧ RdL (rK .i64) s10 a2 c2 p1 ∧ e = [(5, .int .i64 st9), (0, .slice a1 p0.length c1), (1, .slice a2 p1.length c2)] ∧ w = s10.w) eo9 ⟨s, m0, h1, h2, rfl, rfl⟩ (Sub.rf rfl) ?_
 rintro st9 res9 hm ih9 ho9 _ _ ⟨s10, m0, h1, h2, rfl, rfl⟩
 unfold m_overseerlaw24_meets_l1 at hm
 refine E.seq (E.seq (E.reg (L.mv Wt.no rfl rfl (L.mv Wt.no rfl rfl (L.len sl31 Wt.no rfl rfl (L.bi Wt.no rfl rfl rfl rfl (L.nil (X.seqN ?_))))))))
 rcases ifS hm with ⟨hc, hm⟩ | ⟨hc, hm⟩
 ·refine E.cT rfl hc (E.skip (X.seqN (E.seq (E.block (E.seq (E.reg (L.mv Wt.no rfl rfl (L.mv Wt.no rfl rfl (L.mv Wt.no rfl rfl ?_)))))))))
  obtain ⟨x17, ex17, hm⟩ := bindS hm
  refine L.ix (r := (rK .i64)) sl31 h2 Wt.no rfl rfl ex17 rfl fun b18 o18 cc18 me18 rd18 => ?_
  obtain rfl := rd18
  refine L.ld (j := 0) me18 nag3 Wt.no rfl rfl rfl rfl ?_
  obtain ⟨x19, ex19, hm⟩ := bindS hm
  refine L.ix (r := rB) sl77 h1 Wt.no rfl rfl ex19 rfl fun b20 o20 cc20 me20 rd20 => ?_
  obtain rfl := rd20
  refine L.ld (j := 0) me20 nag4 Wt.no rfl rfl rfl rfl (L.nil (X.seqN ?_))
  rcases ifS hm with ⟨hc, hm⟩ | ⟨hc, hm⟩
  ·refine E.cT rfl hc (E.seq (E.reg (L.as Wt.no rfl rfl (L.nil (X.seqN (E.ret (X.blkR (X.seqR (X.seqR ?_)))))))))
   have hx := ho9 _ (Option.some.inj hm).symm
   exact X.sub (K16 _ _ ⟨s10, (), hx.symm, m0, rfl, rfl⟩) (Sub.rf rfl)
  exact E.cF rfl hc (E.skip (X.blkN (X.seqN (E.reg (L.mv Wt.no rfl rfl (L.bi Wt.no rfl rfl rfl rfl (L.as Wt.no rfl rfl (L.nil (X.sub (ih9 _ (Option.some.inj hm).symm _ _ ⟨s10, m0, h1, h2, rfl, rfl⟩) (Sub.rf rfl))))))))))
 refine E.cF rfl hc (E.exit (X.seqX (X.seqX ?_)))
 have hx := ho9 _ (Option.some.inj hm).symm
 exact X.sub (K13 _ _ ⟨s10, (), hx.symm, m0, rfl, rfl⟩) Sub.nil

noncomputable def m_overseerlaw24_dead_l1 (p0 : List Int × Int × List Int × (List (Int × Int × Int))) (p1 : Int) (st11 : Int) : Option (Int ⊕ (Unit ⊕ Unit)) :=
  if decide (st11 < (p0.2.2.2.length : Int)) then
    (idx p0.2.2.2 st11).bind fun x19 =>
    if (x19.1 == p1) then
      some (.inr (.inr (())))
    else
      some (.inl (W (st11 + 1)))
  else
    some (.inr (.inl ()))
/-- What overseerlaw24.dead computes. -/
noncomputable def m_overseerlaw24_dead (p0 : List Int × Int × List Int × (List (Int × Int × Int))) (p1 : Int) : Option Bool :=
  (iter (m_overseerlaw24_dead_l1 p0 p1) 0).bind fun o11 =>
  match o11 with
  | .inl u13 =>
    some true
  | .inr (u16) =>
    some false
set_option maxRecDepth 100000 in
set_option maxHeartbeats 8000000 in
theorem m_overseerlaw24_dead_c {s : Sig} {p0 : List Int × Int × List Int × (List (Int × Int × Int))} {p1 : Int} {a1 : Option Addr} {c1 : Nat} {a2 : Option Addr} {c2 : Nat} {a3 : Option Addr} {c3 : Nat} {r : Bool} (h1 : RdL (rK .i64) s a1 c1 p0.1) (h2 : RdL (rK .i64) s a2 c2 p0.2.2.1) (h3 : RdL (rP (rK .i64) (rP (rK .i64) (rK .i64))) s a3 c3 p0.2.2.2) (hm : m_overseerlaw24_dead p0 p1 = some r) :
    Calls Tryd.prog 61 #[.agg #[.slice a1 p0.1.length c1, .int .i64 p0.2.1, .slice a2 p0.2.2.1.length c2, .slice a3 p0.2.2.2.length c3], .int .i64 p1] s.w (RetS No s fun v s' => v = .bool r) := by
 unfold m_overseerlaw24_dead at hm
 obtain ⟨N, hN, hNb⟩ := s.fresh
 have m0 : Mv (Up N No) s s := Mv.refl _ _
 refine E.entry Tryd.func61 rfl Tryd.ntmps61 rfl rfl (E.seq (E.reg (L.box (N + 0) Wt.no rfl rfl rfl fun b4 s5 m6 bx4 => ?_)))
 replace m0 := m0.trans m6.no
 replace h1 := h1.mono (m6.le no_No)
 replace h2 := h2.mono (m6.le no_No)
 replace h3 := h3.mono (m6.le no_No)
 refine L.as Wt.no rfl rfl (L.nil (X.seqN (E.seq (E.seq (E.reg (L.as Wt.no rfl rfl (L.nil (X.seqN (E.block ?_)))))))))
 obtain ⟨o11, eo11, hm⟩ := bindS hm
 refine E.cut (x := .exit 0) (fun e w => ∃ (s14 : Sig) (u13 : Unit), o11 = .inl u13 ∧ Mv (Up N No) s s14 ∧ e = [] ∧ w = s14.w) ?_ ?_
 ·rintro _ _ ⟨s14, u13, rfl, m0, rfl, rfl⟩
  dsimp only at hm
  refine X.blkE (X.seqN (E.seq (E.reg (L.as Wt.no rfl rfl (L.nil (X.seqN (E.ret ?_)))))))
  obtain rfl := Option.some.inj hm
  exact X.rt (.inl rfl) Tryd.results61 (Rs.tmp rfl Rs.nil) rfl ⟨_, (s14).ren N (fun _ => 0), rfl, rfl, m0.ren hNb, rfl⟩
 intro K15
 refine E.cut (x := .ret) (fun e w => ∃ (s17 : Sig) (u16 : Unit), o11 = .inr (u16) ∧ Mv (Up N No) s s17 ∧ e = [(4, .bool false)] ∧ w = s17.w) ?_ ?_
 ·rintro _ _ ⟨s17, u16, rfl, m0, rfl, rfl⟩
  dsimp only at hm
  refine X.blkR (X.seqR ?_)
  obtain rfl := Option.some.inj hm
  exact X.rt (.inl rfl) Tryd.results61 (Rs.tmp rfl Rs.nil) rfl ⟨_, (s17).ren N (fun _ => 0), rfl, rfl, m0.ren hNb, rfl⟩
 intro K18
 refine E.iter (fun (st11 : Int) (e : List (Nat × Value)) (w : World) => ∃ (s12 : Sig), Mv (Up N No) s s12 ∧ RdL (rK .i64) s12 a1 c1 p0.1 ∧ RdL (rK .i64) s12 a2 c2 p0.2.2.1 ∧ RdL (rP (rK .i64) (rP (rK .i64) (rK .i64))) s12 a3 c3 p0.2.2.2 ∧ Bx s12 (N + 0) b4 #[.slice a1 p0.1.length c1, .int .i64 p0.2.1, .slice a2 p0.2.2.1.length c2, .slice a3 p0.2.2.2.length c3] 34 ∧ e = [(5, .int .i64 st11), (2, .pointer (some ⟨b4, 0, none⟩)), (1, .int .i64 p1)] ∧ w = s12.w) eo11 ⟨s5, m0, h1, h2, h3, bx4, rfl, rfl⟩ (Sub.rf rfl) ?_
 rintro st11 res11 hm ih11 ho11 _ _ ⟨s12, m0, h1, h2, h3, bx4, rfl, rfl⟩
 unfold m_overseerlaw24_dead_l1 at hm
 refine E.seq (E.seq (E.reg (L.mv Wt.no rfl rfl (L.fa fa34_3 Wt.no rfl rfl (L.ld (j := 3) bx4.mem nag32 Wt.no rfl rfl rfl rfl (L.len sl32 Wt.no rfl rfl (L.bi Wt.no rfl rfl rfl rfl (L.nil (X.seqN ?_)))))))))
 rcases ifS hm with ⟨hc, hm⟩ | ⟨hc, hm⟩
 ·refine E.cT rfl hc (E.skip (X.seqN (E.seq (E.block (E.seq (E.reg (L.fa fa34_3 Wt.no rfl rfl (L.ld (j := 3) bx4.mem nag32 Wt.no rfl rfl rfl rfl (L.mv Wt.no rfl rfl ?_)))))))))
  obtain ⟨x19, ex19, hm⟩ := bindS hm
  refine L.ix (r := (rP (rK .i64) (rP (rK .i64) (rK .i64)))) sl32 h3 Wt.no rfl rfl ex19 rfl fun b20 o20 cc20 me20 rd20 => ?_
  obtain ⟨_, _, rfl, rfl, ⟨_, _, rfl, rfl, rfl⟩⟩ := rd20
  refine L.fa fa58_0 Wt.no rfl rfl (L.ld (j := 0) me20 nag3 Wt.no rfl rfl rfl rfl (L.mv Wt.no rfl rfl (L.bi Wt.no rfl rfl rfl rfl (L.nil (X.seqN ?_)))))
  rcases ifS hm with ⟨hc, hm⟩ | ⟨hc, hm⟩
  ·refine E.cT rfl hc (E.seq (E.reg (L.as Wt.no rfl rfl (L.nil (X.seqN (E.ret (X.blkR (X.seqR (X.seqR ?_)))))))))
   have hx := ho11 _ (Option.some.inj hm).symm
   exact X.sub (K18 _ _ ⟨s12, (), hx.symm, m0, rfl, rfl⟩) (Sub.rf rfl)
  exact E.cF rfl hc (E.skip (X.blkN (X.seqN (E.reg (L.mv Wt.no rfl rfl (L.bi Wt.no rfl rfl rfl rfl (L.as Wt.no rfl rfl (L.nil (X.sub (ih11 _ (Option.some.inj hm).symm _ _ ⟨s12, m0, h1, h2, h3, bx4, rfl, rfl⟩) (Sub.rf rfl))))))))))
 refine E.cF rfl hc (E.exit (X.seqX (X.seqX ?_)))
 have hx := ho11 _ (Option.some.inj hm).symm
 exact X.sub (K15 _ _ ⟨s12, (), hx.symm, m0, rfl, rfl⟩) Sub.nil

end Go.Proofs.YtfbapajcheammaaDoor

namespace Go.Proofs.YtfbapajcheammaaDoor
open Go Go.RowKit
theorem cf24 : Cf Tryd.prog 24 := Cf.mk Tryd.func24 (by kernel_rfl) (by kernel_rfl)
theorem cf59 : Cf Tryd.prog 59 := Cf.mk Tryd.func59 (by kernel_rfl) (by kernel_rfl)
theorem cf60 : Cf Tryd.prog 60 := Cf.mk Tryd.func60 (by kernel_rfl) (by kernel_rfl)
theorem cf61 : Cf Tryd.prog 61 := Cf.mk Tryd.func61 (by kernel_rfl) (by kernel_rfl)
noncomputable def m_overseerlaw24_kind_l1 (p0 : List Int × Int × List Int × (List (Int × Int × Int))) (r7 : List Bool) (st31 : Int) : Option (Int ⊕ (Unit ⊕ Unit)) :=
  if decide (st31 < p0.2.1) then
    (idx r7 st31).bind fun x39 =>
    (if x39 then
      (m_overseerlaw24_dead p0 st31).bind fun r45 =>
      some r45
    else
      some false).bind fun b41 =>
    if b41 then
      some (.inr (.inr (())))
    else
      some (.inl (W (st31 + 1)))
  else
    some (.inr (.inl ()))
/-- What overseerlaw24.kind computes. -/
noncomputable def m_overseerlaw24_kind (p0 : List Int × Int × List Int × (List (Int × Int × Int))) (p1 : Int) : Option Int :=
  (m_overseerlaw24_from p0 p1).bind fun r7 =>
  (m_overseerlaw24_has p0.2.2.1 p1).bind fun r11 =>
  if r11 then
    some 1
  else
    (m_overseerlaw24_meets r7 p0.2.2.1).bind fun r14 =>
    if r14 then
      some 2
    else
      (m_overseerlaw24_dead p0 p1).bind fun r17 =>
      if r17 then
        some 3
      else
        (iter (m_overseerlaw24_kind_l1 p0 r7) 0).bind fun o31 =>
        match o31 with
        | .inl u33 =>
          some 4
        | .inr (u36) =>
          some 5
set_option maxRecDepth 100000 in
set_option maxHeartbeats 8000000 in
theorem m_overseerlaw24_kind_c {s : Sig} {p0 : List Int × Int × List Int × (List (Int × Int × Int))} {p1 : Int} {a1 : Option Addr} {c1 : Nat} {a2 : Option Addr} {c2 : Nat} {a3 : Option Addr} {c3 : Nat} {r : Int} (h1 : RdL (rK .i64) s a1 c1 p0.1) (h2 : RdL (rK .i64) s a2 c2 p0.2.2.1) (h3 : RdL (rP (rK .i64) (rP (rK .i64) (rK .i64))) s a3 c3 p0.2.2.2) (hm : m_overseerlaw24_kind p0 p1 = some r) :
    Calls Tryd.prog 38 #[.agg #[.slice a1 p0.1.length c1, .int .i64 p0.2.1, .slice a2 p0.2.2.1.length c2, .slice a3 p0.2.2.2.length c3], .int .i64 p1] s.w (RetS No s fun v s' => v = .int .i64 r) := by
 unfold m_overseerlaw24_kind at hm
 obtain ⟨N, hN, hNb⟩ := s.fresh
 have m0 : Mv (Up N No) s s := Mv.refl _ _
 refine E.entry Tryd.func38 rfl Tryd.ntmps38 rfl rfl (E.seq (E.reg (L.box (N + 0) Wt.no rfl rfl rfl fun b4 s5 m6 bx4 => ?_)))
 replace m0 := m0.trans m6.no
 replace h1 := h1.mono (m6.le no_No)
 replace h2 := h2.mono (m6.le no_No)
 replace h3 := h3.mono (m6.le no_No)
 refine L.as Wt.no rfl rfl (L.nil (X.seqN (E.seq (E.reg (L.lg (j := 0) (cs := [.slice a1 p0.1.length c1, .int .i64 p0.2.1, .slice a2 p0.2.2.1.length c2, .slice a3 p0.2.2.2.length c3]) bx4.mem ag34 Wt.no rfl rfl rfl rfl rfl (L.mv Wt.no rfl rfl ?_))))))
 obtain ⟨r7, er7, hm⟩ := bindS hm
 refine L.ca cf59 rfl rfl Wt.no rfl (m_overseerlaw24_from_c (s := s5) (p0 := p0) (p1 := p1) (u0 := 0) h1 h2 h3 er7) rfl ?_
 rintro _ s8 m9 ⟨a10, c10, rfl, h10⟩
 replace h10 := h10.p
 replace m0 := m0.trans m9.no
 replace bx4 := bx4.mv m9 no_No
 replace h1 := h1.mono (m9.le no_No)
 replace h2 := h2.mono (m9.le no_No)
 replace h3 := h3.mono (m9.le no_No)
 refine L.as Wt.no rfl rfl (L.nil (X.seqN (E.seq (E.block (E.seq (E.reg (L.fa fa34_2 Wt.no rfl rfl (L.ld (j := 2) bx4.mem nag31 Wt.no rfl rfl rfl rfl (L.mv Wt.no rfl rfl ?_)))))))))
 obtain ⟨r11, er11, hm⟩ := bindS hm
 refine L.ca cf24 rfl rfl Wt.no rfl (m_overseerlaw24_has_c (s := s8) (p0 := p0.2.2.1) (p1 := p1) h2 er11) rfl ?_
 rintro _ s12 m13 rfl
 replace m0 := m0.trans m13.no
 replace h10 := h10.mono (m13.le no_No)
 replace bx4 := bx4.mv m13 no_No
 replace h1 := h1.mono (m13.le no_No)
 replace h2 := h2.mono (m13.le no_No)
 replace h3 := h3.mono (m13.le no_No)
 refine L.as Wt.no rfl rfl (L.nil (X.seqN ?_))
 rcases ifS hm with ⟨hc, hm⟩ | ⟨hc, hm⟩
 ·refine E.cT rfl hc (E.seq (E.reg (L.as Wt.no rfl rfl (L.nil (X.seqN (E.ret (X.blkR (X.seqR ?_))))))))
  obtain rfl := Option.some.inj hm
  exact X.rt (.inl rfl) Tryd.results38 (Rs.tmp rfl Rs.nil) rfl ⟨_, (s12).ren N (fun _ => 0), rfl, rfl, m0.ren hNb, rfl⟩
 refine E.cF rfl hc (E.seq (E.reg (L.mv Wt.no rfl rfl (L.fa fa34_2 Wt.no rfl rfl (L.ld (j := 2) bx4.mem nag31 Wt.no rfl rfl rfl rfl ?_)))))
 obtain ⟨r14, er14, hm⟩ := bindS hm
 refine L.ca cf60 rfl rfl Wt.no rfl (m_overseerlaw24_meets_c (s := s12) (p0 := r7) (p1 := p0.2.2.1) h10 h2 er14) rfl ?_
 rintro _ s15 m16 rfl
 replace m0 := m0.trans m16.no
 replace h10 := h10.mono (m16.le no_No)
 replace bx4 := bx4.mv m16 no_No
 replace h1 := h1.mono (m16.le no_No)
 replace h2 := h2.mono (m16.le no_No)
 replace h3 := h3.mono (m16.le no_No)
 refine L.as Wt.no rfl rfl (L.nil (X.seqN ?_))
 rcases ifS hm with ⟨hc, hm⟩ | ⟨hc, hm⟩
 ·refine E.cT rfl hc (E.seq (E.reg (L.as Wt.no rfl rfl (L.nil (X.seqN (E.ret (X.blkR (X.seqR ?_))))))))
  obtain rfl := Option.some.inj hm
  exact X.rt (.inl rfl) Tryd.results38 (Rs.tmp rfl Rs.nil) rfl ⟨_, (s15).ren N (fun _ => 0), rfl, rfl, m0.ren hNb, rfl⟩
 refine E.cF rfl hc (E.seq (E.reg (L.lg (j := 0) (cs := [.slice a1 p0.1.length c1, .int .i64 p0.2.1, .slice a2 p0.2.2.1.length c2, .slice a3 p0.2.2.2.length c3]) bx4.mem ag34 Wt.no rfl rfl rfl rfl rfl (L.mv Wt.no rfl rfl ?_))))
 obtain ⟨r17, er17, hm⟩ := bindS hm
 refine L.ca cf61 rfl rfl Wt.no rfl (m_overseerlaw24_dead_c (s := s15) (p0 := p0) (p1 := p1) h1 h2 h3 er17) rfl ?_
 rintro _ s18 m19 rfl
 replace m0 := m0.trans m19.no
 replace h10 := h10.mono (m19.le no_No)
 replace bx4 := bx4.mv m19 no_No
 replace h1 := h1.mono (m19.le no_No)
 replace h2 := h2.mono (m19.le no_No)
 replace h3 := h3.mono (m19.le no_No)
 refine L.as Wt.no rfl rfl (L.nil (X.seqN ?_))
 rcases ifS hm with ⟨hc, hm⟩ | ⟨hc, hm⟩
 ·refine E.cT rfl hc (E.seq (E.reg (L.as Wt.no rfl rfl (L.nil (X.seqN (E.ret (X.blkR (X.seqR ?_))))))))
  obtain rfl := Option.some.inj hm
  exact X.rt (.inl rfl) Tryd.results38 (Rs.tmp rfl Rs.nil) rfl ⟨_, (s18).ren N (fun _ => 0), rfl, rfl, m0.ren hNb, rfl⟩
 refine E.cF rfl hc (E.skip (X.blkN (X.seqN (E.seq (E.seq (E.reg (L.as Wt.no rfl rfl (L.nil (X.seqN (E.block ?_))))))))))
 obtain ⟨o31, eo31, hm⟩ := bindS hm
 refine E.cut (x := .exit 1) (fun e w => ∃ (s34 : Sig) (u33 : Unit), o31 = .inl u33 ∧ Mv (Up N No) s s34 ∧ e = [] ∧ w = s34.w) ?_ ?_
 ·rintro _ _ ⟨s34, u33, rfl, m0, rfl, rfl⟩
  dsimp only at hm
  refine X.blkE (X.seqN (E.seq (E.reg (L.as Wt.no rfl rfl (L.nil (X.seqN (E.ret ?_)))))))
  obtain rfl := Option.some.inj hm
  exact X.rt (.inl rfl) Tryd.results38 (Rs.tmp rfl Rs.nil) rfl ⟨_, (s34).ren N (fun _ => 0), rfl, rfl, m0.ren hNb, rfl⟩
 intro K35
 refine E.cut (x := .ret) (fun e w => ∃ (s37 : Sig) (u36 : Unit), o31 = .inr (u36) ∧ Mv (Up N No) s s37 ∧ e = [(4, .int .i64 5)] ∧ w = s37.w) ?_ ?_
 ·rintro _ _ ⟨s37, u36, rfl, m0, rfl, rfl⟩
  dsimp only at hm
  refine X.blkR (X.seqR ?_)
  obtain rfl := Option.some.inj hm
  exact X.rt (.inl rfl) Tryd.results38 (Rs.tmp rfl Rs.nil) rfl ⟨_, (s37).ren N (fun _ => 0), rfl, rfl, m0.ren hNb, rfl⟩
 intro K38
 refine E.iter (fun (st31 : Int) (e : List (Nat × Value)) (w : World) => ∃ (s32 : Sig), Mv (Up N No) s s32 ∧ RdL rB s32 a10 c10 r7 ∧ RdL (rK .i64) s32 a1 c1 p0.1 ∧ RdL (rK .i64) s32 a2 c2 p0.2.2.1 ∧ RdL (rP (rK .i64) (rP (rK .i64) (rK .i64))) s32 a3 c3 p0.2.2.2 ∧ Bx s32 (N + 0) b4 #[.slice a1 p0.1.length c1, .int .i64 p0.2.1, .slice a2 p0.2.2.1.length c2, .slice a3 p0.2.2.2.length c3] 34 ∧ e = [(6, .int .i64 st31), (5, .slice a10 r7.length c10), (2, .pointer (some ⟨b4, 0, none⟩))] ∧ w = s32.w) eo31 ⟨s18, m0, h10, h1, h2, h3, bx4, rfl, rfl⟩ (Sub.rf rfl) ?_
 rintro st31 res31 hm ih31 ho31 _ _ ⟨s32, m0, h10, h1, h2, h3, bx4, rfl, rfl⟩
 unfold m_overseerlaw24_kind_l1 at hm
 refine E.seq (E.seq (E.reg (L.mv Wt.no rfl rfl (L.fa fa34_1 Wt.no rfl rfl (L.ld (j := 1) bx4.mem nag3 Wt.no rfl rfl rfl rfl (L.bi Wt.no rfl rfl rfl rfl (L.nil (X.seqN ?_))))))))
 rcases ifS hm with ⟨hc, hm⟩ | ⟨hc, hm⟩
 ·refine E.cT rfl hc (E.skip (X.seqN (E.seq (E.block (E.seq (E.reg (L.mv Wt.no rfl rfl (L.mv Wt.no rfl rfl ?_))))))))
  obtain ⟨x39, ex39, hm⟩ := bindS hm
  refine L.ix (r := rB) sl77 h10 Wt.no rfl rfl ex39 rfl fun b40 o40 cc40 me40 rd40 => ?_
  obtain rfl := rd40
  refine L.ld (j := 0) me40 nag4 Wt.no rfl rfl rfl rfl (L.mv Wt.no rfl rfl ?_)
  obtain ⟨b41, eb41, hm⟩ := bindS hm
  refine L.cut 4 (fun e w => ∃ (s43 : Sig) (v42 : Bool), b41 = v42 ∧ Mv (Up N No) s s43 ∧ RdL rB s43 a10 c10 r7 ∧ RdL (rK .i64) s43 a1 c1 p0.1 ∧ RdL (rK .i64) s43 a2 c2 p0.2.2.1 ∧ RdL (rP (rK .i64) (rP (rK .i64) (rK .i64))) s43 a3 c3 p0.2.2.2 ∧ Bx s43 (N + 0) b4 #[.slice a1 p0.1.length c1, .int .i64 p0.2.1, .slice a2 p0.2.2.1.length c2, .slice a3 p0.2.2.2.length c3] 34 ∧ e = (38, .bool v42) :: [(6, .int .i64 st31), (5, .slice a10 r7.length c10), (2, .pointer (some ⟨b4, 0, none⟩))] ∧ w = s43.w) ?_ ?_
  ·rintro _ _ ⟨s43, v42, rfl, m0, h10, h1, h2, h3, bx4, rfl, rfl⟩
   refine L.nil (X.seqN ?_)
   rcases ifS hm with ⟨hc, hm⟩ | ⟨hc, hm⟩
   ·refine E.cT rfl hc (E.seq (E.reg (L.as Wt.no rfl rfl (L.nil (X.seqN (E.ret (X.blkR (X.seqR (X.seqR ?_)))))))))
    have hx := ho31 _ (Option.some.inj hm).symm
    exact X.sub (K38 _ _ ⟨s43, (), hx.symm, m0, rfl, rfl⟩) (Sub.rf rfl)
   exact E.cF rfl hc (E.skip (X.blkN (X.seqN (E.reg (L.mv Wt.no rfl rfl (L.bi Wt.no rfl rfl rfl rfl (L.as Wt.no rfl rfl (L.nil (X.sub (ih31 _ (Option.some.inj hm).symm _ _ ⟨s43, m0, h10, h1, h2, h3, bx4, rfl, rfl⟩) (Sub.rf rfl))))))))))
  intro J44
  rcases ifS eb41 with ⟨hc, hm⟩ | ⟨hc, hm⟩
  ·refine L.know (d := 34) rfl hc (L.lg (j := 0) (cs := [.slice a1 p0.1.length c1, .int .i64 p0.2.1, .slice a2 p0.2.2.1.length c2, .slice a3 p0.2.2.2.length c3]) bx4.mem ag34 (Wt.mk rfl rfl) rfl rfl rfl rfl rfl (L.mv (Wt.mk rfl rfl) rfl rfl ?_))
   obtain ⟨r45, er45, hm⟩ := bindS hm
   refine L.ca cf61 rfl rfl (Wt.mk rfl rfl) rfl (m_overseerlaw24_dead_c (s := s32) (p0 := p0) (p1 := st31) h1 h2 h3 er45) rfl ?_
   rintro _ s46 m47 rfl
   replace m0 := m0.trans m47.no
   replace h10 := h10.mono (m47.le no_No)
   replace bx4 := bx4.mv m47 no_No
   replace h1 := h1.mono (m47.le no_No)
   replace h2 := h2.mono (m47.le no_No)
   replace h3 := h3.mono (m47.le no_No)
   exact L.pkT Wt.no rfl rfl rfl rfl (L.sb (J44 _ _ ⟨s46, r45, (Option.some.inj hm).symm, m0, h10, h1, h2, h3, bx4, rfl, rfl⟩) rfl)
  exact L.know (d := 34) rfl hc (L.skip rfl rfl rfl rfl (L.skip rfl rfl rfl rfl (L.skip rfl rfl rfl rfl (L.pkF Wt.no rfl rfl rfl rfl (L.sb (J44 _ _ ⟨s32, false, (Option.some.inj hm).symm, m0, h10, h1, h2, h3, bx4, rfl, rfl⟩) rfl)))))
 refine E.cF rfl hc (E.exit (X.seqX (X.seqX ?_)))
 have hx := ho31 _ (Option.some.inj hm).symm
 exact X.sub (K35 _ _ ⟨s32, (), hx.symm, m0, rfl, rfl⟩) Sub.nil

theorem cf38 : Cf Tryd.prog 38 := Cf.mk Tryd.func38 (by kernel_rfl) (by kernel_rfl)
noncomputable def m_overseerlaw24_kinds_l1 (p0 : List Int × Int × List Int × (List (Int × Int × Int))) (st24 : Int × List Int) : Option ((Int × List Int) ⊕ (List Int)) :=
  if decide (st24.1 < p0.2.1) then
    (m_overseerlaw24_kind p0 st24.1).bind fun r30 =>
    (app st24.2 ([r30] : List Int)).bind fun x36 =>
    some (.inl (W (st24.1 + 1), x36))
  else
    some (.inr st24.2)
/-- What overseerlaw24.kinds computes. -/
noncomputable def m_overseerlaw24_kinds (p0 : List Int × Int × List Int × (List (Int × Int × Int))) : Option (List Int) :=
  (iter (m_overseerlaw24_kinds_l1 p0) (0, ([] : List Int))).bind fun o24 =>
  some o24
set_option maxRecDepth 100000 in
set_option maxHeartbeats 8000000 in
theorem m_overseerlaw24_kinds_c {s : Sig} {p0 : List Int × Int × List Int × (List (Int × Int × Int))} {a1 : Option Addr} {c1 : Nat} {a2 : Option Addr} {c2 : Nat} {a3 : Option Addr} {c3 : Nat} {u0 : Nat} {r : List Int} (h1 : RdL (rK .i64) s a1 c1 p0.1) (h2 : RdL (rK .i64) s a2 c2 p0.2.2.1) (h3 : RdL (rP (rK .i64) (rP (rK .i64) (rK .i64))) s a3 c3 p0.2.2.2) (hm : m_overseerlaw24_kinds p0 = some r) :
    Calls Tryd.prog 14 #[.agg #[.slice a1 p0.1.length c1, .int .i64 p0.2.1, .slice a2 p0.2.2.1.length c2, .slice a3 p0.2.2.2.length c3]] s.w (RetS No s fun v s' => ∃ (a4 : Option Addr) (c4 : Nat), v = .slice a4 r.length c4 ∧ RowT (rK .i64) s' u0 3 a4 c4 r) := by
 unfold m_overseerlaw24_kinds at hm
 obtain ⟨N, hN, hNb⟩ := s.fresh
 have m0 : Mv (Up N No) s s := Mv.refl _ _
 refine E.entry Tryd.func14 rfl Tryd.ntmps14 rfl rfl (E.seq (E.reg (L.box (N + 0) Wt.no rfl rfl rfl fun b5 s6 m7 bx5 => ?_)))
 replace m0 := m0.trans m7.no
 replace h1 := h1.mono (m7.le no_No)
 replace h2 := h2.mono (m7.le no_No)
 replace h3 := h3.mono (m7.le no_No)
 refine L.as Wt.no rfl rfl (L.nil (X.seqN (E.seq (E.reg (L.as Wt.no rfl rfl (L.nil (X.seqN (E.seq (E.seq (E.reg (L.as Wt.no rfl rfl (L.nil (X.seqN (E.block ?_))))))))))))))
 obtain ⟨o24, eo24, hm⟩ := bindS hm
 refine E.cut (x := .exit 0) (fun e w => ∃ (s28 : Sig) (a26 : Option Addr) (c26 : Nat), Mv (Up N No) s s28 ∧ RowT (rK .i64) s28 (N + 1) 3 a26 c26 o24 ∧ e = [(3, .slice a26 o24.length c26)] ∧ w = s28.w) ?_ ?_
 ·rintro _ _ ⟨s28, a26, c26, m0, h26, rfl, rfl⟩
  refine X.blkE (X.seqN (E.seq (E.reg (L.mv Wt.no rfl rfl (L.as Wt.no rfl rfl (L.nil (X.seqN (E.ret ?_))))))))
  obtain rfl := Option.some.inj hm
  exact X.rt (.inl rfl) Tryd.results14 (Rs.tmp rfl Rs.nil) rfl ⟨_, (s28).ren N (fun k => cond (Nat.beq k 1) u0 (0)), rfl, rfl, m0.ren hNb, ⟨a26, c26, rfl, (h26.ren hN)⟩⟩
 intro K29
 refine E.iter (fun (st24 : Int × List Int) (e : List (Nat × Value)) (w : World) => ∃ (s27 : Sig) (a10 : Option Addr) (c10 : Nat), Mv (Up N No) s s27 ∧ RowT (rK .i64) s27 (N + 1) 3 a10 c10 st24.2 ∧ RdL (rK .i64) s27 a1 c1 p0.1 ∧ RdL (rK .i64) s27 a2 c2 p0.2.2.1 ∧ RdL (rP (rK .i64) (rP (rK .i64) (rK .i64))) s27 a3 c3 p0.2.2.2 ∧ Bx s27 (N + 0) b5 #[.slice a1 p0.1.length c1, .int .i64 p0.2.1, .slice a2 p0.2.2.1.length c2, .slice a3 p0.2.2.2.length c3] 34 ∧ e = [(4, .int .i64 st24.1), (3, .slice a10 st24.2.length c10), (1, .pointer (some ⟨b5, 0, none⟩))] ∧ w = s27.w) eo24 ⟨s6, none, 0, m0, RowT.nil, h1, h2, h3, bx5, rfl, rfl⟩ (Sub.rf rfl) ?_
 rintro st24 res24 hm ih24 ho24 _ _ ⟨s27, a10, c10, m0, h10, h1, h2, h3, bx5, rfl, rfl⟩
 unfold m_overseerlaw24_kinds_l1 at hm
 refine E.seq (E.seq (E.reg (L.mv Wt.no rfl rfl (L.fa fa34_1 Wt.no rfl rfl (L.ld (j := 1) bx5.mem nag3 Wt.no rfl rfl rfl rfl (L.bi Wt.no rfl rfl rfl rfl (L.nil (X.seqN ?_))))))))
 rcases ifS hm with ⟨hc, hm⟩ | ⟨hc, hm⟩
 ·refine E.cT rfl hc (E.skip (X.seqN (E.seq (E.block (E.reg (L.mv Wt.no rfl rfl (L.lg (j := 0) (cs := [.slice a1 p0.1.length c1, .int .i64 p0.2.1, .slice a2 p0.2.2.1.length c2, .slice a3 p0.2.2.2.length c3]) bx5.mem ag34 Wt.no rfl rfl rfl rfl rfl (L.mv Wt.no rfl rfl ?_))))))))
  obtain ⟨r30, er30, hm⟩ := bindS hm
  refine L.ca cf38 rfl rfl Wt.no rfl (m_overseerlaw24_kind_c (s := s27) (p0 := p0) (p1 := st24.1) h1 h2 h3 er30) rfl ?_
  rintro _ s31 m32 rfl
  replace m0 := m0.trans m32.no
  replace h10 := h10.mv m32 no_No no_No
  replace bx5 := bx5.mv m32 no_No
  replace h1 := h1.mono (m32.le no_No)
  replace h2 := h2.mono (m32.le no_No)
  replace h3 := h3.mono (m32.le no_No)
  refine L.bsE (k := 1) (cs := [.int .i64 r30]) 0 bs31 (Nat.le_of_ble_eq_true rfl) Wt.no rfl rfl rfl rfl fun b33 s34 m35 bx33 => ?_
  replace m0 := m0.trans m35.no
  replace h10 := h10.mv m35 no_No no_No
  replace bx5 := bx5.mv m35 no_No
  replace h1 := h1.mono (m35.le no_No)
  replace h2 := h2.mono (m35.le no_No)
  replace h3 := h3.mono (m35.le no_No)
  have h33 := Bx.rdL (r := (rK .i64)) (xs := ([r30] : List Int)) bx33 ⟨[.int .i64 r30], _, rfl, rfl, rfl⟩ (Nat.le_of_ble_eq_true rfl)
  obtain ⟨x36, ex36, hm⟩ := bindS hm
  refine L.ap (r := (rK .i64)) Tryd.underlying31 el3 rfl (tgp hN) h10 h33.wk Wt.no rfl rfl ex36 rfl fun a37 c37 s38 m39 h37 => ?_
  replace m0 := m0.trans (m39.one up)
  replace bx5 := bx5.mv m39 (tgN (by decide))
  replace h1 := h1.mono (m39.le (tg0 hN))
  replace h2 := h2.mono (m39.le (tg0 hN))
  replace h3 := h3.mono (m39.le (tg0 hN))
  exact L.as Wt.no rfl rfl (L.nil (X.blkN (X.seqN (E.reg (L.mv Wt.no rfl rfl (L.bi Wt.no rfl rfl rfl rfl (L.as Wt.no rfl rfl (L.nil (X.sub (ih24 _ (Option.some.inj hm).symm _ _ ⟨s38, a37, c37, m0, h37, h1, h2, h3, bx5, rfl, rfl⟩) (Sub.rf rfl))))))))))
 refine E.cF rfl hc (E.exit (X.seqX (X.seqX ?_)))
 have hx := ho24 _ (Option.some.inj hm).symm
 subst hx
 exact X.sub (K29 _ _ ⟨s27, a10, c10, m0, h10, rfl, rfl⟩) (Sub.rf rfl)

noncomputable def m_overseerlaw24_chosen_j1 (st27 : Int × List Int) (l33 : List Int) : Option ((Int × List Int) ⊕ (List Int)) :=
  some (.inl (W (st27.1 + 1), l33))
noncomputable def m_overseerlaw24_chosen_l1 (p0 : List Int) (p1 : Int) (p2 : Int) (st27 : Int × List Int) : Option ((Int × List Int) ⊕ (List Int)) :=
  if decide (st27.1 < (p0.length : Int)) then
    (idx p0 st27.1).bind fun x37 =>
    (if decide (x37 ≥ p1) then
      (idx p0 st27.1).bind fun x49 =>
      some (decide (x49 ≤ p2))
    else
      some false).bind fun b39 =>
    if b39 then
      (app st27.2 ([st27.1] : List Int)).bind fun x44 =>
      m_overseerlaw24_chosen_j1 st27 x44
    else
      m_overseerlaw24_chosen_j1 st27 st27.2
  else
    some (.inr st27.2)
/-- What overseerlaw24.chosen computes. -/
noncomputable def m_overseerlaw24_chosen (p0 : List Int) (p1 : Int) (p2 : Int) : Option (List Int) :=
  (iter (m_overseerlaw24_chosen_l1 p0 p1 p2) (0, ([] : List Int))).bind fun o27 =>
  some o27
set_option maxRecDepth 100000 in
set_option maxHeartbeats 8000000 in
theorem m_overseerlaw24_chosen_c {s : Sig} {p0 : List Int} {p1 : Int} {p2 : Int} {a1 : Option Addr} {c1 : Nat} {u0 : Nat} {r : List Int} (h1 : RdL (rK .i64) s a1 c1 p0) (hm : m_overseerlaw24_chosen p0 p1 p2 = some r) :
    Calls Tryd.prog 13 #[.slice a1 p0.length c1, .int .i64 p1, .int .i64 p2] s.w (RetS No s fun v s' => ∃ (a2 : Option Addr) (c2 : Nat), v = .slice a2 r.length c2 ∧ RowT (rK .i64) s' u0 3 a2 c2 r) := by
 unfold m_overseerlaw24_chosen at hm
 obtain ⟨N, hN, hNb⟩ := s.fresh
 have m0 : Mv (Up N No) s s := Mv.refl _ _
 refine E.entry Tryd.func13 rfl Tryd.ntmps13 rfl rfl (E.seq (E.reg (L.as Wt.no rfl rfl (L.nil (X.seqN (E.seq (E.reg (L.as Wt.no rfl rfl (L.nil (X.seqN (E.seq (E.seq (E.reg (L.as Wt.no rfl rfl (L.nil (X.seqN (E.block ?_)))))))))))))))))
 obtain ⟨o27, eo27, hm⟩ := bindS hm
 refine E.cut (x := .exit 0) (fun e w => ∃ (s31 : Sig) (a29 : Option Addr) (c29 : Nat), Mv (Up N No) s s31 ∧ RowT (rK .i64) s31 (N + 0) 3 a29 c29 o27 ∧ e = [(7, .slice a29 o27.length c29)] ∧ w = s31.w) ?_ ?_
 ·rintro _ _ ⟨s31, a29, c29, m0, h29, rfl, rfl⟩
  refine X.blkE (X.seqN (E.seq (E.reg (L.mv Wt.no rfl rfl (L.as Wt.no rfl rfl (L.nil (X.seqN (E.ret ?_))))))))
  obtain rfl := Option.some.inj hm
  exact X.rt (.inl rfl) Tryd.results13 (Rs.tmp rfl Rs.nil) rfl ⟨_, (s31).ren N (fun k => cond (Nat.beq k 0) u0 (0)), rfl, rfl, m0.ren hNb, ⟨a29, c29, rfl, (h29.ren hN)⟩⟩
 intro K32
 refine E.iter (fun (st27 : Int × List Int) (e : List (Nat × Value)) (w : World) => ∃ (s30 : Sig) (a5 : Option Addr) (c5 : Nat), Mv (Up N No) s s30 ∧ RowT (rK .i64) s30 (N + 0) 3 a5 c5 st27.2 ∧ RdL (rK .i64) s30 a1 c1 p0 ∧ e = [(8, .int .i64 st27.1), (7, .slice a5 st27.2.length c5), (0, .slice a1 p0.length c1), (1, .int .i64 p1), (2, .int .i64 p2)] ∧ w = s30.w) eo27 ⟨s, none, 0, m0, RowT.nil, h1, rfl, rfl⟩ (Sub.rf rfl) ?_
 rintro st27 res27 hm ih27 ho27 _ _ ⟨s30, a5, c5, m0, h5, h1, rfl, rfl⟩
 unfold m_overseerlaw24_chosen_l1 at hm
 refine E.seq (E.seq (E.reg (L.mv Wt.no rfl rfl (L.mv Wt.no rfl rfl (L.len sl31 Wt.no rfl rfl (L.bi Wt.no rfl rfl rfl rfl (L.nil (X.seqN ?_))))))))
 rcases ifS hm with ⟨hc, hm⟩ | ⟨hc, hm⟩
 ·refine E.cT rfl hc (E.skip (X.seqN (E.seqJ (fun e w => ∃ (s35 : Sig) (l33 : List Int) (a34 : Option Addr) (c34 : Nat), m_overseerlaw24_chosen_j1 st27 l33 = some res27 ∧ Mv (Up N No) s s35 ∧ RowT (rK .i64) s35 (N + 0) 3 a34 c34 l33 ∧ RdL (rK .i64) s35 a1 c1 p0 ∧ e = [(7, .slice a34 l33.length c34), (8, .int .i64 st27.1), (0, .slice a1 p0.length c1), (1, .int .i64 p1), (2, .int .i64 p2)] ∧ w = s35.w) ?_ ?_)))
  ·rintro _ _ ⟨s35, l33, a34, c34, hm, m0, h34, h1, rfl, rfl⟩
   unfold m_overseerlaw24_chosen_j1 at hm
   exact E.reg (L.mv Wt.no rfl rfl (L.bi Wt.no rfl rfl rfl rfl (L.as Wt.no rfl rfl (L.nil (X.sub (ih27 _ (Option.some.inj hm).symm _ _ ⟨s35, a34, c34, m0, h34, h1, rfl, rfl⟩) (Sub.rf rfl))))))
  intro Jj36
  refine E.block (E.seq (E.reg (L.mv Wt.no rfl rfl (L.mv Wt.no rfl rfl ?_))))
  obtain ⟨x37, ex37, hm⟩ := bindS hm
  refine L.ix (r := (rK .i64)) sl31 h1 Wt.no rfl rfl ex37 rfl fun b38 o38 cc38 me38 rd38 => ?_
  obtain rfl := rd38
  refine L.ld (j := 0) me38 nag3 Wt.no rfl rfl rfl rfl (L.mv Wt.no rfl rfl (L.bi Wt.no rfl rfl rfl rfl (L.mv Wt.no rfl rfl ?_)))
  obtain ⟨b39, eb39, hm⟩ := bindS hm
  refine L.cut 7 (fun e w => ∃ (v40 : Bool), b39 = v40 ∧ e = (28, .bool v40) :: [(8, .int .i64 st27.1), (7, .slice a5 st27.2.length c5), (0, .slice a1 p0.length c1), (1, .int .i64 p1), (2, .int .i64 p2)] ∧ w = s30.w) ?_ ?_
  ·rintro _ _ ⟨v40, rfl, rfl, rfl⟩
   refine L.nil (X.seqN ?_)
   rcases ifS hm with ⟨hc, hm⟩ | ⟨hc, hm⟩
   ·refine E.cT rfl hc (E.reg (L.mv Wt.no rfl rfl (L.mv Wt.no rfl rfl (L.bsE (k := 1) (cs := [.int .i64 st27.1]) 0 bs31 (Nat.le_of_ble_eq_true rfl) Wt.no rfl rfl rfl rfl fun b41 s42 m43 bx41 => ?_))))
    replace m0 := m0.trans m43.no
    replace h1 := h1.mono (m43.le no_No)
    replace h5 := h5.mv m43 no_No no_No
    have h41 := Bx.rdL (r := (rK .i64)) (xs := ([st27.1] : List Int)) bx41 ⟨[.int .i64 st27.1], _, rfl, rfl, rfl⟩ (Nat.le_of_ble_eq_true rfl)
    obtain ⟨x44, ex44, hm⟩ := bindS hm
    refine L.ap (r := (rK .i64)) Tryd.underlying31 el3 rfl (tgp hN) h5 h41.wk Wt.no rfl rfl ex44 rfl fun a45 c45 s46 m47 h45 => ?_
    replace m0 := m0.trans (m47.one up)
    replace h1 := h1.mono (m47.le (tg0 hN))
    exact L.as Wt.no rfl rfl (L.nil (X.blkN (X.sub (Jj36 _ _ ⟨s46, x44, a45, c45, hm, m0, h45, h1, rfl, rfl⟩) (Sub.rf rfl))))
   exact E.cF rfl hc (E.skip (X.blkN (X.sub (Jj36 _ _ ⟨s30, st27.2, a5, c5, hm, m0, h5, h1, rfl, rfl⟩) (Sub.rf rfl))))
  intro J48
  rcases ifS eb39 with ⟨hc, hm⟩ | ⟨hc, hm⟩
  ·refine L.know (d := 21) rfl hc (L.mv (Wt.mk rfl rfl) rfl rfl (L.mv (Wt.mk rfl rfl) rfl rfl ?_))
   obtain ⟨x49, ex49, hm⟩ := bindS hm
   refine L.ix (r := (rK .i64)) sl31 h1 (Wt.mk rfl rfl) rfl rfl ex49 rfl fun b50 o50 cc50 me50 rd50 => ?_
   obtain rfl := rd50
   exact L.ld (j := 0) me50 nag3 (Wt.mk rfl rfl) rfl rfl rfl rfl (L.mv (Wt.mk rfl rfl) rfl rfl (L.bi (Wt.mk rfl rfl) rfl rfl rfl rfl (L.pkT Wt.no rfl rfl rfl rfl (L.sb (J48 _ _ ⟨(decide (x49 ≤ p2)), (Option.some.inj hm).symm, rfl, rfl⟩) rfl))))
  exact L.know (d := 21) rfl hc (L.skip rfl rfl rfl rfl (L.skip rfl rfl rfl rfl (L.skip rfl rfl rfl rfl (L.skip rfl rfl rfl rfl (L.skip rfl rfl rfl rfl (L.skip rfl rfl rfl rfl (L.pkF Wt.no rfl rfl rfl rfl (L.sb (J48 _ _ ⟨false, (Option.some.inj hm).symm, rfl, rfl⟩) rfl))))))))
 refine E.cF rfl hc (E.exit (X.seqX (X.seqX ?_)))
 have hx := ho27 _ (Option.some.inj hm).symm
 subst hx
 exact X.sub (K32 _ _ ⟨s30, a5, c5, m0, h5, rfl, rfl⟩) (Sub.rf rfl)

noncomputable def m_overseerlaw24_all_l1 (p0 : Int) (st15 : Int × List Int) : Option ((Int × List Int) ⊕ (List Int)) :=
  if decide (st15.1 < p0) then
    (app st15.2 ([st15.1] : List Int)).bind fun x24 =>
    some (.inl (W (st15.1 + 1), x24))
  else
    some (.inr st15.2)
/-- What overseerlaw24.all computes. -/
noncomputable def m_overseerlaw24_all (p0 : Int) : Option (List Int) :=
  (iter (m_overseerlaw24_all_l1 p0) (0, ([] : List Int))).bind fun o15 =>
  some o15
set_option maxRecDepth 100000 in
set_option maxHeartbeats 8000000 in
theorem m_overseerlaw24_all_c {s : Sig} {p0 : Int} {u0 : Nat} {r : List Int} (hm : m_overseerlaw24_all p0 = some r) :
    Calls Tryd.prog 37 #[.int .i64 p0] s.w (RetS No s fun v s' => ∃ (a1 : Option Addr) (c1 : Nat), v = .slice a1 r.length c1 ∧ RowT (rK .i64) s' u0 3 a1 c1 r) := by
 unfold m_overseerlaw24_all at hm
 obtain ⟨N, hN, hNb⟩ := s.fresh
 have m0 : Mv (Up N No) s s := Mv.refl _ _
 refine E.entry Tryd.func37 rfl Tryd.ntmps37 rfl rfl (E.seq (E.reg (L.as Wt.no rfl rfl (L.nil (X.seqN (E.seq (E.reg (L.as Wt.no rfl rfl (L.nil (X.seqN (E.seq (E.seq (E.reg (L.as Wt.no rfl rfl (L.nil (X.seqN (E.block ?_)))))))))))))))))
 obtain ⟨o15, eo15, hm⟩ := bindS hm
 refine E.cut (x := .exit 0) (fun e w => ∃ (s19 : Sig) (a17 : Option Addr) (c17 : Nat), Mv (Up N No) s s19 ∧ RowT (rK .i64) s19 (N + 0) 3 a17 c17 o15 ∧ e = [(3, .slice a17 o15.length c17)] ∧ w = s19.w) ?_ ?_
 ·rintro _ _ ⟨s19, a17, c17, m0, h17, rfl, rfl⟩
  refine X.blkE (X.seqN (E.seq (E.reg (L.mv Wt.no rfl rfl (L.as Wt.no rfl rfl (L.nil (X.seqN (E.ret ?_))))))))
  obtain rfl := Option.some.inj hm
  exact X.rt (.inl rfl) Tryd.results37 (Rs.tmp rfl Rs.nil) rfl ⟨_, (s19).ren N (fun k => cond (Nat.beq k 0) u0 (0)), rfl, rfl, m0.ren hNb, ⟨a17, c17, rfl, (h17.ren hN)⟩⟩
 intro K20
 refine E.iter (fun (st15 : Int × List Int) (e : List (Nat × Value)) (w : World) => ∃ (s18 : Sig) (a4 : Option Addr) (c4 : Nat), Mv (Up N No) s s18 ∧ RowT (rK .i64) s18 (N + 0) 3 a4 c4 st15.2 ∧ e = [(4, .int .i64 st15.1), (3, .slice a4 st15.2.length c4), (0, .int .i64 p0)] ∧ w = s18.w) eo15 ⟨s, none, 0, m0, RowT.nil, rfl, rfl⟩ (Sub.rf rfl) ?_
 rintro st15 res15 hm ih15 ho15 _ _ ⟨s18, a4, c4, m0, h4, rfl, rfl⟩
 unfold m_overseerlaw24_all_l1 at hm
 refine E.seq (E.seq (E.reg (L.mv Wt.no rfl rfl (L.mv Wt.no rfl rfl (L.bi Wt.no rfl rfl rfl rfl (L.nil (X.seqN ?_)))))))
 rcases ifS hm with ⟨hc, hm⟩ | ⟨hc, hm⟩
 ·refine E.cT rfl hc (E.skip (X.seqN (E.seq (E.block (E.reg (L.mv Wt.no rfl rfl (L.mv Wt.no rfl rfl (L.bsE (k := 1) (cs := [.int .i64 st15.1]) 0 bs31 (Nat.le_of_ble_eq_true rfl) Wt.no rfl rfl rfl rfl fun b21 s22 m23 bx21 => ?_))))))))
  replace m0 := m0.trans m23.no
  replace h4 := h4.mv m23 no_No no_No
  have h21 := Bx.rdL (r := (rK .i64)) (xs := ([st15.1] : List Int)) bx21 ⟨[.int .i64 st15.1], _, rfl, rfl, rfl⟩ (Nat.le_of_ble_eq_true rfl)
  obtain ⟨x24, ex24, hm⟩ := bindS hm
  refine L.ap (r := (rK .i64)) Tryd.underlying31 el3 rfl (tgp hN) h4 h21.wk Wt.no rfl rfl ex24 rfl fun a25 c25 s26 m27 h25 => ?_
  replace m0 := m0.trans (m27.one up)
  exact L.as Wt.no rfl rfl (L.nil (X.blkN (X.seqN (E.reg (L.mv Wt.no rfl rfl (L.bi Wt.no rfl rfl rfl rfl (L.as Wt.no rfl rfl (L.nil (X.sub (ih15 _ (Option.some.inj hm).symm _ _ ⟨s26, a25, c25, m0, h25, rfl, rfl⟩) (Sub.rf rfl))))))))))
 refine E.cF rfl hc (E.exit (X.seqX (X.seqX ?_)))
 have hx := ho15 _ (Option.some.inj hm).symm
 subst hx
 exact X.sub (K20 _ _ ⟨s18, a4, c4, m0, h4, rfl, rfl⟩) (Sub.rf rfl)

theorem cf37 : Cf Tryd.prog 37 := Cf.mk Tryd.func37 (by kernel_rfl) (by kernel_rfl)
/-- What overseerlaw24.least computes. -/
noncomputable def m_overseerlaw24_least (p0 : List Int × Int × List Int × (List (Int × Int × Int))) (p1 : Int) (p2 : List Int) : Option (List Int × Bool) :=
  (m_overseerlaw24_all p0.2.1).bind fun r15 =>
  (m_reach_Path p0 p1 p2 r15).bind fun r20 =>
  some (r20.1, (r20.2.1 && (r20.2.2 == 0)))
set_option maxRecDepth 100000 in
set_option maxHeartbeats 8000000 in
theorem m_overseerlaw24_least_c {s : Sig} {p0 : List Int × Int × List Int × (List (Int × Int × Int))} {p1 : Int} {p2 : List Int} {a1 : Option Addr} {c1 : Nat} {a2 : Option Addr} {c2 : Nat} {a3 : Option Addr} {c3 : Nat} {a4 : Option Addr} {c4 : Nat} {r : List Int × Bool} (h1 : RdL (rK .i64) s a1 c1 p0.1) (h2 : RdL (rK .i64) s a2 c2 p0.2.2.1) (h3 : RdL (rP (rK .i64) (rP (rK .i64) (rK .i64))) s a3 c3 p0.2.2.2) (h4 : RdL (rK .i64) s a4 c4 p2) (hm : m_overseerlaw24_least p0 p1 p2 = some r) :
    Calls Tryd.prog 12 #[.agg #[.slice a1 p0.1.length c1, .int .i64 p0.2.1, .slice a2 p0.2.2.1.length c2, .slice a3 p0.2.2.2.length c3], .int .i64 p1, .slice a4 p2.length c4] s.w (RetS No s fun v s' => ∃ (a5 : Option Addr) (c5 : Nat), v = .tuple #[.slice a5 r.1.length c5, .bool r.2] ∧ RdL (rK .i64) s' a5 c5 r.1) := by
 unfold m_overseerlaw24_least at hm
 obtain ⟨N, hN, hNb⟩ := s.fresh
 have m0 : Mv (Up N No) s s := Mv.refl _ _
 refine E.entry Tryd.func12 rfl Tryd.ntmps12 rfl rfl (E.seq (E.reg (L.box (N + 0) Wt.no rfl rfl rfl fun b6 s7 m8 bx6 => ?_)))
 replace m0 := m0.trans m8.no
 replace h4 := h4.mono (m8.le no_No)
 replace h1 := h1.mono (m8.le no_No)
 replace h2 := h2.mono (m8.le no_No)
 replace h3 := h3.mono (m8.le no_No)
 refine L.as Wt.no rfl rfl (L.as Wt.no rfl rfl (L.nil (X.seqN (E.seq ?_))))
 obtain ⟨r15, er15, hm⟩ := bindS hm
 obtain ⟨r20, er20, hm⟩ := bindS hm
 refine E.draw [[], [], [], [], [3], [3, 4], [0, 1, 2, 3, 4, 5], [0, 1, 2, 3, 4, 5, 6], [0, 1, 2, 3, 4, 5, 6, 7], [0, 1, 2, 3, 4, 5, 6, 7], [0, 1, 2, 3, 4, 5, 6, 7], [0, 1, 2, 3, 4, 5, 6, 7, 8], [0, 1, 2, 3, 4, 5, 6, 7, 8, 9, 11], [0, 1, 2, 3, 4, 5, 6, 7, 8, 9, 10, 11, 12]] (fun D e sx => Mv No s7 sx ∧ Sub [(3, .pointer (some ⟨b6, 0, none⟩)), (1, .int .i64 p1), (2, .slice a4 p2.length c4)] e ∧ AllP [G D e 0 12 (.agg #[.slice a1 p0.1.length c1, .int .i64 p0.2.1, .slice a2 p0.2.2.1.length c2, .slice a3 p0.2.2.2.length c3]), G D e 1 13 (.int .i64 p1), G D e 2 14 (.slice a4 p2.length c4), G D e 3 15 (.pointer (some ⟨b6, 1, none⟩)), G D e 4 16 (.int .i64 p0.2.1), D 5 = true → (∃ (a18 : Option Addr) (c18 : Nat), Env.get e 17 = some (.slice a18 r15.length c18) ∧ RdL (rK .i64) sx a18 c18 r15), D 6 = true → (∃ (a23 : Option Addr) (c23 : Nat), Env.get e 18 = some (.tuple #[.slice a23 r20.1.length c23, .bool r20.2.1, .int .i64 r20.2.2]) ∧ RdL (rK .i64) sx a23 c23 r20.1), D 7 = true → ∀ (a23 : Option Addr) (c23 : Nat), Env.get e 18 = some (.tuple #[.slice a23 r20.1.length c23, .bool r20.2.1, .int .i64 r20.2.2]) → (Env.get e 11 = some (.tuple #[.slice a23 r20.1.length c23, .bool r20.2.1, .int .i64 r20.2.2])), D 8 = true → ∀ (a23 : Option Addr) (c23 : Nat), Env.get e 18 = some (.tuple #[.slice a23 r20.1.length c23, .bool r20.2.1, .int .i64 r20.2.2]) → (Env.get e 19 = some (.slice a23 r20.1.length c23)), G D e 9 20 (.bool r20.2.1), G D e 10 21 (.int .i64 r20.2.2), D 11 = true → ∀ (a23 : Option Addr) (c23 : Nat), Env.get e 18 = some (.tuple #[.slice a23 r20.1.length c23, .bool r20.2.1, .int .i64 r20.2.2]) → (Env.get e 8 = some (.slice a23 r20.1.length c23)), G D e 12 9 (.bool r20.2.1), G D e 13 10 (.int .i64 r20.2.2)]) (by kernel_rfl) (by kernel_rfl) (by kernel_rfl) ?_ ?_ ?_
 ·intro sz mz
  exact ⟨mz, (Sub.rf rfl), nofun, nofun, nofun, nofun, nofun, nofun, nofun, nofun, nofun, nofun, nofun, nofun, nofun, nofun, trivial⟩
 ·refine ⟨?_, ?_, ?_, ?_, ?_, ?_, ?_, ?_, ?_, ?_, ?_, ?_, ?_, ?_, trivial⟩
  ·rintro D e s9 ⟨im, ib, i⟩ hk hf ha
   have bx6 := bx6.mv im no_No
   have kn := K1 (ib 3 _ rfl)
   exact L.kns _ kn (L.lg (j := 0) (cs := [.slice a1 p0.1.length c1, .int .i64 p0.2.1, .slice a2 p0.2.2.1.length c2, .slice a3 p0.2.2.2.length c3]) bx6.mem ag34 Wt.no rfl rfl rfl rfl rfl (L.nil (X.dk kn ⟨im, Sub.fresh ib rfl, i.u 0 (fun _ => rfl)⟩)))
  ·rintro D e s10 ⟨im, ib, i⟩ hk hf ha
   have kn := K1 (ib 1 _ rfl)
   exact L.kns _ kn (L.mv Wt.no rfl rfl (L.nil (X.dk kn ⟨im, Sub.fresh ib rfl, i.u 1 (fun _ => rfl)⟩)))
  ·rintro D e s11 ⟨im, ib, i⟩ hk hf ha
   have kn := K1 (ib 2 _ rfl)
   exact L.kns _ kn (L.mv Wt.no rfl rfl (L.nil (X.dk kn ⟨im, Sub.fresh ib rfl, i.u 2 (fun _ => rfl)⟩)))
  ·rintro D e s12 ⟨im, ib, i⟩ hk hf ha
   have kn := K1 (ib 3 _ rfl)
   exact L.kns _ kn (L.fa fa34_1 Wt.no rfl rfl (L.nil (X.dk kn ⟨im, Sub.fresh ib rfl, i.u 3 (fun _ => rfl)⟩)))
  ·rintro D e s13 ⟨im, ib, i⟩ hk hf ha
   have bx6 := bx6.mv im no_No
   have kn := K1 ((i.p 3) (ha.at 3 rfl))
   exact L.kns _ kn (L.ld (j := 1) bx6.mem nag3 Wt.no rfl rfl rfl rfl (L.nil (X.dk kn ⟨im, Sub.fresh ib rfl, i.u 4 (fun _ => rfl)⟩)))
  ·rintro D e s14 ⟨im, ib, i⟩ hk hf ha
   have kn := K1 ((i.p 4) (ha.at 4 rfl))
   refine L.kns _ kn (L.ca cf37 rfl rfl Wt.no rfl (m_overseerlaw24_all_c (s := s14) (p0 := p0.2.1) (u0 := 0) er15) rfl ?_)
   rintro _ s16 m17 ⟨a18, c18, rfl, h18⟩
   replace h18 := h18.p
   exact L.nil (X.dk kn ⟨im.trans m17.no, Sub.fresh ib rfl, (i.u 5 (fun _ => ⟨a18, c18, rfl, h18⟩)).u 6 (fun z => let ⟨a23, c23, q, h23⟩ := (i.p 6) z; ⟨a23, c23, q, (h23.mono (m17.le no_No))⟩)⟩)
  ·rintro D e s19 ⟨im, ib, i⟩ hk hf ha
   obtain ⟨a18, c18, g5_, h18⟩ := (i.p 5) (ha.at 5 rfl)
   have h1 := h1.mono (im.le no_No)
   have h2 := h2.mono (im.le no_No)
   have h3 := h3.mono (im.le no_No)
   have h4 := h4.mono (im.le no_No)
   have kn := K4 ((i.p 0) (ha.at 0 rfl)) ((i.p 1) (ha.at 1 rfl)) ((i.p 2) (ha.at 2 rfl)) g5_
   refine L.kns _ kn (L.ca cf36 rfl rfl Wt.no rfl (m_reach_Path_c (s := s19) (p0 := p0) (p1 := p1) (p2 := p2) (p3 := r15) h1 h2 h3 h4 h18 er20) rfl ?_)
   rintro _ s21 m22 ⟨a23, c23, rfl, h23⟩
   exact L.nil (X.dk kn ⟨im.trans m22.no, Sub.fresh ib rfl, ((((i.u 5 (fun z => let ⟨a18, c18, q, h18⟩ := (i.p 5) z; ⟨a18, c18, q, (h18.mono (m22.le no_No))⟩)).u 6 (fun _ => ⟨a23, c23, rfl, h23⟩)).u 7 (fun z => Bool.noConfusion ((hf 7 (Nat.le_of_ble_eq_true rfl) rfl).symm.trans z))).u 8 (fun z => Bool.noConfusion ((hf 8 (Nat.le_of_ble_eq_true rfl) rfl).symm.trans z))).u 11 (fun z => Bool.noConfusion ((hf 11 (Nat.le_of_ble_eq_true rfl) rfl).symm.trans z))⟩)
  ·rintro D e s24 ⟨im, ib, i⟩ hk hf ha
   obtain ⟨a23, c23, g6_, h23⟩ := (i.p 6) (ha.at 6 rfl)
   have kn := K1 g6_
   exact L.kns _ kn (L.mv Wt.no rfl rfl (L.nil (X.dk kn ⟨im, Sub.fresh ib rfl, i.u 7 (fun _ _ _ q6 => by cases g6_.symm.trans q6; exact rfl)⟩)))
  ·rintro D e s25 ⟨im, ib, i⟩ hk hf ha
   obtain ⟨a23, c23, g6_, h23⟩ := (i.p 6) (ha.at 6 rfl)
   have g7_ := (i.p 7) (ha.at 7 rfl) a23 c23 g6_
   have kn := K1 g7_
   exact L.kns _ kn (L.ex Wt.no rfl rfl rfl (L.nil (X.dk kn ⟨im, Sub.fresh ib rfl, i.u 8 (fun _ _ _ q6 => by cases g6_.symm.trans q6; exact rfl)⟩)))
  ·rintro D e s26 ⟨im, ib, i⟩ hk hf ha
   obtain ⟨a23, c23, g6_, h23⟩ := (i.p 6) (ha.at 6 rfl)
   have g7_ := (i.p 7) (ha.at 7 rfl) a23 c23 g6_
   have kn := K1 g7_
   exact L.kns _ kn (L.ex Wt.no rfl rfl rfl (L.nil (X.dk kn ⟨im, Sub.fresh ib rfl, i.u 9 (fun _ => rfl)⟩)))
  ·rintro D e s27 ⟨im, ib, i⟩ hk hf ha
   obtain ⟨a23, c23, g6_, h23⟩ := (i.p 6) (ha.at 6 rfl)
   have g7_ := (i.p 7) (ha.at 7 rfl) a23 c23 g6_
   have kn := K1 g7_
   exact L.kns _ kn (L.ex Wt.no rfl rfl rfl (L.nil (X.dk kn ⟨im, Sub.fresh ib rfl, i.u 10 (fun _ => rfl)⟩)))
  ·rintro D e s28 ⟨im, ib, i⟩ hk hf ha
   obtain ⟨a23, c23, g6_, h23⟩ := (i.p 6) (ha.at 6 rfl)
   have g8_ := (i.p 8) (ha.at 8 rfl) a23 c23 g6_
   have kn := K1 g8_
   exact L.kns _ kn (L.as Wt.no rfl rfl (L.nil (X.dk kn ⟨im, Sub.fresh ib rfl, i.u 11 (fun _ _ _ q6 => by cases g6_.symm.trans q6; exact rfl)⟩)))
  ·rintro D e s29 ⟨im, ib, i⟩ hk hf ha
   have kn := K1 ((i.p 9) (ha.at 9 rfl))
   exact L.kns _ kn (L.as Wt.no rfl rfl (L.nil (X.dk kn ⟨im, Sub.fresh ib rfl, i.u 12 (fun _ => rfl)⟩)))
  rintro D e s30 ⟨im, ib, i⟩ hk hf ha
  have kn := K1 ((i.p 10) (ha.at 10 rfl))
  exact L.kns _ kn (L.as Wt.no rfl rfl (L.nil (X.dk kn ⟨im, Sub.fresh ib rfl, i.u 13 (fun _ => rfl)⟩)))
 rintro D e s31 hD ⟨im, ib, i⟩
 obtain ⟨a23, c23, g6_, h23⟩ := (i.p 6) (hD 6 rfl)
 have g11_ := (i.p 11) (hD 11 rfl) a23 c23 g6_
 have g12_ := (i.p 12) (hD 12 rfl)
 have g13_ := (i.p 13) (hD 13 rfl)
 have m0 := m0.trans im.no
 refine X.sub (e' := [(10, .int .i64 r20.2.2), (9, .bool r20.2.1), (8, .slice a23 r20.1.length c23)]) ?_ (Sub.cons g13_ (Sub.cons g12_ (Sub.cons g11_ Sub.nil)))
 refine X.seqN (E.seq (E.reg (L.mv Wt.no rfl rfl (L.mv Wt.no rfl rfl (L.mv Wt.no rfl rfl (L.cut 3 (fun e w => ∃ (v32 : Bool), (r20.2.1 && (r20.2.2 == 0)) = v32 ∧ e = (27, .bool v32) :: [(22, .slice a23 r20.1.length c23)] ∧ w = s31.w) ?_ ?_))))))
 ·rintro _ _ ⟨v32, rfl, rfl, rfl⟩
  refine L.as Wt.no rfl rfl (L.as Wt.no rfl rfl (L.nil (X.seqN (E.ret ?_))))
  obtain rfl := Option.some.inj hm
  exact X.rt (.inl rfl) Tryd.results12 (Rs.tmp rfl (Rs.tmp rfl Rs.nil)) rfl ⟨_, (s31).ren N (fun _ => 0), rfl, rfl, m0.ren hNb, ⟨a23, c23, rfl, (h23.ren hN)⟩⟩
 intro J33
 rcases Bool.eq_false_or_eq_true r20.2.1 with hc | hc
 ·exact L.know (d := 24) rfl hc (L.mv (Wt.mk rfl rfl) rfl rfl (L.bi (Wt.mk rfl rfl) rfl rfl rfl rfl (L.pkT Wt.no rfl rfl rfl rfl (L.sb (J33 _ _ ⟨(r20.2.2 == 0), (andT hc).symm, rfl, rfl⟩) rfl))))
 exact L.know (d := 24) rfl hc (L.skip rfl rfl rfl rfl (L.skip rfl rfl rfl rfl (L.pkF Wt.no rfl rfl rfl rfl (L.sb (J33 _ _ ⟨false, (andF hc).symm, rfl, rfl⟩) rfl))))

theorem ag27 : Ag Tryd.prog 27 53 := Ag.mk' Tryd.underlying27 rfl (by kernel_rfl)
theorem cf12 : Cf Tryd.prog 12 := Cf.mk Tryd.func12 (by kernel_rfl) (by kernel_rfl)
theorem cf13 : Cf Tryd.prog 13 := Cf.mk Tryd.func13 (by kernel_rfl) (by kernel_rfl)
theorem cf14 : Cf Tryd.prog 14 := Cf.mk Tryd.func14 (by kernel_rfl) (by kernel_rfl)
theorem cf8 : Cf Tryd.prog 8 := Cf.mk Tryd.func8 (by kernel_rfl) (by kernel_rfl)
theorem cf9 : Cf Tryd.prog 9 := Cf.mk Tryd.func9 (by kernel_rfl) (by kernel_rfl)
set_option maxRecDepth 100000 in
set_option maxHeartbeats 8000000 in
abbrev m_overseerlaw24_BlockingProducts_w0 : List (List Nat) := [[], [], [1], [1, 2], [0, 1, 2, 3], [0, 1, 2, 3, 4], [0, 1, 2, 3, 4, 5], [0, 1, 2, 3, 4, 5], [0, 1, 2, 3, 4, 5, 6], [0, 1, 2, 3, 4, 5, 6, 7, 8]]
noncomputable def m_overseerlaw24_BlockingCulprits_j1 (st135 : Int × List Int) (l150 : List Int) : Option ((Int × List Int) ⊕ ((List Int) ⊕ Unit)) :=
  some (.inl (W (st135.1 + 1), l150))
noncomputable def m_overseerlaw24_BlockingCulprits_l1 (x29 : List (List Int × Int × List Int × (List (Int × Int × Int)))) (st135 : Int × List Int) : Option ((Int × List Int) ⊕ ((List Int) ⊕ Unit)) :=
  if decide (st135.1 < (x29.length : Int)) then
    (slc x29 0 st135.1).bind fun x161 =>
    (app ([] : List (List Int × Int × List Int × (List (Int × Int × Int)))) x161).bind fun x164 =>
    (slc x29 (W (st135.1 + 1)) (x29.length : Int)).bind fun x172 =>
    (app x164 x172).bind fun x175 =>
    (m_product_Synchronous x175).bind fun r182 =>
    if (r182.2.2 != 0) then
      some (.inr (.inr (())))
    else
      (m_overseerlaw24_kinds r182.1).bind fun r206 =>
      (m_overseerlaw24_chosen r206 3 5).bind fun r211 =>
      (m_overseerlaw24_least r182.1 0 r211).bind fun r216 =>
      if (!r216.2) then
        (app st135.2 ([st135.1] : List Int)).bind fun x229 =>
        m_overseerlaw24_BlockingCulprits_j1 st135 x229
      else
        m_overseerlaw24_BlockingCulprits_j1 st135 st135.2
  else
    some (.inr (.inl st135.2))
/-- What overseerlaw24.BlockingCulprits computes. -/
noncomputable def m_overseerlaw24_BlockingCulprits (p0 : (Int × Int × ((Int × Int × Int × Int) × (Int × Int × Int × Int) × (Int × Int × Int × Int) × (Int × Int × Int × Int) × (Int × Int × Int × Int) × (Int × Int × Int × Int))) × (Int × Int × ((Int × Int × Int × Int) × (Int × Int × Int × Int) × (Int × Int × Int × Int) × (Int × Int × Int × Int) × (Int × Int × Int × Int) × (Int × Int × Int × Int))) × Bool) (p1 : Int × Int × ((Int × Int × Int × Int) × (Int × Int × Int × Int) × (Int × Int × Int × Int) × (Int × Int × Int × Int) × (Int × Int × Int × Int) × (Int × Int × Int × Int))) : Option Bool :=
  (m_overseerlaw24_Known).bind fun r7 =>
  if (!r7) then
    some false
  else
    (m_overseerlaw24_list p0).bind fun r12 =>
    (m_overseerlaw04_Make p1).bind fun r18 =>
    (app r12 ([r18] : List (List Int × Int × List Int × (List (Int × Int × Int))))).bind fun x29 =>
    (m_blocking_Culprits x29).bind fun r36 =>
    (m_blocking_Nonblocking x29).bind fun r40 =>
    if (r40.2.2 != 0) then
      some false
    else
      if r40.2.1 then
        some (((r36.1.length : Int) == 0) && (r36.2 == 22))
      else
        (iter (m_overseerlaw24_BlockingCulprits_l1 x29) (0, ([] : List Int))).bind fun o135 =>
        match o135 with
        | .inl u139 =>
          (m_overseerlaw24_same r36.1 u139).bind fun r141 =>
          some (r141 && (r36.2 == 0))
        | .inr (u147) =>
          some false
set_option maxRecDepth 100000 in
set_option maxHeartbeats 8000000 in
theorem m_overseerlaw24_BlockingCulprits_c {s : Sig} {p0 : (Int × Int × ((Int × Int × Int × Int) × (Int × Int × Int × Int) × (Int × Int × Int × Int) × (Int × Int × Int × Int) × (Int × Int × Int × Int) × (Int × Int × Int × Int))) × (Int × Int × ((Int × Int × Int × Int) × (Int × Int × Int × Int) × (Int × Int × Int × Int) × (Int × Int × Int × Int) × (Int × Int × Int × Int) × (Int × Int × Int × Int))) × Bool} {p1 : Int × Int × ((Int × Int × Int × Int) × (Int × Int × Int × Int) × (Int × Int × Int × Int) × (Int × Int × Int × Int) × (Int × Int × Int × Int) × (Int × Int × Int × Int))} {r : Bool} (hm : m_overseerlaw24_BlockingCulprits p0 p1 = some r) :
    Calls Tryd.prog 4 #[.agg #[.int .u8 p0.1.1, .int .u8 p0.1.2.1, .int .u8 p0.1.2.2.1.1, .int .u8 p0.1.2.2.1.2.1, .int .u8 p0.1.2.2.1.2.2.1, .int .u8 p0.1.2.2.1.2.2.2, .int .u8 p0.1.2.2.2.1.1, .int .u8 p0.1.2.2.2.1.2.1, .int .u8 p0.1.2.2.2.1.2.2.1, .int .u8 p0.1.2.2.2.1.2.2.2, .int .u8 p0.1.2.2.2.2.1.1, .int .u8 p0.1.2.2.2.2.1.2.1, .int .u8 p0.1.2.2.2.2.1.2.2.1, .int .u8 p0.1.2.2.2.2.1.2.2.2, .int .u8 p0.1.2.2.2.2.2.1.1, .int .u8 p0.1.2.2.2.2.2.1.2.1, .int .u8 p0.1.2.2.2.2.2.1.2.2.1, .int .u8 p0.1.2.2.2.2.2.1.2.2.2, .int .u8 p0.1.2.2.2.2.2.2.1.1, .int .u8 p0.1.2.2.2.2.2.2.1.2.1, .int .u8 p0.1.2.2.2.2.2.2.1.2.2.1, .int .u8 p0.1.2.2.2.2.2.2.1.2.2.2, .int .u8 p0.1.2.2.2.2.2.2.2.1, .int .u8 p0.1.2.2.2.2.2.2.2.2.1, .int .u8 p0.1.2.2.2.2.2.2.2.2.2.1, .int .u8 p0.1.2.2.2.2.2.2.2.2.2.2, .int .u8 p0.2.1.1, .int .u8 p0.2.1.2.1, .int .u8 p0.2.1.2.2.1.1, .int .u8 p0.2.1.2.2.1.2.1, .int .u8 p0.2.1.2.2.1.2.2.1, .int .u8 p0.2.1.2.2.1.2.2.2, .int .u8 p0.2.1.2.2.2.1.1, .int .u8 p0.2.1.2.2.2.1.2.1, .int .u8 p0.2.1.2.2.2.1.2.2.1, .int .u8 p0.2.1.2.2.2.1.2.2.2, .int .u8 p0.2.1.2.2.2.2.1.1, .int .u8 p0.2.1.2.2.2.2.1.2.1, .int .u8 p0.2.1.2.2.2.2.1.2.2.1, .int .u8 p0.2.1.2.2.2.2.1.2.2.2, .int .u8 p0.2.1.2.2.2.2.2.1.1, .int .u8 p0.2.1.2.2.2.2.2.1.2.1, .int .u8 p0.2.1.2.2.2.2.2.1.2.2.1, .int .u8 p0.2.1.2.2.2.2.2.1.2.2.2, .int .u8 p0.2.1.2.2.2.2.2.2.1.1, .int .u8 p0.2.1.2.2.2.2.2.2.1.2.1, .int .u8 p0.2.1.2.2.2.2.2.2.1.2.2.1, .int .u8 p0.2.1.2.2.2.2.2.2.1.2.2.2, .int .u8 p0.2.1.2.2.2.2.2.2.2.1, .int .u8 p0.2.1.2.2.2.2.2.2.2.2.1, .int .u8 p0.2.1.2.2.2.2.2.2.2.2.2.1, .int .u8 p0.2.1.2.2.2.2.2.2.2.2.2.2, .bool p0.2.2], .agg #[.int .u8 p1.1, .int .u8 p1.2.1, .int .u8 p1.2.2.1.1, .int .u8 p1.2.2.1.2.1, .int .u8 p1.2.2.1.2.2.1, .int .u8 p1.2.2.1.2.2.2, .int .u8 p1.2.2.2.1.1, .int .u8 p1.2.2.2.1.2.1, .int .u8 p1.2.2.2.1.2.2.1, .int .u8 p1.2.2.2.1.2.2.2, .int .u8 p1.2.2.2.2.1.1, .int .u8 p1.2.2.2.2.1.2.1, .int .u8 p1.2.2.2.2.1.2.2.1, .int .u8 p1.2.2.2.2.1.2.2.2, .int .u8 p1.2.2.2.2.2.1.1, .int .u8 p1.2.2.2.2.2.1.2.1, .int .u8 p1.2.2.2.2.2.1.2.2.1, .int .u8 p1.2.2.2.2.2.1.2.2.2, .int .u8 p1.2.2.2.2.2.2.1.1, .int .u8 p1.2.2.2.2.2.2.1.2.1, .int .u8 p1.2.2.2.2.2.2.1.2.2.1, .int .u8 p1.2.2.2.2.2.2.1.2.2.2, .int .u8 p1.2.2.2.2.2.2.2.1, .int .u8 p1.2.2.2.2.2.2.2.2.1, .int .u8 p1.2.2.2.2.2.2.2.2.2.1, .int .u8 p1.2.2.2.2.2.2.2.2.2.2]] s.w (RetS No s fun v s' => v = .bool r) := by
 unfold m_overseerlaw24_BlockingCulprits at hm
 obtain ⟨N, hN, hNb⟩ := s.fresh
 have m0 : Mv (Up N No) s s := Mv.refl _ _
 refine E.entry Tryd.func4 rfl Tryd.ntmps4 rfl rfl (E.seq (E.reg (L.box (N + 0) Wt.no rfl rfl rfl fun b1 s2 m3 bx1 => ?_)))
 replace m0 := m0.trans m3.no
 refine L.box (N + 1) Wt.no rfl rfl rfl fun b4 s5 m6 bx4 => ?_
 replace m0 := m0.trans m6.no
 replace bx1 := bx1.mv m6 no_No
 refine L.as Wt.no rfl rfl (L.nil (X.seqN (E.seq (E.seq (E.reg ?_)))))
 obtain ⟨r7, er7, hm⟩ := bindS hm
 refine L.ca cf8 rfl rfl Wt.no rfl (m_overseerlaw24_Known_c (s := s5) er7) rfl ?_
 rintro _ s8 m9 rfl
 replace m0 := m0.trans m9.no
 replace bx1 := bx1.mv m9 no_No
 replace bx4 := bx4.mv m9 no_No
 refine L.not Wt.no rfl rfl (L.nil (X.seqN ?_))
 rcases ifS hm with ⟨hc, hm⟩ | ⟨hc, hm⟩
 ·refine E.cT rfl hc (E.seq (E.reg (L.as Wt.no rfl rfl (L.nil (X.seqN (E.ret (X.seqR ?_)))))))
  obtain rfl := Option.some.inj hm
  exact X.rt (.inl rfl) Tryd.results4 (Rs.tmp rfl Rs.nil) rfl ⟨_, (s8).ren N (fun _ => 0), rfl, rfl, m0.ren hNb, rfl⟩
 refine E.cF rfl hc (E.skip (X.seqN (E.seq ?_)))
 obtain ⟨r12, er12, hm⟩ := bindS hm
 obtain ⟨r18, er18, hm⟩ := bindS hm
 obtain ⟨x29, ex29, hm⟩ := bindS hm
 refine E.draw [[], [0], [], [0, 1, 2], [0, 1, 2, 3], [0, 1, 2, 3, 4], [0, 1, 2, 3, 4, 5]] (fun D e sx => Mv (One (N + 2)) s8 sx ∧ Sub [(3, .pointer (some ⟨b4, 0, none⟩)), (2, .pointer (some ⟨b1, 0, none⟩))] e ∧ AllP [G D e 0 20 (.agg #[.int .u8 p0.1.1, .int .u8 p0.1.2.1, .int .u8 p0.1.2.2.1.1, .int .u8 p0.1.2.2.1.2.1, .int .u8 p0.1.2.2.1.2.2.1, .int .u8 p0.1.2.2.1.2.2.2, .int .u8 p0.1.2.2.2.1.1, .int .u8 p0.1.2.2.2.1.2.1, .int .u8 p0.1.2.2.2.1.2.2.1, .int .u8 p0.1.2.2.2.1.2.2.2, .int .u8 p0.1.2.2.2.2.1.1, .int .u8 p0.1.2.2.2.2.1.2.1, .int .u8 p0.1.2.2.2.2.1.2.2.1, .int .u8 p0.1.2.2.2.2.1.2.2.2, .int .u8 p0.1.2.2.2.2.2.1.1, .int .u8 p0.1.2.2.2.2.2.1.2.1, .int .u8 p0.1.2.2.2.2.2.1.2.2.1, .int .u8 p0.1.2.2.2.2.2.1.2.2.2, .int .u8 p0.1.2.2.2.2.2.2.1.1, .int .u8 p0.1.2.2.2.2.2.2.1.2.1, .int .u8 p0.1.2.2.2.2.2.2.1.2.2.1, .int .u8 p0.1.2.2.2.2.2.2.1.2.2.2, .int .u8 p0.1.2.2.2.2.2.2.2.1, .int .u8 p0.1.2.2.2.2.2.2.2.2.1, .int .u8 p0.1.2.2.2.2.2.2.2.2.2.1, .int .u8 p0.1.2.2.2.2.2.2.2.2.2.2, .int .u8 p0.2.1.1, .int .u8 p0.2.1.2.1, .int .u8 p0.2.1.2.2.1.1, .int .u8 p0.2.1.2.2.1.2.1, .int .u8 p0.2.1.2.2.1.2.2.1, .int .u8 p0.2.1.2.2.1.2.2.2, .int .u8 p0.2.1.2.2.2.1.1, .int .u8 p0.2.1.2.2.2.1.2.1, .int .u8 p0.2.1.2.2.2.1.2.2.1, .int .u8 p0.2.1.2.2.2.1.2.2.2, .int .u8 p0.2.1.2.2.2.2.1.1, .int .u8 p0.2.1.2.2.2.2.1.2.1, .int .u8 p0.2.1.2.2.2.2.1.2.2.1, .int .u8 p0.2.1.2.2.2.2.1.2.2.2, .int .u8 p0.2.1.2.2.2.2.2.1.1, .int .u8 p0.2.1.2.2.2.2.2.1.2.1, .int .u8 p0.2.1.2.2.2.2.2.1.2.2.1, .int .u8 p0.2.1.2.2.2.2.2.1.2.2.2, .int .u8 p0.2.1.2.2.2.2.2.2.1.1, .int .u8 p0.2.1.2.2.2.2.2.2.1.2.1, .int .u8 p0.2.1.2.2.2.2.2.2.1.2.2.1, .int .u8 p0.2.1.2.2.2.2.2.2.1.2.2.2, .int .u8 p0.2.1.2.2.2.2.2.2.2.1, .int .u8 p0.2.1.2.2.2.2.2.2.2.2.1, .int .u8 p0.2.1.2.2.2.2.2.2.2.2.2.1, .int .u8 p0.2.1.2.2.2.2.2.2.2.2.2.2, .bool p0.2.2]), D 1 = true → (∃ (a15 : Option Addr) (c15 : Nat), Env.get e 21 = some (.slice a15 r12.length c15)), G D e 2 22 (.agg #[.int .u8 p1.1, .int .u8 p1.2.1, .int .u8 p1.2.2.1.1, .int .u8 p1.2.2.1.2.1, .int .u8 p1.2.2.1.2.2.1, .int .u8 p1.2.2.1.2.2.2, .int .u8 p1.2.2.2.1.1, .int .u8 p1.2.2.2.1.2.1, .int .u8 p1.2.2.2.1.2.2.1, .int .u8 p1.2.2.2.1.2.2.2, .int .u8 p1.2.2.2.2.1.1, .int .u8 p1.2.2.2.2.1.2.1, .int .u8 p1.2.2.2.2.1.2.2.1, .int .u8 p1.2.2.2.2.1.2.2.2, .int .u8 p1.2.2.2.2.2.1.1, .int .u8 p1.2.2.2.2.2.1.2.1, .int .u8 p1.2.2.2.2.2.1.2.2.1, .int .u8 p1.2.2.2.2.2.1.2.2.2, .int .u8 p1.2.2.2.2.2.2.1.1, .int .u8 p1.2.2.2.2.2.2.1.2.1, .int .u8 p1.2.2.2.2.2.2.1.2.2.1, .int .u8 p1.2.2.2.2.2.2.1.2.2.2, .int .u8 p1.2.2.2.2.2.2.2.1, .int .u8 p1.2.2.2.2.2.2.2.2.1, .int .u8 p1.2.2.2.2.2.2.2.2.2.1, .int .u8 p1.2.2.2.2.2.2.2.2.2.2]), D 3 = true → (∃ (a21 : Option Addr) (c21 : Nat) (a22 : Option Addr) (c22 : Nat) (a23 : Option Addr) (c23 : Nat), Env.get e 23 = some (.agg #[.slice a21 r18.1.length c21, .int .i64 r18.2.1, .slice a22 r18.2.2.1.length c22, .slice a23 r18.2.2.2.length c23]) ∧ RdL (rK .i64) sx a21 c21 r18.1 ∧ RdL (rK .i64) sx a22 c22 r18.2.2.1 ∧ RdL (rP (rK .i64) (rP (rK .i64) (rK .i64))) sx a23 c23 r18.2.2.2), D 4 = true → (∃ (b25 : Nat), Env.get e 24 = some (.slice (some ⟨b25, 0, none⟩) ([r18] : List (List Int × Int × List Int × (List (Int × Int × Int)))).length (([r18] : List (List Int × Int × List Int × (List (Int × Int × Int)))).length)) ∧ RdL (rP (rL (rK .i64)) (rP (rK .i64) (rP (rL (rK .i64)) (rL (rP (rK .i64) (rP (rK .i64) (rK .i64))))))) sx (some ⟨b25, 0, none⟩) (([r18] : List (List Int × Int × List Int × (List (Int × Int × Int)))).length) ([r18] : List (List Int × Int × List Int × (List (Int × Int × Int))))), D 5 = true → (∃ (a30 : Option Addr) (c30 : Nat), Env.get e 25 = some (.slice a30 x29.length c30)), D 6 = true → ∀ (a30 : Option Addr) (c30 : Nat), Env.get e 25 = some (.slice a30 x29.length c30) → (Env.get e 5 = some (.slice a30 x29.length c30)), D 1 = true → D 5 = false → ∀ (a15 : Option Addr) (c15 : Nat), Env.get e 21 = some (.slice a15 r12.length c15) → RowT (rP (rL (rK .i64)) (rP (rK .i64) (rP (rL (rK .i64)) (rL (rP (rK .i64) (rP (rK .i64) (rK .i64))))))) sx (N + 2) 34 a15 c15 r12, D 5 = true → ∀ (a30 : Option Addr) (c30 : Nat), Env.get e 25 = some (.slice a30 x29.length c30) → RowT (rP (rL (rK .i64)) (rP (rK .i64) (rP (rL (rK .i64)) (rL (rP (rK .i64) (rP (rK .i64) (rK .i64))))))) sx (N + 2) 34 a30 c30 x29]) (by kernel_rfl) (by kernel_rfl) (by kernel_rfl) ?_ ?_ ?_
 ·intro sz mz
  exact ⟨mz.no, (Sub.rf rfl), nofun, nofun, nofun, nofun, nofun, nofun, nofun, nofun, nofun, trivial⟩
 ·refine ⟨?_, ?_, ?_, ?_, ?_, ?_, ?_, trivial⟩
  ·rintro D e s10 ⟨im, ib, i⟩ hk hf ha
   have bx1 := bx1.mv im (tgN (by decide))
   have kn := K1 (ib 2 _ rfl)
   exact L.kns _ kn (L.lg (j := 0) (cs := [.int .u8 p0.1.1, .int .u8 p0.1.2.1, .int .u8 p0.1.2.2.1.1, .int .u8 p0.1.2.2.1.2.1, .int .u8 p0.1.2.2.1.2.2.1, .int .u8 p0.1.2.2.1.2.2.2, .int .u8 p0.1.2.2.2.1.1, .int .u8 p0.1.2.2.2.1.2.1, .int .u8 p0.1.2.2.2.1.2.2.1, .int .u8 p0.1.2.2.2.1.2.2.2, .int .u8 p0.1.2.2.2.2.1.1, .int .u8 p0.1.2.2.2.2.1.2.1, .int .u8 p0.1.2.2.2.2.1.2.2.1, .int .u8 p0.1.2.2.2.2.1.2.2.2, .int .u8 p0.1.2.2.2.2.2.1.1, .int .u8 p0.1.2.2.2.2.2.1.2.1, .int .u8 p0.1.2.2.2.2.2.1.2.2.1, .int .u8 p0.1.2.2.2.2.2.1.2.2.2, .int .u8 p0.1.2.2.2.2.2.2.1.1, .int .u8 p0.1.2.2.2.2.2.2.1.2.1, .int .u8 p0.1.2.2.2.2.2.2.1.2.2.1, .int .u8 p0.1.2.2.2.2.2.2.1.2.2.2, .int .u8 p0.1.2.2.2.2.2.2.2.1, .int .u8 p0.1.2.2.2.2.2.2.2.2.1, .int .u8 p0.1.2.2.2.2.2.2.2.2.2.1, .int .u8 p0.1.2.2.2.2.2.2.2.2.2.2, .int .u8 p0.2.1.1, .int .u8 p0.2.1.2.1, .int .u8 p0.2.1.2.2.1.1, .int .u8 p0.2.1.2.2.1.2.1, .int .u8 p0.2.1.2.2.1.2.2.1, .int .u8 p0.2.1.2.2.1.2.2.2, .int .u8 p0.2.1.2.2.2.1.1, .int .u8 p0.2.1.2.2.2.1.2.1, .int .u8 p0.2.1.2.2.2.1.2.2.1, .int .u8 p0.2.1.2.2.2.1.2.2.2, .int .u8 p0.2.1.2.2.2.2.1.1, .int .u8 p0.2.1.2.2.2.2.1.2.1, .int .u8 p0.2.1.2.2.2.2.1.2.2.1, .int .u8 p0.2.1.2.2.2.2.1.2.2.2, .int .u8 p0.2.1.2.2.2.2.2.1.1, .int .u8 p0.2.1.2.2.2.2.2.1.2.1, .int .u8 p0.2.1.2.2.2.2.2.1.2.2.1, .int .u8 p0.2.1.2.2.2.2.2.1.2.2.2, .int .u8 p0.2.1.2.2.2.2.2.2.1.1, .int .u8 p0.2.1.2.2.2.2.2.2.1.2.1, .int .u8 p0.2.1.2.2.2.2.2.2.1.2.2.1, .int .u8 p0.2.1.2.2.2.2.2.2.1.2.2.2, .int .u8 p0.2.1.2.2.2.2.2.2.2.1, .int .u8 p0.2.1.2.2.2.2.2.2.2.2.1, .int .u8 p0.2.1.2.2.2.2.2.2.2.2.2.1, .int .u8 p0.2.1.2.2.2.2.2.2.2.2.2.2, .bool p0.2.2]) bx1.mem ag27 Wt.no rfl rfl rfl rfl rfl (L.nil (X.dk kn ⟨im, Sub.fresh ib rfl, i.u 0 (fun _ => rfl)⟩)))
  ·rintro D e s11 ⟨im, ib, i⟩ hk hf ha
   have kn := K1 ((i.p 0) (ha.at 0 rfl))
   refine L.kns _ kn (L.ca cf9 rfl rfl Wt.no rfl (m_overseerlaw24_list_c (s := s11) (p0 := p0) (u0 := (N + 2)) er12) rfl ?_)
   rintro _ s13 m14 ⟨a15, c15, rfl, h15⟩
   exact L.nil (X.dk kn ⟨im.trans m14.no, Sub.fresh ib rfl, ((((i.u 1 (fun _ => ⟨a15, c15, rfl⟩)).u 3 (fun z => let ⟨a21, c21, a22, c22, a23, c23, q, h21, h22, h23⟩ := (i.p 3) z; ⟨a21, c21, a22, c22, a23, c23, q, (h21.mono (m14.le no_No)), (h22.mono (m14.le no_No)), (h23.mono (m14.le no_No))⟩)).u 4 (fun z => let ⟨b25, q, h25⟩ := (i.p 4) z; ⟨b25, q, (h25.mono (m14.le no_No))⟩)).u 7 (fun _ _ _ _ q1 => by cases (show some (.slice a15 r12.length c15 : Value) = some _ from q1); exact h15)).u 8 (fun z a30 c30 q5 => (((i.p 8) z a30 c30 q5).mv m14 no_No no_No))⟩)
  ·rintro D e s16 ⟨im, ib, i⟩ hk hf ha
   have bx4 := bx4.mv im (tgN (by decide))
   have kn := K1 (ib 3 _ rfl)
   exact L.kns _ kn (L.lg (j := 0) (cs := [.int .u8 p1.1, .int .u8 p1.2.1, .int .u8 p1.2.2.1.1, .int .u8 p1.2.2.1.2.1, .int .u8 p1.2.2.1.2.2.1, .int .u8 p1.2.2.1.2.2.2, .int .u8 p1.2.2.2.1.1, .int .u8 p1.2.2.2.1.2.1, .int .u8 p1.2.2.2.1.2.2.1, .int .u8 p1.2.2.2.1.2.2.2, .int .u8 p1.2.2.2.2.1.1, .int .u8 p1.2.2.2.2.1.2.1, .int .u8 p1.2.2.2.2.1.2.2.1, .int .u8 p1.2.2.2.2.1.2.2.2, .int .u8 p1.2.2.2.2.2.1.1, .int .u8 p1.2.2.2.2.2.1.2.1, .int .u8 p1.2.2.2.2.2.1.2.2.1, .int .u8 p1.2.2.2.2.2.1.2.2.2, .int .u8 p1.2.2.2.2.2.2.1.1, .int .u8 p1.2.2.2.2.2.2.1.2.1, .int .u8 p1.2.2.2.2.2.2.1.2.2.1, .int .u8 p1.2.2.2.2.2.2.1.2.2.2, .int .u8 p1.2.2.2.2.2.2.2.1, .int .u8 p1.2.2.2.2.2.2.2.2.1, .int .u8 p1.2.2.2.2.2.2.2.2.2.1, .int .u8 p1.2.2.2.2.2.2.2.2.2.2]) bx4.mem ag25 Wt.no rfl rfl rfl rfl rfl (L.nil (X.dk kn ⟨im, Sub.fresh ib rfl, i.u 2 (fun _ => rfl)⟩)))
  ·rintro D e s17 ⟨im, ib, i⟩ hk hf ha
   have kn := K1 ((i.p 2) (ha.at 2 rfl))
   refine L.kns _ kn (L.ca cf16 rfl rfl Wt.no rfl (m_overseerlaw04_Make_c (s := s17) (p0 := p1) (u1 := 0) (u2 := 0) er18) rfl ?_)
   rintro _ s19 m20 ⟨a21, c21, a22, c22, a23, c23, rfl, h21, h22, h23⟩
   replace h22 := h22.p
   replace h23 := h23.p
   exact L.nil (X.dk kn ⟨im.trans m20.no, Sub.fresh ib rfl, (((i.u 3 (fun _ => ⟨a21, c21, a22, c22, a23, c23, rfl, h21, h22, h23⟩)).u 4 (fun z => let ⟨b25, q, h25⟩ := (i.p 4) z; ⟨b25, q, (h25.mono (m20.le no_No))⟩)).u 7 (fun z z2 a15 c15 q1 => (((i.p 7) z z2 a15 c15 q1).mv m20 no_No no_No))).u 8 (fun z a30 c30 q5 => (((i.p 8) z a30 c30 q5).mv m20 no_No no_No))⟩)
  ·rintro D e s24 ⟨im, ib, i⟩ hk hf ha
   obtain ⟨a21, c21, a22, c22, a23, c23, g3_, h21, h22, h23⟩ := (i.p 3) (ha.at 3 rfl)
   have kn := K1 g3_
   refine L.kns _ kn (L.bsE (k := 1) (cs := [.slice a21 r18.1.length c21, .int .i64 r18.2.1, .slice a22 r18.2.2.1.length c22, .slice a23 r18.2.2.2.length c23]) 0 bs29 (Nat.le_of_ble_eq_true rfl) Wt.no rfl rfl rfl rfl fun b25 s26 m27 bx25 => ?_)
   replace h21 := h21.mono (m27.le no_No)
   replace h22 := h22.mono (m27.le no_No)
   replace h23 := h23.mono (m27.le no_No)
   have h25 := Bx.rdL (r := (rP (rL (rK .i64)) (rP (rK .i64) (rP (rL (rK .i64)) (rL (rP (rK .i64) (rP (rK .i64) (rK .i64)))))))) (xs := ([r18] : List (List Int × Int × List Int × (List (Int × Int × Int))))) bx25 ⟨[.slice a21 r18.1.length c21, .int .i64 r18.2.1, .slice a22 r18.2.2.1.length c22, .slice a23 r18.2.2.2.length c23], _, rfl, ⟨[.slice a21 r18.1.length c21], [.int .i64 r18.2.1, .slice a22 r18.2.2.1.length c22, .slice a23 r18.2.2.2.length c23], rfl, ⟨_, _, rfl, h21⟩, ⟨[.int .i64 r18.2.1], [.slice a22 r18.2.2.1.length c22, .slice a23 r18.2.2.2.length c23], rfl, rfl, ⟨[.slice a22 r18.2.2.1.length c22], [.slice a23 r18.2.2.2.length c23], rfl, ⟨_, _, rfl, h22⟩, ⟨_, _, rfl, h23⟩⟩⟩⟩, rfl⟩ (Nat.le_of_ble_eq_true rfl)
   exact L.nil (X.dk kn ⟨im.trans m27.no, Sub.fresh ib rfl, (((i.u 3 (fun z => let ⟨a21, c21, a22, c22, a23, c23, q, h21, h22, h23⟩ := (i.p 3) z; ⟨a21, c21, a22, c22, a23, c23, q, (h21.mono (m27.le no_No)), (h22.mono (m27.le no_No)), (h23.mono (m27.le no_No))⟩)).u 4 (fun _ => ⟨b25, rfl, h25⟩)).u 7 (fun z z2 a15 c15 q1 => (((i.p 7) z z2 a15 c15 q1).mv m27 no_No no_No))).u 8 (fun z a30 c30 q5 => (((i.p 8) z a30 c30 q5).mv m27 no_No no_No))⟩)
  ·rintro D e s28 ⟨im, ib, i⟩ hk hf ha
   obtain ⟨a15, c15, g1_⟩ := (i.p 1) (ha.at 1 rfl)
   obtain ⟨b25, g4_, h25⟩ := (i.p 4) (ha.at 4 rfl)
   obtain h15 := (i.p 7) (ha.at 1 rfl) hk a15 c15 g1_
   have kn := K2 g1_ g4_
   exact L.kns _ kn (L.ap (r := (rP (rL (rK .i64)) (rP (rK .i64) (rP (rL (rK .i64)) (rL (rP (rK .i64) (rP (rK .i64) (rK .i64)))))))) Tryd.underlying29 el34 rfl (tgp hN) h15 h25.wk Wt.no rfl rfl ex29 rfl fun a30 c30 s31 m32 h30 => L.nil (X.dk kn ⟨im.trans (m32.one rfl), Sub.fresh ib rfl, (((((i.u 3 (fun z => let ⟨a21, c21, a22, c22, a23, c23, q, h21, h22, h23⟩ := (i.p 3) z; ⟨a21, c21, a22, c22, a23, c23, q, (h21.mono (m32.le (tg0 hN))), (h22.mono (m32.le (tg0 hN))), (h23.mono (m32.le (tg0 hN)))⟩)).u 4 (fun z => let ⟨b25, q, h25⟩ := (i.p 4) z; ⟨b25, q, (h25.mono (m32.le (tg0 hN)))⟩)).u 5 (fun _ => ⟨a30, c30, rfl⟩)).u 6 (fun z => Bool.noConfusion ((hf 6 (Nat.le_of_ble_eq_true rfl) rfl).symm.trans z))).u 7 (fun _ z => Bool.noConfusion (show true = false from z))).u 8 (fun _ _ _ q5 => by cases (show some (.slice a30 x29.length c30 : Value) = some _ from q5); exact h30)⟩))
  rintro D e s33 ⟨im, ib, i⟩ hk hf ha
  obtain ⟨a30, c30, g5_⟩ := (i.p 5) (ha.at 5 rfl)
  have kn := K1 g5_
  exact L.kns _ kn (L.as Wt.no rfl rfl (L.nil (X.dk kn ⟨im, Sub.fresh ib rfl, i.u 6 (fun _ _ _ q5 => by cases g5_.symm.trans q5; exact rfl)⟩)))
 rintro D e s34 hD ⟨im, ib, i⟩
 obtain ⟨a30, c30, g5_⟩ := (i.p 5) (hD 5 rfl)
 have g6_ := (i.p 6) (hD 6 rfl) a30 c30 g5_
 obtain h30 := (i.p 8) (hD 5 rfl) a30 c30 g5_
 have m0 := m0.trans (im.one up)
 refine X.sub (e' := [(5, .slice a30 x29.length c30)]) ?_ (Sub.cons g6_ Sub.nil)
 refine X.seqN (E.seq (E.reg (L.mv Wt.no rfl rfl ?_)))
 have m35 := Sig.fz_mv (N + 2) s34
 replace h30 := h30.fz (tgn hN)
 replace m0 := m0.trans (m35.one up)
 refine L.toR (s' := (Sig.fz (N + 2) s34)) rfl ?_
 obtain ⟨r36, er36, hm⟩ := bindS hm
 refine L.ca cf17 rfl rfl Wt.no rfl (m_blocking_Culprits_c (s := (Sig.fz (N + 2) s34)) (p0 := x29) (u0 := 0) h30 er36) rfl ?_
 rintro _ s37 m38 ⟨a39, c39, rfl, h39⟩
 replace h39 := h39.p
 replace m0 := m0.trans m38.no
 replace h30 := h30.mono (m38.le no_No)
 refine L.mv Wt.no rfl rfl (L.ex Wt.no rfl rfl rfl (L.ex Wt.no rfl rfl rfl (L.as Wt.no rfl rfl (L.as Wt.no rfl rfl (L.nil (X.seqN (E.seq (E.reg (L.mv Wt.no rfl rfl ?_)))))))))
 obtain ⟨r40, er40, hm⟩ := bindS hm
 refine L.ca cf11 rfl rfl Wt.no rfl (m_blocking_Nonblocking_c (s := s37) (p0 := x29) h30 er40) rfl ?_
 rintro _ s41 m42 ⟨a43, c43, rfl, h43⟩
 replace m0 := m0.trans m42.no
 replace h30 := h30.mono (m42.le no_No)
 replace h39 := h39.mono (m42.le no_No)
 refine L.mv Wt.no rfl rfl (L.ex Wt.no rfl rfl rfl (L.ex Wt.no rfl rfl rfl (L.ex Wt.no rfl rfl rfl (L.as Wt.no rfl rfl (L.as Wt.no rfl rfl (L.as Wt.no rfl rfl (L.nil (X.seqN (E.seq (E.seq (E.reg (L.mv Wt.no rfl rfl (L.bi Wt.no rfl rfl rfl rfl (L.nil (X.seqN ?_)))))))))))))))
 rcases ifS hm with ⟨hc, hm⟩ | ⟨hc, hm⟩
 ·refine E.cT rfl hc (E.seq (E.reg (L.as Wt.no rfl rfl (L.nil (X.seqN (E.ret (X.seqR ?_)))))))
  obtain rfl := Option.some.inj hm
  exact X.rt (.inl rfl) Tryd.results4 (Rs.tmp rfl Rs.nil) rfl ⟨_, (s41).ren N (fun _ => 0), rfl, rfl, m0.ren hNb, rfl⟩
 refine E.cF rfl hc (E.skip (X.seqN (E.seq (E.seq (E.reg (L.mv Wt.no rfl rfl (L.nil (X.seqN ?_))))))))
 rcases ifS hm with ⟨hc, hm⟩ | ⟨hc, hm⟩
 ·refine E.cT rfl hc (E.seq (E.reg (L.mv Wt.no rfl rfl (L.len sl31 Wt.no rfl rfl (L.bi Wt.no rfl rfl rfl rfl (L.mv Wt.no rfl rfl (L.cut 3 (fun e w => ∃ (v44 : Bool), (((r36.1.length : Int) == 0) && (r36.2 == 22)) = v44 ∧ e = (46, .bool v44) :: [] ∧ w = s41.w) ?_ ?_)))))))
  ·rintro _ _ ⟨v44, rfl, rfl, rfl⟩
   refine L.as Wt.no rfl rfl (L.nil (X.seqN (E.ret (X.seqR ?_))))
   obtain rfl := Option.some.inj hm
   exact X.rt (.inl rfl) Tryd.results4 (Rs.tmp rfl Rs.nil) rfl ⟨_, (s41).ren N (fun _ => 0), rfl, rfl, m0.ren hNb, rfl⟩
  intro J45
  rcases Bool.eq_false_or_eq_true ((r36.1.length : Int) == 0) with hc | hc
  ·exact L.know (d := 43) rfl hc (L.mv (Wt.mk rfl rfl) rfl rfl (L.bi (Wt.mk rfl rfl) rfl rfl rfl rfl (L.pkT Wt.no rfl rfl rfl rfl (L.sb (J45 _ _ ⟨(r36.2 == 22), (andT hc).symm, rfl, rfl⟩) rfl))))
  exact L.know (d := 43) rfl hc (L.skip rfl rfl rfl rfl (L.skip rfl rfl rfl rfl (L.pkF Wt.no rfl rfl rfl rfl (L.sb (J45 _ _ ⟨false, (andF hc).symm, rfl, rfl⟩) rfl))))
 refine E.cF rfl hc (E.skip (X.seqN (E.seq (E.reg (L.as Wt.no rfl rfl (L.nil (X.seqN (E.seq (E.seq (E.reg (L.as Wt.no rfl rfl (L.nil (X.seqN (E.block ?_))))))))))))))
 obtain ⟨o135, eo135, hm⟩ := bindS hm
 refine E.cut (x := .exit 0) (fun e w => ∃ (s140 : Sig) (u139 : List Int) (a137 : Option Addr) (c137 : Nat), o135 = .inl u139 ∧ Mv (Up N No) s s140 ∧ RowT (rK .i64) s140 (N + 5) 3 a137 c137 u139 ∧ RdL (rK .i64) s140 a39 c39 r36.1 ∧ e = [(11, .slice a137 u139.length c137), (7, .int .i64 r36.2), (6, .slice a39 r36.1.length c39)] ∧ w = s140.w) ?_ ?_
 ·rintro _ _ ⟨s140, u139, a137, c137, rfl, m0, h137, h39, rfl, rfl⟩
  dsimp only at hm
  refine X.blkE (X.seqN (E.seq (E.reg (L.mv Wt.no rfl rfl (L.mv Wt.no rfl rfl ?_)))))
  obtain ⟨r141, er141, hm⟩ := bindS hm
  refine L.ca cf15 rfl rfl Wt.no rfl (Calls.lendG (s0 := (Sig.drop N s140)) (s := s140) rfl (m_overseerlaw24_same_c (s := (Sig.drop N s140)) (p0 := r36.1) (p1 := u139) (h39.mono (Sig.drop_le N _)) (h137.drop (Nat.le_add_right _ _)) er141) (fun v s' h => h)) rfl ?_
  rintro _ s142 m143 rfl
  replace m0 := m0.trans m143.no
  refine L.mv Wt.no rfl rfl (L.cut 3 (fun e w => ∃ (v144 : Bool), (r141 && (r36.2 == 0)) = v144 ∧ e = (90, .bool v144) :: [] ∧ w = s142.w) ?_ ?_)
  ·rintro _ _ ⟨v144, rfl, rfl, rfl⟩
   refine L.as Wt.no rfl rfl (L.nil (X.seqN (E.ret ?_)))
   obtain rfl := Option.some.inj hm
   exact X.rt (.inl rfl) Tryd.results4 (Rs.tmp rfl Rs.nil) rfl ⟨_, (s142).ren N (fun _ => 0), rfl, rfl, m0.ren hNb, rfl⟩
  intro J145
  rcases Bool.eq_false_or_eq_true r141 with hc | hc
  ·exact L.know (d := 87) rfl hc (L.mv (Wt.mk rfl rfl) rfl rfl (L.bi (Wt.mk rfl rfl) rfl rfl rfl rfl (L.pkT Wt.no rfl rfl rfl rfl (L.sb (J145 _ _ ⟨(r36.2 == 0), (andT hc).symm, rfl, rfl⟩) rfl))))
  exact L.know (d := 87) rfl hc (L.skip rfl rfl rfl rfl (L.skip rfl rfl rfl rfl (L.pkF Wt.no rfl rfl rfl rfl (L.sb (J145 _ _ ⟨false, (andF hc).symm, rfl, rfl⟩) rfl))))
 intro K146
 refine E.cut (x := .ret) (fun e w => ∃ (s148 : Sig) (u147 : Unit), o135 = .inr (u147) ∧ Mv (Up N No) s s148 ∧ e = [(4, .bool false)] ∧ w = s148.w) ?_ ?_
 ·rintro _ _ ⟨s148, u147, rfl, m0, rfl, rfl⟩
  dsimp only at hm
  refine X.blkR (X.seqR ?_)
  obtain rfl := Option.some.inj hm
  exact X.rt (.inl rfl) Tryd.results4 (Rs.tmp rfl Rs.nil) rfl ⟨_, (s148).ren N (fun _ => 0), rfl, rfl, m0.ren hNb, rfl⟩
 intro K149
 refine E.iter (fun (st135 : Int × List Int) (e : List (Nat × Value)) (w : World) => ∃ (s138 : Sig) (a48 : Option Addr) (c48 : Nat), Mv (Up N No) s s138 ∧ RowT (rK .i64) s138 (N + 5) 3 a48 c48 st135.2 ∧ RdL (rK .i64) s138 a39 c39 r36.1 ∧ RdL (rP (rL (rK .i64)) (rP (rK .i64) (rP (rL (rK .i64)) (rL (rP (rK .i64) (rP (rK .i64) (rK .i64))))))) s138 a30 c30 x29 ∧ e = [(12, .int .i64 st135.1), (11, .slice a48 st135.2.length c48), (7, .int .i64 r36.2), (6, .slice a39 r36.1.length c39), (5, .slice a30 x29.length c30)] ∧ w = s138.w) eo135 ⟨s41, none, 0, m0, RowT.nil, h39, h30, rfl, rfl⟩ (Sub.rf rfl) ?_
 rintro st135 res135 hm ih135 ho135 _ _ ⟨s138, a48, c48, m0, h48, h39, h30, rfl, rfl⟩
 unfold m_overseerlaw24_BlockingCulprits_l1 at hm
 refine E.seq (E.seq (E.reg (L.mv Wt.no rfl rfl (L.mv Wt.no rfl rfl (L.len sl29 Wt.no rfl rfl (L.bi Wt.no rfl rfl rfl rfl (L.nil (X.seqN ?_))))))))
 rcases ifS hm with ⟨hc, hm⟩ | ⟨hc, hm⟩
 ·refine E.cT rfl hc (E.skip (X.seqN (E.seqJ (fun e w => ∃ (s152 : Sig) (l150 : List Int) (a151 : Option Addr) (c151 : Nat), m_overseerlaw24_BlockingCulprits_j1 st135 l150 = some res135 ∧ Mv (Up N No) s s152 ∧ RowT (rK .i64) s152 (N + 5) 3 a151 c151 l150 ∧ RdL (rK .i64) s152 a39 c39 r36.1 ∧ RdL (rP (rL (rK .i64)) (rP (rK .i64) (rP (rL (rK .i64)) (rL (rP (rK .i64) (rP (rK .i64) (rK .i64))))))) s152 a30 c30 x29 ∧ e = [(11, .slice a151 l150.length c151), (12, .int .i64 st135.1), (7, .int .i64 r36.2), (6, .slice a39 r36.1.length c39), (5, .slice a30 x29.length c30)] ∧ w = s152.w) ?_ ?_)))
  ·rintro _ _ ⟨s152, l150, a151, c151, hm, m0, h151, h39, h30, rfl, rfl⟩
   unfold m_overseerlaw24_BlockingCulprits_j1 at hm
   exact E.reg (L.mv Wt.no rfl rfl (L.bi Wt.no rfl rfl rfl rfl (L.as Wt.no rfl rfl (L.nil (X.sub (ih135 _ (Option.some.inj hm).symm _ _ ⟨s152, a151, c151, m0, h151, h39, h30, rfl, rfl⟩) (Sub.rf rfl))))))
  intro Jj153
  refine E.block (E.seq ?_)
  obtain ⟨x161, ex161, hm⟩ := bindS hm
  obtain ⟨x164, ex164, hm⟩ := bindS hm
  obtain ⟨x172, ex172, hm⟩ := bindS hm
  obtain ⟨x175, ex175, hm⟩ := bindS hm
  obtain ⟨r182, er182, hm⟩ := bindS hm
  refine E.draw [[], [], [], [1, 2], [0, 1, 2, 3], [], [], [6], [5, 6, 7], [0, 1, 2, 3, 4, 5, 6, 7, 8], [0, 1, 2, 3, 4, 5, 6, 7, 8, 9], [0, 1, 2, 3, 4, 5, 6, 7, 8, 9, 10], [0, 1, 2, 3, 4, 5, 6, 7, 8, 9, 10, 11], [0, 1, 2, 3, 4, 5, 6, 7, 8, 9, 10, 11], [0, 1, 2, 3, 4, 5, 6, 7, 8, 9, 10, 11], [], [0, 1, 2, 3, 4, 5, 6, 7, 8, 9, 10, 11, 12, 15], [0, 1, 2, 3, 4, 5, 6, 7, 8, 9, 10, 11, 12, 13, 15, 16], [0, 1, 2, 3, 4, 5, 6, 7, 8, 9, 10, 11, 12, 13, 14, 15, 16, 17]] (fun D e sx => Mv (fun t => t = (N + 3) ∨ t = (N + 4)) s138 sx ∧ Sub [(12, .int .i64 st135.1), (11, .slice a48 st135.2.length c48), (7, .int .i64 r36.2), (6, .slice a39 r36.1.length c39), (5, .slice a30 x29.length c30)] e ∧ AllP [D 0 = true → (∃ (b155 : Nat), Env.get e 54 = some (.slice (some ⟨b155, 0, none⟩) ([] : List (List Int × Int × List Int × (List (Int × Int × Int)))).length 0)), G D e 1 55 (.slice a30 x29.length c30), G D e 2 56 (.int .i64 st135.1), D 3 = true → (∃ (a162 : Option Addr) (c162 : Nat), Env.get e 57 = some (.slice a162 x161.length c162) ∧ RdL (rP (rL (rK .i64)) (rP (rK .i64) (rP (rL (rK .i64)) (rL (rP (rK .i64) (rP (rK .i64) (rK .i64))))))) sx a162 c162 x161), D 4 = true → (∃ (a165 : Option Addr) (c165 : Nat), Env.get e 58 = some (.slice a165 x164.length c165)), G D e 5 59 (.slice a30 x29.length c30), G D e 6 60 (.int .i64 st135.1), G D e 7 61 (.int .i64 (W (st135.1 + 1))), D 8 = true → (∃ (a173 : Option Addr) (c173 : Nat), Env.get e 62 = some (.slice a173 x172.length c173) ∧ RdL (rP (rL (rK .i64)) (rP (rK .i64) (rP (rL (rK .i64)) (rL (rP (rK .i64) (rP (rK .i64) (rK .i64))))))) sx a173 c173 x172), D 9 = true → (∃ (a176 : Option Addr) (c176 : Nat), Env.get e 63 = some (.slice a176 x175.length c176)), D 10 = true → (∃ (a185 : Option Addr) (c185 : Nat) (a186 : Option Addr) (c186 : Nat) (a187 : Option Addr) (c187 : Nat) (a188 : Option Addr) (c188 : Nat), Env.get e 64 = some (.tuple #[.agg #[.slice a185 r182.1.1.length c185, .int .i64 r182.1.2.1, .slice a186 r182.1.2.2.1.length c186, .slice a187 r182.1.2.2.2.length c187], .slice a188 r182.2.1.length c188, .int .i64 r182.2.2]) ∧ RdL (rK .i64) sx a185 c185 r182.1.1 ∧ RdL (rK .i64) sx a186 c186 r182.1.2.2.1 ∧ RdL (rP (rK .i64) (rP (rK .i64) (rK .i64))) sx a187 c187 r182.1.2.2.2 ∧ RdL (rL (rK .i64)) sx a188 c188 r182.2.1), D 11 = true → ∀ (a185 : Option Addr) (c185 : Nat) (a186 : Option Addr) (c186 : Nat) (a187 : Option Addr) (c187 : Nat) (a188 : Option Addr) (c188 : Nat), Env.get e 64 = some (.tuple #[.agg #[.slice a185 r182.1.1.length c185, .int .i64 r182.1.2.1, .slice a186 r182.1.2.2.1.length c186, .slice a187 r182.1.2.2.2.length c187], .slice a188 r182.2.1.length c188, .int .i64 r182.2.2]) → (Env.get e 53 = some (.tuple #[.agg #[.slice a185 r182.1.1.length c185, .int .i64 r182.1.2.1, .slice a186 r182.1.2.2.1.length c186, .slice a187 r182.1.2.2.2.length c187], .slice a188 r182.2.1.length c188, .int .i64 r182.2.2])), D 12 = true → ∀ (a185 : Option Addr) (c185 : Nat) (a186 : Option Addr) (c186 : Nat) (a187 : Option Addr) (c187 : Nat) (a188 : Option Addr) (c188 : Nat), Env.get e 64 = some (.tuple #[.agg #[.slice a185 r182.1.1.length c185, .int .i64 r182.1.2.1, .slice a186 r182.1.2.2.1.length c186, .slice a187 r182.1.2.2.2.length c187], .slice a188 r182.2.1.length c188, .int .i64 r182.2.2]) → (Env.get e 65 = some (.agg #[.slice a185 r182.1.1.length c185, .int .i64 r182.1.2.1, .slice a186 r182.1.2.2.1.length c186, .slice a187 r182.1.2.2.2.length c187])), D 13 = true → ∀ (a185 : Option Addr) (c185 : Nat) (a186 : Option Addr) (c186 : Nat) (a187 : Option Addr) (c187 : Nat) (a188 : Option Addr) (c188 : Nat), Env.get e 64 = some (.tuple #[.agg #[.slice a185 r182.1.1.length c185, .int .i64 r182.1.2.1, .slice a186 r182.1.2.2.1.length c186, .slice a187 r182.1.2.2.2.length c187], .slice a188 r182.2.1.length c188, .int .i64 r182.2.2]) → (Env.get e 66 = some (.slice a188 r182.2.1.length c188)), G D e 14 67 (.int .i64 r182.2.2), D 15 = true → (∃ (b194 : Nat), Env.get e 13 = some (.pointer (some ⟨b194, 0, none⟩))), D 17 = true → ∀ (a185 : Option Addr) (c185 : Nat) (a186 : Option Addr) (c186 : Nat) (a187 : Option Addr) (c187 : Nat) (a188 : Option Addr) (c188 : Nat), Env.get e 64 = some (.tuple #[.agg #[.slice a185 r182.1.1.length c185, .int .i64 r182.1.2.1, .slice a186 r182.1.2.2.1.length c186, .slice a187 r182.1.2.2.2.length c187], .slice a188 r182.2.1.length c188, .int .i64 r182.2.2]) → (Env.get e 14 = some (.slice a188 r182.2.1.length c188)), G D e 18 15 (.int .i64 r182.2.2), D 0 = true → D 4 = false → ∀ (b155 : Nat), Env.get e 54 = some (.slice (some ⟨b155, 0, none⟩) ([] : List (List Int × Int × List Int × (List (Int × Int × Int)))).length 0) → RowT (rP (rL (rK .i64)) (rP (rK .i64) (rP (rL (rK .i64)) (rL (rP (rK .i64) (rP (rK .i64) (rK .i64))))))) sx (N + 3) 34 (some ⟨b155, 0, none⟩) 0 ([] : List (List Int × Int × List Int × (List (Int × Int × Int)))), D 4 = true → D 9 = false → ∀ (a165 : Option Addr) (c165 : Nat), Env.get e 58 = some (.slice a165 x164.length c165) → RowT (rP (rL (rK .i64)) (rP (rK .i64) (rP (rL (rK .i64)) (rL (rP (rK .i64) (rP (rK .i64) (rK .i64))))))) sx (N + 3) 34 a165 c165 x164, D 9 = true → D 10 = false → ∀ (a176 : Option Addr) (c176 : Nat), Env.get e 63 = some (.slice a176 x175.length c176) → RowT (rP (rL (rK .i64)) (rP (rK .i64) (rP (rL (rK .i64)) (rL (rP (rK .i64) (rP (rK .i64) (rK .i64))))))) sx (N + 3) 34 a176 c176 x175, D 15 = true → D 16 = false → ∀ (b194 : Nat), Env.get e 13 = some (.pointer (some ⟨b194, 0, none⟩)) → Bx sx (N + 4) b194 #[.slice none 0 0, .int .i64 0, .slice none 0 0, .slice none 0 0] 34, D 16 = true → ∀ (a185 : Option Addr) (c185 : Nat) (a186 : Option Addr) (c186 : Nat) (a187 : Option Addr) (c187 : Nat) (a188 : Option Addr) (c188 : Nat) (b194 : Nat), Env.get e 64 = some (.tuple #[.agg #[.slice a185 r182.1.1.length c185, .int .i64 r182.1.2.1, .slice a186 r182.1.2.2.1.length c186, .slice a187 r182.1.2.2.2.length c187], .slice a188 r182.2.1.length c188, .int .i64 r182.2.2]) → Env.get e 13 = some (.pointer (some ⟨b194, 0, none⟩)) → Bx sx (N + 4) b194 #[.slice a185 r182.1.1.length c185, .int .i64 r182.1.2.1, .slice a186 r182.1.2.2.1.length c186, .slice a187 r182.1.2.2.2.length c187] 34]) (by kernel_rfl) (by kernel_rfl) (by kernel_rfl) ?_ ?_ ?_
  ·intro sz mz
   exact ⟨mz.no, (Sub.rf rfl), nofun, nofun, nofun, nofun, nofun, nofun, nofun, nofun, nofun, nofun, nofun, nofun, nofun, nofun, nofun, nofun, nofun, nofun, nofun, nofun, nofun, nofun, nofun, trivial⟩
  ·refine ⟨?_, ?_, ?_, ?_, ?_, ?_, ?_, ?_, ?_, ?_, ?_, ?_, ?_, ?_, ?_, ?_, ?_, ?_, ?_, trivial⟩
   ·rintro D e s154 ⟨im, ib, i⟩ hk hf ha
    refine L.bs0 (N + 3) bs29 (Nat.le_of_ble_eq_true rfl) Wt.no rfl fun b155 s156 m157 bx155 => ?_
    have h155 := Bx.row (r := (rP (rL (rK .i64)) (rP (rK .i64) (rP (rL (rK .i64)) (rL (rP (rK .i64) (rP (rK .i64) (rK .i64)))))))) (xs := ([] : List (List Int × Int × List Int × (List (Int × Int × Int))))) bx155 rfl (Nat.le_of_ble_eq_true rfl)
    exact L.nil (X.dr (s := s156) (e' := (54, .slice (some ⟨b155, 0, none⟩) ([] : List (List Int × Int × List Int × (List (Int × Int × Int)))).length 0) :: e) (Sub.both (Sub.refl)) ⟨im.trans m157.no, Sub.fresh ib rfl, ((((((((i.u 0 (fun _ => ⟨b155, rfl⟩)).u 3 (fun z => let ⟨a162, c162, q, h162⟩ := (i.p 3) z; ⟨a162, c162, q, (h162.mono (m157.le no_No))⟩)).u 8 (fun z => let ⟨a173, c173, q, h173⟩ := (i.p 8) z; ⟨a173, c173, q, (h173.mono (m157.le no_No))⟩)).u 10 (fun z => let ⟨a185, c185, a186, c186, a187, c187, a188, c188, q, h185, h186, h187, h188⟩ := (i.p 10) z; ⟨a185, c185, a186, c186, a187, c187, a188, c188, q, (h185.mono (m157.le no_No)), (h186.mono (m157.le no_No)), (h187.mono (m157.le no_No)), (h188.mono (m157.le no_No))⟩)).u 18 (fun _ _ _ q0 => by cases (show some (.slice (some ⟨b155, 0, none⟩) ([] : List (List Int × Int × List Int × (List (Int × Int × Int)))).length 0 : Value) = some _ from q0); exact h155)).u 19 (fun z z2 a165 c165 q4 => (((i.p 19) z z2 a165 c165 q4).mv m157 no_No no_No))).u 20 (fun z z2 a176 c176 q9 => (((i.p 20) z z2 a176 c176 q9).mv m157 no_No no_No))).u 21 (fun z z2 b194 q15 => (((i.p 21) z z2 b194 q15).mv m157 no_No))).u 22 (fun z a185 c185 a186 c186 a187 c187 a188 c188 b194 q10 q15 => (((i.p 22) z a185 c185 a186 c186 a187 c187 a188 c188 b194 q10 q15).mv m157 no_No))⟩)
   ·rintro D e s158 ⟨im, ib, i⟩ hk hf ha
    have kn := K1 (ib 5 _ rfl)
    exact L.kns _ kn (L.mv Wt.no rfl rfl (L.nil (X.dk kn ⟨im, Sub.fresh ib rfl, i.u 1 (fun _ => rfl)⟩)))
   ·rintro D e s159 ⟨im, ib, i⟩ hk hf ha
    have kn := K1 (ib 12 _ rfl)
    exact L.kns _ kn (L.mv Wt.no rfl rfl (L.nil (X.dk kn ⟨im, Sub.fresh ib rfl, i.u 2 (fun _ => rfl)⟩)))
   ·rintro D e s160 ⟨im, ib, i⟩ hk hf ha
    have h30 := h30.mono (im.le (nor (tg0 hN) (tg0 hN)))
    have kn := K2 ((i.p 1) (ha.at 1 rfl)) ((i.p 2) (ha.at 2 rfl))
    exact L.kns _ kn (L.sh (r := (rP (rL (rK .i64)) (rP (rK .i64) (rP (rL (rK .i64)) (rL (rP (rK .i64) (rP (rK .i64) (rK .i64)))))))) sl29 h30 Wt.no rfl rfl ex161 rfl fun a162 c162 h162 => L.nil (X.dk kn ⟨im, Sub.fresh ib rfl, i.u 3 (fun _ => ⟨a162, c162, rfl, h162⟩)⟩))
   ·rintro D e s163 ⟨im, ib, i⟩ hk hf ha
    obtain ⟨b155, g0_⟩ := (i.p 0) (ha.at 0 rfl)
    obtain ⟨a162, c162, g3_, h162⟩ := (i.p 3) (ha.at 3 rfl)
    obtain h155 := (i.p 18) (ha.at 0 rfl) hk b155 g0_
    have kn := K2 g0_ g3_
    exact L.kns _ kn (L.ap (r := (rP (rL (rK .i64)) (rP (rK .i64) (rP (rL (rK .i64)) (rL (rP (rK .i64) (rP (rK .i64) (rK .i64)))))))) Tryd.underlying29 el34 rfl (tgp hN) h155 h162.wk Wt.no rfl rfl ex164 rfl fun a165 c165 s166 m167 h165 => L.nil (X.dk kn ⟨im.trans (m167.one (.inl rfl)), Sub.fresh ib rfl, ((((((((i.u 3 (fun z => let ⟨a162, c162, q, h162⟩ := (i.p 3) z; ⟨a162, c162, q, (h162.mono (m167.le (tg0 hN)))⟩)).u 4 (fun _ => ⟨a165, c165, rfl⟩)).u 8 (fun z => let ⟨a173, c173, q, h173⟩ := (i.p 8) z; ⟨a173, c173, q, (h173.mono (m167.le (tg0 hN)))⟩)).u 10 (fun z => let ⟨a185, c185, a186, c186, a187, c187, a188, c188, q, h185, h186, h187, h188⟩ := (i.p 10) z; ⟨a185, c185, a186, c186, a187, c187, a188, c188, q, (h185.mono (m167.le (tg0 hN))), (h186.mono (m167.le (tg0 hN))), (h187.mono (m167.le (tg0 hN))), (h188.mono (m167.le (tg0 hN)))⟩)).u 18 (fun _ z => Bool.noConfusion (show true = false from z))).u 19 (fun _ _ _ _ q4 => by cases (show some (.slice a165 x164.length c165 : Value) = some _ from q4); exact h165)).u 20 (fun z => Bool.noConfusion ((hf 9 (Nat.le_of_ble_eq_true rfl) rfl).symm.trans z))).u 21 (fun z z2 b194 q15 => (((i.p 21) z z2 b194 q15).mv m167 (tgN (by decide))))).u 22 (fun z a185 c185 a186 c186 a187 c187 a188 c188 b194 q10 q15 => (((i.p 22) z a185 c185 a186 c186 a187 c187 a188 c188 b194 q10 q15).mv m167 (tgN (by decide))))⟩))
   ·rintro D e s168 ⟨im, ib, i⟩ hk hf ha
    have kn := K1 (ib 5 _ rfl)
    exact L.kns _ kn (L.mv Wt.no rfl rfl (L.nil (X.dk kn ⟨im, Sub.fresh ib rfl, i.u 5 (fun _ => rfl)⟩)))
   ·rintro D e s169 ⟨im, ib, i⟩ hk hf ha
    have kn := K1 (ib 12 _ rfl)
    exact L.kns _ kn (L.mv Wt.no rfl rfl (L.nil (X.dk kn ⟨im, Sub.fresh ib rfl, i.u 6 (fun _ => rfl)⟩)))
   ·rintro D e s170 ⟨im, ib, i⟩ hk hf ha
    have kn := K1 ((i.p 6) (ha.at 6 rfl))
    exact L.kns _ kn (L.bi Wt.no rfl rfl rfl rfl (L.nil (X.dk kn ⟨im, Sub.fresh ib rfl, i.u 7 (fun _ => rfl)⟩)))
   ·rintro D e s171 ⟨im, ib, i⟩ hk hf ha
    have h30 := h30.mono (im.le (nor (tg0 hN) (tg0 hN)))
    have kn := K2 ((i.p 5) (ha.at 5 rfl)) ((i.p 7) (ha.at 7 rfl))
    exact L.kns _ kn (L.sf (r := (rP (rL (rK .i64)) (rP (rK .i64) (rP (rL (rK .i64)) (rL (rP (rK .i64) (rP (rK .i64) (rK .i64)))))))) sl29 h30 Wt.no rfl rfl ex172 rfl fun a173 c173 h173 => L.nil (X.dk kn ⟨im, Sub.fresh ib rfl, i.u 8 (fun _ => ⟨a173, c173, rfl, h173⟩)⟩))
   ·rintro D e s174 ⟨im, ib, i⟩ hk hf ha
    obtain ⟨a165, c165, g4_⟩ := (i.p 4) (ha.at 4 rfl)
    obtain ⟨a173, c173, g8_, h173⟩ := (i.p 8) (ha.at 8 rfl)
    obtain h165 := (i.p 19) (ha.at 4 rfl) hk a165 c165 g4_
    have kn := K2 g4_ g8_
    exact L.kns _ kn (L.ap (r := (rP (rL (rK .i64)) (rP (rK .i64) (rP (rL (rK .i64)) (rL (rP (rK .i64) (rP (rK .i64) (rK .i64)))))))) Tryd.underlying29 el34 rfl (tgp hN) h165 h173.wk Wt.no rfl rfl ex175 rfl fun a176 c176 s177 m178 h176 => L.nil (X.dk kn ⟨im.trans (m178.one (.inl rfl)), Sub.fresh ib rfl, ((((((((i.u 3 (fun z => let ⟨a162, c162, q, h162⟩ := (i.p 3) z; ⟨a162, c162, q, (h162.mono (m178.le (tg0 hN)))⟩)).u 8 (fun z => let ⟨a173, c173, q, h173⟩ := (i.p 8) z; ⟨a173, c173, q, (h173.mono (m178.le (tg0 hN)))⟩)).u 9 (fun _ => ⟨a176, c176, rfl⟩)).u 10 (fun z => let ⟨a185, c185, a186, c186, a187, c187, a188, c188, q, h185, h186, h187, h188⟩ := (i.p 10) z; ⟨a185, c185, a186, c186, a187, c187, a188, c188, q, (h185.mono (m178.le (tg0 hN))), (h186.mono (m178.le (tg0 hN))), (h187.mono (m178.le (tg0 hN))), (h188.mono (m178.le (tg0 hN)))⟩)).u 18 (fun z z2 b155 q0 => absurd (show D 4 = false from z2) (by rw [(ha.at 4 rfl)]; exact Bool.noConfusion))).u 19 (fun _ z => Bool.noConfusion (show true = false from z))).u 20 (fun _ _ _ _ q9 => by cases (show some (.slice a176 x175.length c176 : Value) = some _ from q9); exact h176)).u 21 (fun z z2 b194 q15 => (((i.p 21) z z2 b194 q15).mv m178 (tgN (by decide))))).u 22 (fun z a185 c185 a186 c186 a187 c187 a188 c188 b194 q10 q15 => (((i.p 22) z a185 c185 a186 c186 a187 c187 a188 c188 b194 q10 q15).mv m178 (tgN (by decide))))⟩))
   ·rintro D e s179 ⟨im, ib, i⟩ hk hf ha
    obtain ⟨a176, c176, g9_⟩ := (i.p 9) (ha.at 9 rfl)
    obtain h176 := (i.p 20) (ha.at 9 rfl) hk a176 c176 g9_
    have kn := K1 g9_
    refine L.kns _ kn ?_
    have m180 := Sig.fz_mv (N + 3) s179
    have h181 := h176.fz (tgn hN)
    refine L.toR (s' := (Sig.fz (N + 3) s179)) rfl (L.ca cf10 rfl rfl Wt.no rfl (m_product_Synchronous_c (s := (Sig.fz (N + 3) s179)) (p0 := x175) (u1 := 0) (u2 := 0) (u3 := 0) h181 er182) rfl ?_)
    rintro _ s183 m184 ⟨a185, c185, a186, c186, a187, c187, a188, c188, rfl, h185, h186, h187, h188⟩
    replace h186 := h186.p
    replace h187 := h187.p
    replace h188 := h188.p
    refine L.nil ?_
    have mq := m180.trans m184.no
    exact X.dk kn ⟨im.trans (mq.one (.inl rfl)), Sub.fresh ib rfl, (((((((((((i.u 3 (fun z => let ⟨a162, c162, q, h162⟩ := (i.p 3) z; ⟨a162, c162, q, (h162.mono (mq.le (tg0 hN)))⟩)).u 8 (fun z => let ⟨a173, c173, q, h173⟩ := (i.p 8) z; ⟨a173, c173, q, (h173.mono (mq.le (tg0 hN)))⟩)).u 10 (fun _ => ⟨a185, c185, a186, c186, a187, c187, a188, c188, rfl, h185, h186, h187, h188⟩)).u 11 (fun z => Bool.noConfusion ((hf 11 (Nat.le_of_ble_eq_true rfl) rfl).symm.trans z))).u 12 (fun z => Bool.noConfusion ((hf 12 (Nat.le_of_ble_eq_true rfl) rfl).symm.trans z))).u 13 (fun z => Bool.noConfusion ((hf 13 (Nat.le_of_ble_eq_true rfl) rfl).symm.trans z))).u 16 (fun z => Bool.noConfusion ((hf 17 (Nat.le_of_ble_eq_true rfl) rfl).symm.trans z))).u 18 (fun z z2 b155 q0 => absurd (show D 4 = false from z2) (by rw [(ha.at 4 rfl)]; exact Bool.noConfusion))).u 19 (fun z z2 a165 c165 q4 => absurd (show D 9 = false from z2) (by rw [(ha.at 9 rfl)]; exact Bool.noConfusion))).u 20 (fun _ z => Bool.noConfusion (show true = false from z))).u 21 (fun z z2 b194 q15 => (((i.p 21) z z2 b194 q15).mv mq (tgN (by decide))))).u 22 (fun z => Bool.noConfusion ((hf 16 (Nat.le_of_ble_eq_true rfl) rfl).symm.trans z))⟩
   ·rintro D e s189 ⟨im, ib, i⟩ hk hf ha
    obtain ⟨a185, c185, a186, c186, a187, c187, a188, c188, g10_, h185, h186, h187, h188⟩ := (i.p 10) (ha.at 10 rfl)
    have kn := K1 g10_
    exact L.kns _ kn (L.mv Wt.no rfl rfl (L.nil (X.dk kn ⟨im, Sub.fresh ib rfl, i.u 11 (fun _ _ _ _ _ _ _ _ _ q10 => by cases g10_.symm.trans q10; exact rfl)⟩)))
   ·rintro D e s190 ⟨im, ib, i⟩ hk hf ha
    obtain ⟨a185, c185, a186, c186, a187, c187, a188, c188, g10_, h185, h186, h187, h188⟩ := (i.p 10) (ha.at 10 rfl)
    have g11_ := (i.p 11) (ha.at 11 rfl) a185 c185 a186 c186 a187 c187 a188 c188 g10_
    have kn := K1 g11_
    exact L.kns _ kn (L.ex Wt.no rfl rfl rfl (L.nil (X.dk kn ⟨im, Sub.fresh ib rfl, i.u 12 (fun _ _ _ _ _ _ _ _ _ q10 => by cases g10_.symm.trans q10; exact rfl)⟩)))
   ·rintro D e s191 ⟨im, ib, i⟩ hk hf ha
    obtain ⟨a185, c185, a186, c186, a187, c187, a188, c188, g10_, h185, h186, h187, h188⟩ := (i.p 10) (ha.at 10 rfl)
    have g11_ := (i.p 11) (ha.at 11 rfl) a185 c185 a186 c186 a187 c187 a188 c188 g10_
    have kn := K1 g11_
    exact L.kns _ kn (L.ex Wt.no rfl rfl rfl (L.nil (X.dk kn ⟨im, Sub.fresh ib rfl, i.u 13 (fun _ _ _ _ _ _ _ _ _ q10 => by cases g10_.symm.trans q10; exact rfl)⟩)))
   ·rintro D e s192 ⟨im, ib, i⟩ hk hf ha
    obtain ⟨a185, c185, a186, c186, a187, c187, a188, c188, g10_, h185, h186, h187, h188⟩ := (i.p 10) (ha.at 10 rfl)
    have g11_ := (i.p 11) (ha.at 11 rfl) a185 c185 a186 c186 a187 c187 a188 c188 g10_
    have kn := K1 g11_
    exact L.kns _ kn (L.ex Wt.no rfl rfl rfl (L.nil (X.dk kn ⟨im, Sub.fresh ib rfl, i.u 14 (fun _ => rfl)⟩)))
   ·rintro D e s193 ⟨im, ib, i⟩ hk hf ha
    exact L.al (N + 4) zz34 rfl Wt.no rfl fun b194 s195 m196 bx194 => L.nil (X.dr (s := s195) (e' := (13, .pointer (some ⟨b194, 0, none⟩)) :: e) (Sub.both (Sub.refl)) ⟨im.trans m196.no, Sub.fresh ib rfl, ((((((((i.u 3 (fun z => let ⟨a162, c162, q, h162⟩ := (i.p 3) z; ⟨a162, c162, q, (h162.mono (m196.le no_No))⟩)).u 8 (fun z => let ⟨a173, c173, q, h173⟩ := (i.p 8) z; ⟨a173, c173, q, (h173.mono (m196.le no_No))⟩)).u 10 (fun z => let ⟨a185, c185, a186, c186, a187, c187, a188, c188, q, h185, h186, h187, h188⟩ := (i.p 10) z; ⟨a185, c185, a186, c186, a187, c187, a188, c188, q, (h185.mono (m196.le no_No)), (h186.mono (m196.le no_No)), (h187.mono (m196.le no_No)), (h188.mono (m196.le no_No))⟩)).u 15 (fun _ => ⟨b194, rfl⟩)).u 18 (fun z z2 b155 q0 => (((i.p 18) z z2 b155 q0).mv m196 no_No no_No))).u 19 (fun z z2 a165 c165 q4 => (((i.p 19) z z2 a165 c165 q4).mv m196 no_No no_No))).u 20 (fun z z2 a176 c176 q9 => (((i.p 20) z z2 a176 c176 q9).mv m196 no_No no_No))).u 21 (fun _ _ _ q15 => by cases (show some (.pointer (some ⟨b194, 0, none⟩) : Value) = some _ from q15); exact bx194)).u 22 (fun z => Bool.noConfusion ((hf 16 (Nat.le_of_ble_eq_true rfl) rfl).symm.trans z))⟩)
   ·rintro D e s197 ⟨im, ib, i⟩ hk hf ha
    obtain ⟨a185, c185, a186, c186, a187, c187, a188, c188, g10_, h185, h186, h187, h188⟩ := (i.p 10) (ha.at 10 rfl)
    have g12_ := (i.p 12) (ha.at 12 rfl) a185 c185 a186 c186 a187 c187 a188 c188 g10_
    obtain ⟨b194, g15_⟩ := (i.p 15) (ha.at 15 rfl)
    obtain bx194 := (i.p 21) (ha.at 15 rfl) hk b194 g15_
    have kn := K2 g15_ g12_
    exact L.kns _ kn (L.st (c := [.slice a185 r182.1.1.length c185, .int .i64 r182.1.2.1, .slice a186 r182.1.2.2.1.length c186, .slice a187 r182.1.2.2.2.length c187]) (cs' := #[.slice a185 r182.1.1.length c185, .int .i64 r182.1.2.1, .slice a186 r182.1.2.2.1.length c186, .slice a187 r182.1.2.2.2.length c187]) bx194 ag34.sz Wt.no rfl rfl rfl rfl rfl (Nat.le_of_ble_eq_true rfl) rfl fun s198 m199 bx194 => L.nil (X.dn kn ⟨im.trans (m199.one (.inr rfl)), ib, (((((((i.u 3 (fun z => let ⟨a162, c162, q, h162⟩ := (i.p 3) z; ⟨a162, c162, q, (h162.mono (m199.le (tg0 hN)))⟩)).u 8 (fun z => let ⟨a173, c173, q, h173⟩ := (i.p 8) z; ⟨a173, c173, q, (h173.mono (m199.le (tg0 hN)))⟩)).u 10 (fun z => let ⟨a185, c185, a186, c186, a187, c187, a188, c188, q, h185, h186, h187, h188⟩ := (i.p 10) z; ⟨a185, c185, a186, c186, a187, c187, a188, c188, q, (h185.mono (m199.le (tg0 hN))), (h186.mono (m199.le (tg0 hN))), (h187.mono (m199.le (tg0 hN))), (h188.mono (m199.le (tg0 hN)))⟩)).u 18 (fun z z2 b155 q0 => (((i.p 18) z z2 b155 q0).mv m199 (tgN (by decide)) (tg0 hN)))).u 19 (fun z z2 a165 c165 q4 => (((i.p 19) z z2 a165 c165 q4).mv m199 (tgN (by decide)) (tg0 hN)))).u 20 (fun z z2 a176 c176 q9 => (((i.p 20) z z2 a176 c176 q9).mv m199 (tgN (by decide)) (tg0 hN)))).u 21 (fun _ z => Bool.noConfusion (show true = false from z))).u 22 (fun _ _ _ _ _ _ _ _ _ _ q10 q15 => by cases g10_.symm.trans q10; cases g15_.symm.trans q15; exact bx194)⟩))
   ·rintro D e s200 ⟨im, ib, i⟩ hk hf ha
    obtain ⟨a185, c185, a186, c186, a187, c187, a188, c188, g10_, h185, h186, h187, h188⟩ := (i.p 10) (ha.at 10 rfl)
    have g13_ := (i.p 13) (ha.at 13 rfl) a185 c185 a186 c186 a187 c187 a188 c188 g10_
    have kn := K1 g13_
    exact L.kns _ kn (L.as Wt.no rfl rfl (L.nil (X.dk kn ⟨im, Sub.fresh ib rfl, i.u 16 (fun _ _ _ _ _ _ _ _ _ q10 => by cases g10_.symm.trans q10; exact rfl)⟩)))
   rintro D e s201 ⟨im, ib, i⟩ hk hf ha
   have kn := K1 ((i.p 14) (ha.at 14 rfl))
   exact L.kns _ kn (L.as Wt.no rfl rfl (L.nil (X.dk kn ⟨im, Sub.fresh ib rfl, i.u 17 (fun _ => rfl)⟩)))
  rintro D e s202 hD ⟨im, ib, i⟩
  obtain ⟨a185, c185, a186, c186, a187, c187, a188, c188, g10_, h185, h186, h187, h188⟩ := (i.p 10) (hD 10 rfl)
  obtain ⟨b194, g15_⟩ := (i.p 15) (hD 15 rfl)
  have g18_ := (i.p 17) (hD 18 rfl)
  obtain bx194 := (i.p 22) (hD 16 rfl) a185 c185 a186 c186 a187 c187 a188 c188 b194 g10_ g15_
  have h48 := h48.mv im (nor (tgN (by decide)) (tgN (by decide))) (nor (tg0 hN) (tg0 hN))
  have h39 := h39.mono (im.le (nor (tg0 hN) (tg0 hN)))
  have h30 := h30.mono (im.le (nor (tg0 hN) (tg0 hN)))
  have m0 := m0.trans (im.weak fun _ e => by rcases e with e | e; (rw [e]; exact up); (rw [e]; exact up))
  refine X.sub (e' := [(15, .int .i64 r182.2.2), (13, .pointer (some ⟨b194, 0, none⟩)), (12, .int .i64 st135.1), (11, .slice a48 st135.2.length c48), (7, .int .i64 r36.2), (6, .slice a39 r36.1.length c39), (5, .slice a30 x29.length c30)]) ?_ (Sub.cons g18_ (Sub.cons g15_ (Sub.cons (ib 12 _ rfl) (Sub.cons (ib 11 _ rfl) (Sub.cons (ib 7 _ rfl) (Sub.cons (ib 6 _ rfl) (Sub.cons (ib 5 _ rfl) Sub.nil)))))))
  refine X.seqN (E.seq (E.seq (E.reg (L.mv Wt.no rfl rfl (L.bi Wt.no rfl rfl rfl rfl (L.nil (X.seqN ?_)))))))
  rcases ifS hm with ⟨hc, hm⟩ | ⟨hc, hm⟩
  ·refine E.cT rfl hc (E.seq (E.reg (L.as Wt.no rfl rfl (L.nil (X.seqN (E.ret (X.seqR (X.blkR (X.seqR (X.seqR ?_))))))))))
   have hx := ho135 _ (Option.some.inj hm).symm
   exact X.sub (K149 _ _ ⟨s202, (), hx.symm, m0, rfl, rfl⟩) (Sub.rf rfl)
  refine E.cF rfl hc (E.skip (X.seqN (E.seq ?_)))
  obtain ⟨r206, er206, hm⟩ := bindS hm
  obtain ⟨r211, er211, hm⟩ := bindS hm
  obtain ⟨r216, er216, hm⟩ := bindS hm
  refine E.draw m_overseerlaw24_BlockingProducts_w0 (fun D e sx => Mv No s202 sx ∧ Sub [(13, .pointer (some ⟨b194, 0, none⟩)), (12, .int .i64 st135.1), (11, .slice a48 st135.2.length c48), (7, .int .i64 r36.2), (6, .slice a39 r36.1.length c39), (5, .slice a30 x29.length c30)] e ∧ AllP [G D e 0 71 (.agg #[.slice a185 r182.1.1.length c185, .int .i64 r182.1.2.1, .slice a186 r182.1.2.2.1.length c186, .slice a187 r182.1.2.2.2.length c187]), G D e 1 72 (.agg #[.slice a185 r182.1.1.length c185, .int .i64 r182.1.2.1, .slice a186 r182.1.2.2.1.length c186, .slice a187 r182.1.2.2.2.length c187]), D 2 = true → (∃ (a209 : Option Addr) (c209 : Nat), Env.get e 73 = some (.slice a209 r206.length c209) ∧ RdL (rK .i64) sx a209 c209 r206), D 3 = true → (∃ (a214 : Option Addr) (c214 : Nat), Env.get e 74 = some (.slice a214 r211.length c214) ∧ RdL (rK .i64) sx a214 c214 r211), D 4 = true → (∃ (a219 : Option Addr) (c219 : Nat), Env.get e 75 = some (.tuple #[.slice a219 r216.1.length c219, .bool r216.2]) ∧ RdL (rK .i64) sx a219 c219 r216.1), D 5 = true → ∀ (a219 : Option Addr) (c219 : Nat), Env.get e 75 = some (.tuple #[.slice a219 r216.1.length c219, .bool r216.2]) → (Env.get e 70 = some (.tuple #[.slice a219 r216.1.length c219, .bool r216.2])), D 6 = true → ∀ (a219 : Option Addr) (c219 : Nat), Env.get e 75 = some (.tuple #[.slice a219 r216.1.length c219, .bool r216.2]) → (Env.get e 76 = some (.slice a219 r216.1.length c219)), G D e 7 77 (.bool r216.2), D 8 = true → ∀ (a219 : Option Addr) (c219 : Nat), Env.get e 75 = some (.tuple #[.slice a219 r216.1.length c219, .bool r216.2]) → (Env.get e 16 = some (.slice a219 r216.1.length c219)), G D e 9 17 (.bool r216.2)]) (by kernel_rfl) (by kernel_rfl) (by kernel_rfl) ?_ ?_ ?_
  ·intro sz mz
   exact ⟨mz, (Sub.rf rfl), nofun, nofun, nofun, nofun, nofun, nofun, nofun, nofun, nofun, nofun, trivial⟩
  ·refine ⟨?_, ?_, ?_, ?_, ?_, ?_, ?_, ?_, ?_, ?_, trivial⟩
   ·rintro D e s203 ⟨im, ib, i⟩ hk hf ha
    have bx194 := bx194.mv im no_No
    have kn := K1 (ib 13 _ rfl)
    exact L.kns _ kn (L.lg (j := 0) (cs := [.slice a185 r182.1.1.length c185, .int .i64 r182.1.2.1, .slice a186 r182.1.2.2.1.length c186, .slice a187 r182.1.2.2.2.length c187]) bx194.mem ag34 Wt.no rfl rfl rfl rfl rfl (L.nil (X.dk kn ⟨im, Sub.fresh ib rfl, i.u 0 (fun _ => rfl)⟩)))
   ·rintro D e s204 ⟨im, ib, i⟩ hk hf ha
    have bx194 := bx194.mv im no_No
    have kn := K1 (ib 13 _ rfl)
    exact L.kns _ kn (L.lg (j := 0) (cs := [.slice a185 r182.1.1.length c185, .int .i64 r182.1.2.1, .slice a186 r182.1.2.2.1.length c186, .slice a187 r182.1.2.2.2.length c187]) bx194.mem ag34 Wt.no rfl rfl rfl rfl rfl (L.nil (X.dk kn ⟨im, Sub.fresh ib rfl, i.u 1 (fun _ => rfl)⟩)))
   ·rintro D e s205 ⟨im, ib, i⟩ hk hf ha
    have h185 := h185.mono (im.le no_No)
    have h186 := h186.mono (im.le no_No)
    have h187 := h187.mono (im.le no_No)
    have kn := K1 ((i.p 1) (ha.at 1 rfl))
    refine L.kns _ kn (L.ca cf14 rfl rfl Wt.no rfl (m_overseerlaw24_kinds_c (s := s205) (p0 := r182.1) (u0 := 0) h185 h186 h187 er206) rfl ?_)
    rintro _ s207 m208 ⟨a209, c209, rfl, h209⟩
    replace h209 := h209.p
    exact L.nil (X.dk kn ⟨im.trans m208.no, Sub.fresh ib rfl, ((i.u 2 (fun _ => ⟨a209, c209, rfl, h209⟩)).u 3 (fun z => let ⟨a214, c214, q, h214⟩ := (i.p 3) z; ⟨a214, c214, q, (h214.mono (m208.le no_No))⟩)).u 4 (fun z => let ⟨a219, c219, q, h219⟩ := (i.p 4) z; ⟨a219, c219, q, (h219.mono (m208.le no_No))⟩)⟩)
   ·rintro D e s210 ⟨im, ib, i⟩ hk hf ha
    obtain ⟨a209, c209, g2_, h209⟩ := (i.p 2) (ha.at 2 rfl)
    have kn := K1 g2_
    refine L.kns _ kn (L.ca cf13 rfl rfl Wt.no rfl (m_overseerlaw24_chosen_c (s := s210) (p0 := r206) (p1 := 3) (p2 := 5) (u0 := 0) h209 er211) rfl ?_)
    rintro _ s212 m213 ⟨a214, c214, rfl, h214⟩
    replace h214 := h214.p
    exact L.nil (X.dk kn ⟨im.trans m213.no, Sub.fresh ib rfl, ((i.u 2 (fun z => let ⟨a209, c209, q, h209⟩ := (i.p 2) z; ⟨a209, c209, q, (h209.mono (m213.le no_No))⟩)).u 3 (fun _ => ⟨a214, c214, rfl, h214⟩)).u 4 (fun z => let ⟨a219, c219, q, h219⟩ := (i.p 4) z; ⟨a219, c219, q, (h219.mono (m213.le no_No))⟩)⟩)
   ·rintro D e s215 ⟨im, ib, i⟩ hk hf ha
    obtain ⟨a214, c214, g3_, h214⟩ := (i.p 3) (ha.at 3 rfl)
    have h185 := h185.mono (im.le no_No)
    have h186 := h186.mono (im.le no_No)
    have h187 := h187.mono (im.le no_No)
    have kn := K2 ((i.p 0) (ha.at 0 rfl)) g3_
    refine L.kns _ kn (L.ca cf12 rfl rfl Wt.no rfl (m_overseerlaw24_least_c (s := s215) (p0 := r182.1) (p1 := 0) (p2 := r211) h185 h186 h187 h214 er216) rfl ?_)
    rintro _ s217 m218 ⟨a219, c219, rfl, h219⟩
    exact L.nil (X.dk kn ⟨im.trans m218.no, Sub.fresh ib rfl, (((((i.u 2 (fun z => let ⟨a209, c209, q, h209⟩ := (i.p 2) z; ⟨a209, c209, q, (h209.mono (m218.le no_No))⟩)).u 3 (fun z => let ⟨a214, c214, q, h214⟩ := (i.p 3) z; ⟨a214, c214, q, (h214.mono (m218.le no_No))⟩)).u 4 (fun _ => ⟨a219, c219, rfl, h219⟩)).u 5 (fun z => Bool.noConfusion ((hf 5 (Nat.le_of_ble_eq_true rfl) rfl).symm.trans z))).u 6 (fun z => Bool.noConfusion ((hf 6 (Nat.le_of_ble_eq_true rfl) rfl).symm.trans z))).u 8 (fun z => Bool.noConfusion ((hf 8 (Nat.le_of_ble_eq_true rfl) rfl).symm.trans z))⟩)
   ·rintro D e s220 ⟨im, ib, i⟩ hk hf ha
    obtain ⟨a219, c219, g4_, h219⟩ := (i.p 4) (ha.at 4 rfl)
    have kn := K1 g4_
    exact L.kns _ kn (L.mv Wt.no rfl rfl (L.nil (X.dk kn ⟨im, Sub.fresh ib rfl, i.u 5 (fun _ _ _ q4 => by cases g4_.symm.trans q4; exact rfl)⟩)))
   ·rintro D e s221 ⟨im, ib, i⟩ hk hf ha
    obtain ⟨a219, c219, g4_, h219⟩ := (i.p 4) (ha.at 4 rfl)
    have g5_ := (i.p 5) (ha.at 5 rfl) a219 c219 g4_
    have kn := K1 g5_
    exact L.kns _ kn (L.ex Wt.no rfl rfl rfl (L.nil (X.dk kn ⟨im, Sub.fresh ib rfl, i.u 6 (fun _ _ _ q4 => by cases g4_.symm.trans q4; exact rfl)⟩)))
   ·rintro D e s222 ⟨im, ib, i⟩ hk hf ha
    obtain ⟨a219, c219, g4_, h219⟩ := (i.p 4) (ha.at 4 rfl)
    have g5_ := (i.p 5) (ha.at 5 rfl) a219 c219 g4_
    have kn := K1 g5_
    exact L.kns _ kn (L.ex Wt.no rfl rfl rfl (L.nil (X.dk kn ⟨im, Sub.fresh ib rfl, i.u 7 (fun _ => rfl)⟩)))
   ·rintro D e s223 ⟨im, ib, i⟩ hk hf ha
    obtain ⟨a219, c219, g4_, h219⟩ := (i.p 4) (ha.at 4 rfl)
    have g6_ := (i.p 6) (ha.at 6 rfl) a219 c219 g4_
    have kn := K1 g6_
    exact L.kns _ kn (L.as Wt.no rfl rfl (L.nil (X.dk kn ⟨im, Sub.fresh ib rfl, i.u 8 (fun _ _ _ q4 => by cases g4_.symm.trans q4; exact rfl)⟩)))
   rintro D e s224 ⟨im, ib, i⟩ hk hf ha
   have kn := K1 ((i.p 7) (ha.at 7 rfl))
   exact L.kns _ kn (L.as Wt.no rfl rfl (L.nil (X.dk kn ⟨im, Sub.fresh ib rfl, i.u 9 (fun _ => rfl)⟩)))
  rintro D e s225 hD ⟨im, ib, i⟩
  have g9_ := (i.p 9) (hD 9 rfl)
  have h48 := h48.mv im no_No no_No
  have h39 := h39.mono (im.le no_No)
  have h30 := h30.mono (im.le no_No)
  have m0 := m0.trans im.no
  refine X.sub (e' := [(17, .bool r216.2), (12, .int .i64 st135.1), (11, .slice a48 st135.2.length c48), (7, .int .i64 r36.2), (6, .slice a39 r36.1.length c39), (5, .slice a30 x29.length c30)]) ?_ (Sub.cons g9_ (Sub.cons (ib 12 _ rfl) (Sub.cons (ib 11 _ rfl) (Sub.cons (ib 7 _ rfl) (Sub.cons (ib 6 _ rfl) (Sub.cons (ib 5 _ rfl) Sub.nil))))))
  refine X.seqN (E.seq (E.reg (L.mv Wt.no rfl rfl (L.not Wt.no rfl rfl (L.nil (X.seqN ?_))))))
  rcases ifS hm with ⟨hc, hm⟩ | ⟨hc, hm⟩
  ·refine E.cT rfl hc (E.reg (L.mv Wt.no rfl rfl (L.mv Wt.no rfl rfl (L.bsE (k := 1) (cs := [.int .i64 st135.1]) 0 bs31 (Nat.le_of_ble_eq_true rfl) Wt.no rfl rfl rfl rfl fun b226 s227 m228 bx226 => ?_))))
   replace m0 := m0.trans m228.no
   replace h48 := h48.mv m228 no_No no_No
   replace h30 := h30.mono (m228.le no_No)
   replace h39 := h39.mono (m228.le no_No)
   have h226 := Bx.rdL (r := (rK .i64)) (xs := ([st135.1] : List Int)) bx226 ⟨[.int .i64 st135.1], _, rfl, rfl, rfl⟩ (Nat.le_of_ble_eq_true rfl)
   obtain ⟨x229, ex229, hm⟩ := bindS hm
   refine L.ap (r := (rK .i64)) Tryd.underlying31 el3 rfl (tgp hN) h48 h226.wk Wt.no rfl rfl ex229 rfl fun a230 c230 s231 m232 h230 => ?_
   replace m0 := m0.trans (m232.one up)
   replace h30 := h30.mono (m232.le (tg0 hN))
   replace h39 := h39.mono (m232.le (tg0 hN))
   exact L.as Wt.no rfl rfl (L.nil (X.blkN (X.sub (Jj153 _ _ ⟨s231, x229, a230, c230, hm, m0, h230, h39, h30, rfl, rfl⟩) (Sub.rf rfl))))
  exact E.cF rfl hc (E.skip (X.blkN (X.sub (Jj153 _ _ ⟨s225, st135.2, a48, c48, hm, m0, h48, h39, h30, rfl, rfl⟩) (Sub.rf rfl))))
 refine E.cF rfl hc (E.exit (X.seqX (X.seqX ?_)))
 have hx := ho135 _ (Option.some.inj hm).symm
 exact X.sub (K146 _ _ ⟨s138, st135.2, a48, c48, hx.symm, m0, h48, h39, rfl, rfl⟩) (Sub.rf rfl)

end Go.Proofs.YtfbapajcheammaaDoor

namespace Go.Proofs.YtfbapajcheammaaDoor
open Go Go.RowKit
def allL (n : Nat) : List Int := (List.range n).map fun (i : Nat) => (i : Int)
theorem allL_succ (n : Nat) : allL (n + 1) = allL n ++ [(n : Int)] := by simp [allL, List.range_succ]
theorem allL_len (n : Nat) : (allL n).length = n := by simp [allL]
theorem lall_eq {n : Nat} (hn : n ≤ 1000000) : m_overseerlaw24_all (n : Int) = some (allL n) := by
  have h := iter_inv (f := m_overseerlaw24_all_l1 (n : Int)) (fun i s => i ≤ n ∧ s = ((i : Int), allL i)) (fun o => o = allL n) n 0 (by omega) ?_ ?_ (Nat.zero_le _) (0, []) ⟨Nat.zero_le _, rfl⟩
  · obtain ⟨o, h1, rfl⟩ := h
    simp [m_overseerlaw24_all, h1]
  · rintro i s hi ⟨_, rfl⟩
    refine .inl ⟨_, ?_, by omega, rfl⟩
    rw [m_overseerlaw24_all_l1, allL_succ]
    simp only [ct_lt hi, if_true]
    rw [app_eq (by have := allL_len i; simp; omega), Option.bind_some, nxt (by omega)]
  · rintro s ⟨_, rfl⟩
    refine ⟨_, ?_, rfl⟩
    rw [m_overseerlaw24_all_l1]
    simp
/-- The places below k whose number lies from a to b. -/
def choL (p : List Int) (a b : Int) (k : Nat) : List Int := ((List.range k).filter fun i => decide (a ≤ p.getD i 0 ∧ p.getD i 0 ≤ b)).map fun (i : Nat) => (i : Int)
theorem choL_succ (p : List Int) (a b : Int) (k : Nat) : choL p a b (k + 1) = if a ≤ p.getD k 0 ∧ p.getD k 0 ≤ b then choL p a b k ++ [(k : Int)] else choL p a b k := by
  unfold choL
  rw [List.range_succ, List.filter_append, List.map_append]
  by_cases h : a ≤ p.getD k 0 ∧ p.getD k 0 ≤ b
  · rw [if_pos h, List.filter_cons_of_pos (by simpa using h)]; rfl
  · rw [if_neg h, List.filter_cons_of_neg (by simpa using h)]; simp
theorem choL_len (p : List Int) (a b : Int) (k : Nat) : (choL p a b k).length ≤ k := by
  unfold choL
  rw [List.length_map]
  exact Nat.le_trans (List.length_filter_le _ _) (by simp)
theorem chosen_eq {p : List Int} {a b : Int} (hl : p.length ≤ 1000000) : m_overseerlaw24_chosen p a b = some (choL p a b p.length) := by
  have h := iter_inv (f := m_overseerlaw24_chosen_l1 p a b) (fun i s => i ≤ p.length ∧ s = ((i : Int), choL p a b i)) (fun o => o = choL p a b p.length) p.length 0 (by omega) ?_ ?_ (Nat.zero_le _) (0, []) ⟨Nat.zero_le _, rfl⟩
  · obtain ⟨o, h1, rfl⟩ := h
    simp [m_overseerlaw24_chosen, h1]
  · rintro i s hi ⟨_, rfl⟩
    refine .inl ⟨_, ?_, by omega, rfl⟩
    have hn := choL_len p a b i
    rw [m_overseerlaw24_chosen_l1]
    simp only [ct_lt hi, if_true, idx_at hi, Option.bind_some]
    have hg : p.getD i 0 = p[i] := by rw [List.getD_eq_getElem?_getD, List.getElem?_eq_getElem hi]; rfl
    rw [choL_succ, hg]
    have ha := app_eq (xs := choL p a b i) (ys := [(i : Int)]) (by simp; omega)
    by_cases h1 : a ≤ p[i]
    · by_cases h2 : p[i] ≤ b
      · simp [h1, h2, ha, m_overseerlaw24_chosen_j1, nxt (show i < 4611686018427387904 by omega)]
      · simp [h1, h2, m_overseerlaw24_chosen_j1, nxt (show i < 4611686018427387904 by omega)]
    · simp [h1, m_overseerlaw24_chosen_j1, nxt (show i < 4611686018427387904 by omega)]
  · rintro s ⟨_, rfl⟩
    refine ⟨_, ?_, rfl⟩
    rw [m_overseerlaw24_chosen_l1]
    simp
end Go.Proofs.YtfbapajcheammaaDoor

namespace Go.Proofs.YtfbapajcheammaaDoor
open Go Go.RowKit
theorem upd_at {α : Type} {xs : List α} {i : Nat} {y : α} (h : i < xs.length) : upd xs (i : Int) y = some (xs.set i y) := by
  unfold upd
  rw [if_pos ⟨by omega, by omega⟩, Int.toNat_natCast]
theorem ball_eq {a : List Int} {n : Nat} {m : List Int} {es : List (Int × Int × Int)} (hn : n ≤ 1000000) : m_blocking_all (a, (n : Int), m, es) = some (allL n) := by
  have hm : mkL (n : Int) (0 : Int) = some (List.replicate n 0) := by unfold mkL; rw [if_pos ⟨by omega, by omega⟩, Int.toNat_natCast]
  have h := iter_inv (f := m_blocking_all_l1 (List.replicate n 0)) (fun i s => i ≤ n ∧ s = ((i : Int), allL i ++ List.replicate (n - i) 0)) (fun o => o = allL n) n 0 (by omega) ?_ ?_ (Nat.zero_le _) (0, List.replicate n 0) ⟨Nat.zero_le _, by simp [allL]⟩
  · obtain ⟨o, h1, rfl⟩ := h
    simp only [m_blocking_all, hm, Option.bind_some, h1]
  · rintro i s hi ⟨_, rfl⟩
    refine .inl ⟨_, ?_, by omega, rfl⟩
    have hlen : (allL i ++ List.replicate (n - i) (0 : Int)).length = n := by rw [List.length_append, allL_len, List.length_replicate]; omega
    have hset : (allL i ++ List.replicate (n - i) (0 : Int)).set i (i : Int) = allL (i + 1) ++ List.replicate (n - (i + 1)) 0 := by
      rw [allL_succ, List.set_append_right _ _ (by rw [allL_len]; exact Nat.le_refl _), allL_len, Nat.sub_self, show n - i = (n - (i + 1)) + 1 by omega, List.replicate_succ, List.set_cons_zero]
      simp
    rw [m_blocking_all_l1]
    simp only [List.length_replicate, ct_lt hi, if_true]
    rw [idx_at (by rw [hlen]; exact hi), Option.bind_some, upd_at (by rw [hlen]; exact hi), Option.bind_some, hset, nxt (by omega)]
  · rintro s ⟨_, rfl⟩
    refine ⟨_, ?_, rfl⟩
    rw [m_blocking_all_l1]
    simp
end Go.Proofs.YtfbapajcheammaaDoor

namespace Go.Proofs.YtfbapajcheammaaDoor
open Go Go.RowKit
theorem spread_fill {n : Nat} (hn : n ≤ 1000000) : iter (m_blocking_spread_l1 (List.replicate n 0)) (0, List.replicate n 0) = some (List.replicate n (-1)) := by
  have h := iter_inv (f := m_blocking_spread_l1 (List.replicate n 0)) (fun i s => i ≤ n ∧ s = ((i : Int), List.replicate i (-1) ++ List.replicate (n - i) 0)) (fun o => o = List.replicate n (-1)) n 0 (by omega) ?_ ?_ (Nat.zero_le _) (0, List.replicate n 0) ⟨Nat.zero_le _, by simp⟩
  · obtain ⟨o, h1, rfl⟩ := h
    exact h1
  · rintro i s hi ⟨_, rfl⟩
    refine .inl ⟨_, ?_, by omega, rfl⟩
    have hlen : (List.replicate i (-1) ++ List.replicate (n - i) (0 : Int)).length = n := by simp; omega
    have hset : (List.replicate i (-1) ++ List.replicate (n - i) (0 : Int)).set i (-1) = List.replicate (i + 1) (-1) ++ List.replicate (n - (i + 1)) 0 := by
      rw [List.set_append_right _ _ (by simp), List.length_replicate, Nat.sub_self, show n - i = (n - (i + 1)) + 1 by omega, List.replicate_succ, List.set_cons_zero, List.replicate_succ']
      simp
    rw [m_blocking_spread_l1]
    simp only [List.length_replicate, ct_lt hi, if_true]
    rw [idx_at (by rw [hlen]; exact hi), Option.bind_some, upd_at (by rw [hlen]; exact hi), Option.bind_some, hset, nxt (by omega)]
  · rintro s ⟨_, rfl⟩
    refine ⟨_, ?_, rfl⟩
    rw [m_blocking_spread_l1]
    simp
theorem bStart_len (n : Nat) (tg : List Int) : (bStart n tg).length = n := by
  unfold bStart
  have : ∀ (l : List Int) (ds : List Int), (l.foldl (fun ds (s : Int) => ds.set s.toNat 0) ds).length = ds.length := by
    intro l
    induction l with
    | nil => intro ds; rfl
    | cons s l ih => intro ds; rw [List.foldl_cons, ih, List.length_set]
  rw [this, List.length_replicate]
theorem spread_starts {n : Nat} {tg : List Int} (ht : tg.length ≤ 1000000) (hr : ∀ s ∈ tg, 0 ≤ s ∧ s < (n : Int)) : iter (m_blocking_spread_l2 tg) (0, List.replicate n (-1)) = some (bStart n tg) := by
  have h := iter_inv (f := m_blocking_spread_l2 tg) (fun i s => i ≤ tg.length ∧ s = ((i : Int), bStart n (tg.take i))) (fun o => o = bStart n tg) tg.length 0 (by omega) ?_ ?_ (Nat.zero_le _) (0, List.replicate n (-1)) ⟨Nat.zero_le _, by simp [bStart]⟩
  · obtain ⟨o, h1, rfl⟩ := h
    exact h1
  · rintro i s hi ⟨_, rfl⟩
    refine .inl ⟨_, ?_, by omega, rfl⟩
    obtain ⟨h0, h1⟩ := hr _ (List.getElem_mem hi)
    obtain ⟨k, hk⟩ := Int.eq_ofNat_of_zero_le h0
    have hkn : k < (bStart n (tg.take i)).length := by rw [bStart_len]; omega
    have hset : bStart n (tg.take (i + 1)) = (bStart n (tg.take i)).set k 0 := by
      rw [take_snoc tg i hi, hk]
      simp [bStart, List.foldl_append]
    rw [m_blocking_spread_l2]
    simp only [ct_lt hi, if_true, idx_at hi, Option.bind_some, hk]
    rw [idx_at hkn, Option.bind_some, upd_at hkn, Option.bind_some, hset, nxt (by omega)]
  · rintro s ⟨_, rfl⟩
    refine ⟨_, ?_, rfl⟩
    rw [m_blocking_spread_l2]
    simp
end Go.Proofs.YtfbapajcheammaaDoor

namespace Go.Proofs.YtfbapajcheammaaDoor
open Go Go.RowKit
/-- The inner loop of spread is bStep, edge by edge. -/
theorem spread_inner {n s i : Nat} {q0 ds0 ps : List Int} (z : List Int × List Int) (hps : ∀ p ∈ ps, 0 ≤ p ∧ p < (n : Int)) (hpl : ps.length ≤ 1000000) (hq : q0[i]? = some (s : Int)) (hs : s < n) (hB : BOk n ds0 q0) (hnn : 0 ≤ ds0.getD s 0) (hsz : 2 * negs ds0 + q0.length ≤ 4000000) :
    ∃ o, iter (m_blocking_spread_l4 ((i : Int), z) ps) (0, q0, ds0) = some o ∧ (o.2, o.1) = ps.foldl (bStep s) (ds0, q0) := by
  refine iter_inv (f := m_blocking_spread_l4 ((i : Int), z) ps) (fun k st => k ≤ ps.length ∧ ∃ ds q, st = ((k : Int), q, ds) ∧ (ds, q) = (ps.take k).foldl (bStep s) (ds0, q0) ∧ BOk n ds q ∧ 0 ≤ ds.getD s 0 ∧ q[i]? = some (s : Int) ∧ 2 * negs ds + q.length ≤ 4000000) (fun o => (o.2, o.1) = ps.foldl (bStep s) (ds0, q0)) ps.length 0 (by omega) ?_ ?_ (Nat.zero_le _) (0, q0, ds0) ⟨Nat.zero_le _, ds0, q0, rfl, by simp, hB, hnn, hq, hsz⟩
  · rintro k st hk ⟨_, ds, q, rfl, hf, hB, hnn, hq, hsz⟩
    obtain ⟨h0, h1⟩ := hps _ (List.getElem_mem hk)
    have hstep := hB.step hs hnn ps[k] h0 h1
    have hfs : (ps.take (k + 1)).foldl (bStep s) (ds0, q0) = bStep s (ds, q) ps[k] := by rw [take_snoc ps k hk, List.foldl_append, ← hf]; rfl
    obtain ⟨p, hp⟩ := Int.eq_ofNat_of_zero_le h0
    have hpn : p < ds.length := by rw [hB.len]; omega
    have hsn : s < ds.length := by rw [hB.len]; omega
    obtain ⟨hil, hie⟩ := List.getElem?_eq_some_iff.1 hq
    have hgp : ds.getD p 0 = ds[p] := by rw [List.getD_eq_getElem?_getD, List.getElem?_eq_getElem hpn]; rfl
    have hgs : ds.getD s 0 = ds[s] := by rw [List.getD_eq_getElem?_getD, List.getElem?_eq_getElem hsn]; rfl
    have hlo := hB.lo _ (List.getElem_mem hsn)
    refine .inl ⟨((k + 1 : Nat), (bStep s (ds, q) ps[k]).2, (bStep s (ds, q) ps[k]).1), ?_, by omega, _, _, rfl, hfs.symm, hstep.1, hstep.2.1, ?_, by have := hstep.2.2; omega⟩
    · rw [m_blocking_spread_l4]
      simp only [ct_lt hk, if_true, idx_at hk, Option.bind_some, hp, idx_at hpn, bStep, Int.toNat_natCast, hgp]
      by_cases hx : ds[p] < 0
      · have happ := app_eq (xs := q) (ys := [(p : Int)]) (by simp; omega)
        simp only [hx, decide_true, if_true, idx_at hil, hie, Option.bind_some, idx_at hsn, upd_at hpn, happ, m_blocking_spread_j1, hgs, W_of (show -9223372036854775808 ≤ ds[s] + 1 by omega) (show ds[s] + 1 < 9223372036854775808 by omega), nxt (show k < 4611686018427387904 by omega)]
      · simp only [hx, decide_false, if_false, m_blocking_spread_j1, nxt (show k < 4611686018427387904 by omega)]
        simp
    · unfold bStep
      split
      · dsimp only; rw [List.getElem?_append_left hil]; exact hq
      · exact hq
  · rintro st ⟨_, ds, q, rfl, hf, _⟩
    refine ⟨(q, ds), ?_, by rw [List.take_length] at hf; exact hf⟩
    rw [m_blocking_spread_l4]
    simp
theorem bStep_pre (s : Nat) : ∀ (l : List Int) (ds q1 q2 : List Int), l.foldl (bStep s) (ds, q1 ++ q2) = ((l.foldl (bStep s) (ds, q2)).1, q1 ++ (l.foldl (bStep s) (ds, q2)).2)
  | [], _, _, _ => rfl
  | p :: l, ds, q1, q2 => by
    have h : bStep s (ds, q1 ++ q2) p = ((bStep s (ds, q2) p).1, q1 ++ (bStep s (ds, q2) p).2) := by
      unfold bStep
      dsimp only
      split <;> simp
    rw [List.foldl_cons, h, bStep_pre s l, List.foldl_cons]
/-- The queue of spread is backward's. -/
theorem spread_queue {n : Nat} {es : List Ed} {ds0 q0 : List Int} (hin : ∀ x ∈ es, 0 ≤ x.f ∧ x.f < n ∧ 0 ≤ x.t ∧ x.t < (n : Int)) (hl : es.length ≤ 1000000) (hB : BOk n ds0 q0) (hsz : 2 * negs ds0 + q0.length ≤ 4000000) :
    iter (m_blocking_spread_l3 ((List.range n).map (inL es))) (0, q0, ds0) = some (bwd (inL es) (2 * negs ds0 + q0.length + 1) ds0 q0) := by
  have h := iter_inv (f := m_blocking_spread_l3 ((List.range n).map (inL es))) (fun i st => ∃ ds q f, st = ((i : Int), q, ds) ∧ i ≤ q.length ∧ BOk n ds q ∧ 2 * negs ds + q.length ≤ 2 * negs ds0 + q0.length ∧ bwd (inL es) f ds (q.drop i) = bwd (inL es) (2 * negs ds0 + q0.length + 1) ds0 q0 ∧ 2 * negs ds + (q.length - i) + 1 ≤ f)
    (fun o => o = bwd (inL es) (2 * negs ds0 + q0.length + 1) ds0 q0) (2 * negs ds0 + q0.length) 0 (by omega) ?_ ?_ (Nat.zero_le _) (0, q0, ds0) ⟨ds0, q0, _, rfl, Nat.zero_le _, hB, Nat.le_refl _, rfl, by omega⟩
  · obtain ⟨o, h1, rfl⟩ := h
    exact h1
  · rintro i st _ ⟨ds, q, f, rfl, hi, hB, hm, hR, hf⟩
    by_cases hlt : i < q.length
    · obtain ⟨g0, g1⟩ := hB.qr _ (List.getElem_mem hlt)
      have hnn := hB.nn _ (List.getElem_mem hlt)
      obtain ⟨s, hs⟩ := Int.eq_ofNat_of_zero_le g0
      have hsn : s < n := by omega
      rw [hs, Int.toNat_natCast] at hnn
      have hps := inL_range (s := s) hin
      have hil := inL_le es s
      obtain ⟨o, h1, h2⟩ := spread_inner (n := n) (s := s) (i := i) (q0 := q) (ds0 := ds) (ps := inL es s) (q, ds) hps (by omega) (by rw [List.getElem?_eq_getElem hlt, hs]) hsn hB hnn (by omega)
      have hfold := BOk.fold hsn (inL es s) hB hnn hps
      rw [← h2] at hfold
      obtain ⟨f, rfl⟩ : ∃ f', f = f' + 1 := ⟨f - 1, by omega⟩
      have hpre := bStep_pre s (inL es s) ds (q.take (i + 1)) (q.drop (i + 1))
      rw [List.take_append_drop, ← h2] at hpre
      have ho1 : o.1 = q.take (i + 1) ++ ((inL es s).foldl (bStep s) (ds, q.drop (i + 1))).2 := congrArg Prod.snd hpre
      have ho2 : o.2 = ((inL es s).foldl (bStep s) (ds, q.drop (i + 1))).1 := congrArg Prod.fst hpre
      have hol : i + 1 ≤ o.1.length := by rw [ho1, List.length_append, List.length_take]; omega
      have hdr : o.1.drop (i + 1) = ((inL es s).foldl (bStep s) (ds, q.drop (i + 1))).2 := by
        rw [ho1, List.drop_append_of_le_length (by rw [List.length_take]; omega), List.drop_eq_nil_of_le (by rw [List.length_take]; omega), List.nil_append]
      refine .inl ⟨((i + 1 : Nat), o.1, o.2), ?_, o.2, o.1, f, rfl, hol, hfold.1, by have := hfold.2.2; dsimp only at this; omega, ?_, by have := hfold.2.2; dsimp only at this; omega⟩
      · rw [m_blocking_spread_l3]
        simp only [ct_lt hlt, if_true, idx_at hlt, Option.bind_some, hs]
        rw [idx_at (by simpa using hsn), Option.bind_some, List.getElem_map, List.getElem_range, h1, Option.bind_some, nxt (by omega)]
      · rw [hdr, ho2, ← hR, List.drop_eq_getElem_cons hlt, bwd, hs, Int.toNat_natCast]
    · have hi' : i = q.length := by omega
      refine .inr ⟨ds, ?_, ?_⟩
      · subst hi'
        rw [m_blocking_spread_l3]
        simp
      · obtain ⟨f, rfl⟩ : ∃ f', f = f' + 1 := ⟨f - 1, by omega⟩
        rw [← hR, hi', List.drop_length, bwd]
  · rintro st ⟨ds, q, f, rfl, hi, hB, hm, hR, hf⟩
    have hi' : 2 * negs ds0 + q0.length = q.length := by omega
    refine ⟨ds, ?_, ?_⟩
    · rw [m_blocking_spread_l3, hi']
      simp
    · obtain ⟨f, rfl⟩ : ∃ f', f = f' + 1 := ⟨f - 1, by omega⟩
      rw [← hR, hi', List.drop_length, bwd]
end Go.Proofs.YtfbapajcheammaaDoor

namespace Go.Proofs.YtfbapajcheammaaDoor
open Go Go.RowKit
theorem clone_eq {xs : List Int} (h : xs.length ≤ 4294967296) : m_slices_Clone_int xs = some xs := by
  rw [m_slices_Clone_int, app_eq (by simpa using h)]; rfl
theorem spread_eq {a : List Int} {n : Nat} {m : List Int} {es : List (Int × Int × Int)} {tg : List Int} (hn : n ≤ 1000000) (hl : es.length ≤ 1000000) (ht : tg.length ≤ 1000000) (hin : ∀ x ∈ es, 0 ≤ x.1 ∧ x.1 < (n : Int) ∧ 0 ≤ x.2.2 ∧ x.2.2 < (n : Int)) (hr : ∀ s ∈ tg, 0 ≤ s ∧ s < (n : Int)) :
    m_blocking_spread (a, (n : Int), m, es) tg = some (backward n (es.map toEd) tg) := by
  have hm : mkL (n : Int) (0 : Int) = some (List.replicate n 0) := by unfold mkL; rw [if_pos ⟨by omega, by omega⟩, Int.toNat_natCast]
  have hi : m_blocking_into (a, (n : Int), m, es) = some ((List.range n).map (inL (es.map toEd))) := by
    unfold m_blocking_into
    rw [if_pos ⟨hl, by dsimp only; omega, by dsimp only; omega, List.all_eq_true.2 fun x hx => by have := hin x hx; simp; omega⟩]
    simp
  have hB := BOk.start n tg hn hr
  have hq := spread_queue (n := n) (es := es.map toEd) (ds0 := bStart n tg) (q0 := tg) (fun x hx => by
    obtain ⟨y, hy, rfl⟩ := List.mem_map.1 hx
    exact hin y hy) (by simpa using hl) hB (by have := negs_le (bStart n tg); rw [bStart_length] at this; omega)
  simp only [m_blocking_spread, hi, Option.bind_some, hm, spread_fill hn, clone_eq (show tg.length ≤ 4294967296 by omega), spread_starts ht hr, hq, backward]
end Go.Proofs.YtfbapajcheammaaDoor

namespace Go.Proofs.YtfbapajcheammaaDoor

/-- The rank of a word: words in shortlex order have rising ranks. -/
def wval (u : List Int) : Int := u.foldl (fun acc e => 33 * acc + e + 1) 0
theorem wval_snoc (u : List Int) (e : Int) : wval (u ++ [e]) = 33 * wval u + e + 1 := by simp [wval, List.foldl_append]
def Evs (u : List Int) : Prop := ∀ e ∈ u, 0 ≤ e ∧ e < 32
theorem Evs.nil : Evs [] := fun e h => by cases h
theorem Evs.of_snoc {u : List Int} {e : Int} (h : Evs (u ++ [e])) : Evs u ∧ 0 ≤ e ∧ e < 32 :=
  ⟨fun x hx => h x (List.mem_append_left _ hx), h e (by simp)⟩
/-- Induction at the end of a list. -/
theorem snoc_ind {α : Type} {P : List α → Prop} (h0 : P []) (h1 : ∀ u e, P u → P (u ++ [e])) (u : List α) : P u := by
  have h2 : ∀ n (u : List α), u.length = n → P u := by
    intro n
    induction n with
    | zero => intro u hu; rw [List.eq_nil_of_length_eq_zero hu]; exact h0
    | succ n ih =>
      intro u hu
      rcases List.eq_nil_or_concat u with rfl | ⟨l, b, rfl⟩
      · cases hu
      · have hl : l.length = n := by simpa using hu
        simpa using h1 l b (ih l hl)
  exact h2 _ u rfl
theorem wval_nonneg (u : List Int) : Evs u → 0 ≤ wval u := by
  refine snoc_ind (P := fun u => Evs u → 0 ≤ wval u) (fun _ => Int.le_refl 0) (fun u e ih h => ?_) u
  have h1 := h.of_snoc
  have := ih h1.1
  rw [wval_snoc]; omega
/-- The least and the greatest rank of a word of so many events. -/
def wlo : Nat → Int
  | 0 => 0
  | n + 1 => 33 * wlo n + 1
def whi : Nat → Int
  | 0 => 0
  | n + 1 => 33 * whi n + 32
theorem wlo_le (u : List Int) : Evs u → wlo u.length ≤ wval u ∧ wval u ≤ whi u.length := by
  refine snoc_ind (P := fun u => Evs u → wlo u.length ≤ wval u ∧ wval u ≤ whi u.length) (fun _ => ⟨Int.le_refl _, Int.le_refl _⟩) (fun u e ih h => ?_) u
  have h1 := h.of_snoc
  have := ih h1.1
  rw [wval_snoc, List.length_append, List.length_singleton, wlo, whi]; omega
theorem whi_lt (n : Nat) : whi n < wlo (n + 1) := by
  induction n with
  | zero => decide
  | succ n ih => rw [whi, wlo]; omega
theorem wlo_mono {m n : Nat} (h : m ≤ n) : wlo m ≤ wlo n := by
  induction n with
  | zero => obtain rfl : m = 0 := by omega
            exact Int.le_refl _
  | succ n ih =>
    by_cases e : m = n + 1
    · rw [e]; exact Int.le_refl _
    · have h1 := ih (by omega)
      have h2 : 0 ≤ wlo n := by
        clear h1 ih h e
        induction n with
        | zero => exact Int.le_refl _
        | succ n ih => rw [wlo]; omega
      rw [wlo]; omega
theorem wval_len {u v : List Int} (hu : Evs u) (hv : Evs v) (h : wval u ≤ wval v) : u.length ≤ v.length := by
  by_cases hlt : v.length < u.length
  · have h1 := (wlo_le u hu).1
    have h2 := (wlo_le v hv).2
    have h3 := whi_lt v.length
    have h4 := wlo_mono (show v.length + 1 ≤ u.length by omega)
    omega
  · omega

/-- A word leads from s to t. -/
def Leads (es : List Ed) (perm : Ed → Bool) (s : Int) : List Int → Int → Prop
  | [], t => s = t
  | e :: u, t => ∃ x ∈ es, x.f = s ∧ x.e = e ∧ perm x = true ∧ Leads es perm x.t u t
theorem Leads.snoc {es : List Ed} {perm : Ed → Bool} : ∀ {u : List Int} {s t : Int}, Leads es perm s u t → ∀ {x : Ed}, x ∈ es → x.f = t → perm x = true → Leads es perm s (u ++ [x.e]) x.t
  | [], s, t, h, x, hx, hf, hp => ⟨x, hx, by rw [hf]; exact h.symm, rfl, hp, rfl⟩
  | e :: u, s, t, ⟨y, hy, h1, h2, h3, h4⟩, x, hx, hf, hp => ⟨y, hy, h1, h2, h3, h4.snoc hx hf hp⟩
theorem Leads.of_snoc {es : List Ed} {perm : Ed → Bool} {e : Int} : ∀ {u : List Int} {s t : Int}, Leads es perm s (u ++ [e]) t → ∃ x ∈ es, Leads es perm s u x.f ∧ x.e = e ∧ x.t = t ∧ perm x = true
  | [], s, t, ⟨y, hy, h1, h2, h3, h4⟩ => ⟨y, hy, h1.symm, h2, h4, h3⟩
  | a :: u, s, t, ⟨y, hy, h1, h2, h3, h4⟩ => by
    obtain ⟨x, hx, g1, g2, g3, g4⟩ := Leads.of_snoc (u := u) h4
    exact ⟨x, hx, ⟨y, hy, h1, h2, h3, g1⟩, g2, g3, g4⟩
/-- The events of the edges. -/
def EvEs (es : List Ed) : Prop := ∀ x ∈ es, 0 ≤ x.e ∧ x.e < 32
theorem Leads.evs {es : List Ed} {perm : Ed → Bool} (he : EvEs es) : ∀ {u : List Int} {s t : Int}, Leads es perm s u t → Evs u
  | [], _, _, _ => Evs.nil
  | e :: u, s, t, ⟨y, hy, h1, h2, h3, h4⟩ => by
    intro z hz
    rcases List.mem_cons.1 hz with rfl | hz
    · rw [← h2]; exact he y hy
    · exact Leads.evs he h4 z hz

/-- What a search has found so far: words with rising ranks, none above b. -/
structure Found (es : List Ed) (perm : Ed → Bool) (s : Int) (L : List (List Int × Int)) (b : Int) : Prop where
  lead : ∀ r ∈ L, Leads es perm s r.1 r.2
  sorted : ∀ j k : Nat, j < k → ∀ r r' : List Int × Int, L[j]? = some r → L[k]? = some r' → wval r.1 < wval r'.1
  bd : ∀ r ∈ L, wval r.1 ≤ b
/-- The edges of all places below i have been followed. -/
def Followed (es : List Ed) (perm : Ed → Bool) (L : List (List Int × Int)) (m i : Nat) : Prop :=
  ∀ j : Nat, j < i → ∀ r : List Int × Int, L[j]? = some r → ∀ x ∈ es, x.f = r.2 → perm x = true → ∃ k : Nat, m ≤ k ∧ ∃ r' : List Int × Int, L[k]? = some r' ∧ r'.2 = x.t ∧ wval r'.1 ≤ 33 * wval r.1 + x.e + 1

section
variable {es : List Ed} {perm : Ed → Bool} {s : Int} {L : List (List Int × Int)} {b : Int} {m i : Nat}
theorem Found.push (h : Found es perm s L b) {w : List Int} {t : Int} (hl : Leads es perm s w t) (hb : b < wval w) : Found es perm s (L ++ [(w, t)]) (wval w) := by
  refine ⟨fun r hr => ?_, fun j k hjk r r' hj hk => ?_, fun r hr => ?_⟩
  · rcases List.mem_append.1 hr with h1 | h1
    · exact h.lead r h1
    · rw [List.mem_singleton.1 h1]; exact hl
  · by_cases hk2 : k < L.length
    · rw [List.getElem?_append_left hk2] at hk
      rw [List.getElem?_append_left (by omega)] at hj
      exact h.sorted j k hjk r r' hj hk
    · rw [List.getElem?_append_right (by omega)] at hk
      have h3 : k - L.length = 0 := by
        by_cases h4 : k - L.length = 0
        · exact h4
        · rw [List.getElem?_eq_none (by simp; omega)] at hk; cases hk
      rw [h3] at hk
      simp only [List.getElem?_cons_zero, Option.some.injEq] at hk
      subst hk
      rw [List.getElem?_append_left (by omega)] at hj
      have := h.bd r (List.mem_of_getElem? hj)
      dsimp only; omega
  · rcases List.mem_append.1 hr with h1 | h1
    · have := h.bd r h1; omega
    · rw [List.mem_singleton.1 h1]; exact Int.le_refl _
theorem Found.mono (h : Found es perm s L b) {j k : Nat} (hjk : j ≤ k) {r r' : List Int × Int} (hj : L[j]? = some r) (hk : L[k]? = some r') : wval r.1 ≤ wval r'.1 := by
  by_cases e : j = k
  · subst e; rw [hj] at hk; cases hk; exact Int.le_refl _
  · exact Int.le_of_lt (h.sorted j k (by omega) r r' hj hk)
theorem Followed.append (h : Followed es perm L m i) (hi : i ≤ L.length) (M : List (List Int × Int)) : Followed es perm (L ++ M) m i := by
  intro j hj r hr x hx hf hp
  rw [List.getElem?_append_left (by omega)] at hr
  obtain ⟨k, hk, r', hr', h1, h2⟩ := h j hj r hr x hx hf hp
  refine ⟨k, hk, r', ?_, h1, h2⟩
  rw [List.getElem?_append_left (by have := (List.getElem?_eq_some_iff.1 hr').1; omega)]
  exact hr'
/-- Where each word leads that has been tried. -/
theorem Followed.place (he : EvEs es) (hF : Found es perm s L b) (hC : Followed es perm L m i) (h0 : L[0]? = some ([], s)) (u : List Int) :
    ∀ t, Leads es perm s u t → (∃ (k : Nat) (r : List Int × Int), (u = [] ∨ m ≤ k) ∧ L[k]? = some r ∧ r.2 = t ∧ wval r.1 ≤ wval u) ∨ (∃ r : List Int × Int, L[i]? = some r ∧ wval r.1 < wval u) ∨ L.length ≤ i := by
  induction u using snoc_ind with
  | h0 =>
    intro t ht
    refine .inl ⟨0, _, .inl rfl, h0, ht, Int.le_refl _⟩
  | h1 u e ih =>
    intro t ht
    by_cases hil : L.length ≤ i
    · exact .inr (.inr hil)
    obtain ⟨x, hx, g1, rfl, rfl, g4⟩ := ht.of_snoc
    have hxe := he x hx
    have hi : L[i]? = some L[i] := List.getElem?_eq_getElem (by omega)
    have hu := wval_nonneg u (g1.evs he)
    rcases ih x.f g1 with ⟨k, r, hk0, hk, hr, hle⟩ | ⟨r, hk, hle⟩ | h3
    · by_cases hki : k < i
      · obtain ⟨k', hk', r', h1, h2, h3⟩ := hC k hki r hk x hx hr.symm g4
        refine .inl ⟨k', r', .inr hk', h1, h2, ?_⟩
        rw [wval_snoc]; omega
      · refine .inr (.inl ⟨_, hi, ?_⟩)
        have := hF.mono (show i ≤ k by omega) hi hk
        rw [wval_snoc]; omega
    · refine .inr (.inl ⟨r, hk, ?_⟩)
      rw [wval_snoc]; omega
    · exact .inr (.inr h3)
/-- The same where all have been followed. -/
theorem Followed.all (_he : EvEs es) (hC : Followed es perm L m L.length) (h0 : L[0]? = some ([], s)) (u : List Int) :
    ∀ t, Leads es perm s u t → ∃ (k : Nat) (r : List Int × Int), (u = [] ∨ m ≤ k) ∧ L[k]? = some r ∧ r.2 = t ∧ wval r.1 ≤ wval u := by
  induction u using snoc_ind with
  | h0 =>
    intro t ht
    exact ⟨0, _, .inl rfl, h0, ht, Int.le_refl _⟩
  | h1 u e ih =>
    intro t ht
    obtain ⟨x, hx, g1, rfl, rfl, g4⟩ := ht.of_snoc
    obtain ⟨k, r, hk0, hk, hr, hle⟩ := ih x.f g1
    obtain ⟨k', hk', r', h1, h2, h3⟩ := hC k (List.getElem?_eq_some_iff.1 hk).1 r hk x hx hr.symm g4
    refine ⟨k', r', .inr hk', h1, h2, ?_⟩
    rw [wval_snoc]; omega

/-- The least word that leads to a state that is wanted, of at least so many events. -/
structure Least (es : List Ed) (perm : Ed → Bool) (want : Int → Bool) (s : Int) (least : Nat) (w : List Int) : Prop where
  ev : Evs w
  len : least ≤ w.length
  leads : ∃ t, Leads es perm s w t ∧ want t = true
  le : ∀ u t, Leads es perm s u t → want t = true → least ≤ u.length → wval w ≤ wval u
/-- A search that looks at a state when its turn comes. -/
theorem Found.least {want : Int → Bool} (he : EvEs es) (hF : Found es perm s L b) (hC : Followed es perm L 0 i) (h0 : L[0]? = some ([], s)) {r : List Int × Int} (hi : L[i]? = some r) (hw : want r.2 = true)
    (hn : ∀ j : Nat, j < i → ∀ r : List Int × Int, L[j]? = some r → want r.2 = false) : Least es perm want s 0 r.1 := by
  have hl := hF.lead r (List.mem_of_getElem? hi)
  refine ⟨hl.evs he, Nat.zero_le _, ⟨_, hl, hw⟩, fun u t hu ht _ => ?_⟩
  rcases hC.place he hF h0 u t hu with ⟨k, r', hk0, hk, hr, hle⟩ | ⟨r', hk, hle⟩ | h3
  · by_cases hki : k < i
    · have := hn k hki r' hk
      rw [hr, ht] at this; cases this
    · have := hF.mono (show i ≤ k by omega) hi hk; omega
  · rw [hi] at hk; cases hk; omega
  · have := (List.getElem?_eq_some_iff.1 hi).1; omega
theorem Followed.none {want : Int → Bool} (he : EvEs es) (hC : Followed es perm L 0 L.length) (h0 : L[0]? = some ([], s)) (hn : ∀ (j : Nat) (r : List Int × Int), L[j]? = some r → want r.2 = false) :
    ∀ u t, Leads es perm s u t → want t = false := by
  intro u t hu
  obtain ⟨k, r, _, hk, rfl, _⟩ := hC.all he h0 u t hu
  exact hn k r hk
end
end Go.Proofs.YtfbapajcheammaaDoor

