/- BlockingEscapes returns true for every description and every two bytes, and leaves its arguments as they were. The condition: three tables of Go's library (math/bits, internal/strconv) hold what their source text lays, and the card ties this to the text. -/
import Derived.Test.YtfbapajcheammaaDoorProg
import Derived.Deep.Slices
import Derived.ChangeSame
import Derived.ProofKit
import Derived.Test.YtfbapajcheammaaDoorRows
import Derived.Test.YtfbapajcheammaaDoorTie
import Derived.Test.YtfbapajcheammaaDoorCards
import Derived.Lay
import Derived.LaidMore
import Derived.LaidHandle
import Derived.SevenTiedAt
import Derived.Stop.Joined
import Derived.Test.YtfbapajcheammaaDoorQE6
namespace Go.Proofs.YtfbapajcheammaaDoor
open Go Go.RowKit
theorem cf24 : Cf Tryd.prog 24 := Cf.mk Tryd.func24 (by kernel_rfl) (by kernel_rfl)
theorem cf59 : Cf Tryd.prog 59 := Cf.mk Tryd.func59 (by kernel_rfl) (by kernel_rfl)
theorem cf60 : Cf Tryd.prog 60 := Cf.mk Tryd.func60 (by kernel_rfl) (by kernel_rfl)
theorem cf61 : Cf Tryd.prog 61 := Cf.mk Tryd.func61 (by kernel_rfl) (by kernel_rfl)
noncomputable def m_overseerlaw24_kind_l1 (p0 : List Int × Int × List Int × (List (Int × Int × Int))) (r7 : List Bool) (st31 : Int) : Option (Int ⊕ (Unit ⊕ Unit)) :=
  if decide (st31 < p0.2.1) then
    (idx r7 st31).bind fun x39 =>
    (if x39 then
      (m_overseerlaw24_dead p0 st31).bind fun r45 =>
      some r45
    else
      some false).bind fun b41 =>
    if b41 then
      some (.inr (.inr (())))
    else
      some (.inl (W (st31 + 1)))
  else
    some (.inr (.inl ()))
/-- What overseerlaw24.kind computes. -/
noncomputable def m_overseerlaw24_kind (p0 : List Int × Int × List Int × (List (Int × Int × Int))) (p1 : Int) : Option Int :=
  (m_overseerlaw24_from p0 p1).bind fun r7 =>
  (m_overseerlaw24_has p0.2.2.1 p1).bind fun r11 =>
  if r11 then
    some 1
  else
    (m_overseerlaw24_meets r7 p0.2.2.1).bind fun r14 =>
    if r14 then
      some 2
    else
      (m_overseerlaw24_dead p0 p1).bind fun r17 =>
      if r17 then
        some 3
      else
        (iter (m_overseerlaw24_kind_l1 p0 r7) 0).bind fun o31 =>
        match o31 with
        | .inl u33 =>
          some 4
        | .inr (u36) =>
          some 5
set_option maxRecDepth 100000 in
set_option maxHeartbeats 8000000 in
theorem m_overseerlaw24_kind_c {s : Sig} {p0 : List Int × Int × List Int × (List (Int × Int × Int))} {p1 : Int} {a1 : Option Addr} {c1 : Nat} {a2 : Option Addr} {c2 : Nat} {a3 : Option Addr} {c3 : Nat} {r : Int} (h1 : RdL (rK .i64) s a1 c1 p0.1) (h2 : RdL (rK .i64) s a2 c2 p0.2.2.1) (h3 : RdL (rP (rK .i64) (rP (rK .i64) (rK .i64))) s a3 c3 p0.2.2.2) (hm : m_overseerlaw24_kind p0 p1 = some r) :
    Calls Tryd.prog 38 #[.agg #[.slice a1 p0.1.length c1, .int .i64 p0.2.1, .slice a2 p0.2.2.1.length c2, .slice a3 p0.2.2.2.length c3], .int .i64 p1] s.w (RetS No s fun v s' => v = .int .i64 r) := by
 unfold m_overseerlaw24_kind at hm
 obtain ⟨N, hN, hNb⟩ := s.fresh
 have m0 : Mv (Up N No) s s := Mv.refl _ _
 refine E.entry Tryd.func38 rfl Tryd.ntmps38 rfl rfl (E.seq (E.reg (L.box (N + 0) Wt.no rfl rfl rfl fun b4 s5 m6 bx4 => ?_)))
 replace m0 := m0.trans m6.no
 replace h1 := h1.mono (m6.le no_No)
 replace h2 := h2.mono (m6.le no_No)
 replace h3 := h3.mono (m6.le no_No)
 refine L.as Wt.no rfl rfl (L.nil (X.seqN (E.seq (E.reg (L.lg (j := 0) (cs := [.slice a1 p0.1.length c1, .int .i64 p0.2.1, .slice a2 p0.2.2.1.length c2, .slice a3 p0.2.2.2.length c3]) bx4.mem ag34 Wt.no rfl rfl rfl rfl rfl (L.mv Wt.no rfl rfl ?_))))))
 obtain ⟨r7, er7, hm⟩ := bindS hm
 refine L.ca cf59 rfl rfl Wt.no rfl (m_overseerlaw24_from_c (s := s5) (p0 := p0) (p1 := p1) (u0 := 0) h1 h2 h3 er7) rfl ?_
 rintro _ s8 m9 ⟨a10, c10, rfl, h10⟩
 replace h10 := h10.p
 replace m0 := m0.trans m9.no
 replace bx4 := bx4.mv m9 no_No
 replace h1 := h1.mono (m9.le no_No)
 replace h2 := h2.mono (m9.le no_No)
 replace h3 := h3.mono (m9.le no_No)
 refine L.as Wt.no rfl rfl (L.nil (X.seqN (E.seq (E.block (E.seq (E.reg (L.fa fa34_2 Wt.no rfl rfl (L.ld (j := 2) bx4.mem nag31 Wt.no rfl rfl rfl rfl (L.mv Wt.no rfl rfl ?_)))))))))
 obtain ⟨r11, er11, hm⟩ := bindS hm
 refine L.ca cf24 rfl rfl Wt.no rfl (m_overseerlaw24_has_c (s := s8) (p0 := p0.2.2.1) (p1 := p1) h2 er11) rfl ?_
 rintro _ s12 m13 rfl
 replace m0 := m0.trans m13.no
 replace h10 := h10.mono (m13.le no_No)
 replace bx4 := bx4.mv m13 no_No
 replace h1 := h1.mono (m13.le no_No)
 replace h2 := h2.mono (m13.le no_No)
 replace h3 := h3.mono (m13.le no_No)
 refine L.as Wt.no rfl rfl (L.nil (X.seqN ?_))
 rcases ifS hm with ⟨hc, hm⟩ | ⟨hc, hm⟩
 ·refine E.cT rfl hc (E.seq (E.reg (L.as Wt.no rfl rfl (L.nil (X.seqN (E.ret (X.blkR (X.seqR ?_))))))))
  obtain rfl := Option.some.inj hm
  exact X.rt (.inl rfl) Tryd.results38 (Rs.tmp rfl Rs.nil) rfl ⟨_, (s12).ren N (fun _ => 0), rfl, rfl, m0.ren hNb, rfl⟩
 refine E.cF rfl hc (E.seq (E.reg (L.mv Wt.no rfl rfl (L.fa fa34_2 Wt.no rfl rfl (L.ld (j := 2) bx4.mem nag31 Wt.no rfl rfl rfl rfl ?_)))))
 obtain ⟨r14, er14, hm⟩ := bindS hm
 refine L.ca cf60 rfl rfl Wt.no rfl (m_overseerlaw24_meets_c (s := s12) (p0 := r7) (p1 := p0.2.2.1) h10 h2 er14) rfl ?_
 rintro _ s15 m16 rfl
 replace m0 := m0.trans m16.no
 replace h10 := h10.mono (m16.le no_No)
 replace bx4 := bx4.mv m16 no_No
 replace h1 := h1.mono (m16.le no_No)
 replace h2 := h2.mono (m16.le no_No)
 replace h3 := h3.mono (m16.le no_No)
 refine L.as Wt.no rfl rfl (L.nil (X.seqN ?_))
 rcases ifS hm with ⟨hc, hm⟩ | ⟨hc, hm⟩
 ·refine E.cT rfl hc (E.seq (E.reg (L.as Wt.no rfl rfl (L.nil (X.seqN (E.ret (X.blkR (X.seqR ?_))))))))
  obtain rfl := Option.some.inj hm
  exact X.rt (.inl rfl) Tryd.results38 (Rs.tmp rfl Rs.nil) rfl ⟨_, (s15).ren N (fun _ => 0), rfl, rfl, m0.ren hNb, rfl⟩
 refine E.cF rfl hc (E.seq (E.reg (L.lg (j := 0) (cs := [.slice a1 p0.1.length c1, .int .i64 p0.2.1, .slice a2 p0.2.2.1.length c2, .slice a3 p0.2.2.2.length c3]) bx4.mem ag34 Wt.no rfl rfl rfl rfl rfl (L.mv Wt.no rfl rfl ?_))))
 obtain ⟨r17, er17, hm⟩ := bindS hm
 refine L.ca cf61 rfl rfl Wt.no rfl (m_overseerlaw24_dead_c (s := s15) (p0 := p0) (p1 := p1) h1 h2 h3 er17) rfl ?_
 rintro _ s18 m19 rfl
 replace m0 := m0.trans m19.no
 replace h10 := h10.mono (m19.le no_No)
 replace bx4 := bx4.mv m19 no_No
 replace h1 := h1.mono (m19.le no_No)
 replace h2 := h2.mono (m19.le no_No)
 replace h3 := h3.mono (m19.le no_No)
 refine L.as Wt.no rfl rfl (L.nil (X.seqN ?_))
 rcases ifS hm with ⟨hc, hm⟩ | ⟨hc, hm⟩
 ·refine E.cT rfl hc (E.seq (E.reg (L.as Wt.no rfl rfl (L.nil (X.seqN (E.ret (X.blkR (X.seqR ?_))))))))
  obtain rfl := Option.some.inj hm
  exact X.rt (.inl rfl) Tryd.results38 (Rs.tmp rfl Rs.nil) rfl ⟨_, (s18).ren N (fun _ => 0), rfl, rfl, m0.ren hNb, rfl⟩
 refine E.cF rfl hc (E.skip (X.blkN (X.seqN (E.seq (E.seq (E.reg (L.as Wt.no rfl rfl (L.nil (X.seqN (E.block ?_))))))))))
 obtain ⟨o31, eo31, hm⟩ := bindS hm
 refine E.cut (x := .exit 1) (fun e w => ∃ (s34 : Sig) (u33 : Unit), o31 = .inl u33 ∧ Mv (Up N No) s s34 ∧ e = [] ∧ w = s34.w) ?_ ?_
 ·rintro _ _ ⟨s34, u33, rfl, m0, rfl, rfl⟩
  dsimp only at hm
  refine X.blkE (X.seqN (E.seq (E.reg (L.as Wt.no rfl rfl (L.nil (X.seqN (E.ret ?_)))))))
  obtain rfl := Option.some.inj hm
  exact X.rt (.inl rfl) Tryd.results38 (Rs.tmp rfl Rs.nil) rfl ⟨_, (s34).ren N (fun _ => 0), rfl, rfl, m0.ren hNb, rfl⟩
 intro K35
 refine E.cut (x := .ret) (fun e w => ∃ (s37 : Sig) (u36 : Unit), o31 = .inr (u36) ∧ Mv (Up N No) s s37 ∧ e = [(4, .int .i64 5)] ∧ w = s37.w) ?_ ?_
 ·rintro _ _ ⟨s37, u36, rfl, m0, rfl, rfl⟩
  dsimp only at hm
  refine X.blkR (X.seqR ?_)
  obtain rfl := Option.some.inj hm
  exact X.rt (.inl rfl) Tryd.results38 (Rs.tmp rfl Rs.nil) rfl ⟨_, (s37).ren N (fun _ => 0), rfl, rfl, m0.ren hNb, rfl⟩
 intro K38
 refine E.iter (fun (st31 : Int) (e : List (Nat × Value)) (w : World) => ∃ (s32 : Sig), Mv (Up N No) s s32 ∧ RdL rB s32 a10 c10 r7 ∧ RdL (rK .i64) s32 a1 c1 p0.1 ∧ RdL (rK .i64) s32 a2 c2 p0.2.2.1 ∧ RdL (rP (rK .i64) (rP (rK .i64) (rK .i64))) s32 a3 c3 p0.2.2.2 ∧ Bx s32 (N + 0) b4 #[.slice a1 p0.1.length c1, .int .i64 p0.2.1, .slice a2 p0.2.2.1.length c2, .slice a3 p0.2.2.2.length c3] 34 ∧ e = [(6, .int .i64 st31), (5, .slice a10 r7.length c10), (2, .pointer (some ⟨b4, 0, none⟩))] ∧ w = s32.w) eo31 ⟨s18, m0, h10, h1, h2, h3, bx4, rfl, rfl⟩ (Sub.rf rfl) ?_
 rintro st31 res31 hm ih31 ho31 _ _ ⟨s32, m0, h10, h1, h2, h3, bx4, rfl, rfl⟩
 unfold m_overseerlaw24_kind_l1 at hm
 refine E.seq (E.seq (E.reg (L.mv Wt.no rfl rfl (L.fa fa34_1 Wt.no rfl rfl (L.ld (j := 1) bx4.mem nag3 Wt.no rfl rfl rfl rfl (L.bi Wt.no rfl rfl rfl rfl (L.nil (X.seqN ?_))))))))
 rcases ifS hm with ⟨hc, hm⟩ | ⟨hc, hm⟩
 ·refine E.cT rfl hc (E.skip (X.seqN (E.seq (E.block (E.seq (E.reg (L.mv Wt.no rfl rfl (L.mv Wt.no rfl rfl ?_))))))))
  obtain ⟨x39, ex39, hm⟩ := bindS hm
  refine L.ix (r := rB) sl77 h10 Wt.no rfl rfl ex39 rfl fun b40 o40 cc40 me40 rd40 => ?_
  obtain rfl := rd40
  refine L.ld (j := 0) me40 nag4 Wt.no rfl rfl rfl rfl (L.mv Wt.no rfl rfl ?_)
  obtain ⟨b41, eb41, hm⟩ := bindS hm
  refine L.cut 4 (fun e w => ∃ (s43 : Sig) (v42 : Bool), b41 = v42 ∧ Mv (Up N No) s s43 ∧ RdL rB s43 a10 c10 r7 ∧ RdL (rK .i64) s43 a1 c1 p0.1 ∧ RdL (rK .i64) s43 a2 c2 p0.2.2.1 ∧ RdL (rP (rK .i64) (rP (rK .i64) (rK .i64))) s43 a3 c3 p0.2.2.2 ∧ Bx s43 (N + 0) b4 #[.slice a1 p0.1.length c1, .int .i64 p0.2.1, .slice a2 p0.2.2.1.length c2, .slice a3 p0.2.2.2.length c3] 34 ∧ e = (38, .bool v42) :: [(6, .int .i64 st31), (5, .slice a10 r7.length c10), (2, .pointer (some ⟨b4, 0, none⟩))] ∧ w = s43.w) ?_ ?_
  ·rintro _ _ ⟨s43, v42, rfl, m0, h10, h1, h2, h3, bx4, rfl, rfl⟩
   refine L.nil (X.seqN ?_)
   rcases ifS hm with ⟨hc, hm⟩ | ⟨hc, hm⟩
   ·refine E.cT rfl hc (E.seq (E.reg (L.as Wt.no rfl rfl (L.nil (X.seqN (E.ret (X.blkR (X.seqR (X.seqR ?_)))))))))
    have hx := ho31 _ (Option.some.inj hm).symm
    exact X.sub (K38 _ _ ⟨s43, (), hx.symm, m0, rfl, rfl⟩) (Sub.rf rfl)
   exact E.cF rfl hc (E.skip (X.blkN (X.seqN (E.reg (L.mv Wt.no rfl rfl (L.bi Wt.no rfl rfl rfl rfl (L.as Wt.no rfl rfl (L.nil (X.sub (ih31 _ (Option.some.inj hm).symm _ _ ⟨s43, m0, h10, h1, h2, h3, bx4, rfl, rfl⟩) (Sub.rf rfl))))))))))
  intro J44
  rcases ifS eb41 with ⟨hc, hm⟩ | ⟨hc, hm⟩
  ·refine L.know (d := 34) rfl hc (L.lg (j := 0) (cs := [.slice a1 p0.1.length c1, .int .i64 p0.2.1, .slice a2 p0.2.2.1.length c2, .slice a3 p0.2.2.2.length c3]) bx4.mem ag34 (Wt.mk rfl rfl) rfl rfl rfl rfl rfl (L.mv (Wt.mk rfl rfl) rfl rfl ?_))
   obtain ⟨r45, er45, hm⟩ := bindS hm
   refine L.ca cf61 rfl rfl (Wt.mk rfl rfl) rfl (m_overseerlaw24_dead_c (s := s32) (p0 := p0) (p1 := st31) h1 h2 h3 er45) rfl ?_
   rintro _ s46 m47 rfl
   replace m0 := m0.trans m47.no
   replace h10 := h10.mono (m47.le no_No)
   replace bx4 := bx4.mv m47 no_No
   replace h1 := h1.mono (m47.le no_No)
   replace h2 := h2.mono (m47.le no_No)
   replace h3 := h3.mono (m47.le no_No)
   exact L.pkT Wt.no rfl rfl rfl rfl (L.sb (J44 _ _ ⟨s46, r45, (Option.some.inj hm).symm, m0, h10, h1, h2, h3, bx4, rfl, rfl⟩) rfl)
  exact L.know (d := 34) rfl hc (L.skip rfl rfl rfl rfl (L.skip rfl rfl rfl rfl (L.skip rfl rfl rfl rfl (L.pkF Wt.no rfl rfl rfl rfl (L.sb (J44 _ _ ⟨s32, false, (Option.some.inj hm).symm, m0, h10, h1, h2, h3, bx4, rfl, rfl⟩) rfl)))))
 refine E.cF rfl hc (E.exit (X.seqX (X.seqX ?_)))
 have hx := ho31 _ (Option.some.inj hm).symm
 exact X.sub (K35 _ _ ⟨s32, (), hx.symm, m0, rfl, rfl⟩) Sub.nil

theorem cf38 : Cf Tryd.prog 38 := Cf.mk Tryd.func38 (by kernel_rfl) (by kernel_rfl)
noncomputable def m_overseerlaw24_kinds_l1 (p0 : List Int × Int × List Int × (List (Int × Int × Int))) (st24 : Int × List Int) : Option ((Int × List Int) ⊕ (List Int)) :=
  if decide (st24.1 < p0.2.1) then
    (m_overseerlaw24_kind p0 st24.1).bind fun r30 =>
    (app st24.2 ([r30] : List Int)).bind fun x36 =>
    some (.inl (W (st24.1 + 1), x36))
  else
    some (.inr st24.2)
/-- What overseerlaw24.kinds computes. -/
noncomputable def m_overseerlaw24_kinds (p0 : List Int × Int × List Int × (List (Int × Int × Int))) : Option (List Int) :=
  (iter (m_overseerlaw24_kinds_l1 p0) (0, ([] : List Int))).bind fun o24 =>
  some o24
set_option maxRecDepth 100000 in
set_option maxHeartbeats 8000000 in
theorem m_overseerlaw24_kinds_c {s : Sig} {p0 : List Int × Int × List Int × (List (Int × Int × Int))} {a1 : Option Addr} {c1 : Nat} {a2 : Option Addr} {c2 : Nat} {a3 : Option Addr} {c3 : Nat} {u0 : Nat} {r : List Int} (h1 : RdL (rK .i64) s a1 c1 p0.1) (h2 : RdL (rK .i64) s a2 c2 p0.2.2.1) (h3 : RdL (rP (rK .i64) (rP (rK .i64) (rK .i64))) s a3 c3 p0.2.2.2) (hm : m_overseerlaw24_kinds p0 = some r) :
    Calls Tryd.prog 14 #[.agg #[.slice a1 p0.1.length c1, .int .i64 p0.2.1, .slice a2 p0.2.2.1.length c2, .slice a3 p0.2.2.2.length c3]] s.w (RetS No s fun v s' => ∃ (a4 : Option Addr) (c4 : Nat), v = .slice a4 r.length c4 ∧ RowT (rK .i64) s' u0 3 a4 c4 r) := by
 unfold m_overseerlaw24_kinds at hm
 obtain ⟨N, hN, hNb⟩ := s.fresh
 have m0 : Mv (Up N No) s s := Mv.refl _ _
 refine E.entry Tryd.func14 rfl Tryd.ntmps14 rfl rfl (E.seq (E.reg (L.box (N + 0) Wt.no rfl rfl rfl fun b5 s6 m7 bx5 => ?_)))
 replace m0 := m0.trans m7.no
 replace h1 := h1.mono (m7.le no_No)
 replace h2 := h2.mono (m7.le no_No)
 replace h3 := h3.mono (m7.le no_No)
 refine L.as Wt.no rfl rfl (L.nil (X.seqN (E.seq (E.reg (L.as Wt.no rfl rfl (L.nil (X.seqN (E.seq (E.seq (E.reg (L.as Wt.no rfl rfl (L.nil (X.seqN (E.block ?_))))))))))))))
 obtain ⟨o24, eo24, hm⟩ := bindS hm
 refine E.cut (x := .exit 0) (fun e w => ∃ (s28 : Sig) (a26 : Option Addr) (c26 : Nat), Mv (Up N No) s s28 ∧ RowT (rK .i64) s28 (N + 1) 3 a26 c26 o24 ∧ e = [(3, .slice a26 o24.length c26)] ∧ w = s28.w) ?_ ?_
 ·rintro _ _ ⟨s28, a26, c26, m0, h26, rfl, rfl⟩
  refine X.blkE (X.seqN (E.seq (E.reg (L.mv Wt.no rfl rfl (L.as Wt.no rfl rfl (L.nil (X.seqN (E.ret ?_))))))))
  obtain rfl := Option.some.inj hm
  exact X.rt (.inl rfl) Tryd.results14 (Rs.tmp rfl Rs.nil) rfl ⟨_, (s28).ren N (fun k => cond (Nat.beq k 1) u0 (0)), rfl, rfl, m0.ren hNb, ⟨a26, c26, rfl, (h26.ren hN)⟩⟩
 intro K29
 refine E.iter (fun (st24 : Int × List Int) (e : List (Nat × Value)) (w : World) => ∃ (s27 : Sig) (a10 : Option Addr) (c10 : Nat), Mv (Up N No) s s27 ∧ RowT (rK .i64) s27 (N + 1) 3 a10 c10 st24.2 ∧ RdL (rK .i64) s27 a1 c1 p0.1 ∧ RdL (rK .i64) s27 a2 c2 p0.2.2.1 ∧ RdL (rP (rK .i64) (rP (rK .i64) (rK .i64))) s27 a3 c3 p0.2.2.2 ∧ Bx s27 (N + 0) b5 #[.slice a1 p0.1.length c1, .int .i64 p0.2.1, .slice a2 p0.2.2.1.length c2, .slice a3 p0.2.2.2.length c3] 34 ∧ e = [(4, .int .i64 st24.1), (3, .slice a10 st24.2.length c10), (1, .pointer (some ⟨b5, 0, none⟩))] ∧ w = s27.w) eo24 ⟨s6, none, 0, m0, RowT.nil, h1, h2, h3, bx5, rfl, rfl⟩ (Sub.rf rfl) ?_
 rintro st24 res24 hm ih24 ho24 _ _ ⟨s27, a10, c10, m0, h10, h1, h2, h3, bx5, rfl, rfl⟩
 unfold m_overseerlaw24_kinds_l1 at hm
 refine E.seq (E.seq (E.reg (L.mv Wt.no rfl rfl (L.fa fa34_1 Wt.no rfl rfl (L.ld (j := 1) bx5.mem nag3 Wt.no rfl rfl rfl rfl (L.bi Wt.no rfl rfl rfl rfl (L.nil (X.seqN ?_))))))))
 rcases ifS hm with ⟨hc, hm⟩ | ⟨hc, hm⟩
 ·refine E.cT rfl hc (E.skip (X.seqN (E.seq (E.block (E.reg (L.mv Wt.no rfl rfl (L.lg (j := 0) (cs := [.slice a1 p0.1.length c1, .int .i64 p0.2.1, .slice a2 p0.2.2.1.length c2, .slice a3 p0.2.2.2.length c3]) bx5.mem ag34 Wt.no rfl rfl rfl rfl rfl (L.mv Wt.no rfl rfl ?_))))))))
  obtain ⟨r30, er30, hm⟩ := bindS hm
  refine L.ca cf38 rfl rfl Wt.no rfl (m_overseerlaw24_kind_c (s := s27) (p0 := p0) (p1 := st24.1) h1 h2 h3 er30) rfl ?_
  rintro _ s31 m32 rfl
  replace m0 := m0.trans m32.no
  replace h10 := h10.mv m32 no_No no_No
  replace bx5 := bx5.mv m32 no_No
  replace h1 := h1.mono (m32.le no_No)
  replace h2 := h2.mono (m32.le no_No)
  replace h3 := h3.mono (m32.le no_No)
  refine L.bsE (k := 1) (cs := [.int .i64 r30]) 0 bs31 (Nat.le_of_ble_eq_true rfl) Wt.no rfl rfl rfl rfl fun b33 s34 m35 bx33 => ?_
  replace m0 := m0.trans m35.no
  replace h10 := h10.mv m35 no_No no_No
  replace bx5 := bx5.mv m35 no_No
  replace h1 := h1.mono (m35.le no_No)
  replace h2 := h2.mono (m35.le no_No)
  replace h3 := h3.mono (m35.le no_No)
  have h33 := Bx.rdL (r := (rK .i64)) (xs := ([r30] : List Int)) bx33 ⟨[.int .i64 r30], _, rfl, rfl, rfl⟩ (Nat.le_of_ble_eq_true rfl)
  obtain ⟨x36, ex36, hm⟩ := bindS hm
  refine L.ap (r := (rK .i64)) Tryd.underlying31 el3 rfl (tgp hN) h10 h33.wk Wt.no rfl rfl ex36 rfl fun a37 c37 s38 m39 h37 => ?_
  replace m0 := m0.trans (m39.one up)
  replace bx5 := bx5.mv m39 (tgN (by decide))
  replace h1 := h1.mono (m39.le (tg0 hN))
  replace h2 := h2.mono (m39.le (tg0 hN))
  replace h3 := h3.mono (m39.le (tg0 hN))
  exact L.as Wt.no rfl rfl (L.nil (X.blkN (X.seqN (E.reg (L.mv Wt.no rfl rfl (L.bi Wt.no rfl rfl rfl rfl (L.as Wt.no rfl rfl (L.nil (X.sub (ih24 _ (Option.some.inj hm).symm _ _ ⟨s38, a37, c37, m0, h37, h1, h2, h3, bx5, rfl, rfl⟩) (Sub.rf rfl))))))))))
 refine E.cF rfl hc (E.exit (X.seqX (X.seqX ?_)))
 have hx := ho24 _ (Option.some.inj hm).symm
 subst hx
 exact X.sub (K29 _ _ ⟨s27, a10, c10, m0, h10, rfl, rfl⟩) (Sub.rf rfl)

noncomputable def m_overseerlaw24_chosen_j1 (st27 : Int × List Int) (l33 : List Int) : Option ((Int × List Int) ⊕ (List Int)) :=
  some (.inl (W (st27.1 + 1), l33))
noncomputable def m_overseerlaw24_chosen_l1 (p0 : List Int) (p1 : Int) (p2 : Int) (st27 : Int × List Int) : Option ((Int × List Int) ⊕ (List Int)) :=
  if decide (st27.1 < (p0.length : Int)) then
    (idx p0 st27.1).bind fun x37 =>
    (if decide (x37 ≥ p1) then
      (idx p0 st27.1).bind fun x49 =>
      some (decide (x49 ≤ p2))
    else
      some false).bind fun b39 =>
    if b39 then
      (app st27.2 ([st27.1] : List Int)).bind fun x44 =>
      m_overseerlaw24_chosen_j1 st27 x44
    else
      m_overseerlaw24_chosen_j1 st27 st27.2
  else
    some (.inr st27.2)
/-- What overseerlaw24.chosen computes. -/
noncomputable def m_overseerlaw24_chosen (p0 : List Int) (p1 : Int) (p2 : Int) : Option (List Int) :=
  (iter (m_overseerlaw24_chosen_l1 p0 p1 p2) (0, ([] : List Int))).bind fun o27 =>
  some o27
set_option maxRecDepth 100000 in
set_option maxHeartbeats 8000000 in
theorem m_overseerlaw24_chosen_c {s : Sig} {p0 : List Int} {p1 : Int} {p2 : Int} {a1 : Option Addr} {c1 : Nat} {u0 : Nat} {r : List Int} (h1 : RdL (rK .i64) s a1 c1 p0) (hm : m_overseerlaw24_chosen p0 p1 p2 = some r) :
    Calls Tryd.prog 13 #[.slice a1 p0.length c1, .int .i64 p1, .int .i64 p2] s.w (RetS No s fun v s' => ∃ (a2 : Option Addr) (c2 : Nat), v = .slice a2 r.length c2 ∧ RowT (rK .i64) s' u0 3 a2 c2 r) := by
 unfold m_overseerlaw24_chosen at hm
 obtain ⟨N, hN, hNb⟩ := s.fresh
 have m0 : Mv (Up N No) s s := Mv.refl _ _
 refine E.entry Tryd.func13 rfl Tryd.ntmps13 rfl rfl (E.seq (E.reg (L.as Wt.no rfl rfl (L.nil (X.seqN (E.seq (E.reg (L.as Wt.no rfl rfl (L.nil (X.seqN (E.seq (E.seq (E.reg (L.as Wt.no rfl rfl (L.nil (X.seqN (E.block ?_)))))))))))))))))
 obtain ⟨o27, eo27, hm⟩ := bindS hm
 refine E.cut (x := .exit 0) (fun e w => ∃ (s31 : Sig) (a29 : Option Addr) (c29 : Nat), Mv (Up N No) s s31 ∧ RowT (rK .i64) s31 (N + 0) 3 a29 c29 o27 ∧ e = [(7, .slice a29 o27.length c29)] ∧ w = s31.w) ?_ ?_
 ·rintro _ _ ⟨s31, a29, c29, m0, h29, rfl, rfl⟩
  refine X.blkE (X.seqN (E.seq (E.reg (L.mv Wt.no rfl rfl (L.as Wt.no rfl rfl (L.nil (X.seqN (E.ret ?_))))))))
  obtain rfl := Option.some.inj hm
  exact X.rt (.inl rfl) Tryd.results13 (Rs.tmp rfl Rs.nil) rfl ⟨_, (s31).ren N (fun k => cond (Nat.beq k 0) u0 (0)), rfl, rfl, m0.ren hNb, ⟨a29, c29, rfl, (h29.ren hN)⟩⟩
 intro K32
 refine E.iter (fun (st27 : Int × List Int) (e : List (Nat × Value)) (w : World) => ∃ (s30 : Sig) (a5 : Option Addr) (c5 : Nat), Mv (Up N No) s s30 ∧ RowT (rK .i64) s30 (N + 0) 3 a5 c5 st27.2 ∧ RdL (rK .i64) s30 a1 c1 p0 ∧ e = [(8, .int .i64 st27.1), (7, .slice a5 st27.2.length c5), (0, .slice a1 p0.length c1), (1, .int .i64 p1), (2, .int .i64 p2)] ∧ w = s30.w) eo27 ⟨s, none, 0, m0, RowT.nil, h1, rfl, rfl⟩ (Sub.rf rfl) ?_
 rintro st27 res27 hm ih27 ho27 _ _ ⟨s30, a5, c5, m0, h5, h1, rfl, rfl⟩
 unfold m_overseerlaw24_chosen_l1 at hm
 refine E.seq (E.seq (E.reg (L.mv Wt.no rfl rfl (L.mv Wt.no rfl rfl (L.len sl31 Wt.no rfl rfl (L.bi Wt.no rfl rfl rfl rfl (L.nil (X.seqN ?_))))))))
 rcases ifS hm with ⟨hc, hm⟩ | ⟨hc, hm⟩
 ·refine E.cT rfl hc (E.skip (X.seqN (E.seqJ (fun e w => ∃ (s35 : Sig) (l33 : List Int) (a34 : Option Addr) (c34 : Nat), m_overseerlaw24_chosen_j1 st27 l33 = some res27 ∧ Mv (Up N No) s s35 ∧ RowT (rK .i64) s35 (N + 0) 3 a34 c34 l33 ∧ RdL (rK .i64) s35 a1 c1 p0 ∧ e = [(7, .slice a34 l33.length c34), (8, .int .i64 st27.1), (0, .slice a1 p0.length c1), (1, .int .i64 p1), (2, .int .i64 p2)] ∧ w = s35.w) ?_ ?_)))
  ·rintro _ _ ⟨s35, l33, a34, c34, hm, m0, h34, h1, rfl, rfl⟩
   unfold m_overseerlaw24_chosen_j1 at hm
   exact E.reg (L.mv Wt.no rfl rfl (L.bi Wt.no rfl rfl rfl rfl (L.as Wt.no rfl rfl (L.nil (X.sub (ih27 _ (Option.some.inj hm).symm _ _ ⟨s35, a34, c34, m0, h34, h1, rfl, rfl⟩) (Sub.rf rfl))))))
  intro Jj36
  refine E.block (E.seq (E.reg (L.mv Wt.no rfl rfl (L.mv Wt.no rfl rfl ?_))))
  obtain ⟨x37, ex37, hm⟩ := bindS hm
  refine L.ix (r := (rK .i64)) sl31 h1 Wt.no rfl rfl ex37 rfl fun b38 o38 cc38 me38 rd38 => ?_
  obtain rfl := rd38
  refine L.ld (j := 0) me38 nag3 Wt.no rfl rfl rfl rfl (L.mv Wt.no rfl rfl (L.bi Wt.no rfl rfl rfl rfl (L.mv Wt.no rfl rfl ?_)))
  obtain ⟨b39, eb39, hm⟩ := bindS hm
  refine L.cut 7 (fun e w => ∃ (v40 : Bool), b39 = v40 ∧ e = (28, .bool v40) :: [(8, .int .i64 st27.1), (7, .slice a5 st27.2.length c5), (0, .slice a1 p0.length c1), (1, .int .i64 p1), (2, .int .i64 p2)] ∧ w = s30.w) ?_ ?_
  ·rintro _ _ ⟨v40, rfl, rfl, rfl⟩
   refine L.nil (X.seqN ?_)
   rcases ifS hm with ⟨hc, hm⟩ | ⟨hc, hm⟩
   ·refine E.cT rfl hc (E.reg (L.mv Wt.no rfl rfl (L.mv Wt.no rfl rfl (L.bsE (k := 1) (cs := [.int .i64 st27.1]) 0 bs31 (Nat.le_of_ble_eq_true rfl) Wt.no rfl rfl rfl rfl fun b41 s42 m43 bx41 => ?_))))
    replace m0 := m0.trans m43.no
    replace h1 := h1.mono (m43.le no_No)
    replace h5 := h5.mv m43 no_No no_No
    have h41 := Bx.rdL (r := (rK .i64)) (xs := ([st27.1] : List Int)) bx41 ⟨[.int .i64 st27.1], _, rfl, rfl, rfl⟩ (Nat.le_of_ble_eq_true rfl)
    obtain ⟨x44, ex44, hm⟩ := bindS hm
    refine L.ap (r := (rK .i64)) Tryd.underlying31 el3 rfl (tgp hN) h5 h41.wk Wt.no rfl rfl ex44 rfl fun a45 c45 s46 m47 h45 => ?_
    replace m0 := m0.trans (m47.one up)
    replace h1 := h1.mono (m47.le (tg0 hN))
    exact L.as Wt.no rfl rfl (L.nil (X.blkN (X.sub (Jj36 _ _ ⟨s46, x44, a45, c45, hm, m0, h45, h1, rfl, rfl⟩) (Sub.rf rfl))))
   exact E.cF rfl hc (E.skip (X.blkN (X.sub (Jj36 _ _ ⟨s30, st27.2, a5, c5, hm, m0, h5, h1, rfl, rfl⟩) (Sub.rf rfl))))
  intro J48
  rcases ifS eb39 with ⟨hc, hm⟩ | ⟨hc, hm⟩
  ·refine L.know (d := 21) rfl hc (L.mv (Wt.mk rfl rfl) rfl rfl (L.mv (Wt.mk rfl rfl) rfl rfl ?_))
   obtain ⟨x49, ex49, hm⟩ := bindS hm
   refine L.ix (r := (rK .i64)) sl31 h1 (Wt.mk rfl rfl) rfl rfl ex49 rfl fun b50 o50 cc50 me50 rd50 => ?_
   obtain rfl := rd50
   exact L.ld (j := 0) me50 nag3 (Wt.mk rfl rfl) rfl rfl rfl rfl (L.mv (Wt.mk rfl rfl) rfl rfl (L.bi (Wt.mk rfl rfl) rfl rfl rfl rfl (L.pkT Wt.no rfl rfl rfl rfl (L.sb (J48 _ _ ⟨(decide (x49 ≤ p2)), (Option.some.inj hm).symm, rfl, rfl⟩) rfl))))
  exact L.know (d := 21) rfl hc (L.skip rfl rfl rfl rfl (L.skip rfl rfl rfl rfl (L.skip rfl rfl rfl rfl (L.skip rfl rfl rfl rfl (L.skip rfl rfl rfl rfl (L.skip rfl rfl rfl rfl (L.pkF Wt.no rfl rfl rfl rfl (L.sb (J48 _ _ ⟨false, (Option.some.inj hm).symm, rfl, rfl⟩) rfl))))))))
 refine E.cF rfl hc (E.exit (X.seqX (X.seqX ?_)))
 have hx := ho27 _ (Option.some.inj hm).symm
 subst hx
 exact X.sub (K32 _ _ ⟨s30, a5, c5, m0, h5, rfl, rfl⟩) (Sub.rf rfl)

noncomputable def m_overseerlaw24_all_l1 (p0 : Int) (st15 : Int × List Int) : Option ((Int × List Int) ⊕ (List Int)) :=
  if decide (st15.1 < p0) then
    (app st15.2 ([st15.1] : List Int)).bind fun x24 =>
    some (.inl (W (st15.1 + 1), x24))
  else
    some (.inr st15.2)
/-- What overseerlaw24.all computes. -/
noncomputable def m_overseerlaw24_all (p0 : Int) : Option (List Int) :=
  (iter (m_overseerlaw24_all_l1 p0) (0, ([] : List Int))).bind fun o15 =>
  some o15
set_option maxRecDepth 100000 in
set_option maxHeartbeats 8000000 in
theorem m_overseerlaw24_all_c {s : Sig} {p0 : Int} {u0 : Nat} {r : List Int} (hm : m_overseerlaw24_all p0 = some r) :
    Calls Tryd.prog 37 #[.int .i64 p0] s.w (RetS No s fun v s' => ∃ (a1 : Option Addr) (c1 : Nat), v = .slice a1 r.length c1 ∧ RowT (rK .i64) s' u0 3 a1 c1 r) := by
 unfold m_overseerlaw24_all at hm
 obtain ⟨N, hN, hNb⟩ := s.fresh
 have m0 : Mv (Up N No) s s := Mv.refl _ _
 refine E.entry Tryd.func37 rfl Tryd.ntmps37 rfl rfl (E.seq (E.reg (L.as Wt.no rfl rfl (L.nil (X.seqN (E.seq (E.reg (L.as Wt.no rfl rfl (L.nil (X.seqN (E.seq (E.seq (E.reg (L.as Wt.no rfl rfl (L.nil (X.seqN (E.block ?_)))))))))))))))))
 obtain ⟨o15, eo15, hm⟩ := bindS hm
 refine E.cut (x := .exit 0) (fun e w => ∃ (s19 : Sig) (a17 : Option Addr) (c17 : Nat), Mv (Up N No) s s19 ∧ RowT (rK .i64) s19 (N + 0) 3 a17 c17 o15 ∧ e = [(3, .slice a17 o15.length c17)] ∧ w = s19.w) ?_ ?_
 ·rintro _ _ ⟨s19, a17, c17, m0, h17, rfl, rfl⟩
  refine X.blkE (X.seqN (E.seq (E.reg (L.mv Wt.no rfl rfl (L.as Wt.no rfl rfl (L.nil (X.seqN (E.ret ?_))))))))
  obtain rfl := Option.some.inj hm
  exact X.rt (.inl rfl) Tryd.results37 (Rs.tmp rfl Rs.nil) rfl ⟨_, (s19).ren N (fun k => cond (Nat.beq k 0) u0 (0)), rfl, rfl, m0.ren hNb, ⟨a17, c17, rfl, (h17.ren hN)⟩⟩
 intro K20
 refine E.iter (fun (st15 : Int × List Int) (e : List (Nat × Value)) (w : World) => ∃ (s18 : Sig) (a4 : Option Addr) (c4 : Nat), Mv (Up N No) s s18 ∧ RowT (rK .i64) s18 (N + 0) 3 a4 c4 st15.2 ∧ e = [(4, .int .i64 st15.1), (3, .slice a4 st15.2.length c4), (0, .int .i64 p0)] ∧ w = s18.w) eo15 ⟨s, none, 0, m0, RowT.nil, rfl, rfl⟩ (Sub.rf rfl) ?_
 rintro st15 res15 hm ih15 ho15 _ _ ⟨s18, a4, c4, m0, h4, rfl, rfl⟩
 unfold m_overseerlaw24_all_l1 at hm
 refine E.seq (E.seq (E.reg (L.mv Wt.no rfl rfl (L.mv Wt.no rfl rfl (L.bi Wt.no rfl rfl rfl rfl (L.nil (X.seqN ?_)))))))
 rcases ifS hm with ⟨hc, hm⟩ | ⟨hc, hm⟩
 ·refine E.cT rfl hc (E.skip (X.seqN (E.seq (E.block (E.reg (L.mv Wt.no rfl rfl (L.mv Wt.no rfl rfl (L.bsE (k := 1) (cs := [.int .i64 st15.1]) 0 bs31 (Nat.le_of_ble_eq_true rfl) Wt.no rfl rfl rfl rfl fun b21 s22 m23 bx21 => ?_))))))))
  replace m0 := m0.trans m23.no
  replace h4 := h4.mv m23 no_No no_No
  have h21 := Bx.rdL (r := (rK .i64)) (xs := ([st15.1] : List Int)) bx21 ⟨[.int .i64 st15.1], _, rfl, rfl, rfl⟩ (Nat.le_of_ble_eq_true rfl)
  obtain ⟨x24, ex24, hm⟩ := bindS hm
  refine L.ap (r := (rK .i64)) Tryd.underlying31 el3 rfl (tgp hN) h4 h21.wk Wt.no rfl rfl ex24 rfl fun a25 c25 s26 m27 h25 => ?_
  replace m0 := m0.trans (m27.one up)
  exact L.as Wt.no rfl rfl (L.nil (X.blkN (X.seqN (E.reg (L.mv Wt.no rfl rfl (L.bi Wt.no rfl rfl rfl rfl (L.as Wt.no rfl rfl (L.nil (X.sub (ih15 _ (Option.some.inj hm).symm _ _ ⟨s26, a25, c25, m0, h25, rfl, rfl⟩) (Sub.rf rfl))))))))))
 refine E.cF rfl hc (E.exit (X.seqX (X.seqX ?_)))
 have hx := ho15 _ (Option.some.inj hm).symm
 subst hx
 exact X.sub (K20 _ _ ⟨s18, a4, c4, m0, h4, rfl, rfl⟩) (Sub.rf rfl)

theorem cf37 : Cf Tryd.prog 37 := Cf.mk Tryd.func37 (by kernel_rfl) (by kernel_rfl)
/-- What overseerlaw24.least computes. -/
noncomputable def m_overseerlaw24_least (p0 : List Int × Int × List Int × (List (Int × Int × Int))) (p1 : Int) (p2 : List Int) : Option (List Int × Bool) :=
  (m_overseerlaw24_all p0.2.1).bind fun r15 =>
  (m_reach_Path p0 p1 p2 r15).bind fun r20 =>
  some (r20.1, (r20.2.1 && (r20.2.2 == 0)))
set_option maxRecDepth 100000 in
set_option maxHeartbeats 8000000 in
theorem m_overseerlaw24_least_c {s : Sig} {p0 : List Int × Int × List Int × (List (Int × Int × Int))} {p1 : Int} {p2 : List Int} {a1 : Option Addr} {c1 : Nat} {a2 : Option Addr} {c2 : Nat} {a3 : Option Addr} {c3 : Nat} {a4 : Option Addr} {c4 : Nat} {r : List Int × Bool} (h1 : RdL (rK .i64) s a1 c1 p0.1) (h2 : RdL (rK .i64) s a2 c2 p0.2.2.1) (h3 : RdL (rP (rK .i64) (rP (rK .i64) (rK .i64))) s a3 c3 p0.2.2.2) (h4 : RdL (rK .i64) s a4 c4 p2) (hm : m_overseerlaw24_least p0 p1 p2 = some r) :
    Calls Tryd.prog 12 #[.agg #[.slice a1 p0.1.length c1, .int .i64 p0.2.1, .slice a2 p0.2.2.1.length c2, .slice a3 p0.2.2.2.length c3], .int .i64 p1, .slice a4 p2.length c4] s.w (RetS No s fun v s' => ∃ (a5 : Option Addr) (c5 : Nat), v = .tuple #[.slice a5 r.1.length c5, .bool r.2] ∧ RdL (rK .i64) s' a5 c5 r.1) := by
 unfold m_overseerlaw24_least at hm
 obtain ⟨N, hN, hNb⟩ := s.fresh
 have m0 : Mv (Up N No) s s := Mv.refl _ _
 refine E.entry Tryd.func12 rfl Tryd.ntmps12 rfl rfl (E.seq (E.reg (L.box (N + 0) Wt.no rfl rfl rfl fun b6 s7 m8 bx6 => ?_)))
 replace m0 := m0.trans m8.no
 replace h4 := h4.mono (m8.le no_No)
 replace h1 := h1.mono (m8.le no_No)
 replace h2 := h2.mono (m8.le no_No)
 replace h3 := h3.mono (m8.le no_No)
 refine L.as Wt.no rfl rfl (L.as Wt.no rfl rfl (L.nil (X.seqN (E.seq ?_))))
 obtain ⟨r15, er15, hm⟩ := bindS hm
 obtain ⟨r20, er20, hm⟩ := bindS hm
 refine E.draw [[], [], [], [], [3], [3, 4], [0, 1, 2, 3, 4, 5], [0, 1, 2, 3, 4, 5, 6], [0, 1, 2, 3, 4, 5, 6, 7], [0, 1, 2, 3, 4, 5, 6, 7], [0, 1, 2, 3, 4, 5, 6, 7], [0, 1, 2, 3, 4, 5, 6, 7, 8], [0, 1, 2, 3, 4, 5, 6, 7, 8, 9, 11], [0, 1, 2, 3, 4, 5, 6, 7, 8, 9, 10, 11, 12]] (fun D e sx => Mv No s7 sx ∧ Sub [(3, .pointer (some ⟨b6, 0, none⟩)), (1, .int .i64 p1), (2, .slice a4 p2.length c4)] e ∧ AllP [D 0 = true → (Env.get e 12 = some (.agg #[.slice a1 p0.1.length c1, .int .i64 p0.2.1, .slice a2 p0.2.2.1.length c2, .slice a3 p0.2.2.2.length c3])), D 1 = true → (Env.get e 13 = some (.int .i64 p1)), D 2 = true → (Env.get e 14 = some (.slice a4 p2.length c4)), D 3 = true → (Env.get e 15 = some (.pointer (some ⟨b6, 1, none⟩))), D 4 = true → (Env.get e 16 = some (.int .i64 p0.2.1)), D 5 = true → (∃ (a18 : Option Addr) (c18 : Nat), Env.get e 17 = some (.slice a18 r15.length c18) ∧ RdL (rK .i64) sx a18 c18 r15), D 6 = true → (∃ (a23 : Option Addr) (c23 : Nat), Env.get e 18 = some (.tuple #[.slice a23 r20.1.length c23, .bool r20.2.1, .int .i64 r20.2.2]) ∧ RdL (rK .i64) sx a23 c23 r20.1), D 7 = true → ∀ (a23 : Option Addr) (c23 : Nat), Env.get e 18 = some (.tuple #[.slice a23 r20.1.length c23, .bool r20.2.1, .int .i64 r20.2.2]) → (Env.get e 11 = some (.tuple #[.slice a23 r20.1.length c23, .bool r20.2.1, .int .i64 r20.2.2])), D 8 = true → ∀ (a23 : Option Addr) (c23 : Nat), Env.get e 18 = some (.tuple #[.slice a23 r20.1.length c23, .bool r20.2.1, .int .i64 r20.2.2]) → (Env.get e 19 = some (.slice a23 r20.1.length c23)), D 9 = true → (Env.get e 20 = some (.bool r20.2.1)), D 10 = true → (Env.get e 21 = some (.int .i64 r20.2.2)), D 11 = true → ∀ (a23 : Option Addr) (c23 : Nat), Env.get e 18 = some (.tuple #[.slice a23 r20.1.length c23, .bool r20.2.1, .int .i64 r20.2.2]) → (Env.get e 8 = some (.slice a23 r20.1.length c23)), D 12 = true → (Env.get e 9 = some (.bool r20.2.1)), D 13 = true → (Env.get e 10 = some (.int .i64 r20.2.2))]) (by kernel_rfl) (by kernel_rfl) (by kernel_rfl) ?_ ?_ ?_
 ·intro sz mz
  exact ⟨mz, (Sub.rf rfl), nofun, nofun, nofun, nofun, nofun, nofun, nofun, nofun, nofun, nofun, nofun, nofun, nofun, nofun, trivial⟩
 ·refine ⟨?_, ?_, ?_, ?_, ?_, ?_, ?_, ?_, ?_, ?_, ?_, ?_, ?_, ?_, trivial⟩
  ·rintro D e s9 ⟨im, ib, i⟩ hk hf ha
   have bx6 := bx6.mv im no_No
   have kn : Kn e [(3, .pointer (some ⟨b6, 0, none⟩))] := ⟨(ib 3 _ rfl), trivial⟩
   exact L.kns _ kn (L.lg (j := 0) (cs := [.slice a1 p0.1.length c1, .int .i64 p0.2.1, .slice a2 p0.2.2.1.length c2, .slice a3 p0.2.2.2.length c3]) bx6.mem ag34 Wt.no rfl rfl rfl rfl rfl (L.nil (X.dk kn ⟨im, Sub.fresh ib rfl, i.u 0 (fun _ => rfl)⟩)))
  ·rintro D e s10 ⟨im, ib, i⟩ hk hf ha
   have kn : Kn e [(1, .int .i64 p1)] := ⟨(ib 1 _ rfl), trivial⟩
   exact L.kns _ kn (L.mv Wt.no rfl rfl (L.nil (X.dk kn ⟨im, Sub.fresh ib rfl, i.u 1 (fun _ => rfl)⟩)))
  ·rintro D e s11 ⟨im, ib, i⟩ hk hf ha
   have kn : Kn e [(2, .slice a4 p2.length c4)] := ⟨(ib 2 _ rfl), trivial⟩
   exact L.kns _ kn (L.mv Wt.no rfl rfl (L.nil (X.dk kn ⟨im, Sub.fresh ib rfl, i.u 2 (fun _ => rfl)⟩)))
  ·rintro D e s12 ⟨im, ib, i⟩ hk hf ha
   have kn : Kn e [(3, .pointer (some ⟨b6, 0, none⟩))] := ⟨(ib 3 _ rfl), trivial⟩
   exact L.kns _ kn (L.fa fa34_1 Wt.no rfl rfl (L.nil (X.dk kn ⟨im, Sub.fresh ib rfl, i.u 3 (fun _ => rfl)⟩)))
  ·rintro D e s13 ⟨im, ib, i⟩ hk hf ha
   have bx6 := bx6.mv im no_No
   have kn : Kn e [(15, .pointer (some ⟨b6, 1, none⟩))] := ⟨((i.p 3) (ha.at 3 rfl)), trivial⟩
   exact L.kns _ kn (L.ld (j := 1) bx6.mem nag3 Wt.no rfl rfl rfl rfl (L.nil (X.dk kn ⟨im, Sub.fresh ib rfl, i.u 4 (fun _ => rfl)⟩)))
  ·rintro D e s14 ⟨im, ib, i⟩ hk hf ha
   have kn : Kn e [(16, .int .i64 p0.2.1)] := ⟨((i.p 4) (ha.at 4 rfl)), trivial⟩
   refine L.kns _ kn (L.ca cf37 rfl rfl Wt.no rfl (m_overseerlaw24_all_c (s := s14) (p0 := p0.2.1) (u0 := 0) er15) rfl ?_)
   rintro _ s16 m17 ⟨a18, c18, rfl, h18⟩
   replace h18 := h18.p
   exact L.nil (X.dk kn ⟨im.trans m17.no, Sub.fresh ib rfl, (i.u 5 (fun _ => ⟨a18, c18, rfl, h18⟩)).u 6 (fun z => let ⟨a23, c23, q, h23⟩ := (i.p 6) z; ⟨a23, c23, q, (h23.mono (m17.le no_No))⟩)⟩)
  ·rintro D e s19 ⟨im, ib, i⟩ hk hf ha
   obtain ⟨a18, c18, g5_, h18⟩ := (i.p 5) (ha.at 5 rfl)
   have h1 := h1.mono (im.le no_No)
   have h2 := h2.mono (im.le no_No)
   have h3 := h3.mono (im.le no_No)
   have h4 := h4.mono (im.le no_No)
   have kn : Kn e [(12, .agg #[.slice a1 p0.1.length c1, .int .i64 p0.2.1, .slice a2 p0.2.2.1.length c2, .slice a3 p0.2.2.2.length c3]), (13, .int .i64 p1), (14, .slice a4 p2.length c4), (17, .slice a18 r15.length c18)] := ⟨((i.p 0) (ha.at 0 rfl)), ((i.p 1) (ha.at 1 rfl)), ((i.p 2) (ha.at 2 rfl)), g5_, trivial⟩
   refine L.kns _ kn (L.ca cf36 rfl rfl Wt.no rfl (m_reach_Path_c (s := s19) (p0 := p0) (p1 := p1) (p2 := p2) (p3 := r15) h1 h2 h3 h4 h18 er20) rfl ?_)
   rintro _ s21 m22 ⟨a23, c23, rfl, h23⟩
   exact L.nil (X.dk kn ⟨im.trans m22.no, Sub.fresh ib rfl, ((((i.u 5 (fun z => let ⟨a18, c18, q, h18⟩ := (i.p 5) z; ⟨a18, c18, q, (h18.mono (m22.le no_No))⟩)).u 6 (fun _ => ⟨a23, c23, rfl, h23⟩)).u 7 (fun z => Bool.noConfusion ((hf 7 (Nat.le_of_ble_eq_true rfl) rfl).symm.trans z))).u 8 (fun z => Bool.noConfusion ((hf 8 (Nat.le_of_ble_eq_true rfl) rfl).symm.trans z))).u 11 (fun z => Bool.noConfusion ((hf 11 (Nat.le_of_ble_eq_true rfl) rfl).symm.trans z))⟩)
  ·rintro D e s24 ⟨im, ib, i⟩ hk hf ha
   obtain ⟨a23, c23, g6_, h23⟩ := (i.p 6) (ha.at 6 rfl)
   have kn : Kn e [(18, .tuple #[.slice a23 r20.1.length c23, .bool r20.2.1, .int .i64 r20.2.2])] := ⟨g6_, trivial⟩
   exact L.kns _ kn (L.mv Wt.no rfl rfl (L.nil (X.dk kn ⟨im, Sub.fresh ib rfl, i.u 7 (fun _ _ _ q6 => by cases g6_.symm.trans q6; exact rfl)⟩)))
  ·rintro D e s25 ⟨im, ib, i⟩ hk hf ha
   obtain ⟨a23, c23, g6_, h23⟩ := (i.p 6) (ha.at 6 rfl)
   have g7_ := (i.p 7) (ha.at 7 rfl) a23 c23 g6_
   have kn : Kn e [(11, .tuple #[.slice a23 r20.1.length c23, .bool r20.2.1, .int .i64 r20.2.2])] := ⟨g7_, trivial⟩
   exact L.kns _ kn (L.ex Wt.no rfl rfl rfl (L.nil (X.dk kn ⟨im, Sub.fresh ib rfl, i.u 8 (fun _ _ _ q6 => by cases g6_.symm.trans q6; exact rfl)⟩)))
  ·rintro D e s26 ⟨im, ib, i⟩ hk hf ha
   obtain ⟨a23, c23, g6_, h23⟩ := (i.p 6) (ha.at 6 rfl)
   have g7_ := (i.p 7) (ha.at 7 rfl) a23 c23 g6_
   have kn : Kn e [(11, .tuple #[.slice a23 r20.1.length c23, .bool r20.2.1, .int .i64 r20.2.2])] := ⟨g7_, trivial⟩
   exact L.kns _ kn (L.ex Wt.no rfl rfl rfl (L.nil (X.dk kn ⟨im, Sub.fresh ib rfl, i.u 9 (fun _ => rfl)⟩)))
  ·rintro D e s27 ⟨im, ib, i⟩ hk hf ha
   obtain ⟨a23, c23, g6_, h23⟩ := (i.p 6) (ha.at 6 rfl)
   have g7_ := (i.p 7) (ha.at 7 rfl) a23 c23 g6_
   have kn : Kn e [(11, .tuple #[.slice a23 r20.1.length c23, .bool r20.2.1, .int .i64 r20.2.2])] := ⟨g7_, trivial⟩
   exact L.kns _ kn (L.ex Wt.no rfl rfl rfl (L.nil (X.dk kn ⟨im, Sub.fresh ib rfl, i.u 10 (fun _ => rfl)⟩)))
  ·rintro D e s28 ⟨im, ib, i⟩ hk hf ha
   obtain ⟨a23, c23, g6_, h23⟩ := (i.p 6) (ha.at 6 rfl)
   have g8_ := (i.p 8) (ha.at 8 rfl) a23 c23 g6_
   have kn : Kn e [(19, .slice a23 r20.1.length c23)] := ⟨g8_, trivial⟩
   exact L.kns _ kn (L.as Wt.no rfl rfl (L.nil (X.dk kn ⟨im, Sub.fresh ib rfl, i.u 11 (fun _ _ _ q6 => by cases g6_.symm.trans q6; exact rfl)⟩)))
  ·rintro D e s29 ⟨im, ib, i⟩ hk hf ha
   have kn : Kn e [(20, .bool r20.2.1)] := ⟨((i.p 9) (ha.at 9 rfl)), trivial⟩
   exact L.kns _ kn (L.as Wt.no rfl rfl (L.nil (X.dk kn ⟨im, Sub.fresh ib rfl, i.u 12 (fun _ => rfl)⟩)))
  rintro D e s30 ⟨im, ib, i⟩ hk hf ha
  have kn : Kn e [(21, .int .i64 r20.2.2)] := ⟨((i.p 10) (ha.at 10 rfl)), trivial⟩
  exact L.kns _ kn (L.as Wt.no rfl rfl (L.nil (X.dk kn ⟨im, Sub.fresh ib rfl, i.u 13 (fun _ => rfl)⟩)))
 rintro D e s31 hD ⟨im, ib, i⟩
 obtain ⟨a23, c23, g6_, h23⟩ := (i.p 6) (hD 6 rfl)
 have g11_ := (i.p 11) (hD 11 rfl) a23 c23 g6_
 have g12_ := (i.p 12) (hD 12 rfl)
 have g13_ := (i.p 13) (hD 13 rfl)
 have m0 := m0.trans im.no
 refine X.sub (e' := [(10, .int .i64 r20.2.2), (9, .bool r20.2.1), (8, .slice a23 r20.1.length c23)]) ?_ (Sub.cons g13_ (Sub.cons g12_ (Sub.cons g11_ Sub.nil)))
 refine X.seqN (E.seq (E.reg (L.mv Wt.no rfl rfl (L.mv Wt.no rfl rfl (L.mv Wt.no rfl rfl (L.cut 3 (fun e w => ∃ (v32 : Bool), (r20.2.1 && (r20.2.2 == 0)) = v32 ∧ e = (27, .bool v32) :: [(22, .slice a23 r20.1.length c23)] ∧ w = s31.w) ?_ ?_))))))
 ·rintro _ _ ⟨v32, rfl, rfl, rfl⟩
  refine L.as Wt.no rfl rfl (L.as Wt.no rfl rfl (L.nil (X.seqN (E.ret ?_))))
  obtain rfl := Option.some.inj hm
  exact X.rt (.inl rfl) Tryd.results12 (Rs.tmp rfl (Rs.tmp rfl Rs.nil)) rfl ⟨_, (s31).ren N (fun _ => 0), rfl, rfl, m0.ren hNb, ⟨a23, c23, rfl, (h23.ren hN)⟩⟩
 intro J33
 rcases Bool.eq_false_or_eq_true r20.2.1 with hc | hc
 ·exact L.know (d := 24) rfl hc (L.mv (Wt.mk rfl rfl) rfl rfl (L.bi (Wt.mk rfl rfl) rfl rfl rfl rfl (L.pkT Wt.no rfl rfl rfl rfl (L.sb (J33 _ _ ⟨(r20.2.2 == 0), (andT hc).symm, rfl, rfl⟩) rfl))))
 exact L.know (d := 24) rfl hc (L.skip rfl rfl rfl rfl (L.skip rfl rfl rfl rfl (L.pkF Wt.no rfl rfl rfl rfl (L.sb (J33 _ _ ⟨false, (andF hc).symm, rfl, rfl⟩) rfl))))

theorem cf12 : Cf Tryd.prog 12 := Cf.mk Tryd.func12 (by kernel_rfl) (by kernel_rfl)
theorem cf13 : Cf Tryd.prog 13 := Cf.mk Tryd.func13 (by kernel_rfl) (by kernel_rfl)
theorem cf14 : Cf Tryd.prog 14 := Cf.mk Tryd.func14 (by kernel_rfl) (by kernel_rfl)
theorem cf8 : Cf Tryd.prog 8 := Cf.mk Tryd.func8 (by kernel_rfl) (by kernel_rfl)
end Go.Proofs.YtfbapajcheammaaDoor

namespace Go.Proofs.YtfbapajcheammaaDoor
open Go Go.RowKit
def allL (n : Nat) : List Int := (List.range n).map fun (i : Nat) => (i : Int)
theorem allL_succ (n : Nat) : allL (n + 1) = allL n ++ [(n : Int)] := by simp [allL, List.range_succ]
theorem allL_len (n : Nat) : (allL n).length = n := by simp [allL]
theorem lall_eq {n : Nat} (hn : n ≤ 1000000) : m_overseerlaw24_all (n : Int) = some (allL n) := by
  have h := iter_inv (f := m_overseerlaw24_all_l1 (n : Int)) (fun i s => i ≤ n ∧ s = ((i : Int), allL i)) (fun o => o = allL n) n 0 (by omega) ?_ ?_ (Nat.zero_le _) (0, []) ⟨Nat.zero_le _, rfl⟩
  · obtain ⟨o, h1, rfl⟩ := h
    simp [m_overseerlaw24_all, h1]
  · rintro i s hi ⟨_, rfl⟩
    refine .inl ⟨_, ?_, by omega, rfl⟩
    rw [m_overseerlaw24_all_l1, allL_succ]
    simp only [ct_lt hi, if_true]
    rw [app_eq (by have := allL_len i; simp; omega), Option.bind_some, nxt (by omega)]
  · rintro s ⟨_, rfl⟩
    refine ⟨_, ?_, rfl⟩
    rw [m_overseerlaw24_all_l1]
    simp
/-- The places below k whose number lies from a to b. -/
def choL (p : List Int) (a b : Int) (k : Nat) : List Int := ((List.range k).filter fun i => decide (a ≤ p.getD i 0 ∧ p.getD i 0 ≤ b)).map fun (i : Nat) => (i : Int)
theorem choL_succ (p : List Int) (a b : Int) (k : Nat) : choL p a b (k + 1) = if a ≤ p.getD k 0 ∧ p.getD k 0 ≤ b then choL p a b k ++ [(k : Int)] else choL p a b k := by
  unfold choL
  rw [List.range_succ, List.filter_append, List.map_append]
  by_cases h : a ≤ p.getD k 0 ∧ p.getD k 0 ≤ b
  · rw [if_pos h, List.filter_cons_of_pos (by simpa using h)]; rfl
  · rw [if_neg h, List.filter_cons_of_neg (by simpa using h)]; simp
theorem choL_len (p : List Int) (a b : Int) (k : Nat) : (choL p a b k).length ≤ k := by
  unfold choL
  rw [List.length_map]
  exact Nat.le_trans (List.length_filter_le _ _) (by simp)
theorem chosen_eq {p : List Int} {a b : Int} (hl : p.length ≤ 1000000) : m_overseerlaw24_chosen p a b = some (choL p a b p.length) := by
  have h := iter_inv (f := m_overseerlaw24_chosen_l1 p a b) (fun i s => i ≤ p.length ∧ s = ((i : Int), choL p a b i)) (fun o => o = choL p a b p.length) p.length 0 (by omega) ?_ ?_ (Nat.zero_le _) (0, []) ⟨Nat.zero_le _, rfl⟩
  · obtain ⟨o, h1, rfl⟩ := h
    simp [m_overseerlaw24_chosen, h1]
  · rintro i s hi ⟨_, rfl⟩
    refine .inl ⟨_, ?_, by omega, rfl⟩
    have hn := choL_len p a b i
    rw [m_overseerlaw24_chosen_l1]
    simp only [ct_lt hi, if_true, idx_at hi, Option.bind_some]
    have hg : p.getD i 0 = p[i] := by rw [List.getD_eq_getElem?_getD, List.getElem?_eq_getElem hi]; rfl
    rw [choL_succ, hg]
    have ha := app_eq (xs := choL p a b i) (ys := [(i : Int)]) (by simp; omega)
    by_cases h1 : a ≤ p[i]
    · by_cases h2 : p[i] ≤ b
      · simp [h1, h2, ha, m_overseerlaw24_chosen_j1, nxt (show i < 4611686018427387904 by omega)]
      · simp [h1, h2, m_overseerlaw24_chosen_j1, nxt (show i < 4611686018427387904 by omega)]
    · simp [h1, m_overseerlaw24_chosen_j1, nxt (show i < 4611686018427387904 by omega)]
  · rintro s ⟨_, rfl⟩
    refine ⟨_, ?_, rfl⟩
    rw [m_overseerlaw24_chosen_l1]
    simp
end Go.Proofs.YtfbapajcheammaaDoor

namespace Go.Proofs.YtfbapajcheammaaDoor
open Go Go.RowKit
theorem upd_at {α : Type} {xs : List α} {i : Nat} {y : α} (h : i < xs.length) : upd xs (i : Int) y = some (xs.set i y) := by
  unfold upd
  rw [if_pos ⟨by omega, by omega⟩, Int.toNat_natCast]
theorem ball_eq {a : List Int} {n : Nat} {m : List Int} {es : List (Int × Int × Int)} (hn : n ≤ 1000000) : m_blocking_all (a, (n : Int), m, es) = some (allL n) := by
  have hm : mkL (n : Int) (0 : Int) = some (List.replicate n 0) := by unfold mkL; rw [if_pos ⟨by omega, by omega⟩, Int.toNat_natCast]
  have h := iter_inv (f := m_blocking_all_l1 (List.replicate n 0)) (fun i s => i ≤ n ∧ s = ((i : Int), allL i ++ List.replicate (n - i) 0)) (fun o => o = allL n) n 0 (by omega) ?_ ?_ (Nat.zero_le _) (0, List.replicate n 0) ⟨Nat.zero_le _, by simp [allL]⟩
  · obtain ⟨o, h1, rfl⟩ := h
    simp only [m_blocking_all, hm, Option.bind_some, h1]
  · rintro i s hi ⟨_, rfl⟩
    refine .inl ⟨_, ?_, by omega, rfl⟩
    have hlen : (allL i ++ List.replicate (n - i) (0 : Int)).length = n := by rw [List.length_append, allL_len, List.length_replicate]; omega
    have hset : (allL i ++ List.replicate (n - i) (0 : Int)).set i (i : Int) = allL (i + 1) ++ List.replicate (n - (i + 1)) 0 := by
      rw [allL_succ, List.set_append_right _ _ (by rw [allL_len]; exact Nat.le_refl _), allL_len, Nat.sub_self, show n - i = (n - (i + 1)) + 1 by omega, List.replicate_succ, List.set_cons_zero]
      simp
    rw [m_blocking_all_l1]
    simp only [List.length_replicate, ct_lt hi, if_true]
    rw [idx_at (by rw [hlen]; exact hi), Option.bind_some, upd_at (by rw [hlen]; exact hi), Option.bind_some, hset, nxt (by omega)]
  · rintro s ⟨_, rfl⟩
    refine ⟨_, ?_, rfl⟩
    rw [m_blocking_all_l1]
    simp
end Go.Proofs.YtfbapajcheammaaDoor

namespace Go.Proofs.YtfbapajcheammaaDoor
open Go Go.RowKit
theorem spread_fill {n : Nat} (hn : n ≤ 1000000) : iter (m_blocking_spread_l1 (List.replicate n 0)) (0, List.replicate n 0) = some (List.replicate n (-1)) := by
  have h := iter_inv (f := m_blocking_spread_l1 (List.replicate n 0)) (fun i s => i ≤ n ∧ s = ((i : Int), List.replicate i (-1) ++ List.replicate (n - i) 0)) (fun o => o = List.replicate n (-1)) n 0 (by omega) ?_ ?_ (Nat.zero_le _) (0, List.replicate n 0) ⟨Nat.zero_le _, by simp⟩
  · obtain ⟨o, h1, rfl⟩ := h
    exact h1
  · rintro i s hi ⟨_, rfl⟩
    refine .inl ⟨_, ?_, by omega, rfl⟩
    have hlen : (List.replicate i (-1) ++ List.replicate (n - i) (0 : Int)).length = n := by simp; omega
    have hset : (List.replicate i (-1) ++ List.replicate (n - i) (0 : Int)).set i (-1) = List.replicate (i + 1) (-1) ++ List.replicate (n - (i + 1)) 0 := by
      rw [List.set_append_right _ _ (by simp), List.length_replicate, Nat.sub_self, show n - i = (n - (i + 1)) + 1 by omega, List.replicate_succ, List.set_cons_zero, List.replicate_succ']
      simp
    rw [m_blocking_spread_l1]
    simp only [List.length_replicate, ct_lt hi, if_true]
    rw [idx_at (by rw [hlen]; exact hi), Option.bind_some, upd_at (by rw [hlen]; exact hi), Option.bind_some, hset, nxt (by omega)]
  · rintro s ⟨_, rfl⟩
    refine ⟨_, ?_, rfl⟩
    rw [m_blocking_spread_l1]
    simp
theorem bStart_len (n : Nat) (tg : List Int) : (bStart n tg).length = n := by
  unfold bStart
  have : ∀ (l : List Int) (ds : List Int), (l.foldl (fun ds (s : Int) => ds.set s.toNat 0) ds).length = ds.length := by
    intro l
    induction l with
    | nil => intro ds; rfl
    | cons s l ih => intro ds; rw [List.foldl_cons, ih, List.length_set]
  rw [this, List.length_replicate]
theorem spread_starts {n : Nat} {tg : List Int} (ht : tg.length ≤ 1000000) (hr : ∀ s ∈ tg, 0 ≤ s ∧ s < (n : Int)) : iter (m_blocking_spread_l2 tg) (0, List.replicate n (-1)) = some (bStart n tg) := by
  have h := iter_inv (f := m_blocking_spread_l2 tg) (fun i s => i ≤ tg.length ∧ s = ((i : Int), bStart n (tg.take i))) (fun o => o = bStart n tg) tg.length 0 (by omega) ?_ ?_ (Nat.zero_le _) (0, List.replicate n (-1)) ⟨Nat.zero_le _, by simp [bStart]⟩
  · obtain ⟨o, h1, rfl⟩ := h
    exact h1
  · rintro i s hi ⟨_, rfl⟩
    refine .inl ⟨_, ?_, by omega, rfl⟩
    obtain ⟨h0, h1⟩ := hr _ (List.getElem_mem hi)
    obtain ⟨k, hk⟩ := Int.eq_ofNat_of_zero_le h0
    have hkn : k < (bStart n (tg.take i)).length := by rw [bStart_len]; omega
    have hset : bStart n (tg.take (i + 1)) = (bStart n (tg.take i)).set k 0 := by
      rw [take_snoc tg i hi, hk]
      simp [bStart, List.foldl_append]
    rw [m_blocking_spread_l2]
    simp only [ct_lt hi, if_true, idx_at hi, Option.bind_some, hk]
    rw [idx_at hkn, Option.bind_some, upd_at hkn, Option.bind_some, hset, nxt (by omega)]
  · rintro s ⟨_, rfl⟩
    refine ⟨_, ?_, rfl⟩
    rw [m_blocking_spread_l2]
    simp
end Go.Proofs.YtfbapajcheammaaDoor

namespace Go.Proofs.YtfbapajcheammaaDoor
open Go Go.RowKit
/-- The inner loop of spread is bStep, edge by edge. -/
theorem spread_inner {n s i : Nat} {q0 ds0 ps : List Int} (z : List Int × List Int) (hps : ∀ p ∈ ps, 0 ≤ p ∧ p < (n : Int)) (hpl : ps.length ≤ 1000000) (hq : q0[i]? = some (s : Int)) (hs : s < n) (hB : BOk n ds0 q0) (hnn : 0 ≤ ds0.getD s 0) (hsz : 2 * negs ds0 + q0.length ≤ 4000000) :
    ∃ o, iter (m_blocking_spread_l4 ((i : Int), z) ps) (0, q0, ds0) = some o ∧ (o.2, o.1) = ps.foldl (bStep s) (ds0, q0) := by
  refine iter_inv (f := m_blocking_spread_l4 ((i : Int), z) ps) (fun k st => k ≤ ps.length ∧ ∃ ds q, st = ((k : Int), q, ds) ∧ (ds, q) = (ps.take k).foldl (bStep s) (ds0, q0) ∧ BOk n ds q ∧ 0 ≤ ds.getD s 0 ∧ q[i]? = some (s : Int) ∧ 2 * negs ds + q.length ≤ 4000000) (fun o => (o.2, o.1) = ps.foldl (bStep s) (ds0, q0)) ps.length 0 (by omega) ?_ ?_ (Nat.zero_le _) (0, q0, ds0) ⟨Nat.zero_le _, ds0, q0, rfl, by simp, hB, hnn, hq, hsz⟩
  · rintro k st hk ⟨_, ds, q, rfl, hf, hB, hnn, hq, hsz⟩
    obtain ⟨h0, h1⟩ := hps _ (List.getElem_mem hk)
    have hstep := hB.step hs hnn ps[k] h0 h1
    have hfs : (ps.take (k + 1)).foldl (bStep s) (ds0, q0) = bStep s (ds, q) ps[k] := by rw [take_snoc ps k hk, List.foldl_append, ← hf]; rfl
    obtain ⟨p, hp⟩ := Int.eq_ofNat_of_zero_le h0
    have hpn : p < ds.length := by rw [hB.len]; omega
    have hsn : s < ds.length := by rw [hB.len]; omega
    obtain ⟨hil, hie⟩ := List.getElem?_eq_some_iff.1 hq
    have hgp : ds.getD p 0 = ds[p] := by rw [List.getD_eq_getElem?_getD, List.getElem?_eq_getElem hpn]; rfl
    have hgs : ds.getD s 0 = ds[s] := by rw [List.getD_eq_getElem?_getD, List.getElem?_eq_getElem hsn]; rfl
    have hlo := hB.lo _ (List.getElem_mem hsn)
    refine .inl ⟨((k + 1 : Nat), (bStep s (ds, q) ps[k]).2, (bStep s (ds, q) ps[k]).1), ?_, by omega, _, _, rfl, hfs.symm, hstep.1, hstep.2.1, ?_, by have := hstep.2.2; omega⟩
    · rw [m_blocking_spread_l4]
      simp only [ct_lt hk, if_true, idx_at hk, Option.bind_some, hp, idx_at hpn, bStep, Int.toNat_natCast, hgp]
      by_cases hx : ds[p] < 0
      · have happ := app_eq (xs := q) (ys := [(p : Int)]) (by simp; omega)
        simp only [hx, decide_true, if_true, idx_at hil, hie, Option.bind_some, idx_at hsn, upd_at hpn, happ, m_blocking_spread_j1, hgs, W_of (show -9223372036854775808 ≤ ds[s] + 1 by omega) (show ds[s] + 1 < 9223372036854775808 by omega), nxt (show k < 4611686018427387904 by omega)]
      · simp only [hx, decide_false, if_false, m_blocking_spread_j1, nxt (show k < 4611686018427387904 by omega)]
        simp
    · unfold bStep
      split
      · dsimp only; rw [List.getElem?_append_left hil]; exact hq
      · exact hq
  · rintro st ⟨_, ds, q, rfl, hf, _⟩
    refine ⟨(q, ds), ?_, by rw [List.take_length] at hf; exact hf⟩
    rw [m_blocking_spread_l4]
    simp
theorem bStep_pre (s : Nat) : ∀ (l : List Int) (ds q1 q2 : List Int), l.foldl (bStep s) (ds, q1 ++ q2) = ((l.foldl (bStep s) (ds, q2)).1, q1 ++ (l.foldl (bStep s) (ds, q2)).2)
  | [], _, _, _ => rfl
  | p :: l, ds, q1, q2 => by
    have h : bStep s (ds, q1 ++ q2) p = ((bStep s (ds, q2) p).1, q1 ++ (bStep s (ds, q2) p).2) := by
      unfold bStep
      dsimp only
      split <;> simp
    rw [List.foldl_cons, h, bStep_pre s l, List.foldl_cons]
/-- The queue of spread is backward's. -/
theorem spread_queue {n : Nat} {es : List Ed} {ds0 q0 : List Int} (hin : ∀ x ∈ es, 0 ≤ x.f ∧ x.f < n ∧ 0 ≤ x.t ∧ x.t < (n : Int)) (hl : es.length ≤ 1000000) (hB : BOk n ds0 q0) (hsz : 2 * negs ds0 + q0.length ≤ 4000000) :
    iter (m_blocking_spread_l3 ((List.range n).map (inL es))) (0, q0, ds0) = some (bwd (inL es) (2 * negs ds0 + q0.length + 1) ds0 q0) := by
  have h := iter_inv (f := m_blocking_spread_l3 ((List.range n).map (inL es))) (fun i st => ∃ ds q f, st = ((i : Int), q, ds) ∧ i ≤ q.length ∧ BOk n ds q ∧ 2 * negs ds + q.length ≤ 2 * negs ds0 + q0.length ∧ bwd (inL es) f ds (q.drop i) = bwd (inL es) (2 * negs ds0 + q0.length + 1) ds0 q0 ∧ 2 * negs ds + (q.length - i) + 1 ≤ f)
    (fun o => o = bwd (inL es) (2 * negs ds0 + q0.length + 1) ds0 q0) (2 * negs ds0 + q0.length) 0 (by omega) ?_ ?_ (Nat.zero_le _) (0, q0, ds0) ⟨ds0, q0, _, rfl, Nat.zero_le _, hB, Nat.le_refl _, rfl, by omega⟩
  · obtain ⟨o, h1, rfl⟩ := h
    exact h1
  · rintro i st _ ⟨ds, q, f, rfl, hi, hB, hm, hR, hf⟩
    by_cases hlt : i < q.length
    · obtain ⟨g0, g1⟩ := hB.qr _ (List.getElem_mem hlt)
      have hnn := hB.nn _ (List.getElem_mem hlt)
      obtain ⟨s, hs⟩ := Int.eq_ofNat_of_zero_le g0
      have hsn : s < n := by omega
      rw [hs, Int.toNat_natCast] at hnn
      have hps := inL_range (s := s) hin
      have hil := inL_le es s
      obtain ⟨o, h1, h2⟩ := spread_inner (n := n) (s := s) (i := i) (q0 := q) (ds0 := ds) (ps := inL es s) (q, ds) hps (by omega) (by rw [List.getElem?_eq_getElem hlt, hs]) hsn hB hnn (by omega)
      have hfold := BOk.fold hsn (inL es s) hB hnn hps
      rw [← h2] at hfold
      obtain ⟨f, rfl⟩ : ∃ f', f = f' + 1 := ⟨f - 1, by omega⟩
      have hpre := bStep_pre s (inL es s) ds (q.take (i + 1)) (q.drop (i + 1))
      rw [List.take_append_drop, ← h2] at hpre
      have ho1 : o.1 = q.take (i + 1) ++ ((inL es s).foldl (bStep s) (ds, q.drop (i + 1))).2 := congrArg Prod.snd hpre
      have ho2 : o.2 = ((inL es s).foldl (bStep s) (ds, q.drop (i + 1))).1 := congrArg Prod.fst hpre
      have hol : i + 1 ≤ o.1.length := by rw [ho1, List.length_append, List.length_take]; omega
      have hdr : o.1.drop (i + 1) = ((inL es s).foldl (bStep s) (ds, q.drop (i + 1))).2 := by
        rw [ho1, List.drop_append_of_le_length (by rw [List.length_take]; omega), List.drop_eq_nil_of_le (by rw [List.length_take]; omega), List.nil_append]
      refine .inl ⟨((i + 1 : Nat), o.1, o.2), ?_, o.2, o.1, f, rfl, hol, hfold.1, by have := hfold.2.2; dsimp only at this; omega, ?_, by have := hfold.2.2; dsimp only at this; omega⟩
      · rw [m_blocking_spread_l3]
        simp only [ct_lt hlt, if_true, idx_at hlt, Option.bind_some, hs]
        rw [idx_at (by simpa using hsn), Option.bind_some, List.getElem_map, List.getElem_range, h1, Option.bind_some, nxt (by omega)]
      · rw [hdr, ho2, ← hR, List.drop_eq_getElem_cons hlt, bwd, hs, Int.toNat_natCast]
    · have hi' : i = q.length := by omega
      refine .inr ⟨ds, ?_, ?_⟩
      · subst hi'
        rw [m_blocking_spread_l3]
        simp
      · obtain ⟨f, rfl⟩ : ∃ f', f = f' + 1 := ⟨f - 1, by omega⟩
        rw [← hR, hi', List.drop_length, bwd]
  · rintro st ⟨ds, q, f, rfl, hi, hB, hm, hR, hf⟩
    have hi' : 2 * negs ds0 + q0.length = q.length := by omega
    refine ⟨ds, ?_, ?_⟩
    · rw [m_blocking_spread_l3, hi']
      simp
    · obtain ⟨f, rfl⟩ : ∃ f', f = f' + 1 := ⟨f - 1, by omega⟩
      rw [← hR, hi', List.drop_length, bwd]
end Go.Proofs.YtfbapajcheammaaDoor

namespace Go.Proofs.YtfbapajcheammaaDoor
open Go Go.RowKit
theorem clone_eq {xs : List Int} (h : xs.length ≤ 4294967296) : m_slices_Clone_int xs = some xs := by
  rw [m_slices_Clone_int, app_eq (by simpa using h)]; rfl
theorem spread_eq {a : List Int} {n : Nat} {m : List Int} {es : List (Int × Int × Int)} {tg : List Int} (hn : n ≤ 1000000) (hl : es.length ≤ 1000000) (ht : tg.length ≤ 1000000) (hin : ∀ x ∈ es, 0 ≤ x.1 ∧ x.1 < (n : Int) ∧ 0 ≤ x.2.2 ∧ x.2.2 < (n : Int)) (hr : ∀ s ∈ tg, 0 ≤ s ∧ s < (n : Int)) :
    m_blocking_spread (a, (n : Int), m, es) tg = some (backward n (es.map toEd) tg) := by
  have hm : mkL (n : Int) (0 : Int) = some (List.replicate n 0) := by unfold mkL; rw [if_pos ⟨by omega, by omega⟩, Int.toNat_natCast]
  have hi : m_blocking_into (a, (n : Int), m, es) = some ((List.range n).map (inL (es.map toEd))) := by
    unfold m_blocking_into
    rw [if_pos ⟨hl, by dsimp only; omega, by dsimp only; omega, List.all_eq_true.2 fun x hx => by have := hin x hx; simp; omega⟩]
    simp
  have hB := BOk.start n tg hn hr
  have hq := spread_queue (n := n) (es := es.map toEd) (ds0 := bStart n tg) (q0 := tg) (fun x hx => by
    obtain ⟨y, hy, rfl⟩ := List.mem_map.1 hx
    exact hin y hy) (by simpa using hl) hB (by have := negs_le (bStart n tg); rw [bStart_length] at this; omega)
  simp only [m_blocking_spread, hi, Option.bind_some, hm, spread_fill hn, clone_eq (show tg.length ≤ 4294967296 by omega), spread_starts ht hr, hq, backward]
end Go.Proofs.YtfbapajcheammaaDoor

namespace Go.Proofs.YtfbapajcheammaaDoor
open Go Go.RowKit
/-- What blocking.Shortest computes. -/
noncomputable def m_blocking_Shortest (p0 : List Int × Int × List Int × (List (Int × Int × Int))) (p1 : Int) : Option (List Int × Bool × Int) :=
  (m_automaton_Check p0).bind fun r8 =>
  if (r8 != 0) then
    some (([] : List Int), false, r8)
  else
    if ((decide (p1 < 0)) || (decide (p1 ≥ p0.2.1))) then
      some (([] : List Int), false, 2)
    else
      (m_blocking_path p0 p1 p0.2.2.1).bind fun r12 =>
      some (r12.1, r12.2, 0)
set_option maxRecDepth 100000 in
set_option maxHeartbeats 8000000 in
theorem m_blocking_Shortest_c {s : Sig} {p0 : List Int × Int × List Int × (List (Int × Int × Int))} {p1 : Int} {a1 : Option Addr} {c1 : Nat} {a2 : Option Addr} {c2 : Nat} {a3 : Option Addr} {c3 : Nat} {r : List Int × Bool × Int} (h1 : RdL (rK .i64) s a1 c1 p0.1) (h2 : RdL (rK .i64) s a2 c2 p0.2.2.1) (h3 : RdL (rP (rK .i64) (rP (rK .i64) (rK .i64))) s a3 c3 p0.2.2.2) (hm : m_blocking_Shortest p0 p1 = some r) :
    Calls Tryd.prog 21 #[.agg #[.slice a1 p0.1.length c1, .int .i64 p0.2.1, .slice a2 p0.2.2.1.length c2, .slice a3 p0.2.2.2.length c3], .int .i64 p1] s.w (RetS No s fun v s' => ∃ (a4 : Option Addr) (c4 : Nat), v = .tuple #[.slice a4 r.1.length c4, .bool r.2.1, .int .i64 r.2.2] ∧ RdL (rK .i64) s' a4 c4 r.1) := by
 unfold m_blocking_Shortest at hm
 obtain ⟨N, hN, hNb⟩ := s.fresh
 have m0 : Mv (Up N No) s s := Mv.refl _ _
 refine E.entry Tryd.func21 rfl Tryd.ntmps21 rfl rfl (E.seq (E.reg (L.box (N + 0) Wt.no rfl rfl rfl fun b5 s6 m7 bx5 => ?_)))
 replace m0 := m0.trans m7.no
 replace h1 := h1.mono (m7.le no_No)
 replace h2 := h2.mono (m7.le no_No)
 replace h3 := h3.mono (m7.le no_No)
 refine L.as Wt.no rfl rfl (L.as Wt.no rfl rfl (L.as Wt.no rfl rfl (L.nil (X.seqN (E.seq (E.seq (E.reg (L.lg (j := 0) (cs := [.slice a1 p0.1.length c1, .int .i64 p0.2.1, .slice a2 p0.2.2.1.length c2, .slice a3 p0.2.2.2.length c3]) bx5.mem ag34 Wt.no rfl rfl rfl rfl rfl ?_))))))))
 obtain ⟨r8, er8, hm⟩ := bindS hm
 refine L.ca cf39 rfl rfl Wt.no rfl (m_automaton_Check_c (s := s6) (p0 := p0) h1 h2 h3 er8) rfl ?_
 rintro _ s9 m10 rfl
 replace m0 := m0.trans m10.no
 replace bx5 := bx5.mv m10 no_No
 replace h1 := h1.mono (m10.le no_No)
 replace h2 := h2.mono (m10.le no_No)
 replace h3 := h3.mono (m10.le no_No)
 refine L.as Wt.no rfl rfl (L.nil (X.seqN (E.seq (E.reg (L.mv Wt.no rfl rfl (L.bi Wt.no rfl rfl rfl rfl (L.nil (X.seqN ?_))))))))
 rcases ifS hm with ⟨hc, hm⟩ | ⟨hc, hm⟩
 ·refine E.cT rfl hc (E.seq (E.reg (L.mv Wt.no rfl rfl (L.as Wt.no rfl rfl (L.as Wt.no rfl rfl (L.as Wt.no rfl rfl (L.nil (X.seqN (E.ret (X.seqR ?_))))))))))
  obtain rfl := Option.some.inj hm
  exact X.rt (.inl rfl) Tryd.results21 (Rs.tmp rfl (Rs.tmp rfl (Rs.tmp rfl Rs.nil))) rfl ⟨_, (s9).ren N (fun _ => 0), rfl, rfl, m0.ren hNb, ⟨none, 0, rfl, RdL.nil⟩⟩
 refine E.cF rfl hc (E.skip (X.seqN (E.seq (E.seq (E.reg (L.mv Wt.no rfl rfl (L.bi Wt.no rfl rfl rfl rfl (L.mv Wt.no rfl rfl (L.cut 5 (fun e w => ∃ (v11 : Bool), ((decide (p1 < 0)) || (decide (p1 ≥ p0.2.1))) = v11 ∧ e = (20, .bool v11) :: [(2, .pointer (some ⟨b5, 0, none⟩)), (1, .int .i64 p1)] ∧ w = s9.w) ?_ ?_)))))))))
 ·rintro _ _ ⟨v11, rfl, rfl, rfl⟩
  refine L.nil (X.seqN ?_)
  rcases ifS hm with ⟨hc, hm⟩ | ⟨hc, hm⟩
  ·refine E.cT rfl hc (E.seq (E.reg (L.as Wt.no rfl rfl (L.as Wt.no rfl rfl (L.as Wt.no rfl rfl (L.nil (X.seqN (E.ret (X.seqR ?_)))))))))
   obtain rfl := Option.some.inj hm
   exact X.rt (.inl rfl) Tryd.results21 (Rs.tmp rfl (Rs.tmp rfl (Rs.tmp rfl Rs.nil))) rfl ⟨_, (s9).ren N (fun _ => 0), rfl, rfl, m0.ren hNb, ⟨none, 0, rfl, RdL.nil⟩⟩
  refine E.cF rfl hc (E.skip (X.seqN (E.seq (E.reg (L.lg (j := 0) (cs := [.slice a1 p0.1.length c1, .int .i64 p0.2.1, .slice a2 p0.2.2.1.length c2, .slice a3 p0.2.2.2.length c3]) bx5.mem ag34 Wt.no rfl rfl rfl rfl rfl (L.mv Wt.no rfl rfl (L.fa fa34_2 Wt.no rfl rfl (L.ld (j := 2) bx5.mem nag31 Wt.no rfl rfl rfl rfl ?_))))))))
  obtain ⟨r12, er12, hm⟩ := bindS hm
  refine L.ca cf33 rfl rfl Wt.no rfl (m_blocking_path_c (s := s9) (p0 := p0) (p1 := p1) (p2 := p0.2.2.1) h1 h2 h3 h2 er12) rfl ?_
  rintro _ s13 m14 ⟨a15, c15, rfl, h15⟩
  replace m0 := m0.trans m14.no
  refine L.mv Wt.no rfl rfl (L.ex Wt.no rfl rfl rfl (L.ex Wt.no rfl rfl rfl (L.as Wt.no rfl rfl (L.as Wt.no rfl rfl (L.nil (X.seqN (E.seq (E.reg (L.mv Wt.no rfl rfl (L.mv Wt.no rfl rfl (L.as Wt.no rfl rfl (L.as Wt.no rfl rfl (L.as Wt.no rfl rfl (L.nil (X.seqN (E.ret ?_))))))))))))))))
  obtain rfl := Option.some.inj hm
  exact X.rt (.inl rfl) Tryd.results21 (Rs.tmp rfl (Rs.tmp rfl (Rs.tmp rfl Rs.nil))) rfl ⟨_, (s13).ren N (fun _ => 0), rfl, rfl, m0.ren hNb, ⟨a15, c15, rfl, (h15.ren hN)⟩⟩
 intro J16
 rcases Bool.eq_false_or_eq_true (decide (p1 < 0)) with hc | hc
 ·exact L.know (d := 15) rfl hc (L.skip rfl rfl rfl rfl (L.skip rfl rfl rfl rfl (L.skip rfl rfl rfl rfl (L.skip rfl rfl rfl rfl (L.pkT Wt.no rfl rfl rfl rfl (L.sb (J16 _ _ ⟨true, (orT hc).symm, rfl, rfl⟩) rfl))))))
 exact L.know (d := 15) rfl hc (L.mv (Wt.mk rfl rfl) rfl rfl (L.fa fa34_1 (Wt.mk rfl rfl) rfl rfl (L.ld (j := 1) bx5.mem nag3 (Wt.mk rfl rfl) rfl rfl rfl rfl (L.bi (Wt.mk rfl rfl) rfl rfl rfl rfl (L.pkF Wt.no rfl rfl rfl rfl (L.sb (J16 _ _ ⟨(decide (p1 ≥ p0.2.1)), (orF hc).symm, rfl, rfl⟩) rfl))))))

noncomputable def m_blocking_Escape_j1 (st35 : Int × List Int) (l46 : List Int) : Option ((Int × List Int) ⊕ (List Int)) :=
  some (.inl (W (st35.1 + 1), l46))
noncomputable def m_blocking_Escape_l1 (p1 : Int) (r12 : List Int) (st35 : Int × List Int) : Option ((Int × List Int) ⊕ (List Int)) :=
  if decide (st35.1 < (r12.length : Int)) then
    (idx r12 st35.1).bind fun x50 =>
    if (x50 == p1) then
      (app st35.2 ([st35.1] : List Int)).bind fun x55 =>
      m_blocking_Escape_j1 st35 x55
    else
      m_blocking_Escape_j1 st35 st35.2
  else
    some (.inr st35.2)
/-- What blocking.Escape computes. -/
noncomputable def m_blocking_Escape (p0 : List Int × Int × List Int × (List (Int × Int × Int))) (p1 : Int) : Option (List Int × Bool × Int) :=
  (m_automaton_Check p0).bind fun r8 =>
  if (r8 != 0) then
    some (([] : List Int), false, r8)
  else
    if ((decide (p1 < 1)) || (decide (p1 > 5))) then
      some (([] : List Int), false, 11)
    else
      (m_blocking_kinds p0).bind fun r12 =>
      (iter (m_blocking_Escape_l1 p1 r12) (0, ([] : List Int))).bind fun o35 =>
      (m_blocking_path p0 0 o35).bind fun r41 =>
      some (r41.1, r41.2, 0)
set_option maxRecDepth 100000 in
set_option maxHeartbeats 8000000 in
theorem m_blocking_Escape_c {s : Sig} {p0 : List Int × Int × List Int × (List (Int × Int × Int))} {p1 : Int} {a1 : Option Addr} {c1 : Nat} {a2 : Option Addr} {c2 : Nat} {a3 : Option Addr} {c3 : Nat} {r : List Int × Bool × Int} (h1 : RdL (rK .i64) s a1 c1 p0.1) (h2 : RdL (rK .i64) s a2 c2 p0.2.2.1) (h3 : RdL (rP (rK .i64) (rP (rK .i64) (rK .i64))) s a3 c3 p0.2.2.2) (hm : m_blocking_Escape p0 p1 = some r) :
    Calls Tryd.prog 22 #[.agg #[.slice a1 p0.1.length c1, .int .i64 p0.2.1, .slice a2 p0.2.2.1.length c2, .slice a3 p0.2.2.2.length c3], .int .i64 p1] s.w (RetS No s fun v s' => ∃ (a4 : Option Addr) (c4 : Nat), v = .tuple #[.slice a4 r.1.length c4, .bool r.2.1, .int .i64 r.2.2] ∧ RdL (rK .i64) s' a4 c4 r.1) := by
 unfold m_blocking_Escape at hm
 obtain ⟨N, hN, hNb⟩ := s.fresh
 have m0 : Mv (Up N No) s s := Mv.refl _ _
 refine E.entry Tryd.func22 rfl Tryd.ntmps22 rfl rfl (E.seq (E.reg (L.box (N + 0) Wt.no rfl rfl rfl fun b5 s6 m7 bx5 => ?_)))
 replace m0 := m0.trans m7.no
 replace h1 := h1.mono (m7.le no_No)
 replace h2 := h2.mono (m7.le no_No)
 replace h3 := h3.mono (m7.le no_No)
 refine L.as Wt.no rfl rfl (L.as Wt.no rfl rfl (L.as Wt.no rfl rfl (L.nil (X.seqN (E.seq (E.seq (E.reg (L.lg (j := 0) (cs := [.slice a1 p0.1.length c1, .int .i64 p0.2.1, .slice a2 p0.2.2.1.length c2, .slice a3 p0.2.2.2.length c3]) bx5.mem ag34 Wt.no rfl rfl rfl rfl rfl ?_))))))))
 obtain ⟨r8, er8, hm⟩ := bindS hm
 refine L.ca cf39 rfl rfl Wt.no rfl (m_automaton_Check_c (s := s6) (p0 := p0) h1 h2 h3 er8) rfl ?_
 rintro _ s9 m10 rfl
 replace m0 := m0.trans m10.no
 replace bx5 := bx5.mv m10 no_No
 replace h1 := h1.mono (m10.le no_No)
 replace h2 := h2.mono (m10.le no_No)
 replace h3 := h3.mono (m10.le no_No)
 refine L.as Wt.no rfl rfl (L.nil (X.seqN (E.seq (E.reg (L.mv Wt.no rfl rfl (L.bi Wt.no rfl rfl rfl rfl (L.nil (X.seqN ?_))))))))
 rcases ifS hm with ⟨hc, hm⟩ | ⟨hc, hm⟩
 ·refine E.cT rfl hc (E.seq (E.reg (L.mv Wt.no rfl rfl (L.as Wt.no rfl rfl (L.as Wt.no rfl rfl (L.as Wt.no rfl rfl (L.nil (X.seqN (E.ret (X.seqR ?_))))))))))
  obtain rfl := Option.some.inj hm
  exact X.rt (.inl rfl) Tryd.results22 (Rs.tmp rfl (Rs.tmp rfl (Rs.tmp rfl Rs.nil))) rfl ⟨_, (s9).ren N (fun _ => 0), rfl, rfl, m0.ren hNb, ⟨none, 0, rfl, RdL.nil⟩⟩
 refine E.cF rfl hc (E.skip (X.seqN (E.seq (E.seq (E.reg (L.mv Wt.no rfl rfl (L.bi Wt.no rfl rfl rfl rfl (L.mv Wt.no rfl rfl (L.cut 3 (fun e w => ∃ (v11 : Bool), ((decide (p1 < 1)) || (decide (p1 > 5))) = v11 ∧ e = (21, .bool v11) :: [(2, .pointer (some ⟨b5, 0, none⟩)), (1, .int .i64 p1)] ∧ w = s9.w) ?_ ?_)))))))))
 ·rintro _ _ ⟨v11, rfl, rfl, rfl⟩
  refine L.nil (X.seqN ?_)
  rcases ifS hm with ⟨hc, hm⟩ | ⟨hc, hm⟩
  ·refine E.cT rfl hc (E.seq (E.reg (L.as Wt.no rfl rfl (L.as Wt.no rfl rfl (L.as Wt.no rfl rfl (L.nil (X.seqN (E.ret (X.seqR ?_)))))))))
   obtain rfl := Option.some.inj hm
   exact X.rt (.inl rfl) Tryd.results22 (Rs.tmp rfl (Rs.tmp rfl (Rs.tmp rfl Rs.nil))) rfl ⟨_, (s9).ren N (fun _ => 0), rfl, rfl, m0.ren hNb, ⟨none, 0, rfl, RdL.nil⟩⟩
  refine E.cF rfl hc (E.skip (X.seqN (E.seq (E.reg (L.as Wt.no rfl rfl (L.nil (X.seqN (E.seq (E.seq (E.reg (L.lg (j := 0) (cs := [.slice a1 p0.1.length c1, .int .i64 p0.2.1, .slice a2 p0.2.2.1.length c2, .slice a3 p0.2.2.2.length c3]) bx5.mem ag34 Wt.no rfl rfl rfl rfl rfl ?_)))))))))))
  obtain ⟨r12, er12, hm⟩ := bindS hm
  refine L.ca cf40 rfl rfl Wt.no rfl (m_blocking_kinds_c (s := s9) (p0 := p0) (u0 := 0) h1 h2 h3 er12) rfl ?_
  rintro _ s13 m14 ⟨a15, c15, rfl, h15⟩
  replace h15 := h15.p
  replace m0 := m0.trans m14.no
  replace bx5 := bx5.mv m14 no_No
  replace h1 := h1.mono (m14.le no_No)
  replace h2 := h2.mono (m14.le no_No)
  replace h3 := h3.mono (m14.le no_No)
  refine L.len sl31 Wt.no rfl rfl (L.mv Wt.no rfl rfl (L.nil (X.seqN (E.block ?_))))
  obtain ⟨o35, eo35, hm⟩ := bindS hm
  refine E.cut (x := .exit 0) (fun e w => ∃ (s39 : Sig) (a37 : Option Addr) (c37 : Nat), Mv (Up N No) s s39 ∧ RowT (rK .i64) s39 (N + 1) 3 a37 c37 o35 ∧ RdL (rK .i64) s39 a1 c1 p0.1 ∧ RdL (rK .i64) s39 a2 c2 p0.2.2.1 ∧ RdL (rP (rK .i64) (rP (rK .i64) (rK .i64))) s39 a3 c3 p0.2.2.2 ∧ Bx s39 (N + 0) b5 #[.slice a1 p0.1.length c1, .int .i64 p0.2.1, .slice a2 p0.2.2.1.length c2, .slice a3 p0.2.2.2.length c3] 34 ∧ e = [(8, .slice a37 o35.length c37), (2, .pointer (some ⟨b5, 0, none⟩))] ∧ w = s39.w) ?_ ?_
  ·rintro _ _ ⟨s39, a37, c37, m0, h37, h1, h2, h3, bx5, rfl, rfl⟩
   refine X.blkE (X.seqN (E.seq (E.reg (L.lg (j := 0) (cs := [.slice a1 p0.1.length c1, .int .i64 p0.2.1, .slice a2 p0.2.2.1.length c2, .slice a3 p0.2.2.2.length c3]) bx5.mem ag34 Wt.no rfl rfl rfl rfl rfl (L.mv Wt.no rfl rfl ?_)))))
   have m40 := Sig.fz_mv (N + 1) s39
   replace h37 := h37.fz (tgn hN)
   replace m0 := m0.trans (m40.one up)
   replace h1 := h1.mono (m40.le (tg0 hN))
   replace h2 := h2.mono (m40.le (tg0 hN))
   replace h3 := h3.mono (m40.le (tg0 hN))
   refine L.toR (s' := (Sig.fz (N + 1) s39)) rfl ?_
   obtain ⟨r41, er41, hm⟩ := bindS hm
   refine L.ca cf33 rfl rfl Wt.no rfl (m_blocking_path_c (s := (Sig.fz (N + 1) s39)) (p0 := p0) (p1 := 0) (p2 := o35) h1 h2 h3 h37 er41) rfl ?_
   rintro _ s42 m43 ⟨a44, c44, rfl, h44⟩
   replace m0 := m0.trans m43.no
   refine L.mv Wt.no rfl rfl (L.ex Wt.no rfl rfl rfl (L.ex Wt.no rfl rfl rfl (L.as Wt.no rfl rfl (L.as Wt.no rfl rfl (L.nil (X.seqN (E.seq (E.reg (L.mv Wt.no rfl rfl (L.mv Wt.no rfl rfl (L.as Wt.no rfl rfl (L.as Wt.no rfl rfl (L.as Wt.no rfl rfl (L.nil (X.seqN (E.ret ?_))))))))))))))))
   obtain rfl := Option.some.inj hm
   exact X.rt (.inl rfl) Tryd.results22 (Rs.tmp rfl (Rs.tmp rfl (Rs.tmp rfl Rs.nil))) rfl ⟨_, (s42).ren N (fun _ => 0), rfl, rfl, m0.ren hNb, ⟨a44, c44, rfl, (h44.ren hN)⟩⟩
  intro K45
  refine E.iter (fun (st35 : Int × List Int) (e : List (Nat × Value)) (w : World) => ∃ (s38 : Sig) (a18 : Option Addr) (c18 : Nat), Mv (Up N No) s s38 ∧ RdL (rK .i64) s38 a15 c15 r12 ∧ RowT (rK .i64) s38 (N + 1) 3 a18 c18 st35.2 ∧ RdL (rK .i64) s38 a1 c1 p0.1 ∧ RdL (rK .i64) s38 a2 c2 p0.2.2.1 ∧ RdL (rP (rK .i64) (rP (rK .i64) (rK .i64))) s38 a3 c3 p0.2.2.2 ∧ Bx s38 (N + 0) b5 #[.slice a1 p0.1.length c1, .int .i64 p0.2.1, .slice a2 p0.2.2.1.length c2, .slice a3 p0.2.2.2.length c3] 34 ∧ e = [(25, .int .i64 st35.1), (24, .int .i64 (r12.length : Int)), (23, .slice a15 r12.length c15), (8, .slice a18 st35.2.length c18), (2, .pointer (some ⟨b5, 0, none⟩)), (1, .int .i64 p1)] ∧ w = s38.w) eo35 ⟨s13, none, 0, m0, h15, RowT.nil, h1, h2, h3, bx5, rfl, rfl⟩ (Sub.rf rfl) ?_
  rintro st35 res35 hm ih35 ho35 _ _ ⟨s38, a18, c18, m0, h15, h18, h1, h2, h3, bx5, rfl, rfl⟩
  unfold m_blocking_Escape_l1 at hm
  refine E.seq (E.reg (L.bi Wt.no rfl rfl rfl rfl (L.nil (X.seqN (E.seq ?_)))))
  rcases ifS hm with ⟨hc, hm⟩ | ⟨hc, hm⟩
  ·refine E.cT rfl hc (E.skip (X.seqN (E.seqJ (fun e w => ∃ (s48 : Sig) (l46 : List Int) (a47 : Option Addr) (c47 : Nat), m_blocking_Escape_j1 st35 l46 = some res35 ∧ Mv (Up N No) s s48 ∧ RowT (rK .i64) s48 (N + 1) 3 a47 c47 l46 ∧ RdL (rK .i64) s48 a15 c15 r12 ∧ RdL (rK .i64) s48 a1 c1 p0.1 ∧ RdL (rK .i64) s48 a2 c2 p0.2.2.1 ∧ RdL (rP (rK .i64) (rP (rK .i64) (rK .i64))) s48 a3 c3 p0.2.2.2 ∧ Bx s48 (N + 0) b5 #[.slice a1 p0.1.length c1, .int .i64 p0.2.1, .slice a2 p0.2.2.1.length c2, .slice a3 p0.2.2.2.length c3] 34 ∧ e = [(8, .slice a47 l46.length c47), (25, .int .i64 st35.1), (24, .int .i64 (r12.length : Int)), (23, .slice a15 r12.length c15), (2, .pointer (some ⟨b5, 0, none⟩)), (1, .int .i64 p1)] ∧ w = s48.w) ?_ ?_)))
   ·rintro _ _ ⟨s48, l46, a47, c47, hm, m0, h47, h15, h1, h2, h3, bx5, rfl, rfl⟩
    unfold m_blocking_Escape_j1 at hm
    exact E.reg (L.bi Wt.no rfl rfl rfl rfl (L.mv Wt.no rfl rfl (L.nil (X.sub (ih35 _ (Option.some.inj hm).symm _ _ ⟨s48, a47, c47, m0, h15, h47, h1, h2, h3, bx5, rfl, rfl⟩) (Sub.rf rfl)))))
   intro Jj49
   refine E.block (E.seq (E.reg (L.mv Wt.no rfl rfl ?_)))
   obtain ⟨x50, ex50, hm⟩ := bindS hm
   refine L.ix (r := (rK .i64)) sl31 h15 Wt.no rfl rfl ex50 rfl fun b51 o51 cc51 me51 rd51 => ?_
   obtain rfl := rd51
   refine L.ld (j := 0) me51 nag3 Wt.no rfl rfl rfl rfl (L.as Wt.no rfl rfl (L.as Wt.no rfl rfl (L.nil (X.seqN (E.seq (E.reg (L.mv Wt.no rfl rfl (L.mv Wt.no rfl rfl (L.bi Wt.no rfl rfl rfl rfl (L.nil (X.seqN ?_)))))))))))
   rcases ifS hm with ⟨hc, hm⟩ | ⟨hc, hm⟩
   ·refine E.cT rfl hc (E.reg (L.mv Wt.no rfl rfl (L.mv Wt.no rfl rfl (L.bsE (k := 1) (cs := [.int .i64 st35.1]) 0 bs31 (Nat.le_of_ble_eq_true rfl) Wt.no rfl rfl rfl rfl fun b52 s53 m54 bx52 => ?_))))
    replace m0 := m0.trans m54.no
    replace h18 := h18.mv m54 no_No no_No
    replace h15 := h15.mono (m54.le no_No)
    replace bx5 := bx5.mv m54 no_No
    replace h1 := h1.mono (m54.le no_No)
    replace h2 := h2.mono (m54.le no_No)
    replace h3 := h3.mono (m54.le no_No)
    have h52 := Bx.rdL (r := (rK .i64)) (xs := ([st35.1] : List Int)) bx52 ⟨[.int .i64 st35.1], _, rfl, rfl, rfl⟩ (Nat.le_of_ble_eq_true rfl)
    obtain ⟨x55, ex55, hm⟩ := bindS hm
    refine L.ap (r := (rK .i64)) Tryd.underlying31 el3 rfl (tgp hN) h18 h52.wk Wt.no rfl rfl ex55 rfl fun a56 c56 s57 m58 h56 => ?_
    replace m0 := m0.trans (m58.one up)
    replace h15 := h15.mono (m58.le (tg0 hN))
    replace bx5 := bx5.mv m58 (tgN (by decide))
    replace h1 := h1.mono (m58.le (tg0 hN))
    replace h2 := h2.mono (m58.le (tg0 hN))
    replace h3 := h3.mono (m58.le (tg0 hN))
    exact L.as Wt.no rfl rfl (L.nil (X.blkN (X.sub (Jj49 _ _ ⟨s57, x55, a56, c56, hm, m0, h56, h15, h1, h2, h3, bx5, rfl, rfl⟩) (Sub.rf rfl))))
   exact E.cF rfl hc (E.skip (X.blkN (X.sub (Jj49 _ _ ⟨s38, st35.2, a18, c18, hm, m0, h18, h15, h1, h2, h3, bx5, rfl, rfl⟩) (Sub.rf rfl))))
  refine E.cF rfl hc (E.exit (X.seqX (X.seqX ?_)))
  have hx := ho35 _ (Option.some.inj hm).symm
  subst hx
  exact X.sub (K45 _ _ ⟨s38, a18, c18, m0, h18, h1, h2, h3, bx5, rfl, rfl⟩) (Sub.rf rfl)
 intro J59
 rcases Bool.eq_false_or_eq_true (decide (p1 < 1)) with hc | hc
 ·exact L.know (d := 18) rfl hc (L.skip rfl rfl rfl rfl (L.skip rfl rfl rfl rfl (L.pkT Wt.no rfl rfl rfl rfl (L.sb (J59 _ _ ⟨true, (orT hc).symm, rfl, rfl⟩) rfl))))
 exact L.know (d := 18) rfl hc (L.mv (Wt.mk rfl rfl) rfl rfl (L.bi (Wt.mk rfl rfl) rfl rfl rfl rfl (L.pkF Wt.no rfl rfl rfl rfl (L.sb (J59 _ _ ⟨(decide (p1 > 5)), (orF hc).symm, rfl, rfl⟩) rfl))))

theorem cf21 : Cf Tryd.prog 21 := Cf.mk Tryd.func21 (by kernel_rfl) (by kernel_rfl)
theorem cf22 : Cf Tryd.prog 22 := Cf.mk Tryd.func22 (by kernel_rfl) (by kernel_rfl)
/-- What overseerlaw24.BlockingEscapes computes. -/
noncomputable def m_overseerlaw24_BlockingEscapes (p0 : Int × Int × ((Int × Int × Int × Int) × (Int × Int × Int × Int) × (Int × Int × Int × Int) × (Int × Int × Int × Int) × (Int × Int × Int × Int) × (Int × Int × Int × Int))) (p1 : Int) (p2 : Int) : Option Bool :=
  (m_overseerlaw24_Known).bind fun r4 =>
  if (!r4) then
    some false
  else
    (m_overseerlaw04_Make p0).bind fun r7 =>
    (nz r7.2.1).bind fun _ =>
    (m_blocking_Shortest r7 ((W p1).tmod r7.2.1)).bind fun r19 =>
    (m_blocking_Escape r7 (W (1 + (W (p2.tmod 5))))).bind fun r23 =>
    (m_overseerlaw24_least r7 ((W p1).tmod r7.2.1) r7.2.2.1).bind fun r27 =>
    (m_overseerlaw24_kinds r7).bind fun r34 =>
    (m_overseerlaw24_chosen r34 (W (1 + (W (p2.tmod 5)))) (W (1 + (W (p2.tmod 5))))).bind fun r41 =>
    (m_overseerlaw24_least r7 0 r41).bind fun r46 =>
    (if (((r19.2.2 == 0) && (r23.2.2 == 0)) && (r19.2.1 == r27.2)) then
      (m_overseerlaw24_same r19.1 r27.1).bind fun r71 =>
      some r71
    else
      some false).bind fun b58 =>
    (if (b58 && (r23.2.1 == r46.2)) then
      (m_overseerlaw24_same r23.1 r46.1).bind fun r66 =>
      some r66
    else
      some false).bind fun b62 =>
    some b62
set_option maxRecDepth 100000 in
set_option maxHeartbeats 8000000 in
theorem m_overseerlaw24_BlockingEscapes_c {s : Sig} {p0 : Int × Int × ((Int × Int × Int × Int) × (Int × Int × Int × Int) × (Int × Int × Int × Int) × (Int × Int × Int × Int) × (Int × Int × Int × Int) × (Int × Int × Int × Int))} {p1 : Int} {p2 : Int} {r : Bool} (hm : m_overseerlaw24_BlockingEscapes p0 p1 p2 = some r) :
    Calls Tryd.prog 6 #[.agg #[.int .u8 p0.1, .int .u8 p0.2.1, .int .u8 p0.2.2.1.1, .int .u8 p0.2.2.1.2.1, .int .u8 p0.2.2.1.2.2.1, .int .u8 p0.2.2.1.2.2.2, .int .u8 p0.2.2.2.1.1, .int .u8 p0.2.2.2.1.2.1, .int .u8 p0.2.2.2.1.2.2.1, .int .u8 p0.2.2.2.1.2.2.2, .int .u8 p0.2.2.2.2.1.1, .int .u8 p0.2.2.2.2.1.2.1, .int .u8 p0.2.2.2.2.1.2.2.1, .int .u8 p0.2.2.2.2.1.2.2.2, .int .u8 p0.2.2.2.2.2.1.1, .int .u8 p0.2.2.2.2.2.1.2.1, .int .u8 p0.2.2.2.2.2.1.2.2.1, .int .u8 p0.2.2.2.2.2.1.2.2.2, .int .u8 p0.2.2.2.2.2.2.1.1, .int .u8 p0.2.2.2.2.2.2.1.2.1, .int .u8 p0.2.2.2.2.2.2.1.2.2.1, .int .u8 p0.2.2.2.2.2.2.1.2.2.2, .int .u8 p0.2.2.2.2.2.2.2.1, .int .u8 p0.2.2.2.2.2.2.2.2.1, .int .u8 p0.2.2.2.2.2.2.2.2.2.1, .int .u8 p0.2.2.2.2.2.2.2.2.2.2], .int .u8 p1, .int .u8 p2] s.w (RetS No s fun v s' => v = .bool r) := by
 unfold m_overseerlaw24_BlockingEscapes at hm
 obtain ⟨N, hN, hNb⟩ := s.fresh
 have m0 : Mv (Up N No) s s := Mv.refl _ _
 refine E.entry Tryd.func6 rfl Tryd.ntmps6 rfl rfl (E.seq (E.reg (L.box (N + 0) Wt.no rfl rfl rfl fun b1 s2 m3 bx1 => ?_)))
 replace m0 := m0.trans m3.no
 refine L.as Wt.no rfl rfl (L.nil (X.seqN (E.seq (E.seq (E.reg ?_)))))
 obtain ⟨r4, er4, hm⟩ := bindS hm
 refine L.ca cf8 rfl rfl Wt.no rfl (m_overseerlaw24_Known_c (s := s2) er4) rfl ?_
 rintro _ s5 m6 rfl
 replace m0 := m0.trans m6.no
 replace bx1 := bx1.mv m6 no_No
 refine L.not Wt.no rfl rfl (L.nil (X.seqN ?_))
 rcases ifS hm with ⟨hc, hm⟩ | ⟨hc, hm⟩
 ·refine E.cT rfl hc (E.seq (E.reg (L.as Wt.no rfl rfl (L.nil (X.seqN (E.ret (X.seqR ?_)))))))
  obtain rfl := Option.some.inj hm
  exact X.rt (.inl rfl) Tryd.results6 (Rs.tmp rfl Rs.nil) rfl ⟨_, (s5).ren N (fun _ => 0), rfl, rfl, m0.ren hNb, rfl⟩
 refine E.cF rfl hc (E.skip (X.seqN (E.seq (E.reg (L.lg (j := 0) (cs := [.int .u8 p0.1, .int .u8 p0.2.1, .int .u8 p0.2.2.1.1, .int .u8 p0.2.2.1.2.1, .int .u8 p0.2.2.1.2.2.1, .int .u8 p0.2.2.1.2.2.2, .int .u8 p0.2.2.2.1.1, .int .u8 p0.2.2.2.1.2.1, .int .u8 p0.2.2.2.1.2.2.1, .int .u8 p0.2.2.2.1.2.2.2, .int .u8 p0.2.2.2.2.1.1, .int .u8 p0.2.2.2.2.1.2.1, .int .u8 p0.2.2.2.2.1.2.2.1, .int .u8 p0.2.2.2.2.1.2.2.2, .int .u8 p0.2.2.2.2.2.1.1, .int .u8 p0.2.2.2.2.2.1.2.1, .int .u8 p0.2.2.2.2.2.1.2.2.1, .int .u8 p0.2.2.2.2.2.1.2.2.2, .int .u8 p0.2.2.2.2.2.2.1.1, .int .u8 p0.2.2.2.2.2.2.1.2.1, .int .u8 p0.2.2.2.2.2.2.1.2.2.1, .int .u8 p0.2.2.2.2.2.2.1.2.2.2, .int .u8 p0.2.2.2.2.2.2.2.1, .int .u8 p0.2.2.2.2.2.2.2.2.1, .int .u8 p0.2.2.2.2.2.2.2.2.2.1, .int .u8 p0.2.2.2.2.2.2.2.2.2.2]) bx1.mem ag25 Wt.no rfl rfl rfl rfl rfl ?_)))))
 obtain ⟨r7, er7, hm⟩ := bindS hm
 refine L.ca cf16 rfl rfl Wt.no rfl (m_overseerlaw04_Make_c (s := s5) (p0 := p0) (u1 := 0) (u2 := 0) er7) rfl ?_
 rintro _ s8 m9 ⟨a10, c10, a11, c11, a12, c12, rfl, h10, h11, h12⟩
 replace h11 := h11.p
 replace h12 := h12.p
 replace m0 := m0.trans m9.no
 refine L.al (N + 1) zz34 rfl Wt.no rfl fun b13 s14 m15 bx13 => ?_
 replace m0 := m0.trans m15.no
 replace h10 := h10.mono (m15.le no_No)
 replace h11 := h11.mono (m15.le no_No)
 replace h12 := h12.mono (m15.le no_No)
 refine L.st (c := [.slice a10 r7.1.length c10, .int .i64 r7.2.1, .slice a11 r7.2.2.1.length c11, .slice a12 r7.2.2.2.length c12]) (cs' := #[.slice a10 r7.1.length c10, .int .i64 r7.2.1, .slice a11 r7.2.2.1.length c11, .slice a12 r7.2.2.2.length c12]) bx13 ag34.sz Wt.no rfl rfl rfl rfl rfl (Nat.le_of_ble_eq_true rfl) rfl fun s16 m17 bx13 => ?_
 replace m0 := m0.trans (m17.one up)
 replace h10 := h10.mono (m17.le (tg0 hN))
 replace h11 := h11.mono (m17.le (tg0 hN))
 replace h12 := h12.mono (m17.le (tg0 hN))
 refine L.nil (X.seqN (E.seq (E.reg (L.mv Wt.no rfl rfl (L.cv Tryd.underlying5 Tryd.underlying3 Wt.no rfl rfl (L.fa fa34_1 Wt.no rfl rfl (L.ld (j := 1) bx13.mem nag3 Wt.no rfl rfl rfl rfl ?_)))))))
 obtain ⟨_, z18, hm⟩ := bindS hm
 refine L.rem Wt.no rfl rfl (nz_some z18) rfl (L.mv Wt.no rfl rfl (L.rem Wt.no rfl rfl (by decide) rfl (L.cv Tryd.underlying5 Tryd.underlying3 Wt.no rfl rfl (L.bi Wt.no rfl rfl rfl rfl (L.as Wt.no rfl rfl (L.as Wt.no rfl rfl (L.nil (X.seqN (E.seq (E.reg (L.lg (j := 0) (cs := [.slice a10 r7.1.length c10, .int .i64 r7.2.1, .slice a11 r7.2.2.1.length c11, .slice a12 r7.2.2.2.length c12]) bx13.mem ag34 Wt.no rfl rfl rfl rfl rfl (L.mv Wt.no rfl rfl ?_))))))))))))
 obtain ⟨r19, er19, hm⟩ := bindS hm
 refine L.ca cf21 rfl rfl Wt.no rfl (m_blocking_Shortest_c (s := s16) (p0 := r7) (p1 := ((W p1).tmod r7.2.1)) h10 h11 h12 er19) rfl ?_
 rintro _ s20 m21 ⟨a22, c22, rfl, h22⟩
 replace m0 := m0.trans m21.no
 replace bx13 := bx13.mv m21 no_No
 replace h10 := h10.mono (m21.le no_No)
 replace h11 := h11.mono (m21.le no_No)
 replace h12 := h12.mono (m21.le no_No)
 refine L.mv Wt.no rfl rfl (L.ex Wt.no rfl rfl rfl (L.ex Wt.no rfl rfl rfl (L.ex Wt.no rfl rfl rfl (L.as Wt.no rfl rfl (L.as Wt.no rfl rfl (L.as Wt.no rfl rfl (L.nil (X.seqN (E.seq (E.reg (L.lg (j := 0) (cs := [.slice a10 r7.1.length c10, .int .i64 r7.2.1, .slice a11 r7.2.2.1.length c11, .slice a12 r7.2.2.2.length c12]) bx13.mem ag34 Wt.no rfl rfl rfl rfl rfl (L.mv Wt.no rfl rfl ?_))))))))))))
 obtain ⟨r23, er23, hm⟩ := bindS hm
 refine L.ca cf22 rfl rfl Wt.no rfl (m_blocking_Escape_c (s := s20) (p0 := r7) (p1 := (W (1 + (W (p2.tmod 5))))) h10 h11 h12 er23) rfl ?_
 rintro _ s24 m25 ⟨a26, c26, rfl, h26⟩
 replace m0 := m0.trans m25.no
 replace h22 := h22.mono (m25.le no_No)
 replace bx13 := bx13.mv m25 no_No
 replace h10 := h10.mono (m25.le no_No)
 replace h11 := h11.mono (m25.le no_No)
 replace h12 := h12.mono (m25.le no_No)
 refine L.mv Wt.no rfl rfl (L.ex Wt.no rfl rfl rfl (L.ex Wt.no rfl rfl rfl (L.ex Wt.no rfl rfl rfl (L.as Wt.no rfl rfl (L.as Wt.no rfl rfl (L.as Wt.no rfl rfl (L.nil (X.seqN (E.seq (E.reg (L.lg (j := 0) (cs := [.slice a10 r7.1.length c10, .int .i64 r7.2.1, .slice a11 r7.2.2.1.length c11, .slice a12 r7.2.2.2.length c12]) bx13.mem ag34 Wt.no rfl rfl rfl rfl rfl (L.mv Wt.no rfl rfl (L.fa fa34_2 Wt.no rfl rfl (L.ld (j := 2) bx13.mem nag31 Wt.no rfl rfl rfl rfl ?_))))))))))))))
 obtain ⟨r27, er27, hm⟩ := bindS hm
 refine L.ca cf12 rfl rfl Wt.no rfl (m_overseerlaw24_least_c (s := s24) (p0 := r7) (p1 := ((W p1).tmod r7.2.1)) (p2 := r7.2.2.1) h10 h11 h12 h11 er27) rfl ?_
 rintro _ s28 m29 ⟨a30, c30, rfl, h30⟩
 replace m0 := m0.trans m29.no
 replace h22 := h22.mono (m29.le no_No)
 replace h26 := h26.mono (m29.le no_No)
 replace bx13 := bx13.mv m29 no_No
 replace h10 := h10.mono (m29.le no_No)
 replace h11 := h11.mono (m29.le no_No)
 replace h12 := h12.mono (m29.le no_No)
 refine L.mv Wt.no rfl rfl (L.ex Wt.no rfl rfl rfl (L.ex Wt.no rfl rfl rfl (L.as Wt.no rfl rfl (L.as Wt.no rfl rfl (L.nil (X.seqN (E.seq ?_)))))))
 obtain ⟨r34, er34, hm⟩ := bindS hm
 obtain ⟨r41, er41, hm⟩ := bindS hm
 obtain ⟨r46, er46, hm⟩ := bindS hm
 refine E.draw [[], [], [1], [], [], [1, 2, 3, 4], [0, 1, 2, 3, 4, 5], [0, 1, 2, 3, 4, 5, 6], [0, 1, 2, 3, 4, 5, 6, 7], [0, 1, 2, 3, 4, 5, 6, 7], [0, 1, 2, 3, 4, 5, 6, 7, 8], [0, 1, 2, 3, 4, 5, 6, 7, 8, 9, 10]] (fun D e sx => Mv No s28 sx ∧ Sub [(17, .bool r27.2), (16, .slice a30 r27.1.length c30), (15, .int .i64 r23.2.2), (14, .bool r23.2.1), (13, .slice a26 r23.1.length c26), (12, .int .i64 r19.2.2), (11, .bool r19.2.1), (10, .slice a22 r19.1.length c22), (9, .int .i64 (W (1 + (W (p2.tmod 5))))), (7, .pointer (some ⟨b13, 0, none⟩))] e ∧ AllP [D 0 = true → (Env.get e 56 = some (.agg #[.slice a10 r7.1.length c10, .int .i64 r7.2.1, .slice a11 r7.2.2.1.length c11, .slice a12 r7.2.2.2.length c12])), D 1 = true → (Env.get e 57 = some (.agg #[.slice a10 r7.1.length c10, .int .i64 r7.2.1, .slice a11 r7.2.2.1.length c11, .slice a12 r7.2.2.2.length c12])), D 2 = true → (∃ (a37 : Option Addr) (c37 : Nat), Env.get e 58 = some (.slice a37 r34.length c37) ∧ RdL (rK .i64) sx a37 c37 r34), D 3 = true → (Env.get e 59 = some (.int .i64 (W (1 + (W (p2.tmod 5)))))), D 4 = true → (Env.get e 60 = some (.int .i64 (W (1 + (W (p2.tmod 5)))))), D 5 = true → (∃ (a44 : Option Addr) (c44 : Nat), Env.get e 61 = some (.slice a44 r41.length c44) ∧ RdL (rK .i64) sx a44 c44 r41), D 6 = true → (∃ (a49 : Option Addr) (c49 : Nat), Env.get e 62 = some (.tuple #[.slice a49 r46.1.length c49, .bool r46.2]) ∧ RdL (rK .i64) sx a49 c49 r46.1), D 7 = true → ∀ (a49 : Option Addr) (c49 : Nat), Env.get e 62 = some (.tuple #[.slice a49 r46.1.length c49, .bool r46.2]) → (Env.get e 55 = some (.tuple #[.slice a49 r46.1.length c49, .bool r46.2])), D 8 = true → ∀ (a49 : Option Addr) (c49 : Nat), Env.get e 62 = some (.tuple #[.slice a49 r46.1.length c49, .bool r46.2]) → (Env.get e 63 = some (.slice a49 r46.1.length c49)), D 9 = true → (Env.get e 64 = some (.bool r46.2)), D 10 = true → ∀ (a49 : Option Addr) (c49 : Nat), Env.get e 62 = some (.tuple #[.slice a49 r46.1.length c49, .bool r46.2]) → (Env.get e 18 = some (.slice a49 r46.1.length c49)), D 11 = true → (Env.get e 19 = some (.bool r46.2))]) (by kernel_rfl) (by kernel_rfl) (by kernel_rfl) ?_ ?_ ?_
 ·intro sz mz
  exact ⟨mz, (Sub.rf rfl), nofun, nofun, nofun, nofun, nofun, nofun, nofun, nofun, nofun, nofun, nofun, nofun, trivial⟩
 ·refine ⟨?_, ?_, ?_, ?_, ?_, ?_, ?_, ?_, ?_, ?_, ?_, ?_, trivial⟩
  ·rintro D e s31 ⟨im, ib, i⟩ hk hf ha
   have bx13 := bx13.mv im no_No
   have kn : Kn e [(7, .pointer (some ⟨b13, 0, none⟩))] := ⟨(ib 7 _ rfl), trivial⟩
   exact L.kns _ kn (L.lg (j := 0) (cs := [.slice a10 r7.1.length c10, .int .i64 r7.2.1, .slice a11 r7.2.2.1.length c11, .slice a12 r7.2.2.2.length c12]) bx13.mem ag34 Wt.no rfl rfl rfl rfl rfl (L.nil (X.dk kn ⟨im, Sub.fresh ib rfl, i.u 0 (fun _ => rfl)⟩)))
  ·rintro D e s32 ⟨im, ib, i⟩ hk hf ha
   have bx13 := bx13.mv im no_No
   have kn : Kn e [(7, .pointer (some ⟨b13, 0, none⟩))] := ⟨(ib 7 _ rfl), trivial⟩
   exact L.kns _ kn (L.lg (j := 0) (cs := [.slice a10 r7.1.length c10, .int .i64 r7.2.1, .slice a11 r7.2.2.1.length c11, .slice a12 r7.2.2.2.length c12]) bx13.mem ag34 Wt.no rfl rfl rfl rfl rfl (L.nil (X.dk kn ⟨im, Sub.fresh ib rfl, i.u 1 (fun _ => rfl)⟩)))
  ·rintro D e s33 ⟨im, ib, i⟩ hk hf ha
   have h11 := h11.mono (im.le no_No)
   have h10 := h10.mono (im.le no_No)
   have h12 := h12.mono (im.le no_No)
   have kn : Kn e [(57, .agg #[.slice a10 r7.1.length c10, .int .i64 r7.2.1, .slice a11 r7.2.2.1.length c11, .slice a12 r7.2.2.2.length c12])] := ⟨((i.p 1) (ha.at 1 rfl)), trivial⟩
   refine L.kns _ kn (L.ca cf14 rfl rfl Wt.no rfl (m_overseerlaw24_kinds_c (s := s33) (p0 := r7) (u0 := 0) h10 h11 h12 er34) rfl ?_)
   rintro _ s35 m36 ⟨a37, c37, rfl, h37⟩
   replace h37 := h37.p
   exact L.nil (X.dk kn ⟨im.trans m36.no, Sub.fresh ib rfl, ((i.u 2 (fun _ => ⟨a37, c37, rfl, h37⟩)).u 5 (fun z => let ⟨a44, c44, q, h44⟩ := (i.p 5) z; ⟨a44, c44, q, (h44.mono (m36.le no_No))⟩)).u 6 (fun z => let ⟨a49, c49, q, h49⟩ := (i.p 6) z; ⟨a49, c49, q, (h49.mono (m36.le no_No))⟩)⟩)
  ·rintro D e s38 ⟨im, ib, i⟩ hk hf ha
   have kn : Kn e [(9, .int .i64 (W (1 + (W (p2.tmod 5)))))] := ⟨(ib 9 _ rfl), trivial⟩
   exact L.kns _ kn (L.mv Wt.no rfl rfl (L.nil (X.dk kn ⟨im, Sub.fresh ib rfl, i.u 3 (fun _ => rfl)⟩)))
  ·rintro D e s39 ⟨im, ib, i⟩ hk hf ha
   have kn : Kn e [(9, .int .i64 (W (1 + (W (p2.tmod 5)))))] := ⟨(ib 9 _ rfl), trivial⟩
   exact L.kns _ kn (L.mv Wt.no rfl rfl (L.nil (X.dk kn ⟨im, Sub.fresh ib rfl, i.u 4 (fun _ => rfl)⟩)))
  ·rintro D e s40 ⟨im, ib, i⟩ hk hf ha
   obtain ⟨a37, c37, g2_, h37⟩ := (i.p 2) (ha.at 2 rfl)
   have kn : Kn e [(58, .slice a37 r34.length c37), (59, .int .i64 (W (1 + (W (p2.tmod 5))))), (60, .int .i64 (W (1 + (W (p2.tmod 5)))))] := ⟨g2_, ((i.p 3) (ha.at 3 rfl)), ((i.p 4) (ha.at 4 rfl)), trivial⟩
   refine L.kns _ kn (L.ca cf13 rfl rfl Wt.no rfl (m_overseerlaw24_chosen_c (s := s40) (p0 := r34) (p1 := (W (1 + (W (p2.tmod 5))))) (p2 := (W (1 + (W (p2.tmod 5))))) (u0 := 0) h37 er41) rfl ?_)
   rintro _ s42 m43 ⟨a44, c44, rfl, h44⟩
   replace h44 := h44.p
   exact L.nil (X.dk kn ⟨im.trans m43.no, Sub.fresh ib rfl, ((i.u 2 (fun z => let ⟨a37, c37, q, h37⟩ := (i.p 2) z; ⟨a37, c37, q, (h37.mono (m43.le no_No))⟩)).u 5 (fun _ => ⟨a44, c44, rfl, h44⟩)).u 6 (fun z => let ⟨a49, c49, q, h49⟩ := (i.p 6) z; ⟨a49, c49, q, (h49.mono (m43.le no_No))⟩)⟩)
  ·rintro D e s45 ⟨im, ib, i⟩ hk hf ha
   obtain ⟨a44, c44, g5_, h44⟩ := (i.p 5) (ha.at 5 rfl)
   have h11 := h11.mono (im.le no_No)
   have h10 := h10.mono (im.le no_No)
   have h12 := h12.mono (im.le no_No)
   have kn : Kn e [(56, .agg #[.slice a10 r7.1.length c10, .int .i64 r7.2.1, .slice a11 r7.2.2.1.length c11, .slice a12 r7.2.2.2.length c12]), (61, .slice a44 r41.length c44)] := ⟨((i.p 0) (ha.at 0 rfl)), g5_, trivial⟩
   refine L.kns _ kn (L.ca cf12 rfl rfl Wt.no rfl (m_overseerlaw24_least_c (s := s45) (p0 := r7) (p1 := 0) (p2 := r41) h10 h11 h12 h44 er46) rfl ?_)
   rintro _ s47 m48 ⟨a49, c49, rfl, h49⟩
   exact L.nil (X.dk kn ⟨im.trans m48.no, Sub.fresh ib rfl, (((((i.u 2 (fun z => let ⟨a37, c37, q, h37⟩ := (i.p 2) z; ⟨a37, c37, q, (h37.mono (m48.le no_No))⟩)).u 5 (fun z => let ⟨a44, c44, q, h44⟩ := (i.p 5) z; ⟨a44, c44, q, (h44.mono (m48.le no_No))⟩)).u 6 (fun _ => ⟨a49, c49, rfl, h49⟩)).u 7 (fun z => Bool.noConfusion ((hf 7 (Nat.le_of_ble_eq_true rfl) rfl).symm.trans z))).u 8 (fun z => Bool.noConfusion ((hf 8 (Nat.le_of_ble_eq_true rfl) rfl).symm.trans z))).u 10 (fun z => Bool.noConfusion ((hf 10 (Nat.le_of_ble_eq_true rfl) rfl).symm.trans z))⟩)
  ·rintro D e s50 ⟨im, ib, i⟩ hk hf ha
   obtain ⟨a49, c49, g6_, h49⟩ := (i.p 6) (ha.at 6 rfl)
   have kn : Kn e [(62, .tuple #[.slice a49 r46.1.length c49, .bool r46.2])] := ⟨g6_, trivial⟩
   exact L.kns _ kn (L.mv Wt.no rfl rfl (L.nil (X.dk kn ⟨im, Sub.fresh ib rfl, i.u 7 (fun _ _ _ q6 => by cases g6_.symm.trans q6; exact rfl)⟩)))
  ·rintro D e s51 ⟨im, ib, i⟩ hk hf ha
   obtain ⟨a49, c49, g6_, h49⟩ := (i.p 6) (ha.at 6 rfl)
   have g7_ := (i.p 7) (ha.at 7 rfl) a49 c49 g6_
   have kn : Kn e [(55, .tuple #[.slice a49 r46.1.length c49, .bool r46.2])] := ⟨g7_, trivial⟩
   exact L.kns _ kn (L.ex Wt.no rfl rfl rfl (L.nil (X.dk kn ⟨im, Sub.fresh ib rfl, i.u 8 (fun _ _ _ q6 => by cases g6_.symm.trans q6; exact rfl)⟩)))
  ·rintro D e s52 ⟨im, ib, i⟩ hk hf ha
   obtain ⟨a49, c49, g6_, h49⟩ := (i.p 6) (ha.at 6 rfl)
   have g7_ := (i.p 7) (ha.at 7 rfl) a49 c49 g6_
   have kn : Kn e [(55, .tuple #[.slice a49 r46.1.length c49, .bool r46.2])] := ⟨g7_, trivial⟩
   exact L.kns _ kn (L.ex Wt.no rfl rfl rfl (L.nil (X.dk kn ⟨im, Sub.fresh ib rfl, i.u 9 (fun _ => rfl)⟩)))
  ·rintro D e s53 ⟨im, ib, i⟩ hk hf ha
   obtain ⟨a49, c49, g6_, h49⟩ := (i.p 6) (ha.at 6 rfl)
   have g8_ := (i.p 8) (ha.at 8 rfl) a49 c49 g6_
   have kn : Kn e [(63, .slice a49 r46.1.length c49)] := ⟨g8_, trivial⟩
   exact L.kns _ kn (L.as Wt.no rfl rfl (L.nil (X.dk kn ⟨im, Sub.fresh ib rfl, i.u 10 (fun _ _ _ q6 => by cases g6_.symm.trans q6; exact rfl)⟩)))
  rintro D e s54 ⟨im, ib, i⟩ hk hf ha
  have kn : Kn e [(64, .bool r46.2)] := ⟨((i.p 9) (ha.at 9 rfl)), trivial⟩
  exact L.kns _ kn (L.as Wt.no rfl rfl (L.nil (X.dk kn ⟨im, Sub.fresh ib rfl, i.u 11 (fun _ => rfl)⟩)))
 rintro D e s55 hD ⟨im, ib, i⟩
 obtain ⟨a49, c49, g6_, h49⟩ := (i.p 6) (hD 6 rfl)
 have g10_ := (i.p 10) (hD 10 rfl) a49 c49 g6_
 have g11_ := (i.p 11) (hD 11 rfl)
 have h30 := h30.mono (im.le no_No)
 have h26 := h26.mono (im.le no_No)
 have h22 := h22.mono (im.le no_No)
 have m0 := m0.trans im.no
 refine X.sub (e' := [(19, .bool r46.2), (18, .slice a49 r46.1.length c49), (17, .bool r27.2), (16, .slice a30 r27.1.length c30), (15, .int .i64 r23.2.2), (14, .bool r23.2.1), (13, .slice a26 r23.1.length c26), (12, .int .i64 r19.2.2), (11, .bool r19.2.1), (10, .slice a22 r19.1.length c22)]) ?_ (Sub.cons g11_ (Sub.cons g10_ (Sub.cons (ib 17 _ rfl) (Sub.cons (ib 16 _ rfl) (Sub.cons (ib 15 _ rfl) (Sub.cons (ib 14 _ rfl) (Sub.cons (ib 13 _ rfl) (Sub.cons (ib 12 _ rfl) (Sub.cons (ib 11 _ rfl) (Sub.cons (ib 10 _ rfl) Sub.nil))))))))))
 refine X.seqN (E.seq (E.reg (L.mv Wt.no rfl rfl (L.bi Wt.no rfl rfl rfl rfl (L.mv Wt.no rfl rfl (L.cut 3 (fun e w => ∃ (v56 : Bool), ((r19.2.2 == 0) && (r23.2.2 == 0)) = v56 ∧ e = (70, .bool v56) :: [(19, .bool r46.2), (18, .slice a49 r46.1.length c49), (17, .bool r27.2), (16, .slice a30 r27.1.length c30), (14, .bool r23.2.1), (13, .slice a26 r23.1.length c26), (11, .bool r19.2.1), (10, .slice a22 r19.1.length c22)] ∧ w = s55.w) ?_ ?_))))))
 ·rintro _ _ ⟨v56, rfl, rfl, rfl⟩
  refine L.mv Wt.no rfl rfl (L.cut 4 (fun e w => ∃ (v57 : Bool), (((r19.2.2 == 0) && (r23.2.2 == 0)) && (r19.2.1 == r27.2)) = v57 ∧ e = (75, .bool v57) :: [(19, .bool r46.2), (18, .slice a49 r46.1.length c49), (16, .slice a30 r27.1.length c30), (14, .bool r23.2.1), (13, .slice a26 r23.1.length c26), (10, .slice a22 r19.1.length c22)] ∧ w = s55.w) ?_ ?_)
  ·rintro _ _ ⟨v57, rfl, rfl, rfl⟩
   refine L.mv Wt.no rfl rfl ?_
   obtain ⟨b58, eb58, hm⟩ := bindS hm
   refine L.cut 4 (fun e w => ∃ (s60 : Sig) (v59 : Bool), b58 = v59 ∧ Mv (Up N No) s s60 ∧ RdL (rK .i64) s60 a49 c49 r46.1 ∧ RdL (rK .i64) s60 a26 c26 r23.1 ∧ e = (80, .bool v59) :: [(19, .bool r46.2), (18, .slice a49 r46.1.length c49), (14, .bool r23.2.1), (13, .slice a26 r23.1.length c26)] ∧ w = s60.w) ?_ ?_
   ·rintro _ _ ⟨s60, v59, rfl, m0, h49, h26, rfl, rfl⟩
    refine L.mv Wt.no rfl rfl (L.cut 4 (fun e w => ∃ (v61 : Bool), (b58 && (r23.2.1 == r46.2)) = v61 ∧ e = (85, .bool v61) :: [(18, .slice a49 r46.1.length c49), (13, .slice a26 r23.1.length c26)] ∧ w = s60.w) ?_ ?_)
    ·rintro _ _ ⟨v61, rfl, rfl, rfl⟩
     refine L.mv Wt.no rfl rfl ?_
     obtain ⟨b62, eb62, hm⟩ := bindS hm
     refine L.cut 4 (fun e w => ∃ (s64 : Sig) (v63 : Bool), b62 = v63 ∧ Mv (Up N No) s s64 ∧ e = (90, .bool v63) :: [] ∧ w = s64.w) ?_ ?_
     ·rintro _ _ ⟨s64, v63, rfl, m0, rfl, rfl⟩
      refine L.as Wt.no rfl rfl (L.nil (X.seqN (E.ret ?_)))
      obtain rfl := Option.some.inj hm
      exact X.rt (.inl rfl) Tryd.results6 (Rs.tmp rfl Rs.nil) rfl ⟨_, (s64).ren N (fun _ => 0), rfl, rfl, m0.ren hNb, rfl⟩
     intro J65
     rcases ifS eb62 with ⟨hc, hm⟩ | ⟨hc, hm⟩
     ·refine L.know (d := 86) rfl hc (L.mv (Wt.mk rfl rfl) rfl rfl (L.mv (Wt.mk rfl rfl) rfl rfl ?_))
      obtain ⟨r66, er66, hm⟩ := bindS hm
      refine L.ca cf15 rfl rfl (Wt.mk rfl rfl) rfl (m_overseerlaw24_same_c (s := s60) (p0 := r23.1) (p1 := r46.1) h26 h49 er66) rfl ?_
      rintro _ s67 m68 rfl
      replace m0 := m0.trans m68.no
      exact L.pkT Wt.no rfl rfl rfl rfl (L.sb (J65 _ _ ⟨s67, r66, (Option.some.inj hm).symm, m0, rfl, rfl⟩) rfl)
     exact L.know (d := 86) rfl hc (L.skip rfl rfl rfl rfl (L.skip rfl rfl rfl rfl (L.skip rfl rfl rfl rfl (L.pkF Wt.no rfl rfl rfl rfl (L.sb (J65 _ _ ⟨s60, false, (Option.some.inj hm).symm, m0, rfl, rfl⟩) rfl)))))
    intro J69
    rcases Bool.eq_false_or_eq_true b58 with hc | hc
    ·exact L.know (d := 81) rfl hc (L.mv (Wt.mk rfl rfl) rfl rfl (L.mv (Wt.mk rfl rfl) rfl rfl (L.beq Tryd.underlying4 (Wt.mk rfl rfl) rfl rfl rfl (L.pkT Wt.no rfl rfl rfl rfl (L.sb (J69 _ _ ⟨(r23.2.1 == r46.2), (andT hc).symm, rfl, rfl⟩) rfl)))))
    exact L.know (d := 81) rfl hc (L.skip rfl rfl rfl rfl (L.skip rfl rfl rfl rfl (L.skip rfl rfl rfl rfl (L.pkF Wt.no rfl rfl rfl rfl (L.sb (J69 _ _ ⟨false, (andF hc).symm, rfl, rfl⟩) rfl)))))
   intro J70
   rcases ifS eb58 with ⟨hc, hm⟩ | ⟨hc, hm⟩
   ·refine L.know (d := 76) rfl hc (L.mv (Wt.mk rfl rfl) rfl rfl (L.mv (Wt.mk rfl rfl) rfl rfl ?_))
    obtain ⟨r71, er71, hm⟩ := bindS hm
    refine L.ca cf15 rfl rfl (Wt.mk rfl rfl) rfl (m_overseerlaw24_same_c (s := s55) (p0 := r19.1) (p1 := r27.1) h22 h30 er71) rfl ?_
    rintro _ s72 m73 rfl
    replace m0 := m0.trans m73.no
    replace h49 := h49.mono (m73.le no_No)
    replace h26 := h26.mono (m73.le no_No)
    exact L.pkT Wt.no rfl rfl rfl rfl (L.sb (J70 _ _ ⟨s72, r71, (Option.some.inj hm).symm, m0, h49, h26, rfl, rfl⟩) rfl)
   exact L.know (d := 76) rfl hc (L.skip rfl rfl rfl rfl (L.skip rfl rfl rfl rfl (L.skip rfl rfl rfl rfl (L.pkF Wt.no rfl rfl rfl rfl (L.sb (J70 _ _ ⟨s55, false, (Option.some.inj hm).symm, m0, h49, h26, rfl, rfl⟩) rfl)))))
  intro J74
  rcases Bool.eq_false_or_eq_true ((r19.2.2 == 0) && (r23.2.2 == 0)) with hc | hc
  ·exact L.know (d := 71) rfl hc (L.mv (Wt.mk rfl rfl) rfl rfl (L.mv (Wt.mk rfl rfl) rfl rfl (L.beq Tryd.underlying4 (Wt.mk rfl rfl) rfl rfl rfl (L.pkT Wt.no rfl rfl rfl rfl (L.sb (J74 _ _ ⟨(r19.2.1 == r27.2), (andT hc).symm, rfl, rfl⟩) rfl)))))
  exact L.know (d := 71) rfl hc (L.skip rfl rfl rfl rfl (L.skip rfl rfl rfl rfl (L.skip rfl rfl rfl rfl (L.pkF Wt.no rfl rfl rfl rfl (L.sb (J74 _ _ ⟨false, (andF hc).symm, rfl, rfl⟩) rfl)))))
 intro J75
 rcases Bool.eq_false_or_eq_true (r19.2.2 == 0) with hc | hc
 ·exact L.know (d := 67) rfl hc (L.mv (Wt.mk rfl rfl) rfl rfl (L.bi (Wt.mk rfl rfl) rfl rfl rfl rfl (L.pkT Wt.no rfl rfl rfl rfl (L.sb (J75 _ _ ⟨(r23.2.2 == 0), (andT hc).symm, rfl, rfl⟩) rfl))))
 exact L.know (d := 67) rfl hc (L.skip rfl rfl rfl rfl (L.skip rfl rfl rfl rfl (L.pkF Wt.no rfl rfl rfl rfl (L.sb (J75 _ _ ⟨false, (andF hc).symm, rfl, rfl⟩) rfl))))

end Go.Proofs.YtfbapajcheammaaDoor

namespace Go.Proofs.YtfbapajcheammaaDoor

/-- The rank of a word: words in shortlex order have rising ranks. -/
def wval (u : List Int) : Int := u.foldl (fun acc e => 33 * acc + e + 1) 0
theorem wval_snoc (u : List Int) (e : Int) : wval (u ++ [e]) = 33 * wval u + e + 1 := by simp [wval, List.foldl_append]
def Evs (u : List Int) : Prop := ∀ e ∈ u, 0 ≤ e ∧ e < 32
theorem Evs.nil : Evs [] := fun e h => by cases h
theorem Evs.of_snoc {u : List Int} {e : Int} (h : Evs (u ++ [e])) : Evs u ∧ 0 ≤ e ∧ e < 32 :=
  ⟨fun x hx => h x (List.mem_append_left _ hx), h e (by simp)⟩
/-- Induction at the end of a list. -/
theorem snoc_ind {α : Type} {P : List α → Prop} (h0 : P []) (h1 : ∀ u e, P u → P (u ++ [e])) (u : List α) : P u := by
  have h2 : ∀ n (u : List α), u.length = n → P u := by
    intro n
    induction n with
    | zero => intro u hu; rw [List.eq_nil_of_length_eq_zero hu]; exact h0
    | succ n ih =>
      intro u hu
      rcases List.eq_nil_or_concat u with rfl | ⟨l, b, rfl⟩
      · cases hu
      · have hl : l.length = n := by simpa using hu
        simpa using h1 l b (ih l hl)
  exact h2 _ u rfl
theorem wval_nonneg (u : List Int) : Evs u → 0 ≤ wval u := by
  refine snoc_ind (P := fun u => Evs u → 0 ≤ wval u) (fun _ => Int.le_refl 0) (fun u e ih h => ?_) u
  have h1 := h.of_snoc
  have := ih h1.1
  rw [wval_snoc]; omega
/-- The least and the greatest rank of a word of so many events. -/
def wlo : Nat → Int
  | 0 => 0
  | n + 1 => 33 * wlo n + 1
def whi : Nat → Int
  | 0 => 0
  | n + 1 => 33 * whi n + 32
theorem wlo_le (u : List Int) : Evs u → wlo u.length ≤ wval u ∧ wval u ≤ whi u.length := by
  refine snoc_ind (P := fun u => Evs u → wlo u.length ≤ wval u ∧ wval u ≤ whi u.length) (fun _ => ⟨Int.le_refl _, Int.le_refl _⟩) (fun u e ih h => ?_) u
  have h1 := h.of_snoc
  have := ih h1.1
  rw [wval_snoc, List.length_append, List.length_singleton, wlo, whi]; omega
theorem whi_lt (n : Nat) : whi n < wlo (n + 1) := by
  induction n with
  | zero => decide
  | succ n ih => rw [whi, wlo]; omega
theorem wlo_mono {m n : Nat} (h : m ≤ n) : wlo m ≤ wlo n := by
  induction n with
  | zero => obtain rfl : m = 0 := by omega
            exact Int.le_refl _
  | succ n ih =>
    by_cases e : m = n + 1
    · rw [e]; exact Int.le_refl _
    · have h1 := ih (by omega)
      have h2 : 0 ≤ wlo n := by
        clear h1 ih h e
        induction n with
        | zero => exact Int.le_refl _
        | succ n ih => rw [wlo]; omega
      rw [wlo]; omega
theorem wval_len {u v : List Int} (hu : Evs u) (hv : Evs v) (h : wval u ≤ wval v) : u.length ≤ v.length := by
  by_cases hlt : v.length < u.length
  · have h1 := (wlo_le u hu).1
    have h2 := (wlo_le v hv).2
    have h3 := whi_lt v.length
    have h4 := wlo_mono (show v.length + 1 ≤ u.length by omega)
    omega
  · omega

/-- A word leads from s to t. -/
def Leads (es : List Ed) (perm : Ed → Bool) (s : Int) : List Int → Int → Prop
  | [], t => s = t
  | e :: u, t => ∃ x ∈ es, x.f = s ∧ x.e = e ∧ perm x = true ∧ Leads es perm x.t u t
theorem Leads.snoc {es : List Ed} {perm : Ed → Bool} : ∀ {u : List Int} {s t : Int}, Leads es perm s u t → ∀ {x : Ed}, x ∈ es → x.f = t → perm x = true → Leads es perm s (u ++ [x.e]) x.t
  | [], s, t, h, x, hx, hf, hp => ⟨x, hx, by rw [hf]; exact h.symm, rfl, hp, rfl⟩
  | e :: u, s, t, ⟨y, hy, h1, h2, h3, h4⟩, x, hx, hf, hp => ⟨y, hy, h1, h2, h3, h4.snoc hx hf hp⟩
theorem Leads.of_snoc {es : List Ed} {perm : Ed → Bool} {e : Int} : ∀ {u : List Int} {s t : Int}, Leads es perm s (u ++ [e]) t → ∃ x ∈ es, Leads es perm s u x.f ∧ x.e = e ∧ x.t = t ∧ perm x = true
  | [], s, t, ⟨y, hy, h1, h2, h3, h4⟩ => ⟨y, hy, h1.symm, h2, h4, h3⟩
  | a :: u, s, t, ⟨y, hy, h1, h2, h3, h4⟩ => by
    obtain ⟨x, hx, g1, g2, g3, g4⟩ := Leads.of_snoc (u := u) h4
    exact ⟨x, hx, ⟨y, hy, h1, h2, h3, g1⟩, g2, g3, g4⟩
/-- The events of the edges. -/
def EvEs (es : List Ed) : Prop := ∀ x ∈ es, 0 ≤ x.e ∧ x.e < 32
theorem Leads.evs {es : List Ed} {perm : Ed → Bool} (he : EvEs es) : ∀ {u : List Int} {s t : Int}, Leads es perm s u t → Evs u
  | [], _, _, _ => Evs.nil
  | e :: u, s, t, ⟨y, hy, h1, h2, h3, h4⟩ => by
    intro z hz
    rcases List.mem_cons.1 hz with rfl | hz
    · rw [← h2]; exact he y hy
    · exact Leads.evs he h4 z hz

/-- What a search has found so far: words with rising ranks, none above b. -/
structure Found (es : List Ed) (perm : Ed → Bool) (s : Int) (L : List (List Int × Int)) (b : Int) : Prop where
  lead : ∀ r ∈ L, Leads es perm s r.1 r.2
  sorted : ∀ j k : Nat, j < k → ∀ r r' : List Int × Int, L[j]? = some r → L[k]? = some r' → wval r.1 < wval r'.1
  bd : ∀ r ∈ L, wval r.1 ≤ b
/-- The edges of all places below i have been followed. -/
def Followed (es : List Ed) (perm : Ed → Bool) (L : List (List Int × Int)) (m i : Nat) : Prop :=
  ∀ j : Nat, j < i → ∀ r : List Int × Int, L[j]? = some r → ∀ x ∈ es, x.f = r.2 → perm x = true → ∃ k : Nat, m ≤ k ∧ ∃ r' : List Int × Int, L[k]? = some r' ∧ r'.2 = x.t ∧ wval r'.1 ≤ 33 * wval r.1 + x.e + 1

section
variable {es : List Ed} {perm : Ed → Bool} {s : Int} {L : List (List Int × Int)} {b : Int} {m i : Nat}
theorem Found.push (h : Found es perm s L b) {w : List Int} {t : Int} (hl : Leads es perm s w t) (hb : b < wval w) : Found es perm s (L ++ [(w, t)]) (wval w) := by
  refine ⟨fun r hr => ?_, fun j k hjk r r' hj hk => ?_, fun r hr => ?_⟩
  · rcases List.mem_append.1 hr with h1 | h1
    · exact h.lead r h1
    · rw [List.mem_singleton.1 h1]; exact hl
  · by_cases hk2 : k < L.length
    · rw [List.getElem?_append_left hk2] at hk
      rw [List.getElem?_append_left (by omega)] at hj
      exact h.sorted j k hjk r r' hj hk
    · rw [List.getElem?_append_right (by omega)] at hk
      have h3 : k - L.length = 0 := by
        by_cases h4 : k - L.length = 0
        · exact h4
        · rw [List.getElem?_eq_none (by simp; omega)] at hk; cases hk
      rw [h3] at hk
      simp only [List.getElem?_cons_zero, Option.some.injEq] at hk
      subst hk
      rw [List.getElem?_append_left (by omega)] at hj
      have := h.bd r (List.mem_of_getElem? hj)
      dsimp only; omega
  · rcases List.mem_append.1 hr with h1 | h1
    · have := h.bd r h1; omega
    · rw [List.mem_singleton.1 h1]; exact Int.le_refl _
theorem Found.mono (h : Found es perm s L b) {j k : Nat} (hjk : j ≤ k) {r r' : List Int × Int} (hj : L[j]? = some r) (hk : L[k]? = some r') : wval r.1 ≤ wval r'.1 := by
  by_cases e : j = k
  · subst e; rw [hj] at hk; cases hk; exact Int.le_refl _
  · exact Int.le_of_lt (h.sorted j k (by omega) r r' hj hk)
theorem Followed.append (h : Followed es perm L m i) (hi : i ≤ L.length) (M : List (List Int × Int)) : Followed es perm (L ++ M) m i := by
  intro j hj r hr x hx hf hp
  rw [List.getElem?_append_left (by omega)] at hr
  obtain ⟨k, hk, r', hr', h1, h2⟩ := h j hj r hr x hx hf hp
  refine ⟨k, hk, r', ?_, h1, h2⟩
  rw [List.getElem?_append_left (by have := (List.getElem?_eq_some_iff.1 hr').1; omega)]
  exact hr'
/-- Where each word leads that has been tried. -/
theorem Followed.place (he : EvEs es) (hF : Found es perm s L b) (hC : Followed es perm L m i) (h0 : L[0]? = some ([], s)) (u : List Int) :
    ∀ t, Leads es perm s u t → (∃ (k : Nat) (r : List Int × Int), (u = [] ∨ m ≤ k) ∧ L[k]? = some r ∧ r.2 = t ∧ wval r.1 ≤ wval u) ∨ (∃ r : List Int × Int, L[i]? = some r ∧ wval r.1 < wval u) ∨ L.length ≤ i := by
  induction u using snoc_ind with
  | h0 =>
    intro t ht
    refine .inl ⟨0, _, .inl rfl, h0, ht, Int.le_refl _⟩
  | h1 u e ih =>
    intro t ht
    by_cases hil : L.length ≤ i
    · exact .inr (.inr hil)
    obtain ⟨x, hx, g1, rfl, rfl, g4⟩ := ht.of_snoc
    have hxe := he x hx
    have hi : L[i]? = some L[i] := List.getElem?_eq_getElem (by omega)
    have hu := wval_nonneg u (g1.evs he)
    rcases ih x.f g1 with ⟨k, r, hk0, hk, hr, hle⟩ | ⟨r, hk, hle⟩ | h3
    · by_cases hki : k < i
      · obtain ⟨k', hk', r', h1, h2, h3⟩ := hC k hki r hk x hx hr.symm g4
        refine .inl ⟨k', r', .inr hk', h1, h2, ?_⟩
        rw [wval_snoc]; omega
      · refine .inr (.inl ⟨_, hi, ?_⟩)
        have := hF.mono (show i ≤ k by omega) hi hk
        rw [wval_snoc]; omega
    · refine .inr (.inl ⟨r, hk, ?_⟩)
      rw [wval_snoc]; omega
    · exact .inr (.inr h3)
/-- The same where all have been followed. -/
theorem Followed.all (_he : EvEs es) (hC : Followed es perm L m L.length) (h0 : L[0]? = some ([], s)) (u : List Int) :
    ∀ t, Leads es perm s u t → ∃ (k : Nat) (r : List Int × Int), (u = [] ∨ m ≤ k) ∧ L[k]? = some r ∧ r.2 = t ∧ wval r.1 ≤ wval u := by
  induction u using snoc_ind with
  | h0 =>
    intro t ht
    exact ⟨0, _, .inl rfl, h0, ht, Int.le_refl _⟩
  | h1 u e ih =>
    intro t ht
    obtain ⟨x, hx, g1, rfl, rfl, g4⟩ := ht.of_snoc
    obtain ⟨k, r, hk0, hk, hr, hle⟩ := ih x.f g1
    obtain ⟨k', hk', r', h1, h2, h3⟩ := hC k (List.getElem?_eq_some_iff.1 hk).1 r hk x hx hr.symm g4
    refine ⟨k', r', .inr hk', h1, h2, ?_⟩
    rw [wval_snoc]; omega

/-- The least word that leads to a state that is wanted, of at least so many events. -/
structure Least (es : List Ed) (perm : Ed → Bool) (want : Int → Bool) (s : Int) (least : Nat) (w : List Int) : Prop where
  ev : Evs w
  len : least ≤ w.length
  leads : ∃ t, Leads es perm s w t ∧ want t = true
  le : ∀ u t, Leads es perm s u t → want t = true → least ≤ u.length → wval w ≤ wval u
/-- A search that looks at a state when its turn comes. -/
theorem Found.least {want : Int → Bool} (he : EvEs es) (hF : Found es perm s L b) (hC : Followed es perm L 0 i) (h0 : L[0]? = some ([], s)) {r : List Int × Int} (hi : L[i]? = some r) (hw : want r.2 = true)
    (hn : ∀ j : Nat, j < i → ∀ r : List Int × Int, L[j]? = some r → want r.2 = false) : Least es perm want s 0 r.1 := by
  have hl := hF.lead r (List.mem_of_getElem? hi)
  refine ⟨hl.evs he, Nat.zero_le _, ⟨_, hl, hw⟩, fun u t hu ht _ => ?_⟩
  rcases hC.place he hF h0 u t hu with ⟨k, r', hk0, hk, hr, hle⟩ | ⟨r', hk, hle⟩ | h3
  · by_cases hki : k < i
    · have := hn k hki r' hk
      rw [hr, ht] at this; cases this
    · have := hF.mono (show i ≤ k by omega) hi hk; omega
  · rw [hi] at hk; cases hk; omega
  · have := (List.getElem?_eq_some_iff.1 hi).1; omega
theorem Followed.none {want : Int → Bool} (he : EvEs es) (hC : Followed es perm L 0 L.length) (h0 : L[0]? = some ([], s)) (hn : ∀ (j : Nat) (r : List Int × Int), L[j]? = some r → want r.2 = false) :
    ∀ u t, Leads es perm s u t → want t = false := by
  intro u t hu
  obtain ⟨k, r, _, hk, rfl, _⟩ := hC.all he h0 u t hu
  exact hn k r hk
end
end Go.Proofs.YtfbapajcheammaaDoor

namespace Go.Proofs.YtfbapajcheammaaDoor

/-- One edge stands before another. -/
def edLt (x y : Ed) : Prop := x.f < y.f ∨ (x.f = y.f ∧ x.e < y.e)
def Sorted (es : List Ed) : Prop := es.Pairwise edLt
theorem drop_count : ∀ (es : List Ed), es.Pairwise (fun x y => x.f ≤ y.f) → ∀ s : Int, es.drop (es.countP fun x => decide (x.f < s)) = es.filter fun x => !decide (x.f < s)
  | [], _, _ => rfl
  | x :: l, h, s => by
    obtain ⟨h1, h2⟩ := List.pairwise_cons.1 h
    by_cases hx : x.f < s
    · rw [List.countP_cons_of_pos (by simpa using hx), List.drop_succ_cons, drop_count l h2 s, List.filter_cons_of_neg (by simpa using hx)]
    · have h3 : ∀ y ∈ l, ¬ y.f < s := fun y hy => by have := h1 y hy; omega
      have h4 : l.countP (fun x => decide (x.f < s)) = 0 := by
        rw [List.countP_eq_zero]; intro y hy; simpa using h3 y hy
      rw [List.countP_cons_of_neg (by simpa using hx), h4, List.drop_zero]
      symm
      rw [List.filter_eq_self]
      intro y hy
      rcases List.mem_cons.1 hy with rfl | hy
      · simpa using hx
      · simpa using h3 y hy
theorem take_count : ∀ (es : List Ed), es.Pairwise (fun x y => x.f ≤ y.f) → ∀ s : Int, es.take (es.countP fun x => decide (x.f < s)) = es.filter fun x => decide (x.f < s)
  | [], _, _ => rfl
  | x :: l, h, s => by
    obtain ⟨h1, h2⟩ := List.pairwise_cons.1 h
    by_cases hx : x.f < s
    · rw [List.countP_cons_of_pos (by simpa using hx), List.take_succ_cons, take_count l h2 s, List.filter_cons_of_pos (by simpa using hx)]
    · have h3 : ∀ y ∈ l, ¬ y.f < s := fun y hy => by have := h1 y hy; omega
      have h4 : l.countP (fun x => decide (x.f < s)) = 0 := by
        rw [List.countP_eq_zero]; intro y hy; simpa using h3 y hy
      rw [List.countP_cons_of_neg (by simpa using hx), h4, List.take_zero]
      symm
      rw [List.filter_eq_nil_iff]
      intro y hy
      rcases List.mem_cons.1 hy with rfl | hy
      · simpa using hx
      · simpa using h3 y hy
theorem Sorted.le {es : List Ed} (h : Sorted es) : es.Pairwise (fun x y => x.f ≤ y.f) := List.Pairwise.imp (fun {x y} (h : edLt x y) => by unfold edLt at h; omega) h
/-- The edges of a state, as a filter. -/
theorem subOf_eq {es : List Ed} (h : Sorted es) (s : Int) : subOf es s = es.filter fun x => decide (x.f = s) := by
  have h1 := take_count es h.le (s + 1)
  have h2 : (es.filter fun x => decide (x.f < s + 1)).Pairwise (fun x y => x.f ≤ y.f) := h.le.filter _
  have h3 := drop_count _ h2 s
  have h4 : (es.filter fun x => decide (x.f < s + 1)).countP (fun x => decide (x.f < s)) = es.countP fun x => decide (x.f < s) := by
    rw [List.countP_filter]
    apply List.countP_congr
    intro x _
    simp only [Bool.and_eq_true, decide_eq_true_eq]
    omega
  rw [h4, ← h1, List.drop_take] at h3
  rw [subOf, edSub, fstN, fstN, h3, h1, List.filter_filter]
  apply List.filter_congr
  intro x _
  rw [Bool.eq_iff_iff]
  simp only [Bool.and_eq_true, Bool.not_eq_true', decide_eq_true_eq, decide_eq_false_iff_not]
  omega

theorem back_push {steps : List St} {y : St} (hp : ∀ j (h : j < steps.length), -1 ≤ steps[j].p ∧ steps[j].p < j) : ∀ (f k : Nat), k < steps.length → back (steps ++ [y]) f k = back steps f k
  | 0, _, _ => rfl
  | f + 1, k, hk => by
    rw [back, back, Int.toNat_natCast, List.getElem?_append_left hk, List.getElem?_eq_getElem hk]
    dsimp only
    split
    · rename_i h0
      have := hp k hk
      obtain ⟨p, hpe⟩ := Int.eq_ofNat_of_zero_le h0
      rw [hpe] at this ⊢
      rw [back_push hp f p (by omega)]
    · rfl

/-- The steps of the search and the words that they stand for. -/
structure PW (es : List Ed) (perm : Ed → Bool) (from_ n i : Nat) (seen : List Bool) (steps : List St) (L : List (List Int × Int)) (b : Int) : Prop where
  pok : POk n seen steps
  len : steps.length = L.length
  st : ∀ (k : Nat) (r : List Int × Int), L[k]? = some r → ∃ x, steps[k]? = some x ∧ x.s = r.2 ∧ ∀ f, k < f → back steps f k = r.1.reverse
  seen : ∀ t : Nat, t < n → seen[t]? = some true → ∃ (k : Nat) (r : List Int × Int), L[k]? = some r ∧ r.2 = t
  found : Found es perm from_ L b
  follow : Followed es perm L 0 i
  zero : L[0]? = some ([], (from_ : Int))
  lt : i ≤ L.length

/-- The edges of one state are followed. -/
theorem PW.fold {es : List Ed} {perm : Ed → Bool} {from_ n i : Nat} (hes : ∀ x ∈ es, 0 ≤ x.t ∧ x.t < (n : Int)) (he : EvEs es) (r : List Int × Int) : ∀ (l done : List Ed) {seen : List Bool} {steps : List St} {L : List (List Int × Int)} {b : Int},
    PW es perm from_ n i seen steps L b → L[i]? = some r → es.filter (fun x => decide (x.f = r.2)) = done ++ l → l.Pairwise (fun x y => x.e < y.e) → (∀ x ∈ l, b < 33 * wval r.1 + x.e + 1) → b ≤ 33 * wval r.1 + 32 →
    (∀ x ∈ done, perm x = true → ∃ (k : Nat) (r' : List Int × Int), L[k]? = some r' ∧ r'.2 = x.t ∧ wval r'.1 ≤ 33 * wval r.1 + x.e + 1) →
    ∃ L' b', PW es perm from_ n (i + 1) (l.foldl (pStep perm i) (seen, steps)).1 (l.foldl (pStep perm i) (seen, steps)).2 L' b' ∧ b' ≤ 33 * wval r.1 + 32 ∧ ∃ M, L' = L ++ M
  | [], done, seen, steps, L, b, h, hi, hf, hs, hb, hb2, hd => by
    refine ⟨L, b, ⟨h.pok, h.len, h.st, h.seen, h.found, fun j hj r' hr x hx hxf hp => ?_, h.zero, ?_⟩, hb2, [], (List.append_nil _).symm⟩
    · by_cases hji : j < i
      · exact h.follow j hji r' hr x hx hxf hp
      · obtain rfl : j = i := by omega
        rw [hi] at hr
        cases hr
        have hmem : x ∈ done := by
          have : x ∈ es.filter (fun x => decide (x.f = r.2)) := List.mem_filter.2 ⟨hx, by simpa using hxf⟩
          rw [hf, List.append_nil] at this
          exact this
        obtain ⟨k, r', h1, h2, h3⟩ := hd x hmem hp
        exact ⟨k, Nat.zero_le _, r', h1, h2, h3⟩
    · have := (List.getElem?_eq_some_iff.1 hi).1; omega
  | x :: l, done, seen, steps, L, b, h, hi, hf, hs, hb, hb2, hd => by
    obtain ⟨hs1, hs2⟩ := List.pairwise_cons.1 hs
    have hxm : x ∈ es.filter (fun x => decide (x.f = r.2)) := by rw [hf]; simp
    obtain ⟨hxe, hxf⟩ := List.mem_filter.1 hxm
    have hxf : x.f = r.2 := by simpa using hxf
    have hxt := hes x hxe
    have hxv := he x hxe
    have hxb := hb x (List.mem_cons_self ..)
    have hf' : es.filter (fun x => decide (x.f = r.2)) = (done ++ [x]) ++ l := by rw [hf]; simp
    have hil : i < L.length := (List.getElem?_eq_some_iff.1 hi).1
    rw [List.foldl_cons]
    have hlt : x.t.toNat < seen.length := by rw [h.pok.len]; omega
    have hsv : seen[x.t.toNat]? = some seen[x.t.toNat] := List.getElem?_eq_getElem hlt
    by_cases hc : seen[x.t.toNat]?.getD true = false ∧ perm x = true
    · have hst : pStep perm i (seen, steps) x = (seen.set x.t.toNat true, steps ++ [⟨x.t, i, x.e⟩]) := by unfold pStep; rw [if_pos hc]
      have hsf : seen[x.t.toNat]? = some false := by
        have := hc.1; rw [hsv] at this ⊢; simpa using this
      have hpok := h.pok.push (i := i) (by rw [h.len]; exact hil) x.t x.e hxt.1 hxt.2 hsf
      have hlead : Leads es perm from_ r.1 r.2 := h.found.lead r (List.mem_of_getElem? hi)
      have hF := h.found.push (hlead.snoc hxe hxf hc.2) (by rw [wval_snoc]; omega)
      rw [wval_snoc] at hF
      rw [hst]
      have hnew : PW es perm from_ n i (seen.set x.t.toNat true) (steps ++ [⟨x.t, i, x.e⟩]) (L ++ [(r.1 ++ [x.e], x.t)]) (33 * wval r.1 + x.e + 1) := by
        refine ⟨hpok, by simp [h.len], ?_, ?_, hF, h.follow.append h.lt _, ?_, ?_⟩
        · intro k r' hr'
          by_cases hk : k < L.length
          · rw [List.getElem?_append_left hk] at hr'
            obtain ⟨y, h1, h2, h3⟩ := h.st k r' hr'
            refine ⟨y, by rw [List.getElem?_append_left (by rw [h.len]; exact hk)]; exact h1, h2, fun f hf => ?_⟩
            rw [back_push h.pok.parent f k (by rw [h.len]; exact hk)]
            exact h3 f hf
          · have hkl : k = L.length := by
              have := (List.getElem?_eq_some_iff.1 hr').1; simp at this; omega
            subst hkl
            rw [List.getElem?_append_right (Nat.le_refl _), Nat.sub_self] at hr'
            simp only [List.getElem?_cons_zero, Option.some.injEq] at hr'
            subst hr'
            refine ⟨⟨x.t, i, x.e⟩, by rw [List.getElem?_append_right (by rw [h.len]; exact Nat.le_refl _), h.len, Nat.sub_self]; rfl, rfl, fun f hf => ?_⟩
            obtain ⟨f', rfl⟩ : ∃ f', f = f' + 1 := ⟨f - 1, by omega⟩
            obtain ⟨y, h1, h2, h3⟩ := h.st i r hi
            rw [back, Int.toNat_natCast, List.getElem?_append_right (by rw [h.len]; exact Nat.le_refl _), h.len, Nat.sub_self]
            simp only [List.getElem?_cons_zero]
            rw [if_pos (by omega), back_push h.pok.parent f' i (by rw [h.len]; exact hil), h3 f' (by omega)]
            simp
        · intro t ht hseen
          by_cases htx : x.t.toNat = t
          · exact ⟨L.length, (r.1 ++ [x.e], x.t), by simp, by dsimp only; omega⟩
          · rw [List.getElem?_set_ne htx] at hseen
            obtain ⟨k, r', h1, h2⟩ := h.seen t ht hseen
            exact ⟨k, r', by rw [List.getElem?_append_left (List.getElem?_eq_some_iff.1 h1).1]; exact h1, h2⟩
        · rw [List.getElem?_append_left (by omega)]; exact h.zero
        · have := h.lt; simp; omega
      obtain ⟨L', b', g1, g2, M, g3⟩ := PW.fold hes he r l (done ++ [x]) hnew (by rw [List.getElem?_append_left hil]; exact hi) hf' hs2 (fun y hy => by have := hs1 y hy; omega) (by omega) (fun y hy hp => by
        rcases List.mem_append.1 hy with hy | hy
        · obtain ⟨k, r', h1, h2, h3⟩ := hd y hy hp
          exact ⟨k, r', by rw [List.getElem?_append_left (List.getElem?_eq_some_iff.1 h1).1]; exact h1, h2, h3⟩
        · rw [List.mem_singleton.1 hy]
          exact ⟨L.length, (r.1 ++ [x.e], x.t), by simp, rfl, by rw [wval_snoc]; exact Int.le_refl _⟩)
      exact ⟨L', b', g1, g2, [(r.1 ++ [x.e], x.t)] ++ M, by rw [g3, List.append_assoc]⟩
    · have hst : pStep perm i (seen, steps) x = (seen, steps) := by unfold pStep; rw [if_neg hc]
      rw [hst]
      refine PW.fold hes he r l (done ++ [x]) h hi hf' hs2 (fun y hy => hb y (List.mem_cons_of_mem _ hy)) hb2 (fun y hy hp => ?_)
      rcases List.mem_append.1 hy with hy | hy
      · exact hd y hy hp
      · rw [List.mem_singleton.1 hy] at hp ⊢
        have hst : seen[x.t.toNat]? = some true := by
          rw [hsv] at hc ⊢
          simp only [Option.getD_some] at hc
          cases hb : seen[x.t.toNat] with
          | true => rfl
          | false => exact absurd ⟨hb, hp⟩ hc
        obtain ⟨k, r', h1, h2⟩ := h.seen x.t.toNat (by omega) hst
        refine ⟨k, r', h1, by omega, ?_⟩
        have := h.found.bd r' (List.mem_of_getElem? h1)
        omega

/-- What the search gives. -/
def BfsSays (es : List Ed) (perm : Ed → Bool) (want : Int → Bool) (from_ : Nat) : Option (List St × Nat) → Prop
  | some r => ∃ w, back r.1 (r.2 + 1) r.2 = w.reverse ∧ Least es perm want from_ 0 w
  | none => ∀ u t, Leads es perm from_ u t → want t = false
theorem PW.bfs {es : List Ed} {perm : Ed → Bool} {want : Int → Bool} {from_ n : Nat} (hso : Sorted es) (hes : ∀ x ∈ es, 0 ≤ x.t ∧ x.t < (n : Int)) (he : EvEs es) : ∀ (f i : Nat) {seen : List Bool} {steps : List St} {L : List (List Int × Int)} {b : Int},
    PW es perm from_ n i seen steps L b → n + 1 - i ≤ f → (∀ r, L[i]? = some r → b ≤ 33 * wval r.1) → (∀ j, j < i → ∀ r : List Int × Int, L[j]? = some r → want r.2 = false) →
    BfsSays es perm want from_ (Go.Proofs.YtfbapajcheammaaDoor.bfs (subOf es) want perm f i seen steps)
  | 0, i, seen, steps, L, b, h, hf, _, _ => by
    have h1 := h.pok.le
    have h2 := h.len
    have h3 := h.lt
    omega
  | f + 1, i, seen, steps, L, b, h, hf, hb, hn => by
    by_cases hi : i < steps.length
    · have hiL : i < L.length := by rw [← h.len]; exact hi
      have hr : L[i]? = some L[i] := List.getElem?_eq_getElem hiL
      obtain ⟨x, h1, h2, h3⟩ := h.st i L[i] hr
      rw [List.getElem?_eq_getElem hi] at h1
      cases h1
      cases hw : want steps[i].s with
      | true =>
        rw [bfs_found hi hw]
        exact ⟨L[i].1, h3 (i + 1) (by omega), h.found.least he h.follow h.zero hr (by rw [← h2]; exact hw) hn⟩
      | false =>
        rw [bfs_next hi hw, subOf_eq hso]
        have hpw : (es.filter fun x => decide (x.f = L[i].2)).Pairwise (fun x y => x.e < y.e) := by
          have h4 : (es.filter fun x => decide (x.f = L[i].2)).Pairwise edLt := List.Pairwise.filter _ hso
          refine List.Pairwise.imp_of_mem ?_ h4
          intro x y hx hy hxy
          have e1 := (List.mem_filter.1 hx).2
          have e2 := (List.mem_filter.1 hy).2
          simp only [decide_eq_true_eq] at e1 e2
          unfold edLt at hxy
          omega
        have hb1 := hb _ hr
        obtain ⟨L', b', g1, g2, M, rfl⟩ := PW.fold hes he L[i] (es.filter fun x => decide (x.f = L[i].2)) [] h hr (by simp) hpw (fun x hx => by have := he x (List.mem_filter.1 hx).1; omega) (by omega) (fun x hx => by cases hx)
        rw [h2]
        refine PW.bfs hso hes he f (i + 1) g1 (by omega) (fun r' hr' => ?_) (fun j hj r' hr' => ?_)
        · have h5 := g1.found.sorted i (i + 1) (by omega) L[i] r' (by rw [List.getElem?_append_left hiL]; exact hr) hr'
          omega
        · by_cases hji : j < i
          · rw [List.getElem?_append_left (by omega)] at hr'
            exact hn j hji r' hr'
          · obtain rfl : j = i := by omega
            rw [List.getElem?_append_left hiL, hr] at hr'
            cases hr'
            rw [← h2]; exact hw
    · rw [bfs_end (by omega)]
      have hil : i = L.length := by have := h.lt; have := h.len; omega
      subst hil
      exact h.follow.none he h.zero (fun j r hr => hn j (List.getElem?_eq_some_iff.1 hr).1 r hr)
/-- What path returns: the least word, or none where there is none. -/
theorem pathF_says {es : List Ed} {perm : Ed → Bool} {want : Int → Bool} {from_ n : Nat} (hso : Sorted es) (hes : ∀ x ∈ es, 0 ≤ x.t ∧ x.t < (n : Int)) (he : EvEs es) (hf : from_ < n) :
    match pathF n es want perm from_ with
    | some w => Least es perm want from_ 0 w
    | none => ∀ u t, Leads es perm from_ u t → want t = false := by
  have h0 : PW es perm from_ n 0 ((List.replicate n false).set from_ true) [⟨from_, -1, -1⟩] [([], (from_ : Int))] 0 := by
    refine ⟨POk.start n from_ hf, rfl, ?_, ?_, ⟨?_, ?_, ?_⟩, fun j hj => absurd hj (by omega), rfl, Nat.zero_le _⟩
    · intro k r hr
      cases k with
      | zero =>
        simp only [List.getElem?_cons_zero, Option.some.injEq] at hr
        subst hr
        refine ⟨_, rfl, rfl, fun f hf => ?_⟩
        obtain ⟨f', rfl⟩ : ∃ f', f = f' + 1 := ⟨f - 1, by omega⟩
        rfl
      | succ k => simp at hr
    · intro t ht hs
      by_cases e : from_ = t
      · subst e; exact ⟨0, _, rfl, rfl⟩
      · rw [List.getElem?_set_ne e, List.getElem?_replicate, if_pos ht] at hs
        cases hs
    · intro r hr
      rw [List.mem_singleton.1 hr]; rfl
    · intro j k hjk r r' hj hk
      have := (List.getElem?_eq_some_iff.1 hk).1
      simp at this; omega
    · intro r hr
      rw [List.mem_singleton.1 hr]; exact Int.le_refl 0
  have h1 := h0.bfs (want := want) hso hes he (n + 1) 0 (by omega) (fun r hr => by simp only [List.getElem?_cons_zero, Option.some.injEq] at hr; subst hr; exact Int.le_refl 0) (fun j hj => absurd hj (by omega))
  unfold pathF
  generalize Go.Proofs.YtfbapajcheammaaDoor.bfs (subOf es) want perm (n + 1) 0 ((List.replicate n false).set from_ true) [⟨from_, -1, -1⟩] = r at h1
  cases r with
  | none => exact h1
  | some r =>
    obtain ⟨w, h2, h3⟩ := h1
    simp only [Option.map_some, h2, List.reverse_reverse]
    exact h3
end Go.Proofs.YtfbapajcheammaaDoor

namespace Go.Proofs.YtfbapajcheammaaDoor

/-- A target is reached by k edges. -/
def ReachIn (es : List Ed) (tg : List Int) : Nat → Int → Prop
  | 0, s => s ∈ tg
  | k + 1, s => ∃ x ∈ es, x.f = s ∧ ReachIn es tg k x.t
/-- The least distance, or -1. -/
def IsDist (es : List Ed) (tg : List Int) (s d : Int) : Prop := (d = -1 ∧ ∀ k, ¬ ReachIn es tg k s) ∨ (∃ k : Nat, d = k ∧ ReachIn es tg k s ∧ ∀ j, j < k → ¬ ReachIn es tg j s)
theorem IsDist.unique {es : List Ed} {tg : List Int} {s d d' : Int} (h : IsDist es tg s d) (h' : IsDist es tg s d') : d = d' := by
  rcases h with ⟨rfl, h⟩ | ⟨k, rfl, h1, h2⟩
  · rcases h' with ⟨rfl, _⟩ | ⟨k, rfl, h1, _⟩
    · rfl
    · exact absurd h1 (h k)
  · rcases h' with ⟨rfl, h'⟩ | ⟨k', rfl, h1', h2'⟩
    · exact absurd h1 (h' k)
    · have a1 : ¬ k < k' := fun hlt => h2' k hlt h1
      have a2 : ¬ k' < k := fun hlt => h2 k' hlt h1'
      omega

/-- What holds of the distances while backward searches. -/
structure BD (es : List Ed) (tg : List Int) (n : Nat) (ds q : List Int) (c : Int) : Prop where
  ok : BOk n ds q
  fit : ∀ i, i < n → 0 ≤ ds.getD i 0 → ∃ k : Nat, ds.getD i 0 = k ∧ ReachIn es tg k i
  top : ∀ i, i < n → ds.getD i 0 ≤ c + 1
  low : ∀ s ∈ q, c ≤ ds.getD s.toNat 0
  srt : q.Pairwise fun s t => ds.getD s.toNat 0 ≤ ds.getD t.toNat 0
  done : ∀ x ∈ es, 0 ≤ ds.getD x.t.toNat 0 → x.t ∈ q ∨ (0 ≤ ds.getD x.f.toNat 0 ∧ ds.getD x.f.toNat 0 ≤ ds.getD x.t.toNat 0 + 1)
  tgt : ∀ s ∈ tg, ds.getD s.toNat 0 = 0
  bnd : ∀ i, i < n → ds.getD i 0 ≤ n - negs ds

section
variable {es : List Ed} {tg : List Int} {n : Nat}
theorem getD_set_at {ds : List Int} {p : Nat} {d : Int} (h : p < ds.length) : (ds.set p d).getD p 0 = d := by
  rw [List.getD_eq_getElem?_getD, List.getElem?_set_self h]; rfl
/-- The state of a search while the edges into s are followed: all but those in l. -/
structure BDs (es : List Ed) (tg : List Int) (n : Nat) (s : Nat) (c : Int) (ds q l : List Int) : Prop where
  ok : BOk n ds q
  at_ : ds.getD s 0 = c
  c0 : 0 ≤ c
  fit : ∀ i, i < n → 0 ≤ ds.getD i 0 → ∃ k : Nat, ds.getD i 0 = k ∧ ReachIn es tg k i
  top : ∀ i, i < n → ds.getD i 0 ≤ c + 1
  low : ∀ s ∈ q, c ≤ ds.getD s.toNat 0
  srt : q.Pairwise fun s t => ds.getD s.toNat 0 ≤ ds.getD t.toNat 0
  done : ∀ x ∈ es, 0 ≤ ds.getD x.t.toNat 0 → x.t ∈ q ∨ (x.t = s ∧ x.f ∈ l) ∨ (0 ≤ ds.getD x.f.toNat 0 ∧ ds.getD x.f.toNat 0 ≤ ds.getD x.t.toNat 0 + 1)
  tgt : ∀ s ∈ tg, ds.getD s.toNat 0 = 0
  bnd : ∀ i, i < n → ds.getD i 0 ≤ n - negs ds
theorem BDs.fold (hes : ∀ x ∈ es, 0 ≤ x.f ∧ x.f < (n : Int) ∧ 0 ≤ x.t ∧ x.t < (n : Int)) (htg : ∀ s ∈ tg, 0 ≤ s ∧ s < (n : Int)) {s : Nat} (hs : s < n) {c : Int} : ∀ (l : List Int) {ds q : List Int}, BDs es tg n s c ds q l → (∀ p ∈ l, ∃ x ∈ es, x.f = p ∧ x.t = s) →
    BDs es tg n s c (l.foldl (bStep s) (ds, q)).1 (l.foldl (bStep s) (ds, q)).2 []
  | [], _, _, h, _ => h
  | p :: l, ds, q, h, hp => by
    rw [List.foldl_cons]
    obtain ⟨x, hx, rfl, hxt⟩ := hp p (List.mem_cons_self ..)
    have hxr := hes x hx
    have hl := h.ok.len
    by_cases hneg : ds.getD x.f.toNat 0 < 0
    · have hst : bStep s (ds, q) x.f = (ds.set x.f.toNat (ds.getD s 0 + 1), q ++ [x.f]) := by unfold bStep; rw [if_pos hneg]
      have hstep := h.ok.step hs (by rw [h.at_]; exact h.c0) x.f hxr.1 hxr.2.1
      rw [hst] at hstep ⊢
      rw [h.at_] at hstep ⊢
      have hne : x.f.toNat ≠ s := by
        intro e; rw [e, h.at_] at hneg; have := h.c0; omega
      have hfl : x.f.toNat < ds.length := by omega
      have hself : (ds.set x.f.toNat (c + 1)).getD x.f.toNat 0 = c + 1 := getD_set_at hfl
      have hother : ∀ i, i ≠ x.f.toNat → (ds.set x.f.toNat (c + 1)).getD i 0 = ds.getD i 0 := fun i hi => getD_set_ne (fun e => hi e.symm)
      have hc0 := h.c0
      obtain ⟨k, hk1, hk2⟩ := h.fit s hs (by rw [h.at_]; exact h.c0)
      rw [h.at_] at hk1
      have hq : ∀ t ∈ q, t.toNat ≠ x.f.toNat := by
        intro t ht e
        have := h.ok.nn t ht
        rw [e] at this; omega
      refine BDs.fold hes htg hs l ⟨hstep.1, by rw [hother s (Ne.symm hne)]; exact h.at_, h.c0, ?_, ?_, ?_, ?_, ?_, ?_, ?_⟩ (fun p hp' => hp p (List.mem_cons_of_mem _ hp'))
      · intro i hi h0
        by_cases e : i = x.f.toNat
        · subst e
          rw [hself]
          refine ⟨k + 1, by omega, x, hx, by omega, ?_⟩
          rw [hxt]; exact hk2
        · rw [hother i e] at h0 ⊢; exact h.fit i hi h0
      · intro i hi
        by_cases e : i = x.f.toNat
        · subst e; rw [hself]; exact Int.le_refl _
        · rw [hother i e]; exact h.top i hi
      · intro t ht
        rcases List.mem_append.1 ht with ht | ht
        · rw [hother _ (hq t ht)]; exact h.low t ht
        · rw [List.mem_singleton.1 ht, hself]; omega
      · rw [List.pairwise_append]
        refine ⟨List.Pairwise.imp_of_mem (fun {a b} ha hb hab => ?_) h.srt, List.pairwise_singleton _ _, fun a ha b hb => ?_⟩
        · rw [hother _ (hq a ha), hother _ (hq b hb)]; exact hab
        · rw [List.mem_singleton.1 hb, hself, hother _ (hq a ha)]
          have h1 := h.ok.qr a ha
          exact h.top a.toNat (by omega)
      · intro y hy h0
        by_cases e : y.t.toNat = x.f.toNat
        · have : y.t = x.f := by have := hes y hy; omega
          exact .inl (by rw [this]; simp)
        · rw [hother _ e] at h0 ⊢
          rcases h.done y hy h0 with h1 | ⟨h1, h2⟩ | ⟨h1, h2⟩
          · exact .inl (List.mem_append_left _ h1)
          · rcases List.mem_cons.1 h2 with h2 | h2
            · refine .inr (.inr ?_)
              rw [h2, hself, h1, Int.toNat_natCast, h.at_]; omega
            · exact .inr (.inl ⟨h1, h2⟩)
          · refine .inr (.inr ?_)
            by_cases e2 : y.f.toNat = x.f.toNat
            · rw [e2] at h1; omega
            · rw [hother _ e2]; exact ⟨h1, h2⟩
      · intro t ht
        have := h.tgt t ht
        by_cases e : t.toNat = x.f.toNat
        · rw [e] at this; omega
        · rw [hother _ e]; exact this
      · intro i hi
        have h9 : negs (ds.set x.f.toNat (c + 1)) + 1 = negs ds := negs_set hfl (by rw [List.getD_eq_getElem?_getD, List.getElem?_eq_getElem hfl] at hneg; exact hneg) (by omega)
        have h8 := h.bnd s hs
        rw [h.at_] at h8
        by_cases e : i = x.f.toNat
        · subst e; rw [hself]; omega
        · rw [hother i e]; have := h.bnd i hi; omega
    · have hst : bStep s (ds, q) x.f = (ds, q) := by unfold bStep; rw [if_neg hneg]
      rw [hst]
      refine BDs.fold hes htg hs l ⟨h.ok, h.at_, h.c0, h.fit, h.top, h.low, h.srt, ?_, h.tgt, h.bnd⟩ (fun p hp' => hp p (List.mem_cons_of_mem _ hp'))
      intro y hy h0
      rcases h.done y hy h0 with h1 | ⟨h1, h2⟩ | h1
      · exact .inl h1
      · rcases List.mem_cons.1 h2 with h2 | h2
        · refine .inr (.inr ?_)
          rw [h2, h1, Int.toNat_natCast, h.at_]
          exact ⟨by omega, h.top _ (by omega)⟩
        · exact .inr (.inl ⟨h1, h2⟩)
      · exact .inr (.inr h1)
theorem BD.bwd (hes : ∀ x ∈ es, 0 ≤ x.f ∧ x.f < (n : Int) ∧ 0 ≤ x.t ∧ x.t < (n : Int)) (htg : ∀ s ∈ tg, 0 ≤ s ∧ s < (n : Int)) : ∀ (f : Nat) {ds q : List Int} {c : Int}, BD es tg n ds q c → 2 * negs ds + q.length < f →
    ∃ c', BD es tg n (Go.Proofs.YtfbapajcheammaaDoor.bwd (inL es) f ds q) [] c'
  | 0, _, _, _, _, hf => absurd hf (by omega)
  | f + 1, ds, [], c, h, _ => ⟨c, h⟩
  | f + 1, ds, s :: q, c, h, hf => by
    rw [Go.Proofs.YtfbapajcheammaaDoor.bwd]
    have hs := h.ok.qr s (List.mem_cons_self ..)
    have h0 := h.ok.nn s (List.mem_cons_self ..)
    have hc := h.low s (List.mem_cons_self ..)
    obtain ⟨hs1, hs2⟩ := List.pairwise_cons.1 h.srt
    have h1 : BDs es tg n s.toNat (ds.getD s.toNat 0) ds q (inL es s.toNat) := by
      refine ⟨h.ok.pop, rfl, h0, h.fit, fun i hi => ?_, hs1, hs2, fun x hx hx0 => ?_, h.tgt, h.bnd⟩
      · have := h.top i hi; omega
      · rcases h.done x hx hx0 with h2 | h2
        · rcases List.mem_cons.1 h2 with h2 | h2
          · refine .inr (.inl ⟨by omega, ?_⟩)
            unfold inL
            exact List.mem_map.2 ⟨x, List.mem_filter.2 ⟨hx, by rw [h2]; simp; omega⟩, rfl⟩
          · exact .inl h2
        · exact .inr (.inr h2)
    have h2 := h1.fold hes htg (by omega) (inL es s.toNat) (fun p hp => inL_mem hp)
    have h3 := BOk.fold (show s.toNat < n by omega) (inL es s.toNat) h.ok.pop h0 (inL_range hes)
    refine BD.bwd hes htg f (c := ds.getD s.toNat 0) ⟨h2.ok, h2.fit, h2.top, h2.low, h2.srt, fun x hx hx0 => ?_, h2.tgt, h2.bnd⟩ ?_
    · rcases h2.done x hx hx0 with h4 | ⟨_, h4⟩ | h4
      · exact .inl h4
      · cases h4
      · exact .inr h4
    · have := h3.2.2
      simp only [List.length_cons] at hf
      omega
/-- backward's distances are the least ones. -/
theorem backward_bd (hn : n ≤ 1000000) (hes : ∀ x ∈ es, 0 ≤ x.f ∧ x.f < (n : Int) ∧ 0 ≤ x.t ∧ x.t < (n : Int)) (htg : ∀ s ∈ tg, 0 ≤ s ∧ s < (n : Int)) (i : Nat) (hi : i < n) : IsDist es tg i ((backward n es tg).getD i 0) ∧ (backward n es tg).getD i 0 ≤ n := by
  have hst := bStart_get n tg (fun s hs => (htg s hs).1)
  have h0 : BD es tg n (bStart n tg) tg 0 := by
    refine ⟨BOk.start n tg hn htg, ?_, ?_, ?_, ?_, ?_, ?_, ?_⟩
    · intro i hi h0
      rw [hst i hi] at h0 ⊢
      by_cases hm : (i : Int) ∈ tg
      · rw [if_pos hm]; exact ⟨0, rfl, hm⟩
      · rw [if_neg hm] at h0; omega
    · intro i hi
      rw [hst i hi]; split <;> omega
    · intro s hs
      have h1 := htg s hs
      rw [hst s.toNat (by omega), if_pos (by rw [Int.toNat_of_nonneg h1.1]; exact hs)]; exact Int.le_refl _
    · refine List.Pairwise.imp_of_mem (R := fun _ _ => True) (fun {a b} ha hb _ => ?_) (List.pairwise_of_forall (fun _ _ => trivial))
      have h1 := htg a ha
      have h2 := htg b hb
      rw [hst a.toNat (by omega), hst b.toNat (by omega), if_pos (by rw [Int.toNat_of_nonneg h1.1]; exact ha), if_pos (by rw [Int.toNat_of_nonneg h2.1]; exact hb)]; exact Int.le_refl _
    · intro x hx h0
      have h1 := hes x hx
      rw [hst x.t.toNat (by omega)] at h0
      by_cases hm : ((x.t.toNat : Nat) : Int) ∈ tg
      · exact .inl (by rwa [Int.toNat_of_nonneg h1.2.2.1] at hm)
      · rw [if_neg hm] at h0; omega
    · intro s hs
      have h1 := htg s hs
      rw [hst s.toNat (by omega), if_pos (by rw [Int.toNat_of_nonneg h1.1]; exact hs)]
    · intro i hi
      have h1 := negs_le (bStart n tg)
      rw [bStart_length] at h1
      rw [hst i hi]; split <;> omega
  obtain ⟨c, h⟩ := h0.bwd hes htg (2 * negs (bStart n tg) + tg.length + 1) (by omega)
  have hE : Go.Proofs.YtfbapajcheammaaDoor.bwd (inL es) (2 * negs (bStart n tg) + tg.length + 1) (bStart n tg) tg = backward n es tg := rfl
  rw [hE] at h
  generalize backward n es tg = D at h
  have key : ∀ (k : Nat) (s : Int), 0 ≤ s → s < n → ReachIn es tg k s → 0 ≤ D.getD s.toNat 0 ∧ D.getD s.toNat 0 ≤ k := by
    intro k
    induction k with
    | zero =>
      intro s h0 h1 hr
      rw [h.tgt s hr]; omega
    | succ k ih =>
      rintro s h0 h1 ⟨x, hx, rfl, hr⟩
      have hxr := hes x hx
      obtain ⟨g1, g2⟩ := ih x.t hxr.2.2.1 hxr.2.2.2 hr
      rcases h.done x hx g1 with h3 | ⟨h3, h4⟩
      · cases h3
      · omega
  refine ⟨?_, by have := h.bnd i hi; omega⟩
  by_cases hneg : 0 ≤ D.getD i 0
  · obtain ⟨k, h1, h2⟩ := h.fit i hi hneg
    refine .inr ⟨k, h1, h2, fun j hj hr => ?_⟩
    have := key j i (by omega) (by omega) hr
    rw [Int.toNat_natCast] at this
    omega
  · refine .inl ⟨?_, fun k hr => ?_⟩
    · have hl := h.ok.len
      have h1 := h.ok.lo (D.getD i 0) (by rw [List.getD_eq_getElem?_getD, List.getElem?_eq_getElem (by omega)]; exact List.getElem_mem _)
      omega
    · have := key k i (by omega) (by omega) hr
      rw [Int.toNat_natCast] at this
      omega
theorem backward_dist (hn : n ≤ 1000000) (hes : ∀ x ∈ es, 0 ≤ x.f ∧ x.f < (n : Int) ∧ 0 ≤ x.t ∧ x.t < (n : Int)) (htg : ∀ s ∈ tg, 0 ≤ s ∧ s < (n : Int)) (i : Nat) (hi : i < n) : IsDist es tg i ((backward n es tg).getD i 0) := (backward_bd hn hes htg i hi).1
end
end Go.Proofs.YtfbapajcheammaaDoor

namespace Go.Proofs.YtfbapajcheammaaDoor
open Go Go.RowKit
/-- An error, as the printed loops hand it on. -/
def errO (e : Int) : Unit ⊕ Int := if e = 0 then .inl () else .inr e
theorem checkSet_go {xs : List Int} {n : Int} (hl : xs.length < 4611686018427387904) : ∀ (j i : Nat), i + j = xs.length →
    iterF (m_automaton_checkSet_l1 xs n) (j + 1) (i : Int) = some (errO (setErr n (prevAt xs i) (xs.drop i))) := by
  intro j
  induction j with
  | zero =>
    intro i hi
    have e : xs.drop i = [] := List.drop_of_length_le (by omega)
    rw [iterF_succ, m_automaton_checkSet_l1, if_neg (by simp; omega), e]
    rfl
  | succ j ih =>
    intro i hi
    have hlt : i < xs.length := by omega
    rw [iterF_succ, m_automaton_checkSet_l1, if_pos (by simp; omega), idx_at hlt, Option.bind_some]
    by_cases h1 : xs[i] < 0 ∨ n ≤ xs[i]
    · rw [if_pos (by simpa using h1), setErr_2 hlt h1]
      rfl
    · rw [if_neg (by simpa using h1)]
      by_cases h0 : 0 < i
      · rw [if_pos (by simp; omega), show (i : Int) - 1 = ((i - 1 : Nat) : Int) by omega, W_nat (by omega), idx_at (show i - 1 < xs.length by omega), Option.bind_some, Option.bind_some]
        by_cases h2 : xs[i] ≤ xs[i - 1]
        · rw [if_pos (by simpa using h2), setErr_5 hlt h1 h0 h2]
          rfl
        · rw [if_neg (by simpa using h2), show (i : Int) + 1 = ((i + 1 : Nat) : Int) by omega, W_nat (by omega), setErr_next hlt h1 (fun _ => by omega)]
          exact ih (i + 1) (by omega)
      · rw [if_neg (by simp; omega), Option.bind_some, if_neg (by simp), show (i : Int) + 1 = ((i + 1 : Nat) : Int) by omega, W_nat (by omega), setErr_next hlt h1 (fun h => absurd h h0)]
        exact ih (i + 1) (by omega)
theorem checkSet_eq {xs : List Int} {n : Int} (hl : xs.length < 4611686018427387904) : m_automaton_checkSet xs n = some (setErr n none xs) := by
  have h : iter (m_automaton_checkSet_l1 xs n) 0 = some (errO (setErr n none xs)) := iter_of (by omega) (checkSet_go (n := n) hl xs.length 0 (by omega))
  rw [m_automaton_checkSet, h, Option.bind_some]
  by_cases h0 : setErr n none xs = 0
  · rw [h0]; rfl
  · rw [errO, if_neg h0]
theorem index_go {xs : List Int} {x : Int} (hl : xs.length < 4611686018427387904) : ∀ (j i : Nat), i + j = xs.length →
    ∃ o, iterF (m_slices_Index_int_l1 xs x) (j + 1) (i : Int) = some o ∧ ((o = .inl () ∧ x ∉ xs.drop i) ∨ ∃ k : Nat, i ≤ k ∧ o = .inr (k : Int) ∧ x ∈ xs.drop i) := by
  intro j
  induction j with
  | zero =>
    intro i hi
    have e : xs.drop i = [] := List.drop_of_length_le (by omega)
    refine ⟨.inl (), ?_, .inl ⟨rfl, by rw [e]; simp⟩⟩
    rw [iterF_succ, m_slices_Index_int_l1, if_neg (by simp; omega)]
  | succ j ih =>
    intro i hi
    have hlt : i < xs.length := by omega
    rw [iterF_succ, m_slices_Index_int_l1, if_pos (by simp; omega), idx_at hlt, Option.bind_some]
    by_cases h1 : x = xs[i]
    · rw [if_pos (by simpa using h1)]
      exact ⟨_, rfl, .inr ⟨i, Nat.le_refl _, rfl, by rw [List.drop_eq_getElem_cons hlt, h1]; exact List.mem_cons_self⟩⟩
    · rw [if_neg (by simpa using h1), show (i : Int) + 1 = ((i + 1 : Nat) : Int) by omega, W_nat (by omega)]
      obtain ⟨o, h2, h3⟩ := ih (i + 1) (by omega)
      refine ⟨o, h2, ?_⟩
      rw [List.drop_eq_getElem_cons hlt]
      rcases h3 with ⟨h4, h5⟩ | ⟨k, h4, h5, h6⟩
      · exact .inl ⟨h4, fun hc => (List.mem_cons.1 hc).elim h1 h5⟩
      · exact .inr ⟨k, by omega, h5, List.mem_cons_of_mem _ h6⟩
theorem contains_eq {xs : List Int} {x : Int} (hl : xs.length < 4611686018427387904) : m_slices_Contains_int xs x = some (hasB xs x) := by
  obtain ⟨o, h1, h2⟩ := index_go (x := x) hl xs.length 0 (by omega)
  have h : iter (m_slices_Index_int_l1 xs x) 0 = some o := iter_of (by omega) h1
  rw [m_slices_Contains_int, m_slices_Index_int, h, Option.bind_some]
  rcases h2 with ⟨rfl, h4⟩ | ⟨k, _, rfl, h4⟩
  · rw [hasB_false.2 (by simpa using h4)]; rfl
  · rw [hasB_true.2 (by simpa using h4)]
    show some (decide ((k : Int) ≥ 0)) = some true
    simp
/-- An edge as the printed functions have it. -/
def edP (x : Ed) : Int × Int × Int := (x.f, x.e, x.t)
def autP (a : Aut) : List Int × Int × List Int × List (Int × Int × Int) := (a.al, a.n, a.ms, a.es.map edP)
def prevE (es : List Ed) (k : Nat) : Option Ed := if k = 0 then none else es[k - 1]?
theorem edErr_dropP {al : List Int} {n : Int} {es : List Ed} {k : Nat} (hk : k < es.length) : edErr al n (prevE es k) (es.drop k) =
    if (es[k].f < 0 ∨ n ≤ es[k].f ∨ es[k].t < 0 ∨ n ≤ es[k].t) then 2 else if hasB al es[k].e = false then 9 else if (∃ q, prevE es k = some q ∧ (es[k].f < q.f ∨ (es[k].f = q.f ∧ es[k].e ≤ q.e))) then 5 else edErr al n (prevE es (k + 1)) (es.drop (k + 1)) := by
  rw [List.drop_eq_getElem_cons hk, edErr]
  congr 3
  simp [prevE, List.getElem?_eq_getElem hk]
theorem edges_go {a : Aut} (hl : a.es.length < 4611686018427387904) (hal : a.al.length < 4611686018427387904) : ∀ (j i : Nat), i + j = a.es.length →
    iterF (m_automaton_checkEdges_l1 (autP a)) (j + 1) (i : Int) = some (errO (edErr a.al a.n (prevE a.es i) (a.es.drop i))) := by
  have hlen : (autP a).2.2.2.length = a.es.length := by simp [autP]
  have hat : ∀ (i : Nat) (h : i < a.es.length), idx (autP a).2.2.2 (i : Int) = some (edP a.es[i]) := fun i h => by
    rw [idx_at (by rw [hlen]; exact h)]; simp [autP]
  intro j
  induction j with
  | zero =>
    intro i hi
    have e : a.es.drop i = [] := List.drop_of_length_le (by omega)
    rw [iterF_succ, m_automaton_checkEdges_l1, if_neg (by rw [hlen]; simp; omega), e]
    rfl
  | succ j ih =>
    intro i hi
    have hlt : i < a.es.length := by omega
    have hnext : m_automaton_checkEdges_j1 (i : Int) = some (.inl ((i + 1 : Nat) : Int)) := by
      rw [m_automaton_checkEdges_j1, show (i : Int) + 1 = ((i + 1 : Nat) : Int) by omega, W_nat (by omega)]
    rw [iterF_succ, m_automaton_checkEdges_l1, if_pos (by rw [hlen]; simp; omega), hat i hlt, Option.bind_some, edErr_dropP hlt]
    by_cases h1 : a.es[i].f < 0 ∨ a.n ≤ a.es[i].f ∨ a.es[i].t < 0 ∨ a.n ≤ a.es[i].t
    · rw [if_pos (by simp only [Bool.or_eq_true, decide_eq_true_eq]; show ((a.es[i].f < 0 ∨ a.es[i].f ≥ a.n) ∨ a.es[i].t < 0) ∨ a.es[i].t ≥ a.n; omega), if_pos h1]
      rfl
    · rw [if_neg (by simp only [Bool.or_eq_true, decide_eq_true_eq]; show ¬ (((a.es[i].f < 0 ∨ a.es[i].f ≥ a.n) ∨ a.es[i].t < 0) ∨ a.es[i].t ≥ a.n); omega), if_neg h1]
      rw [show m_slices_Contains_int (autP a).1 (edP a.es[i]).2.1 = some (hasB a.al a.es[i].e) from contains_eq hal, Option.bind_some]
      cases h2 : hasB a.al a.es[i].e with
      | false => rfl
      | true =>
        rw [if_neg (show ¬ (!true) = true by simp), if_neg (show ¬ (true = false) by simp)]
        by_cases h0 : i = 0
        · subst h0
          rw [if_pos (by simp), hnext, if_neg (by rintro ⟨q, hq, _⟩; simp [prevE] at hq)]
          exact ih 1 (by omega)
        · have hp : prevE a.es i = some a.es[i - 1] := by rw [prevE, if_neg h0, List.getElem?_eq_getElem (by omega)]
          rw [if_neg (by simp; omega), show (i : Int) - 1 = ((i - 1 : Nat) : Int) by omega, W_nat (by omega), hat (i - 1) (by omega), Option.bind_some]
          by_cases h3 : a.es[i].f < a.es[i - 1].f ∨ (a.es[i].f = a.es[i - 1].f ∧ a.es[i].e ≤ a.es[i - 1].e)
          · rw [if_pos (by simp only [Bool.or_eq_true, Bool.and_eq_true, decide_eq_true_eq, beq_iff_eq]; exact h3), if_pos ⟨_, hp, h3⟩]
            rfl
          · rw [if_neg (by simp only [Bool.or_eq_true, Bool.and_eq_true, decide_eq_true_eq, beq_iff_eq]; exact h3), hnext, if_neg (by rintro ⟨q, hq, h4⟩; rw [hp] at hq; cases hq; exact h3 h4)]
            exact ih (i + 1) (by omega)
theorem check_eq {a : Aut} (hl : a.es.length < 4611686018427387904) (hal : a.al.length < 4611686018427387904) (hms : a.ms.length < 4611686018427387904) : m_automaton_Check (autP a) = some a.err := by
  have h : iter (m_automaton_checkEdges_l1 (autP a)) 0 = some (errO (edErr a.al a.n none a.es)) := iter_of (by omega) (edges_go hl hal a.es.length 0 (by omega))
  have he : m_automaton_checkEdges (autP a) = some (edErr a.al a.n none a.es) := by
    rw [m_automaton_checkEdges, h, Option.bind_some]
    by_cases h0 : edErr a.al a.n none a.es = 0
    · rw [h0]; rfl
    · rw [errO, if_neg h0]
  rw [m_automaton_Check, show m_automaton_checkSet (autP a).1 32 = some (setErr 32 none a.al) from checkSet_eq hal, Option.bind_some, Aut.err]
  by_cases h1 : (setErr 32 none a.al != 0) = true
  · rw [if_pos h1, if_pos h1]
  · rw [if_neg h1, if_neg h1]
    by_cases h2 : a.n < 0
    · rw [if_pos (show decide ((autP a).2.1 < 0) = true from decide_eq_true h2), if_pos h2]
    · rw [if_neg (show ¬ decide ((autP a).2.1 < 0) = true from fun e => h2 (of_decide_eq_true e)), if_neg h2]
      by_cases h3 : 4096 < a.n
      · rw [if_pos (show decide ((autP a).2.1 > 4096) = true from decide_eq_true h3), if_pos h3]
      · rw [if_neg (show ¬ decide ((autP a).2.1 > 4096) = true from fun e => h3 (of_decide_eq_true e)), if_neg h3, show m_automaton_checkSet (autP a).2.2.1 (autP a).2.1 = some (setErr a.n none a.ms) from checkSet_eq hms, Option.bind_some]
        by_cases h4 : (setErr a.n none a.ms != 0) = true
        · rw [if_pos h4, if_pos h4]
        · rw [if_neg h4, if_neg h4, he]
          rfl
abbrev Inc (xs : List Int) : Prop := xs.Pairwise (· < ·)
theorem setErr_ok {n : Int} : ∀ {p : Option Int} {xs : List Int}, xs.Pairwise (· < ·) → (∀ x ∈ xs, 0 ≤ x ∧ x < n) → (∀ q, p = some q → ∀ x ∈ xs, q < x) → setErr n p xs = 0
  | _, [], _, _, _ => rfl
  | p, x :: xs, h, hr, hp => by
    obtain ⟨h1, h2⟩ := List.pairwise_cons.1 h
    have h3 := hr x (List.mem_cons_self ..)
    rw [setErr, if_neg (by omega), if_neg ?_]
    · exact setErr_ok h2 (fun y hy => hr y (List.mem_cons_of_mem _ hy)) (fun q hq y hy => by cases hq; exact h1 y hy)
    · rintro ⟨q, hq, hle⟩
      have := hp q hq x (List.mem_cons_self ..)
      omega
theorem edErr_ok {al : List Int} {n : Int} : ∀ {p : Option Ed} {es : List Ed}, Sorted es → (∀ x ∈ es, 0 ≤ x.f ∧ x.f < n ∧ 0 ≤ x.t ∧ x.t < n ∧ hasB al x.e = true) → (∀ q, p = some q → ∀ x ∈ es, edLt q x) → edErr al n p es = 0
  | _, [], _, _, _ => rfl
  | p, x :: xs, h, hr, hp => by
    obtain ⟨h1, h2⟩ := List.pairwise_cons.1 h
    have h3 := hr x (List.mem_cons_self ..)
    rw [edErr, if_neg (by omega), if_neg (by rw [h3.2.2.2.2]; simp), if_neg ?_]
    · exact edErr_ok h2 (fun y hy => hr y (List.mem_cons_of_mem _ hy)) (fun q hq y hy => by cases hq; exact h1 y hy)
    · rintro ⟨q, hq, hle⟩
      have := hp q hq x (List.mem_cons_self ..)
      unfold edLt at this
      omega

theorem autP_toAut (a : AutT) : autP (toAut a) = a := by
  obtain ⟨x, y, z, es⟩ := a
  simp only [autP, toAut, List.map_map]
  rw [show (edP ∘ toEd) = id from rfl, List.map_id]
/-- A right automaton of n states, with short lists. -/
structure Right (a : AutT) (n : Nat) : Prop where
  nn : a.2.1 = (n : Int)
  nl : n ≤ 4096
  ali : Inc a.1
  alr : ∀ x ∈ a.1, 0 ≤ x ∧ x < 32
  msi : Inc a.2.2.1
  msr : ∀ x ∈ a.2.2.1, 0 ≤ x ∧ x < (n : Int)
  es : ∀ x ∈ a.2.2.2, 0 ≤ x.1 ∧ x.1 < (n : Int) ∧ 0 ≤ x.2.2 ∧ x.2.2 < (n : Int) ∧ x.2.1 ∈ a.1
  so : a.2.2.2.Pairwise fun x y => x.1 < y.1 ∨ (x.1 = y.1 ∧ x.2.1 < y.2.1)
  l1 : a.1.length ≤ 1000000
  l2 : a.2.2.1.length ≤ 1000000
  l3 : a.2.2.2.length ≤ 1000000
namespace Right
variable {a : AutT} {n : Nat}
theorem sorted (h : Right a n) : Sorted (a.2.2.2.map toEd) := by
  unfold Sorted
  rw [List.pairwise_map]
  exact h.so
theorem ein (h : Right a n) : ∀ x ∈ a.2.2.2.map toEd, 0 ≤ x.f ∧ x.f < (n : Int) ∧ 0 ≤ x.t ∧ x.t < (n : Int) := fun x hx => by
  obtain ⟨y, hy, rfl⟩ := List.mem_map.1 hx
  have := h.es y hy
  exact ⟨this.1, this.2.1, this.2.2.1, this.2.2.2.1⟩
theorem evs (h : Right a n) : EvEs (a.2.2.2.map toEd) := fun x hx => by
  obtain ⟨y, hy, rfl⟩ := List.mem_map.1 hx
  exact h.alr _ (h.es y hy).2.2.2.2
theorem err (h : Right a n) : (toAut a).err = 0 := by
  have h1 : setErr 32 none (toAut a).al = 0 := setErr_ok h.ali h.alr (fun q hq => by cases hq)
  have hn : (toAut a).n = n := h.nn
  have h2 : setErr (toAut a).n none (toAut a).ms = 0 := by rw [hn]; exact setErr_ok h.msi h.msr (fun q hq => by cases hq)
  have h3 : edErr (toAut a).al (toAut a).n none (toAut a).es = 0 := by
    rw [hn]
    refine edErr_ok h.sorted (fun x hx => ?_) (fun q hq => by cases hq)
    obtain ⟨y, hy, rfl⟩ := List.mem_map.1 hx
    have := h.es y hy
    exact ⟨this.1, this.2.1, this.2.2.1, this.2.2.2.1, hasB_true.2 this.2.2.2.2⟩
  have := h.nl
  unfold Aut.err
  rw [h1, if_neg (by decide), if_neg (by rw [hn]; omega), if_neg (by rw [hn]; omega), h2, if_neg (by decide), h3]
theorem check (h : Right a n) : m_automaton_Check a = some 0 := by
  have h1 := h.l1
  have h2 := h.l2
  have h3 := h.l3
  have := check_eq (a := toAut a) (by simp [toAut]; omega) (by simp [toAut]; omega) (by simp [toAut]; omega)
  rwa [autP_toAut, h.err] at this
end Right
theorem inc_len {n : Nat} : ∀ {xs : List Int} {lo : Int}, Inc xs → (∀ x ∈ xs, lo ≤ x ∧ x < (n : Int)) → 0 ≤ lo → xs.length ≤ n - lo.toNat
  | [], _, _, _, _ => Nat.zero_le _
  | x :: xs, lo, h, hr, h0 => by
    obtain ⟨h1, h2⟩ := List.pairwise_cons.1 h
    have hx := hr x (List.mem_cons_self ..)
    have := inc_len (n := n) (lo := x + 1) h2 (fun y hy => ⟨by have := h1 y hy; omega, (hr y (List.mem_cons_of_mem _ hy)).2⟩) (by omega)
    rw [List.length_cons]
    omega
end Go.Proofs.YtfbapajcheammaaDoor

namespace Go.Proofs.YtfbapajcheammaaDoor
open Go Go.RowKit
theorem nodup_len : ∀ (N : Nat) (l : List Nat), l.Nodup → (∀ x ∈ l, x < N) → l.length ≤ N
  | 0, [], _, _ => Nat.le_refl _
  | 0, x :: l, _, h => absurd (h x (List.mem_cons_self ..)) (by omega)
  | N + 1, l, hn, h => by
    by_cases hm : N ∈ l
    · have h1 := nodup_len N (l.erase N) (hn.erase N) (fun x hx => by
        have h2 := (hn.mem_erase_iff).1 hx
        have := h x h2.2
        omega)
      rw [List.length_erase_of_mem hm] at h1
      omega
    · have h1 := nodup_len N l hn (fun x hx => by
        have := h x hx
        have : x ≠ N := fun e => hm (e ▸ hx)
        omega)
      omega
end Go.Proofs.YtfbapajcheammaaDoor

namespace Go.Proofs.YtfbapajcheammaaDoor
open Go Go.RowKit
/-- A state is reached from another. -/
def Rch (es : List Ed) (x y : Int) : Prop := ∃ k, ReachIn es [y] k x
theorem reachIn_iff {es : List Ed} {tg : List Int} : ∀ {k : Nat} {x : Int}, ReachIn es tg k x ↔ ∃ y ∈ tg, ReachIn es [y] k x
  | 0, x => by simp [ReachIn]
  | k + 1, x => by
    constructor
    · rintro ⟨e, he, h1, h2⟩
      obtain ⟨y, hy, h3⟩ := reachIn_iff.1 h2
      exact ⟨y, hy, e, he, h1, h3⟩
    · rintro ⟨y, hy, e, he, h1, h2⟩
      exact ⟨e, he, h1, reachIn_iff.2 ⟨y, hy, h2⟩⟩
theorem ReachIn.snoc {es : List Ed} : ∀ {k : Nat} {x : Int} {e : Ed}, e ∈ es → ReachIn es [e.f] k x → ReachIn es [e.t] (k + 1) x
  | 0, x, e, he, h => ⟨e, he, (List.mem_singleton.1 h).symm, List.mem_singleton.2 rfl⟩
  | k + 1, x, e, he, ⟨y, hy, h1, h2⟩ => ⟨y, hy, h1, h2.snoc he⟩
theorem Rch.refl (es : List Ed) (x : Int) : Rch es x x := ⟨0, List.mem_singleton.2 rfl⟩
theorem Rch.snoc {es : List Ed} {x : Int} {e : Ed} (he : e ∈ es) (h : Rch es x e.f) : Rch es x e.t := by
  obtain ⟨k, h⟩ := h
  exact ⟨k + 1, h.snoc he⟩
theorem reachIn_closed {es : List Ed} {S : Int → Prop} (hS : ∀ e ∈ es, S e.f → S e.t) {y : Int} : ∀ {k : Nat} {x : Int}, S x → ReachIn es [y] k x → S y
  | 0, x, h, h1 => by rw [← List.mem_singleton.1 h1]; exact h
  | k + 1, x, h, ⟨e, he, h1, h2⟩ => reachIn_closed hS (hS e he (h1 ▸ h)) h2
theorem Rch.closed {es : List Ed} {S : Int → Prop} (hS : ∀ e ∈ es, S e.f → S e.t) {x y : Int} (h : S x) (hr : Rch es x y) : S y := by
  obtain ⟨k, hr⟩ := hr
  exact reachIn_closed hS h hr
theorem reachIn_trans {es : List Ed} {y z : Int} {j : Nat} (hz : ReachIn es [z] j y) : ∀ {k : Nat} {x : Int}, ReachIn es [y] k x → ReachIn es [z] (k + j) x
  | 0, x, h => by rw [List.mem_singleton.1 h, Nat.zero_add]; exact hz
  | k + 1, x, ⟨e, he, h1, h2⟩ => by
    rw [Nat.add_right_comm]
    exact ⟨e, he, h1, reachIn_trans hz h2⟩
theorem Rch.trans {es : List Ed} {x y z : Int} (h : Rch es x y) (h2 : Rch es y z) : Rch es x z := by
  obtain ⟨k, h⟩ := h
  obtain ⟨j, h2⟩ := h2
  exact ⟨_, reachIn_trans h2 h⟩
theorem leads_reach {es : List Ed} {perm : Ed → Bool} : ∀ {u : List Int} {s t : Int}, Leads es perm s u t → ReachIn es [t] u.length s
  | [], s, t, h => List.mem_singleton.2 h
  | e :: u, s, t, ⟨x, hx, h1, h2, h3, h4⟩ => ⟨x, hx, h1, leads_reach h4⟩
theorem reach_leads {es : List Ed} {perm : Ed → Bool} (hp : ∀ x ∈ es, perm x = true) {t : Int} : ∀ {k : Nat} {s : Int}, ReachIn es [t] k s → ∃ u : List Int, u.length = k ∧ Leads es perm s u t
  | 0, s, h => ⟨[], rfl, List.mem_singleton.1 h⟩
  | k + 1, s, ⟨x, hx, h1, h2⟩ => by
    obtain ⟨u, h3, h4⟩ := reach_leads hp h2
    exact ⟨x.e :: u, by rw [List.length_cons, h3], x, hx, h1, rfl, hp x hx, h4⟩
theorem allL_inc (n : Nat) : Inc (allL n) := by
  unfold allL Inc
  rw [List.pairwise_map]
  exact List.Pairwise.imp (fun {a b} h => by omega) List.pairwise_lt_range
theorem allL_in (n : Nat) : ∀ x ∈ allL n, 0 ≤ x ∧ x < (n : Int) := by
  intro x hx
  obtain ⟨i, hi, rfl⟩ := List.mem_map.1 hx
  have := List.mem_range.1 hi
  omega
theorem allL_has {n : Nat} {s : Int} (h0 : 0 ≤ s) (h1 : s < n) : hasB (allL n) s = true := by
  rw [hasB_true]
  exact List.mem_map.2 ⟨s.toNat, List.mem_range.2 (by omega), by omega⟩
/-- What reach.Path says of a right automaton, within all of its states. -/
structure PathSays (es : List Ed) (tg : List Int) (x : Int) (r : List Int × Bool × Int) : Prop where
  err : r.2.2 = 0
  no : r.2.1 = false → r.1 = [] ∧ ∀ k, ¬ ReachIn es tg k x
  yes : r.2.1 = true → ReachIn es tg r.1.length x ∧ ∀ j, j < r.1.length → ¬ ReachIn es tg j x
theorem path_ex {p : AutT} {n : Nat} (h : Right p n) {x : Int} (x0 : 0 ≤ x) (x1 : x < (n : Int)) {tg : List Int} (hi : Inc tg) (hr : ∀ y ∈ tg, 0 ≤ y ∧ y < (n : Int)) (hl : tg.length ≤ 1000000) :
    ∃ r, m_reach_Path p x tg (allL n) = some r ∧ PathSays (p.2.2.2.map toEd) tg x r := by
  have hn := h.nl
  have hN : (toAut p).n = n := h.nn
  have hpe : pathErr (toAut p) x tg (allL n) = 0 := by
    unfold pathErr
    rw [h.err, hN, if_neg (by omega), setErr_ok hi hr (fun q hq => by cases hq), setErr_ok (allL_inc n) (allL_in n) (fun q hq => by cases hq)]
    rfl
  have hall := allL_len n
  have hp : ∀ e ∈ (p.2.2.2.map toEd), (fun e : Ed => hasB (allL n) e.t) e = true := fun e he => by
    have := h.ein e he
    exact allL_has this.2.2.1 this.2.2.2
  have hpa : reachPath (toAut p) x tg (allL n) = pathF n (p.2.2.2.map toEd) (hasB tg) (fun e => hasB (allL n) e.t) x.toNat := by
    unfold reachPath
    rw [if_pos (allL_has x0 x1), hN, Int.toNat_natCast]
    rfl
  have hs := pathF_says (es := p.2.2.2.map toEd) (perm := fun e => hasB (allL n) e.t) (want := hasB tg) (from_ := x.toNat) (n := n) h.sorted (fun e he => (h.ein e he).2.2) h.evs (by omega)
  rw [Int.toNat_of_nonneg x0] at hs
  have hc : p.1.length ≤ 1000000 ∧ p.2.2.1.length ≤ 1000000 ∧ p.2.2.2.length ≤ 1000000 ∧ tg.length ≤ 1000000 ∧ (allL n).length ≤ 1000000 := ⟨h.l1, h.l2, h.l3, hl, by omega⟩
  rw [m_reach_Path, if_pos hc, if_pos hpe, hpa]
  generalize pathF n (p.2.2.2.map toEd) (hasB tg) (fun e => hasB (allL n) e.t) x.toNat = r at hs ⊢
  cases r with
  | none =>
    refine ⟨_, rfl, rfl, fun _ => ⟨rfl, fun k hk => ?_⟩, fun e => by cases e⟩
    obtain ⟨y, hy, h1⟩ := reachIn_iff.1 hk
    obtain ⟨u, _, h2⟩ := reach_leads hp h1
    have h3 := hs u y h2
    rw [hasB_true.2 hy] at h3
    cases h3
  | some w =>
    refine ⟨_, rfl, rfl, fun e => (by cases e), fun _ => ⟨?_, fun j hj hk => ?_⟩⟩
    · obtain ⟨t, h1, h2⟩ := hs.leads
      exact reachIn_iff.2 ⟨t, hasB_true.1 h2, leads_reach h1⟩
    · obtain ⟨y, hy, h1⟩ := reachIn_iff.1 hk
      obtain ⟨u, hu, h2⟩ := reach_leads hp h1
      have h3 := hs.le u y h2 (hasB_true.2 hy) (Nat.zero_le _)
      have h4 := wval_len hs.ev (h2.evs h.evs) h3
      dsimp only at hj
      omega

/-- What holds while from searches: the list is closed below i. -/
structure FI (p : AutT) (n : Nat) (x : Int) (i : Nat) (F : List Bool) (L : List Int) : Prop where
  len : F.length = n
  nd : L.Nodup
  mem : ∀ y ∈ L, 0 ≤ y ∧ y < (n : Int) ∧ Rch (p.2.2.2.map toEd) x y
  tr : ∀ y : Nat, y < n → (F[y]? = some true ↔ (y : Int) ∈ L)
  st : x ∈ L
  done : ∀ j (h : j < L.length), j < i → ∀ e ∈ p.2.2.2, e.1 = L[j] → e.2.2 ∈ L
section
variable {p : AutT} {n : Nat} {x : Int} {i : Nat} {F : List Bool} {L : List Int}
theorem FI.le (h : FI p n x i F L) : L.length ≤ n := by
  have := nodup_len n (L.map Int.toNat) ?_ ?_
  · rwa [List.length_map] at this
  · rw [List.Nodup, List.pairwise_map]
    refine List.Pairwise.imp_of_mem (fun {a b} ha hb hab e => hab ?_) h.nd
    have h1 := h.mem a ha
    have h2 := h.mem b hb
    omega
  · intro y hy
    obtain ⟨z, hz, rfl⟩ := List.mem_map.1 hy
    have := h.mem z hz
    omega
theorem FI.push (h : FI p n x i F L) {y : Nat} (hy : y < n) (hn : (y : Int) ∉ L) (hr : Rch (p.2.2.2.map toEd) x y) (hi : i ≤ L.length) : FI p n x i (F.set y true) (L ++ [(y : Int)]) := by
  have hl := h.len
  refine ⟨by rw [List.length_set]; exact hl, ?_, fun z hz => ?_, fun z hz => ?_, List.mem_append_left _ h.st, fun j hj hji e he h1 => ?_⟩
  · rw [List.nodup_append]
    refine ⟨h.nd, by simp, fun a ha b hb => ?_⟩
    rw [List.mem_singleton.1 hb]
    exact fun e => hn (e ▸ ha)
  · rcases List.mem_append.1 hz with hz | hz
    · exact h.mem z hz
    · rw [List.mem_singleton.1 hz]; exact ⟨by omega, by omega, hr⟩
  · by_cases e : y = z
    · subst e
      rw [List.getElem?_set_self (by omega)]
      exact ⟨fun _ => List.mem_append_right _ (List.mem_singleton.2 rfl), fun _ => rfl⟩
    · rw [List.getElem?_set_ne e, h.tr z hz, List.mem_append, List.mem_singleton]
      exact ⟨.inl, fun h => h.resolve_right (by omega)⟩
  · rw [List.getElem_append_left (by omega)] at h1
    exact List.mem_append_left _ (h.done j (by omega) hji e he h1)
end
theorem from_inner {p : AutT} {n : Nat} (hR : Right p n) {x : Int} {i : Nat} {F : List Bool} {L : List Int} (h : FI p n x i F L) (hi : i < L.length) :
    ∃ F' L', iter (m_overseerlaw24_from_l2 p ((i : Int), F, L)) (0, F, L) = some (F', L') ∧ FI p n x (i + 1) F' L' ∧ i < L'.length := by
  have hl3 := hR.l3
  have hnl := hR.nl
  obtain ⟨c, hc⟩ : ∃ c, L[i]? = some c := ⟨_, List.getElem?_eq_getElem hi⟩
  obtain ⟨o, h1, h2⟩ := iter_inv (f := m_overseerlaw24_from_l2 p ((i : Int), F, L)) (fun k s => k ≤ p.2.2.2.length ∧ s.1 = (k : Int) ∧ FI p n x i s.2.1 s.2.2 ∧ s.2.2[i]? = some c ∧ ∀ e ∈ p.2.2.2.take k, e.1 = c → e.2.2 ∈ s.2.2) (fun o => FI p n x (i + 1) o.1 o.2 ∧ i < o.2.length) p.2.2.2.length 0 (by omega) (fun k s hk ⟨_, e1, g1, g2, g3⟩ => by
      obtain ⟨k', F, L⟩ := s
      dsimp only at e1 g1 g2 g3
      subst e1
      obtain ⟨hiL, hiE⟩ := List.getElem?_eq_some_iff.1 g2
      have hLn := g1.le
      have hx := hR.es _ (List.getElem_mem hk)
      obtain ⟨y, hy⟩ := Int.eq_ofNat_of_zero_le hx.2.2.1
      have hyn : y < n := by omega
      have hyF : y < F.length := by rw [g1.len]; exact hyn
      have hj1 : ∀ u v, m_overseerlaw24_from_j1 ((k : Int), F, L) u v = some (.inl (((k + 1 : Nat) : Int), v, u)) := fun u v => by
        rw [m_overseerlaw24_from_j1]; dsimp only; rw [nxt (by omega)]
      have htr := g1.tr y hyn
      rw [List.getElem?_eq_getElem hyF] at htr
      have hts : ∀ e ∈ p.2.2.2.take (k + 1), e ∈ p.2.2.2.take k ∨ e = p.2.2.2[k] := fun e he => by
        rw [take_snoc p.2.2.2 k hk] at he
        rcases List.mem_append.1 he with he | he
        · exact .inl he
        · exact .inr (List.mem_singleton.1 he)
      left
      rw [m_overseerlaw24_from_l2]
      dsimp only
      rw [if_pos (ct_lt hk), idx_at hk, Option.bind_some, Option.bind_some, idx_at hiL, Option.bind_some]
      by_cases hf : p.2.2.2[k].1 = L[i]
      · rw [if_pos (by simpa using hf), hy, idx_at hyF, Option.bind_some, m_overseerlaw24_from_j2]
        by_cases hb : F[y] = true
        · rw [if_neg (by simp [hb])]
          dsimp only
          rw [hj1]
          refine ⟨_, rfl, by omega, rfl, g1, g2, fun e he h1 => ?_⟩
          rcases hts e he with he | he
          · exact g3 e he h1
          · rw [he, hy]; exact htr.1 (by rw [hb])
        · have hnL : (y : Int) ∉ L := fun hm => hb (by have := htr.2 hm; simpa using this)
          rw [if_pos (by simp [hb])]
          dsimp only
          rw [hy, idx_at hyF, Option.bind_some, upd_at hyF, Option.bind_some, app_eq (by simp; omega), Option.bind_some, hj1]
          have hrch : Rch (p.2.2.2.map toEd) x y := by
            have := Rch.snoc (es := p.2.2.2.map toEd) (x := x) (e := toEd p.2.2.2[k]) (List.mem_map.2 ⟨_, List.getElem_mem hk, rfl⟩) (by
              show Rch _ x p.2.2.2[k].1
              rw [hf]; exact (g1.mem _ (List.getElem_mem hiL)).2.2)
            rw [← hy]; exact this
          refine ⟨_, rfl, by omega, rfl, g1.push hyn hnL hrch (by omega), ?_, fun e he h1 => ?_⟩
          · dsimp only; rw [List.getElem?_append_left hiL]; exact g2
          · rcases hts e he with he | he
            · exact List.mem_append_left _ (g3 e he h1)
            · rw [he, hy]; exact List.mem_append_right _ (List.mem_singleton.2 rfl)
      · rw [if_neg (by simpa using hf), m_overseerlaw24_from_j2, if_neg (by simp)]
        dsimp only
        rw [hj1]
        refine ⟨_, rfl, by omega, rfl, g1, g2, fun e he h1 => ?_⟩
        rcases hts e he with he | he
        · exact g3 e he h1
        · rw [he, ← hiE] at h1; exact absurd h1 hf) (fun s ⟨_, e1, g1, g2, g3⟩ => by
      obtain ⟨k', F, L⟩ := s
      dsimp only at e1 g1 g2 g3
      subst e1
      obtain ⟨hiL, hiE⟩ := List.getElem?_eq_some_iff.1 g2
      refine ⟨(F, L), ?_, ⟨g1.len, g1.nd, g1.mem, g1.tr, g1.st, fun j hj hji e he h1 => ?_⟩, hiL⟩
      · rw [m_overseerlaw24_from_l2]
        dsimp only
        rw [if_neg ct_ge]
      · by_cases e : j < i
        · exact g1.done j hj e _ he h1
        · have : j = i := by omega
          subst this
          rw [List.take_length] at g3
          exact g3 _ he (h1.trans hiE)) (Nat.zero_le _) (0, F, L) ⟨Nat.zero_le _, rfl, h, hc, fun e he => by simp at he⟩
  exact ⟨o.1, o.2, h1, h2.1, h2.2⟩
/-- The states that are reached. -/
theorem from_ex {p : AutT} {n : Nat} (hR : Right p n) {x : Nat} (hx : x < n) : ∃ F, m_overseerlaw24_from p (x : Int) = some F ∧ F.length = n ∧ ∀ y : Nat, y < n → (F[y]? = some true ↔ Rch (p.2.2.2.map toEd) x y) := by
  have hnl := hR.nl
  have h0 : FI p n (x : Int) 0 ((List.replicate n false).set x true) [(x : Int)] := by
    refine ⟨by simp, by simp, fun y hy => ?_, fun y hy => ?_, List.mem_singleton.2 rfl, fun j hj hji => absurd hji (by omega)⟩
    · rw [List.mem_singleton.1 hy]; exact ⟨by omega, by omega, Rch.refl _ _⟩
    · rw [List.mem_singleton]
      by_cases e : x = y
      · subst e; rw [List.getElem?_set_self (by simpa using hx)]; simp
      · rw [List.getElem?_set_ne e, List.getElem?_replicate, if_pos hy]
        simp; omega
  obtain ⟨o, h1, h2⟩ := iter_inv (f := m_overseerlaw24_from_l1 p) (fun i s => s.1 = (i : Int) ∧ FI p n x i s.2.1 s.2.2 ∧ i ≤ s.2.2.length) (fun F => ∃ L, FI p n x L.length F L) n 0 (by omega) (fun i s _ ⟨e1, g1, g2⟩ => by
      obtain ⟨k, F, L⟩ := s
      dsimp only at e1 g1 g2
      subst e1
      have hle := g1.le
      by_cases hi : i < L.length
      · obtain ⟨F', L', g3, g4, g5⟩ := from_inner hR g1 hi
        left
        rw [m_overseerlaw24_from_l1]
        dsimp only
        rw [if_pos (ct_lt hi), g3, Option.bind_some, nxt (by omega)]
        exact ⟨_, rfl, rfl, g4, g5⟩
      · obtain rfl : i = L.length := by omega
        right
        refine ⟨F, ?_, L, g1⟩
        rw [m_overseerlaw24_from_l1]
        dsimp only
        rw [if_neg ct_ge]) (fun s ⟨e1, g1, g2⟩ => by
      obtain ⟨k, F, L⟩ := s
      dsimp only at e1 g1 g2
      subst e1
      have hle := g1.le
      obtain rfl : n = L.length := by omega
      refine ⟨F, ?_, L, g1⟩
      rw [m_overseerlaw24_from_l1]
      dsimp only
      rw [if_neg ct_ge]) (Nat.zero_le _) (0, (List.replicate n false).set x true, [(x : Int)]) ⟨rfl, h0, by simp⟩
  have hm : mkL p.2.1 false = some (List.replicate n false) := by unfold mkL; rw [hR.nn, if_pos ⟨by omega, by omega⟩, Int.toNat_natCast]
  have hxl : x < (List.replicate n false).length := by simpa using hx
  obtain ⟨L, h2⟩ := h2
  refine ⟨o, ?_, h2.len, fun y hy => ?_⟩
  · rw [m_overseerlaw24_from, hm, Option.bind_some, idx_at hxl, Option.bind_some, upd_at hxl, Option.bind_some, h1]
    rfl
  · rw [h2.tr y hy]
    refine ⟨fun hm => (h2.mem _ hm).2.2, fun hr => ?_⟩
    refine hr.closed (S := fun z => z ∈ L) (fun e he hf => ?_) h2.st
    obtain ⟨z, hz, rfl⟩ := List.mem_map.1 he
    obtain ⟨j, hj, hje⟩ := List.getElem_of_mem hf
    exact h2.done j hj hj z hz hje.symm
end Go.Proofs.YtfbapajcheammaaDoor

namespace Go.Proofs.YtfbapajcheammaaDoor
open Go Go.RowKit
/-- A loop that looks for the first number of some kind. -/
theorem find_loop {R : Type} {f : Int → Option (Int ⊕ (Unit ⊕ R))} (n : Nat) (hn : n ≤ 4000000) (b : Nat → Bool) (r : Nat → R) (step : ∀ i, i < n → f (i : Int) = if b i = true then some (.inr (.inr (r i))) else some (.inl ((i + 1 : Nat) : Int))) (last : f (n : Int) = some (.inr (.inl ()))) :
    ∃ o, iter f 0 = some o ∧ ((o = .inl () ∧ ∀ i, i < n → b i = false) ∨ ∃ i, i < n ∧ o = .inr (r i) ∧ b i = true ∧ ∀ j, j < i → b j = false) := by
  refine iter_inv (f := f) (fun i s => s = (i : Int) ∧ ∀ j, j < i → b j = false) _ n 0 (by omega) (fun i s hi ⟨e1, g1⟩ => ?_) (fun s ⟨e1, g1⟩ => ?_) (Nat.zero_le _) 0 ⟨rfl, fun j hj => absurd hj (by omega)⟩
  · subst e1
    rw [step i hi]
    cases hb : b i with
    | true => exact .inr ⟨_, rfl, .inr ⟨i, hi, rfl, hb, g1⟩⟩
    | false =>
      refine .inl ⟨_, rfl, rfl, fun j hj => ?_⟩
      by_cases h : j < i
      · exact g1 j h
      · obtain rfl : j = i := by omega
        exact hb
  · subst e1
    exact ⟨_, last, .inl ⟨rfl, g1⟩⟩
theorem lhas_eq {xs : List Int} {x : Int} (hl : xs.length ≤ 4000000) : m_overseerlaw24_has xs x = some (hasB xs x) := by
  obtain ⟨o, h1, h2⟩ := find_loop (f := m_overseerlaw24_has_l1 xs x) xs.length hl (fun i => xs.getD i 0 == x) (fun _ => ()) (fun i hi => by
      rw [m_overseerlaw24_has_l1, if_pos (ct_lt hi), idx_at hi, Option.bind_some, nxt (by omega), List.getD_eq_getElem?_getD, List.getElem?_eq_getElem hi]; rfl) (by rw [m_overseerlaw24_has_l1, if_neg ct_ge])
  rw [m_overseerlaw24_has, h1, Option.bind_some]
  rcases h2 with ⟨rfl, h3⟩ | ⟨i, hi, rfl, h3, _⟩
  · rw [hasB_false.2]
    intro hm
    obtain ⟨k, hk, rfl⟩ := List.getElem_of_mem hm
    have := h3 k hk
    rw [List.getD_eq_getElem?_getD, List.getElem?_eq_getElem hk] at this
    simp at this
  · rw [List.getD_eq_getElem?_getD, List.getElem?_eq_getElem hi] at h3
    rw [hasB_true.2]
    rw [← eq_of_beq h3]
    exact List.getElem_mem _
theorem meets_ex {F : List Bool} {ms : List Int} (hl : ms.length ≤ 4000000) (hr : ∀ y ∈ ms, 0 ≤ y ∧ y < (F.length : Int)) : ∃ b, m_overseerlaw24_meets F ms = some b ∧ (b = true ↔ ∃ y ∈ ms, F[y.toNat]? = some true) := by
  obtain ⟨o, h1, h2⟩ := find_loop (f := m_overseerlaw24_meets_l1 F ms) ms.length hl (fun i => F.getD (ms.getD i 0).toNat false) (fun _ => ()) (fun i hi => by
      have h0 := hr _ (List.getElem_mem hi)
      obtain ⟨y, hy⟩ := Int.eq_ofNat_of_zero_le h0.1
      have hyF : y < F.length := by omega
      rw [m_overseerlaw24_meets_l1, if_pos (ct_lt hi), idx_at hi, Option.bind_some, hy, idx_at hyF, Option.bind_some, nxt (by omega), List.getD_eq_getElem?_getD (l := ms), List.getElem?_eq_getElem hi, Option.getD_some, hy, Int.toNat_natCast, List.getD_eq_getElem?_getD, List.getElem?_eq_getElem hyF]; rfl) (by rw [m_overseerlaw24_meets_l1, if_neg ct_ge])
  have hg : ∀ (i : Nat) (hi : i < ms.length), (F.getD (ms.getD i 0).toNat false = true ↔ F[ms[i].toNat]? = some true) := fun i hi => by
    have h0 := hr _ (List.getElem_mem hi)
    have hyF : ms[i].toNat < F.length := by omega
    rw [List.getD_eq_getElem?_getD (l := ms), List.getElem?_eq_getElem hi, Option.getD_some, List.getD_eq_getElem?_getD, List.getElem?_eq_getElem hyF]
    simp
  rw [m_overseerlaw24_meets, h1, Option.bind_some]
  rcases h2 with ⟨rfl, h3⟩ | ⟨i, hi, rfl, h3, _⟩
  · refine ⟨_, rfl, fun e => (by cases e), fun ⟨y, hy, hF⟩ => ?_⟩
    obtain ⟨k, hk, rfl⟩ := List.getElem_of_mem hy
    have := (hg k hk).2 hF
    rw [h3 k hk] at this
    exact this
  · exact ⟨_, rfl, fun _ => ⟨_, List.getElem_mem hi, (hg i hi).1 h3⟩, fun _ => rfl⟩
/-- No edge leads from a state. -/
def DeadS (p : AutT) (x : Int) : Prop := ∀ e ∈ p.2.2.2, e.1 ≠ x
theorem dead_ex {p : AutT} {x : Int} (hl : p.2.2.2.length ≤ 4000000) : ∃ b, m_overseerlaw24_dead p x = some b ∧ (b = true ↔ DeadS p x) := by
  obtain ⟨o, h1, h2⟩ := find_loop (f := m_overseerlaw24_dead_l1 p x) p.2.2.2.length hl (fun i => (p.2.2.2.getD i (0, 0, 0)).1 == x) (fun _ => ()) (fun i hi => by
      rw [m_overseerlaw24_dead_l1, if_pos (ct_lt hi), idx_at hi, Option.bind_some, nxt (by omega), List.getD_eq_getElem?_getD, List.getElem?_eq_getElem hi]; rfl) (by rw [m_overseerlaw24_dead_l1, if_neg ct_ge])
  rw [m_overseerlaw24_dead, h1, Option.bind_some]
  rcases h2 with ⟨rfl, h3⟩ | ⟨i, hi, rfl, h3, _⟩
  · refine ⟨_, rfl, fun _ e he h => ?_, fun _ => rfl⟩
    obtain ⟨k, hk, rfl⟩ := List.getElem_of_mem he
    have := h3 k hk
    rw [List.getD_eq_getElem?_getD, List.getElem?_eq_getElem hk] at this
    simp [h] at this
  · refine ⟨_, rfl, fun e => (by cases e), fun hd => ?_⟩
    rw [List.getD_eq_getElem?_getD, List.getElem?_eq_getElem hi] at h3
    exact absurd (eq_of_beq h3) (hd _ (List.getElem_mem hi))

abbrev edsOf (p : AutT) : List Ed := p.2.2.2.map toEd
/-- No marked state is reached. -/
def NoM (p : AutT) (x : Int) : Prop := ∀ k, ¬ ReachIn (edsOf p) p.2.2.1 k x
/-- The kind of a state. -/
def KindIs (p : AutT) (x k : Int) : Prop :=
  (k = 1 ∧ x ∈ p.2.2.1) ∨ (k = 2 ∧ x ∉ p.2.2.1 ∧ ¬ NoM p x) ∨ (k = 3 ∧ NoM p x ∧ DeadS p x) ∨
  (k = 5 ∧ NoM p x ∧ ¬ DeadS p x ∧ ∃ y, Rch (edsOf p) x y ∧ DeadS p y) ∨ (k = 4 ∧ NoM p x ∧ ¬ DeadS p x ∧ ∀ y, Rch (edsOf p) x y → ¬ DeadS p y)
theorem NoM.not {p : AutT} {x : Int} (h : NoM p x) : x ∉ p.2.2.1 := fun hx => h 0 hx
theorem KindIs.unique {p : AutT} {x k k' : Int} (h : KindIs p x k) (h' : KindIs p x k') : k = k' := by
  have hn : NoM p x → x ∉ p.2.2.1 := NoM.not
  rcases h with ⟨rfl, h1⟩ | ⟨rfl, h1, h2⟩ | ⟨rfl, h1, h2⟩ | ⟨rfl, h1, h2, y, h3, h4⟩ | ⟨rfl, h1, h2, h3⟩ <;>
  rcases h' with ⟨rfl, g1⟩ | ⟨rfl, g1, g2⟩ | ⟨rfl, g1, g2⟩ | ⟨rfl, g1, g2, z, g3, g4⟩ | ⟨rfl, g1, g2, g3⟩ <;>
  first
  | rfl
  | exact absurd h1 g1
  | exact absurd g1 h1
  | exact absurd h1 (hn g1)
  | exact absurd g1 (hn h1)
  | exact absurd g1 h2
  | exact absurd h1 g2
  | exact absurd h2 g2
  | exact absurd g2 h2
  | exact absurd h4 (g3 y h3)
  | exact absurd g4 (h3 z g3)
theorem noM_iff {p : AutT} {x : Int} : NoM p x ↔ ∀ y ∈ p.2.2.1, ¬ Rch (edsOf p) x y := by
  constructor
  · rintro h y hy ⟨k, hk⟩
    exact h k (reachIn_iff.2 ⟨y, hy, hk⟩)
  · intro h k hk
    obtain ⟨y, hy, h1⟩ := reachIn_iff.1 hk
    exact h y hy ⟨k, h1⟩
theorem Right.rch {p : AutT} {n : Nat} (hR : Right p n) {x y : Int} (h0 : 0 ≤ x ∧ x < (n : Int)) (h : Rch (edsOf p) x y) : 0 ≤ y ∧ y < (n : Int) :=
  h.closed (S := fun z => 0 ≤ z ∧ z < (n : Int)) (fun e he _ => (hR.ein e he).2.2) h0
theorem kind_ex {p : AutT} {n : Nat} (hR : Right p n) {x : Nat} (hx : x < n) : ∃ k, m_overseerlaw24_kind p (x : Int) = some k ∧ KindIs p x k := by
  have hnl := hR.nl
  have hl2 := hR.l2
  have hl3 := hR.l3
  obtain ⟨F, hF, hFl, hFr⟩ := from_ex hR hx
  have hrx : ∀ y, Rch (edsOf p) x y → 0 ≤ y ∧ y < (n : Int) := fun y => hR.rch ⟨by omega, by omega⟩
  obtain ⟨b, hb, hbi⟩ := meets_ex (F := F) (ms := p.2.2.1) (by omega) (fun y hy => by rw [hFl]; exact hR.msr y hy)
  obtain ⟨d, hd, hdi⟩ := dead_ex (p := p) (x := (x : Int)) (by omega)
  rw [m_overseerlaw24_kind, hF, Option.bind_some, lhas_eq (by omega), Option.bind_some]
  cases hm : hasB p.2.2.1 (x : Int) with
  | true =>
    rw [if_pos rfl]
    exact ⟨_, rfl, .inl ⟨rfl, hasB_true.1 hm⟩⟩
  | false =>
    have hm' := hasB_false.1 hm
    rw [if_neg (by simp), hb, Option.bind_some]
    cases b with
    | true =>
      rw [if_pos rfl]
      obtain ⟨y, hy, h1⟩ := hbi.1 rfl
      have h2 := hR.msr y hy
      have h3 := (hFr y.toNat (by omega)).1 h1
      rw [Int.toNat_of_nonneg h2.1] at h3
      exact ⟨_, rfl, .inr (.inl ⟨rfl, hm', fun h => noM_iff.1 h y hy h3⟩)⟩
    | false =>
      have hno : NoM p x := noM_iff.2 fun y hy hr => by
        have h2 := hR.msr y hy
        have h3 := (hFr y.toNat (by omega)).2 (by rw [Int.toNat_of_nonneg h2.1]; exact hr)
        have := hbi.2 ⟨y, hy, h3⟩
        cases this
      rw [if_neg (by simp), hd, Option.bind_some]
      cases d with
      | true =>
        rw [if_pos rfl]
        exact ⟨_, rfl, .inr (.inr (.inl ⟨rfl, hno, hdi.1 rfl⟩))⟩
      | false =>
        have hnd : ¬ DeadS p x := fun h => by have := hdi.2 h; cases this
        rw [if_neg (by simp)]
        have hdd : ∀ y : Int, ∃ b, m_overseerlaw24_dead p y = some b ∧ (b = true ↔ DeadS p y) := fun y => dead_ex (by omega)
        obtain ⟨o, h1, h2⟩ := find_loop (f := m_overseerlaw24_kind_l1 p F) n (by omega) (fun i => F.getD i false && (m_overseerlaw24_dead p (i : Int)).getD false) (fun _ => ()) (fun i hi => by
            obtain ⟨b, hb, _⟩ := hdd i
            have hiF : i < F.length := by omega
            rw [m_overseerlaw24_kind_l1, hR.nn, if_pos (ct_lt hi), idx_at hiF, Option.bind_some, hb, nxt (by omega), List.getD_eq_getElem?_getD, List.getElem?_eq_getElem hiF]
            simp only [Option.bind_some, Option.getD_some]
            cases F[i] <;> simp) (by rw [m_overseerlaw24_kind_l1, hR.nn, if_neg ct_ge])
        rw [h1, Option.bind_some]
        rcases h2 with ⟨rfl, h3⟩ | ⟨i, hi, rfl, h3, _⟩
        · refine ⟨_, rfl, .inr (.inr (.inr (.inr ⟨rfl, hno, hnd, fun y hy hdy => ?_⟩)))⟩
          have hyn := hrx y hy
          have h4 := h3 y.toNat (by omega)
          obtain ⟨b, hb, hbi⟩ := hdd y
          have h5 := (hFr y.toNat (by omega)).2 (by rw [Int.toNat_of_nonneg hyn.1]; exact hy)
          rw [Int.toNat_of_nonneg hyn.1, hb, hbi.2 hdy, List.getD_eq_getElem?_getD, h5] at h4
          cases h4
        · obtain ⟨b, hb, hbi⟩ := hdd i
          rw [hb, Bool.and_eq_true] at h3
          have hiF : i < F.length := by omega
          have h4 : F[i]? = some true := by
            have := h3.1
            rw [List.getD_eq_getElem?_getD, List.getElem?_eq_getElem hiF] at this
            rw [List.getElem?_eq_getElem hiF, ← this]; rfl
          exact ⟨_, rfl, .inr (.inr (.inr (.inl ⟨rfl, hno, hnd, i, (hFr i hi).1 h4, hbi.1 h3.2⟩)))⟩
/-- A list holds the kinds of all states. -/
def KindsOf (p : AutT) (n : Nat) (ks : List Int) : Prop := ks.length = n ∧ ∀ i (h : i < ks.length), KindIs p (i : Int) ks[i]
theorem KindsOf.unique {p : AutT} {n : Nat} {ks ks' : List Int} (h : KindsOf p n ks) (h' : KindsOf p n ks') : ks = ks' :=
  List.ext_getElem (h.1.trans h'.1.symm) fun i h1 h2 => (h.2 i h1).unique (h'.2 i h2)
theorem kinds_ex {p : AutT} {n : Nat} (hR : Right p n) : ∃ ks, m_overseerlaw24_kinds p = some ks ∧ KindsOf p n ks := by
  have hnl := hR.nl
  obtain ⟨o, h1, h2⟩ := iter_inv (f := m_overseerlaw24_kinds_l1 p) (fun i s => s.1 = (i : Int) ∧ KindsOf p i s.2) (fun o => KindsOf p n o) n 0 (by omega) (fun i s hi ⟨e1, g1, g2⟩ => by
      obtain ⟨k, out⟩ := s
      dsimp only at e1 g1 g2
      subst e1
      obtain ⟨k, hk, hki⟩ := kind_ex hR hi
      refine .inl ⟨(((i + 1 : Nat) : Int), out ++ [k]), ?_, rfl, by simp [g1], fun j hj => ?_⟩
      · rw [m_overseerlaw24_kinds_l1]
        dsimp only
        rw [hR.nn, if_pos (ct_lt hi), hk, Option.bind_some, app_eq (by simp; omega), Option.bind_some, nxt (by omega)]
      · dsimp only
        by_cases h : j < out.length
        · rw [List.getElem_append_left h]; exact g2 j h
        · obtain rfl : j = out.length := by simp at hj; omega
          rw [List.getElem_concat_length rfl, g1]; exact hki) (fun s ⟨e1, g1⟩ => by
      obtain ⟨k, out⟩ := s
      dsimp only at e1 g1
      subst e1
      refine ⟨out, ?_, g1⟩
      rw [m_overseerlaw24_kinds_l1]
      dsimp only
      rw [hR.nn, if_neg ct_ge]) (Nat.zero_le _) (0, []) ⟨rfl, rfl, fun i h => by simp at h⟩
  exact ⟨o, by rw [m_overseerlaw24_kinds, h1]; rfl, h2⟩
theorem sprd {p : AutT} {n : Nat} (hR : Right p n) {tg : List Int} (hl : tg.length ≤ 1000000) (hr : ∀ s ∈ tg, 0 ≤ s ∧ s < (n : Int)) : m_blocking_spread p tg = some (backward n (edsOf p) tg) := by
  have hnl := hR.nl
  have := spread_eq (a := p.1) (n := n) (m := p.2.2.1) (es := p.2.2.2) (tg := tg) (by omega) hR.l3 hl (fun x hx => by have := hR.es x hx; exact ⟨this.1, this.2.1, this.2.2.1, this.2.2.2.1⟩) hr
  rw [← hR.nn] at this
  exact this
theorem bk_len {p : AutT} {n : Nat} (hR : Right p n) {tg : List Int} (hr : ∀ s ∈ tg, 0 ≤ s ∧ s < (n : Int)) : (backward n (edsOf p) tg).length = n := by
  have hnl := hR.nl
  have hB := BOk.start n tg (by omega) hr
  have h : ∀ (f : Nat) (ds q : List Int), BOk n ds q → (bwd (inL (edsOf p)) f ds q).length = n := by
    intro f
    induction f with
    | zero => intro ds q h; exact h.len
    | succ f ih =>
      intro ds q h
      cases q with
      | nil => exact h.len
      | cons s q =>
        rw [bwd]
        have hs := h.qr s (List.mem_cons_self ..)
        have h0 := h.nn s (List.mem_cons_self ..)
        exact ih _ _ (BOk.fold (show s.toNat < n by omega) (inL (edsOf p) s.toNat) h.pop h0 (inL_range hR.ein)).1
  exact h _ _ _ hB
theorem bk_dist {p : AutT} {n : Nat} (hR : Right p n) {tg : List Int} (hr : ∀ s ∈ tg, 0 ≤ s ∧ s < (n : Int)) {i : Nat} (hi : i < n) : IsDist (edsOf p) tg i ((backward n (edsOf p) tg).getD i 0) := by
  have hnl := hR.nl
  exact backward_dist (by omega) hR.ein hr i hi
end Go.Proofs.YtfbapajcheammaaDoor

namespace Go.Proofs.YtfbapajcheammaaDoor
open Go Go.RowKit
abbrev Four := Int × Int × Int × Int
abbrev DesT := Int × Int × (Four × Four × Four × Four × Four × Four)
/-- The edges of a description. -/
def desL (d : DesT) : List Int := [d.2.2.1.1, d.2.2.1.2.1, d.2.2.1.2.2.1, d.2.2.1.2.2.2, d.2.2.2.1.1, d.2.2.2.1.2.1, d.2.2.2.1.2.2.1, d.2.2.2.1.2.2.2, d.2.2.2.2.1.1, d.2.2.2.2.1.2.1, d.2.2.2.2.1.2.2.1, d.2.2.2.2.1.2.2.2, d.2.2.2.2.2.1.1, d.2.2.2.2.2.1.2.1, d.2.2.2.2.2.1.2.2.1, d.2.2.2.2.2.1.2.2.2, d.2.2.2.2.2.2.1.1, d.2.2.2.2.2.2.1.2.1, d.2.2.2.2.2.2.1.2.2.1, d.2.2.2.2.2.2.1.2.2.2, d.2.2.2.2.2.2.2.1, d.2.2.2.2.2.2.2.2.1, d.2.2.2.2.2.2.2.2.2.1, d.2.2.2.2.2.2.2.2.2.2]
/-- What holds of the edges while Make makes them: state i, event j. -/
structure ME (n : Nat) (i j : Nat) (E : List (Int × Int × Int)) : Prop where
  er : ∀ x ∈ E, 0 ≤ x.1 ∧ x.1 ≤ (i : Int) ∧ 0 ≤ x.2.1 ∧ x.2.1 < 4 ∧ 0 ≤ x.2.2 ∧ x.2.2 < (n : Int)
  es : ∀ x ∈ E, x.1 = (i : Int) → x.2.1 < (j : Int)
  so : E.Pairwise fun x y => x.1 < y.1 ∨ (x.1 = y.1 ∧ x.2.1 < y.2.1)
  el : E.length ≤ 4 * i + j
theorem ME.push {n i j : Nat} {E : List (Int × Int × Int)} {q : Int} (h : ME n i j E) (hj : j < 4) (h0 : 0 ≤ q) (h1 : q < (n : Int)) : ME n i (j + 1) (E ++ [((i : Int), (j : Int), q)]) := by
  refine ⟨fun x hx => ?_, fun x hx e => ?_, ?_, by have := h.el; rw [List.length_append, List.length_singleton]; omega⟩
  · rcases List.mem_append.1 hx with hx | hx
    · exact h.er x hx
    · rw [List.mem_singleton.1 hx]; exact ⟨by dsimp only; omega, by dsimp only; omega, by dsimp only; omega, by dsimp only; omega, h0, h1⟩
  · rcases List.mem_append.1 hx with hx | hx
    · have := h.es x hx e; omega
    · rw [List.mem_singleton.1 hx]; dsimp only; omega
  · rw [List.pairwise_append]
    refine ⟨h.so, List.pairwise_singleton _ _, fun a ha b hb => ?_⟩
    rw [List.mem_singleton.1 hb]
    have h2 := h.er a ha
    by_cases e : a.1 = (i : Int)
    · exact .inr ⟨e, h.es a ha e⟩
    · exact .inl (by dsimp only; omega)
theorem ME.skip {n i j : Nat} {E : List (Int × Int × Int)} (h : ME n i j E) : ME n i (j + 1) E := ⟨h.er, fun x hx e => by have := h.es x hx e; omega, h.so, by have := h.el; omega⟩
theorem ME.next {n i : Nat} {E : List (Int × Int × Int)} (h : ME n i 4 E) : ME n (i + 1) 0 E := ⟨fun x hx => by have := h.er x hx; omega, fun x hx e => by have := h.er x hx; omega, h.so, by have := h.el; omega⟩
theorem make_inner {d : DesT} {n i : Nat} (hn : W (1 + W (d.1.tmod 6)) = (n : Int)) (hi : i < 6) {M : List Int} {E : List (Int × Int × Int)} (hE : ME n i 0 E) : ∃ E', iter (m_overseerlaw04_Make_l2 d ((i : Int), M, E)) (0, E) = some E' ∧ ME n i 4 E' := by
  refine iter_inv (f := m_overseerlaw04_Make_l2 d ((i : Int), M, E)) (fun j s => s.1 = (j : Int) ∧ ME n i j s.2) (fun o => ME n i 4 o) 4 0 (by omega) (fun j s hj ⟨e1, g1⟩ => ?_) (fun s ⟨e1, g1⟩ => ?_) (Nat.zero_le _) (0, E) ⟨rfl, hE⟩
  · obtain ⟨k, E⟩ := s
    dsimp only at e1 g1
    subst e1
    have hj2 : ∀ u, m_overseerlaw04_Make_j2 ((j : Int), E) u = some (.inl (((j + 1 : Nat) : Int), u)) := fun u => by
      rw [m_overseerlaw04_Make_j2]; dsimp only; rw [nxt (by omega)]
    left
    rw [m_overseerlaw04_Make_l2]
    dsimp only
    rw [if_pos (by simp; omega), show rng (i : Int) 6 = some () by unfold rng; rw [if_pos (by simp; omega)], Option.bind_some, show rng (j : Int) 4 = some () by unfold rng; rw [if_pos (by simp; omega)], Option.bind_some]
    obtain ⟨x, hx⟩ : ∃ x, (desL d)[(i : Int).toNat * 4 + (j : Int).toNat * 1]? = some x := ⟨_, List.getElem?_eq_getElem (by simp [desL]; omega)⟩
    unfold desL at hx
    rw [hx, Option.bind_some, hn]
    have hx1 : -7 < x.tmod 7 := Int.lt_tmod_of_pos x (by omega)
    have hx2 : x.tmod 7 < 7 := Int.tmod_lt_of_pos x (by omega)
    rw [W_of (x := x.tmod 7) (by omega) (by omega), W_of (x := x.tmod 7 - 1) (by omega) (by omega)]
    have hel := g1.el
    by_cases hc : 0 ≤ x.tmod 7 - 1 ∧ x.tmod 7 - 1 < (n : Int)
    · rw [if_pos (by simp; omega), app_eq (by simp; omega), Option.bind_some, hj2]
      exact ⟨_, rfl, rfl, g1.push hj hc.1 hc.2⟩
    · rw [if_neg (by simp; omega), hj2]
      exact ⟨_, rfl, rfl, g1.skip⟩
  · obtain ⟨k, E⟩ := s
    dsimp only at e1 g1
    subst e1
    refine ⟨E, ?_, g1⟩
    rw [m_overseerlaw04_Make_l2]
    dsimp only
    rw [if_neg (by simp)]
theorem make_ex {d : DesT} (h0 : 0 ≤ d.1) : ∃ a n, m_overseerlaw04_Make d = some a ∧ 1 ≤ n ∧ n ≤ 6 ∧ Right a n ∧ a.1 = [0, 1, 2, 3] ∧ a.2.2.2.length ≤ 24 := by
  have ht0 := Int.tmod_nonneg 6 h0
  have ht1 : d.1.tmod 6 < 6 := Int.tmod_lt_of_pos d.1 (by omega)
  obtain ⟨n, hn⟩ : ∃ n : Nat, 1 + d.1.tmod 6 = (n : Int) := ⟨(1 + d.1.tmod 6).toNat, by omega⟩
  have hW : W (1 + W (d.1.tmod 6)) = (n : Int) := by rw [W_of (x := d.1.tmod 6) (by omega) (by omega), W_of (by omega) (by omega), hn]
  obtain ⟨o, h1, h2⟩ := iter_inv (f := m_overseerlaw04_Make_l1 d) (fun i s => i ≤ n ∧ s.1 = (i : Int) ∧ Inc s.2.1 ∧ (∀ x ∈ s.2.1, 0 ≤ x ∧ x < (i : Int)) ∧ ME n i 0 s.2.2) (fun o => Inc o.1 ∧ (∀ x ∈ o.1, 0 ≤ x ∧ x < (n : Int)) ∧ ME n n 0 o.2) n 0 (by omega) (fun i s hi ⟨_, e1, g1, g2, g3⟩ => by
      obtain ⟨k, M, E⟩ := s
      dsimp only at e1 g1 g2 g3
      subst e1
      obtain ⟨E', g4, g5⟩ := make_inner (M := M) hW (show i < 6 by omega) g3
      have hMl := inc_len (n := i) (lo := 0) g1 g2 (Int.le_refl _)
      have hj1 : ∀ M', m_overseerlaw04_Make_j1 d ((i : Int), M, E) M' = some (.inl (((i + 1 : Nat) : Int), M', E')) := fun M' => by
        rw [m_overseerlaw04_Make_j1]; dsimp only; rw [g4, Option.bind_some, nxt (by omega)]
      left
      rw [m_overseerlaw04_Make_l1]
      dsimp only
      rw [hW, if_pos (ct_lt hi), show ng (i : Int) = some () from if_neg (by omega), Option.bind_some]
      split
      · rw [app_eq (by simp; omega), Option.bind_some, hj1]
        refine ⟨_, rfl, by omega, rfl, ?_, fun x hx => ?_, g5.next⟩
        · dsimp only
          unfold Inc at g1 ⊢
          rw [List.pairwise_append]
          exact ⟨g1, List.pairwise_singleton _ _, fun a ha b hb => by rw [List.mem_singleton.1 hb]; exact (g2 a ha).2⟩
        · dsimp only at hx
          rcases List.mem_append.1 hx with hx | hx
          · have := g2 x hx; omega
          · rw [List.mem_singleton.1 hx]; omega
      · rw [hj1]
        exact ⟨_, rfl, by omega, rfl, g1, fun x hx => by have := g2 x hx; omega, g5.next⟩) (fun s ⟨_, e1, g1, g2, g3⟩ => by
      obtain ⟨k, M, E⟩ := s
      dsimp only at e1 g1 g2 g3
      subst e1
      refine ⟨(M, E), ?_, g1, g2, g3⟩
      rw [m_overseerlaw04_Make_l1]
      dsimp only
      rw [hW, if_neg ct_ge]) (Nat.zero_le _) (0, [], []) ⟨Nat.zero_le _, rfl, List.Pairwise.nil, fun x hx => (by cases hx), fun x hx => (by cases hx), fun x hx => (by cases hx), List.Pairwise.nil, by simp⟩
  obtain ⟨g1, g2, g3⟩ := h2
  have hMl := inc_len (n := n) (lo := 0) g1 g2 (Int.le_refl _)
  have hel := g3.el
  refine ⟨([0, 1, 2, 3], (n : Int), o), n, by rw [m_overseerlaw04_Make, h1, hW]; rfl, by omega, by omega, ⟨rfl, by omega, ?_, ?_, g1, g2, fun x hx => ?_, g3.so, by simp, by dsimp only; omega, by dsimp only; omega⟩, rfl, by dsimp only; omega⟩
  · dsimp only; unfold Inc; decide
  · intro x hx
    have : x = 0 ∨ x = 1 ∨ x = 2 ∨ x = 3 := by simpa using hx
    omega
  · have := g3.er x hx
    have h3 := g3.es x hx
    refine ⟨this.1, ?_, this.2.2.2.2.1, this.2.2.2.2.2, ?_⟩
    · rcases Int.lt_or_le x.1 (n : Int) with h4 | h4
      · exact h4
      · have := h3 (by omega); omega
    · show x.2.1 ∈ [0, 1, 2, 3]
      have h5 : x.2.1 = 0 ∨ x.2.1 = 1 ∨ x.2.1 = 2 ∨ x.2.1 = 3 := by omega
      rcases h5 with h | h | h | h <;> rw [h] <;> decide
end Go.Proofs.YtfbapajcheammaaDoor

namespace Go.Proofs.YtfbapajcheammaaDoor
open Go Go.RowKit
set_option maxRecDepth 100000 in
theorem known24 : m_overseerlaw24_known = some true := by kernel_rfl
set_option maxRecDepth 100000 in
theorem known04 : m_overseerlaw04_known = some true := by kernel_rfl
theorem Known24 : m_overseerlaw24_Known = some true := by
  rw [m_overseerlaw24_Known, known24, Option.bind_some, if_pos rfl, m_overseerlaw04_Known, known04]
  rfl
end Go.Proofs.YtfbapajcheammaaDoor

namespace Go.Proofs.YtfbapajcheammaaDoor
open Go Go.RowKit
theorem cast_inc (k : Nat) (p : Nat → Bool) : Inc (((List.range k).filter p).map fun (i : Nat) => (i : Int)) := by
  unfold Inc
  rw [List.pairwise_map]
  refine List.Pairwise.filter _ ?_
  exact List.Pairwise.imp (fun {a b} h => by omega) List.pairwise_lt_range
theorem cast_in (k : Nat) (p : Nat → Bool) : ∀ x ∈ ((List.range k).filter p).map fun (i : Nat) => (i : Int), 0 ≤ x ∧ x < (k : Int) := by
  intro x hx
  obtain ⟨i, hi, rfl⟩ := List.mem_map.1 hx
  have := List.mem_range.1 (List.mem_filter.1 hi).1
  omega
theorem same_refl {xs : List Int} (hl : xs.length ≤ 4000000) : m_overseerlaw24_same xs xs = some true := by
  obtain ⟨o, h1, h2⟩ := find_loop (f := m_overseerlaw24_same_l1 xs xs) xs.length hl (fun _ => false) (fun _ => ()) (fun i hi => by
      rw [m_overseerlaw24_same_l1, if_pos (ct_lt hi), idx_at hi, Option.bind_some, Option.bind_some, if_neg (by simp), nxt (by omega)]; rfl) (by rw [m_overseerlaw24_same_l1, if_neg ct_ge])
  rw [m_overseerlaw24_same, if_neg (by simp), h1, Option.bind_some]
  rcases h2 with ⟨rfl, _⟩ | ⟨i, hi, rfl, h3, _⟩
  · rfl
  · cases h3
theorem least_eq {p : AutT} {n : Nat} (hR : Right p n) {x : Int} {tg : List Int} {r : List Int × Bool × Int} (h : m_reach_Path p x tg (allL n) = some r) : m_overseerlaw24_least p x tg = some (r.1, r.2.1 && (r.2.2 == 0)) := by
  have := hR.nl
  rw [m_overseerlaw24_least, hR.nn, lall_eq (by omega), Option.bind_some, h]
  rfl
theorem bpath_eq {p : AutT} {n : Nat} (hR : Right p n) {x : Int} (hx : x < (n : Int)) {tg : List Int} {r : List Int × Bool × Int} (h : m_reach_Path p x tg (allL n) = some r) : m_blocking_path p x tg = some (r.1, r.2.1) := by
  have := hR.nl
  have hb := ball_eq (a := p.1) (n := n) (m := p.2.2.1) (es := p.2.2.2) (by omega)
  rw [← hR.nn] at hb
  rw [m_blocking_path, hR.nn, if_neg (by simp; omega), show m_blocking_all p = some (allL n) from hb, Option.bind_some, h]
  rfl
end Go.Proofs.YtfbapajcheammaaDoor

namespace Go.Proofs.YtfbapajcheammaaDoor
open Go Go.RowKit
theorem busy_ex {p : AutT} {n : Nat} (hR : Right p n) : ∃ F : List Bool, iter (m_blocking_kinds_l1 p) (0, List.replicate n false) = some F ∧ F.length = n ∧ ∀ s : Nat, s < n → (F[s]? = some false ↔ DeadS p s) := by
  have hl3 := hR.l3
  obtain ⟨o, h1, h2, h3⟩ := iter_inv (f := m_blocking_kinds_l1 p) (fun i s => s.1 = (i : Int) ∧ s.2.length = n ∧ ∀ k : Nat, k < n → (s.2[k]? = some false ↔ ∀ e ∈ p.2.2.2.take i, e.1 ≠ (k : Int))) (fun F => F.length = n ∧ ∀ s : Nat, s < n → (F[s]? = some false ↔ DeadS p s)) p.2.2.2.length 0 (by omega) (fun i s hi ⟨e1, g1, g2⟩ => by
      obtain ⟨k, F⟩ := s
      dsimp only at e1 g1 g2
      subst e1
      have hx := hR.es _ (List.getElem_mem hi)
      obtain ⟨y, hy⟩ := Int.eq_ofNat_of_zero_le hx.1
      have hyn : y < n := by omega
      have hyF : y < F.length := by omega
      left
      rw [m_blocking_kinds_l1]
      dsimp only
      rw [if_pos (ct_lt hi), idx_at hi, Option.bind_some, hy, idx_at hyF, Option.bind_some, upd_at hyF, Option.bind_some, nxt (by omega)]
      refine ⟨_, rfl, rfl, by simp [g1], fun k hk => ?_⟩
      dsimp only
      rw [take_snoc _ i hi]
      by_cases e : y = k
      · subst e
        rw [List.getElem?_set_self hyF]
        exact ⟨fun h => by simp at h, fun h => absurd hy (h _ (List.mem_append_right _ (List.mem_singleton.2 rfl)))⟩
      · rw [List.getElem?_set_ne e, g2 k hk]
        constructor
        · intro h x hx
          rcases List.mem_append.1 hx with hx | hx
          · exact h x hx
          · rw [List.mem_singleton.1 hx, hy]; omega
        · exact fun h x hx => h x (List.mem_append_left _ hx)) (fun s ⟨e1, g1, g2⟩ => by
      obtain ⟨k, F⟩ := s
      dsimp only at e1 g1 g2
      subst e1
      refine ⟨F, ?_, g1, fun s hs => by rw [g2 s hs, List.take_length]; rfl⟩
      rw [m_blocking_kinds_l1]
      dsimp only
      rw [if_neg ct_ge]) (Nat.zero_le _) (0, List.replicate n false) ⟨rfl, by simp, fun k hk => by simp [hk]⟩
  exact ⟨o, h1, h2, h3⟩
theorem deads_ex {p : AutT} {n : Nat} (hR : Right p n) {R : List Int} {F : List Bool} (hRl : R.length = n) (hF : F.length = n) : ∃ D, iter (m_blocking_kinds_l2 R F) (0, ([] : List Int)) = some D ∧ Inc D ∧ (∀ s ∈ D, 0 ≤ s ∧ s < (n : Int)) ∧ ∀ s : Nat, s < n → ((s : Int) ∈ D ↔ R.getD s 0 < 0 ∧ F[s]? = some false) := by
  have hnl := hR.nl
  obtain ⟨o, h1, h2⟩ := iter_inv (f := m_blocking_kinds_l2 R F) (fun i s => s.1 = (i : Int) ∧ Inc s.2 ∧ (∀ x ∈ s.2, 0 ≤ x ∧ x < (i : Int)) ∧ ∀ k : Nat, k < i → ((k : Int) ∈ s.2 ↔ R.getD k 0 < 0 ∧ F[k]? = some false)) (fun D => Inc D ∧ (∀ s ∈ D, 0 ≤ s ∧ s < (n : Int)) ∧ ∀ s : Nat, s < n → ((s : Int) ∈ D ↔ R.getD s 0 < 0 ∧ F[s]? = some false)) n 0 (by omega) (fun i s hi ⟨e1, g1, g2, g3⟩ => by
      obtain ⟨k, D⟩ := s
      dsimp only at e1 g1 g2 g3
      subst e1
      have hiR : i < R.length := by omega
      have hiF : i < F.length := by omega
      have hDl := inc_len (n := i) (lo := 0) g1 g2 (Int.le_refl _)
      have hj : ∀ u, m_blocking_kinds_j1 ((i : Int), D) u = some (.inl (((i + 1 : Nat) : Int), u)) := fun u => by
        rw [m_blocking_kinds_j1]; dsimp only; rw [nxt (by omega)]
      have hb : (if decide (R[i] < 0) = true then (idx F (i : Int)).bind fun x => some (!x) else some false) = some (decide (R[i] < 0 ∧ F[i] = false)) := by
        by_cases h : R[i] < 0
        · rw [if_pos (by simpa using h), idx_at hiF, Option.bind_some]; simp [h]
        · rw [if_neg (by simpa using h)]; simp [h]
      have hnot : (i : Int) ∉ D := fun h => by have := g2 _ h; omega
      left
      rw [m_blocking_kinds_l2]
      dsimp only
      rw [hRl, if_pos (ct_lt hi), idx_at hiR, Option.bind_some, hb, Option.bind_some]
      have hg : R.getD i 0 = R[i] := by rw [List.getD_eq_getElem?_getD, List.getElem?_eq_getElem hiR]; rfl
      have hgF : F[i]? = some F[i] := List.getElem?_eq_getElem hiF
      by_cases hc : R[i] < 0 ∧ F[i] = false
      · rw [if_pos (by simpa using hc), app_eq (by simp; omega), Option.bind_some, hj]
        refine ⟨_, rfl, rfl, ?_, fun x hx => ?_, fun k hk => ?_⟩
        · dsimp only
          unfold Inc at g1 ⊢
          rw [List.pairwise_append]
          exact ⟨g1, List.pairwise_singleton _ _, fun a ha b hb => by rw [List.mem_singleton.1 hb]; exact (g2 a ha).2⟩
        · dsimp only at hx
          rcases List.mem_append.1 hx with hx | hx
          · have := g2 x hx; omega
          · rw [List.mem_singleton.1 hx]; omega
        · dsimp only
          rw [List.mem_append, List.mem_singleton]
          by_cases e : k < i
          · rw [g3 k e]; exact ⟨fun h => h.resolve_right (by omega), .inl⟩
          · obtain rfl : k = i := by omega
            rw [hg, hgF]
            exact ⟨fun _ => ⟨hc.1, by rw [hc.2]⟩, fun _ => .inr rfl⟩
      · rw [if_neg (by simpa using hc), hj]
        refine ⟨_, rfl, rfl, g1, fun x hx => by have := g2 x hx; omega, fun k hk => ?_⟩
        dsimp only
        by_cases e : k < i
        · exact g3 k e
        · obtain rfl : k = i := by omega
          rw [hg, hgF]
          exact ⟨fun h => absurd h hnot, fun h => absurd ⟨h.1, Option.some.inj h.2⟩ hc⟩) (fun s ⟨e1, g1, g2, g3⟩ => by
      obtain ⟨k, D⟩ := s
      dsimp only at e1 g1 g2 g3
      subst e1
      refine ⟨D, ?_, g1, g2, g3⟩
      rw [m_blocking_kinds_l2]
      dsimp only
      rw [hRl, if_neg ct_ge]) (Nat.zero_le _) (0, []) ⟨rfl, List.Pairwise.nil, fun x hx => (by cases hx), fun k hk => absurd hk (by omega)⟩
  exact ⟨o, h1, h2⟩
noncomputable abbrev testsL (R E : List Int) : List (Int × (Option (Int → Option Bool))) := [(1, (some (m_blocking_kinds_1 R))), (2, (some (m_blocking_kinds_2 R))), (3, (some (m_blocking_kinds_3 E))), (5, (some (m_blocking_kinds_4 E))), (4, (some m_blocking_kinds_5))]
theorem tests_ex {R E : List Int} {s : Nat} (hR : s < R.length) (hE : s < E.length) : ∃ k x, m_slices_IndexFunc_blocking_test_blocking_test (testsL R E) (m_blocking_kinds_6 (s : Int)) = some k ∧ idx (testsL R E) k = some x ∧
    ((x.1 = 1 ∧ R[s] = 0) ∨ (x.1 = 2 ∧ 0 < R[s]) ∨ (x.1 = 3 ∧ R[s] < 0 ∧ E[s] = 0) ∨ (x.1 = 5 ∧ R[s] < 0 ∧ 0 < E[s]) ∨ (x.1 = 4 ∧ R[s] < 0 ∧ E[s] < 0)) := by
  have hP : ∀ (q : Int) (f : Int → Option Bool) (b : Bool), f (s : Int) = some b → m_blocking_kinds_6 (s : Int) (q, some f) = some b := fun q f b h => by
    rw [m_blocking_kinds_6]; dsimp only [Option.bind_some]; rw [h]; rfl
  have f1 := hP 1 (m_blocking_kinds_1 R) (R[s] == 0) (by rw [m_blocking_kinds_1, idx_at hR]; rfl)
  have f2 := hP 2 (m_blocking_kinds_2 R) (decide (R[s] > 0)) (by rw [m_blocking_kinds_2, idx_at hR]; rfl)
  have f3 := hP 3 (m_blocking_kinds_3 E) (E[s] == 0) (by rw [m_blocking_kinds_3, idx_at hE]; rfl)
  have f4 := hP 5 (m_blocking_kinds_4 E) (decide (E[s] > 0)) (by rw [m_blocking_kinds_4, idx_at hE]; rfl)
  have f5 := hP 4 m_blocking_kinds_5 true (by rw [m_blocking_kinds_5])
  have l0 : m_slices_IndexFunc_blocking_test_blocking_test_l1 (testsL R E) (m_blocking_kinds_6 (s : Int)) 0 = (m_blocking_kinds_6 (s : Int) (1, some (m_blocking_kinds_1 R))).bind fun r => if r then some (.inr (.inr 0)) else some (.inl 1) := rfl
  have l1 : m_slices_IndexFunc_blocking_test_blocking_test_l1 (testsL R E) (m_blocking_kinds_6 (s : Int)) 1 = (m_blocking_kinds_6 (s : Int) (2, some (m_blocking_kinds_2 R))).bind fun r => if r then some (.inr (.inr 1)) else some (.inl 2) := rfl
  have l2 : m_slices_IndexFunc_blocking_test_blocking_test_l1 (testsL R E) (m_blocking_kinds_6 (s : Int)) 2 = (m_blocking_kinds_6 (s : Int) (3, some (m_blocking_kinds_3 E))).bind fun r => if r then some (.inr (.inr 2)) else some (.inl 3) := rfl
  have l3 : m_slices_IndexFunc_blocking_test_blocking_test_l1 (testsL R E) (m_blocking_kinds_6 (s : Int)) 3 = (m_blocking_kinds_6 (s : Int) (5, some (m_blocking_kinds_4 E))).bind fun r => if r then some (.inr (.inr 3)) else some (.inl 4) := rfl
  have l4 : m_slices_IndexFunc_blocking_test_blocking_test_l1 (testsL R E) (m_blocking_kinds_6 (s : Int)) 4 = (m_blocking_kinds_6 (s : Int) (4, some m_blocking_kinds_5)).bind fun r => if r then some (.inr (.inr 4)) else some (.inl 5) := rfl
  rw [f1, Option.bind_some] at l0
  rw [f2, Option.bind_some] at l1
  rw [f3, Option.bind_some] at l2
  rw [f4, Option.bind_some] at l3
  rw [f5, Option.bind_some, if_pos rfl] at l4
  by_cases h1 : R[s] = 0
  · rw [if_pos (by simpa using h1)] at l0
    have hi : iter (m_slices_IndexFunc_blocking_test_blocking_test_l1 (testsL R E) (m_blocking_kinds_6 (s : Int))) 0 = some (.inr 0) := iter_of (n := 1) (by omega) (by rw [iterF_succ, l0])
    exact ⟨0, _, by rw [m_slices_IndexFunc_blocking_test_blocking_test, hi]; rfl, rfl, .inl ⟨rfl, h1⟩⟩
  · rw [if_neg (by simpa using h1)] at l0
    by_cases h2 : 0 < R[s]
    · rw [if_pos (by simpa using h2)] at l1
      have hi : iter (m_slices_IndexFunc_blocking_test_blocking_test_l1 (testsL R E) (m_blocking_kinds_6 (s : Int))) 0 = some (.inr 1) := iter_of (n := 2) (by omega) (by rw [iterF_succ, l0]; dsimp only; rw [iterF_succ, l1])
      exact ⟨1, _, by rw [m_slices_IndexFunc_blocking_test_blocking_test, hi]; rfl, rfl, .inr (.inl ⟨rfl, h2⟩)⟩
    · rw [if_neg (by simpa using h2)] at l1
      by_cases h3 : E[s] = 0
      · rw [if_pos (by simpa using h3)] at l2
        have hi : iter (m_slices_IndexFunc_blocking_test_blocking_test_l1 (testsL R E) (m_blocking_kinds_6 (s : Int))) 0 = some (.inr 2) := iter_of (n := 3) (by omega) (by rw [iterF_succ, l0]; dsimp only; rw [iterF_succ, l1]; dsimp only; rw [iterF_succ, l2])
        exact ⟨2, _, by rw [m_slices_IndexFunc_blocking_test_blocking_test, hi]; rfl, rfl, .inr (.inr (.inl ⟨rfl, by omega, h3⟩))⟩
      · rw [if_neg (by simpa using h3)] at l2
        by_cases h4 : 0 < E[s]
        · rw [if_pos (by simpa using h4)] at l3
          have hi : iter (m_slices_IndexFunc_blocking_test_blocking_test_l1 (testsL R E) (m_blocking_kinds_6 (s : Int))) 0 = some (.inr 3) := iter_of (n := 4) (by omega) (by rw [iterF_succ, l0]; dsimp only; rw [iterF_succ, l1]; dsimp only; rw [iterF_succ, l2]; dsimp only; rw [iterF_succ, l3])
          exact ⟨3, _, by rw [m_slices_IndexFunc_blocking_test_blocking_test, hi]; rfl, rfl, .inr (.inr (.inr (.inl ⟨rfl, by omega, h4⟩)))⟩
        · rw [if_neg (by simpa using h4)] at l3
          have hi : iter (m_slices_IndexFunc_blocking_test_blocking_test_l1 (testsL R E) (m_blocking_kinds_6 (s : Int))) 0 = some (.inr 4) := iter_of (n := 5) (by omega) (by rw [iterF_succ, l0]; dsimp only; rw [iterF_succ, l1]; dsimp only; rw [iterF_succ, l2]; dsimp only; rw [iterF_succ, l3]; dsimp only; rw [iterF_succ, l4])
          exact ⟨4, _, by rw [m_slices_IndexFunc_blocking_test_blocking_test, hi]; rfl, rfl, .inr (.inr (.inr (.inr ⟨rfl, by omega, by omega⟩)))⟩
theorem NoM.step {p : AutT} {x y : Int} (h : NoM p x) (hr : Rch (edsOf p) x y) : NoM p y := noM_iff.2 fun z hz h2 => noM_iff.1 h z hz (hr.trans h2)
theorem bkinds_ex {p : AutT} {n : Nat} (hR : Right p n) : ∃ ks, m_blocking_kinds p = some ks ∧ KindsOf p n ks := by
  have hnl := hR.nl
  obtain ⟨F, hF, hFl, hFd⟩ := busy_ex hR
  have hRl := bk_len hR hR.msr
  obtain ⟨D, hD, hDi, hDr, hDm⟩ := deads_ex hR hRl hFl
  have hDl := inc_len (n := n) (lo := 0) hDi hDr (Int.le_refl _)
  have hEl := bk_len hR hDr
  have hmf : mkL p.2.1 false = some (List.replicate n false) := by unfold mkL; rw [hR.nn, if_pos ⟨by omega, by omega⟩, Int.toNat_natCast]
  have hmz : mkL p.2.1 (0 : Int) = some (List.replicate n 0) := by unfold mkL; rw [hR.nn, if_pos ⟨by omega, by omega⟩, Int.toNat_natCast]
  have hkind : ∀ (s : Nat) (k : Int) (hs : s < n) (h1 : s < (backward n (edsOf p) p.2.2.1).length) (h2 : s < (backward n (edsOf p) D).length), ((k = 1 ∧ (backward n (edsOf p) p.2.2.1)[s] = 0) ∨ (k = 2 ∧ 0 < (backward n (edsOf p) p.2.2.1)[s]) ∨ (k = 3 ∧ (backward n (edsOf p) p.2.2.1)[s] < 0 ∧ (backward n (edsOf p) D)[s] = 0) ∨ (k = 5 ∧ (backward n (edsOf p) p.2.2.1)[s] < 0 ∧ 0 < (backward n (edsOf p) D)[s]) ∨ (k = 4 ∧ (backward n (edsOf p) p.2.2.1)[s] < 0 ∧ (backward n (edsOf p) D)[s] < 0)) → KindIs p s k := by
    intro s k hs h1 h2 h
    have d1 := bk_dist hR hR.msr hs
    have d2 := bk_dist hR hDr hs
    rw [List.getD_eq_getElem?_getD, List.getElem?_eq_getElem h1, Option.getD_some] at d1
    rw [List.getD_eq_getElem?_getD, List.getElem?_eq_getElem h2, Option.getD_some] at d2
    have hms := hDm s hs
    rw [List.getD_eq_getElem?_getD, List.getElem?_eq_getElem h1, Option.getD_some, hFd s hs] at hms
    have hrange : ∀ y, Rch (edsOf p) s y → 0 ≤ y ∧ y < (n : Int) := fun y => hR.rch ⟨by omega, by omega⟩
    have hall : ∀ y : Nat, y < n → ((y : Int) ∈ D ↔ NoM p y ∧ DeadS p y) := by
      intro y hy
      rw [hDm y hy, hFd y hy]
      have d3 := bk_dist hR hR.msr hy
      constructor
      · rintro ⟨g1, g2⟩
        rcases d3 with ⟨_, h3⟩ | ⟨k, h3, _⟩
        · exact ⟨h3, g2⟩
        · omega
      · rintro ⟨g1, g2⟩
        rcases d3 with ⟨h3, _⟩ | ⟨k, _, h3, _⟩
        · exact ⟨by omega, g2⟩
        · exact absurd h3 (g1 k)
    generalize (backward n (edsOf p) p.2.2.1)[s] = R at *
    generalize (backward n (edsOf p) D)[s] = E at *
    have hno : R < 0 → NoM p s := fun h0 => by
      rcases d1 with ⟨_, h3⟩ | ⟨k, h3, _⟩
      · exact h3
      · omega
    rcases h with ⟨rfl, rfl⟩ | ⟨rfl, g1⟩ | ⟨rfl, g1, rfl⟩ | ⟨rfl, g1, g2⟩ | ⟨rfl, g1, g2⟩
    · rcases d1 with ⟨h3, _⟩ | ⟨k, h3, h4, _⟩
      · omega
      · obtain rfl : k = 0 := by omega
        exact .inl ⟨rfl, h4⟩
    · rcases d1 with ⟨h3, _⟩ | ⟨k, h3, h4, h5⟩
      · omega
      · exact .inr (.inl ⟨rfl, fun h => h5 0 (by omega) h, fun h => h k h4⟩)
    · rcases d2 with ⟨h3, _⟩ | ⟨k, h3, h4, _⟩
      · omega
      · obtain rfl : k = 0 := by omega
        exact .inr (.inr (.inl ⟨rfl, hno g1, ((hall s hs).1 h4).2⟩))
    · have hnd : ¬ DeadS p s := fun hd => by
        have := (hall s hs).2 ⟨hno g1, hd⟩
        rcases d2 with ⟨h3, _⟩ | ⟨k, h3, h4, h5⟩
        · omega
        · exact h5 0 (by omega) this
      rcases d2 with ⟨h3, _⟩ | ⟨k, h3, h4, h5⟩
      · omega
      · obtain ⟨y, hy, h6⟩ := reachIn_iff.1 h4
        have hyr := hDr y hy
        have h7 := (hall y.toNat (by omega)).1 (by rw [Int.toNat_of_nonneg hyr.1]; exact hy)
        rw [Int.toNat_of_nonneg hyr.1] at h7
        exact .inr (.inr (.inr (.inl ⟨rfl, hno g1, hnd, y, ⟨k, h6⟩, h7.2⟩)))
    · have hz : ∀ y, Rch (edsOf p) s y → ¬ DeadS p y := fun y hy hd => by
        have hyr := hrange y hy
        have h7 := (hall y.toNat (by omega)).2 (by rw [Int.toNat_of_nonneg hyr.1]; exact ⟨(hno g1).step hy, hd⟩)
        rw [Int.toNat_of_nonneg hyr.1] at h7
        obtain ⟨k, hk⟩ := hy
        rcases d2 with ⟨_, h3⟩ | ⟨k', h3, _⟩
        · exact h3 k (reachIn_iff.2 ⟨y, h7, hk⟩)
        · omega
      exact .inr (.inr (.inr (.inr ⟨rfl, hno g1, hz s (Rch.refl _ _), hz⟩)))
  obtain ⟨o, h1, h2⟩ := iter_inv (f := m_blocking_kinds_l3 (backward n (edsOf p) p.2.2.1) (backward n (edsOf p) D) (List.replicate n 0)) (fun i s => s.1 = (i : Int) ∧ s.2.length = n ∧ ∀ k (h : k < s.2.length), k < i → KindIs p (k : Int) s.2[k]) (fun o => KindsOf p n o) n 0 (by omega) (fun i s hi ⟨e1, g1, g2⟩ => by
      obtain ⟨k, O⟩ := s
      dsimp only at e1 g1 g2
      subst e1
      have hiO : i < O.length := by omega
      obtain ⟨k, x, t1, t2, t3⟩ := tests_ex (R := backward n (edsOf p) p.2.2.1) (E := backward n (edsOf p) D) (s := i) (by omega) (by omega)
      have hK := hkind i x.1 hi (by omega) (by omega) t3
      left
      rw [m_blocking_kinds_l3]
      dsimp only
      rw [List.length_replicate, if_pos (ct_lt hi), t1, Option.bind_some, t2, Option.bind_some, idx_at hiO, Option.bind_some, upd_at hiO, Option.bind_some, nxt (by omega)]
      refine ⟨_, rfl, rfl, by simp [g1], fun j hj hji => ?_⟩
      dsimp only
      rw [List.getElem_set]
      split
      · rename_i e; subst e; exact hK
      · exact g2 j (by simpa using hj) (by omega)) (fun s ⟨e1, g1, g2⟩ => by
      obtain ⟨k, O⟩ := s
      dsimp only at e1 g1 g2
      subst e1
      refine ⟨O, ?_, g1, fun i hi => g2 i hi (by omega)⟩
      rw [m_blocking_kinds_l3]
      dsimp only
      rw [List.length_replicate, if_neg ct_ge]) (Nat.zero_le _) (0, List.replicate n 0) ⟨rfl, by simp, fun k hk hk0 => absurd hk0 (by omega)⟩
  refine ⟨o, ?_, h2⟩
  rw [m_blocking_kinds, sprd hR hR.l2 hR.msr, Option.bind_some, hmf, Option.bind_some, hF, Option.bind_some, hD, Option.bind_some, sprd hR (by omega) hDr, Option.bind_some, hmz, Option.bind_some, h1]
  rfl
end Go.Proofs.YtfbapajcheammaaDoor

namespace Go.Proofs.YtfbapajcheammaaDoor
open Go Go.RowKit
theorem escape_loop {ks : List Int} {k : Int} (hl : ks.length ≤ 1000000) : iter (m_blocking_Escape_l1 k ks) (0, ([] : List Int)) = some (choL ks k k ks.length) := by
  have h := iter_inv (f := m_blocking_Escape_l1 k ks) (fun i s => i ≤ ks.length ∧ s = ((i : Int), choL ks k k i)) (fun o => o = choL ks k k ks.length) ks.length 0 (by omega) ?_ ?_ (Nat.zero_le _) (0, []) ⟨Nat.zero_le _, rfl⟩
  · obtain ⟨o, h1, rfl⟩ := h
    exact h1
  · rintro i s hi ⟨_, rfl⟩
    refine .inl ⟨_, ?_, by omega, rfl⟩
    have hn := choL_len ks k k i
    rw [m_blocking_Escape_l1]
    dsimp only
    have hg : ks.getD i 0 = ks[i] := by rw [List.getD_eq_getElem?_getD, List.getElem?_eq_getElem hi]; rfl
    rw [if_pos (ct_lt hi), idx_at hi, Option.bind_some, choL_succ, hg]
    by_cases h1 : ks[i] = k
    · rw [if_pos (by simpa using h1), if_pos (by omega), app_eq (by simp; omega), Option.bind_some, m_blocking_Escape_j1]
      dsimp only
      rw [nxt (by omega)]
    · rw [if_neg (by simpa using h1), if_neg (by omega), m_blocking_Escape_j1]
      dsimp only
      rw [nxt (by omega)]
  · rintro s ⟨_, rfl⟩
    refine ⟨_, ?_, rfl⟩
    rw [m_blocking_Escape_l1]
    dsimp only
    rw [if_neg ct_ge]
theorem dist_len {p : AutT} {n : Nat} (hR : Right p n) {tg : List Int} (hr : ∀ y ∈ tg, 0 ≤ y ∧ y < (n : Int)) {x : Nat} (hx : x < n) {r : List Int × Bool × Int} (h : PathSays (edsOf p) tg x r) : r.1.length ≤ n := by
  have hn := hR.nl
  cases hb : r.2.1 with
  | false => rw [(h.no hb).1]; simp
  | true =>
    obtain ⟨g1, g2⟩ := h.yes hb
    have hd := backward_bd (es := edsOf p) (tg := tg) (n := n) (by omega) hR.ein hr x hx
    have : IsDist (edsOf p) tg (x : Int) (r.1.length : Int) := .inr ⟨_, rfl, g1, g2⟩
    have := this.unique hd.1
    omega
theorem escapes_law {d : DesT} {x k : Int} (h0 : 0 ≤ d.1) (x0 : 0 ≤ x) (x1 : x < 256) (k0 : 0 ≤ k) (k1 : k < 256) : m_overseerlaw24_BlockingEscapes d x k = some true := by
  obtain ⟨p, n, hp, n1, n6, hR, _⟩ := make_ex h0
  obtain ⟨ks, hk, hki⟩ := bkinds_ex hR
  obtain ⟨ks', hk', hki'⟩ := kinds_ex hR
  obtain rfl := hki.unique hki'
  have hkl := hki.1
  have s0 := Int.tmod_nonneg (n : Int) x0
  have s1 : x.tmod (n : Int) < (n : Int) := Int.tmod_lt_of_pos x (by omega)
  have t0 := Int.tmod_nonneg 5 k0
  have t1 : k.tmod 5 < 5 := Int.tmod_lt_of_pos k (by omega)
  rw [m_overseerlaw24_BlockingEscapes, Known24, Option.bind_some, if_neg (by simp), hp, Option.bind_some, hR.nn, show nz (n : Int) = some () from if_neg (by omega), Option.bind_some, W_of (x := x) (by omega) (by omega), W_of (x := k.tmod 5) (by omega) (by omega), W_of (x := 1 + k.tmod 5) (by omega) (by omega)]
  generalize x.tmod (n : Int) = s at *
  generalize hf : 1 + k.tmod 5 = f at *
  have f0 : 1 ≤ f ∧ f ≤ 5 := by omega
  have hci : Inc (choL ks f f n) := cast_inc n _
  have hcr : ∀ y ∈ choL ks f f n, 0 ≤ y ∧ y < (n : Int) := cast_in n _
  have hcl := choL_len ks f f n
  obtain ⟨r, hr, hS⟩ := path_ex hR (x := s) s0 s1 hR.msi hR.msr hR.l2
  obtain ⟨q, hq, hT⟩ := path_ex hR (x := 0) (by omega) (by omega) hci hcr (by omega)
  have e1 : m_blocking_Shortest p s = some (r.1, r.2.1, 0) := by
    rw [m_blocking_Shortest, hR.check, Option.bind_some, if_neg (by simp), if_neg (by rw [hR.nn]; simp; omega), bpath_eq hR s1 hr]; rfl
  have e2 : m_blocking_Escape p f = some (q.1, q.2.1, 0) := by
    rw [m_blocking_Escape, hR.check, Option.bind_some, if_neg (by simp), if_neg (by simp; omega), hk, Option.bind_some, escape_loop (by omega), Option.bind_some, hkl, bpath_eq hR (by omega) hq]; rfl
  have lr := dist_len hR hR.msr (x := s.toNat) (by omega) (r := r) (by rw [Int.toNat_of_nonneg s0]; exact hS)
  have lq := dist_len hR hcr (x := 0) (by omega) (r := q) hT
  rw [e1, Option.bind_some, e2, Option.bind_some, least_eq hR hr, Option.bind_some, hk', Option.bind_some, chosen_eq (by omega), Option.bind_some, hkl, least_eq hR hq, Option.bind_some, hS.err, hT.err]
  dsimp only
  rw [if_pos (by simp), same_refl (by omega), Option.bind_some, Option.bind_some, if_pos (by simp), same_refl (by omega)]
  rfl
end Go.Proofs.YtfbapajcheammaaDoor

namespace Go.Proofs.YtfbapajcheammaaDoor
open Go Go.RowKit Go.ChangeShapes Go.WideShapes Go.Deep

/-- Data of a type, wherever they are read, lie so in cells. -/
def Op (P : Program) {α : Type} (r : Rep α) (Q : α → Prop) (t : TypeId) : Prop :=
  ∀ (H : Type) (enc : TypeId × Value → H) (w : World) (fuel : Nat) (cs : List Value) (x : DataW H × List MemPlace), DataW.trod enc P w 0 (fun _ => true) true fuel t cs = some x → ∃ y : α, r.rd ⟨w, fun _ => 0⟩ cs y ∧ Q y
section
variable {P : Program} {α β : Type} {r : Rep α} {q : Rep β} {Q : α → Prop} {R : β → Prop} {t e : TypeId}
/-- The cells of a struct, one type each. -/
theorem op_agg {w : World} {base : Nat} {v : Value} {fs : Array Field} {ts : List TypeId} (ht : P.underlying t = some (.struct fs)) (hts : P.cellTypes P.depth t = some ts) (hsz : P.cellsOf t = ts.length) (hok : Value.okWide P w .any base t v) :
    ∃ cs, v = .agg cs ∧ cs.size = ts.length ∧ ∀ (i : Nat) (u : TypeId), ts[i]? = some u → ∃ c : Value, cs[i]? = some c ∧ Cell.okWide P w .any base u c := by
  simp only [Value.okWide, ht] at hok
  obtain ⟨cs, rfl, h1, ts', h2, h3, h4⟩ := hok
  rw [hts] at h2
  cases h2
  refine ⟨cs, rfl, by omega, fun i u hu => ?_⟩
  have hlt : i < ts.length := (List.getElem?_eq_some_iff.1 hu).1
  obtain ⟨u', g1, g2⟩ := h4 i cs[i] (Array.getElem?_eq_getElem (by omega))
  rw [Nat.mod_eq_of_lt hlt, hu] at g1
  cases g1
  exact ⟨_, Array.getElem?_eq_getElem (by omega), g2⟩
end
end Go.Proofs.YtfbapajcheammaaDoor

namespace Go.Proofs.YtfbapajcheammaaDoor
open Go Go.ChangeShapes Go.WideShapes Go.ChangeAt Go.RowKit Go.Deep

theorem Tryd.own : ownKnob Tryd.prog.godebug = none := by kernel_rfl
theorem Tryd.laidOut : laidOutB Tryd.prog = true := by kernel_rfl

section
variable {H : Type} {enc : TypeId × Value → H}
/-- Types whose values may be carried. -/
def carryB (P : Program) (ts : List TypeId) : Bool := ts.all fun t => P.readableRec t && decide (t < P.types.size)
/-- All arguments read as they did. -/
theorem trodAll_carry {P : Program} (hl : laidOutB P = true) {W W' : World} (hb : Below W.heap.size W W') {sp : Nat → Bool} : ∀ {ts : List TypeId} {vs : List Value} {ds : List (DataW H)} {ps : List MemPlace}, carryB P ts = true →
    DataW.TrodAll enc P W 0 (fun _ => true) true ts vs ds ps → (∀ x ∈ ps, x.block < W.heap.size) → (∀ x ∈ ps, sp x.block = true) → DataW.TrodAll enc P W' 0 sp true ts vs ds ps
  | [], [], [], _, _, h, _, _ => h
  | [], _ :: _, _, _, _, h, _, _ => h.elim
  | [], [], _ :: _, _, _, h, _, _ => h.elim
  | t :: ts, [], _, _, _, h, _, _ => h.elim
  | t :: ts, _ :: _, [], _, _, h, _, _ => h.elim
  | t :: ts, v :: vs, d :: ds, ps, hc, ⟨p, q, h1, h2, e⟩, hlt, hsp => by
    subst e
    unfold carryB at hc
    rw [List.all_cons, Bool.and_eq_true, Bool.and_eq_true] at hc
    exact ⟨p, q, WideElems.Trod_stays hl hc.1.1 (of_decide_eq_true hc.1.2) h1 (fun x hx => hb.same (hlt x (List.mem_append_left _ hx))) (fun x hx => hsp x (List.mem_append_left _ hx)),
      trodAll_carry hl hb hc.2 h2 (fun x hx => hlt x (List.mem_append_right _ hx)) (fun x hx => hsp x (List.mem_append_right _ hx)), rfl⟩

/-- A law's end: it has returned a bool, and nothing that was there has turned. -/
theorem law_post {P : Program} (hl : laidOutB P = true) {f : Func} {s : ChangeSpec} {apart fresh handsOn again : Bool} {W W' : World} {args : Array Value} {ds : List (DataW H)} {before : List MemPlace} {tb : TypeId} {b : Bool}
    (hW : DataW.Whole enc P f.params.toList s.vars apart W args.toList ds [] before) (hv : s.vars = []) (hc : carryB P f.params.toList = true) (hrt : f.resultTypes = #[tb]) (ht : P.underlying tb = some .bool)
    (hr : (s.fn H (ds ++ [])).results = [.lit (.bool b)]) (ha : (s.fn H (ds ++ [])).args = ds) (hvn : (s.fn H (ds ++ [])).vars = []) (hb : Below W.heap.size W W') :
    s.post enc P f apart fresh handsOn again W args (.bool b) W' := by
  have hlt : ∀ p ∈ before, p.block < W.heap.size := fun p hp => hW.lt p hp
  have hWc := hW
  obtain ⟨p, q, hA, hV, rfl, hz, hn⟩ := hWc
  rw [hv] at hV
  obtain ⟨-, rfl⟩ := trodVars_none hV
  rw [List.append_nil] at hlt hz hn
  have hargs : ∀ sp : Nat → Bool, (∀ x ∈ p, sp x.block = true) → DataW.TrodAll enc P W' 0 sp true f.params.toList args.toList (s.fn H (ds ++ [])).args p := fun sp hsp => by
    rw [ha]; exact trodAll_carry hl hb hc hA hlt hsp
  have hres : ∀ (b0 : Nat) (sp : Nat → Bool) (hd : Bool), DataW.TrodAll enc P W' b0 sp hd f.resultTypes.toList ((Value.bool b).resultList f.resultTypes.size) (s.fn H (ds ++ [])).results [] := fun _ _ _ => by
    rw [hr, hrt]; exact trodAll_mk1 (shut_bool ht b)
  have hvars : ∀ sp : Nat → Bool, DataW.TrodVars enc P W' sp s.vars (s.fn H (ds ++ [])).vars [] := fun sp => by rw [hv, hvn]; rfl
  have hold : ∀ x ∈ p, (fun b => decide (b < W.heap.size)) x.block = true := fun x hx => by simpa using hlt x hx
  refine ⟨ds, [], p ++ [], [], p, [], hW, hres _ _ _, hargs _ hold, hvars _, World.keptBut_mono (fun x hx => ?_) (hb.frame (· ∈ p)), fun _ => ?_⟩
  · exact ⟨by rwa [List.append_nil], Or.inr (.inl hx)⟩
  · have hok := ok_one (f := f) (W' := W') (by rw [hrt]) rfl (okWide_bool_mk (W' := W') ht b)
    refine ⟨hok, _, _, ([] ++ p) ++ [], ⟨[] ++ p, [], trodAll_append (hargs _ (fun _ _ => rfl)) (hres _ _ _), hvars _, rfl, ?_, ?_⟩, ?_⟩
    · intro b0 off hp
      have hin : MemPlace.cell b0 off ∈ p := by simpa using hp
      rw [hb.frozen (hlt _ hin)]
      exact hz b0 off hin
    · intro hap
      simpa using hn hap
    · intro x hx _
      simpa using hx
end

set_option maxRecDepth 100000 in
/-- A cell of a byte. -/
theorem cell_u8 {w : World} {r : Reach} {base : Nat} {v : Value} (h : Cell.okWide Tryd.prog w r base 5 v) : ∃ n : Int, v = .int .u8 n ∧ 0 ≤ n ∧ n < 256 := by
  simp only [Cell.okWide, Tryd.underlying5] at h
  cases v <;> simp_all [Cell.ok]
  rename_i k n
  obtain ⟨rfl, h2⟩ := h
  simp [IntKind.has, IntKind.min, IntKind.max, IntKind.signed, IntKind.bits] at h2
  omega

/-- The listed variables, with what they hold. -/
def lay24 : List (String × DataW Unit) := [("math/bits.deBruijn32tab", Rows.laid_math_bits_deBruijn32tab), ("math/bits.deBruijn64tab", Rows.laid_math_bits_deBruijn64tab), ("internal/strconv.uint64pow10", Rows.laid_internal_strconv_uint64pow10)]
theorem lay24_met (os : Os) (args : Array Value) : laidMetH Tryd.prog lay24 ((World.laidAll Tryd.prog os lay24).forCall (fun _ _ => 0) ⟨#[], args, []⟩).memory :=
  laidMetH_of_parts3 (fuel := 8) (laidMet_laidAll args (by kernel_rfl) (by kernel_rfl)) (by kernel_rfl) (by kernel_rfl)
section
variable {H : Type} {enc : TypeId × Value → H} {w : World} {base : Nat} {v : Value} {d : DataW H} {ps : List MemPlace}
/-- The types of a description's cells. -/
def smT : List TypeId := List.replicate 26 5
theorem sm_types : Tryd.prog.cellTypes Tryd.prog.depth 25 = some smT := by kernel_rfl
theorem sm_cells : Tryd.prog.cellsOf 25 = smT.length := by kernel_rfl
theorem sm_at (i : Nat) (hi : i < 26) : smT[i]? = some 5 := by unfold smT; rw [List.getElem?_replicate, if_pos hi]
set_option maxRecDepth 100000 in
/-- A description. -/
theorem arg_small (hok : Value.okWide Tryd.prog w .any base 25 v) : ∃ p : DesT, 0 ≤ p.1 ∧ v = .agg #[.int .u8 p.1, .int .u8 p.2.1, .int .u8 p.2.2.1.1, .int .u8 p.2.2.1.2.1, .int .u8 p.2.2.1.2.2.1, .int .u8 p.2.2.1.2.2.2, .int .u8 p.2.2.2.1.1, .int .u8 p.2.2.2.1.2.1, .int .u8 p.2.2.2.1.2.2.1, .int .u8 p.2.2.2.1.2.2.2, .int .u8 p.2.2.2.2.1.1, .int .u8 p.2.2.2.2.1.2.1, .int .u8 p.2.2.2.2.1.2.2.1, .int .u8 p.2.2.2.2.1.2.2.2, .int .u8 p.2.2.2.2.2.1.1, .int .u8 p.2.2.2.2.2.1.2.1, .int .u8 p.2.2.2.2.2.1.2.2.1, .int .u8 p.2.2.2.2.2.1.2.2.2, .int .u8 p.2.2.2.2.2.2.1.1, .int .u8 p.2.2.2.2.2.2.1.2.1, .int .u8 p.2.2.2.2.2.2.1.2.2.1, .int .u8 p.2.2.2.2.2.2.1.2.2.2, .int .u8 p.2.2.2.2.2.2.2.1, .int .u8 p.2.2.2.2.2.2.2.2.1, .int .u8 p.2.2.2.2.2.2.2.2.2.1, .int .u8 p.2.2.2.2.2.2.2.2.2.2] := by
  obtain ⟨cs, rfl, h1, h2⟩ := op_agg Tryd.underlying25 sm_types sm_cells hok
  have h1' : cs.size = 26 := h1
  obtain ⟨f, hf⟩ := choose_lt (α := Int) (n := 26) (p := fun i n => cs[i]? = some (.int .u8 n) ∧ 0 ≤ n ∧ n < 256) (fun i hi => by
    obtain ⟨c, g1, g2⟩ := h2 i 5 (sm_at i hi)
    obtain ⟨n, rfl, g3⟩ := cell_u8 g2
    exact ⟨n, g1, g3⟩)
  have hcs : cs = ((List.range 26).map fun i => Value.int .u8 (f i)).toArray := by
    apply Array.ext_getElem?
    intro i
    by_cases hi : i < 26
    · rw [(hf i hi).1]; simp [hi]
    · rw [Array.getElem?_eq_none (by omega), Array.getElem?_eq_none (by simp; omega)]
  exact ⟨(f 0, f 1, ((f 2, f 3, f 4, f 5), (f 6, f 7, f 8, f 9), (f 10, f 11, f 12, f 13), (f 14, f 15, f 16, f 17), (f 18, f 19, f 20, f 21), (f 22, f 23, f 24, f 25))), (hf 0 (by omega)).2.1, by rw [hcs]; rfl⟩
end
end Go.Proofs.YtfbapajcheammaaDoor

namespace Go.Proofs.YtfbapajcheammaaDoor
open Go Go.ChangeShapes Go.WideShapes Go.ChangeAt Go.RowKit

set_option maxRecDepth 100000 in
theorem blockingEscapes_lifted (os : Os) (started : os.Started) (H : Type) (enc : TypeId × Value → H) :
    ReturnsInHanded {} Tryd.checked os 6 .any (fun w args => (Rows.blockingEscapesSpec.pre enc Tryd.prog Tryd.f6 [] false w args ∧ laidMetH Tryd.prog lay24 w) ∧ sizedMet enc Tryd.prog Tryd.f6 (OpenSpec.ofChange Rows.blockingEscapesSpec) false w args) (Rows.blockingEscapesSpec.post enc Tryd.prog Tryd.f6 false true false false) := by
  refine returnsInHanded_of_change_and (C := Tryd.checked) (X := fun w _ => laidMetH Tryd.prog lay24 w) (fun _ _ _ hh h => h.of_heap hh) Tryd.own started (by kernel_rfl) Tryd.func6
    (ChangeSpec.witness_shaped (enc := enc) (C := Tryd.checked) (os := os) (X := fun w _ => laidMetH Tryd.prog lay24 w) false (World.laidAll Tryd.prog os lay24) #[.agg #[.int .u8 0, .int .u8 0, .int .u8 0, .int .u8 0, .int .u8 0, .int .u8 0, .int .u8 0, .int .u8 0, .int .u8 0, .int .u8 0, .int .u8 0, .int .u8 0, .int .u8 0, .int .u8 0, .int .u8 0, .int .u8 0, .int .u8 0, .int .u8 0, .int .u8 0, .int .u8 0, .int .u8 0, .int .u8 0, .int .u8 0, .int .u8 0, .int .u8 0, .int .u8 0], .int .u8 0, .int .u8 0] 8 (World.laidAll_os _ _ _) (World.shaped_of_ZipB (by kernel_rfl) (by kernel_rfl)) (by kernel_rfl) (by kernel_rfl) (by kernel_rfl) (lay24_met os _)) ?_
  intro W base args ds gs before hval0 hW _ _ _ _
  have hval : ∀ (j : Nat) t v, Tryd.f6.params[j]? = some t → args[j]? = some v → Value.okWide Tryd.prog W .any base t v := hval0
  have hW' := hW
  obtain ⟨p, q, hA0, hV, rfl, hfz, hnd⟩ := hW
  have hA : DataW.TrodAll enc Tryd.prog W 0 (fun _ => true) true Tryd.f6.params.toList args.toList ds p := hA0
  rw [Tryd.params6] at hA hval
  obtain ⟨v0, v1, v2, d0, d1, d2, p0, p1, p2, rfl, rfl, rfl, h0, h1, h2⟩ := trodAll_three hA
  obtain ⟨x, hx, rfl⟩ := arg_small (hval 0 25 v0 rfl rfl)
  obtain ⟨a, rfl, rfl, rfl, wa⟩ := open_int Tryd.underlying5 (hval 1 5 v1 rfl rfl) h1
  obtain ⟨b, rfl, rfl, rfl, wb⟩ := open_int Tryd.underlying5 (hval 2 5 v2 rfl rfl) h2
  obtain ⟨rfl, rfl⟩ := trodVars_none hV
  clear hA0 hval0
  have ra : 0 ≤ a ∧ a < 256 := by
    simp [Lit.wf, IntKind.min, IntKind.max, IntKind.signed, IntKind.bits] at wa
    omega
  have rb : 0 ≤ b ∧ b < 256 := by
    simp [Lit.wf, IntKind.min, IntKind.max, IntKind.signed, IntKind.bits] at wb
    omega
  refine (m_overseerlaw24_BlockingEscapes_c (s := ⟨W, fun _ => 0⟩) (escapes_law hx ra.1 ra.2 rb.1 rb.2)).mono fun e W' ⟨v, s', hw, he, hm, hv⟩ => ?_
  subst hw
  subst he
  subst hv
  have hbl := hm.below
  exact ⟨_, rfl, law_post Tryd.laidOut hW' rfl (by kernel_rfl) (by kernel_rfl) Tryd.underlying4 rfl rfl rfl hbl⟩

/-- The row's statement. -/
theorem blockingEscapes_holds : Rows.BlockingEscapesSaid :=
  OpenClaim.holds_of_wide 6 Tryd.f6 rfl rfl rfl rfl rfl rfl rfl ⟨rfl, rfl, rfl, rfl, rfl⟩ rfl rfl rfl rfl rfl (by kernel_rfl) Tryd.func6 (by kernel_rfl)
    (of_decide_eq_true (by kernel_rfl)) (by unfold Func.isWrapper; first | (rw [if_pos (by decide +kernel)]; kernel_rfl) | (rw [if_neg (by decide +kernel)]; exact ⟨rfl, rfl⟩))
    (fun os started H enc _ => blockingEscapes_lifted os started H enc)
/-- The statement: the card. -/
theorem blockingEscapes_card_holds : Rows.BlockingEscapesCardSaid :=
  Claim7.holds_tied_plain_at .later [] [.data, .data, .data] true (true, "04b4984385588a06ce930520a54a8f7a5b96a2dbce59b8f279a2e7206054670f") false
    blockingEscapes_holds (fun _ h => by cases h) (by kernel_rfl) (fun _ h => by cases h) blockingEscapes_row_tie rfl ⟨rfl, rfl⟩ (by kernel_rfl) rfl
    (fun f fn hf hfn => by
      obtain rfl : f = 6 := Option.some.inj ((show Tryd.prog.funcNamed "overseer/overseerlaw24.BlockingEscapes" = some 6 by kernel_rfl).symm.trans hf) |>.symm
      obtain rfl : fn = Tryd.f6 := (Option.some.inj (Tryd.func6.symm.trans hfn)).symm
      exact ⟨by kernel_rfl, fun j t ht => by
        have hm : t ∈ Tryd.f6.params := Array.mem_of_getElem? ht
        have hall : (Tryd.f6.params.toList.all fun u => !(Tryd.prog.wantsStandIn u)) = true := by kernel_rfl
        exact (show Tryd.prog.wantsStandIn t = false by simpa using List.all_eq_true.1 hall t (Array.mem_toList_iff.2 hm))⟩)
    (by kernel_rfl)
end Go.Proofs.YtfbapajcheammaaDoor
