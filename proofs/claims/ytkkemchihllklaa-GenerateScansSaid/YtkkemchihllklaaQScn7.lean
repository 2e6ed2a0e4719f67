/- GenerateScans returns true for all arguments, and leaves its arguments as they were. No conditions. -/
import Derived.Test.YtkkemchihllklaaProg
import Derived.Test.YtkkemchihllklaaQScn6
namespace Go.Proofs.Ytkkemchihllklaa
open Go Go.RowKit
theorem cf60 : Cf Try.prog 60 := Cf.mk Try.func60 (by kernel_rfl) (by kernel_rfl)
theorem zz3 : (Try.prog.info? 3).bind (·.zero) = some (.int .i64 0) := by kernel_rfl
noncomputable def m_slices_DeleteFunc_int_j1 (st26 : Int × Int × List Int) (n38 : Int) (l39 : List Int) : Option ((Int × Int × List Int) ⊕ (Int × List Int)) :=
  some (.inl (W (st26.1 + 1), n38, l39))
noncomputable def m_slices_DeleteFunc_int_l1 (p1 : Int → Option Bool) (st26 : Int × Int × List Int) : Option ((Int × Int × List Int) ⊕ (Int × List Int)) :=
  if decide (st26.1 < (st26.2.2.length : Int)) then
    (idx st26.2.2 st26.1).bind fun x42 =>
    (p1 x42).bind fun r44 =>
    if (!r44) then
      (idx st26.2.2 st26.2.1).bind fun x47 =>
      (upd st26.2.2 st26.2.1 x42).bind fun x49 =>
      m_slices_DeleteFunc_int_j1 st26 (W (st26.2.1 + 1)) x49
    else
      m_slices_DeleteFunc_int_j1 st26 st26.2.1 st26.2.2
  else
    some (.inr st26.2)
/-- What slices.DeleteFunc<<>int,int> computes. -/
noncomputable def m_slices_DeleteFunc_int (p0 : List Int) (p1 : Int → Option Bool) : Option (List Int × List Int) :=
  (m_slices_IndexFunc_int p0 p1).bind fun r3 =>
  if (r3 == (-1)) then
    some (p0, p0)
  else
    (iter (m_slices_DeleteFunc_int_l1 p1) ((W (r3 + 1)), r3, p0)).bind fun o26 =>
    (slc o26.2 o26.1 (o26.2.length : Int)).bind fun x31 =>
    (clrG o26.2 o26.1 (0 : Int)).bind fun x34 =>
    (slc (o26.2.take o26.1.toNat ++ List.replicate (o26.2.length - o26.1.toNat) (0 : Int)) 0 o26.1).bind fun x35 =>
    some (x35, (o26.2.take o26.1.toNat ++ List.replicate (o26.2.length - o26.1.toNat) (0 : Int)))
set_option maxRecDepth 100000 in
set_option maxHeartbeats 8000000 in
theorem m_slices_DeleteFunc_int_c {s : Sig} {p0 : List Int} {p1 : Int → Option Bool} {t0 : Nat} {a1 : Option Addr} {c1 : Nat} {vp1 : Value} {r : List Int × List Int} (zt0 : 0 < t0) (h1 : RowT (rK .i64) s t0 3 a1 c1 p0) (hp1 : FV1 Try.prog s vp1 (fun (x0 : Int) => [.int .i64 x0]) (fun (r : Bool) => .bool r) p1) (hm : m_slices_DeleteFunc_int p0 p1 = some r) :
    Calls Try.prog 48 #[.slice a1 p0.length c1, vp1] s.w (RetS (One t0) s fun v s' => ∃ (a2 : Option Addr) (c2 : Nat), v = .slice a2 r.1.length c2 ∧ RowT (rK .i64) s' t0 3 a2 c2 r.1 ∧ RowT (rK .i64) s' t0 3 a1 c1 r.2) := by
 unfold m_slices_DeleteFunc_int at hm
 obtain ⟨N, hN, hNb, lt0, -⟩ := s.freshL [t0]
 have m0 : Mv (Up N (One t0)) s s := Mv.refl _ _
 refine E.entry Try.func48 rfl Try.ntmps48 rfl rfl (E.seq (E.reg (L.as Wt.no rfl rfl (L.nil (X.seqN (E.seq (E.reg (L.mv Wt.no rfl rfl (L.mv Wt.no rfl rfl ?_)))))))))
 obtain ⟨r3, er3, hm⟩ := bindS hm
 refine L.ca cf60 rfl rfl Wt.no rfl (Calls.lendG (s0 := (Sig.fz t0 (Sig.drop N s))) (s := s) rfl (m_slices_IndexFunc_int_c (s := (Sig.fz t0 (Sig.drop N s))) (p0 := p0) (p1 := p1) ((h1.dropV lt0).fz (Ne.symm (tne0V zt0))) (hp1.mono ((Sig.drop_le N _).trans ((Sig.fz_mv t0 _).le (tgz zt0)))) er3) (fun v s' h => h)) rfl ?_
 rintro _ s4 m5 rfl
 replace m0 := m0.trans m5.no
 replace h1 := h1.mv m5 no_No no_No
 replace hp1 := hp1.mono (m5.le no_No)
 refine L.as Wt.no rfl rfl (L.nil (X.seqN (E.seq (E.seq (E.reg (L.mv Wt.no rfl rfl (L.bi Wt.no rfl rfl rfl rfl (L.nil (X.seqN ?_)))))))))
 rcases ifS hm with ⟨hc, hm⟩ | ⟨hc, hm⟩
 ·refine E.cT rfl hc (E.seq (E.reg (L.mv Wt.no rfl rfl (L.as Wt.no rfl rfl (L.nil (X.seqN (E.ret (X.seqR ?_))))))))
  obtain rfl := Option.some.inj hm
  exact X.rt (.inl rfl) Try.results48 (Rs.tmp rfl Rs.nil) rfl ⟨_, (s4).ren N (fun _ => 0), rfl, rfl, m0.ren hNb, ⟨a1, c1, rfl, (h1.renV hN lt0), (h1.renV hN lt0)⟩⟩
 ·refine E.cF rfl hc (E.skip (X.seqN (E.seq (E.seq (E.reg (L.mv Wt.no rfl rfl (L.bi Wt.no rfl rfl rfl rfl (L.as Wt.no rfl rfl (L.nil (X.seqN (E.block ?_)))))))))))
  obtain ⟨o26, eo26, hm⟩ := bindS hm
  refine E.cut (x := .exit 0) (fun e w => ∃ (s30 : Sig), Mv (Up N (One t0)) s s30 ∧ RowT (rK .i64) s30 t0 3 a1 c1 o26.2 ∧ e = [(5, .int .i64 o26.1), (0, .slice a1 o26.2.length c1)] ∧ w = s30.w) ?_ ?_
  ·rintro _ _ ⟨s30, m0, h1, rfl, rfl⟩
   refine X.blkE (X.seqN (E.seq (E.reg (L.mv Wt.no rfl rfl (L.mv Wt.no rfl rfl ?_)))))
   obtain ⟨x31, ex31, hm⟩ := bindS hm
   refine L.slo (r := (rK .i64)) sl23 h1 Wt.no rfl rfl ex31 rfl ?_
   obtain ⟨x34, ex34, hm⟩ := bindS hm
   obtain ⟨kx34, rfl⟩ := clr_some ex34
   refine L.clr (r := (rK .i64)) (lo := o26.1.toNat) (z0 := (0 : Int)) sl23 zz3 rfl rfl (fun _ => rfl) kx34 h1 (tgpV zt0) Wt.no rfl fun s32 m33 h1 => ?_
   have elx34 : (o26.2.take o26.1.toNat ++ List.replicate (o26.2.length - o26.1.toNat) (0 : Int)).length = o26.2.length := clr_len kx34
   replace m0 := m0.trans (m33.one (.inr rfl))
   refine L.reval (d := 0) rfl elx34 (L.nil (X.seqN (E.seq (E.reg (L.mv Wt.no rfl rfl (L.mv Wt.no rfl rfl ?_))))))
   obtain ⟨x35, ex35, hm⟩ := bindS hm
   refine L.sho (r := (rK .i64)) sl23 h1 Wt.no rfl rfl ex35 rfl fun a36 c36 h36 => L.as Wt.no rfl rfl (L.nil (X.seqN (E.ret ?_)))
   obtain rfl := Option.some.inj hm
   exact X.rt (.inl rfl) Try.results48 (Rs.tmp rfl Rs.nil) rfl ⟨_, (s32).ren N (fun _ => 0), rfl, rfl, m0.ren hNb, ⟨a36, c36, rfl, (h36.renV hN lt0), (h1.renV hN lt0)⟩⟩
  intro K37
  refine E.iter (fun (st26 : Int × Int × List Int) (e : List (Nat × Value)) (w : World) => ∃ (s29 : Sig), Mv (Up N (One t0)) s s29 ∧ RowT (rK .i64) s29 t0 3 a1 c1 st26.2.2 ∧ FV1 Try.prog s29 vp1 (fun (x0 : Int) => [.int .i64 x0]) (fun (r : Bool) => .bool r) p1 ∧ e = [(6, .int .i64 st26.1), (5, .int .i64 st26.2.1), (0, .slice a1 st26.2.2.length c1), (1, vp1)] ∧ w = s29.w) eo26 ⟨s4, m0, h1, hp1, rfl, rfl⟩ (Sub.rf rfl) ?_
  rintro st26 res26 hm ih26 ho26 _ _ ⟨s29, m0, h1, hp1, rfl, rfl⟩
  unfold m_slices_DeleteFunc_int_l1 at hm
  refine E.seq (E.seq (E.reg (L.mv Wt.no rfl rfl (L.mv Wt.no rfl rfl (L.len sl23 Wt.no rfl rfl (L.bi Wt.no rfl rfl rfl rfl (L.nil (X.seqN ?_))))))))
  rcases ifS hm with ⟨hc, hm⟩ | ⟨hc, hm⟩
  ·refine E.cT rfl hc (E.skip (X.seqN (E.seqJ (fun e w => ∃ (s40 : Sig) (n38 : Int) (l39 : List Int), m_slices_DeleteFunc_int_j1 st26 n38 l39 = some res26 ∧ Mv (Up N (One t0)) s s40 ∧ RowT (rK .i64) s40 t0 3 a1 c1 l39 ∧ FV1 Try.prog s40 vp1 (fun (x0 : Int) => [.int .i64 x0]) (fun (r : Bool) => .bool r) p1 ∧ e = [(5, .int .i64 n38), (0, .slice a1 l39.length c1), (6, .int .i64 st26.1), (1, vp1)] ∧ w = s40.w) ?_ ?_)))
   ·rintro _ _ ⟨s40, n38, l39, hm, m0, h1, hp1, rfl, rfl⟩
    unfold m_slices_DeleteFunc_int_j1 at hm
    exact E.reg (L.mv Wt.no rfl rfl (L.bi Wt.no rfl rfl rfl rfl (L.as Wt.no rfl rfl (L.nil (X.sub (ih26 _ (Option.some.inj hm).symm _ _ ⟨s40, m0, h1, hp1, rfl, rfl⟩) (Sub.rf rfl))))))
   ·intro Jj41
    refine E.block (E.seq (E.reg (L.mv Wt.no rfl rfl (L.mv Wt.no rfl rfl ?_))))
    obtain ⟨x42, ex42, hm⟩ := bindS hm
    refine L.ir (r := (rK .i64)) sl23 h1 Wt.no rfl rfl ex42 rfl fun b43 o43 cc43 me43 rd43 sp43 => ?_
    obtain rfl := rd43
    refine L.ld (j := 0) me43 nag3 Wt.no rfl rfl rfl rfl (L.as Wt.no rfl rfl (L.nil (X.seqN (E.seq (E.reg (L.mv Wt.no rfl rfl (L.mv Wt.no rfl rfl ?_)))))))
    obtain ⟨r44, er44, hm⟩ := bindS hm
    refine L.fv1 (y := x42) hp1 rfl rfl Wt.no rfl rfl er44 rfl fun s45 m46 => ?_
    replace m0 := m0.trans m46.no
    replace h1 := h1.mv m46 no_No no_No
    replace hp1 := hp1.mono (m46.le no_No)
    refine L.not Wt.no rfl rfl (L.nil (X.seqN ?_))
    rcases ifS hm with ⟨hc, hm⟩ | ⟨hc, hm⟩
    ·refine E.cT rfl hc (E.seq (E.reg (L.mv Wt.no rfl rfl (L.mv Wt.no rfl rfl (L.mv Wt.no rfl rfl ?_)))))
     obtain ⟨x47, ex47, hm⟩ := bindS hm
     refine L.ir (r := (rK .i64)) sl23 h1 Wt.no rfl rfl ex47 rfl fun b48 o48 cc48 me48 rd48 sp48 => ?_
     obtain rfl := rd48
     obtain ⟨x49, ex49, hm⟩ := bindS hm
     have elx49 := upd_len ex49
     refine L.su (fo := 0) (c := [.int .i64 x42]) (z := x42) h1 sp48 ex47 ex49 (tgpV zt0) nag3.sz Wt.no rfl rfl rfl rfl rfl rfl (fun c0 hc0 => by obtain rfl := hc0; exact rfl) fun s50 m51 h1 => ?_
     replace m0 := m0.trans (m51.one (.inr rfl))
     replace hp1 := hp1.mono (m51.le (tgz zt0))
     exact L.reval (d := 0) rfl elx49 (L.nil (X.seqN (E.reg (L.mv Wt.no rfl rfl (L.bi Wt.no rfl rfl rfl rfl (L.as Wt.no rfl rfl (L.nil (X.blkN (X.sub (Jj41 _ _ ⟨s50, (W (st26.2.1 + 1)), x49, hm, m0, h1, hp1, rfl, rfl⟩) (Sub.rf rfl))))))))))
    ·exact E.cF rfl hc (E.skip (X.blkN (X.sub (Jj41 _ _ ⟨s45, st26.2.1, st26.2.2, hm, m0, h1, hp1, rfl, rfl⟩) (Sub.rf rfl))))
  ·refine E.cF rfl hc (E.exit (X.seqX (X.seqX ?_)))
   have hx := ho26 _ (Option.some.inj hm).symm
   subst hx
   exact X.sub (K37 _ _ ⟨s29, m0, h1, rfl, rfl⟩) (Sub.rf rfl)

theorem ag49 : Ag Try.prog 49 27 := Ag.mk' Try.underlying49 rfl (by kernel_rfl)
theorem cf46 : Cf Try.prog 46 := Cf.mk Try.func46 (by kernel_rfl) (by kernel_rfl)
theorem cf47 : Cf Try.prog 47 := Cf.mk Try.func47 (by kernel_rfl) (by kernel_rfl)
theorem cf48 : Cf Try.prog 48 := Cf.mk Try.func48 (by kernel_rfl) (by kernel_rfl)
theorem cf49 : Cf Try.prog 49 := Cf.mk Try.func49 (by kernel_rfl) (by kernel_rfl)
theorem fa51_0 : FA Try.prog 51 0 0 := FA.mk Try.underlying51 rfl rfl ⟨1, by decide, by kernel_rfl⟩
theorem fa51_1 : FA Try.prog 51 1 1 := FA.mk Try.underlying51 rfl rfl ⟨27, by decide, by kernel_rfl⟩
theorem fa51_2 : FA Try.prog 51 2 28 := FA.mk Try.underlying51 rfl rfl ⟨1, by decide, by kernel_rfl⟩
theorem nag45 : NAg Try.prog 45 := NAg.mk' Try.underlying45 rfl (by kernel_rfl)
/-- What overseerlaw53.Make computes. -/
noncomputable def m_overseerlaw53_Make (p0 : Int × (Int × Int × ((Int × Int × Int × Int × Int) × (Int × Int × Int × Int × Int) × (Int × Int × Int × Int × Int) × (Int × Int × Int × Int × Int) × (Int × Int × Int × Int × Int))) × Int) : Option ((List Int × Int × List Int × (List (Int × Int × Int))) × List Int) :=
  (m_overseerlaw03_Set_Events p0.1).bind fun r16 =>
  (m_overseerlaw03_Make r16 ((p0.2.1.1.tmod 5), p0.2.1.2)).bind fun r23 =>
  (m_overseerlaw03_Set_Events p0.2.2).bind fun r45 =>
  (m_slices_DeleteFunc_int r45 (m_overseerlaw53_Make_1 r23)).bind fun r52 =>
  (lenEq r52.2 r45).bind fun _ =>
  some (r23, r52.1)
set_option maxRecDepth 100000 in
set_option maxHeartbeats 8000000 in
theorem m_overseerlaw53_Make_c {s : Sig} {p0 : Int × (Int × Int × ((Int × Int × Int × Int × Int) × (Int × Int × Int × Int × Int) × (Int × Int × Int × Int × Int) × (Int × Int × Int × Int × Int) × (Int × Int × Int × Int × Int))) × Int} {u3 : Nat} {r : (List Int × Int × List Int × (List (Int × Int × Int))) × List Int} (hm : m_overseerlaw53_Make p0 = some r) :
    Calls Try.prog 16 #[.agg #[.int .u8 p0.1, .int .u8 p0.2.1.1, .int .u8 p0.2.1.2.1, .int .u8 p0.2.1.2.2.1.1, .int .u8 p0.2.1.2.2.1.2.1, .int .u8 p0.2.1.2.2.1.2.2.1, .int .u8 p0.2.1.2.2.1.2.2.2.1, .int .u8 p0.2.1.2.2.1.2.2.2.2, .int .u8 p0.2.1.2.2.2.1.1, .int .u8 p0.2.1.2.2.2.1.2.1, .int .u8 p0.2.1.2.2.2.1.2.2.1, .int .u8 p0.2.1.2.2.2.1.2.2.2.1, .int .u8 p0.2.1.2.2.2.1.2.2.2.2, .int .u8 p0.2.1.2.2.2.2.1.1, .int .u8 p0.2.1.2.2.2.2.1.2.1, .int .u8 p0.2.1.2.2.2.2.1.2.2.1, .int .u8 p0.2.1.2.2.2.2.1.2.2.2.1, .int .u8 p0.2.1.2.2.2.2.1.2.2.2.2, .int .u8 p0.2.1.2.2.2.2.2.1.1, .int .u8 p0.2.1.2.2.2.2.2.1.2.1, .int .u8 p0.2.1.2.2.2.2.2.1.2.2.1, .int .u8 p0.2.1.2.2.2.2.2.1.2.2.2.1, .int .u8 p0.2.1.2.2.2.2.2.1.2.2.2.2, .int .u8 p0.2.1.2.2.2.2.2.2.1, .int .u8 p0.2.1.2.2.2.2.2.2.2.1, .int .u8 p0.2.1.2.2.2.2.2.2.2.2.1, .int .u8 p0.2.1.2.2.2.2.2.2.2.2.2.1, .int .u8 p0.2.1.2.2.2.2.2.2.2.2.2.2, .int .u8 p0.2.2]] s.w (RetS No s fun v s' => ∃ (a1 : Option Addr) (c1 : Nat) (a2 : Option Addr) (c2 : Nat) (a3 : Option Addr) (c3 : Nat) (a4 : Option Addr) (c4 : Nat), v = .tuple #[.agg #[.slice a1 r.1.1.length c1, .int .i64 r.1.2.1, .slice a2 r.1.2.2.1.length c2, .slice a3 r.1.2.2.2.length c3], .slice a4 r.2.length c4] ∧ RdL (rK .i64) s' a1 c1 r.1.1 ∧ RdL (rK .i64) s' a2 c2 r.1.2.2.1 ∧ RdL (rP (rK .i64) (rP (rK .i64) (rK .i64))) s' a3 c3 r.1.2.2.2 ∧ RowT (rK .i64) s' u3 3 a4 c4 r.2) := by
 unfold m_overseerlaw53_Make at hm
 obtain ⟨N, hN, hNb⟩ := s.fresh
 have m0 : Mv (Up N No) s s := Mv.refl _ _
 refine E.entry Try.func16 rfl Try.ntmps16 rfl rfl (E.seq (E.reg (L.box (N + 0) Wt.no rfl rfl rfl fun b5 s6 m7 bx5 => ?_)))
 replace m0 := m0.trans m7.no
 refine L.al (N + 1) zz26 rfl Wt.no rfl fun b8 s9 m10 bx8 => ?_
 replace m0 := m0.trans m10.no
 replace bx5 := bx5.mv m10 no_No
 refine L.as Wt.no rfl rfl (L.nil (X.seqN (E.seq (E.reg (L.fa fa51_1 Wt.no rfl rfl (L.fa fa49_0 Wt.no rfl rfl (L.ld (j := 1) bx5.mem nag5 Wt.no rfl rfl rfl rfl (L.rem Wt.no rfl rfl (by decide) rfl (L.fa fa51_1 Wt.no rfl rfl (L.fa fa49_0 Wt.no rfl rfl (L.st (c := [.int .u8 (p0.2.1.1.tmod 5)]) (cs' := #[.int .u8 p0.1, .int .u8 (p0.2.1.1.tmod 5), .int .u8 p0.2.1.2.1, .int .u8 p0.2.1.2.2.1.1, .int .u8 p0.2.1.2.2.1.2.1, .int .u8 p0.2.1.2.2.1.2.2.1, .int .u8 p0.2.1.2.2.1.2.2.2.1, .int .u8 p0.2.1.2.2.1.2.2.2.2, .int .u8 p0.2.1.2.2.2.1.1, .int .u8 p0.2.1.2.2.2.1.2.1, .int .u8 p0.2.1.2.2.2.1.2.2.1, .int .u8 p0.2.1.2.2.2.1.2.2.2.1, .int .u8 p0.2.1.2.2.2.1.2.2.2.2, .int .u8 p0.2.1.2.2.2.2.1.1, .int .u8 p0.2.1.2.2.2.2.1.2.1, .int .u8 p0.2.1.2.2.2.2.1.2.2.1, .int .u8 p0.2.1.2.2.2.2.1.2.2.2.1, .int .u8 p0.2.1.2.2.2.2.1.2.2.2.2, .int .u8 p0.2.1.2.2.2.2.2.1.1, .int .u8 p0.2.1.2.2.2.2.2.1.2.1, .int .u8 p0.2.1.2.2.2.2.2.1.2.2.1, .int .u8 p0.2.1.2.2.2.2.2.1.2.2.2.1, .int .u8 p0.2.1.2.2.2.2.2.1.2.2.2.2, .int .u8 p0.2.1.2.2.2.2.2.2.1, .int .u8 p0.2.1.2.2.2.2.2.2.2.1, .int .u8 p0.2.1.2.2.2.2.2.2.2.2.1, .int .u8 p0.2.1.2.2.2.2.2.2.2.2.2.1, .int .u8 p0.2.1.2.2.2.2.2.2.2.2.2.2, .int .u8 p0.2.2]) bx5 nag5.sz Wt.no rfl rfl rfl rfl rfl (Nat.le_of_ble_eq_true rfl) rfl fun s11 m12 bx5 => ?_)))))))))))
 replace m0 := m0.trans (m12.one up)
 replace bx8 := bx8.mv m12 (tgN (by decide))
 refine L.nil (X.seqN (E.seq ?_))
 obtain ⟨r16, er16, hm⟩ := bindS hm
 obtain ⟨r23, er23, hm⟩ := bindS hm
 refine E.draw [[], [0], [0, 1], [], [3], [0, 1, 2, 3, 4], [], [0, 1, 2, 3, 4, 5, 6]] (fun D e sx => Mv (One (N + 2)) s11 sx ∧ Sub [(2, .pointer (some ⟨b8, 0, none⟩)), (1, .pointer (some ⟨b5, 0, none⟩))] e ∧ (D 0 = true → (Env.get e 11 = some (.pointer (some ⟨b5, 0, none⟩)))) ∧ (D 1 = true → (Env.get e 12 = some (.int .u8 p0.1))) ∧ (D 2 = true → (∃ (a19 : Option Addr) (c19 : Nat), Env.get e 13 = some (.slice a19 r16.length c19) ∧ RdL (rK .i64) sx a19 c19 r16)) ∧ (D 3 = true → (Env.get e 14 = some (.pointer (some ⟨b5, 1, none⟩)))) ∧ (D 4 = true → (Env.get e 15 = some (.agg #[.int .u8 (p0.2.1.1.tmod 5), .int .u8 p0.2.1.2.1, .int .u8 p0.2.1.2.2.1.1, .int .u8 p0.2.1.2.2.1.2.1, .int .u8 p0.2.1.2.2.1.2.2.1, .int .u8 p0.2.1.2.2.1.2.2.2.1, .int .u8 p0.2.1.2.2.1.2.2.2.2, .int .u8 p0.2.1.2.2.2.1.1, .int .u8 p0.2.1.2.2.2.1.2.1, .int .u8 p0.2.1.2.2.2.1.2.2.1, .int .u8 p0.2.1.2.2.2.1.2.2.2.1, .int .u8 p0.2.1.2.2.2.1.2.2.2.2, .int .u8 p0.2.1.2.2.2.2.1.1, .int .u8 p0.2.1.2.2.2.2.1.2.1, .int .u8 p0.2.1.2.2.2.2.1.2.2.1, .int .u8 p0.2.1.2.2.2.2.1.2.2.2.1, .int .u8 p0.2.1.2.2.2.2.1.2.2.2.2, .int .u8 p0.2.1.2.2.2.2.2.1.1, .int .u8 p0.2.1.2.2.2.2.2.1.2.1, .int .u8 p0.2.1.2.2.2.2.2.1.2.2.1, .int .u8 p0.2.1.2.2.2.2.2.1.2.2.2.1, .int .u8 p0.2.1.2.2.2.2.2.1.2.2.2.2, .int .u8 p0.2.1.2.2.2.2.2.2.1, .int .u8 p0.2.1.2.2.2.2.2.2.2.1, .int .u8 p0.2.1.2.2.2.2.2.2.2.2.1, .int .u8 p0.2.1.2.2.2.2.2.2.2.2.2.1, .int .u8 p0.2.1.2.2.2.2.2.2.2.2.2.2]))) ∧ (D 5 = true → (∃ (a26 : Option Addr) (c26 : Nat) (a27 : Option Addr) (c27 : Nat) (a28 : Option Addr) (c28 : Nat), Env.get e 16 = some (.agg #[.slice a26 r23.1.length c26, .int .i64 r23.2.1, .slice a27 r23.2.2.1.length c27, .slice a28 r23.2.2.2.length c28]) ∧ RowT (rK .i64) sx (N + 4) 3 a26 c26 r23.1 ∧ RowT (rK .i64) sx (N + 5) 3 a27 c27 r23.2.2.1 ∧ RowT (rP (rK .i64) (rP (rK .i64) (rK .i64))) sx (N + 6) 28 a28 c28 r23.2.2.2)) ∧ (D 6 = true → (∃ (b30 : Nat), Env.get e 4 = some (.pointer (some ⟨b30, 0, none⟩)))) ∧ (D 6 = true → D 7 = false → ∀ (b30 : Nat), Env.get e 4 = some (.pointer (some ⟨b30, 0, none⟩)) → Bx sx (N + 2) b30 #[.slice none 0 0, .int .i64 0, .slice none 0 0, .slice none 0 0] 26) ∧ (D 7 = true → ∀ (a26 : Option Addr) (c26 : Nat) (a27 : Option Addr) (c27 : Nat) (a28 : Option Addr) (c28 : Nat) (b30 : Nat), Env.get e 16 = some (.agg #[.slice a26 r23.1.length c26, .int .i64 r23.2.1, .slice a27 r23.2.2.1.length c27, .slice a28 r23.2.2.2.length c28]) → Env.get e 4 = some (.pointer (some ⟨b30, 0, none⟩)) → Bx sx (N + 2) b30 #[.slice a26 r23.1.length c26, .int .i64 r23.2.1, .slice a27 r23.2.2.1.length c27, .slice a28 r23.2.2.2.length c28] 26)) (by kernel_rfl) (by kernel_rfl) (by kernel_rfl) ?_ ?_ ?_
 ·intro sz mz
  exact ⟨mz.no, (Sub.rf rfl), nofun, nofun, nofun, nofun, nofun, nofun, nofun, nofun, nofun⟩
 ·refine ⟨?_, ?_, ?_, ?_, ?_, ?_, ?_, ?_, trivial⟩
  ·rintro D e s13 ⟨im, ib, i0, t_⟩ hk hf ha
   have kn : Kn e [(1, .pointer (some ⟨b5, 0, none⟩))] := ⟨(ib 1 _ rfl), trivial⟩
   exact L.kns _ kn (L.fa fa51_0 Wt.no rfl rfl (L.nil (X.dk kn ⟨im, Sub.fresh ib rfl, fun _ => rfl, t_⟩)))
  ·rintro D e s14 ⟨im, ib, i0, i1, t_⟩ hk hf ha
   obtain ⟨d0, -⟩ := ha
   have g0_ := i0 d0
   have bx5 := bx5.mv im (tgN (by decide))
   have kn : Kn e [(11, .pointer (some ⟨b5, 0, none⟩))] := ⟨g0_, trivial⟩
   exact L.kns _ kn (L.ld (j := 0) bx5.mem nag45 Wt.no rfl rfl rfl rfl (L.nil (X.dk kn ⟨im, Sub.fresh ib rfl, i0, fun _ => rfl, t_⟩)))
  ·rintro D e s15 ⟨im, ib, i0, i1, i2, i3, i4, i5, i6, i7, i8⟩ hk hf ha
   obtain ⟨d0, d1, -⟩ := ha
   have g1_ := i1 d1
   have kn : Kn e [(12, .int .u8 p0.1)] := ⟨g1_, trivial⟩
   refine L.kns _ kn (L.ca cf47 rfl rfl Wt.no rfl (m_overseerlaw03_Set_Events_c (s := s15) (p0 := p0.1) (u0 := 0) er16) rfl ?_)
   rintro _ s17 m18 ⟨a19, c19, rfl, h19⟩
   replace h19 := h19.p
   exact L.nil (X.dk kn ⟨im.trans m18.no, Sub.fresh ib rfl, i0, i1, fun _ => ⟨a19, c19, rfl, h19⟩, i3, i4, fun z => let ⟨a26, c26, a27, c27, a28, c28, q, h26, h27, h28⟩ := i5 z; ⟨a26, c26, a27, c27, a28, c28, q, (h26.mv m18 no_No no_No), (h27.mv m18 no_No no_No), (h28.mv m18 no_No no_No)⟩, i6, fun z z2 b30 q6 => ((i7 z z2 b30 q6).mv m18 no_No), fun z a26 c26 a27 c27 a28 c28 b30 q5 q6 => ((i8 z a26 c26 a27 c27 a28 c28 b30 q5 q6).mv m18 no_No)⟩)
  ·rintro D e s20 ⟨im, ib, i0, i1, i2, i3, t_⟩ hk hf ha
   have kn : Kn e [(1, .pointer (some ⟨b5, 0, none⟩))] := ⟨(ib 1 _ rfl), trivial⟩
   exact L.kns _ kn (L.fa fa51_1 Wt.no rfl rfl (L.nil (X.dk kn ⟨im, Sub.fresh ib rfl, i0, i1, i2, fun _ => rfl, t_⟩)))
  ·rintro D e s21 ⟨im, ib, i0, i1, i2, i3, i4, t_⟩ hk hf ha
   obtain ⟨d3, -⟩ := ha
   have g3_ := i3 d3
   have bx5 := bx5.mv im (tgN (by decide))
   have kn : Kn e [(14, .pointer (some ⟨b5, 1, none⟩))] := ⟨g3_, trivial⟩
   exact L.kns _ kn (L.lg (j := 1) (cs := [.int .u8 (p0.2.1.1.tmod 5), .int .u8 p0.2.1.2.1, .int .u8 p0.2.1.2.2.1.1, .int .u8 p0.2.1.2.2.1.2.1, .int .u8 p0.2.1.2.2.1.2.2.1, .int .u8 p0.2.1.2.2.1.2.2.2.1, .int .u8 p0.2.1.2.2.1.2.2.2.2, .int .u8 p0.2.1.2.2.2.1.1, .int .u8 p0.2.1.2.2.2.1.2.1, .int .u8 p0.2.1.2.2.2.1.2.2.1, .int .u8 p0.2.1.2.2.2.1.2.2.2.1, .int .u8 p0.2.1.2.2.2.1.2.2.2.2, .int .u8 p0.2.1.2.2.2.2.1.1, .int .u8 p0.2.1.2.2.2.2.1.2.1, .int .u8 p0.2.1.2.2.2.2.1.2.2.1, .int .u8 p0.2.1.2.2.2.2.1.2.2.2.1, .int .u8 p0.2.1.2.2.2.2.1.2.2.2.2, .int .u8 p0.2.1.2.2.2.2.2.1.1, .int .u8 p0.2.1.2.2.2.2.2.1.2.1, .int .u8 p0.2.1.2.2.2.2.2.1.2.2.1, .int .u8 p0.2.1.2.2.2.2.2.1.2.2.2.1, .int .u8 p0.2.1.2.2.2.2.2.1.2.2.2.2, .int .u8 p0.2.1.2.2.2.2.2.2.1, .int .u8 p0.2.1.2.2.2.2.2.2.2.1, .int .u8 p0.2.1.2.2.2.2.2.2.2.2.1, .int .u8 p0.2.1.2.2.2.2.2.2.2.2.2.1, .int .u8 p0.2.1.2.2.2.2.2.2.2.2.2.2]) bx5.mem ag49 Wt.no rfl rfl rfl rfl rfl (L.nil (X.dk kn ⟨im, Sub.fresh ib rfl, i0, i1, i2, i3, fun _ => rfl, t_⟩)))
  ·rintro D e s22 ⟨im, ib, i0, i1, i2, i3, i4, i5, i6, i7, i8⟩ hk hf ha
   obtain ⟨d0, d1, d2, d3, d4, -⟩ := ha
   obtain ⟨a19, c19, g2_, h19⟩ := i2 d2
   have g4_ := i4 d4
   have kn : Kn e [(13, .slice a19 r16.length c19), (15, .agg #[.int .u8 (p0.2.1.1.tmod 5), .int .u8 p0.2.1.2.1, .int .u8 p0.2.1.2.2.1.1, .int .u8 p0.2.1.2.2.1.2.1, .int .u8 p0.2.1.2.2.1.2.2.1, .int .u8 p0.2.1.2.2.1.2.2.2.1, .int .u8 p0.2.1.2.2.1.2.2.2.2, .int .u8 p0.2.1.2.2.2.1.1, .int .u8 p0.2.1.2.2.2.1.2.1, .int .u8 p0.2.1.2.2.2.1.2.2.1, .int .u8 p0.2.1.2.2.2.1.2.2.2.1, .int .u8 p0.2.1.2.2.2.1.2.2.2.2, .int .u8 p0.2.1.2.2.2.2.1.1, .int .u8 p0.2.1.2.2.2.2.1.2.1, .int .u8 p0.2.1.2.2.2.2.1.2.2.1, .int .u8 p0.2.1.2.2.2.2.1.2.2.2.1, .int .u8 p0.2.1.2.2.2.2.1.2.2.2.2, .int .u8 p0.2.1.2.2.2.2.2.1.1, .int .u8 p0.2.1.2.2.2.2.2.1.2.1, .int .u8 p0.2.1.2.2.2.2.2.1.2.2.1, .int .u8 p0.2.1.2.2.2.2.2.1.2.2.2.1, .int .u8 p0.2.1.2.2.2.2.2.1.2.2.2.2, .int .u8 p0.2.1.2.2.2.2.2.2.1, .int .u8 p0.2.1.2.2.2.2.2.2.2.1, .int .u8 p0.2.1.2.2.2.2.2.2.2.2.1, .int .u8 p0.2.1.2.2.2.2.2.2.2.2.2.1, .int .u8 p0.2.1.2.2.2.2.2.2.2.2.2.2])] := ⟨g2_, g4_, trivial⟩
   refine L.kns _ kn (L.ca cf46 rfl rfl Wt.no rfl (m_overseerlaw03_Make_c (s := s22) (p0 := r16) (p1 := ((p0.2.1.1.tmod 5), p0.2.1.2)) (u0 := (N + 4)) (u1 := (N + 5)) (u2 := (N + 6)) h19 er23) rfl ?_)
   rintro _ s24 m25 ⟨a26, c26, a27, c27, a28, c28, rfl, h26, h27, h28⟩
   exact L.nil (X.dk kn ⟨im.trans m25.no, Sub.fresh ib rfl, i0, i1, fun z => let ⟨a19, c19, q, h19⟩ := i2 z; ⟨a19, c19, q, (h19.mono (m25.le no_No))⟩, i3, i4, fun _ => ⟨a26, c26, a27, c27, a28, c28, rfl, h26, h27, h28⟩, i6, fun z z2 b30 q6 => ((i7 z z2 b30 q6).mv m25 no_No), fun z => Bool.noConfusion ((hf 7 (Nat.le_of_ble_eq_true rfl) rfl).symm.trans z)⟩)
  ·rintro D e s29 ⟨im, ib, i0, i1, i2, i3, i4, i5, i6, i7, i8⟩ hk hf ha
   exact L.al (N + 2) zz26 rfl Wt.no rfl fun b30 s31 m32 bx30 => L.nil (X.dr (s := s31) (e' := (4, .pointer (some ⟨b30, 0, none⟩)) :: e) (Sub.both (Sub.refl)) ⟨im.trans m32.no, Sub.fresh ib rfl, i0, i1, fun z => let ⟨a19, c19, q, h19⟩ := i2 z; ⟨a19, c19, q, (h19.mono (m32.le no_No))⟩, i3, i4, fun z => let ⟨a26, c26, a27, c27, a28, c28, q, h26, h27, h28⟩ := i5 z; ⟨a26, c26, a27, c27, a28, c28, q, (h26.mv m32 no_No no_No), (h27.mv m32 no_No no_No), (h28.mv m32 no_No no_No)⟩, fun _ => ⟨b30, rfl⟩, fun _ _ _ q6 => by cases (show some (.pointer (some ⟨b30, 0, none⟩) : Value) = some _ from q6); exact bx30, fun z => Bool.noConfusion ((hf 7 (Nat.le_of_ble_eq_true rfl) rfl).symm.trans z)⟩)
  ·rintro D e s33 ⟨im, ib, i0, i1, i2, i3, i4, i5, i6, i7, i8⟩ hk hf ha
   obtain ⟨d0, d1, d2, d3, d4, d5, d6, -⟩ := ha
   obtain ⟨a26, c26, a27, c27, a28, c28, g5_, h26, h27, h28⟩ := i5 d5
   obtain ⟨b30, g6_⟩ := i6 d6
   obtain bx30 := i7 d6 hk b30 g6_
   have kn : Kn e [(4, .pointer (some ⟨b30, 0, none⟩)), (16, .agg #[.slice a26 r23.1.length c26, .int .i64 r23.2.1, .slice a27 r23.2.2.1.length c27, .slice a28 r23.2.2.2.length c28])] := ⟨g6_, g5_, trivial⟩
   exact L.kns _ kn (L.st (c := [.slice a26 r23.1.length c26, .int .i64 r23.2.1, .slice a27 r23.2.2.1.length c27, .slice a28 r23.2.2.2.length c28]) (cs' := #[.slice a26 r23.1.length c26, .int .i64 r23.2.1, .slice a27 r23.2.2.1.length c27, .slice a28 r23.2.2.2.length c28]) bx30 ag26.sz Wt.no rfl rfl rfl rfl rfl (Nat.le_of_ble_eq_true rfl) rfl fun s34 m35 bx30 => L.nil (X.dn kn ⟨im.trans (m35.one rfl), ib, i0, i1, fun z => let ⟨a19, c19, q, h19⟩ := i2 z; ⟨a19, c19, q, (h19.mono (m35.le (tg0 hN)))⟩, i3, i4, fun z => let ⟨a26, c26, a27, c27, a28, c28, q, h26, h27, h28⟩ := i5 z; ⟨a26, c26, a27, c27, a28, c28, q, (h26.mv m35 (tgN (by decide)) (tg0 hN)), (h27.mv m35 (tgN (by decide)) (tg0 hN)), (h28.mv m35 (tgN (by decide)) (tg0 hN))⟩, i6, fun _ z => Bool.noConfusion (show true = false from z), fun _ _ _ _ _ _ _ _ q5 q6 => by cases g5_.symm.trans q5; cases g6_.symm.trans q6; exact bx30⟩))
 ·rintro D e s36 hD ⟨im, ib, i0, i1, i2, i3, i4, i5, i6, i7, i8⟩
  obtain ⟨a26, c26, a27, c27, a28, c28, g5_, h26, h27, h28⟩ := i5 (hD 5 rfl)
  obtain ⟨b30, g6_⟩ := i6 (hD 6 rfl)
  obtain bx30 := i8 (hD 7 rfl) a26 c26 a27 c27 a28 c28 b30 g5_ g6_
  have bx8 := bx8.mv im (tgN (by decide))
  have bx5 := bx5.mv im (tgN (by decide))
  have m0 := m0.trans (im.one up)
  refine X.sub (e' := [(4, .pointer (some ⟨b30, 0, none⟩)), (2, .pointer (some ⟨b8, 0, none⟩)), (1, .pointer (some ⟨b5, 0, none⟩))]) ?_ (Sub.cons g6_ (Sub.cons (ib 2 _ rfl) (Sub.cons (ib 1 _ rfl) Sub.nil)))
  refine X.seqN (E.seq ?_)
  have m37 := Sig.fz_mv (N + 2) s36
  replace bx30 := bx30.fz (tgn hN)
  replace m0 := m0.trans (m37.one up)
  replace h26 := h26.mv m37 (tgN (by decide)) (tg0 hN)
  replace h27 := h27.mv m37 (tgN (by decide)) (tg0 hN)
  replace h28 := h28.mv m37 (tgN (by decide)) (tg0 hN)
  replace bx8 := bx8.mv m37 (tgN (by decide))
  replace bx5 := bx5.mv m37 (tgN (by decide))
  refine E.toR (s' := (Sig.fz (N + 2) s36)) rfl ?_
  have m38 := Sig.fz_mv (N + 4) (Sig.fz (N + 2) s36)
  replace h26 := h26.fz (tgn hN)
  replace m0 := m0.trans (m38.one up)
  replace bx30 := bx30.mv m38 (tg0 hN)
  replace h27 := h27.mv m38 (tgN (by decide)) (tg0 hN)
  replace h28 := h28.mv m38 (tgN (by decide)) (tg0 hN)
  replace bx8 := bx8.mv m38 (tgN (by decide))
  replace bx5 := bx5.mv m38 (tgN (by decide))
  refine E.toR (s' := (Sig.fz (N + 4) (Sig.fz (N + 2) s36))) rfl ?_
  have m39 := Sig.fz_mv (N + 5) (Sig.fz (N + 4) (Sig.fz (N + 2) s36))
  replace h27 := h27.fz (tgn hN)
  replace m0 := m0.trans (m39.one up)
  replace bx30 := bx30.mv m39 (tg0 hN)
  replace h26 := h26.mono (m39.le (tg0 hN))
  replace h28 := h28.mv m39 (tgN (by decide)) (tg0 hN)
  replace bx8 := bx8.mv m39 (tgN (by decide))
  replace bx5 := bx5.mv m39 (tgN (by decide))
  refine E.toR (s' := (Sig.fz (N + 5) (Sig.fz (N + 4) (Sig.fz (N + 2) s36)))) rfl ?_
  have m40 := Sig.fz_mv (N + 6) (Sig.fz (N + 5) (Sig.fz (N + 4) (Sig.fz (N + 2) s36)))
  replace h28 := h28.fz (tgn hN)
  replace m0 := m0.trans (m40.one up)
  replace bx30 := bx30.mv m40 (tg0 hN)
  replace h26 := h26.mono (m40.le (tg0 hN))
  replace h27 := h27.mono (m40.le (tg0 hN))
  replace bx8 := bx8.mv m40 (tgN (by decide))
  replace bx5 := bx5.mv m40 (tgN (by decide))
  refine E.toR (s' := (Sig.fz (N + 6) (Sig.fz (N + 5) (Sig.fz (N + 4) (Sig.fz (N + 2) s36))))) rfl ?_
  obtain ⟨r45, er45, hm⟩ := bindS hm
  obtain ⟨r52, er52, hm⟩ := bindS hm
  obtain ⟨_, qz56, hm⟩ := bindS hm
  have elz56 := len_some qz56
  refine E.draw [[], [], [1], [1, 2], [], [1, 2, 3, 4], [0, 1, 2, 3, 4, 5], [0, 1, 2, 3, 4, 5, 6]] (fun D e sx => Mv (fun t => t = (N + 1) ∨ t = (N + 3)) (Sig.fz (N + 6) (Sig.fz (N + 5) (Sig.fz (N + 4) (Sig.fz (N + 2) s36)))) sx ∧ Sub [(4, .pointer (some ⟨b30, 0, none⟩)), (2, .pointer (some ⟨b8, 0, none⟩)), (1, .pointer (some ⟨b5, 0, none⟩))] e ∧ (D 0 = true → (Env.get e 17 = some (.agg #[.slice a26 r23.1.length c26, .int .i64 r23.2.1, .slice a27 r23.2.2.1.length c27, .slice a28 r23.2.2.2.length c28]))) ∧ (D 1 = true → (Env.get e 18 = some (.pointer (some ⟨b5, 28, none⟩)))) ∧ (D 2 = true → (Env.get e 19 = some (.int .u8 p0.2.2))) ∧ (D 3 = true → (∃ (a48 : Option Addr) (c48 : Nat), Env.get e 20 = some (.slice a48 r45.length c48))) ∧ (D 4 = true → (Env.get e 21 = some (.func (.func 49) #[] #[.pointer (some ⟨b30, 0, none⟩)]) ∧ FV1 Try.prog sx (.func (.func 49) #[] #[.pointer (some ⟨b30, 0, none⟩)]) (fun (x0 : Int) => [.int .i64 x0]) (fun (r : Bool) => .bool r) (m_overseerlaw53_Make_1 r23))) ∧ (D 5 = true → (∃ (a55 : Option Addr) (c55 : Nat), Env.get e 22 = some (.slice a55 r52.1.length c55))) ∧ (D 7 = true → ∀ (a55 : Option Addr) (c55 : Nat), Env.get e 22 = some (.slice a55 r52.1.length c55) → (Env.get e 3 = some (.slice a55 r52.1.length c55))) ∧ (D 6 = false → Bx sx (N + 1) b8 #[.slice none 0 0, .int .i64 0, .slice none 0 0, .slice none 0 0] 26) ∧ (D 6 = true → Bx sx (N + 1) b8 #[.slice a26 r23.1.length c26, .int .i64 r23.2.1, .slice a27 r23.2.2.1.length c27, .slice a28 r23.2.2.2.length c28] 26) ∧ (D 3 = true → D 5 = false → ∀ (a48 : Option Addr) (c48 : Nat), Env.get e 20 = some (.slice a48 r45.length c48) → RowT (rK .i64) sx (N + 3) 3 a48 c48 r45) ∧ (D 5 = true → ∀ (a48 : Option Addr) (c48 : Nat) (a55 : Option Addr) (c55 : Nat), Env.get e 20 = some (.slice a48 r45.length c48) → Env.get e 22 = some (.slice a55 r52.1.length c55) → RowT (rK .i64) sx (N + 3) 3 a55 c55 r52.1 ∧ RowT (rK .i64) sx (N + 3) 3 a48 c48 r52.2)) (by kernel_rfl) (by kernel_rfl) (by kernel_rfl) ?_ ?_ ?_
  ·intro sz mz
   exact ⟨mz.no, (Sub.rf rfl), nofun, nofun, nofun, nofun, nofun, nofun, nofun, fun _ => bx8.mv mz no_No, nofun, nofun, nofun⟩
  ·refine ⟨?_, ?_, ?_, ?_, ?_, ?_, ?_, ?_, trivial⟩
   ·rintro D e s41 ⟨im, ib, i0, t_⟩ hk hf ha
    have bx30 := bx30.mv im (nor (tg0 hN) (tg0 hN))
    have kn : Kn e [(4, .pointer (some ⟨b30, 0, none⟩))] := ⟨(ib 4 _ rfl), trivial⟩
    exact L.kns _ kn (L.lg (j := 0) (cs := [.slice a26 r23.1.length c26, .int .i64 r23.2.1, .slice a27 r23.2.2.1.length c27, .slice a28 r23.2.2.2.length c28]) bx30.mem ag26 Wt.no rfl rfl rfl rfl rfl (L.nil (X.dk kn ⟨im, Sub.fresh ib rfl, fun _ => rfl, t_⟩)))
   ·rintro D e s42 ⟨im, ib, i0, i1, t_⟩ hk hf ha
    have kn : Kn e [(1, .pointer (some ⟨b5, 0, none⟩))] := ⟨(ib 1 _ rfl), trivial⟩
    exact L.kns _ kn (L.fa fa51_2 Wt.no rfl rfl (L.nil (X.dk kn ⟨im, Sub.fresh ib rfl, i0, fun _ => rfl, t_⟩)))
   ·rintro D e s43 ⟨im, ib, i0, i1, i2, t_⟩ hk hf ha
    obtain ⟨d1, -⟩ := ha
    have g1_ := i1 d1
    have bx5 := bx5.mv im (nor (tgN (by decide)) (tgN (by decide)))
    have kn : Kn e [(18, .pointer (some ⟨b5, 28, none⟩))] := ⟨g1_, trivial⟩
    exact L.kns _ kn (L.ld (j := 28) bx5.mem nag45 Wt.no rfl rfl rfl rfl (L.nil (X.dk kn ⟨im, Sub.fresh ib rfl, i0, i1, fun _ => rfl, t_⟩)))
   ·rintro D e s44 ⟨im, ib, i0, i1, i2, i3, i4, i5, i6, i7, i8, i9, i10⟩ hk hf ha
    obtain ⟨d1, d2, -⟩ := ha
    have g2_ := i2 d2
    have kn : Kn e [(19, .int .u8 p0.2.2)] := ⟨g2_, trivial⟩
    refine L.kns _ kn (L.ca cf47 rfl rfl Wt.no rfl (m_overseerlaw03_Set_Events_c (s := s44) (p0 := p0.2.2) (u0 := (N + 3)) er45) rfl ?_)
    rintro _ s46 m47 ⟨a48, c48, rfl, h48⟩
    exact L.nil (X.dk kn ⟨im.trans m47.no, Sub.fresh ib rfl, i0, i1, i2, fun _ => ⟨a48, c48, rfl⟩, fun z => let ⟨q, h50⟩ := i4 z; ⟨q, (h50.mono (m47.le no_No))⟩, i5, i6, fun z2 => ((i7 z2).mv m47 no_No), fun z => ((i8 z).mv m47 no_No), fun _ _ _ _ q3 => by cases (show some (.slice a48 r45.length c48 : Value) = some _ from q3); exact h48, fun z => Bool.noConfusion ((hf 5 (Nat.le_of_ble_eq_true rfl) rfl).symm.trans z)⟩)
   ·rintro D e s49 ⟨im, ib, i0, i1, i2, i3, i4, t_⟩ hk hf ha
    have bx30 := bx30.mv im (nor (tg0 hN) (tg0 hN))
    have h26 := h26.mono (im.le (nor (tg0 hN) (tg0 hN)))
    have h27 := h27.mono (im.le (nor (tg0 hN) (tg0 hN)))
    have h28 := h28.mono (im.le (nor (tg0 hN) (tg0 hN)))
    have kn : Kn e [(4, .pointer (some ⟨b30, 0, none⟩))] := ⟨(ib 4 _ rfl), trivial⟩
    refine L.kns _ kn ?_
    have h50 : FV1 Try.prog s49 (.func (.func 49) #[] #[.pointer (some ⟨b30, 0, none⟩)]) (fun (x0 : Int) => [.int .i64 x0]) (fun (r : Bool) => .bool r) (m_overseerlaw53_Make_1 r23) := ⟨49, #[], #[.pointer (some ⟨b30, 0, none⟩)], rfl, cf49, fun x0 r hm s' hl => by have hh := m_overseerlaw53_Make_1_c (s := s') (h26.mono hl) (h27.mono hl) (h28.mono hl) (bx30.le hl) hm; simpa using hh⟩
    exact L.mf Wt.no rfl rfl rfl (L.nil (X.dk kn ⟨im, Sub.fresh ib rfl, i0, i1, i2, i3, fun _ => ⟨rfl, h50⟩, t_⟩))
   ·rintro D e s51 ⟨im, ib, i0, i1, i2, i3, i4, i5, i6, i7, i8, i9, i10⟩ hk hf ha
    obtain ⟨d1, d2, d3, d4, -⟩ := ha
    obtain ⟨a48, c48, g3_⟩ := i3 d3
    obtain ⟨g4_, h50⟩ := i4 d4
    obtain h48 := i9 d3 hk a48 c48 g3_
    have kn : Kn e [(20, .slice a48 r45.length c48), (21, (.func (.func 49) #[] #[.pointer (some ⟨b30, 0, none⟩)]))] := ⟨g3_, g4_, trivial⟩
    refine L.kns _ kn (L.ca cf48 rfl rfl Wt.no rfl (m_slices_DeleteFunc_int_c (s := s51) (p0 := r45) (p1 := (m_overseerlaw53_Make_1 r23)) (t0 := (N + 3)) (tpos hN) h48 h50 er52) rfl ?_)
    rintro _ s53 m54 ⟨a55, c55, rfl, h55, h48⟩
    exact L.nil (X.dk kn ⟨im.trans (m54.one (.inr rfl)), Sub.fresh ib rfl, i0, i1, i2, i3, fun z => let ⟨q, h50⟩ := i4 z; ⟨q, (h50.mono (m54.le (tg0 hN)))⟩, fun _ => ⟨a55, c55, rfl⟩, fun z => Bool.noConfusion ((hf 7 (Nat.le_of_ble_eq_true rfl) rfl).symm.trans z), fun z2 => ((i7 z2).mv m54 (tgN (by decide))), fun z => ((i8 z).mv m54 (tgN (by decide))), fun _ z => Bool.noConfusion (show true = false from z), fun _ _ _ _ _ q3 q5 => by cases g3_.symm.trans q3; cases (show some (.slice a55 r52.1.length c55 : Value) = some _ from q5); exact ⟨h55, h48⟩⟩)
   ·rintro D e s57 ⟨im, ib, i0, i1, i2, i3, i4, i5, i6, i7, i8, i9, i10⟩ hk hf ha
    obtain ⟨d0, d1, d2, d3, d4, d5, -⟩ := ha
    have g0_ := i0 d0
    obtain bx8 := i7 hk
    have kn : Kn e [(2, .pointer (some ⟨b8, 0, none⟩)), (17, .agg #[.slice a26 r23.1.length c26, .int .i64 r23.2.1, .slice a27 r23.2.2.1.length c27, .slice a28 r23.2.2.2.length c28])] := ⟨(ib 2 _ rfl), g0_, trivial⟩
    exact L.kns _ kn (L.st (c := [.slice a26 r23.1.length c26, .int .i64 r23.2.1, .slice a27 r23.2.2.1.length c27, .slice a28 r23.2.2.2.length c28]) (cs' := #[.slice a26 r23.1.length c26, .int .i64 r23.2.1, .slice a27 r23.2.2.1.length c27, .slice a28 r23.2.2.2.length c28]) bx8 ag26.sz Wt.no rfl rfl rfl rfl rfl (Nat.le_of_ble_eq_true rfl) rfl fun s58 m59 bx8 => L.nil (X.dn kn ⟨im.trans (m59.one (.inl rfl)), ib, i0, i1, i2, i3, fun z => let ⟨q, h50⟩ := i4 z; ⟨q, (h50.mono (m59.le (tg0 hN)))⟩, i5, i6, fun z => Bool.noConfusion (show true = false from z), fun _ => by exact bx8, fun z z2 a48 c48 q3 => ((i9 z z2 a48 c48 q3).mv m59 (tgN (by decide)) (tg0 hN)), fun z a48 c48 a55 c55 q3 q5 => let ⟨h55, h48⟩ := i10 z a48 c48 a55 c55 q3 q5; ⟨(h55.mv m59 (tgN (by decide)) (tg0 hN)), (h48.mv m59 (tgN (by decide)) (tg0 hN))⟩⟩))
   ·rintro D e s60 ⟨im, ib, i0, i1, i2, i3, i4, i5, i6, t_⟩ hk hf ha
    obtain ⟨d0, d1, d2, d3, d4, d5, d6, -⟩ := ha
    obtain ⟨a55, c55, g5_⟩ := i5 d5
    have kn : Kn e [(22, .slice a55 r52.1.length c55)] := ⟨g5_, trivial⟩
    exact L.kns _ kn (L.as Wt.no rfl rfl (L.nil (X.dk kn ⟨im, Sub.fresh ib rfl, i0, i1, i2, i3, i4, i5, fun _ _ _ q5 => by cases g5_.symm.trans q5; exact rfl, t_⟩)))
  ·rintro D e s61 hD ⟨im, ib, i0, i1, i2, i3, i4, i5, i6, i7, i8, i9, i10⟩
   obtain ⟨a55, c55, g5_⟩ := i5 (hD 5 rfl)
   have g7_ := i6 (hD 7 rfl) a55 c55 g5_
   obtain bx8 := i8 (hD 6 rfl)
   obtain ⟨a48, c48, g3_⟩ := i3 (hD 3 rfl)
   obtain ⟨h55, h48⟩ := i10 (hD 5 rfl) a48 c48 a55 c55 g3_ g5_
   have h26 := h26.mono (im.le (nor (tg0 hN) (tg0 hN)))
   have h27 := h27.mono (im.le (nor (tg0 hN) (tg0 hN)))
   have h28 := h28.mono (im.le (nor (tg0 hN) (tg0 hN)))
   have m0 := m0.trans (im.weak fun _ e => by rcases e with e | e; (rw [e]; exact up); (rw [e]; exact up))
   refine X.sub (e' := [(3, .slice a55 r52.1.length c55), (2, .pointer (some ⟨b8, 0, none⟩))]) ?_ (Sub.cons g7_ (Sub.cons (ib 2 _ rfl) Sub.nil))
   refine X.seqN (E.ret ?_)
   obtain rfl := Option.some.inj hm
   exact X.rt (.inl rfl) Try.results16 (Rs.cell rfl bx8 ag26 rfl (Rs.tmp rfl Rs.nil)) rfl ⟨_, (s61).ren N (fun k => cond (Nat.beq k 3) u3 (0)), rfl, rfl, m0.ren hNb, ⟨a26, c26, a27, c27, a28, c28, a55, c55, rfl, (h26.ren hN), (h27.ren hN), (h28.ren hN), (h55.ren hN)⟩⟩

noncomputable def m_overseerlaw53_set_j1 (st28 : Int × List Int) (l34 : List Int) : Option ((Int × List Int) ⊕ (List Int)) :=
  some (.inl (W (st28.1 + 1), l34))
noncomputable def m_overseerlaw53_set_l1 (p0 : List Int × Int × List Int × (List (Int × Int × Int))) (p1 : Int) (st28 : Int × List Int) : Option ((Int × List Int) ⊕ (List Int)) :=
  if decide (st28.1 < (p0.1.length : Int)) then
    (idx p0.1 st28.1).bind fun x38 =>
    (ng (st28.1.tmod 8)).bind fun _ =>
    if ((IntKind.u8.wrap (((BitVec.ofInt 8 (p1.fdiv (2 ^ (min (st28.1.tmod 8).toNat 8))) &&& BitVec.ofInt 8 1).toNat : Int))) == 1) then
      (app st28.2 ([x38] : List Int)).bind fun x44 =>
      m_overseerlaw53_set_j1 st28 x44
    else
      m_overseerlaw53_set_j1 st28 st28.2
  else
    some (.inr st28.2)
/-- What overseerlaw53.set computes. -/
noncomputable def m_overseerlaw53_set (p0 : List Int × Int × List Int × (List (Int × Int × Int))) (p1 : Int) : Option (List Int) :=
  (iter (m_overseerlaw53_set_l1 p0 p1) (0, ([] : List Int))).bind fun o28 =>
  some o28
set_option maxRecDepth 100000 in
set_option maxHeartbeats 8000000 in
theorem m_overseerlaw53_set_c {s : Sig} {p0 : List Int × Int × List Int × (List (Int × Int × Int))} {p1 : Int} {a1 : Option Addr} {c1 : Nat} {a2 : Option Addr} {c2 : Nat} {a3 : Option Addr} {c3 : Nat} {u0 : Nat} {r : List Int} (h1 : RdL (rK .i64) s a1 c1 p0.1) (h2 : RdL (rK .i64) s a2 c2 p0.2.2.1) (h3 : RdL (rP (rK .i64) (rP (rK .i64) (rK .i64))) s a3 c3 p0.2.2.2) (hm : m_overseerlaw53_set p0 p1 = some r) :
    Calls Try.prog 17 #[.agg #[.slice a1 p0.1.length c1, .int .i64 p0.2.1, .slice a2 p0.2.2.1.length c2, .slice a3 p0.2.2.2.length c3], .int .u8 p1] s.w (RetS No s fun v s' => ∃ (a4 : Option Addr) (c4 : Nat), v = .slice a4 r.length c4 ∧ RowT (rK .i64) s' u0 3 a4 c4 r) := by
 unfold m_overseerlaw53_set at hm
 obtain ⟨N, hN, hNb⟩ := s.fresh
 have m0 : Mv (Up N No) s s := Mv.refl _ _
 refine E.entry Try.func17 rfl Try.ntmps17 rfl rfl (E.seq (E.reg (L.box (N + 0) Wt.no rfl rfl rfl fun b5 s6 m7 bx5 => ?_)))
 replace m0 := m0.trans m7.no
 replace h1 := h1.mono (m7.le no_No)
 refine L.as Wt.no rfl rfl (L.nil (X.seqN (E.seq (E.reg (L.as Wt.no rfl rfl (L.nil (X.seqN (E.seq (E.seq (E.reg (L.fa fa26_0 Wt.no rfl rfl (L.ld (j := 0) bx5.mem nag23 Wt.no rfl rfl rfl rfl (L.len sl23 Wt.no rfl rfl (L.mv Wt.no rfl rfl (L.nil (X.seqN (E.block ?_)))))))))))))))))
 obtain ⟨o28, eo28, hm⟩ := bindS hm
 refine E.cut (x := .exit 0) (fun e w => ∃ (s32 : Sig) (a30 : Option Addr) (c30 : Nat), Mv (Up N No) s s32 ∧ RowT (rK .i64) s32 (N + 1) 3 a30 c30 o28 ∧ e = [(5, .slice a30 o28.length c30)] ∧ w = s32.w) ?_ ?_
 ·rintro _ _ ⟨s32, a30, c30, m0, h30, rfl, rfl⟩
  refine X.blkE (X.seqN (E.seq (E.reg (L.mv Wt.no rfl rfl (L.as Wt.no rfl rfl (L.nil (X.seqN (E.ret ?_))))))))
  obtain rfl := Option.some.inj hm
  exact X.rt (.inl rfl) Try.results17 (Rs.tmp rfl Rs.nil) rfl ⟨_, (s32).ren N (fun k => cond (Nat.beq k 1) u0 (0)), rfl, rfl, m0.ren hNb, ⟨a30, c30, rfl, (h30.ren hN)⟩⟩
 intro K33
 refine E.iter (fun (st28 : Int × List Int) (e : List (Nat × Value)) (w : World) => ∃ (s31 : Sig) (a10 : Option Addr) (c10 : Nat), Mv (Up N No) s s31 ∧ RdL (rK .i64) s31 a1 c1 p0.1 ∧ RowT (rK .i64) s31 (N + 1) 3 a10 c10 st28.2 ∧ e = [(11, .int .i64 st28.1), (10, .int .i64 (p0.1.length : Int)), (9, .slice a1 p0.1.length c1), (5, .slice a10 st28.2.length c10), (1, .int .u8 p1)] ∧ w = s31.w) eo28 ⟨s6, none, 0, m0, h1, RowT.nil, rfl, rfl⟩ (Sub.rf rfl) ?_
 rintro st28 res28 hm ih28 ho28 _ _ ⟨s31, a10, c10, m0, h1, h10, rfl, rfl⟩
 unfold m_overseerlaw53_set_l1 at hm
 refine E.seq (E.reg (L.bi Wt.no rfl rfl rfl rfl (L.nil (X.seqN (E.seq ?_)))))
 rcases ifS hm with ⟨hc, hm⟩ | ⟨hc, hm⟩
 ·refine E.cT rfl hc (E.skip (X.seqN (E.seqJ (fun e w => ∃ (s36 : Sig) (l34 : List Int) (a35 : Option Addr) (c35 : Nat), m_overseerlaw53_set_j1 st28 l34 = some res28 ∧ Mv (Up N No) s s36 ∧ RowT (rK .i64) s36 (N + 1) 3 a35 c35 l34 ∧ RdL (rK .i64) s36 a1 c1 p0.1 ∧ e = [(5, .slice a35 l34.length c35), (11, .int .i64 st28.1), (10, .int .i64 (p0.1.length : Int)), (9, .slice a1 p0.1.length c1), (1, .int .u8 p1)] ∧ w = s36.w) ?_ ?_)))
  ·rintro _ _ ⟨s36, l34, a35, c35, hm, m0, h35, h1, rfl, rfl⟩
   unfold m_overseerlaw53_set_j1 at hm
   exact E.reg (L.bi Wt.no rfl rfl rfl rfl (L.mv Wt.no rfl rfl (L.nil (X.sub (ih28 _ (Option.some.inj hm).symm _ _ ⟨s36, a35, c35, m0, h1, h35, rfl, rfl⟩) (Sub.rf rfl)))))
  ·intro Jj37
   refine E.block (E.seq (E.reg (L.mv Wt.no rfl rfl ?_)))
   obtain ⟨x38, ex38, hm⟩ := bindS hm
   refine L.ix (r := (rK .i64)) sl23 h1 Wt.no rfl rfl ex38 rfl fun b39 o39 cc39 me39 rd39 => ?_
   obtain rfl := rd39
   refine L.ld (j := 0) me39 nag3 Wt.no rfl rfl rfl rfl (L.as Wt.no rfl rfl (L.as Wt.no rfl rfl (L.nil (X.seqN (E.seq (E.reg (L.mv Wt.no rfl rfl (L.mv Wt.no rfl rfl (L.rem Wt.no rfl rfl (by decide) rfl ?_)))))))))
   obtain ⟨_, z40, hm⟩ := bindS hm
   refine L.shr Wt.no rfl rfl (ng_some z40) rfl (L.bi Wt.no rfl rfl rfl rfl (L.bi Wt.no rfl rfl rfl rfl (L.nil (X.seqN ?_))))
   rcases ifS hm with ⟨hc, hm⟩ | ⟨hc, hm⟩
   ·refine E.cT rfl hc (E.reg (L.mv Wt.no rfl rfl (L.mv Wt.no rfl rfl (L.bsE (k := 1) (cs := [.int .i64 x38]) 0 bs23 (Nat.le_of_ble_eq_true rfl) Wt.no rfl rfl rfl rfl fun b41 s42 m43 bx41 => ?_))))
    replace m0 := m0.trans m43.no
    replace h10 := h10.mv m43 no_No no_No
    replace h1 := h1.mono (m43.le no_No)
    have h41 := Bx.rdL (r := (rK .i64)) (xs := ([x38] : List Int)) bx41 ⟨[.int .i64 x38], _, rfl, rfl, rfl⟩ (Nat.le_of_ble_eq_true rfl)
    obtain ⟨x44, ex44, hm⟩ := bindS hm
    refine L.ap (r := (rK .i64)) Try.underlying23 el3 rfl (tgp hN) h10 h41.wk Wt.no rfl rfl ex44 rfl fun a45 c45 s46 m47 h45 => ?_
    replace m0 := m0.trans (m47.one up)
    replace h1 := h1.mono (m47.le (tg0 hN))
    exact L.as Wt.no rfl rfl (L.nil (X.blkN (X.sub (Jj37 _ _ ⟨s46, x44, a45, c45, hm, m0, h45, h1, rfl, rfl⟩) (Sub.rf rfl))))
   ·exact E.cF rfl hc (E.skip (X.blkN (X.sub (Jj37 _ _ ⟨s31, st28.2, a10, c10, hm, m0, h10, h1, rfl, rfl⟩) (Sub.rf rfl))))
 ·refine E.cF rfl hc (E.exit (X.seqX (X.seqX ?_)))
  have hx := ho28 _ (Option.some.inj hm).symm
  subst hx
  exact X.sub (K33 _ _ ⟨s31, a10, c10, m0, h10, rfl, rfl⟩) (Sub.rf rfl)

theorem ag51 : Ag Try.prog 51 29 := Ag.mk' Try.underlying51 rfl (by kernel_rfl)
theorem cf16 : Cf Try.prog 16 := Cf.mk Try.func16 (by kernel_rfl) (by kernel_rfl)
theorem cf17 : Cf Try.prog 17 := Cf.mk Try.func17 (by kernel_rfl) (by kernel_rfl)
theorem sl52 : Sl Try.prog 52 5 1 := Sl.mk' Try.underlying52 (by kernel_rfl)
noncomputable def m_overseerlaw53_follow_j1 (st23 : Int × Bool × Int) (b29 : Bool) (n30 : Int) : Option ((Int × Bool × Int) ⊕ (Bool × Int)) :=
  some (.inl (W (st23.1 + 1), b29, n30))
noncomputable def m_overseerlaw53_follow_l1 (p0 : List Int × Int × List Int × (List (Int × Int × Int))) (p2 : List Int) (st23 : Int × Bool × Int) : Option ((Int × Bool × Int) ⊕ (Bool × Int)) :=
  if decide (st23.1 < (p2.length : Int)) then
    (idx p2 st23.1).bind fun x33 =>
    (m_overseerlaw53_step p0 st23.2.2 x33).bind fun r35 =>
    if decide (r35 < 0) then
      m_overseerlaw53_follow_j1 st23 true st23.2.2
    else
      m_overseerlaw53_follow_j1 st23 st23.2.1 r35
  else
    some (.inr st23.2)
/-- What overseerlaw53.follow computes. -/
noncomputable def m_overseerlaw53_follow (p0 : List Int × Int × List Int × (List (Int × Int × Int))) (p1 : Int) (p2 : List Int) : Option (Int × Bool) :=
  (iter (m_overseerlaw53_follow_l1 p0 p2) (0, false, p1)).bind fun o23 =>
  some (o23.2, o23.1)
set_option maxRecDepth 100000 in
set_option maxHeartbeats 8000000 in
theorem m_overseerlaw53_follow_c {s : Sig} {p0 : List Int × Int × List Int × (List (Int × Int × Int))} {p1 : Int} {p2 : List Int} {a1 : Option Addr} {c1 : Nat} {a2 : Option Addr} {c2 : Nat} {a3 : Option Addr} {c3 : Nat} {a4 : Option Addr} {c4 : Nat} {r : Int × Bool} (h1 : RdL (rK .i64) s a1 c1 p0.1) (h2 : RdL (rK .i64) s a2 c2 p0.2.2.1) (h3 : RdL (rP (rK .i64) (rP (rK .i64) (rK .i64))) s a3 c3 p0.2.2.2) (h4 : RdL (rK .i64) s a4 c4 p2) (hm : m_overseerlaw53_follow p0 p1 p2 = some r) :
    Calls Try.prog 21 #[.agg #[.slice a1 p0.1.length c1, .int .i64 p0.2.1, .slice a2 p0.2.2.1.length c2, .slice a3 p0.2.2.2.length c3], .int .i64 p1, .slice a4 p2.length c4] s.w (RetS No s fun v s' => v = .tuple #[.int .i64 r.1, .bool r.2]) := by
 unfold m_overseerlaw53_follow at hm
 obtain ⟨N, hN, hNb⟩ := s.fresh
 have m0 : Mv (Up N No) s s := Mv.refl _ _
 refine E.entry Try.func21 rfl Try.ntmps21 rfl rfl (E.seq (E.reg (L.box (N + 0) Wt.no rfl rfl rfl fun b5 s6 m7 bx5 => ?_)))
 replace m0 := m0.trans m7.no
 replace h4 := h4.mono (m7.le no_No)
 replace h1 := h1.mono (m7.le no_No)
 replace h2 := h2.mono (m7.le no_No)
 replace h3 := h3.mono (m7.le no_No)
 refine L.as Wt.no rfl rfl (L.as Wt.no rfl rfl (L.nil (X.seqN (E.seq (E.reg (L.as Wt.no rfl rfl (L.nil (X.seqN (E.seq (E.seq (E.reg (L.mv Wt.no rfl rfl (L.len sl23 Wt.no rfl rfl (L.mv Wt.no rfl rfl (L.nil (X.seqN (E.block ?_)))))))))))))))))
 obtain ⟨o23, eo23, hm⟩ := bindS hm
 refine E.cut (x := .exit 0) (fun e w => ∃ (s27 : Sig), Mv (Up N No) s s27 ∧ e = [(8, .bool o23.1), (1, .int .i64 o23.2)] ∧ w = s27.w) ?_ ?_
 ·rintro _ _ ⟨s27, m0, rfl, rfl⟩
  refine X.blkE (X.seqN (E.seq (E.reg (L.mv Wt.no rfl rfl (L.mv Wt.no rfl rfl (L.as Wt.no rfl rfl (L.as Wt.no rfl rfl (L.nil (X.seqN (E.ret ?_))))))))))
  obtain rfl := Option.some.inj hm
  exact X.rt (.inl rfl) Try.results21 (Rs.tmp rfl (Rs.tmp rfl Rs.nil)) rfl ⟨_, (s27).ren N (fun _ => 0), rfl, rfl, m0.ren hNb, rfl⟩
 intro K28
 refine E.iter (fun (st23 : Int × Bool × Int) (e : List (Nat × Value)) (w : World) => ∃ (s26 : Sig), Mv (Up N No) s s26 ∧ RdL (rK .i64) s26 a4 c4 p2 ∧ RdL (rK .i64) s26 a1 c1 p0.1 ∧ RdL (rK .i64) s26 a2 c2 p0.2.2.1 ∧ RdL (rP (rK .i64) (rP (rK .i64) (rK .i64))) s26 a3 c3 p0.2.2.2 ∧ Bx s26 (N + 0) b5 #[.slice a1 p0.1.length c1, .int .i64 p0.2.1, .slice a2 p0.2.2.1.length c2, .slice a3 p0.2.2.2.length c3] 26 ∧ e = [(14, .int .i64 st23.1), (13, .int .i64 (p2.length : Int)), (12, .slice a4 p2.length c4), (8, .bool st23.2.1), (3, .pointer (some ⟨b5, 0, none⟩)), (1, .int .i64 st23.2.2)] ∧ w = s26.w) eo23 ⟨s6, m0, h4, h1, h2, h3, bx5, rfl, rfl⟩ (Sub.rf rfl) ?_
 rintro st23 res23 hm ih23 ho23 _ _ ⟨s26, m0, h4, h1, h2, h3, bx5, rfl, rfl⟩
 unfold m_overseerlaw53_follow_l1 at hm
 refine E.seq (E.reg (L.bi Wt.no rfl rfl rfl rfl (L.nil (X.seqN (E.seq ?_)))))
 rcases ifS hm with ⟨hc, hm⟩ | ⟨hc, hm⟩
 ·refine E.cT rfl hc (E.skip (X.seqN (E.seqJ (fun e w => ∃ (s31 : Sig) (b29 : Bool) (n30 : Int), m_overseerlaw53_follow_j1 st23 b29 n30 = some res23 ∧ Mv (Up N No) s s31 ∧ RdL (rK .i64) s31 a4 c4 p2 ∧ RdL (rK .i64) s31 a1 c1 p0.1 ∧ RdL (rK .i64) s31 a2 c2 p0.2.2.1 ∧ RdL (rP (rK .i64) (rP (rK .i64) (rK .i64))) s31 a3 c3 p0.2.2.2 ∧ Bx s31 (N + 0) b5 #[.slice a1 p0.1.length c1, .int .i64 p0.2.1, .slice a2 p0.2.2.1.length c2, .slice a3 p0.2.2.2.length c3] 26 ∧ e = [(8, .bool b29), (14, .int .i64 st23.1), (13, .int .i64 (p2.length : Int)), (12, .slice a4 p2.length c4), (3, .pointer (some ⟨b5, 0, none⟩)), (1, .int .i64 n30)] ∧ w = s31.w) ?_ ?_)))
  ·rintro _ _ ⟨s31, b29, n30, hm, m0, h4, h1, h2, h3, bx5, rfl, rfl⟩
   unfold m_overseerlaw53_follow_j1 at hm
   exact E.reg (L.bi Wt.no rfl rfl rfl rfl (L.mv Wt.no rfl rfl (L.nil (X.sub (ih23 _ (Option.some.inj hm).symm _ _ ⟨s31, m0, h4, h1, h2, h3, bx5, rfl, rfl⟩) (Sub.rf rfl)))))
  ·intro Jj32
   refine E.block (E.seq (E.reg ?_))
   obtain ⟨x33, ex33, hm⟩ := bindS hm
   refine L.ix (r := (rK .i64)) sl23 h4 Wt.no rfl rfl ex33 rfl fun b34 o34 cc34 me34 rd34 => ?_
   obtain rfl := rd34
   refine L.ld (j := 0) me34 nag3 Wt.no rfl rfl rfl rfl (L.as Wt.no rfl rfl (L.nil (X.seqN (E.seq (E.reg (L.lg (j := 0) (cs := [.slice a1 p0.1.length c1, .int .i64 p0.2.1, .slice a2 p0.2.2.1.length c2, .slice a3 p0.2.2.2.length c3]) bx5.mem ag26 Wt.no rfl rfl rfl rfl rfl (L.mv Wt.no rfl rfl (L.mv Wt.no rfl rfl ?_))))))))
   obtain ⟨r35, er35, hm⟩ := bindS hm
   refine L.ca cf45 rfl rfl Wt.no rfl (m_overseerlaw53_step_c (s := s26) (p0 := p0) (p1 := st23.2.2) (p2 := x33) h1 h2 h3 er35) rfl ?_
   rintro _ s36 m37 rfl
   replace m0 := m0.trans m37.no
   replace h4 := h4.mono (m37.le no_No)
   replace bx5 := bx5.mv m37 no_No
   replace h1 := h1.mono (m37.le no_No)
   replace h2 := h2.mono (m37.le no_No)
   replace h3 := h3.mono (m37.le no_No)
   refine L.as Wt.no rfl rfl (L.nil (X.seqN (E.seq (E.seq (E.reg (L.mv Wt.no rfl rfl (L.bi Wt.no rfl rfl rfl rfl (L.nil (X.seqN ?_)))))))))
   rcases ifS hm with ⟨hc, hm⟩ | ⟨hc, hm⟩
   ·exact E.cT rfl hc (E.seq (E.reg (L.as Wt.no rfl rfl (L.nil (X.seqN (E.exit (X.seqX (X.blkE (X.sub (Jj32 _ _ ⟨s36, true, st23.2.2, hm, m0, h4, h1, h2, h3, bx5, rfl, rfl⟩) (Sub.rf rfl))))))))))
   ·exact E.cF rfl hc (E.skip (X.seqN (E.reg (L.mv Wt.no rfl rfl (L.as Wt.no rfl rfl (L.nil (X.blkN (X.sub (Jj32 _ _ ⟨s36, st23.2.1, r35, hm, m0, h4, h1, h2, h3, bx5, rfl, rfl⟩) (Sub.rf rfl)))))))))
 ·refine E.cF rfl hc (E.exit (X.seqX (X.seqX ?_)))
  have hx := ho23 _ (Option.some.inj hm).symm
  subst hx
  exact X.sub (K28 _ _ ⟨s26, m0, rfl, rfl⟩) (Sub.rf rfl)

noncomputable def m_slices_Equal_bool_l1 (p0 : List Bool) (p1 : List Bool) (st19 : Int) : Option (Int ⊕ (Unit ⊕ Unit)) :=
  if decide (st19 < (p0.length : Int)) then
    (idx p0 st19).bind fun x30 =>
    (idx p1 st19).bind fun x36 =>
    if (x30 != x36) then
      some (.inr (.inr (())))
    else
      some (.inl (W (st19 + 1)))
  else
    some (.inr (.inl ()))
/-- What slices.Equal<<>bool,bool> computes. -/
noncomputable def m_slices_Equal_bool (p0 : List Bool) (p1 : List Bool) : Option Bool :=
  if ((p0.length : Int) != (p1.length : Int)) then
    some false
  else
    (iter (m_slices_Equal_bool_l1 p0 p1) 0).bind fun o19 =>
    match o19 with
    | .inl u21 =>
      some true
    | .inr (u24) =>
      some false
set_option maxRecDepth 100000 in
set_option maxHeartbeats 8000000 in
theorem m_slices_Equal_bool_c {s : Sig} {p0 : List Bool} {p1 : List Bool} {a1 : Option Addr} {c1 : Nat} {a2 : Option Addr} {c2 : Nat} {r : Bool} (h1 : RdL rB s a1 c1 p0) (h2 : RdL rB s a2 c2 p1) (hm : m_slices_Equal_bool p0 p1 = some r) :
    Calls Try.prog 25 #[.slice a1 p0.length c1, .slice a2 p1.length c2] s.w (RetS No s fun v s' => v = .bool r) := by
 unfold m_slices_Equal_bool at hm
 obtain ⟨N, hN, hNb⟩ := s.fresh
 have m0 : Mv (Up N No) s s := Mv.refl _ _
 refine E.entry Try.func25 rfl Try.ntmps25 rfl rfl (E.seq (E.reg (L.as Wt.no rfl rfl (L.nil (X.seqN (E.seq (E.seq (E.reg (L.mv Wt.no rfl rfl (L.len sl29 Wt.no rfl rfl (L.mv Wt.no rfl rfl (L.len sl29 Wt.no rfl rfl (L.bi Wt.no rfl rfl rfl rfl (L.nil (X.seqN ?_)))))))))))))))
 rcases ifS hm with ⟨hc, hm⟩ | ⟨hc, hm⟩
 ·refine E.cT rfl hc (E.seq (E.reg (L.as Wt.no rfl rfl (L.nil (X.seqN (E.ret (X.seqR ?_)))))))
  obtain rfl := Option.some.inj hm
  exact X.rt (.inl rfl) Try.results25 (Rs.tmp rfl Rs.nil) rfl ⟨_, (s).ren N (fun _ => 0), rfl, rfl, m0.ren hNb, rfl⟩
 ·refine E.cF rfl hc (E.skip (X.seqN (E.seq (E.seq (E.reg (L.mv Wt.no rfl rfl (L.len sl29 Wt.no rfl rfl (L.mv Wt.no rfl rfl (L.nil (X.seqN (E.block ?_)))))))))))
  obtain ⟨o19, eo19, hm⟩ := bindS hm
  refine E.cut (x := .exit 0) (fun e w => ∃ (s22 : Sig) (u21 : Unit), o19 = .inl u21 ∧ Mv (Up N No) s s22 ∧ e = [] ∧ w = s22.w) ?_ ?_
  ·rintro _ _ ⟨s22, u21, rfl, m0, rfl, rfl⟩
   dsimp only at hm
   refine X.blkE (X.seqN (E.seq (E.reg (L.as Wt.no rfl rfl (L.nil (X.seqN (E.ret ?_)))))))
   obtain rfl := Option.some.inj hm
   exact X.rt (.inl rfl) Try.results25 (Rs.tmp rfl Rs.nil) rfl ⟨_, (s22).ren N (fun _ => 0), rfl, rfl, m0.ren hNb, rfl⟩
  intro K23
  refine E.cut (x := .ret) (fun e w => ∃ (s25 : Sig) (u24 : Unit), o19 = .inr (u24) ∧ Mv (Up N No) s s25 ∧ e = [(4, .bool false)] ∧ w = s25.w) ?_ ?_
  ·rintro _ _ ⟨s25, u24, rfl, m0, rfl, rfl⟩
   dsimp only at hm
   refine X.blkR (X.seqR ?_)
   obtain rfl := Option.some.inj hm
   exact X.rt (.inl rfl) Try.results25 (Rs.tmp rfl Rs.nil) rfl ⟨_, (s25).ren N (fun _ => 0), rfl, rfl, m0.ren hNb, rfl⟩
  intro K26
  refine E.iter (fun (st19 : Int) (e : List (Nat × Value)) (w : World) => ∃ (s20 : Sig), Mv (Up N No) s s20 ∧ RdL rB s20 a1 c1 p0 ∧ RdL rB s20 a2 c2 p1 ∧ e = [(13, .int .i64 st19), (12, .int .i64 (p0.length : Int)), (0, .slice a1 p0.length c1), (1, .slice a2 p1.length c2)] ∧ w = s20.w) eo19 ⟨s, m0, h1, h2, rfl, rfl⟩ (Sub.rf rfl) ?_
  rintro st19 res19 hm ih19 ho19 _ _ ⟨s20, m0, h1, h2, rfl, rfl⟩
  unfold m_slices_Equal_bool_l1 at hm
  refine E.seq (E.reg (L.bi Wt.no rfl rfl rfl rfl (L.nil (X.seqN (E.seq ?_)))))
  rcases ifS hm with ⟨hc, hm⟩ | ⟨hc, hm⟩
  ·refine E.cT rfl hc (E.skip (X.seqN (E.seq (E.block (E.seq (E.reg (L.mv Wt.no rfl rfl (L.as Wt.no rfl rfl (L.nil (X.seqN (E.seq ?_)))))))))))
   obtain ⟨x30, ex30, hm⟩ := bindS hm
   obtain ⟨x36, ex36, hm⟩ := bindS hm
   refine E.draw [[], [], [0, 1], [0, 1, 2], [], [], [4, 5], [4, 5, 6], [0, 1, 2, 3, 4, 5, 6, 7]] (fun D e sx => Mv No s20 sx ∧ Sub [(5, .int .i64 st19), (13, .int .i64 st19), (12, .int .i64 (p0.length : Int)), (0, .slice a1 p0.length c1), (1, .slice a2 p1.length c2)] e ∧ (D 0 = true → (Env.get e 16 = some (.slice a1 p0.length c1))) ∧ (D 1 = true → (Env.get e 17 = some (.int .i64 st19))) ∧ (D 2 = true → (∃ (b31 : Nat) (o31 : Nat), Env.get e 18 = some (.pointer (some ⟨b31, o31, none⟩)) ∧ Mem sx 0 b31 o31 [.bool x30])) ∧ (D 3 = true → (Env.get e 19 = some (.bool x30))) ∧ (D 4 = true → (Env.get e 20 = some (.slice a2 p1.length c2))) ∧ (D 5 = true → (Env.get e 21 = some (.int .i64 st19))) ∧ (D 6 = true → (∃ (b37 : Nat) (o37 : Nat), Env.get e 22 = some (.pointer (some ⟨b37, o37, none⟩)) ∧ Mem sx 0 b37 o37 [.bool x36])) ∧ (D 7 = true → (Env.get e 23 = some (.bool x36))) ∧ (D 8 = true → (Env.get e 24 = some (.bool (x30 != x36))))) (by kernel_rfl) (by kernel_rfl) (by kernel_rfl) ?_ ?_ ?_
   ·intro sz mz
    exact ⟨mz, (Sub.rf rfl), nofun, nofun, nofun, nofun, nofun, nofun, nofun, nofun, nofun⟩
   ·refine ⟨?_, ?_, ?_, ?_, ?_, ?_, ?_, ?_, ?_, trivial⟩
    ·rintro D e s27 ⟨im, ib, i0, t_⟩ hk hf ha
     have kn : Kn e [(0, .slice a1 p0.length c1)] := ⟨(ib 0 _ rfl), trivial⟩
     exact L.kns _ kn (L.mv Wt.no rfl rfl (L.nil (X.dk kn ⟨im, Sub.fresh ib rfl, fun _ => rfl, t_⟩)))
    ·rintro D e s28 ⟨im, ib, i0, i1, t_⟩ hk hf ha
     have kn : Kn e [(5, .int .i64 st19)] := ⟨(ib 5 _ rfl), trivial⟩
     exact L.kns _ kn (L.mv Wt.no rfl rfl (L.nil (X.dk kn ⟨im, Sub.fresh ib rfl, i0, fun _ => rfl, t_⟩)))
    ·rintro D e s29 ⟨im, ib, i0, i1, i2, t_⟩ hk hf ha
     obtain ⟨d0, d1, -⟩ := ha
     have g0_ := i0 d0
     have g1_ := i1 d1
     have h1 := h1.mono (im.le no_No)
     have kn : Kn e [(16, .slice a1 p0.length c1), (17, .int .i64 st19)] := ⟨g0_, g1_, trivial⟩
     refine L.kns _ kn (L.ix (r := rB) sl29 h1 Wt.no rfl rfl ex30 rfl fun b31 o31 cc31 me31 rd31 => ?_)
     obtain rfl := rd31
     exact L.nil (X.dk kn ⟨im, Sub.fresh ib rfl, i0, i1, fun _ => ⟨b31, o31, rfl, me31⟩, t_⟩)
    ·rintro D e s32 ⟨im, ib, i0, i1, i2, i3, t_⟩ hk hf ha
     obtain ⟨d0, d1, d2, -⟩ := ha
     obtain ⟨b31, o31, g2_, me31⟩ := i2 d2
     have kn : Kn e [(18, .pointer (some ⟨b31, o31, none⟩))] := ⟨g2_, trivial⟩
     exact L.kns _ kn (L.ld (j := 0) me31 nag4 Wt.no rfl rfl rfl rfl (L.nil (X.dk kn ⟨im, Sub.fresh ib rfl, i0, i1, i2, fun _ => rfl, t_⟩)))
    ·rintro D e s33 ⟨im, ib, i0, i1, i2, i3, i4, t_⟩ hk hf ha
     have kn : Kn e [(1, .slice a2 p1.length c2)] := ⟨(ib 1 _ rfl), trivial⟩
     exact L.kns _ kn (L.mv Wt.no rfl rfl (L.nil (X.dk kn ⟨im, Sub.fresh ib rfl, i0, i1, i2, i3, fun _ => rfl, t_⟩)))
    ·rintro D e s34 ⟨im, ib, i0, i1, i2, i3, i4, i5, t_⟩ hk hf ha
     have kn : Kn e [(5, .int .i64 st19)] := ⟨(ib 5 _ rfl), trivial⟩
     exact L.kns _ kn (L.mv Wt.no rfl rfl (L.nil (X.dk kn ⟨im, Sub.fresh ib rfl, i0, i1, i2, i3, i4, fun _ => rfl, t_⟩)))
    ·rintro D e s35 ⟨im, ib, i0, i1, i2, i3, i4, i5, i6, t_⟩ hk hf ha
     obtain ⟨d4, d5, -⟩ := ha
     have g4_ := i4 d4
     have g5_ := i5 d5
     have h2 := h2.mono (im.le no_No)
     have kn : Kn e [(20, .slice a2 p1.length c2), (21, .int .i64 st19)] := ⟨g4_, g5_, trivial⟩
     refine L.kns _ kn (L.ix (r := rB) sl29 h2 Wt.no rfl rfl ex36 rfl fun b37 o37 cc37 me37 rd37 => ?_)
     obtain rfl := rd37
     exact L.nil (X.dk kn ⟨im, Sub.fresh ib rfl, i0, i1, i2, i3, i4, i5, fun _ => ⟨b37, o37, rfl, me37⟩, t_⟩)
    ·rintro D e s38 ⟨im, ib, i0, i1, i2, i3, i4, i5, i6, i7, i8⟩ hk hf ha
     obtain ⟨d4, d5, d6, -⟩ := ha
     obtain ⟨b37, o37, g6_, me37⟩ := i6 d6
     have kn : Kn e [(22, .pointer (some ⟨b37, o37, none⟩))] := ⟨g6_, trivial⟩
     exact L.kns _ kn (L.ld (j := 0) me37 nag4 Wt.no rfl rfl rfl rfl (L.nil (X.dk kn ⟨im, Sub.fresh ib rfl, i0, i1, i2, i3, i4, i5, i6, fun _ => rfl, i8⟩)))
    ·rintro D e s39 ⟨im, ib, i0, i1, i2, i3, i4, i5, i6, i7, i8⟩ hk hf ha
     obtain ⟨d0, d1, d2, d3, d4, d5, d6, d7, -⟩ := ha
     have g3_ := i3 d3
     have g7_ := i7 d7
     have kn : Kn e [(19, .bool x30), (23, .bool x36)] := ⟨g3_, g7_, trivial⟩
     exact L.kns _ kn (L.bne Try.underlying4 Wt.no rfl rfl rfl (L.nil (X.dk kn ⟨im, Sub.fresh ib rfl, i0, i1, i2, i3, i4, i5, i6, i7, fun _ => rfl⟩)))
   ·rintro D e s40 hD ⟨im, ib, i0, i1, i2, i3, i4, i5, i6, i7, i8⟩
    have g8_ := i8 (hD 8 rfl)
    have h1 := h1.mono (im.le no_No)
    have h2 := h2.mono (im.le no_No)
    have m0 := m0.trans im.no
    refine X.sub (e' := [(24, .bool (x30 != x36)), (13, .int .i64 st19), (12, .int .i64 (p0.length : Int)), (0, .slice a1 p0.length c1), (1, .slice a2 p1.length c2)]) ?_ (Sub.cons g8_ (Sub.cons (ib 13 _ rfl) (Sub.cons (ib 12 _ rfl) (Sub.cons (ib 0 _ rfl) (Sub.cons (ib 1 _ rfl) Sub.nil)))))
    refine X.seqN ?_
    rcases ifS hm with ⟨hc, hm⟩ | ⟨hc, hm⟩
    ·refine E.cT rfl hc (E.seq (E.reg (L.as Wt.no rfl rfl (L.nil (X.seqN (E.ret (X.blkR (X.seqR (X.seqR ?_)))))))))
     have hx := ho19 _ (Option.some.inj hm).symm
     exact X.sub (K26 _ _ ⟨s40, (), hx.symm, m0, rfl, rfl⟩) (Sub.rf rfl)
    ·exact E.cF rfl hc (E.skip (X.blkN (X.seqN (E.reg (L.bi Wt.no rfl rfl rfl rfl (L.mv Wt.no rfl rfl (L.nil (X.sub (ih19 _ (Option.some.inj hm).symm _ _ ⟨s40, m0, h1, h2, rfl, rfl⟩) (Sub.rf rfl)))))))))
  ·refine E.cF rfl hc (E.exit (X.seqX (X.seqX ?_)))
   have hx := ho19 _ (Option.some.inj hm).symm
   exact X.sub (K23 _ _ ⟨s20, (), hx.symm, m0, rfl, rfl⟩) Sub.nil

theorem cf21 : Cf Try.prog 21 := Cf.mk Try.func21 (by kernel_rfl) (by kernel_rfl)
theorem cf25 : Cf Try.prog 25 := Cf.mk Try.func25 (by kernel_rfl) (by kernel_rfl)
noncomputable def m_overseerlaw53_GenerateScans_l2 (r12 : (List Int × Int × List Int × (List (Int × Int × Int))) × List Int) (r174 : List Int) (r182 : List Bool × Int) (st205 : Int) : Option (Int ⊕ (Unit ⊕ Unit)) :=
  if decide (st205 < (r12.1.1.length : Int)) then
    (idx r12.1.1 st205).bind fun x258 =>
    (idx r182.1 st205).bind fun x263 =>
    (m_slices_Contains_int r174 x258).bind fun r269 =>
    if (x263 != r269) then
      some (.inr (.inr (())))
    else
      some (.inl (W (st205 + 1)))
  else
    some (.inr (.inl ()))
noncomputable def m_overseerlaw53_GenerateScans_l1 (p1 : List Int) (r12 : (List Int × Int × List Int × (List (Int × Int × Int))) × List Int) (r24 : ((Int × Int × Int × List Bool × (List (Int × Int))) × List Int × List Int × Int) × Int) (st164 : Int × Bool × Int × List Bool × List Bool) : Option ((Int × Bool × Int × List Bool × List Bool) ⊕ (Unit ⊕ Unit)) :=
  if decide (st164.1 < (p1.length : Int)) then
    (idx p1 st164.1).bind fun x172 =>
    (m_overseerlaw53_set r12.1 x172).bind fun r174 =>
    (m_overseerlaw53_follow r12.1 st164.2.2.1 r174).bind fun r178 =>
    (m_generate_Inputs r24.1 r174).bind fun r182 =>
    if ((r182.2 != 0) || ((r182.1.length : Int) != (r12.1.1.length : Int))) then
      some (.inr (.inr (())))
    else
      (iter (m_overseerlaw53_GenerateScans_l2 r12 r174 r182) 0).bind fun o205 =>
      match o205 with
      | .inl u207 =>
        (m_generate_Scan r24.1 st164.2.2.2 r174).bind fun r209 =>
        (m_instruction_Scan r24.1.1 st164.2.2.2 r182.1).bind fun r219 =>
        (if ((r209.2 != 0) || (r219.2 != 0)) then
          some true
        else
          (m_slices_Equal_bool r209.1.1 r219.1.1).bind fun r250 =>
          some (!r250)).bind fun b230 =>
        (if b230 then
          some true
        else
          (m_slices_Equal_bool r209.1.2 r219.1.2).bind fun r246 =>
          some (!r246)).bind fun b233 =>
        (if b233 then
          some true
        else
          (m_overseerlaw53_shows r12.1 r12.2 r24.1 r209.1 r178.1 (st164.2.1 || r178.2) true).bind fun r242 =>
          some (!r242)).bind fun b236 =>
        if b236 then
          some (.inr (.inr (())))
        else
          some (.inl (W (st164.1 + 1), (st164.2.1 || r178.2), r178.1, r209.1))
      | .inr (u255) =>
        some (.inr (.inr (())))
  else
    some (.inr (.inl ()))
/-- What overseerlaw53.GenerateScans computes. -/
noncomputable def m_overseerlaw53_GenerateScans (p0 : Int × (Int × Int × ((Int × Int × Int × Int × Int) × (Int × Int × Int × Int × Int) × (Int × Int × Int × Int × Int) × (Int × Int × Int × Int × Int) × (Int × Int × Int × Int × Int))) × Int) (p1 : List Int) : Option Bool :=
  (m_overseerlaw53_known).bind fun r5 =>
  if ((!r5) || (decide ((p1.length : Int) > 8))) then
    (m_overseerlaw53_known).bind fun r9 =>
    some r9
  else
    (m_overseerlaw53_Make p0).bind fun r12 =>
    (m_generate_Generate r12.1 r12.2).bind fun r24 =>
    if (r24.2 != 0) then
      some false
    else
      (m_instruction_Start r24.1.1).bind fun r36 =>
      if (r36.2 != 0) then
        some false
      else
        (iter (m_overseerlaw53_GenerateScans_l1 p1 r12 r24) (0, false, 0, r36.1)).bind fun o164 =>
        match o164 with
        | .inl u166 =>
          some true
        | .inr (u169) =>
          some false
set_option maxRecDepth 100000 in
set_option maxHeartbeats 8000000 in
theorem m_overseerlaw53_GenerateScans_c {s : Sig} {p0 : Int × (Int × Int × ((Int × Int × Int × Int × Int) × (Int × Int × Int × Int × Int) × (Int × Int × Int × Int × Int) × (Int × Int × Int × Int × Int) × (Int × Int × Int × Int × Int))) × Int} {p1 : List Int} {a1 : Option Addr} {c1 : Nat} {r : Bool} (h1 : RdL (rK .u8) s a1 c1 p1) (hm : m_overseerlaw53_GenerateScans p0 p1 = some r) :
    Calls Try.prog 5 #[.agg #[.int .u8 p0.1, .int .u8 p0.2.1.1, .int .u8 p0.2.1.2.1, .int .u8 p0.2.1.2.2.1.1, .int .u8 p0.2.1.2.2.1.2.1, .int .u8 p0.2.1.2.2.1.2.2.1, .int .u8 p0.2.1.2.2.1.2.2.2.1, .int .u8 p0.2.1.2.2.1.2.2.2.2, .int .u8 p0.2.1.2.2.2.1.1, .int .u8 p0.2.1.2.2.2.1.2.1, .int .u8 p0.2.1.2.2.2.1.2.2.1, .int .u8 p0.2.1.2.2.2.1.2.2.2.1, .int .u8 p0.2.1.2.2.2.1.2.2.2.2, .int .u8 p0.2.1.2.2.2.2.1.1, .int .u8 p0.2.1.2.2.2.2.1.2.1, .int .u8 p0.2.1.2.2.2.2.1.2.2.1, .int .u8 p0.2.1.2.2.2.2.1.2.2.2.1, .int .u8 p0.2.1.2.2.2.2.1.2.2.2.2, .int .u8 p0.2.1.2.2.2.2.2.1.1, .int .u8 p0.2.1.2.2.2.2.2.1.2.1, .int .u8 p0.2.1.2.2.2.2.2.1.2.2.1, .int .u8 p0.2.1.2.2.2.2.2.1.2.2.2.1, .int .u8 p0.2.1.2.2.2.2.2.1.2.2.2.2, .int .u8 p0.2.1.2.2.2.2.2.2.1, .int .u8 p0.2.1.2.2.2.2.2.2.2.1, .int .u8 p0.2.1.2.2.2.2.2.2.2.2.1, .int .u8 p0.2.1.2.2.2.2.2.2.2.2.2.1, .int .u8 p0.2.1.2.2.2.2.2.2.2.2.2.2, .int .u8 p0.2.2], .slice a1 p1.length c1] s.w (RetS No s fun v s' => v = .bool r) := by
 unfold m_overseerlaw53_GenerateScans at hm
 obtain ⟨N, hN, hNb⟩ := s.fresh
 have m0 : Mv (Up N No) s s := Mv.refl _ _
 refine E.entry Try.func5 rfl Try.ntmps5 rfl rfl (E.seq (E.reg (L.box (N + 0) Wt.no rfl rfl rfl fun b2 s3 m4 bx2 => ?_)))
 replace m0 := m0.trans m4.no
 replace h1 := h1.mono (m4.le no_No)
 refine L.as Wt.no rfl rfl (L.nil (X.seqN (E.seq (E.seq (E.reg ?_)))))
 obtain ⟨r5, er5, hm⟩ := bindS hm
 refine L.ca cf11 rfl rfl Wt.no rfl (m_overseerlaw53_known_c (s := s3) er5) rfl ?_
 rintro _ s6 m7 rfl
 replace m0 := m0.trans m7.no
 replace h1 := h1.mono (m7.le no_No)
 replace bx2 := bx2.mv m7 no_No
 refine L.not Wt.no rfl rfl (L.mv Wt.no rfl rfl (L.cut 4 (fun e w => ∃ (v8 : Bool), ((!r5) || (decide ((p1.length : Int) > 8))) = v8 ∧ e = (31, .bool v8) :: [(2, .pointer (some ⟨b2, 0, none⟩)), (1, .slice a1 p1.length c1)] ∧ w = s6.w) ?_ ?_))
 ·rintro _ _ ⟨v8, rfl, rfl, rfl⟩
  refine L.nil (X.seqN ?_)
  rcases ifS hm with ⟨hc, hm⟩ | ⟨hc, hm⟩
  ·refine E.cT rfl hc (E.seq (E.reg ?_))
   obtain ⟨r9, er9, hm⟩ := bindS hm
   refine L.ca cf11 rfl rfl Wt.no rfl (m_overseerlaw53_known_c (s := s6) er9) rfl ?_
   rintro _ s10 m11 rfl
   replace m0 := m0.trans m11.no
   refine L.as Wt.no rfl rfl (L.nil (X.seqN (E.ret (X.seqR ?_))))
   obtain rfl := Option.some.inj hm
   exact X.rt (.inl rfl) Try.results5 (Rs.tmp rfl Rs.nil) rfl ⟨_, (s10).ren N (fun _ => 0), rfl, rfl, m0.ren hNb, rfl⟩
  ·refine E.cF rfl hc (E.skip (X.seqN (E.seq (E.reg (L.lg (j := 0) (cs := [.int .u8 p0.1, .int .u8 p0.2.1.1, .int .u8 p0.2.1.2.1, .int .u8 p0.2.1.2.2.1.1, .int .u8 p0.2.1.2.2.1.2.1, .int .u8 p0.2.1.2.2.1.2.2.1, .int .u8 p0.2.1.2.2.1.2.2.2.1, .int .u8 p0.2.1.2.2.1.2.2.2.2, .int .u8 p0.2.1.2.2.2.1.1, .int .u8 p0.2.1.2.2.2.1.2.1, .int .u8 p0.2.1.2.2.2.1.2.2.1, .int .u8 p0.2.1.2.2.2.1.2.2.2.1, .int .u8 p0.2.1.2.2.2.1.2.2.2.2, .int .u8 p0.2.1.2.2.2.2.1.1, .int .u8 p0.2.1.2.2.2.2.1.2.1, .int .u8 p0.2.1.2.2.2.2.1.2.2.1, .int .u8 p0.2.1.2.2.2.2.1.2.2.2.1, .int .u8 p0.2.1.2.2.2.2.1.2.2.2.2, .int .u8 p0.2.1.2.2.2.2.2.1.1, .int .u8 p0.2.1.2.2.2.2.2.1.2.1, .int .u8 p0.2.1.2.2.2.2.2.1.2.2.1, .int .u8 p0.2.1.2.2.2.2.2.1.2.2.2.1, .int .u8 p0.2.1.2.2.2.2.2.1.2.2.2.2, .int .u8 p0.2.1.2.2.2.2.2.2.1, .int .u8 p0.2.1.2.2.2.2.2.2.2.1, .int .u8 p0.2.1.2.2.2.2.2.2.2.2.1, .int .u8 p0.2.1.2.2.2.2.2.2.2.2.2.1, .int .u8 p0.2.1.2.2.2.2.2.2.2.2.2.2, .int .u8 p0.2.2]) bx2.mem ag51 Wt.no rfl rfl rfl rfl rfl ?_)))))
   obtain ⟨r12, er12, hm⟩ := bindS hm
   refine L.ca cf16 rfl rfl Wt.no rfl (m_overseerlaw53_Make_c (s := s6) (p0 := p0) (u3 := 0) er12) rfl ?_
   rintro _ s13 m14 ⟨a15, c15, a16, c16, a17, c17, a18, c18, rfl, h15, h16, h17, h18⟩
   replace h18 := h18.p
   replace m0 := m0.trans m14.no
   replace h1 := h1.mono (m14.le no_No)
   refine L.mv Wt.no rfl rfl (L.ex Wt.no rfl rfl rfl (L.ex Wt.no rfl rfl rfl (L.al (N + 1) zz26 rfl Wt.no rfl fun b19 s20 m21 bx19 => ?_)))
   replace m0 := m0.trans m21.no
   replace h1 := h1.mono (m21.le no_No)
   replace h15 := h15.mono (m21.le no_No)
   replace h16 := h16.mono (m21.le no_No)
   replace h17 := h17.mono (m21.le no_No)
   replace h18 := h18.mono (m21.le no_No)
   refine L.st (c := [.slice a15 r12.1.1.length c15, .int .i64 r12.1.2.1, .slice a16 r12.1.2.2.1.length c16, .slice a17 r12.1.2.2.2.length c17]) (cs' := #[.slice a15 r12.1.1.length c15, .int .i64 r12.1.2.1, .slice a16 r12.1.2.2.1.length c16, .slice a17 r12.1.2.2.2.length c17]) bx19 ag26.sz Wt.no rfl rfl rfl rfl rfl (Nat.le_of_ble_eq_true rfl) rfl fun s22 m23 bx19 => ?_
   replace m0 := m0.trans (m23.one up)
   replace h1 := h1.mono (m23.le (tg0 hN))
   replace h18 := h18.mono (m23.le (tg0 hN))
   replace h15 := h15.mono (m23.le (tg0 hN))
   replace h16 := h16.mono (m23.le (tg0 hN))
   replace h17 := h17.mono (m23.le (tg0 hN))
   refine L.as Wt.no rfl rfl (L.nil (X.seqN (E.seq (E.reg (L.lg (j := 0) (cs := [.slice a15 r12.1.1.length c15, .int .i64 r12.1.2.1, .slice a16 r12.1.2.2.1.length c16, .slice a17 r12.1.2.2.2.length c17]) bx19.mem ag26 Wt.no rfl rfl rfl rfl rfl (L.mv Wt.no rfl rfl ?_))))))
   obtain ⟨r24, er24, hm⟩ := bindS hm
   refine L.ca cf12 rfl rfl Wt.no rfl (m_generate_Generate_c (s := s22) (p0 := r12.1) (p1 := r12.2) (u0 := 0) (u1 := 0) (u2 := 0) (u3 := 0) h15 h16 h17 h18 er24) rfl ?_
   rintro _ s25 m26 ⟨a27, c27, a28, c28, a29, c29, a30, c30, rfl, h27, h28, h29, h30⟩
   replace h27 := h27.p
   replace h28 := h28.p
   replace h29 := h29.p
   replace h30 := h30.p
   replace m0 := m0.trans m26.no
   replace h1 := h1.mono (m26.le no_No)
   replace h18 := h18.mono (m26.le no_No)
   replace bx19 := bx19.mv m26 no_No
   replace h15 := h15.mono (m26.le no_No)
   replace h16 := h16.mono (m26.le no_No)
   replace h17 := h17.mono (m26.le no_No)
   refine L.mv Wt.no rfl rfl (L.ex Wt.no rfl rfl rfl (L.ex Wt.no rfl rfl rfl (L.al (N + 2) zz34 rfl Wt.no rfl fun b31 s32 m33 bx31 => ?_)))
   replace m0 := m0.trans m33.no
   replace h1 := h1.mono (m33.le no_No)
   replace h18 := h18.mono (m33.le no_No)
   replace h27 := h27.mono (m33.le no_No)
   replace h28 := h28.mono (m33.le no_No)
   replace h29 := h29.mono (m33.le no_No)
   replace h30 := h30.mono (m33.le no_No)
   replace bx19 := bx19.mv m33 no_No
   replace h15 := h15.mono (m33.le no_No)
   replace h16 := h16.mono (m33.le no_No)
   replace h17 := h17.mono (m33.le no_No)
   refine L.st (c := [.int .i64 r24.1.1.1, .int .i64 r24.1.1.2.1, .int .i64 r24.1.1.2.2.1, .slice a27 r24.1.1.2.2.2.1.length c27, .slice a28 r24.1.1.2.2.2.2.length c28, .slice a29 r24.1.2.1.length c29, .slice a30 r24.1.2.2.1.length c30, .int .i64 r24.1.2.2.2]) (cs' := #[.int .i64 r24.1.1.1, .int .i64 r24.1.1.2.1, .int .i64 r24.1.1.2.2.1, .slice a27 r24.1.1.2.2.2.1.length c27, .slice a28 r24.1.1.2.2.2.2.length c28, .slice a29 r24.1.2.1.length c29, .slice a30 r24.1.2.2.1.length c30, .int .i64 r24.1.2.2.2]) bx31 ag34.sz Wt.no rfl rfl rfl rfl rfl (Nat.le_of_ble_eq_true rfl) rfl fun s34 m35 bx31 => ?_
   replace m0 := m0.trans (m35.one up)
   replace h1 := h1.mono (m35.le (tg0 hN))
   replace h18 := h18.mono (m35.le (tg0 hN))
   replace bx19 := bx19.mv m35 (tgN (by decide))
   replace h15 := h15.mono (m35.le (tg0 hN))
   replace h16 := h16.mono (m35.le (tg0 hN))
   replace h17 := h17.mono (m35.le (tg0 hN))
   replace h27 := h27.mono (m35.le (tg0 hN))
   replace h28 := h28.mono (m35.le (tg0 hN))
   replace h29 := h29.mono (m35.le (tg0 hN))
   replace h30 := h30.mono (m35.le (tg0 hN))
   refine L.as Wt.no rfl rfl (L.nil (X.seqN (E.seq (E.seq (E.reg (L.mv Wt.no rfl rfl (L.bi Wt.no rfl rfl rfl rfl (L.nil (X.seqN ?_)))))))))
   rcases ifS hm with ⟨hc, hm⟩ | ⟨hc, hm⟩
   ·refine E.cT rfl hc (E.seq (E.reg (L.as Wt.no rfl rfl (L.nil (X.seqN (E.ret (X.seqR ?_)))))))
    obtain rfl := Option.some.inj hm
    exact X.rt (.inl rfl) Try.results5 (Rs.tmp rfl Rs.nil) rfl ⟨_, (s34).ren N (fun _ => 0), rfl, rfl, m0.ren hNb, rfl⟩
   ·refine E.cF rfl hc (E.skip (X.seqN (E.seq (E.reg (L.fa fa34_0 Wt.no rfl rfl (L.lg (j := 0) (cs := [.int .i64 r24.1.1.1, .int .i64 r24.1.1.2.1, .int .i64 r24.1.1.2.2.1, .slice a27 r24.1.1.2.2.2.1.length c27, .slice a28 r24.1.1.2.2.2.2.length c28]) bx31.mem ag32 Wt.no rfl rfl rfl rfl rfl ?_))))))
    obtain ⟨r36, er36, hm⟩ := bindS hm
    refine L.ca cf13 rfl rfl Wt.no rfl (m_instruction_Start_c (s := s34) (p0 := r24.1.1) (u0 := 0) (u1 := 0) h27 h28 er36) rfl ?_
    rintro _ s37 m38 ⟨a39, c39, a40, c40, rfl, h39, h40⟩
    replace h39 := h39.p
    replace h40 := h40.p
    replace m0 := m0.trans m38.no
    replace h1 := h1.mono (m38.le no_No)
    replace h18 := h18.mono (m38.le no_No)
    replace bx19 := bx19.mv m38 no_No
    replace h15 := h15.mono (m38.le no_No)
    replace h16 := h16.mono (m38.le no_No)
    replace h17 := h17.mono (m38.le no_No)
    replace bx31 := bx31.mv m38 no_No
    replace h27 := h27.mono (m38.le no_No)
    replace h28 := h28.mono (m38.le no_No)
    replace h29 := h29.mono (m38.le no_No)
    replace h30 := h30.mono (m38.le no_No)
    refine L.mv Wt.no rfl rfl (L.ex Wt.no rfl rfl rfl (L.ex Wt.no rfl rfl rfl (L.al (N + 3) zz39 rfl Wt.no rfl fun b41 s42 m43 bx41 => ?_)))
    replace m0 := m0.trans m43.no
    replace h1 := h1.mono (m43.le no_No)
    replace h39 := h39.mono (m43.le no_No)
    replace h40 := h40.mono (m43.le no_No)
    replace h18 := h18.mono (m43.le no_No)
    replace bx19 := bx19.mv m43 no_No
    replace h15 := h15.mono (m43.le no_No)
    replace h16 := h16.mono (m43.le no_No)
    replace h17 := h17.mono (m43.le no_No)
    replace bx31 := bx31.mv m43 no_No
    replace h27 := h27.mono (m43.le no_No)
    replace h28 := h28.mono (m43.le no_No)
    replace h29 := h29.mono (m43.le no_No)
    replace h30 := h30.mono (m43.le no_No)
    refine L.st (c := [.slice a39 r36.1.1.length c39, .slice a40 r36.1.2.length c40]) (cs' := #[.slice a39 r36.1.1.length c39, .slice a40 r36.1.2.length c40]) bx41 ag39.sz Wt.no rfl rfl rfl rfl rfl (Nat.le_of_ble_eq_true rfl) rfl fun s44 m45 bx41 => ?_
    replace m0 := m0.trans (m45.one up)
    replace h1 := h1.mono (m45.le (tg0 hN))
    replace h18 := h18.mono (m45.le (tg0 hN))
    replace bx19 := bx19.mv m45 (tgN (by decide))
    replace h15 := h15.mono (m45.le (tg0 hN))
    replace h16 := h16.mono (m45.le (tg0 hN))
    replace h17 := h17.mono (m45.le (tg0 hN))
    replace bx31 := bx31.mv m45 (tgN (by decide))
    replace h27 := h27.mono (m45.le (tg0 hN))
    replace h28 := h28.mono (m45.le (tg0 hN))
    replace h29 := h29.mono (m45.le (tg0 hN))
    replace h30 := h30.mono (m45.le (tg0 hN))
    replace h39 := h39.mono (m45.le (tg0 hN))
    replace h40 := h40.mono (m45.le (tg0 hN))
    refine L.as Wt.no rfl rfl (L.nil (X.seqN (E.seq (E.seq (E.reg (L.mv Wt.no rfl rfl (L.bi Wt.no rfl rfl rfl rfl (L.nil (X.seqN ?_)))))))))
    rcases ifS hm with ⟨hc, hm⟩ | ⟨hc, hm⟩
    ·refine E.cT rfl hc (E.seq (E.reg (L.as Wt.no rfl rfl (L.nil (X.seqN (E.ret (X.seqR ?_)))))))
     obtain rfl := Option.some.inj hm
     exact X.rt (.inl rfl) Try.results5 (Rs.tmp rfl Rs.nil) rfl ⟨_, (s44).ren N (fun _ => 0), rfl, rfl, m0.ren hNb, rfl⟩
    ·refine E.cF rfl hc (E.skip (X.seqN (E.seq (E.reg (L.as Wt.no rfl rfl (L.as Wt.no rfl rfl (L.nil (X.seqN (E.seq (E.seq (E.reg (L.mv Wt.no rfl rfl (L.len sl52 Wt.no rfl rfl (L.mv Wt.no rfl rfl (L.nil (X.seqN (E.block ?_)))))))))))))))))
     obtain ⟨o164, eo164, hm⟩ := bindS hm
     refine E.cut (x := .exit 0) (fun e w => ∃ (s167 : Sig) (u166 : Unit), o164 = .inl u166 ∧ Mv (Up N No) s s167 ∧ e = [] ∧ w = s167.w) ?_ ?_
     ·rintro _ _ ⟨s167, u166, rfl, m0, rfl, rfl⟩
      dsimp only at hm
      refine X.blkE (X.seqN (E.seq (E.reg (L.as Wt.no rfl rfl (L.nil (X.seqN (E.ret ?_)))))))
      obtain rfl := Option.some.inj hm
      exact X.rt (.inl rfl) Try.results5 (Rs.tmp rfl Rs.nil) rfl ⟨_, (s167).ren N (fun _ => 0), rfl, rfl, m0.ren hNb, rfl⟩
     intro K168
     refine E.cut (x := .ret) (fun e w => ∃ (s170 : Sig) (u169 : Unit), o164 = .inr (u169) ∧ Mv (Up N No) s s170 ∧ e = [(4, .bool false)] ∧ w = s170.w) ?_ ?_
     ·rintro _ _ ⟨s170, u169, rfl, m0, rfl, rfl⟩
      dsimp only at hm
      refine X.blkR (X.seqR ?_)
      obtain rfl := Option.some.inj hm
      exact X.rt (.inl rfl) Try.results5 (Rs.tmp rfl Rs.nil) rfl ⟨_, (s170).ren N (fun _ => 0), rfl, rfl, m0.ren hNb, rfl⟩
     intro K171
     refine E.iter (fun (st164 : Int × Bool × Int × List Bool × List Bool) (e : List (Nat × Value)) (w : World) => ∃ (s165 : Sig) (a50 : Option Addr) (c50 : Nat) (a52 : Option Addr) (c52 : Nat), Mv (Up N No) s s165 ∧ RdL (rK .u8) s165 a1 c1 p1 ∧ RdL (rK .i64) s165 a18 c18 r12.2 ∧ RdL (rK .i64) s165 a15 c15 r12.1.1 ∧ RdL (rK .i64) s165 a16 c16 r12.1.2.2.1 ∧ RdL (rP (rK .i64) (rP (rK .i64) (rK .i64))) s165 a17 c17 r12.1.2.2.2 ∧ RdL rB s165 a27 c27 r24.1.1.2.2.2.1 ∧ RdL (rP (rK .i64) (rK .i64)) s165 a28 c28 r24.1.1.2.2.2.2 ∧ RdL (rK .i64) s165 a29 c29 r24.1.2.1 ∧ RdL (rK .i64) s165 a30 c30 r24.1.2.2.1 ∧ RdL rB s165 a50 c50 st164.2.2.2.1 ∧ RdL rB s165 a52 c52 st164.2.2.2.2 ∧ Bx s165 (N + 1) b19 #[.slice a15 r12.1.1.length c15, .int .i64 r12.1.2.1, .slice a16 r12.1.2.2.1.length c16, .slice a17 r12.1.2.2.2.length c17] 26 ∧ Bx s165 (N + 2) b31 #[.int .i64 r24.1.1.1, .int .i64 r24.1.1.2.1, .int .i64 r24.1.1.2.2.1, .slice a27 r24.1.1.2.2.2.1.length c27, .slice a28 r24.1.1.2.2.2.2.length c28, .slice a29 r24.1.2.1.length c29, .slice a30 r24.1.2.2.1.length c30, .int .i64 r24.1.2.2.2] 34 ∧ Bx s165 (N + 3) b41 #[.slice a50 st164.2.2.2.1.length c50, .slice a52 st164.2.2.2.2.length c52] 39 ∧ e = [(56, .int .i64 st164.1), (55, .int .i64 (p1.length : Int)), (54, .slice a1 p1.length c1), (12, .bool st164.2.1), (11, .int .i64 st164.2.2.1), (9, .pointer (some ⟨b41, 0, none⟩)), (7, .pointer (some ⟨b31, 0, none⟩)), (6, .slice a18 r12.2.length c18), (5, .pointer (some ⟨b19, 0, none⟩))] ∧ w = s165.w) eo164 ⟨s44, a39, c39, a40, c40, m0, h1, h18, h15, h16, h17, h27, h28, h29, h30, h39, h40, bx19, bx31, bx41, rfl, rfl⟩ (Sub.rf rfl) ?_
     rintro st164 res164 hm ih164 ho164 _ _ ⟨s165, a50, c50, a52, c52, m0, h1, h18, h15, h16, h17, h27, h28, h29, h30, h50, h52, bx19, bx31, bx41, rfl, rfl⟩
     unfold m_overseerlaw53_GenerateScans_l1 at hm
     refine E.seq (E.reg (L.bi Wt.no rfl rfl rfl rfl (L.nil (X.seqN (E.seq ?_)))))
     rcases ifS hm with ⟨hc, hm⟩ | ⟨hc, hm⟩
     ·refine E.cT rfl hc (E.skip (X.seqN (E.seq (E.block (E.seq (E.reg ?_))))))
      obtain ⟨x172, ex172, hm⟩ := bindS hm
      refine L.ix (r := (rK .u8)) sl52 h1 Wt.no rfl rfl ex172 rfl fun b173 o173 cc173 me173 rd173 => ?_
      obtain rfl := rd173
      refine L.ld (j := 0) me173 nag5 Wt.no rfl rfl rfl rfl (L.as Wt.no rfl rfl (L.nil (X.seqN (E.seq (E.reg (L.lg (j := 0) (cs := [.slice a15 r12.1.1.length c15, .int .i64 r12.1.2.1, .slice a16 r12.1.2.2.1.length c16, .slice a17 r12.1.2.2.2.length c17]) bx19.mem ag26 Wt.no rfl rfl rfl rfl rfl (L.mv Wt.no rfl rfl ?_)))))))
      obtain ⟨r174, er174, hm⟩ := bindS hm
      refine L.ca cf17 rfl rfl Wt.no rfl (m_overseerlaw53_set_c (s := s165) (p0 := r12.1) (p1 := x172) (u0 := 0) h15 h16 h17 er174) rfl ?_
      rintro _ s175 m176 ⟨a177, c177, rfl, h177⟩
      replace h177 := h177.p
      replace m0 := m0.trans m176.no
      replace h18 := h18.mono (m176.le no_No)
      replace h1 := h1.mono (m176.le no_No)
      replace bx19 := bx19.mv m176 no_No
      replace h15 := h15.mono (m176.le no_No)
      replace h16 := h16.mono (m176.le no_No)
      replace h17 := h17.mono (m176.le no_No)
      replace bx31 := bx31.mv m176 no_No
      replace h27 := h27.mono (m176.le no_No)
      replace h28 := h28.mono (m176.le no_No)
      replace h29 := h29.mono (m176.le no_No)
      replace h30 := h30.mono (m176.le no_No)
      replace bx41 := bx41.mv m176 no_No
      replace h50 := h50.mono (m176.le no_No)
      replace h52 := h52.mono (m176.le no_No)
      refine L.as Wt.no rfl rfl (L.nil (X.seqN (E.seq (E.reg (L.as Wt.no rfl rfl (L.nil (X.seqN (E.seq (E.reg (L.lg (j := 0) (cs := [.slice a15 r12.1.1.length c15, .int .i64 r12.1.2.1, .slice a16 r12.1.2.2.1.length c16, .slice a17 r12.1.2.2.2.length c17]) bx19.mem ag26 Wt.no rfl rfl rfl rfl rfl (L.mv Wt.no rfl rfl (L.mv Wt.no rfl rfl ?_))))))))))))
      obtain ⟨r178, er178, hm⟩ := bindS hm
      refine L.ca cf21 rfl rfl Wt.no rfl (m_overseerlaw53_follow_c (s := s175) (p0 := r12.1) (p1 := st164.2.2.1) (p2 := r174) h15 h16 h17 h177 er178) rfl ?_
      rintro _ s179 m180 rfl
      replace m0 := m0.trans m180.no
      replace h18 := h18.mono (m180.le no_No)
      replace h177 := h177.mono (m180.le no_No)
      replace h1 := h1.mono (m180.le no_No)
      replace bx19 := bx19.mv m180 no_No
      replace h15 := h15.mono (m180.le no_No)
      replace h16 := h16.mono (m180.le no_No)
      replace h17 := h17.mono (m180.le no_No)
      replace bx31 := bx31.mv m180 no_No
      replace h27 := h27.mono (m180.le no_No)
      replace h28 := h28.mono (m180.le no_No)
      replace h29 := h29.mono (m180.le no_No)
      replace h30 := h30.mono (m180.le no_No)
      replace bx41 := bx41.mv m180 no_No
      replace h50 := h50.mono (m180.le no_No)
      replace h52 := h52.mono (m180.le no_No)
      refine L.mv Wt.no rfl rfl (L.ex Wt.no rfl rfl rfl (L.ex Wt.no rfl rfl rfl (L.as Wt.no rfl rfl (L.as Wt.no rfl rfl (L.nil (X.seqN (E.seq (E.reg (L.mv Wt.no rfl rfl (L.mv Wt.no rfl rfl (L.cut 2 (fun e w => ∃ (v181 : Bool), (st164.2.1 || r178.2) = v181 ∧ e = (73, .bool v181) :: [(11, .int .i64 r178.1), (15, .slice a177 r174.length c177), (56, .int .i64 st164.1), (55, .int .i64 (p1.length : Int)), (54, .slice a1 p1.length c1), (9, .pointer (some ⟨b41, 0, none⟩)), (7, .pointer (some ⟨b31, 0, none⟩)), (6, .slice a18 r12.2.length c18), (5, .pointer (some ⟨b19, 0, none⟩))] ∧ w = s179.w) ?_ ?_)))))))))))
      ·rintro _ _ ⟨v181, rfl, rfl, rfl⟩
       refine L.as Wt.no rfl rfl (L.nil (X.seqN (E.seq (E.reg (L.lg (j := 0) (cs := [.int .i64 r24.1.1.1, .int .i64 r24.1.1.2.1, .int .i64 r24.1.1.2.2.1, .slice a27 r24.1.1.2.2.2.1.length c27, .slice a28 r24.1.1.2.2.2.2.length c28, .slice a29 r24.1.2.1.length c29, .slice a30 r24.1.2.2.1.length c30, .int .i64 r24.1.2.2.2]) bx31.mem ag34 Wt.no rfl rfl rfl rfl rfl (L.mv Wt.no rfl rfl ?_))))))
       obtain ⟨r182, er182, hm⟩ := bindS hm
       refine L.ca cf22 rfl rfl Wt.no rfl (m_generate_Inputs_c (s := s179) (p0 := r24.1) (p1 := r174) (u0 := 0) h27 h28 h29 h30 h177 er182) rfl ?_
       rintro _ s183 m184 ⟨a185, c185, rfl, h185⟩
       replace h185 := h185.p
       replace m0 := m0.trans m184.no
       replace h18 := h18.mono (m184.le no_No)
       replace h177 := h177.mono (m184.le no_No)
       replace h1 := h1.mono (m184.le no_No)
       replace bx19 := bx19.mv m184 no_No
       replace h15 := h15.mono (m184.le no_No)
       replace h16 := h16.mono (m184.le no_No)
       replace h17 := h17.mono (m184.le no_No)
       replace bx31 := bx31.mv m184 no_No
       replace h27 := h27.mono (m184.le no_No)
       replace h28 := h28.mono (m184.le no_No)
       replace h29 := h29.mono (m184.le no_No)
       replace h30 := h30.mono (m184.le no_No)
       replace bx41 := bx41.mv m184 no_No
       replace h50 := h50.mono (m184.le no_No)
       replace h52 := h52.mono (m184.le no_No)
       refine L.mv Wt.no rfl rfl (L.ex Wt.no rfl rfl rfl (L.ex Wt.no rfl rfl rfl (L.as Wt.no rfl rfl (L.as Wt.no rfl rfl (L.nil (X.seqN (E.seq (E.seq (E.reg (L.mv Wt.no rfl rfl (L.bi Wt.no rfl rfl rfl rfl (L.mv Wt.no rfl rfl (L.cut 7 (fun e w => ∃ (v186 : Bool), ((r182.2 != 0) || ((r182.1.length : Int) != (r12.1.1.length : Int))) = v186 ∧ e = (89, .bool v186) :: [(17, .slice a185 r182.1.length c185), (12, .bool (st164.2.1 || r178.2)), (11, .int .i64 r178.1), (15, .slice a177 r174.length c177), (56, .int .i64 st164.1), (55, .int .i64 (p1.length : Int)), (54, .slice a1 p1.length c1), (9, .pointer (some ⟨b41, 0, none⟩)), (7, .pointer (some ⟨b31, 0, none⟩)), (6, .slice a18 r12.2.length c18), (5, .pointer (some ⟨b19, 0, none⟩))] ∧ w = s183.w) ?_ ?_)))))))))))))
       ·rintro _ _ ⟨v186, rfl, rfl, rfl⟩
        refine L.nil (X.seqN ?_)
        rcases ifS hm with ⟨hc, hm⟩ | ⟨hc, hm⟩
        ·refine E.cT rfl hc (E.seq (E.reg (L.as Wt.no rfl rfl (L.nil (X.seqN (E.ret (X.seqR (X.blkR (X.seqR (X.seqR ?_))))))))))
         have hx := ho164 _ (Option.some.inj hm).symm
         exact X.sub (K171 _ _ ⟨s183, (), hx.symm, m0, rfl, rfl⟩) (Sub.rf rfl)
        ·refine E.cF rfl hc (E.skip (X.seqN (E.seq (E.seq (E.reg (L.fa fa26_0 Wt.no rfl rfl (L.ld (j := 0) bx19.mem nag23 Wt.no rfl rfl rfl rfl (L.len sl23 Wt.no rfl rfl (L.mv Wt.no rfl rfl (L.nil (X.seqN (E.block ?_))))))))))))
         obtain ⟨o205, eo205, hm⟩ := bindS hm
         refine E.cut (x := .exit 2) (fun e w => ∃ (s208 : Sig) (u207 : Unit), o205 = .inl u207 ∧ Mv (Up N No) s s208 ∧ RdL rB s208 a185 c185 r182.1 ∧ RdL (rK .i64) s208 a177 c177 r174 ∧ RdL (rK .u8) s208 a1 c1 p1 ∧ RdL (rK .i64) s208 a18 c18 r12.2 ∧ RdL (rK .i64) s208 a15 c15 r12.1.1 ∧ RdL (rK .i64) s208 a16 c16 r12.1.2.2.1 ∧ RdL (rP (rK .i64) (rP (rK .i64) (rK .i64))) s208 a17 c17 r12.1.2.2.2 ∧ RdL rB s208 a27 c27 r24.1.1.2.2.2.1 ∧ RdL (rP (rK .i64) (rK .i64)) s208 a28 c28 r24.1.1.2.2.2.2 ∧ RdL (rK .i64) s208 a29 c29 r24.1.2.1 ∧ RdL (rK .i64) s208 a30 c30 r24.1.2.2.1 ∧ RdL rB s208 a50 c50 st164.2.2.2.1 ∧ RdL rB s208 a52 c52 st164.2.2.2.2 ∧ Bx s208 (N + 1) b19 #[.slice a15 r12.1.1.length c15, .int .i64 r12.1.2.1, .slice a16 r12.1.2.2.1.length c16, .slice a17 r12.1.2.2.2.length c17] 26 ∧ Bx s208 (N + 2) b31 #[.int .i64 r24.1.1.1, .int .i64 r24.1.1.2.1, .int .i64 r24.1.1.2.2.1, .slice a27 r24.1.1.2.2.2.1.length c27, .slice a28 r24.1.1.2.2.2.2.length c28, .slice a29 r24.1.2.1.length c29, .slice a30 r24.1.2.2.1.length c30, .int .i64 r24.1.2.2.2] 34 ∧ Bx s208 (N + 3) b41 #[.slice a50 st164.2.2.2.1.length c50, .slice a52 st164.2.2.2.2.length c52] 39 ∧ e = [(17, .slice a185 r182.1.length c185), (12, .bool (st164.2.1 || r178.2)), (11, .int .i64 r178.1), (15, .slice a177 r174.length c177), (56, .int .i64 st164.1), (55, .int .i64 (p1.length : Int)), (54, .slice a1 p1.length c1), (9, .pointer (some ⟨b41, 0, none⟩)), (7, .pointer (some ⟨b31, 0, none⟩)), (6, .slice a18 r12.2.length c18), (5, .pointer (some ⟨b19, 0, none⟩))] ∧ w = s208.w) ?_ ?_
         ·rintro _ _ ⟨s208, u207, rfl, m0, h185, h177, h1, h18, h15, h16, h17, h27, h28, h29, h30, h50, h52, bx19, bx31, bx41, rfl, rfl⟩
          dsimp only at hm
          refine X.blkE (X.seqN (E.seq (E.reg (L.lg (j := 0) (cs := [.int .i64 r24.1.1.1, .int .i64 r24.1.1.2.1, .int .i64 r24.1.1.2.2.1, .slice a27 r24.1.1.2.2.2.1.length c27, .slice a28 r24.1.1.2.2.2.2.length c28, .slice a29 r24.1.2.1.length c29, .slice a30 r24.1.2.2.1.length c30, .int .i64 r24.1.2.2.2]) bx31.mem ag34 Wt.no rfl rfl rfl rfl rfl (L.lg (j := 0) (cs := [.slice a50 st164.2.2.2.1.length c50, .slice a52 st164.2.2.2.2.length c52]) bx41.mem ag39 Wt.no rfl rfl rfl rfl rfl (L.mv Wt.no rfl rfl ?_))))))
          obtain ⟨r209, er209, hm⟩ := bindS hm
          refine L.ca cf14 rfl rfl Wt.no rfl (m_generate_Scan_c (s := s208) (p0 := r24.1) (p1 := st164.2.2.2) (p2 := r174) h27 h28 h29 h30 h50 h52 h177 er209) rfl ?_
          rintro _ s210 m211 ⟨a212, c212, a213, c213, rfl, h212, h213⟩
          replace m0 := m0.trans m211.no
          replace h18 := h18.mono (m211.le no_No)
          replace h185 := h185.mono (m211.le no_No)
          replace h1 := h1.mono (m211.le no_No)
          replace bx19 := bx19.mv m211 no_No
          replace h15 := h15.mono (m211.le no_No)
          replace h16 := h16.mono (m211.le no_No)
          replace h17 := h17.mono (m211.le no_No)
          replace bx31 := bx31.mv m211 no_No
          replace h27 := h27.mono (m211.le no_No)
          replace h28 := h28.mono (m211.le no_No)
          replace h29 := h29.mono (m211.le no_No)
          replace h30 := h30.mono (m211.le no_No)
          replace bx41 := bx41.mv m211 no_No
          replace h50 := h50.mono (m211.le no_No)
          replace h52 := h52.mono (m211.le no_No)
          refine L.mv Wt.no rfl rfl (L.ex Wt.no rfl rfl rfl (L.ex Wt.no rfl rfl rfl (L.al (N + 4) zz39 rfl Wt.no rfl fun b214 s215 m216 bx214 => ?_)))
          replace m0 := m0.trans m216.no
          replace h18 := h18.mono (m216.le no_No)
          replace h212 := h212.mono (m216.le no_No)
          replace h213 := h213.mono (m216.le no_No)
          replace h185 := h185.mono (m216.le no_No)
          replace h1 := h1.mono (m216.le no_No)
          replace bx19 := bx19.mv m216 no_No
          replace h15 := h15.mono (m216.le no_No)
          replace h16 := h16.mono (m216.le no_No)
          replace h17 := h17.mono (m216.le no_No)
          replace bx31 := bx31.mv m216 no_No
          replace h27 := h27.mono (m216.le no_No)
          replace h28 := h28.mono (m216.le no_No)
          replace h29 := h29.mono (m216.le no_No)
          replace h30 := h30.mono (m216.le no_No)
          replace bx41 := bx41.mv m216 no_No
          replace h50 := h50.mono (m216.le no_No)
          replace h52 := h52.mono (m216.le no_No)
          refine L.st (c := [.slice a212 r209.1.1.length c212, .slice a213 r209.1.2.length c213]) (cs' := #[.slice a212 r209.1.1.length c212, .slice a213 r209.1.2.length c213]) bx214 ag39.sz Wt.no rfl rfl rfl rfl rfl (Nat.le_of_ble_eq_true rfl) rfl fun s217 m218 bx214 => ?_
          replace m0 := m0.trans (m218.one up)
          replace h18 := h18.mono (m218.le (tg0 hN))
          replace h185 := h185.mono (m218.le (tg0 hN))
          replace h1 := h1.mono (m218.le (tg0 hN))
          replace bx19 := bx19.mv m218 (tgN (by decide))
          replace h15 := h15.mono (m218.le (tg0 hN))
          replace h16 := h16.mono (m218.le (tg0 hN))
          replace h17 := h17.mono (m218.le (tg0 hN))
          replace bx31 := bx31.mv m218 (tgN (by decide))
          replace h27 := h27.mono (m218.le (tg0 hN))
          replace h28 := h28.mono (m218.le (tg0 hN))
          replace h29 := h29.mono (m218.le (tg0 hN))
          replace h30 := h30.mono (m218.le (tg0 hN))
          replace bx41 := bx41.mv m218 (tgN (by decide))
          replace h50 := h50.mono (m218.le (tg0 hN))
          replace h52 := h52.mono (m218.le (tg0 hN))
          replace h212 := h212.mono (m218.le (tg0 hN))
          replace h213 := h213.mono (m218.le (tg0 hN))
          refine L.as Wt.no rfl rfl (L.nil (X.seqN (E.seq (E.reg (L.fa fa34_0 Wt.no rfl rfl (L.lg (j := 0) (cs := [.int .i64 r24.1.1.1, .int .i64 r24.1.1.2.1, .int .i64 r24.1.1.2.2.1, .slice a27 r24.1.1.2.2.2.1.length c27, .slice a28 r24.1.1.2.2.2.2.length c28]) bx31.mem ag32 Wt.no rfl rfl rfl rfl rfl (L.lg (j := 0) (cs := [.slice a50 st164.2.2.2.1.length c50, .slice a52 st164.2.2.2.2.length c52]) bx41.mem ag39 Wt.no rfl rfl rfl rfl rfl (L.mv Wt.no rfl rfl ?_))))))))
          obtain ⟨r219, er219, hm⟩ := bindS hm
          refine L.ca cf24 rfl rfl Wt.no rfl (m_instruction_Scan_c (s := s217) (p0 := r24.1.1) (p1 := st164.2.2.2) (p2 := r182.1) h27 h28 h50 h52 h185 er219) rfl ?_
          rintro _ s220 m221 ⟨a222, c222, a223, c223, rfl, h222, h223⟩
          replace m0 := m0.trans m221.no
          replace h18 := h18.mono (m221.le no_No)
          replace h1 := h1.mono (m221.le no_No)
          replace bx19 := bx19.mv m221 no_No
          replace h15 := h15.mono (m221.le no_No)
          replace h16 := h16.mono (m221.le no_No)
          replace h17 := h17.mono (m221.le no_No)
          replace bx31 := bx31.mv m221 no_No
          replace h27 := h27.mono (m221.le no_No)
          replace h28 := h28.mono (m221.le no_No)
          replace h29 := h29.mono (m221.le no_No)
          replace h30 := h30.mono (m221.le no_No)
          replace bx41 := bx41.mv m221 no_No
          replace h50 := h50.mono (m221.le no_No)
          replace h52 := h52.mono (m221.le no_No)
          replace bx214 := bx214.mv m221 no_No
          replace h212 := h212.mono (m221.le no_No)
          replace h213 := h213.mono (m221.le no_No)
          refine L.mv Wt.no rfl rfl (L.ex Wt.no rfl rfl rfl (L.ex Wt.no rfl rfl rfl (L.al (N + 5) zz39 rfl Wt.no rfl fun b224 s225 m226 bx224 => ?_)))
          replace m0 := m0.trans m226.no
          replace h18 := h18.mono (m226.le no_No)
          replace h222 := h222.mono (m226.le no_No)
          replace h223 := h223.mono (m226.le no_No)
          replace h1 := h1.mono (m226.le no_No)
          replace bx19 := bx19.mv m226 no_No
          replace h15 := h15.mono (m226.le no_No)
          replace h16 := h16.mono (m226.le no_No)
          replace h17 := h17.mono (m226.le no_No)
          replace bx31 := bx31.mv m226 no_No
          replace h27 := h27.mono (m226.le no_No)
          replace h28 := h28.mono (m226.le no_No)
          replace h29 := h29.mono (m226.le no_No)
          replace h30 := h30.mono (m226.le no_No)
          replace bx41 := bx41.mv m226 no_No
          replace h50 := h50.mono (m226.le no_No)
          replace h52 := h52.mono (m226.le no_No)
          replace bx214 := bx214.mv m226 no_No
          replace h212 := h212.mono (m226.le no_No)
          replace h213 := h213.mono (m226.le no_No)
          refine L.st (c := [.slice a222 r219.1.1.length c222, .slice a223 r219.1.2.length c223]) (cs' := #[.slice a222 r219.1.1.length c222, .slice a223 r219.1.2.length c223]) bx224 ag39.sz Wt.no rfl rfl rfl rfl rfl (Nat.le_of_ble_eq_true rfl) rfl fun s227 m228 bx224 => ?_
          replace m0 := m0.trans (m228.one up)
          replace h18 := h18.mono (m228.le (tg0 hN))
          replace h1 := h1.mono (m228.le (tg0 hN))
          replace bx19 := bx19.mv m228 (tgN (by decide))
          replace h15 := h15.mono (m228.le (tg0 hN))
          replace h16 := h16.mono (m228.le (tg0 hN))
          replace h17 := h17.mono (m228.le (tg0 hN))
          replace bx31 := bx31.mv m228 (tgN (by decide))
          replace h27 := h27.mono (m228.le (tg0 hN))
          replace h28 := h28.mono (m228.le (tg0 hN))
          replace h29 := h29.mono (m228.le (tg0 hN))
          replace h30 := h30.mono (m228.le (tg0 hN))
          replace bx41 := bx41.mv m228 (tgN (by decide))
          replace h50 := h50.mono (m228.le (tg0 hN))
          replace h52 := h52.mono (m228.le (tg0 hN))
          replace bx214 := bx214.mv m228 (tgN (by decide))
          replace h212 := h212.mono (m228.le (tg0 hN))
          replace h213 := h213.mono (m228.le (tg0 hN))
          replace h222 := h222.mono (m228.le (tg0 hN))
          replace h223 := h223.mono (m228.le (tg0 hN))
          refine L.as Wt.no rfl rfl (L.nil (X.seqN (E.seq (E.seq (E.reg (L.mv Wt.no rfl rfl (L.bi Wt.no rfl rfl rfl rfl (L.mv Wt.no rfl rfl (L.cut 3 (fun e w => ∃ (v229 : Bool), ((r209.2 != 0) || (r219.2 != 0)) = v229 ∧ e = (127, .bool v229) :: [(23, .pointer (some ⟨b224, 0, none⟩)), (21, .pointer (some ⟨b214, 0, none⟩)), (12, .bool (st164.2.1 || r178.2)), (11, .int .i64 r178.1), (56, .int .i64 st164.1), (55, .int .i64 (p1.length : Int)), (54, .slice a1 p1.length c1), (9, .pointer (some ⟨b41, 0, none⟩)), (7, .pointer (some ⟨b31, 0, none⟩)), (6, .slice a18 r12.2.length c18), (5, .pointer (some ⟨b19, 0, none⟩))] ∧ w = s227.w) ?_ ?_)))))))))
          ·rintro _ _ ⟨v229, rfl, rfl, rfl⟩
           refine L.mv Wt.no rfl rfl ?_
           obtain ⟨b230, eb230, hm⟩ := bindS hm
           refine L.cut 7 (fun e w => ∃ (s232 : Sig) (v231 : Bool), b230 = v231 ∧ Mv (Up N No) s s232 ∧ RdL (rK .u8) s232 a1 c1 p1 ∧ RdL (rK .i64) s232 a18 c18 r12.2 ∧ RdL (rK .i64) s232 a15 c15 r12.1.1 ∧ RdL (rK .i64) s232 a16 c16 r12.1.2.2.1 ∧ RdL (rP (rK .i64) (rP (rK .i64) (rK .i64))) s232 a17 c17 r12.1.2.2.2 ∧ RdL rB s232 a27 c27 r24.1.1.2.2.2.1 ∧ RdL (rP (rK .i64) (rK .i64)) s232 a28 c28 r24.1.1.2.2.2.2 ∧ RdL (rK .i64) s232 a29 c29 r24.1.2.1 ∧ RdL (rK .i64) s232 a30 c30 r24.1.2.2.1 ∧ RdL rB s232 a50 c50 st164.2.2.2.1 ∧ RdL rB s232 a52 c52 st164.2.2.2.2 ∧ RdL rB s232 a212 c212 r209.1.1 ∧ RdL rB s232 a213 c213 r209.1.2 ∧ RdL rB s232 a222 c222 r219.1.1 ∧ RdL rB s232 a223 c223 r219.1.2 ∧ Bx s232 (N + 1) b19 #[.slice a15 r12.1.1.length c15, .int .i64 r12.1.2.1, .slice a16 r12.1.2.2.1.length c16, .slice a17 r12.1.2.2.2.length c17] 26 ∧ Bx s232 (N + 2) b31 #[.int .i64 r24.1.1.1, .int .i64 r24.1.1.2.1, .int .i64 r24.1.1.2.2.1, .slice a27 r24.1.1.2.2.2.1.length c27, .slice a28 r24.1.1.2.2.2.2.length c28, .slice a29 r24.1.2.1.length c29, .slice a30 r24.1.2.2.1.length c30, .int .i64 r24.1.2.2.2] 34 ∧ Bx s232 (N + 3) b41 #[.slice a50 st164.2.2.2.1.length c50, .slice a52 st164.2.2.2.2.length c52] 39 ∧ Bx s232 (N + 4) b214 #[.slice a212 r209.1.1.length c212, .slice a213 r209.1.2.length c213] 39 ∧ Bx s232 (N + 5) b224 #[.slice a222 r219.1.1.length c222, .slice a223 r219.1.2.length c223] 39 ∧ e = (135, .bool v231) :: [(23, .pointer (some ⟨b224, 0, none⟩)), (21, .pointer (some ⟨b214, 0, none⟩)), (12, .bool (st164.2.1 || r178.2)), (11, .int .i64 r178.1), (56, .int .i64 st164.1), (55, .int .i64 (p1.length : Int)), (54, .slice a1 p1.length c1), (9, .pointer (some ⟨b41, 0, none⟩)), (7, .pointer (some ⟨b31, 0, none⟩)), (6, .slice a18 r12.2.length c18), (5, .pointer (some ⟨b19, 0, none⟩))] ∧ w = s232.w) ?_ ?_
           ·rintro _ _ ⟨s232, v231, rfl, m0, h1, h18, h15, h16, h17, h27, h28, h29, h30, h50, h52, h212, h213, h222, h223, bx19, bx31, bx41, bx214, bx224, rfl, rfl⟩
            refine L.mv Wt.no rfl rfl ?_
            obtain ⟨b233, eb233, hm⟩ := bindS hm
            refine L.cut 7 (fun e w => ∃ (s235 : Sig) (v234 : Bool), b233 = v234 ∧ Mv (Up N No) s s235 ∧ RdL (rK .u8) s235 a1 c1 p1 ∧ RdL (rK .i64) s235 a18 c18 r12.2 ∧ RdL (rK .i64) s235 a15 c15 r12.1.1 ∧ RdL (rK .i64) s235 a16 c16 r12.1.2.2.1 ∧ RdL (rP (rK .i64) (rP (rK .i64) (rK .i64))) s235 a17 c17 r12.1.2.2.2 ∧ RdL rB s235 a27 c27 r24.1.1.2.2.2.1 ∧ RdL (rP (rK .i64) (rK .i64)) s235 a28 c28 r24.1.1.2.2.2.2 ∧ RdL (rK .i64) s235 a29 c29 r24.1.2.1 ∧ RdL (rK .i64) s235 a30 c30 r24.1.2.2.1 ∧ RdL rB s235 a50 c50 st164.2.2.2.1 ∧ RdL rB s235 a52 c52 st164.2.2.2.2 ∧ RdL rB s235 a212 c212 r209.1.1 ∧ RdL rB s235 a213 c213 r209.1.2 ∧ Bx s235 (N + 1) b19 #[.slice a15 r12.1.1.length c15, .int .i64 r12.1.2.1, .slice a16 r12.1.2.2.1.length c16, .slice a17 r12.1.2.2.2.length c17] 26 ∧ Bx s235 (N + 2) b31 #[.int .i64 r24.1.1.1, .int .i64 r24.1.1.2.1, .int .i64 r24.1.1.2.2.1, .slice a27 r24.1.1.2.2.2.1.length c27, .slice a28 r24.1.1.2.2.2.2.length c28, .slice a29 r24.1.2.1.length c29, .slice a30 r24.1.2.2.1.length c30, .int .i64 r24.1.2.2.2] 34 ∧ Bx s235 (N + 3) b41 #[.slice a50 st164.2.2.2.1.length c50, .slice a52 st164.2.2.2.2.length c52] 39 ∧ Bx s235 (N + 4) b214 #[.slice a212 r209.1.1.length c212, .slice a213 r209.1.2.length c213] 39 ∧ e = (143, .bool v234) :: [(21, .pointer (some ⟨b214, 0, none⟩)), (12, .bool (st164.2.1 || r178.2)), (11, .int .i64 r178.1), (56, .int .i64 st164.1), (55, .int .i64 (p1.length : Int)), (54, .slice a1 p1.length c1), (9, .pointer (some ⟨b41, 0, none⟩)), (7, .pointer (some ⟨b31, 0, none⟩)), (6, .slice a18 r12.2.length c18), (5, .pointer (some ⟨b19, 0, none⟩))] ∧ w = s235.w) ?_ ?_
            ·rintro _ _ ⟨s235, v234, rfl, m0, h1, h18, h15, h16, h17, h27, h28, h29, h30, h50, h52, h212, h213, bx19, bx31, bx41, bx214, rfl, rfl⟩
             refine L.mv Wt.no rfl rfl ?_
             obtain ⟨b236, eb236, hm⟩ := bindS hm
             refine L.cut 9 (fun e w => ∃ (s238 : Sig) (v237 : Bool), b236 = v237 ∧ Mv (Up N No) s s238 ∧ RdL (rK .u8) s238 a1 c1 p1 ∧ RdL (rK .i64) s238 a18 c18 r12.2 ∧ RdL (rK .i64) s238 a15 c15 r12.1.1 ∧ RdL (rK .i64) s238 a16 c16 r12.1.2.2.1 ∧ RdL (rP (rK .i64) (rP (rK .i64) (rK .i64))) s238 a17 c17 r12.1.2.2.2 ∧ RdL rB s238 a27 c27 r24.1.1.2.2.2.1 ∧ RdL (rP (rK .i64) (rK .i64)) s238 a28 c28 r24.1.1.2.2.2.2 ∧ RdL (rK .i64) s238 a29 c29 r24.1.2.1 ∧ RdL (rK .i64) s238 a30 c30 r24.1.2.2.1 ∧ RdL rB s238 a50 c50 st164.2.2.2.1 ∧ RdL rB s238 a52 c52 st164.2.2.2.2 ∧ RdL rB s238 a212 c212 r209.1.1 ∧ RdL rB s238 a213 c213 r209.1.2 ∧ Bx s238 (N + 1) b19 #[.slice a15 r12.1.1.length c15, .int .i64 r12.1.2.1, .slice a16 r12.1.2.2.1.length c16, .slice a17 r12.1.2.2.2.length c17] 26 ∧ Bx s238 (N + 2) b31 #[.int .i64 r24.1.1.1, .int .i64 r24.1.1.2.1, .int .i64 r24.1.1.2.2.1, .slice a27 r24.1.1.2.2.2.1.length c27, .slice a28 r24.1.1.2.2.2.2.length c28, .slice a29 r24.1.2.1.length c29, .slice a30 r24.1.2.2.1.length c30, .int .i64 r24.1.2.2.2] 34 ∧ Bx s238 (N + 3) b41 #[.slice a50 st164.2.2.2.1.length c50, .slice a52 st164.2.2.2.2.length c52] 39 ∧ Bx s238 (N + 4) b214 #[.slice a212 r209.1.1.length c212, .slice a213 r209.1.2.length c213] 39 ∧ e = (153, .bool v237) :: [(21, .pointer (some ⟨b214, 0, none⟩)), (12, .bool (st164.2.1 || r178.2)), (11, .int .i64 r178.1), (56, .int .i64 st164.1), (55, .int .i64 (p1.length : Int)), (54, .slice a1 p1.length c1), (9, .pointer (some ⟨b41, 0, none⟩)), (7, .pointer (some ⟨b31, 0, none⟩)), (6, .slice a18 r12.2.length c18), (5, .pointer (some ⟨b19, 0, none⟩))] ∧ w = s238.w) ?_ ?_
             ·rintro _ _ ⟨s238, v237, rfl, m0, h1, h18, h15, h16, h17, h27, h28, h29, h30, h50, h52, h212, h213, bx19, bx31, bx41, bx214, rfl, rfl⟩
              refine L.nil (X.seqN ?_)
              rcases ifS hm with ⟨hc, hm⟩ | ⟨hc, hm⟩
              ·refine E.cT rfl hc (E.seq (E.reg (L.as Wt.no rfl rfl (L.nil (X.seqN (E.ret (X.seqR (X.blkR (X.seqR (X.seqR ?_))))))))))
               have hx := ho164 _ (Option.some.inj hm).symm
               exact X.sub (K171 _ _ ⟨s238, (), hx.symm, m0, rfl, rfl⟩) (Sub.rf rfl)
              ·refine E.cF rfl hc (E.skip (X.seqN (E.reg (L.lg (j := 0) (cs := [.slice a212 r209.1.1.length c212, .slice a213 r209.1.2.length c213]) bx214.mem ag39 Wt.no rfl rfl rfl rfl rfl (L.st (c := [.slice a212 r209.1.1.length c212, .slice a213 r209.1.2.length c213]) (cs' := #[.slice a212 r209.1.1.length c212, .slice a213 r209.1.2.length c213]) bx41 ag39.sz Wt.no rfl rfl rfl rfl rfl (Nat.le_of_ble_eq_true rfl) rfl fun s239 m240 bx41 => ?_)))))
               replace m0 := m0.trans (m240.one up)
               replace h18 := h18.mono (m240.le (tg0 hN))
               replace h1 := h1.mono (m240.le (tg0 hN))
               replace bx19 := bx19.mv m240 (tgN (by decide))
               replace h15 := h15.mono (m240.le (tg0 hN))
               replace h16 := h16.mono (m240.le (tg0 hN))
               replace h17 := h17.mono (m240.le (tg0 hN))
               replace bx31 := bx31.mv m240 (tgN (by decide))
               replace h27 := h27.mono (m240.le (tg0 hN))
               replace h28 := h28.mono (m240.le (tg0 hN))
               replace h29 := h29.mono (m240.le (tg0 hN))
               replace h30 := h30.mono (m240.le (tg0 hN))
               replace h212 := h212.mono (m240.le (tg0 hN))
               replace h213 := h213.mono (m240.le (tg0 hN))
               exact L.nil (X.blkN (X.seqN (E.reg (L.bi Wt.no rfl rfl rfl rfl (L.mv Wt.no rfl rfl (L.nil (X.sub (ih164 _ (Option.some.inj hm).symm _ _ ⟨s239, a212, c212, a213, c213, m0, h1, h18, h15, h16, h17, h27, h28, h29, h30, h212, h213, bx19, bx31, bx41, rfl, rfl⟩) (Sub.rf rfl))))))))
             ·intro J241
              rcases ifS eb236 with ⟨hc, hm⟩ | ⟨hc, hm⟩
              ·exact L.know (d := 144) rfl hc (L.skip rfl rfl rfl rfl (L.skip rfl rfl rfl rfl (L.skip rfl rfl rfl rfl (L.skip rfl rfl rfl rfl (L.skip rfl rfl rfl rfl (L.skip rfl rfl rfl rfl (L.skip rfl rfl rfl rfl (L.skip rfl rfl rfl rfl (L.pkT Wt.no rfl rfl rfl rfl (L.sb (J241 _ _ ⟨s235, true, (Option.some.inj hm).symm, m0, h1, h18, h15, h16, h17, h27, h28, h29, h30, h50, h52, h212, h213, bx19, bx31, bx41, bx214, rfl, rfl⟩) rfl))))))))))
              ·refine L.know (d := 144) rfl hc (L.lg (j := 0) (cs := [.slice a15 r12.1.1.length c15, .int .i64 r12.1.2.1, .slice a16 r12.1.2.2.1.length c16, .slice a17 r12.1.2.2.2.length c17]) bx19.mem ag26 (Wt.mk rfl rfl) rfl rfl rfl rfl rfl (L.mv (Wt.mk rfl rfl) rfl rfl (L.lg (j := 0) (cs := [.int .i64 r24.1.1.1, .int .i64 r24.1.1.2.1, .int .i64 r24.1.1.2.2.1, .slice a27 r24.1.1.2.2.2.1.length c27, .slice a28 r24.1.1.2.2.2.2.length c28, .slice a29 r24.1.2.1.length c29, .slice a30 r24.1.2.2.1.length c30, .int .i64 r24.1.2.2.2]) bx31.mem ag34 (Wt.mk rfl rfl) rfl rfl rfl rfl rfl (L.lg (j := 0) (cs := [.slice a212 r209.1.1.length c212, .slice a213 r209.1.2.length c213]) bx214.mem ag39 (Wt.mk rfl rfl) rfl rfl rfl rfl rfl (L.mv (Wt.mk rfl rfl) rfl rfl (L.mv (Wt.mk rfl rfl) rfl rfl ?_))))))
               obtain ⟨r242, er242, hm⟩ := bindS hm
               refine L.ca cf15 rfl rfl (Wt.mk rfl rfl) rfl (m_overseerlaw53_shows_c (s := s235) (p0 := r12.1) (p1 := r12.2) (p2 := r24.1) (p3 := r209.1) (p4 := r178.1) (p5 := (st164.2.1 || r178.2)) (p6 := true) h15 h16 h17 h18 h27 h28 h29 h30 h212 h213 er242) rfl ?_
               rintro _ s243 m244 rfl
               replace m0 := m0.trans m244.no
               replace h18 := h18.mono (m244.le no_No)
               replace h1 := h1.mono (m244.le no_No)
               replace bx19 := bx19.mv m244 no_No
               replace h15 := h15.mono (m244.le no_No)
               replace h16 := h16.mono (m244.le no_No)
               replace h17 := h17.mono (m244.le no_No)
               replace bx31 := bx31.mv m244 no_No
               replace h27 := h27.mono (m244.le no_No)
               replace h28 := h28.mono (m244.le no_No)
               replace h29 := h29.mono (m244.le no_No)
               replace h30 := h30.mono (m244.le no_No)
               replace bx41 := bx41.mv m244 no_No
               replace h50 := h50.mono (m244.le no_No)
               replace h52 := h52.mono (m244.le no_No)
               replace bx214 := bx214.mv m244 no_No
               replace h212 := h212.mono (m244.le no_No)
               replace h213 := h213.mono (m244.le no_No)
               exact L.not (Wt.mk rfl rfl) rfl rfl (L.pkF Wt.no rfl rfl rfl rfl (L.sb (J241 _ _ ⟨s243, (!r242), (Option.some.inj hm).symm, m0, h1, h18, h15, h16, h17, h27, h28, h29, h30, h50, h52, h212, h213, bx19, bx31, bx41, bx214, rfl, rfl⟩) rfl))
            ·intro J245
             rcases ifS eb233 with ⟨hc, hm⟩ | ⟨hc, hm⟩
             ·exact L.know (d := 136) rfl hc (L.skip rfl rfl rfl rfl (L.skip rfl rfl rfl rfl (L.skip rfl rfl rfl rfl (L.skip rfl rfl rfl rfl (L.skip rfl rfl rfl rfl (L.skip rfl rfl rfl rfl (L.pkT Wt.no rfl rfl rfl rfl (L.sb (J245 _ _ ⟨s232, true, (Option.some.inj hm).symm, m0, h1, h18, h15, h16, h17, h27, h28, h29, h30, h50, h52, h212, h213, bx19, bx31, bx41, bx214, rfl, rfl⟩) rfl))))))))
             ·refine L.know (d := 136) rfl hc (L.fa fa39_1 (Wt.mk rfl rfl) rfl rfl (L.ld (j := 1) bx214.mem nag29 (Wt.mk rfl rfl) rfl rfl rfl rfl (L.fa fa39_1 (Wt.mk rfl rfl) rfl rfl (L.ld (j := 1) bx224.mem nag29 (Wt.mk rfl rfl) rfl rfl rfl rfl ?_))))
              obtain ⟨r246, er246, hm⟩ := bindS hm
              refine L.ca cf25 rfl rfl (Wt.mk rfl rfl) rfl (m_slices_Equal_bool_c (s := s232) (p0 := r209.1.2) (p1 := r219.1.2) h213 h223 er246) rfl ?_
              rintro _ s247 m248 rfl
              replace m0 := m0.trans m248.no
              replace h18 := h18.mono (m248.le no_No)
              replace h1 := h1.mono (m248.le no_No)
              replace bx19 := bx19.mv m248 no_No
              replace h15 := h15.mono (m248.le no_No)
              replace h16 := h16.mono (m248.le no_No)
              replace h17 := h17.mono (m248.le no_No)
              replace bx31 := bx31.mv m248 no_No
              replace h27 := h27.mono (m248.le no_No)
              replace h28 := h28.mono (m248.le no_No)
              replace h29 := h29.mono (m248.le no_No)
              replace h30 := h30.mono (m248.le no_No)
              replace bx41 := bx41.mv m248 no_No
              replace h50 := h50.mono (m248.le no_No)
              replace h52 := h52.mono (m248.le no_No)
              replace bx214 := bx214.mv m248 no_No
              replace h212 := h212.mono (m248.le no_No)
              replace h213 := h213.mono (m248.le no_No)
              exact L.not (Wt.mk rfl rfl) rfl rfl (L.pkF Wt.no rfl rfl rfl rfl (L.sb (J245 _ _ ⟨s247, (!r246), (Option.some.inj hm).symm, m0, h1, h18, h15, h16, h17, h27, h28, h29, h30, h50, h52, h212, h213, bx19, bx31, bx41, bx214, rfl, rfl⟩) rfl))
           ·intro J249
            rcases ifS eb230 with ⟨hc, hm⟩ | ⟨hc, hm⟩
            ·exact L.know (d := 128) rfl hc (L.skip rfl rfl rfl rfl (L.skip rfl rfl rfl rfl (L.skip rfl rfl rfl rfl (L.skip rfl rfl rfl rfl (L.skip rfl rfl rfl rfl (L.skip rfl rfl rfl rfl (L.pkT Wt.no rfl rfl rfl rfl (L.sb (J249 _ _ ⟨s227, true, (Option.some.inj hm).symm, m0, h1, h18, h15, h16, h17, h27, h28, h29, h30, h50, h52, h212, h213, h222, h223, bx19, bx31, bx41, bx214, bx224, rfl, rfl⟩) rfl))))))))
            ·refine L.know (d := 128) rfl hc (L.fa fa39_0 (Wt.mk rfl rfl) rfl rfl (L.ld (j := 0) bx214.mem nag29 (Wt.mk rfl rfl) rfl rfl rfl rfl (L.fa fa39_0 (Wt.mk rfl rfl) rfl rfl (L.ld (j := 0) bx224.mem nag29 (Wt.mk rfl rfl) rfl rfl rfl rfl ?_))))
             obtain ⟨r250, er250, hm⟩ := bindS hm
             refine L.ca cf25 rfl rfl (Wt.mk rfl rfl) rfl (m_slices_Equal_bool_c (s := s227) (p0 := r209.1.1) (p1 := r219.1.1) h212 h222 er250) rfl ?_
             rintro _ s251 m252 rfl
             replace m0 := m0.trans m252.no
             replace h18 := h18.mono (m252.le no_No)
             replace h1 := h1.mono (m252.le no_No)
             replace bx19 := bx19.mv m252 no_No
             replace h15 := h15.mono (m252.le no_No)
             replace h16 := h16.mono (m252.le no_No)
             replace h17 := h17.mono (m252.le no_No)
             replace bx31 := bx31.mv m252 no_No
             replace h27 := h27.mono (m252.le no_No)
             replace h28 := h28.mono (m252.le no_No)
             replace h29 := h29.mono (m252.le no_No)
             replace h30 := h30.mono (m252.le no_No)
             replace bx41 := bx41.mv m252 no_No
             replace h50 := h50.mono (m252.le no_No)
             replace h52 := h52.mono (m252.le no_No)
             replace bx214 := bx214.mv m252 no_No
             replace h212 := h212.mono (m252.le no_No)
             replace h213 := h213.mono (m252.le no_No)
             replace bx224 := bx224.mv m252 no_No
             replace h222 := h222.mono (m252.le no_No)
             replace h223 := h223.mono (m252.le no_No)
             exact L.not (Wt.mk rfl rfl) rfl rfl (L.pkF Wt.no rfl rfl rfl rfl (L.sb (J249 _ _ ⟨s251, (!r250), (Option.some.inj hm).symm, m0, h1, h18, h15, h16, h17, h27, h28, h29, h30, h50, h52, h212, h213, h222, h223, bx19, bx31, bx41, bx214, bx224, rfl, rfl⟩) rfl))
          ·intro J253
           rcases Bool.eq_false_or_eq_true (r209.2 != 0) with hc | hc
           ·exact L.know (d := 124) rfl hc (L.skip rfl rfl rfl rfl (L.skip rfl rfl rfl rfl (L.pkT Wt.no rfl rfl rfl rfl (L.sb (J253 _ _ ⟨true, (orT hc).symm, rfl, rfl⟩) rfl))))
           ·exact L.know (d := 124) rfl hc (L.mv (Wt.mk rfl rfl) rfl rfl (L.bi (Wt.mk rfl rfl) rfl rfl rfl rfl (L.pkF Wt.no rfl rfl rfl rfl (L.sb (J253 _ _ ⟨(r219.2 != 0), (orF hc).symm, rfl, rfl⟩) rfl))))
         intro K254
         refine E.cut (x := .ret) (fun e w => ∃ (s256 : Sig) (u255 : Unit), o205 = .inr (u255) ∧ Mv (Up N No) s s256 ∧ e = [(4, .bool false)] ∧ w = s256.w) ?_ ?_
         ·rintro _ _ ⟨s256, u255, rfl, m0, rfl, rfl⟩
          dsimp only at hm
          refine X.blkR (X.seqR (X.blkR (X.seqR (X.seqR ?_))))
          have hx := ho164 _ (Option.some.inj hm).symm
          exact X.sub (K171 _ _ ⟨s256, (), hx.symm, m0, rfl, rfl⟩) (Sub.rf rfl)
         intro K257
         refine E.iter (fun (st205 : Int) (e : List (Nat × Value)) (w : World) => ∃ (s206 : Sig), Mv (Up N No) s s206 ∧ RdL (rK .i64) s206 a15 c15 r12.1.1 ∧ RdL rB s206 a185 c185 r182.1 ∧ RdL (rK .i64) s206 a177 c177 r174 ∧ RdL (rK .u8) s206 a1 c1 p1 ∧ RdL (rK .i64) s206 a18 c18 r12.2 ∧ RdL (rK .i64) s206 a16 c16 r12.1.2.2.1 ∧ RdL (rP (rK .i64) (rP (rK .i64) (rK .i64))) s206 a17 c17 r12.1.2.2.2 ∧ RdL rB s206 a27 c27 r24.1.1.2.2.2.1 ∧ RdL (rP (rK .i64) (rK .i64)) s206 a28 c28 r24.1.1.2.2.2.2 ∧ RdL (rK .i64) s206 a29 c29 r24.1.2.1 ∧ RdL (rK .i64) s206 a30 c30 r24.1.2.2.1 ∧ RdL rB s206 a50 c50 st164.2.2.2.1 ∧ RdL rB s206 a52 c52 st164.2.2.2.2 ∧ Bx s206 (N + 1) b19 #[.slice a15 r12.1.1.length c15, .int .i64 r12.1.2.1, .slice a16 r12.1.2.2.1.length c16, .slice a17 r12.1.2.2.2.length c17] 26 ∧ Bx s206 (N + 2) b31 #[.int .i64 r24.1.1.1, .int .i64 r24.1.1.2.1, .int .i64 r24.1.1.2.2.1, .slice a27 r24.1.1.2.2.2.1.length c27, .slice a28 r24.1.1.2.2.2.2.length c28, .slice a29 r24.1.2.1.length c29, .slice a30 r24.1.2.2.1.length c30, .int .i64 r24.1.2.2.2] 34 ∧ Bx s206 (N + 3) b41 #[.slice a50 st164.2.2.2.1.length c50, .slice a52 st164.2.2.2.2.length c52] 39 ∧ e = [(93, .int .i64 st205), (92, .int .i64 (r12.1.1.length : Int)), (91, .slice a15 r12.1.1.length c15), (17, .slice a185 r182.1.length c185), (12, .bool (st164.2.1 || r178.2)), (11, .int .i64 r178.1), (15, .slice a177 r174.length c177), (56, .int .i64 st164.1), (55, .int .i64 (p1.length : Int)), (54, .slice a1 p1.length c1), (9, .pointer (some ⟨b41, 0, none⟩)), (7, .pointer (some ⟨b31, 0, none⟩)), (6, .slice a18 r12.2.length c18), (5, .pointer (some ⟨b19, 0, none⟩))] ∧ w = s206.w) eo205 ⟨s183, m0, h15, h185, h177, h1, h18, h16, h17, h27, h28, h29, h30, h50, h52, bx19, bx31, bx41, rfl, rfl⟩ (Sub.rf rfl) ?_
         rintro st205 res205 hm ih205 ho205 _ _ ⟨s206, m0, h15, h185, h177, h1, h18, h16, h17, h27, h28, h29, h30, h50, h52, bx19, bx31, bx41, rfl, rfl⟩
         unfold m_overseerlaw53_GenerateScans_l2 at hm
         refine E.seq (E.reg (L.bi Wt.no rfl rfl rfl rfl (L.nil (X.seqN (E.seq ?_)))))
         rcases ifS hm with ⟨hc, hm⟩ | ⟨hc, hm⟩
         ·refine E.cT rfl hc (E.skip (X.seqN (E.seq (E.block (E.seq (E.reg (L.mv Wt.no rfl rfl ?_)))))))
          obtain ⟨x258, ex258, hm⟩ := bindS hm
          refine L.ix (r := (rK .i64)) sl23 h15 Wt.no rfl rfl ex258 rfl fun b259 o259 cc259 me259 rd259 => ?_
          obtain rfl := rd259
          refine L.ld (j := 0) me259 nag3 Wt.no rfl rfl rfl rfl (L.as Wt.no rfl rfl (L.as Wt.no rfl rfl (L.nil (X.seqN (E.seq ?_)))))
          obtain ⟨x263, ex263, hm⟩ := bindS hm
          obtain ⟨r269, er269, hm⟩ := bindS hm
          refine E.draw [[], [], [0, 1], [0, 1, 2], [], [], [4, 5], [0, 1, 2, 3, 4, 5, 6]] (fun D e sx => Mv No s206 sx ∧ Sub [(20, .int .i64 x258), (19, .int .i64 st205), (93, .int .i64 st205), (92, .int .i64 (r12.1.1.length : Int)), (91, .slice a15 r12.1.1.length c15), (17, .slice a185 r182.1.length c185), (12, .bool (st164.2.1 || r178.2)), (11, .int .i64 r178.1), (15, .slice a177 r174.length c177), (56, .int .i64 st164.1), (55, .int .i64 (p1.length : Int)), (54, .slice a1 p1.length c1), (9, .pointer (some ⟨b41, 0, none⟩)), (7, .pointer (some ⟨b31, 0, none⟩)), (6, .slice a18 r12.2.length c18), (5, .pointer (some ⟨b19, 0, none⟩))] e ∧ (D 0 = true → (Env.get e 98 = some (.slice a185 r182.1.length c185))) ∧ (D 1 = true → (Env.get e 99 = some (.int .i64 st205))) ∧ (D 2 = true → (∃ (b264 : Nat) (o264 : Nat), Env.get e 100 = some (.pointer (some ⟨b264, o264, none⟩)) ∧ Mem sx 0 b264 o264 [.bool x263])) ∧ (D 3 = true → (Env.get e 101 = some (.bool x263))) ∧ (D 4 = true → (Env.get e 102 = some (.slice a177 r174.length c177))) ∧ (D 5 = true → (Env.get e 103 = some (.int .i64 x258))) ∧ (D 6 = true → (Env.get e 104 = some (.bool r269))) ∧ (D 7 = true → (Env.get e 105 = some (.bool (x263 != r269))))) (by kernel_rfl) (by kernel_rfl) (by kernel_rfl) ?_ ?_ ?_
          ·intro sz mz
           exact ⟨mz, (Sub.rf rfl), nofun, nofun, nofun, nofun, nofun, nofun, nofun, nofun⟩
          ·refine ⟨?_, ?_, ?_, ?_, ?_, ?_, ?_, ?_, trivial⟩
           ·rintro D e s260 ⟨im, ib, i0, t_⟩ hk hf ha
            have kn : Kn e [(17, .slice a185 r182.1.length c185)] := ⟨(ib 17 _ rfl), trivial⟩
            exact L.kns _ kn (L.mv Wt.no rfl rfl (L.nil (X.dk kn ⟨im, Sub.fresh ib rfl, fun _ => rfl, t_⟩)))
           ·rintro D e s261 ⟨im, ib, i0, i1, t_⟩ hk hf ha
            have kn : Kn e [(19, .int .i64 st205)] := ⟨(ib 19 _ rfl), trivial⟩
            exact L.kns _ kn (L.mv Wt.no rfl rfl (L.nil (X.dk kn ⟨im, Sub.fresh ib rfl, i0, fun _ => rfl, t_⟩)))
           ·rintro D e s262 ⟨im, ib, i0, i1, i2, t_⟩ hk hf ha
            obtain ⟨d0, d1, -⟩ := ha
            have g0_ := i0 d0
            have g1_ := i1 d1
            have h185 := h185.mono (im.le no_No)
            have kn : Kn e [(98, .slice a185 r182.1.length c185), (99, .int .i64 st205)] := ⟨g0_, g1_, trivial⟩
            refine L.kns _ kn (L.ix (r := rB) sl29 h185 Wt.no rfl rfl ex263 rfl fun b264 o264 cc264 me264 rd264 => ?_)
            obtain rfl := rd264
            exact L.nil (X.dk kn ⟨im, Sub.fresh ib rfl, i0, i1, fun _ => ⟨b264, o264, rfl, me264⟩, t_⟩)
           ·rintro D e s265 ⟨im, ib, i0, i1, i2, i3, t_⟩ hk hf ha
            obtain ⟨d0, d1, d2, -⟩ := ha
            obtain ⟨b264, o264, g2_, me264⟩ := i2 d2
            have kn : Kn e [(100, .pointer (some ⟨b264, o264, none⟩))] := ⟨g2_, trivial⟩
            exact L.kns _ kn (L.ld (j := 0) me264 nag4 Wt.no rfl rfl rfl rfl (L.nil (X.dk kn ⟨im, Sub.fresh ib rfl, i0, i1, i2, fun _ => rfl, t_⟩)))
           ·rintro D e s266 ⟨im, ib, i0, i1, i2, i3, i4, t_⟩ hk hf ha
            have kn : Kn e [(15, .slice a177 r174.length c177)] := ⟨(ib 15 _ rfl), trivial⟩
            exact L.kns _ kn (L.mv Wt.no rfl rfl (L.nil (X.dk kn ⟨im, Sub.fresh ib rfl, i0, i1, i2, i3, fun _ => rfl, t_⟩)))
           ·rintro D e s267 ⟨im, ib, i0, i1, i2, i3, i4, i5, t_⟩ hk hf ha
            have kn : Kn e [(20, .int .i64 x258)] := ⟨(ib 20 _ rfl), trivial⟩
            exact L.kns _ kn (L.mv Wt.no rfl rfl (L.nil (X.dk kn ⟨im, Sub.fresh ib rfl, i0, i1, i2, i3, i4, fun _ => rfl, t_⟩)))
           ·rintro D e s268 ⟨im, ib, i0, i1, i2, i3, i4, i5, i6, i7⟩ hk hf ha
            obtain ⟨d4, d5, -⟩ := ha
            have g4_ := i4 d4
            have g5_ := i5 d5
            have h177 := h177.mono (im.le no_No)
            have kn : Kn e [(102, .slice a177 r174.length c177), (103, .int .i64 x258)] := ⟨g4_, g5_, trivial⟩
            refine L.kns _ kn (L.ca cf23 rfl rfl Wt.no rfl (m_slices_Contains_int_c (s := s268) (p0 := r174) (p1 := x258) h177 er269) rfl ?_)
            rintro _ s270 m271 rfl
            exact L.nil (X.dk kn ⟨im.trans m271.no, Sub.fresh ib rfl, i0, i1, fun z => let ⟨b264, o264, q, me264⟩ := i2 z; ⟨b264, o264, q, (me264.mv m271 no_No)⟩, i3, i4, i5, fun _ => rfl, i7⟩)
           ·rintro D e s272 ⟨im, ib, i0, i1, i2, i3, i4, i5, i6, i7⟩ hk hf ha
            obtain ⟨d0, d1, d2, d3, d4, d5, d6, -⟩ := ha
            have g3_ := i3 d3
            have g6_ := i6 d6
            have kn : Kn e [(101, .bool x263), (104, .bool r269)] := ⟨g3_, g6_, trivial⟩
            exact L.kns _ kn (L.bne Try.underlying4 Wt.no rfl rfl rfl (L.nil (X.dk kn ⟨im, Sub.fresh ib rfl, i0, i1, i2, i3, i4, i5, i6, fun _ => rfl⟩)))
          ·rintro D e s273 hD ⟨im, ib, i0, i1, i2, i3, i4, i5, i6, i7⟩
           have g7_ := i7 (hD 7 rfl)
           have h15 := h15.mono (im.le no_No)
           have h185 := h185.mono (im.le no_No)
           have h177 := h177.mono (im.le no_No)
           have h1 := h1.mono (im.le no_No)
           have bx41 := bx41.mv im no_No
           have h50 := h50.mono (im.le no_No)
           have h52 := h52.mono (im.le no_No)
           have bx31 := bx31.mv im no_No
           have h27 := h27.mono (im.le no_No)
           have h28 := h28.mono (im.le no_No)
           have h29 := h29.mono (im.le no_No)
           have h30 := h30.mono (im.le no_No)
           have h18 := h18.mono (im.le no_No)
           have bx19 := bx19.mv im no_No
           have h16 := h16.mono (im.le no_No)
           have h17 := h17.mono (im.le no_No)
           have m0 := m0.trans im.no
           refine X.sub (e' := [(105, .bool (x263 != r269)), (93, .int .i64 st205), (92, .int .i64 (r12.1.1.length : Int)), (91, .slice a15 r12.1.1.length c15), (17, .slice a185 r182.1.length c185), (12, .bool (st164.2.1 || r178.2)), (11, .int .i64 r178.1), (15, .slice a177 r174.length c177), (56, .int .i64 st164.1), (55, .int .i64 (p1.length : Int)), (54, .slice a1 p1.length c1), (9, .pointer (some ⟨b41, 0, none⟩)), (7, .pointer (some ⟨b31, 0, none⟩)), (6, .slice a18 r12.2.length c18), (5, .pointer (some ⟨b19, 0, none⟩))]) ?_ (Sub.cons g7_ (Sub.cons (ib 93 _ rfl) (Sub.cons (ib 92 _ rfl) (Sub.cons (ib 91 _ rfl) (Sub.cons (ib 17 _ rfl) (Sub.cons (ib 12 _ rfl) (Sub.cons (ib 11 _ rfl) (Sub.cons (ib 15 _ rfl) (Sub.cons (ib 56 _ rfl) (Sub.cons (ib 55 _ rfl) (Sub.cons (ib 54 _ rfl) (Sub.cons (ib 9 _ rfl) (Sub.cons (ib 7 _ rfl) (Sub.cons (ib 6 _ rfl) (Sub.cons (ib 5 _ rfl) Sub.nil)))))))))))))))
           refine X.seqN ?_
           rcases ifS hm with ⟨hc, hm⟩ | ⟨hc, hm⟩
           ·refine E.cT rfl hc (E.seq (E.reg (L.as Wt.no rfl rfl (L.nil (X.seqN (E.ret (X.blkR (X.seqR (X.seqR ?_)))))))))
            have hx := ho205 _ (Option.some.inj hm).symm
            exact X.sub (K257 _ _ ⟨s273, (), hx.symm, m0, rfl, rfl⟩) (Sub.rf rfl)
           ·exact E.cF rfl hc (E.skip (X.blkN (X.seqN (E.reg (L.bi Wt.no rfl rfl rfl rfl (L.mv Wt.no rfl rfl (L.nil (X.sub (ih205 _ (Option.some.inj hm).symm _ _ ⟨s273, m0, h15, h185, h177, h1, h18, h16, h17, h27, h28, h29, h30, h50, h52, bx19, bx31, bx41, rfl, rfl⟩) (Sub.rf rfl)))))))))
         ·refine E.cF rfl hc (E.exit (X.seqX (X.seqX ?_)))
          have hx := ho205 _ (Option.some.inj hm).symm
          exact X.sub (K254 _ _ ⟨s206, (), hx.symm, m0, h185, h177, h1, h18, h15, h16, h17, h27, h28, h29, h30, h50, h52, bx19, bx31, bx41, rfl, rfl⟩) (Sub.rf rfl)
       ·intro J274
        rcases Bool.eq_false_or_eq_true (r182.2 != 0) with hc | hc
        ·exact L.know (d := 82) rfl hc (L.skip rfl rfl rfl rfl (L.skip rfl rfl rfl rfl (L.skip rfl rfl rfl rfl (L.skip rfl rfl rfl rfl (L.skip rfl rfl rfl rfl (L.skip rfl rfl rfl rfl (L.pkT Wt.no rfl rfl rfl rfl (L.sb (J274 _ _ ⟨true, (orT hc).symm, rfl, rfl⟩) rfl))))))))
        ·exact L.know (d := 82) rfl hc (L.mv (Wt.mk rfl rfl) rfl rfl (L.len sl29 (Wt.mk rfl rfl) rfl rfl (L.fa fa26_0 (Wt.mk rfl rfl) rfl rfl (L.ld (j := 0) bx19.mem nag23 (Wt.mk rfl rfl) rfl rfl rfl rfl (L.len sl23 (Wt.mk rfl rfl) rfl rfl (L.bi (Wt.mk rfl rfl) rfl rfl rfl rfl (L.pkF Wt.no rfl rfl rfl rfl (L.sb (J274 _ _ ⟨((r182.1.length : Int) != (r12.1.1.length : Int)), (orF hc).symm, rfl, rfl⟩) rfl))))))))
      ·intro J275
       rcases Bool.eq_false_or_eq_true st164.2.1 with hc | hc
       ·exact L.know (d := 71) rfl hc (L.skip rfl rfl rfl rfl (L.pkT Wt.no rfl rfl rfl rfl (L.sb (J275 _ _ ⟨true, (orT hc).symm, rfl, rfl⟩) rfl)))
       ·exact L.know (d := 71) rfl hc (L.mv (Wt.mk rfl rfl) rfl rfl (L.pkF Wt.no rfl rfl rfl rfl (L.sb (J275 _ _ ⟨r178.2, (orF hc).symm, rfl, rfl⟩) rfl)))
     ·refine E.cF rfl hc (E.exit (X.seqX (X.seqX ?_)))
      have hx := ho164 _ (Option.some.inj hm).symm
      exact X.sub (K168 _ _ ⟨s165, (), hx.symm, m0, rfl, rfl⟩) Sub.nil
 ·intro J276
  rcases Bool.eq_false_or_eq_true (!r5) with hc | hc
  ·exact L.know (d := 27) rfl hc (L.skip rfl rfl rfl rfl (L.skip rfl rfl rfl rfl (L.skip rfl rfl rfl rfl (L.pkT Wt.no rfl rfl rfl rfl (L.sb (J276 _ _ ⟨true, (orT hc).symm, rfl, rfl⟩) rfl)))))
  ·exact L.know (d := 27) rfl hc (L.mv (Wt.mk rfl rfl) rfl rfl (L.len sl52 (Wt.mk rfl rfl) rfl rfl (L.bi (Wt.mk rfl rfl) rfl rfl rfl rfl (L.pkF Wt.no rfl rfl rfl rfl (L.sb (J276 _ _ ⟨(decide ((p1.length : Int) > 8)), (orF hc).symm, rfl, rfl⟩) rfl)))))

end Go.Proofs.Ytkkemchihllklaa

namespace Go.Proofs.Ytkkemchihllklaa
open Go Go.RowKit

theorem getD_at {xs : List Int} {i : Nat} (h : i < xs.length) : xs.getD i 0 = xs[i] := by
  rw [List.getD_eq_getElem?_getD, List.getElem?_eq_getElem h]; rfl
/-- What the walks of chapter 3 ask of an automaton. -/
structure A3 (a : Aut) (n : Nat) : Prop where
  n1 : n ≤ 4096
  es : ∀ x ∈ a.es, 0 ≤ x.t ∧ x.t < (n : Int)
  el : a.es.length ≤ 1000000
  al : a.al.length ≤ 32
  ml : a.ms.length ≤ 1000000
section
variable {a : Aut} {n : Nat}
theorem found_row (h : A3 a n) {i : Nat} {out y : List Int} (hq : QOk n out) (hi : i < out.length) : iter (m_overseerref03_Found_l2 (autP a) ((i : Int), y)) (0, out) = some (a.al.foldl (c3In a.es (out.getD i 0)) out) := by
  have hel := h.el; have hal := h.al; have hn1 := h.n1
  refine (iter_foldl (f := m_overseerref03_Found_l2 (autP a) ((i : Int), y)) (xs := a.al) (fun k s => ((k : Int), s)) (c3In a.es (out.getD i 0)) (fun s => s) (fun _ s => QOk n s ∧ ∃ r, s = out ++ r) (by omega) (fun k hk s hp => ?_) (fun s hp => ?_) ⟨hq, [], (List.append_nil _).symm⟩).1
  · obtain ⟨hs, r, rfl⟩ := hp
    obtain ⟨h1, ⟨r1, h2⟩, -⟩ := c3In_fold h.es (s := out.getD i 0) [a.al[k]] _ hs
    rw [List.foldl_cons, List.foldl_nil] at h1 h2
    refine ⟨?_, h1, r ++ r1, by rw [h2, List.append_assoc]⟩
    have hlen := hs.len
    have hil : i < (out ++ r).length := by rw [List.length_append]; omega
    have hr := hq.rng out[i] (List.getElem_mem hi)
    have hj : ∀ l : List Int, m_overseerref03_Found_j2 ((k : Int), out ++ r) l = some (.inl (((k + 1 : Nat) : Int), l)) := fun l => by
      rw [m_overseerref03_Found_j2]; dsimp only; rw [nxt (by omega)]
    rw [m_overseerref03_Found_l2]
    dsimp only
    rw [if_pos (show decide ((k : Int) < ((autP a).1.length : Int)) = true from ct_lt hk), idx_at hil, Option.bind_some, show idx (autP a).1 (k : Int) = some a.al[k] from idx_at hk, Option.bind_some, List.getElem_append_left hi,
      show out[i] = ((out[i].toNat : Nat) : Int) by omega, rstep_eq (by omega) (fun x hx => (h.es x hx).1), Option.bind_some]
    rw [c3In, getD_at hi, stF]
    cases hst : stepF a.es out[i].toNat a.al[k] with
    | none => exact hj _
    | some t =>
      dsimp only
      rw [if_pos (by simp), rhas_eq (by omega), Option.bind_some, Option.bind_some]
      cases hb : hasB (out ++ r) (t : Int) with
      | true => rw [if_neg (by simp), if_pos rfl, hj]
      | false => rw [if_pos (by simp), if_neg (by simp), app_eq (by rw [List.length_cons, List.length_nil]; omega), Option.bind_some, hj]
  · rw [m_overseerref03_Found_l2]
    dsimp only
    rw [if_neg (show ¬ decide ((a.al.length : Int) < ((autP a).1.length : Int)) = true from ct_ge)]
theorem found_go (h : A3 a n) : ∀ (f i : Nat) (out : List Int), QOk n out → n + 1 ≤ i + f → iterF (m_overseerref03_Found_l1 (autP a)) (f + 1) ((i : Int), out) = some (c3Loop a.es a.al f i out)
  | 0, i, out, hq, hf => by
    have := hq.len
    rw [iterF_succ, m_overseerref03_Found_l1]
    dsimp only
    rw [if_neg (by simp; omega)]
    rfl
  | f + 1, i, out, hq, hf => by
    have hl := hq.len
    have hn1 := h.n1
    rw [iterF_succ, m_overseerref03_Found_l1, c3Loop]
    dsimp only
    by_cases hi : i < out.length
    · rw [if_pos (by simpa using hi), if_pos hi, found_row h hq hi, Option.bind_some, nxt (by omega)]
      exact found_go h f (i + 1) _ (c3In_fold h.es a.al out hq).1 (by omega)
    · rw [if_neg (by simpa using hi), if_neg hi]
theorem found_eq (h : A3 a n) (hn : a.n = n) (h0 : 0 < n) : m_overseerref03_Found (autP a) = some (foundL a) ∧ QOk n (foundL a) := by
  have hn1 := h.n1
  have hq0 : QOk n [0] := ⟨by simp, fun s hs => by rw [List.mem_singleton.1 hs]; omega⟩
  have hg := found_go h (n + 1) 0 [0] hq0 (by omega)
  have hfd : foundL a = c3Loop a.es a.al (n + 1) 0 [0] := by rw [foundL, if_neg (by omega), hn, Int.toNat_natCast]
  refine ⟨?_, ?_⟩
  · rw [m_overseerref03_Found, if_pos (show decide ((autP a).2.1 > 0) = true from decide_eq_true (show a.n > 0 by omega)), app_eq (by simp), Option.bind_some, m_overseerref03_Found_j1, show iter (m_overseerref03_Found_l1 (autP a)) (0, ([] : List Int) ++ [0]) = _ from iter_of (by omega) hg, hfd]
    rfl
  · rw [hfd]
    exact (c3_loop h.es (n + 1) 0 [0] hq0 (fun k hk => absurd hk (Nat.not_lt_zero _)) (by omega)).1
def c3Put (a : Aut) (q : List Int) (i : Nat) (out : List (Int × Int × Int)) (e : Int) : List (Int × Int × Int) := match stepF a.es (q.getD i 0).toNat e with
  | some t => out ++ [((i : Int), e, idxI q (t : Int))]
  | none => out
theorem c3Put_fold (q : List Int) (i : Nat) : ∀ (al : List Int) (out : List (Int × Int × Int)), al.foldl (c3Put a q i) out = out ++ (c3Row ⟨al, a.n, a.ms, a.es⟩ q i).map edP
  | [], out => by simp [c3Row]
  | e :: al, out => by
    rw [List.foldl_cons, c3Put_fold q i al, c3Put, c3Row, c3Row]
    dsimp only
    rw [List.filterMap_cons]
    generalize stepF a.es (q.getD i 0).toNat e = r
    cases r <;> simp [edP]
theorem c3Row_len (q : List Int) (i : Nat) : (c3Row a q i).length ≤ a.al.length := List.length_filterMap_le _ _
theorem rows_len (q : List Int) : ∀ m, ((List.range m).flatMap (c3Row a q)).length ≤ m * a.al.length
  | 0 => by simp
  | m + 1 => by
    have h1 := rows_len q m
    have h2 := c3Row_len (a := a) q m
    rw [List.range_succ, List.flatMap_append, List.length_append, Nat.succ_mul]
    simp only [List.flatMap_cons, List.flatMap_nil, List.append_nil]
    omega
theorem canon_row (h : A3 a n) {q : List Int} (hq : QOk n q) {i : Nat} (hi : i < q.length) {ms : List Int} {x y : List (Int × Int × Int)} (hx : x.length ≤ 4000000) : iter (m_overseerref03_Canonical_l2 (autP a) q ((i : Int), ms, y)) (0, x) = some (x ++ (c3Row a q i).map edP) := by
  have hel := h.el; have hal := h.al; have hn1 := h.n1; have hql := hq.len
  have hr := hq.rng q[i] (List.getElem_mem hi)
  refine ((iter_foldl (f := m_overseerref03_Canonical_l2 (autP a) q ((i : Int), ms, y)) (xs := a.al) (fun k s => ((k : Int), s)) (c3Put a q i) (fun s => s) (fun k s => s.length ≤ x.length + k) (by omega) (fun k hk s hp => ?_) (fun s hp => ?_) (Nat.le_refl _)).1).trans (by rw [c3Put_fold])
  · have hj : ∀ l : List (Int × Int × Int), m_overseerref03_Canonical_j2 ((k : Int), s) l = some (.inl (((k + 1 : Nat) : Int), l)) := fun l => by
      rw [m_overseerref03_Canonical_j2]; dsimp only; rw [nxt (by omega)]
    rw [m_overseerref03_Canonical_l2, c3Put, getD_at hi]
    dsimp only
    rw [if_pos (show decide ((k : Int) < ((autP a).1.length : Int)) = true from ct_lt hk), idx_at hi, Option.bind_some, show idx (autP a).1 (k : Int) = some a.al[k] from idx_at hk, Option.bind_some,
      show q[i] = ((q[i].toNat : Nat) : Int) by omega, rstep_eq (by omega) (fun x hx => (h.es x hx).1), Option.bind_some, stF, Int.toNat_natCast]
    cases hst : stepF a.es q[i].toNat a.al[k] with
    | none => exact ⟨hj _, by dsimp only; omega⟩
    | some t =>
      dsimp only
      rw [if_pos (by simp), Option.bind_some, rindex_eq (by omega), Option.bind_some, app_eq (by rw [List.length_cons, List.length_nil]; omega), Option.bind_some, hj]
      exact ⟨rfl, by rw [List.length_append, List.length_cons, List.length_nil]; omega⟩
  · rw [m_overseerref03_Canonical_l2]
    dsimp only
    rw [if_neg (show ¬ decide ((a.al.length : Int) < ((autP a).1.length : Int)) = true from ct_ge)]
/-- The canonical form. -/
theorem canon_eq (h : A3 a n) (hn : a.n = n) (h0 : 0 < n) : m_overseerref03_Canonical (autP a) = some (autP (canon3 a)) := by
  have hel := h.el; have hal := h.al; have hn1 := h.n1; have hml := h.ml
  obtain ⟨hf, hq⟩ := found_eq h hn h0
  have hql := hq.len
  generalize hqq : foundL a = q at hf hq hql
  have hi := iter_run (f := m_overseerref03_Canonical_l1 (autP a) q) (fun i => ((i : Int), (((List.range i).filter fun i => hasB a.ms (q.getD i 0)).map fun (i : Nat) => (i : Int)), ((List.range i).flatMap (c3Row a q)).map edP)) q.length (by omega) (o := (rrMs a.ms q, ((List.range q.length).flatMap (c3Row a q)).map edP)) (fun i hi => by
    have hrl := rows_len (a := a) q i
    have hmul : i * a.al.length ≤ 4096 * 32 := Nat.mul_le_mul (by omega) hal
    have hfl : ((List.range i).filter fun i => hasB a.ms (q.getD i 0)).length ≤ i := Nat.le_trans (List.length_filter_le ..) (by simp)
    have hr := hq.rng q[i] (List.getElem_mem hi)
    have hj : ∀ (m1 : List Int), m_overseerref03_Canonical_j1 (autP a) q ((i : Int), (((List.range i).filter fun i => hasB a.ms (q.getD i 0)).map fun (i : Nat) => (i : Int)), ((List.range i).flatMap (c3Row a q)).map edP) m1 = some (.inl (((i + 1 : Nat) : Int), m1, ((List.range (i + 1)).flatMap (c3Row a q)).map edP)) := fun m1 => by
      rw [m_overseerref03_Canonical_j1]
      dsimp only
      rw [canon_row h hq hi (by rw [List.length_map]; omega), Option.bind_some, nxt (by omega), List.range_succ, List.flatMap_append, List.map_append]
      simp only [List.flatMap_cons, List.flatMap_nil, List.append_nil]
    rw [m_overseerref03_Canonical_l1]
    dsimp only
    rw [if_pos (ct_lt hi), idx_at hi, Option.bind_some, show m_overseerref03_has (autP a).2.2.1 q[i] = some (hasB a.ms q[i]) from rhas_eq (xs := a.ms) (by omega), Option.bind_some]
    cases hb : hasB a.ms q[i] with
    | true =>
      rw [if_pos rfl, app_eq (by rw [List.length_map, List.length_cons, List.length_nil]; omega), Option.bind_some, hj, List.range_succ, List.filter_append, List.filter_cons_of_pos (by rw [getD_at hi, hb]), List.map_append]
      rfl
    | false =>
      rw [if_neg (by simp), hj, List.range_succ, List.filter_append, List.filter_cons_of_neg (by rw [getD_at hi, hb]; simp), List.filter_nil, List.append_nil]) (by
    rw [m_overseerref03_Canonical_l1]
    dsimp only
    rw [if_neg ct_ge]
    rfl)
  rw [m_overseerref03_Canonical, hf, Option.bind_some, show m_overseerref03_Empty (autP a).1 = some (a.al, 0, [], []) from rempty_eq (xs := a.al) (by omega), Option.bind_some, show iter (m_overseerref03_Canonical_l1 (autP a) q) (0, (a.al, (0 : Int), ([] : List Int), ([] : List (Int × Int × Int))).2.2) = _ from hi, Option.bind_some]
  rw [canon3, autP, hqq]
end
/-- The 25 cells of a graph. -/
def cells25 (g : (Int × Int × Int × Int × Int) × (Int × Int × Int × Int × Int) × (Int × Int × Int × Int × Int) × (Int × Int × Int × Int × Int) × (Int × Int × Int × Int × Int)) : List Int :=
  [g.1.1, g.1.2.1, g.1.2.2.1, g.1.2.2.2.1, g.1.2.2.2.2, g.2.1.1, g.2.1.2.1, g.2.1.2.2.1, g.2.1.2.2.2.1, g.2.1.2.2.2.2, g.2.2.1.1, g.2.2.1.2.1, g.2.2.1.2.2.1, g.2.2.1.2.2.2.1, g.2.2.1.2.2.2.2, g.2.2.2.1.1, g.2.2.2.1.2.1, g.2.2.2.1.2.2.1, g.2.2.2.1.2.2.2.1, g.2.2.2.1.2.2.2.2, g.2.2.2.2.1, g.2.2.2.2.2.1, g.2.2.2.2.2.2.1, g.2.2.2.2.2.2.2.1, g.2.2.2.2.2.2.2.2]
/-- The automaton of a graph is right. -/
theorem make3_ex {ev : List Int} (ie : Inc ev) (he : ∀ x ∈ ev, 0 ≤ x ∧ x < 32) (hel : ev.length ≤ 5) {s m : Int} {g : (Int × Int × Int × Int × Int) × (Int × Int × Int × Int × Int) × (Int × Int × Int × Int × Int) × (Int × Int × Int × Int × Int) × (Int × Int × Int × Int × Int)} (hs : 0 ≤ s ∧ s < 250) (hg : ∀ y ∈ cells25 g, 0 ≤ y ∧ y < 256) :
    ∃ a : Aut, m_overseerlaw03_Make ev (s, m, g) = some (autP a) ∧ a.err = 0 ∧ 1 ≤ a.n ∧ a.n ≤ 5 ∧ Sorted a.es ∧ a.al = ev ∧ a.es.length ≤ 25 ∧ a.ms.length ≤ 5 := by
  obtain ⟨n, hn0, hn5, hn⟩ : ∃ n : Nat, 0 < n ∧ n ≤ 5 ∧ W (1 + W (s.tmod 5)) = (n : Int) := by
    refine ⟨(1 + s % 5).toNat, by omega, by omega, ?_⟩
    rw [Int.tmod_eq_emod_of_nonneg hs.1, W_of (x := s % 5) (by omega) (by omega), W_of (by omega) (by omega)]
    omega
  have hn2 : W ((n : Int) + 2) = ((n + 2 : Nat) : Int) := by rw [show (n : Int) + 2 = ((n + 2 : Nat) : Int) by omega, W_nat (by omega)]
  have key : ∃ o : List Int × List (Int × Int × Int), iter (m_overseerlaw03_Make_l1 ev (s, m, g)) (0, ([] : List Int), ([] : List (Int × Int × Int))) = some o ∧ o.1.length ≤ 5 ∧ ∃ es : List Ed, o.2 = es.map edP ∧ es.length ≤ 25 ∧ ∀ x ∈ es, 0 ≤ x.t ∧ x.t < (n : Int) := by
    refine iter_inv (f := m_overseerlaw03_Make_l1 ev (s, m, g)) (fun i t => t.1 = (i : Int) ∧ t.2.1.length ≤ i ∧ ∃ es : List Ed, t.2.2 = es.map edP ∧ es.length ≤ 5 * i ∧ ∀ x ∈ es, 0 ≤ x.t ∧ x.t < (n : Int)) _ n 0 (by omega) (fun i t hi ⟨e1, e2, es, e3, e4, e5⟩ => ?_) (fun t ⟨e1, e2, es, e3, e4, e5⟩ => ?_) (by omega) _ ⟨rfl, by simp, [], rfl, by simp, fun x hx => by cases hx⟩
    · obtain ⟨t1, t2, t3⟩ := t
      dsimp only at e1 e2 e3 e4
      subst e1; subst e3
      have hj : ∀ l : List Int, l.length ≤ i + 1 → ∃ s', m_overseerlaw03_Make_j1 ev (s, m, g) ((i : Int), t2, es.map edP) l = some (.inl s') ∧ s'.1 = ((i + 1 : Nat) : Int) ∧ s'.2.1.length ≤ i + 1 ∧ ∃ es : List Ed, s'.2.2 = es.map edP ∧ es.length ≤ 5 * (i + 1) ∧ ∀ x ∈ es, 0 ≤ x.t ∧ x.t < (n : Int) := by
        intro l hl
        obtain ⟨o, h1, h2⟩ := iter_inv (f := m_overseerlaw03_Make_l2 ev (s, m, g) ((i : Int), t2, es.map edP)) (fun k t => t.1 = (k : Int) ∧ ∃ es' : List Ed, t.2 = es'.map edP ∧ es'.length ≤ es.length + k ∧ ∀ x ∈ es', 0 ≤ x.t ∧ x.t < (n : Int)) (fun o => ∃ es' : List Ed, o = es'.map edP ∧ es'.length ≤ es.length + 5 ∧ ∀ x ∈ es', 0 ≤ x.t ∧ x.t < (n : Int)) ev.length 0 (by omega) (fun k t hk ⟨g1, es', g3, g4, g5⟩ => by
            obtain ⟨u1, u2⟩ := t
            dsimp only at g1 g3
            subst g1; subst g3
            have hj2 : ∀ l : List (Int × Int × Int), m_overseerlaw03_Make_j2 ((k : Int), es'.map edP) l = some (.inl (((k + 1 : Nat) : Int), l)) := fun l => by
              rw [m_overseerlaw03_Make_j2]; dsimp only; rw [nxt (by omega)]
            left
            have hlt : i * 5 + k * 1 < (cells25 g).length := by show _ < 25; omega
            obtain ⟨v, hcell, hv⟩ : ∃ v, (cells25 g)[i * 5 + k * 1]? = some v ∧ 0 ≤ v ∧ v < 256 := ⟨_, List.getElem?_eq_getElem hlt, hg _ (List.getElem_mem hlt)⟩
            rw [cells25] at hcell
            rw [m_overseerlaw03_Make_l2]
            dsimp only
            rw [if_pos (by simp; omega), show rng (i : Int) 5 = some () from if_pos (by simp; omega), Option.bind_some, show rng (k : Int) 5 = some () from if_pos (by simp; omega), Option.bind_some, Int.toNat_natCast, Int.toNat_natCast, hcell, Option.bind_some, hn, hn2, show nz ((n + 2 : Nat) : Int) = some () from if_neg (by omega), Option.bind_some, W_of (x := v) (by omega) (by omega), Int.tmod_eq_emod_of_nonneg hv.1]
            have hm0 := Int.emod_nonneg v (show ((n + 2 : Nat) : Int) ≠ 0 by omega)
            by_cases hlt2 : v % ((n + 2 : Nat) : Int) < (n : Int)
            · rw [if_pos (decide_eq_true hlt2), idx_at hk, Option.bind_some, app_eq (by rw [List.length_map, List.length_cons, List.length_nil]; omega), Option.bind_some, hj2]
              refine ⟨_, rfl, rfl, es' ++ [⟨(i : Int), ev[k], v % ((n + 2 : Nat) : Int)⟩], by simp [edP], by simp; omega, fun x hx => ?_⟩
              rcases List.mem_append.1 hx with h | h
              · exact g5 x h
              · rw [List.mem_singleton.1 h]; exact ⟨hm0, hlt2⟩
            · rw [if_neg (by simpa using hlt2), hj2]
              exact ⟨_, rfl, rfl, es', rfl, by omega, g5⟩) (fun t ⟨g1, es', g3, g4, g5⟩ => by
            obtain ⟨u1, u2⟩ := t
            dsimp only at g1 g3
            subst g1; subst g3
            rw [m_overseerlaw03_Make_l2]
            dsimp only
            rw [if_neg (by simp)]
            exact ⟨_, rfl, es', rfl, by omega, g5⟩) (by omega) (0, es.map edP) ⟨rfl, es, rfl, by omega, e5⟩
        obtain ⟨es', g1, g2, g3⟩ := h2
        rw [m_overseerlaw03_Make_j1]
        dsimp only
        rw [h1, Option.bind_some, nxt (by omega)]
        exact ⟨_, rfl, rfl, hl, es', g1, by omega, g3⟩
      left
      rw [m_overseerlaw03_Make_l1]
      dsimp only
      rw [hn, if_pos (by simp; omega), show ng (i : Int) = some () from if_neg (by omega), Option.bind_some]
      split
      · rw [app_eq (by simp; omega), Option.bind_some]
        exact hj _ (by simp; omega)
      · exact hj _ (by omega)
    · obtain ⟨t1, t2, t3⟩ := t
      dsimp only at e1 e2 e3 e4
      subst e1; subst e3
      rw [m_overseerlaw03_Make_l1]
      dsimp only
      rw [hn, if_neg (by simp)]
      exact ⟨_, rfl, by dsimp only; omega, es, rfl, by omega, e5⟩
  obtain ⟨o, h1, h2, es, h3, h4, h5⟩ := key
  have hA : A3 ⟨ev, n, o.1, es⟩ n := ⟨by omega, h5, by show es.length ≤ _; omega, by show ev.length ≤ _; omega, by show o.1.length ≤ _; omega⟩
  have hal : setErr 32 none ev = 0 := setErr_ok ie he (fun q hq => by cases hq)
  obtain ⟨r1, r2, r3, r4, r5⟩ := canon3_right (a := ⟨ev, n, o.1, es⟩) (n := n) rfl hn0 h5 ie hal (by omega)
  refine ⟨canon3 ⟨ev, n, o.1, es⟩, ?_, r1, r2, by omega, r4, r5, ?_, ?_⟩
  · rw [m_overseerlaw03_Make]
    dsimp only
    rw [if_neg (by simp; omega), rempty_eq (by omega), Option.bind_some]
    dsimp only
    rw [h1, Option.bind_some, hn]
    obtain ⟨o1, o2⟩ := o
    dsimp only at h3
    subst h3
    rw [show m_overseerref03_Canonical (ev, (n : Int), o1, es.map edP) = _ from canon_eq (a := ⟨ev, n, o1, es⟩) hA rfl hn0]
    rfl
  · have h6 := rows_len (a := ⟨ev, n, o.1, es⟩) (foundL ⟨ev, n, o.1, es⟩) (foundL ⟨ev, n, o.1, es⟩).length
    have h7 : ((foundL ⟨ev, n, o.1, es⟩).length : Int) ≤ n := r3
    have h8 : (foundL ⟨ev, n, o.1, es⟩).length * ev.length ≤ 5 * 5 := Nat.mul_le_mul (by omega) hel
    exact Nat.le_trans h6 h8
  · have h7 : ((foundL ⟨ev, n, o.1, es⟩).length : Int) ≤ n := r3
    show (rrMs _ _).length ≤ 5
    rw [rrMs, List.length_map]
    exact Nat.le_trans (List.length_filter_le ..) (by rw [List.length_range]; omega)
end Go.Proofs.Ytkkemchihllklaa

namespace Go.Proofs.Ytkkemchihllklaa
open Go Go.RowKit

/-- The first place whose element has a property. -/
theorem indexF_eq {xs : List Int} {p : Int → Option Bool} {q : Int → Bool} (hl : xs.length < 4611686018427387904) (hp : ∀ x ∈ xs, p x = some (q x)) : m_slices_IndexFunc_int xs p = some (if xs.any q = true then ((xs.findIdx q : Nat) : Int) else -1) := by
  have h := iter_scan (f := m_slices_IndexFunc_int_l1 xs p) (xs := xs) (fun i (_ : Unit) => (i : Int)) (fun i _ y => if q y then .inr (.inr (i : Int)) else .inl ()) (fun _ => .inl ()) (fun _ _ => True) (by omega) (fun i h _ _ => by
      rw [m_slices_IndexFunc_int_l1, if_pos (ct_lt h), idx_at h, Option.bind_some, hp _ (List.getElem_mem h), Option.bind_some, nxt (by omega)]
      refine ⟨fun s' e => ?_, fun o e => ?_⟩
      · split at e
        · cases e
        · rename_i h1; rw [if_neg h1]; exact ⟨rfl, trivial⟩
      · split at e
        · rename_i h1; rw [if_pos h1]; cases e; rfl
        · cases e) (fun _ _ => by rw [m_slices_IndexFunc_int_l1, if_neg ct_ge]) (s := ()) trivial
  have key : ∀ (ys : List Int) (i : Nat), scanL (O := Unit ⊕ Int) (fun i (_ : Unit) y => if q y then .inr (.inr (i : Int)) else .inl ()) (fun _ => .inl ()) i ys () = if ys.any q = true then .inr ((i + ys.findIdx q : Nat) : Int) else .inl () := by
    intro ys
    induction ys with
    | nil => intro i; rfl
    | cons y ys ih =>
      intro i
      rw [scanL, List.any_cons, List.findIdx_cons]
      cases hy : q y with
      | true => rfl
      | false =>
        rw [if_neg (by simp)]
        dsimp only
        rw [ih, Bool.false_or, cond_false]
        split
        · congr 2; omega
        · rfl
  rw [m_slices_IndexFunc_int, show iter (m_slices_IndexFunc_int_l1 xs p) 0 = _ from h, Option.bind_some, key]
  by_cases hm : xs.any q = true
  · rw [if_pos hm, if_pos hm]; simp
  · rw [if_neg hm, if_neg hm]
theorem set_app {xs ys : List Int} {v : Int} {n : Nat} (h : xs.length = n) (hy : 0 < ys.length) : (xs ++ ys).set n v = xs ++ [v] ++ ys.drop 1 := by
  subst h
  rw [List.set_append_right _ _ (Nat.le_refl _), Nat.sub_self]
  cases ys with
  | nil => cases hy
  | cons y ys => simp
/-- What is left of a list. -/
theorem deleteF_eq {xs : List Int} {p : Int → Option Bool} {q : Int → Bool} (hl : xs.length < 4611686018427387904) (hp : ∀ x ∈ xs, p x = some (q x)) : ∃ ys, m_slices_DeleteFunc_int xs p = some (xs.filter (fun x => !q x), ys) ∧ ys.length = xs.length := by
  rw [m_slices_DeleteFunc_int, indexF_eq hl hp, Option.bind_some]
  by_cases hm : xs.any q = true
  · rw [if_pos hm]
    have hlt : xs.findIdx q < xs.length := List.findIdx_lt_length_of_exists (by simpa [List.any_eq_true] using hm)
    have hpre : (xs.take (xs.findIdx q)).filter (fun x => !q x) = xs.take (xs.findIdx q) := by
      refine List.filter_eq_self.2 fun x hx => ?_
      obtain ⟨k, hk, rfl⟩ := List.mem_iff_getElem.1 hx
      rw [List.length_take] at hk
      rw [List.getElem_take]
      have := List.not_of_lt_findIdx (p := q) (xs := xs) (i := k) (by omega)
      simpa using this
    generalize hj0 : xs.findIdx q = j0 at hlt hpre
    have hq0 : q xs[j0] = true := by
      have := List.findIdx_getElem (xs := xs) (p := q) (w := by rw [hj0]; exact hlt)
      simpa [hj0] using this
    rw [if_neg (by simp), show W ((j0 : Int) + 1) = ((j0 + 1 : Nat) : Int) from nxt (by omega)]
    have hi := iter_inv (f := m_slices_DeleteFunc_int_l1 p) (fun j t => j0 + 1 + j ≤ xs.length ∧ t.1 = ((j0 + 1 + j : Nat) : Int) ∧ ∃ r : List Int, t.2.1 = ((((xs.take (j0 + 1 + j)).filter fun x => !q x).length : Nat) : Int) ∧ t.2.2 = (xs.take (j0 + 1 + j)).filter (fun x => !q x) ++ r ++ xs.drop (j0 + 1 + j) ∧ ((xs.take (j0 + 1 + j)).filter fun x => !q x).length + r.length = j0 + 1 + j ∧ 0 < r.length)
        (fun o => ∃ r : List Int, o.1 = (((xs.filter fun x => !q x).length : Nat) : Int) ∧ o.2 = xs.filter (fun x => !q x) ++ r ∧ (xs.filter fun x => !q x).length + r.length = xs.length)
        (xs.length - (j0 + 1)) 0 (by omega) (fun j t hj ⟨e0, e1, r, e2, e3, e4, e5⟩ => by
          obtain ⟨t1, t2, t3⟩ := t
          dsimp only at e1 e2 e3
          subst e1; subst e2; subst e3
          left
          have hlt2 : j0 + 1 + j < xs.length := by omega
          generalize hF : (xs.take (j0 + 1 + j)).filter (fun x => !q x) = F at e4
          have hlen : (F ++ r ++ xs.drop (j0 + 1 + j)).length = xs.length := by rw [List.length_append, List.length_append, List.length_drop]; omega
          have hat : (F ++ r ++ xs.drop (j0 + 1 + j))[j0 + 1 + j]'(by omega) = xs[j0 + 1 + j] := by
            rw [List.getElem_append_right (by rw [List.length_append]; omega), List.getElem_drop]
            congr 1; rw [List.length_append, e4, Nat.sub_self]; rfl
          have htk : (xs.take (j0 + 1 + (j + 1))).filter (fun x => !q x) = F ++ (if q xs[j0 + 1 + j] then [] else [xs[j0 + 1 + j]]) := by
            rw [show j0 + 1 + (j + 1) = j0 + 1 + j + 1 by omega, List.take_succ_eq_append_getElem hlt2, List.filter_append, hF]
            cases h : q xs[j0 + 1 + j] <;> simp [h]
          have hdr : xs.drop (j0 + 1 + j) = xs[j0 + 1 + j] :: xs.drop (j0 + 1 + (j + 1)) := by rw [List.drop_eq_getElem_cons hlt2]; rfl
          rw [m_slices_DeleteFunc_int_l1]
          dsimp only
          rw [if_pos (by rw [hlen]; exact ct_lt hlt2), idx_at (by omega), Option.bind_some, hat, hp _ (List.getElem_mem hlt2), Option.bind_some]
          cases hc : q xs[j0 + 1 + j] with
          | true =>
            rw [if_neg (by simp), m_slices_DeleteFunc_int_j1]
            dsimp only
            rw [nxt (by omega)]
            rw [hc, if_pos rfl, List.append_nil] at htk
            refine ⟨_, rfl, by omega, rfl, r ++ [xs[j0 + 1 + j]], ?_, ?_, ?_, ?_⟩
            · rw [htk]
            · rw [htk, hdr]; simp
            · rw [htk, List.length_append, List.length_cons, List.length_nil]; omega
            · rw [List.length_append]; omega
          | false =>
            rw [if_pos (by simp), idx_at (show F.length < _ by omega), Option.bind_some, upd, if_pos ⟨by omega, by omega⟩, Option.bind_some, m_slices_DeleteFunc_int_j1]
            dsimp only
            rw [nxt (by omega), nxt (by omega), Int.toNat_natCast]
            rw [hc, if_neg (by simp)] at htk
            refine ⟨_, rfl, by omega, rfl, r.drop 1 ++ [xs[j0 + 1 + j]], ?_, ?_, ?_, ?_⟩
            · rw [htk, List.length_append]; rfl
            · rw [htk]
              dsimp only
              rw [List.append_assoc F r, set_app rfl (by rw [List.length_append]; omega), hdr, List.drop_append_of_le_length (by omega)]
              simp
            · rw [htk, List.length_append, List.length_append, List.length_drop, List.length_cons, List.length_nil]; omega
            · rw [List.length_append, List.length_cons]; omega) (fun t ⟨e0, e1, r, e2, e3, e4, e5⟩ => by
          obtain ⟨t1, t2, t3⟩ := t
          dsimp only at e1 e2 e3
          subst e1; subst e2; subst e3
          have he : j0 + 1 + (xs.length - (j0 + 1)) = xs.length := by omega
          rw [he] at e4 ⊢
          rw [List.take_length] at e4 ⊢
          rw [List.drop_length, List.append_nil, m_slices_DeleteFunc_int_l1]
          dsimp only
          rw [if_neg (by rw [List.length_append, e4]; exact ct_ge)]
          exact ⟨_, rfl, r, rfl, rfl, e4⟩) (by omega) (((j0 + 1 : Nat) : Int), (j0 : Int), xs) ⟨by omega, rfl, [xs[j0]], by
            rw [show j0 + 1 + 0 = j0 + 1 by omega, List.take_succ_eq_append_getElem hlt, List.filter_append, hpre, List.filter_cons_of_neg (by simpa using hq0), List.filter_nil, List.append_nil, List.length_take]
            dsimp only; omega, by
            rw [show j0 + 1 + 0 = j0 + 1 by omega, List.take_succ_eq_append_getElem hlt, List.filter_append, hpre, List.filter_cons_of_neg (by simpa using hq0), List.filter_nil, List.append_nil, ← List.take_succ_eq_append_getElem hlt, List.take_append_drop], by
            rw [show j0 + 1 + 0 = j0 + 1 by omega, List.take_succ_eq_append_getElem hlt, List.filter_append, hpre, List.filter_cons_of_neg (by simpa using hq0), List.filter_nil, List.append_nil, List.length_take, List.length_cons, List.length_nil]
            omega, by simp⟩
    obtain ⟨o, h1, r, h2, h3, h4⟩ := hi
    obtain ⟨o1, o2⟩ := o
    dsimp only at h2 h3
    subst h2; subst h3
    generalize xs.filter (fun x => !q x) = F at h1 h4
    rw [h1, Option.bind_some]
    dsimp only
    rw [slc, if_pos ⟨by omega, by rw [List.length_append]; omega, by omega⟩, Option.bind_some, clrG, if_pos (by rw [List.length_append]; omega), Option.bind_some, Int.toNat_natCast, List.take_left' rfl, slc, if_pos ⟨by omega, by omega, by rw [List.length_append]; omega⟩, Option.bind_some]
    refine ⟨F ++ List.replicate ((F ++ r).length - F.length) 0, ?_, ?_⟩
    · rw [Int.toNat_natCast, List.take_left' rfl]; rfl
    · rw [List.length_append, List.length_replicate, List.length_append]; omega
  · rw [if_neg hm, if_pos (by simp)]
    have hn : xs.filter (fun x => !q x) = xs := by
      refine List.filter_eq_self.2 fun x hx => ?_
      have h2 : xs.any q = false := by simpa using hm
      have := List.any_eq_false.1 h2 x hx
      simpa using this
    rw [hn]
    exact ⟨_, rfl, rfl⟩
/-- A bit of a byte. -/
def bitB (b : Int) (i : Nat) : Bool := (IntKind.u8.wrap (((BitVec.ofInt 8 (b.fdiv (2 ^ (min ((i : Int).tmod 8).toNat 8))) &&& BitVec.ofInt 8 1).toNat : Int))) == 1
/-- The events whose bits are set. -/
theorem set_ex {a : Aut} (hal : a.al.length ≤ 32) (b : Int) : ∃ q : Nat → Bool, m_overseerlaw53_set (autP a) b = some ((((List.range a.al.length).filter q).map fun i => a.al.getD i 0)) := by
  refine ⟨bitB b, ?_⟩
  have h := iter_run (f := m_overseerlaw53_set_l1 (autP a) b) (fun k => ((k : Int), (((List.range k).filter (bitB b)).map fun i => a.al.getD i 0))) a.al.length (by omega) (fun k hk => by
    have hlen : ((List.range k).filter (bitB b)).length ≤ k := Nat.le_trans (List.length_filter_le ..) (by simp)
    have h8 : 0 ≤ (k : Int).tmod 8 := by rw [Int.tmod_eq_emod_of_nonneg (by omega)]; omega
    rw [m_overseerlaw53_set_l1]
    dsimp only
    rw [if_pos (show decide ((k : Int) < ((autP a).1.length : Int)) = true from ct_lt hk), show idx (autP a).1 (k : Int) = some a.al[k] from idx_at hk, Option.bind_some, show ng ((k : Int).tmod 8) = some () from if_neg (by omega), Option.bind_some, List.range_succ, List.filter_append]
    split
    · rename_i hc
      rw [app_eq (by rw [List.length_map, List.length_cons, List.length_nil]; omega), Option.bind_some, m_overseerlaw53_set_j1, List.filter_cons_of_pos (show bitB b k = true from hc), List.map_append]
      dsimp only
      rw [nxt (by omega), List.filter_nil, List.map_cons, List.map_nil, getD_at hk]
    · rename_i hc
      rw [m_overseerlaw53_set_j1, List.filter_cons_of_neg (show ¬ bitB b k = true from hc)]
      dsimp only
      rw [nxt (by omega), List.filter_nil, List.append_nil]) (by
    rw [m_overseerlaw53_set_l1]
    dsimp only
    rw [if_neg (show ¬ decide ((a.al.length : Int) < ((autP a).1.length : Int)) = true from ct_ge)])
  rw [m_overseerlaw53_set, show iter (m_overseerlaw53_set_l1 (autP a) b) (0, ([] : List Int)) = _ from h]
  rfl
/-- A part of an increasing list, chosen by places. -/
theorem sel_inc {al : List Int} (ia : Inc al) (q : Nat → Bool) : Inc (((List.range al.length).filter q).map fun i => al.getD i 0) := by
  unfold Inc at ia ⊢
  rw [List.pairwise_map]
  have h1 : ((List.range al.length).filter q).Pairwise (· < ·) := List.Pairwise.filter _ List.pairwise_lt_range
  refine List.Pairwise.imp_of_mem (fun {i j} hi hj hlt => ?_) h1
  have h2 := List.mem_range.1 (List.mem_filter.1 hi).1
  have h3 := List.mem_range.1 (List.mem_filter.1 hj).1
  rw [getD_at h2, getD_at h3]
  exact List.pairwise_iff_getElem.1 ia i j h2 h3 hlt
theorem sel_sub {al : List Int} (q : Nat → Bool) : ∀ x ∈ ((List.range al.length).filter q).map fun i => al.getD i 0, x ∈ al := by
  intro x hx
  obtain ⟨i, hi, rfl⟩ := List.mem_map.1 hx
  have h2 := List.mem_range.1 (List.mem_filter.1 hi).1
  rw [getD_at h2]
  exact List.getElem_mem h2
theorem inc_nodup {xs : List Int} (h : Inc xs) : xs.Nodup := by
  unfold Inc at h
  exact List.Pairwise.imp (fun {a b} hab e => by omega) h
theorem sub_len {xs ys : List Int} (h : Inc xs) (hs : ∀ x ∈ xs, x ∈ ys) : xs.length ≤ ys.length := (inc_nodup h).length_le_of_subset hs
theorem subB_of {xs ys : List Int} (h : ∀ x ∈ xs, x ∈ ys) : subB xs ys = true := List.all_eq_true.2 fun x hx => hasB_true.2 (h x hx)
/-- A sketch's cells are bytes. -/
abbrev Sketch : Type := Int × (Int × Int × ((Int × Int × Int × Int × Int) × (Int × Int × Int × Int × Int) × (Int × Int × Int × Int × Int) × (Int × Int × Int × Int × Int) × (Int × Int × Int × Int × Int))) × Int
structure SkOk (x : Sketch) : Prop where
  s : 0 ≤ x.2.1.1 ∧ x.2.1.1 < 256
  g : ∀ y ∈ cells25 x.2.1.2.2, 0 ≤ y ∧ y < 256
/-- What a sketch is. -/
structure SkIn (a : Aut) (l : List Int) (n : Nat) : Prop where
  gen : GenIn a l n
  ia : Inc a.al
  ic : Inc l
  al : ∀ x ∈ a.al, 0 ≤ x ∧ x < 5
  sub : ∀ x ∈ l, x ∈ a.al
  err : a.err = 0
  so : Sorted a.es
  ms : a.ms.length ≤ 5
  n5 : n ≤ 5
theorem err_ed {a : Aut} (h : a.err = 0) : ∀ x ∈ a.es, 0 ≤ x.f ∧ x.f < a.n ∧ 0 ≤ x.t ∧ x.t < a.n ∧ x.e ∈ a.al := by
  have he : edErr a.al a.n none a.es = 0 := by
    unfold Aut.err at h
    split at h
    · rename_i h1; rw [h] at h1; exact absurd h1 (by decide)
    · split at h
      · cases h
      · split at h
        · cases h
        · split at h
          · rename_i h1; rw [h] at h1; exact absurd h1 (by decide)
          · exact h
  have key : ∀ (es : List Ed) (p : Option Ed), edErr a.al a.n p es = 0 → ∀ x ∈ es, 0 ≤ x.f ∧ x.f < a.n ∧ 0 ≤ x.t ∧ x.t < a.n ∧ x.e ∈ a.al := by
    intro es
    induction es with
    | nil => intro p _ x hx; cases hx
    | cons y es ih =>
      intro p h x hx
      rw [edErr] at h
      split at h
      · cases h
      · rename_i h1
        split at h
        · cases h
        · rename_i h2
          split at h
          · cases h
          · rcases List.mem_cons.1 hx with rfl | hx
            · have h3 : hasB a.al x.e = true := by simpa using h2
              have h4 := hasB_true.1 h3
              exact ⟨by omega, by omega, by omega, by omega, h4⟩
            · exact ih _ h x hx
  exact key a.es none he
theorem make53_ex {x : Sketch} (h : SkOk x) : ∃ (a : Aut) (l : List Int) (n : Nat), m_overseerlaw53_Make x = some (autP a, l) ∧ SkIn a l n := by
  obtain ⟨ev, h1, h2, h3, h4⟩ := events_ex x.1
  have hs : 0 ≤ x.2.1.1.tmod 5 ∧ x.2.1.1.tmod 5 < 250 := by
    rw [Int.tmod_eq_emod_of_nonneg h.s.1]; omega
  obtain ⟨a, g1, g2, g3, g4, g5, g6, g7, g8⟩ := make3_ex h2 (fun y hy => by have := h3 y hy; omega) h4 (s := x.2.1.1.tmod 5) (m := x.2.1.2.1) (g := x.2.1.2.2) hs h.g
  obtain ⟨ev2, k1, k2, k3, k4⟩ := events_ex x.2.2
  obtain ⟨ys, d1, d2⟩ := deleteF_eq (xs := ev2) (p := m_overseerlaw53_Make_1 (autP a)) (q := fun y => !hasB a.al y) (by omega) (fun y hy => by
    rw [m_overseerlaw53_Make_1, show m_slices_Contains_int (autP a).1 y = some (hasB a.al y) from contains_eq (xs := a.al) (by rw [g6]; omega)]; rfl)
  refine ⟨a, ev2.filter (fun y => !!hasB a.al y), a.n.toNat, ?_, ⟨⟨by omega, by omega, by omega, by omega, by rw [g6]; omega, ?_, ?_⟩, by rw [g6]; exact h2, ?_, by rw [g6]; exact h3, ?_, g2, g5, g8, by omega⟩⟩
  · rw [m_overseerlaw53_Make, h1, Option.bind_some, show m_overseerlaw03_Make ev ((x.2.1.1.tmod 5), x.2.1.2) = _ from g1, Option.bind_some, k1, Option.bind_some, d1, Option.bind_some, lenEq, if_pos d2]
    rfl
  · exact Nat.le_trans (List.length_filter_le ..) (by omega)
  · intro y hy
    have := err_ed g2 y hy
    omega
  · exact List.Pairwise.filter _ k2
  · intro y hy
    have := (List.mem_filter.1 hy).2
    rw [Bool.not_not] at this
    exact hasB_true.1 this
section
variable {a : Aut} {l : List Int} {n : Nat}
theorem SkIn.set32 (h : SkIn a l n) {xs : List Int} (ix : Inc xs) (hx : ∀ x ∈ xs, x ∈ a.al) : setErr 32 none xs = 0 := setErr_ok ix (fun x hm => by have := h.al x (hx x hm); omega) (fun q hq => by cases hq)
theorem SkIn.code (h : SkIn a l n) : m_generate_Generate (autP a) l = some (codeP a l n, 0) :=
  generate_eq h.gen (by have := h.ms; omega) h.err (h.set32 h.ic h.sub) (by rw [subset_eq (by have := h.gen.ct; omega) (by have := h.gen.al; omega) h.ic h.ia, subB_of h.sub])
theorem SkIn.start (h : SkIn a l n) : m_instruction_Start (codeP a l n).1 = some ((List.replicate (l.length + 1) false, true :: List.replicate n false), 0) := gstart_eq h.gen h.ia h.ic
/-- A scan follows the supervisor. -/
theorem SkIn.scan (h : SkIn a l n) {ev : List Int} (ie : Inc ev) (hs : ∀ x ∈ ev, x ∈ a.al) {st : List Bool × List Bool} {s : Nat} {al : Bool} (hv : Shows a l n s al st) :
    ∃ st', m_generate_Scan (codeP a l n) st ev = some (st', 0) ∧ Shows a l n (ev.foldl (folStep a.es) (s, al)).1 (ev.foldl (folStep a.es) (s, al)).2 st' ∧
      ∀ k, k < l.length → st'.1.getD k false = (stepF a.es (ev.foldl (folStep a.es) (s, al)).1 (l.getD k 0)).isSome :=
  view_scan h.gen h.ia h.ic ie (by have := sub_len ie hs; have := h.gen.al; omega) (h.set32 ie hs) (subB_of hs) hv
theorem Shows.alarm (h : SkIn a l n) {st : List Bool × List Bool} {s : Nat} {al : Bool} (hv : Shows a l n s al st) : m_generate_Alarmed (codeP a l n) st = some (al, 0) := by
  rw [alarmed_eq (out := st.1) (mem := st.2) h.gen hv.ho hv.hm, hv.ha]
end
end Go.Proofs.Ytkkemchihllklaa

namespace Go.Proofs.Ytkkemchihllklaa
open Go Go.RowKit Go.ChangeShapes Go.WideShapes Go.ChangeAt Go.Deep

theorem op_u8 : Op Try.prog (rK .u8) (fun n => 0 ≤ n ∧ n < 256) 5 := by
  intro H enc w fuel cs x h
  obtain ⟨y, h1, h2⟩ := (Op.int (P := Try.prog) (k := .u8) Try.underlying5) H enc w fuel cs x h
  refine ⟨y, h1, ?_⟩
  simp [IntKind.min, IntKind.max, IntKind.signed, IntKind.bits] at h2
  omega
section
variable {H : Type} {enc : TypeId × Value → H} {w : World} {base : Nat} {v : Value} {d : DataW H} {ps : List MemPlace}
set_option maxRecDepth 100000 in
/-- A list of bytes. -/
theorem arg_bytes (hok : Value.okWide Try.prog w .any base 52 v) (h : DataW.Trod enc Try.prog w 0 (fun _ => true) true 52 v d ps) : ∃ a c xs, v = .slice a xs.length c ∧ RdL (rK .u8) ⟨w, fun _ => 0⟩ a c xs ∧ ∀ y ∈ xs, 0 ≤ y ∧ y < 256 := by
  obtain ⟨fuel, hf⟩ := h
  simp only [Value.okWide, Try.underlying52] at hok
  have hv : v.cells.toList = [v] := by
    simp only [Cell.okWide, Try.underlying52] at hok
    cases v <;> simp_all [Cell.ok, Value.cells]
  rw [hv] at hf
  exact op_slice Try.underlying52 (by kernel_rfl) op_u8 hok hf
/-- The types of a sketch's cells. -/
def skT : List TypeId := [45] ++ List.replicate 27 5 ++ [45]
theorem sk_types : Try.prog.cellTypes Try.prog.depth 51 = some skT := by kernel_rfl
theorem sk_cells : Try.prog.cellsOf 51 = skT.length := by kernel_rfl
set_option maxRecDepth 100000 in
/-- A sketch. -/
theorem arg_sketch (hok : Value.okWide Try.prog w .any base 51 v) : ∃ p0 : Sketch, SkOk p0 ∧ v = .agg #[.int .u8 p0.1, .int .u8 p0.2.1.1, .int .u8 p0.2.1.2.1, .int .u8 p0.2.1.2.2.1.1, .int .u8 p0.2.1.2.2.1.2.1, .int .u8 p0.2.1.2.2.1.2.2.1, .int .u8 p0.2.1.2.2.1.2.2.2.1, .int .u8 p0.2.1.2.2.1.2.2.2.2, .int .u8 p0.2.1.2.2.2.1.1, .int .u8 p0.2.1.2.2.2.1.2.1, .int .u8 p0.2.1.2.2.2.1.2.2.1, .int .u8 p0.2.1.2.2.2.1.2.2.2.1, .int .u8 p0.2.1.2.2.2.1.2.2.2.2, .int .u8 p0.2.1.2.2.2.2.1.1, .int .u8 p0.2.1.2.2.2.2.1.2.1, .int .u8 p0.2.1.2.2.2.2.1.2.2.1, .int .u8 p0.2.1.2.2.2.2.1.2.2.2.1, .int .u8 p0.2.1.2.2.2.2.1.2.2.2.2, .int .u8 p0.2.1.2.2.2.2.2.1.1, .int .u8 p0.2.1.2.2.2.2.2.1.2.1, .int .u8 p0.2.1.2.2.2.2.2.1.2.2.1, .int .u8 p0.2.1.2.2.2.2.2.1.2.2.2.1, .int .u8 p0.2.1.2.2.2.2.2.1.2.2.2.2, .int .u8 p0.2.1.2.2.2.2.2.2.1, .int .u8 p0.2.1.2.2.2.2.2.2.2.1, .int .u8 p0.2.1.2.2.2.2.2.2.2.2.1, .int .u8 p0.2.1.2.2.2.2.2.2.2.2.2.1, .int .u8 p0.2.1.2.2.2.2.2.2.2.2.2.2, .int .u8 p0.2.2] := by
  obtain ⟨cs, rfl, h1, h2⟩ := op_agg Try.underlying51 sk_types sk_cells hok
  have h1' : cs.size = 29 := h1
  obtain ⟨f, hf⟩ := choose_lt (α := Int) (n := 29) (p := fun i n => cs[i]? = some (.int .u8 n) ∧ 0 ≤ n ∧ n < 256) (fun i hi => by
    obtain ⟨u, hu, hu2⟩ : ∃ u, skT[i]? = some u ∧ (u = 45 ∨ u = 5) := by
      refine ⟨skT[i]'hi, List.getElem?_eq_getElem (l := skT) hi, ?_⟩
      have := List.getElem_mem (l := skT) hi
      generalize skT[i]'hi = u at this
      simp only [skT, List.mem_append, List.mem_singleton, List.mem_replicate] at this
      rcases this with (h | h) | h
      · exact .inl h
      · exact .inr h.2
      · exact .inl h
    obtain ⟨c, g1, g2⟩ := h2 i u hu
    have g2' : Cell.okWide Try.prog w .any base 5 c := by
      rcases hu2 with rfl | rfl
      · simp only [Cell.okWide, Cell.ok, Try.underlying45, Try.underlying5] at g2 ⊢
        exact g2
      · exact g2
    obtain ⟨n, rfl, g3⟩ := cell_u8 g2'
    exact ⟨n, g1, g3⟩)
  have hcs : cs = ((List.range 29).map fun i => Value.int .u8 (f i)).toArray := by
    apply Array.ext_getElem?
    intro i
    by_cases hi : i < 29
    · rw [(hf i hi).1]; simp [hi]
    · rw [Array.getElem?_eq_none (by omega), Array.getElem?_eq_none (by simp; omega)]
  refine ⟨(f 0, (f 1, f 2, ((f 3, f 4, f 5, f 6, f 7), (f 8, f 9, f 10, f 11, f 12), (f 13, f 14, f 15, f 16, f 17), (f 18, f 19, f 20, f 21, f 22), (f 23, f 24, f 25, f 26, f 27))), f 28), ⟨(hf 1 (by omega)).2, fun y hy => ?_⟩, by rw [hcs]; rfl⟩
  have hy2 : y ∈ (List.range 25).map fun i => f (i + 3) := hy
  obtain ⟨i, hi, rfl⟩ := List.mem_map.1 hy2
  have := List.mem_range.1 hi
  exact (hf (i + 3) (by omega)).2
end
end Go.Proofs.Ytkkemchihllklaa

namespace Go.Proofs.Ytkkemchihllklaa
open Go Go.RowKit

/-- A state of the program with its outputs behind a scan. -/
structure Shown (a : Aut) (l : List Int) (n : Nat) (s : Nat) (al : Bool) (st : List Bool × List Bool) : Prop where
  v : Shows a l n s al st
  c : ∀ k, k < l.length → st.1.getD k false = (stepF a.es s (l.getD k 0)).isSome
theorem sel_set {a : Aut} {l : List Int} {n : Nat} (h : SkIn a l n) (b : Int) : ∃ ev, m_overseerlaw53_set (autP a) b = some ev ∧ Inc ev ∧ ∀ x ∈ ev, x ∈ a.al := by
  obtain ⟨q, hq⟩ := set_ex h.gen.al b
  exact ⟨_, hq, sel_inc h.ia q, sel_sub q⟩
theorem SkIn.scan2 {a : Aut} {l : List Int} {n : Nat} (h : SkIn a l n) {ev : List Int} (ie : Inc ev) (hs : ∀ x ∈ ev, x ∈ a.al) {st : List Bool × List Bool} {s : Nat} {al : Bool} (hv : Shows a l n s al st) :
    ∃ st', m_generate_Scan (codeP a l n) st ev = some (st', 0) ∧ Shown a l n (ev.foldl (folStep a.es) (s, al)).1 (ev.foldl (folStep a.es) (s, al)).2 st' := by
  obtain ⟨st', h1, h2, h3⟩ := h.scan ie hs hv
  exact ⟨st', h1, h2, h3⟩
end Go.Proofs.Ytkkemchihllklaa

namespace Go.Proofs.Ytkkemchihllklaa
open Go Go.RowKit

theorem equalB_self {xs : List Bool} (hl : xs.length < 4611686018427387904) : m_slices_Equal_bool xs xs = some true := by
  have hi : iter (m_slices_Equal_bool_l1 xs xs) 0 = some (.inl ()) := by
    refine iter_run (f := m_slices_Equal_bool_l1 xs xs) (fun k => (k : Int)) xs.length (by omega) (fun k hk => ?_) ?_
    · rw [m_slices_Equal_bool_l1, if_pos (ct_lt hk), idx_at hk, Option.bind_some, Option.bind_some, if_neg (by simp), nxt (by omega)]
    · rw [m_slices_Equal_bool_l1, if_neg ct_ge]
  rw [m_slices_Equal_bool, if_neg (by simp), hi]
  rfl
/-- Two walks of a set: one that starts with an alarm keeps it. -/
theorem fol_two {es : List Ed} : ∀ (w : List Int) (s : Nat) (b : Bool), w.foldl (folStep es) (s, b) = ((w.foldl (folStep es) (s, false)).1, b || (w.foldl (folStep es) (s, false)).2)
  | [], s, b => by simp
  | e :: w, s, b => by
    rw [List.foldl_cons, List.foldl_cons]
    unfold folStep
    dsimp only
    cases stepF es s e with
    | none =>
      dsimp only
      rw [show (s, true) = ((s, true) : Nat × Bool) from rfl]
      have h1 := fol_two (es := es) w s true
      unfold folStep at h1
      rw [h1]
      simp
    | some t =>
      have h1 := fol_two (es := es) w t b
      unfold folStep at h1
      exact h1
/-- The law's own walk of a set. -/
theorem follow_eq {a : Aut} (hl : a.es.length < 4611686018427387904) (ht : ∀ x ∈ a.es, 0 ≤ x.t) {ev : List Int} (he : ev.length < 4611686018427387904) (s : Nat) : m_overseerlaw53_follow (autP a) (s : Int) ev = some (((ev.foldl (folStep a.es) (s, false)).1 : Int), (ev.foldl (folStep a.es) (s, false)).2) := by
  have h := (iter_foldl (f := m_overseerlaw53_follow_l1 (autP a) ev) (xs := ev) (fun k (S : Nat × Bool) => ((k : Int), S.2, (S.1 : Int))) (folStep a.es) (fun S => (S.2, (S.1 : Int))) (fun _ _ => True) (by omega) (fun k hk S _ => by
    refine ⟨?_, trivial⟩
    rw [m_overseerlaw53_follow_l1]
    dsimp only
    rw [if_pos (ct_lt hk), idx_at hk, Option.bind_some, step_eq hl ht, Option.bind_some, stF, folStep]
    cases stepF a.es S.1 ev[k] with
    | none =>
      dsimp only
      rw [if_pos (by simp), m_overseerlaw53_follow_j1]
      dsimp only
      rw [nxt (by omega)]
    | some t =>
      dsimp only
      rw [if_neg (by simp), m_overseerlaw53_follow_j1]
      dsimp only
      rw [nxt (by omega)]) (fun S _ => by
    rw [m_overseerlaw53_follow_l1]
    dsimp only
    rw [if_neg ct_ge]) (s := (s, false)) trivial).1
  rw [m_overseerlaw53_follow, show iter (m_overseerlaw53_follow_l1 (autP a) ev) (0, false, (s : Int)) = _ from h]
  rfl
theorem codeP_eq {a : Aut} {l : List Int} {n : Nat} : codeP a l n = ((codeP a l n).1, a.al, l, (n : Int)) := rfl
theorem SkIn.inputs {a : Aut} {l : List Int} {n : Nat} (h : SkIn a l n) {ev : List Int} (ie : Inc ev) (hs : ∀ x ∈ ev, x ∈ a.al) : m_generate_Inputs (codeP a l n) ev = some (a.al.map (hasB ev), 0) := by
  have h1 := sub_len ie hs
  have h2 := h.gen.al
  rw [codeP_eq, inputs_eq (by omega) (by omega) h.ia ie (h.set32 ie hs) (subB_of hs)]
theorem scans_eq {x : Sketch} (hx : SkOk x) {bs : List Int} : m_overseerlaw53_GenerateScans x bs = some true := by
  rw [m_overseerlaw53_GenerateScans, known53, Option.bind_some, Option.bind_some]
  by_cases hl : bs.length > 8
  · rw [if_pos (by simp; omega)]
  · obtain ⟨a, l, n, h1, h⟩ := make53_ex hx
    have hc := h.code
    have hct := h.gen.ct
    have hal := h.gen.al
    have hes := h.gen.es
    have hn1 := h.gen.n1
    rw [if_neg (by simp; omega), h1, Option.bind_some]
    dsimp only
    rw [hc, Option.bind_some]
    dsimp only
    rw [if_neg (by simp), h.start, Option.bind_some]
    dsimp only
    rw [if_neg (by simp)]
    obtain ⟨o, i1, rfl⟩ := iter_inv (f := m_overseerlaw53_GenerateScans_l1 bs (autP a, l) (codeP a l n, 0)) (fun i t => t.1 = (i : Int) ∧ ∃ s : Nat, t.2.2.1 = (s : Int) ∧ Shows a l n s t.2.1 t.2.2.2) (fun o => o = .inl ()) bs.length 0 (by omega) (fun i t hi ⟨e1, s, e2, e3⟩ => by
        obtain ⟨t1, al, t2, t3⟩ := t
        dsimp only at e1 e2 e3
        subst e1; subst e2
        obtain ⟨ev, g1, g2, g3⟩ := sel_set h (bs[i])
        obtain ⟨st', g4, g5⟩ := h.scan2 g2 g3 e3
        have hel := sub_len g2 g3
        have hin := h.inputs g2 g3
        have g6 := g4
        rw [m_generate_Scan, hin, Option.bind_some, if_neg (by simp)] at g6
        dsimp only at g6
        have g7 : m_instruction_Scan (codeP a l n).1 t3 (a.al.map (hasB ev)) = some (st', 0) := by
          cases hz : m_instruction_Scan (codeP a l n).1 t3 (a.al.map (hasB ev)) with
          | none => rw [hz] at g6; cases g6
          | some z => rw [hz, Option.bind_some] at g6; exact g6
        have hf := follow_eq (a := a) (by omega) (fun x hx => (h.gen.ed x hx).2.2.1) (ev := ev) (by omega) s
        have h2 := fol_two (es := a.es) ev s al
        rw [h2] at g5
        dsimp only at g5
        have hi2 : iter (m_overseerlaw53_GenerateScans_l2 (autP a, l) ev (a.al.map (hasB ev), 0)) 0 = some (.inl ()) := by
          refine iter_run (f := m_overseerlaw53_GenerateScans_l2 (autP a, l) ev (a.al.map (hasB ev), 0)) (fun k => (k : Int)) a.al.length (by omega) (fun k hk => ?_) ?_
          · rw [m_overseerlaw53_GenerateScans_l2]
            dsimp only
            rw [if_pos (show decide ((k : Int) < ((autP a).1.length : Int)) = true from ct_lt hk), show idx (autP a).1 (k : Int) = some a.al[k] from idx_at hk, Option.bind_some, idx_at (by rw [List.length_map]; exact hk), Option.bind_some, contains_eq (by omega), Option.bind_some, List.getElem_map, if_neg (by simp), nxt (by omega)]
          · rw [m_overseerlaw53_GenerateScans_l2]
            dsimp only
            rw [if_neg (show ¬ decide ((a.al.length : Int) < ((autP a).1.length : Int)) = true from ct_ge)]
        have hsh := g5.v.says h.gen (p6 := true) (fun k hk => by rw [g5.c k hk]; rfl)
        left
        rw [m_overseerlaw53_GenerateScans_l1]
        dsimp only
        rw [if_pos (ct_lt hi), idx_at hi, Option.bind_some, g1, Option.bind_some, hf, Option.bind_some, hin, Option.bind_some]
        dsimp only
        rw [if_neg (by rw [List.length_map]; simp [autP]), hi2, Option.bind_some]
        dsimp only
        rw [g4, Option.bind_some, g7, Option.bind_some]
        dsimp only
        rw [if_neg (by simp), equalB_self (by have := g5.v.ho; omega), Option.bind_some, Option.bind_some, if_neg (by simp), equalB_self (by have := g5.v.hm; omega), Option.bind_some, Option.bind_some, if_neg (by simp), hsh, Option.bind_some, Option.bind_some, if_neg (by simp), nxt (by omega)]
        exact ⟨_, rfl, rfl, _, rfl, g5.v⟩) (fun t ⟨e1, s, e2, e3⟩ => by
        obtain ⟨t1, al, t2, t3⟩ := t
        dsimp only at e1
        subst e1
        rw [m_overseerlaw53_GenerateScans_l1]
        dsimp only
        rw [if_neg ct_ge]
        exact ⟨_, rfl, rfl⟩) (by omega) (0, false, 0, List.replicate (l.length + 1) false, true :: List.replicate n false) ⟨rfl, 0, rfl, Shows.start h.gen.n0⟩
    rw [i1]
    rfl
end Go.Proofs.Ytkkemchihllklaa

namespace Go.Proofs.Ytkkemchihllklaa
open Go Go.ChangeShapes Go.WideShapes Go.ChangeAt Go.RowKit

set_option maxRecDepth 100000 in
theorem generateScans_lifted (os : Os) (started : os.Started) (H : Type) (enc : TypeId × Value → H) :
    ReturnsInHanded {} Try.checked os 5 .any (Rows.generateScansSpec.pre6 enc Try.prog Try.f5 Rows.generateScansRow.domain false) (Rows.generateScansSpec.post enc Try.prog Try.f5 false true false false) := by
  refine returnsInHanded_of_change (C := Try.checked) Try.own started (by kernel_rfl) Try.func5
    (ChangeSpec.witness6 (enc := enc) (C := Try.checked) false ⟨#[], #[.agg #[.int .u8 0, .int .u8 0, .int .u8 0, .int .u8 0, .int .u8 0, .int .u8 0, .int .u8 0, .int .u8 0, .int .u8 0, .int .u8 0, .int .u8 0, .int .u8 0, .int .u8 0, .int .u8 0, .int .u8 0, .int .u8 0, .int .u8 0, .int .u8 0, .int .u8 0, .int .u8 0, .int .u8 0, .int .u8 0, .int .u8 0, .int .u8 0, .int .u8 0, .int .u8 0, .int .u8 0, .int .u8 0, .int .u8 0], .slice none 0 0], []⟩ 8 (by kernel_rfl) (by kernel_rfl) (by kernel_rfl) (by kernel_rfl)) ?_
  intro W base args ds gs before hval0 hW hcnd _
  have hval : ∀ (j : Nat) t v, Try.f5.params[j]? = some t → args[j]? = some v → Value.okWide Try.prog W .any base t v := hval0
  have hW' := hW
  obtain ⟨p, q, hA0, hV, rfl, hfz, hnd⟩ := hW
  have hA : DataW.TrodAll enc Try.prog W 0 (fun _ => true) true Try.f5.params.toList args.toList ds p := hA0
  rw [Try.params5] at hA hval
  obtain ⟨v0, v1, d0, d1, p0, p1, rfl, rfl, rfl, h0, h1⟩ := trodAll_two hA
  obtain ⟨x, hx, rfl⟩ := arg_sketch (hval 0 51 v0 rfl rfl)
  obtain ⟨a1, c1, xs1, rfl, r1, k1⟩ := arg_bytes (hval 1 52 v1 rfl rfl) h1
  obtain ⟨rfl, rfl⟩ := trodVars_none hV
  clear hA0 hval0
  refine (m_overseerlaw53_GenerateScans_c (s := ⟨W, fun _ => 0⟩) r1 (scans_eq hx)).mono fun e W' ⟨v, s', hw, he, hm, hv⟩ => ?_
  subst hw
  subst he
  subst hv
  have hbl := hm.below
  exact ⟨_, rfl, law_post Try.laidOut hW' rfl (by kernel_rfl) (by kernel_rfl) Try.underlying4 rfl rfl rfl hbl⟩

/-- The statement. -/
theorem generateScans_holds : Rows.GenerateScansSaid :=
  OpenClaim.holds_of_wide 5 Try.f5 rfl rfl rfl rfl rfl rfl rfl ⟨rfl, rfl, rfl, rfl, rfl⟩ rfl rfl rfl rfl rfl (by kernel_rfl) Try.func5 (by kernel_rfl)
    (of_decide_eq_true (by kernel_rfl)) (by unfold Func.isWrapper; first | (rw [if_pos (by decide +kernel)]; kernel_rfl) | (rw [if_neg (by decide +kernel)]; exact ⟨rfl, rfl⟩))
    (fun os started H enc _ => generateScans_lifted os started H enc)
end Go.Proofs.Ytkkemchihllklaa
