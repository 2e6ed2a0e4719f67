/- GenerateReads returns true for all arguments, and leaves its arguments as they were. No conditions. -/
import Derived.Test.YtkkemchihllklaaProg
import Derived.Test.YtkkemchihllklaaQRds5
namespace Go.Proofs.Ytkkemchihllklaa
open Go Go.RowKit
theorem cf60 : Cf Try.prog 60 := Cf.mk Try.func60 (by kernel_rfl) (by kernel_rfl)
theorem zz3 : (Try.prog.info? 3).bind (·.zero) = some (.int .i64 0) := by kernel_rfl
noncomputable def m_slices_DeleteFunc_int_j1 (st26 : Int × Int × List Int) (n38 : Int) (l39 : List Int) : Option ((Int × Int × List Int) ⊕ (Int × List Int)) :=
  some (.inl (W (st26.1 + 1), n38, l39))
noncomputable def m_slices_DeleteFunc_int_l1 (p1 : Int → Option Bool) (st26 : Int × Int × List Int) : Option ((Int × Int × List Int) ⊕ (Int × List Int)) :=
  if decide (st26.1 < (st26.2.2.length : Int)) then
    (idx st26.2.2 st26.1).bind fun x42 =>
    (p1 x42).bind fun r44 =>
    if (!r44) then
      (idx st26.2.2 st26.2.1).bind fun x47 =>
      (upd st26.2.2 st26.2.1 x42).bind fun x49 =>
      m_slices_DeleteFunc_int_j1 st26 (W (st26.2.1 + 1)) x49
    else
      m_slices_DeleteFunc_int_j1 st26 st26.2.1 st26.2.2
  else
    some (.inr st26.2)
/-- What slices.DeleteFunc<<>int,int> computes. -/
noncomputable def m_slices_DeleteFunc_int (p0 : List Int) (p1 : Int → Option Bool) : Option (List Int × List Int) :=
  (m_slices_IndexFunc_int p0 p1).bind fun r3 =>
  if (r3 == (-1)) then
    some (p0, p0)
  else
    (iter (m_slices_DeleteFunc_int_l1 p1) ((W (r3 + 1)), r3, p0)).bind fun o26 =>
    (slc o26.2 o26.1 (o26.2.length : Int)).bind fun x31 =>
    (clrG o26.2 o26.1 (0 : Int)).bind fun x34 =>
    (slc (o26.2.take o26.1.toNat ++ List.replicate (o26.2.length - o26.1.toNat) (0 : Int)) 0 o26.1).bind fun x35 =>
    some (x35, (o26.2.take o26.1.toNat ++ List.replicate (o26.2.length - o26.1.toNat) (0 : Int)))
set_option maxRecDepth 100000 in
set_option maxHeartbeats 8000000 in
theorem m_slices_DeleteFunc_int_c {s : Sig} {p0 : List Int} {p1 : Int → Option Bool} {t0 : Nat} {a1 : Option Addr} {c1 : Nat} {vp1 : Value} {r : List Int × List Int} (zt0 : 0 < t0) (h1 : RowT (rK .i64) s t0 3 a1 c1 p0) (hp1 : FV1 Try.prog s vp1 (fun (x0 : Int) => [.int .i64 x0]) (fun (r : Bool) => .bool r) p1) (hm : m_slices_DeleteFunc_int p0 p1 = some r) :
    Calls Try.prog 48 #[.slice a1 p0.length c1, vp1] s.w (RetS (One t0) s fun v s' => ∃ (a2 : Option Addr) (c2 : Nat), v = .slice a2 r.1.length c2 ∧ RowT (rK .i64) s' t0 3 a2 c2 r.1 ∧ RowT (rK .i64) s' t0 3 a1 c1 r.2) := by
 unfold m_slices_DeleteFunc_int at hm
 obtain ⟨N, hN, hNb, lt0, -⟩ := s.freshL [t0]
 have m0 : Mv (Up N (One t0)) s s := Mv.refl _ _
 refine E.entry Try.func48 rfl Try.ntmps48 rfl rfl (E.seq (E.reg (L.as Wt.no rfl rfl (L.nil (X.seqN (E.seq (E.reg (L.mv Wt.no rfl rfl (L.mv Wt.no rfl rfl ?_)))))))))
 obtain ⟨r3, er3, hm⟩ := bindS hm
 refine L.ca cf60 rfl rfl Wt.no rfl (Calls.lendG (s0 := (Sig.fz t0 (Sig.drop N s))) (s := s) rfl (m_slices_IndexFunc_int_c (s := (Sig.fz t0 (Sig.drop N s))) (p0 := p0) (p1 := p1) ((h1.dropV lt0).fz (Ne.symm (tne0V zt0))) (hp1.mono ((Sig.drop_le N _).trans ((Sig.fz_mv t0 _).le (tgz zt0)))) er3) (fun v s' h => h)) rfl ?_
 rintro _ s4 m5 rfl
 replace m0 := m0.trans m5.no
 replace h1 := h1.mv m5 no_No no_No
 replace hp1 := hp1.mono (m5.le no_No)
 refine L.as Wt.no rfl rfl (L.nil (X.seqN (E.seq (E.seq (E.reg (L.mv Wt.no rfl rfl (L.bi Wt.no rfl rfl rfl rfl (L.nil (X.seqN ?_)))))))))
 rcases ifS hm with ⟨hc, hm⟩ | ⟨hc, hm⟩
 ·refine E.cT rfl hc (E.seq (E.reg (L.mv Wt.no rfl rfl (L.as Wt.no rfl rfl (L.nil (X.seqN (E.ret (X.seqR ?_))))))))
  obtain rfl := Option.some.inj hm
  exact X.rt (.inl rfl) Try.results48 (Rs.tmp rfl Rs.nil) rfl ⟨_, (s4).ren N (fun _ => 0), rfl, rfl, m0.ren hNb, ⟨a1, c1, rfl, (h1.renV hN lt0), (h1.renV hN lt0)⟩⟩
 ·refine E.cF rfl hc (E.skip (X.seqN (E.seq (E.seq (E.reg (L.mv Wt.no rfl rfl (L.bi Wt.no rfl rfl rfl rfl (L.as Wt.no rfl rfl (L.nil (X.seqN (E.block ?_)))))))))))
  obtain ⟨o26, eo26, hm⟩ := bindS hm
  refine E.cut (x := .exit 0) (fun e w => ∃ (s30 : Sig), Mv (Up N (One t0)) s s30 ∧ RowT (rK .i64) s30 t0 3 a1 c1 o26.2 ∧ e = [(5, .int .i64 o26.1), (0, .slice a1 o26.2.length c1)] ∧ w = s30.w) ?_ ?_
  ·rintro _ _ ⟨s30, m0, h1, rfl, rfl⟩
   refine X.blkE (X.seqN (E.seq (E.reg (L.mv Wt.no rfl rfl (L.mv Wt.no rfl rfl ?_)))))
   obtain ⟨x31, ex31, hm⟩ := bindS hm
   refine L.slo (r := (rK .i64)) sl23 h1 Wt.no rfl rfl ex31 rfl ?_
   obtain ⟨x34, ex34, hm⟩ := bindS hm
   obtain ⟨kx34, rfl⟩ := clr_some ex34
   refine L.clr (r := (rK .i64)) (lo := o26.1.toNat) (z0 := (0 : Int)) sl23 zz3 rfl rfl (fun _ => rfl) kx34 h1 (tgpV zt0) Wt.no rfl fun s32 m33 h1 => ?_
   have elx34 : (o26.2.take o26.1.toNat ++ List.replicate (o26.2.length - o26.1.toNat) (0 : Int)).length = o26.2.length := clr_len kx34
   replace m0 := m0.trans (m33.one (.inr rfl))
   refine L.reval (d := 0) rfl elx34 (L.nil (X.seqN (E.seq (E.reg (L.mv Wt.no rfl rfl (L.mv Wt.no rfl rfl ?_))))))
   obtain ⟨x35, ex35, hm⟩ := bindS hm
   refine L.sho (r := (rK .i64)) sl23 h1 Wt.no rfl rfl ex35 rfl fun a36 c36 h36 => L.as Wt.no rfl rfl (L.nil (X.seqN (E.ret ?_)))
   obtain rfl := Option.some.inj hm
   exact X.rt (.inl rfl) Try.results48 (Rs.tmp rfl Rs.nil) rfl ⟨_, (s32).ren N (fun _ => 0), rfl, rfl, m0.ren hNb, ⟨a36, c36, rfl, (h36.renV hN lt0), (h1.renV hN lt0)⟩⟩
  intro K37
  refine E.iter (fun (st26 : Int × Int × List Int) (e : List (Nat × Value)) (w : World) => ∃ (s29 : Sig), Mv (Up N (One t0)) s s29 ∧ RowT (rK .i64) s29 t0 3 a1 c1 st26.2.2 ∧ FV1 Try.prog s29 vp1 (fun (x0 : Int) => [.int .i64 x0]) (fun (r : Bool) => .bool r) p1 ∧ e = [(6, .int .i64 st26.1), (5, .int .i64 st26.2.1), (0, .slice a1 st26.2.2.length c1), (1, vp1)] ∧ w = s29.w) eo26 ⟨s4, m0, h1, hp1, rfl, rfl⟩ (Sub.rf rfl) ?_
  rintro st26 res26 hm ih26 ho26 _ _ ⟨s29, m0, h1, hp1, rfl, rfl⟩
  unfold m_slices_DeleteFunc_int_l1 at hm
  refine E.seq (E.seq (E.reg (L.mv Wt.no rfl rfl (L.mv Wt.no rfl rfl (L.len sl23 Wt.no rfl rfl (L.bi Wt.no rfl rfl rfl rfl (L.nil (X.seqN ?_))))))))
  rcases ifS hm with ⟨hc, hm⟩ | ⟨hc, hm⟩
  ·refine E.cT rfl hc (E.skip (X.seqN (E.seqJ (fun e w => ∃ (s40 : Sig) (n38 : Int) (l39 : List Int), m_slices_DeleteFunc_int_j1 st26 n38 l39 = some res26 ∧ Mv (Up N (One t0)) s s40 ∧ RowT (rK .i64) s40 t0 3 a1 c1 l39 ∧ FV1 Try.prog s40 vp1 (fun (x0 : Int) => [.int .i64 x0]) (fun (r : Bool) => .bool r) p1 ∧ e = [(5, .int .i64 n38), (0, .slice a1 l39.length c1), (6, .int .i64 st26.1), (1, vp1)] ∧ w = s40.w) ?_ ?_)))
   ·rintro _ _ ⟨s40, n38, l39, hm, m0, h1, hp1, rfl, rfl⟩
    unfold m_slices_DeleteFunc_int_j1 at hm
    exact E.reg (L.mv Wt.no rfl rfl (L.bi Wt.no rfl rfl rfl rfl (L.as Wt.no rfl rfl (L.nil (X.sub (ih26 _ (Option.some.inj hm).symm _ _ ⟨s40, m0, h1, hp1, rfl, rfl⟩) (Sub.rf rfl))))))
   ·intro Jj41
    refine E.block (E.seq (E.reg (L.mv Wt.no rfl rfl (L.mv Wt.no rfl rfl ?_))))
    obtain ⟨x42, ex42, hm⟩ := bindS hm
    refine L.ir (r := (rK .i64)) sl23 h1 Wt.no rfl rfl ex42 rfl fun b43 o43 cc43 me43 rd43 sp43 => ?_
    obtain rfl := rd43
    refine L.ld (j := 0) me43 nag3 Wt.no rfl rfl rfl rfl (L.as Wt.no rfl rfl (L.nil (X.seqN (E.seq (E.reg (L.mv Wt.no rfl rfl (L.mv Wt.no rfl rfl ?_)))))))
    obtain ⟨r44, er44, hm⟩ := bindS hm
    refine L.fv1 (y := x42) hp1 rfl rfl Wt.no rfl rfl er44 rfl fun s45 m46 => ?_
    replace m0 := m0.trans m46.no
    replace h1 := h1.mv m46 no_No no_No
    replace hp1 := hp1.mono (m46.le no_No)
    refine L.not Wt.no rfl rfl (L.nil (X.seqN ?_))
    rcases ifS hm with ⟨hc, hm⟩ | ⟨hc, hm⟩
    ·refine E.cT rfl hc (E.seq (E.reg (L.mv Wt.no rfl rfl (L.mv Wt.no rfl rfl (L.mv Wt.no rfl rfl ?_)))))
     obtain ⟨x47, ex47, hm⟩ := bindS hm
     refine L.ir (r := (rK .i64)) sl23 h1 Wt.no rfl rfl ex47 rfl fun b48 o48 cc48 me48 rd48 sp48 => ?_
     obtain rfl := rd48
     obtain ⟨x49, ex49, hm⟩ := bindS hm
     have elx49 := upd_len ex49
     refine L.su (fo := 0) (c := [.int .i64 x42]) (z := x42) h1 sp48 ex47 ex49 (tgpV zt0) nag3.sz Wt.no rfl rfl rfl rfl rfl rfl (fun c0 hc0 => by obtain rfl := hc0; exact rfl) fun s50 m51 h1 => ?_
     replace m0 := m0.trans (m51.one (.inr rfl))
     replace hp1 := hp1.mono (m51.le (tgz zt0))
     exact L.reval (d := 0) rfl elx49 (L.nil (X.seqN (E.reg (L.mv Wt.no rfl rfl (L.bi Wt.no rfl rfl rfl rfl (L.as Wt.no rfl rfl (L.nil (X.blkN (X.sub (Jj41 _ _ ⟨s50, (W (st26.2.1 + 1)), x49, hm, m0, h1, hp1, rfl, rfl⟩) (Sub.rf rfl))))))))))
    ·exact E.cF rfl hc (E.skip (X.blkN (X.sub (Jj41 _ _ ⟨s45, st26.2.1, st26.2.2, hm, m0, h1, hp1, rfl, rfl⟩) (Sub.rf rfl))))
  ·refine E.cF rfl hc (E.exit (X.seqX (X.seqX ?_)))
   have hx := ho26 _ (Option.some.inj hm).symm
   subst hx
   exact X.sub (K37 _ _ ⟨s29, m0, h1, rfl, rfl⟩) (Sub.rf rfl)

theorem ag49 : Ag Try.prog 49 27 := Ag.mk' Try.underlying49 rfl (by kernel_rfl)
theorem cf46 : Cf Try.prog 46 := Cf.mk Try.func46 (by kernel_rfl) (by kernel_rfl)
theorem cf47 : Cf Try.prog 47 := Cf.mk Try.func47 (by kernel_rfl) (by kernel_rfl)
theorem cf48 : Cf Try.prog 48 := Cf.mk Try.func48 (by kernel_rfl) (by kernel_rfl)
theorem cf49 : Cf Try.prog 49 := Cf.mk Try.func49 (by kernel_rfl) (by kernel_rfl)
theorem fa51_0 : FA Try.prog 51 0 0 := FA.mk Try.underlying51 rfl rfl ⟨1, by decide, by kernel_rfl⟩
theorem fa51_1 : FA Try.prog 51 1 1 := FA.mk Try.underlying51 rfl rfl ⟨27, by decide, by kernel_rfl⟩
theorem fa51_2 : FA Try.prog 51 2 28 := FA.mk Try.underlying51 rfl rfl ⟨1, by decide, by kernel_rfl⟩
theorem nag45 : NAg Try.prog 45 := NAg.mk' Try.underlying45 rfl (by kernel_rfl)
/-- What overseerlaw53.Make computes. -/
noncomputable def m_overseerlaw53_Make (p0 : Int × (Int × Int × ((Int × Int × Int × Int × Int) × (Int × Int × Int × Int × Int) × (Int × Int × Int × Int × Int) × (Int × Int × Int × Int × Int) × (Int × Int × Int × Int × Int))) × Int) : Option ((List Int × Int × List Int × (List (Int × Int × Int))) × List Int) :=
  (m_overseerlaw03_Set_Events p0.1).bind fun r16 =>
  (m_overseerlaw03_Make r16 ((p0.2.1.1.tmod 5), p0.2.1.2)).bind fun r23 =>
  (m_overseerlaw03_Set_Events p0.2.2).bind fun r45 =>
  (m_slices_DeleteFunc_int r45 (m_overseerlaw53_Make_1 r23)).bind fun r52 =>
  (lenEq r52.2 r45).bind fun _ =>
  some (r23, r52.1)
set_option maxRecDepth 100000 in
set_option maxHeartbeats 8000000 in
theorem m_overseerlaw53_Make_c {s : Sig} {p0 : Int × (Int × Int × ((Int × Int × Int × Int × Int) × (Int × Int × Int × Int × Int) × (Int × Int × Int × Int × Int) × (Int × Int × Int × Int × Int) × (Int × Int × Int × Int × Int))) × Int} {u3 : Nat} {r : (List Int × Int × List Int × (List (Int × Int × Int))) × List Int} (hm : m_overseerlaw53_Make p0 = some r) :
    Calls Try.prog 16 #[.agg #[.int .u8 p0.1, .int .u8 p0.2.1.1, .int .u8 p0.2.1.2.1, .int .u8 p0.2.1.2.2.1.1, .int .u8 p0.2.1.2.2.1.2.1, .int .u8 p0.2.1.2.2.1.2.2.1, .int .u8 p0.2.1.2.2.1.2.2.2.1, .int .u8 p0.2.1.2.2.1.2.2.2.2, .int .u8 p0.2.1.2.2.2.1.1, .int .u8 p0.2.1.2.2.2.1.2.1, .int .u8 p0.2.1.2.2.2.1.2.2.1, .int .u8 p0.2.1.2.2.2.1.2.2.2.1, .int .u8 p0.2.1.2.2.2.1.2.2.2.2, .int .u8 p0.2.1.2.2.2.2.1.1, .int .u8 p0.2.1.2.2.2.2.1.2.1, .int .u8 p0.2.1.2.2.2.2.1.2.2.1, .int .u8 p0.2.1.2.2.2.2.1.2.2.2.1, .int .u8 p0.2.1.2.2.2.2.1.2.2.2.2, .int .u8 p0.2.1.2.2.2.2.2.1.1, .int .u8 p0.2.1.2.2.2.2.2.1.2.1, .int .u8 p0.2.1.2.2.2.2.2.1.2.2.1, .int .u8 p0.2.1.2.2.2.2.2.1.2.2.2.1, .int .u8 p0.2.1.2.2.2.2.2.1.2.2.2.2, .int .u8 p0.2.1.2.2.2.2.2.2.1, .int .u8 p0.2.1.2.2.2.2.2.2.2.1, .int .u8 p0.2.1.2.2.2.2.2.2.2.2.1, .int .u8 p0.2.1.2.2.2.2.2.2.2.2.2.1, .int .u8 p0.2.1.2.2.2.2.2.2.2.2.2.2, .int .u8 p0.2.2]] s.w (RetS No s fun v s' => ∃ (a1 : Option Addr) (c1 : Nat) (a2 : Option Addr) (c2 : Nat) (a3 : Option Addr) (c3 : Nat) (a4 : Option Addr) (c4 : Nat), v = .tuple #[.agg #[.slice a1 r.1.1.length c1, .int .i64 r.1.2.1, .slice a2 r.1.2.2.1.length c2, .slice a3 r.1.2.2.2.length c3], .slice a4 r.2.length c4] ∧ RdL (rK .i64) s' a1 c1 r.1.1 ∧ RdL (rK .i64) s' a2 c2 r.1.2.2.1 ∧ RdL (rP (rK .i64) (rP (rK .i64) (rK .i64))) s' a3 c3 r.1.2.2.2 ∧ RowT (rK .i64) s' u3 3 a4 c4 r.2) := by
 unfold m_overseerlaw53_Make at hm
 obtain ⟨N, hN, hNb⟩ := s.fresh
 have m0 : Mv (Up N No) s s := Mv.refl _ _
 refine E.entry Try.func16 rfl Try.ntmps16 rfl rfl (E.seq (E.reg (L.box (N + 0) Wt.no rfl rfl rfl fun b5 s6 m7 bx5 => ?_)))
 replace m0 := m0.trans m7.no
 refine L.al (N + 1) zz26 rfl Wt.no rfl fun b8 s9 m10 bx8 => ?_
 replace m0 := m0.trans m10.no
 replace bx5 := bx5.mv m10 no_No
 refine L.as Wt.no rfl rfl (L.nil (X.seqN (E.seq (E.reg (L.fa fa51_1 Wt.no rfl rfl (L.fa fa49_0 Wt.no rfl rfl (L.ld (j := 1) bx5.mem nag5 Wt.no rfl rfl rfl rfl (L.rem Wt.no rfl rfl (by decide) rfl (L.fa fa51_1 Wt.no rfl rfl (L.fa fa49_0 Wt.no rfl rfl (L.st (c := [.int .u8 (p0.2.1.1.tmod 5)]) (cs' := #[.int .u8 p0.1, .int .u8 (p0.2.1.1.tmod 5), .int .u8 p0.2.1.2.1, .int .u8 p0.2.1.2.2.1.1, .int .u8 p0.2.1.2.2.1.2.1, .int .u8 p0.2.1.2.2.1.2.2.1, .int .u8 p0.2.1.2.2.1.2.2.2.1, .int .u8 p0.2.1.2.2.1.2.2.2.2, .int .u8 p0.2.1.2.2.2.1.1, .int .u8 p0.2.1.2.2.2.1.2.1, .int .u8 p0.2.1.2.2.2.1.2.2.1, .int .u8 p0.2.1.2.2.2.1.2.2.2.1, .int .u8 p0.2.1.2.2.2.1.2.2.2.2, .int .u8 p0.2.1.2.2.2.2.1.1, .int .u8 p0.2.1.2.2.2.2.1.2.1, .int .u8 p0.2.1.2.2.2.2.1.2.2.1, .int .u8 p0.2.1.2.2.2.2.1.2.2.2.1, .int .u8 p0.2.1.2.2.2.2.1.2.2.2.2, .int .u8 p0.2.1.2.2.2.2.2.1.1, .int .u8 p0.2.1.2.2.2.2.2.1.2.1, .int .u8 p0.2.1.2.2.2.2.2.1.2.2.1, .int .u8 p0.2.1.2.2.2.2.2.1.2.2.2.1, .int .u8 p0.2.1.2.2.2.2.2.1.2.2.2.2, .int .u8 p0.2.1.2.2.2.2.2.2.1, .int .u8 p0.2.1.2.2.2.2.2.2.2.1, .int .u8 p0.2.1.2.2.2.2.2.2.2.2.1, .int .u8 p0.2.1.2.2.2.2.2.2.2.2.2.1, .int .u8 p0.2.1.2.2.2.2.2.2.2.2.2.2, .int .u8 p0.2.2]) bx5 nag5.sz Wt.no rfl rfl rfl rfl rfl (Nat.le_of_ble_eq_true rfl) rfl fun s11 m12 bx5 => ?_)))))))))))
 replace m0 := m0.trans (m12.one up)
 replace bx8 := bx8.mv m12 (tgN (by decide))
 refine L.nil (X.seqN (E.seq ?_))
 obtain ⟨r16, er16, hm⟩ := bindS hm
 obtain ⟨r23, er23, hm⟩ := bindS hm
 refine E.draw [[], [0], [0, 1], [], [3], [0, 1, 2, 3, 4], [], [0, 1, 2, 3, 4, 5, 6]] (fun D e sx => Mv (One (N + 2)) s11 sx ∧ Sub [(2, .pointer (some ⟨b8, 0, none⟩)), (1, .pointer (some ⟨b5, 0, none⟩))] e ∧ (D 0 = true → (Env.get e 11 = some (.pointer (some ⟨b5, 0, none⟩)))) ∧ (D 1 = true → (Env.get e 12 = some (.int .u8 p0.1))) ∧ (D 2 = true → (∃ (a19 : Option Addr) (c19 : Nat), Env.get e 13 = some (.slice a19 r16.length c19) ∧ RdL (rK .i64) sx a19 c19 r16)) ∧ (D 3 = true → (Env.get e 14 = some (.pointer (some ⟨b5, 1, none⟩)))) ∧ (D 4 = true → (Env.get e 15 = some (.agg #[.int .u8 (p0.2.1.1.tmod 5), .int .u8 p0.2.1.2.1, .int .u8 p0.2.1.2.2.1.1, .int .u8 p0.2.1.2.2.1.2.1, .int .u8 p0.2.1.2.2.1.2.2.1, .int .u8 p0.2.1.2.2.1.2.2.2.1, .int .u8 p0.2.1.2.2.1.2.2.2.2, .int .u8 p0.2.1.2.2.2.1.1, .int .u8 p0.2.1.2.2.2.1.2.1, .int .u8 p0.2.1.2.2.2.1.2.2.1, .int .u8 p0.2.1.2.2.2.1.2.2.2.1, .int .u8 p0.2.1.2.2.2.1.2.2.2.2, .int .u8 p0.2.1.2.2.2.2.1.1, .int .u8 p0.2.1.2.2.2.2.1.2.1, .int .u8 p0.2.1.2.2.2.2.1.2.2.1, .int .u8 p0.2.1.2.2.2.2.1.2.2.2.1, .int .u8 p0.2.1.2.2.2.2.1.2.2.2.2, .int .u8 p0.2.1.2.2.2.2.2.1.1, .int .u8 p0.2.1.2.2.2.2.2.1.2.1, .int .u8 p0.2.1.2.2.2.2.2.1.2.2.1, .int .u8 p0.2.1.2.2.2.2.2.1.2.2.2.1, .int .u8 p0.2.1.2.2.2.2.2.1.2.2.2.2, .int .u8 p0.2.1.2.2.2.2.2.2.1, .int .u8 p0.2.1.2.2.2.2.2.2.2.1, .int .u8 p0.2.1.2.2.2.2.2.2.2.2.1, .int .u8 p0.2.1.2.2.2.2.2.2.2.2.2.1, .int .u8 p0.2.1.2.2.2.2.2.2.2.2.2.2]))) ∧ (D 5 = true → (∃ (a26 : Option Addr) (c26 : Nat) (a27 : Option Addr) (c27 : Nat) (a28 : Option Addr) (c28 : Nat), Env.get e 16 = some (.agg #[.slice a26 r23.1.length c26, .int .i64 r23.2.1, .slice a27 r23.2.2.1.length c27, .slice a28 r23.2.2.2.length c28]) ∧ RowT (rK .i64) sx (N + 4) 3 a26 c26 r23.1 ∧ RowT (rK .i64) sx (N + 5) 3 a27 c27 r23.2.2.1 ∧ RowT (rP (rK .i64) (rP (rK .i64) (rK .i64))) sx (N + 6) 28 a28 c28 r23.2.2.2)) ∧ (D 6 = true → (∃ (b30 : Nat), Env.get e 4 = some (.pointer (some ⟨b30, 0, none⟩)))) ∧ (D 6 = true → D 7 = false → ∀ (b30 : Nat), Env.get e 4 = some (.pointer (some ⟨b30, 0, none⟩)) → Bx sx (N + 2) b30 #[.slice none 0 0, .int .i64 0, .slice none 0 0, .slice none 0 0] 26) ∧ (D 7 = true → ∀ (a26 : Option Addr) (c26 : Nat) (a27 : Option Addr) (c27 : Nat) (a28 : Option Addr) (c28 : Nat) (b30 : Nat), Env.get e 16 = some (.agg #[.slice a26 r23.1.length c26, .int .i64 r23.2.1, .slice a27 r23.2.2.1.length c27, .slice a28 r23.2.2.2.length c28]) → Env.get e 4 = some (.pointer (some ⟨b30, 0, none⟩)) → Bx sx (N + 2) b30 #[.slice a26 r23.1.length c26, .int .i64 r23.2.1, .slice a27 r23.2.2.1.length c27, .slice a28 r23.2.2.2.length c28] 26)) (by kernel_rfl) (by kernel_rfl) (by kernel_rfl) ?_ ?_ ?_
 ·intro sz mz
  exact ⟨mz.no, (Sub.rf rfl), nofun, nofun, nofun, nofun, nofun, nofun, nofun, nofun, nofun⟩
 ·refine ⟨?_, ?_, ?_, ?_, ?_, ?_, ?_, ?_, trivial⟩
  ·rintro D e s13 ⟨im, ib, i0, t_⟩ hk hf ha
   have kn : Kn e [(1, .pointer (some ⟨b5, 0, none⟩))] := ⟨(ib 1 _ rfl), trivial⟩
   exact L.kns _ kn (L.fa fa51_0 Wt.no rfl rfl (L.nil (X.dk kn ⟨im, Sub.fresh ib rfl, fun _ => rfl, t_⟩)))
  ·rintro D e s14 ⟨im, ib, i0, i1, t_⟩ hk hf ha
   obtain ⟨d0, -⟩ := ha
   have g0_ := i0 d0
   have bx5 := bx5.mv im (tgN (by decide))
   have kn : Kn e [(11, .pointer (some ⟨b5, 0, none⟩))] := ⟨g0_, trivial⟩
   exact L.kns _ kn (L.ld (j := 0) bx5.mem nag45 Wt.no rfl rfl rfl rfl (L.nil (X.dk kn ⟨im, Sub.fresh ib rfl, i0, fun _ => rfl, t_⟩)))
  ·rintro D e s15 ⟨im, ib, i0, i1, i2, i3, i4, i5, i6, i7, i8⟩ hk hf ha
   obtain ⟨d0, d1, -⟩ := ha
   have g1_ := i1 d1
   have kn : Kn e [(12, .int .u8 p0.1)] := ⟨g1_, trivial⟩
   refine L.kns _ kn (L.ca cf47 rfl rfl Wt.no rfl (m_overseerlaw03_Set_Events_c (s := s15) (p0 := p0.1) (u0 := 0) er16) rfl ?_)
   rintro _ s17 m18 ⟨a19, c19, rfl, h19⟩
   replace h19 := h19.p
   exact L.nil (X.dk kn ⟨im.trans m18.no, Sub.fresh ib rfl, i0, i1, fun _ => ⟨a19, c19, rfl, h19⟩, i3, i4, fun z => let ⟨a26, c26, a27, c27, a28, c28, q, h26, h27, h28⟩ := i5 z; ⟨a26, c26, a27, c27, a28, c28, q, (h26.mv m18 no_No no_No), (h27.mv m18 no_No no_No), (h28.mv m18 no_No no_No)⟩, i6, fun z z2 b30 q6 => ((i7 z z2 b30 q6).mv m18 no_No), fun z a26 c26 a27 c27 a28 c28 b30 q5 q6 => ((i8 z a26 c26 a27 c27 a28 c28 b30 q5 q6).mv m18 no_No)⟩)
  ·rintro D e s20 ⟨im, ib, i0, i1, i2, i3, t_⟩ hk hf ha
   have kn : Kn e [(1, .pointer (some ⟨b5, 0, none⟩))] := ⟨(ib 1 _ rfl), trivial⟩
   exact L.kns _ kn (L.fa fa51_1 Wt.no rfl rfl (L.nil (X.dk kn ⟨im, Sub.fresh ib rfl, i0, i1, i2, fun _ => rfl, t_⟩)))
  ·rintro D e s21 ⟨im, ib, i0, i1, i2, i3, i4, t_⟩ hk hf ha
   obtain ⟨d3, -⟩ := ha
   have g3_ := i3 d3
   have bx5 := bx5.mv im (tgN (by decide))
   have kn : Kn e [(14, .pointer (some ⟨b5, 1, none⟩))] := ⟨g3_, trivial⟩
   exact L.kns _ kn (L.lg (j := 1) (cs := [.int .u8 (p0.2.1.1.tmod 5), .int .u8 p0.2.1.2.1, .int .u8 p0.2.1.2.2.1.1, .int .u8 p0.2.1.2.2.1.2.1, .int .u8 p0.2.1.2.2.1.2.2.1, .int .u8 p0.2.1.2.2.1.2.2.2.1, .int .u8 p0.2.1.2.2.1.2.2.2.2, .int .u8 p0.2.1.2.2.2.1.1, .int .u8 p0.2.1.2.2.2.1.2.1, .int .u8 p0.2.1.2.2.2.1.2.2.1, .int .u8 p0.2.1.2.2.2.1.2.2.2.1, .int .u8 p0.2.1.2.2.2.1.2.2.2.2, .int .u8 p0.2.1.2.2.2.2.1.1, .int .u8 p0.2.1.2.2.2.2.1.2.1, .int .u8 p0.2.1.2.2.2.2.1.2.2.1, .int .u8 p0.2.1.2.2.2.2.1.2.2.2.1, .int .u8 p0.2.1.2.2.2.2.1.2.2.2.2, .int .u8 p0.2.1.2.2.2.2.2.1.1, .int .u8 p0.2.1.2.2.2.2.2.1.2.1, .int .u8 p0.2.1.2.2.2.2.2.1.2.2.1, .int .u8 p0.2.1.2.2.2.2.2.1.2.2.2.1, .int .u8 p0.2.1.2.2.2.2.2.1.2.2.2.2, .int .u8 p0.2.1.2.2.2.2.2.2.1, .int .u8 p0.2.1.2.2.2.2.2.2.2.1, .int .u8 p0.2.1.2.2.2.2.2.2.2.2.1, .int .u8 p0.2.1.2.2.2.2.2.2.2.2.2.1, .int .u8 p0.2.1.2.2.2.2.2.2.2.2.2.2]) bx5.mem ag49 Wt.no rfl rfl rfl rfl rfl (L.nil (X.dk kn ⟨im, Sub.fresh ib rfl, i0, i1, i2, i3, fun _ => rfl, t_⟩)))
  ·rintro D e s22 ⟨im, ib, i0, i1, i2, i3, i4, i5, i6, i7, i8⟩ hk hf ha
   obtain ⟨d0, d1, d2, d3, d4, -⟩ := ha
   obtain ⟨a19, c19, g2_, h19⟩ := i2 d2
   have g4_ := i4 d4
   have kn : Kn e [(13, .slice a19 r16.length c19), (15, .agg #[.int .u8 (p0.2.1.1.tmod 5), .int .u8 p0.2.1.2.1, .int .u8 p0.2.1.2.2.1.1, .int .u8 p0.2.1.2.2.1.2.1, .int .u8 p0.2.1.2.2.1.2.2.1, .int .u8 p0.2.1.2.2.1.2.2.2.1, .int .u8 p0.2.1.2.2.1.2.2.2.2, .int .u8 p0.2.1.2.2.2.1.1, .int .u8 p0.2.1.2.2.2.1.2.1, .int .u8 p0.2.1.2.2.2.1.2.2.1, .int .u8 p0.2.1.2.2.2.1.2.2.2.1, .int .u8 p0.2.1.2.2.2.1.2.2.2.2, .int .u8 p0.2.1.2.2.2.2.1.1, .int .u8 p0.2.1.2.2.2.2.1.2.1, .int .u8 p0.2.1.2.2.2.2.1.2.2.1, .int .u8 p0.2.1.2.2.2.2.1.2.2.2.1, .int .u8 p0.2.1.2.2.2.2.1.2.2.2.2, .int .u8 p0.2.1.2.2.2.2.2.1.1, .int .u8 p0.2.1.2.2.2.2.2.1.2.1, .int .u8 p0.2.1.2.2.2.2.2.1.2.2.1, .int .u8 p0.2.1.2.2.2.2.2.1.2.2.2.1, .int .u8 p0.2.1.2.2.2.2.2.1.2.2.2.2, .int .u8 p0.2.1.2.2.2.2.2.2.1, .int .u8 p0.2.1.2.2.2.2.2.2.2.1, .int .u8 p0.2.1.2.2.2.2.2.2.2.2.1, .int .u8 p0.2.1.2.2.2.2.2.2.2.2.2.1, .int .u8 p0.2.1.2.2.2.2.2.2.2.2.2.2])] := ⟨g2_, g4_, trivial⟩
   refine L.kns _ kn (L.ca cf46 rfl rfl Wt.no rfl (m_overseerlaw03_Make_c (s := s22) (p0 := r16) (p1 := ((p0.2.1.1.tmod 5), p0.2.1.2)) (u0 := (N + 4)) (u1 := (N + 5)) (u2 := (N + 6)) h19 er23) rfl ?_)
   rintro _ s24 m25 ⟨a26, c26, a27, c27, a28, c28, rfl, h26, h27, h28⟩
   exact L.nil (X.dk kn ⟨im.trans m25.no, Sub.fresh ib rfl, i0, i1, fun z => let ⟨a19, c19, q, h19⟩ := i2 z; ⟨a19, c19, q, (h19.mono (m25.le no_No))⟩, i3, i4, fun _ => ⟨a26, c26, a27, c27, a28, c28, rfl, h26, h27, h28⟩, i6, fun z z2 b30 q6 => ((i7 z z2 b30 q6).mv m25 no_No), fun z => Bool.noConfusion ((hf 7 (Nat.le_of_ble_eq_true rfl) rfl).symm.trans z)⟩)
  ·rintro D e s29 ⟨im, ib, i0, i1, i2, i3, i4, i5, i6, i7, i8⟩ hk hf ha
   exact L.al (N + 2) zz26 rfl Wt.no rfl fun b30 s31 m32 bx30 => L.nil (X.dr (s := s31) (e' := (4, .pointer (some ⟨b30, 0, none⟩)) :: e) (Sub.both (Sub.refl)) ⟨im.trans m32.no, Sub.fresh ib rfl, i0, i1, fun z => let ⟨a19, c19, q, h19⟩ := i2 z; ⟨a19, c19, q, (h19.mono (m32.le no_No))⟩, i3, i4, fun z => let ⟨a26, c26, a27, c27, a28, c28, q, h26, h27, h28⟩ := i5 z; ⟨a26, c26, a27, c27, a28, c28, q, (h26.mv m32 no_No no_No), (h27.mv m32 no_No no_No), (h28.mv m32 no_No no_No)⟩, fun _ => ⟨b30, rfl⟩, fun _ _ _ q6 => by cases (show some (.pointer (some ⟨b30, 0, none⟩) : Value) = some _ from q6); exact bx30, fun z => Bool.noConfusion ((hf 7 (Nat.le_of_ble_eq_true rfl) rfl).symm.trans z)⟩)
  ·rintro D e s33 ⟨im, ib, i0, i1, i2, i3, i4, i5, i6, i7, i8⟩ hk hf ha
   obtain ⟨d0, d1, d2, d3, d4, d5, d6, -⟩ := ha
   obtain ⟨a26, c26, a27, c27, a28, c28, g5_, h26, h27, h28⟩ := i5 d5
   obtain ⟨b30, g6_⟩ := i6 d6
   obtain bx30 := i7 d6 hk b30 g6_
   have kn : Kn e [(4, .pointer (some ⟨b30, 0, none⟩)), (16, .agg #[.slice a26 r23.1.length c26, .int .i64 r23.2.1, .slice a27 r23.2.2.1.length c27, .slice a28 r23.2.2.2.length c28])] := ⟨g6_, g5_, trivial⟩
   exact L.kns _ kn (L.st (c := [.slice a26 r23.1.length c26, .int .i64 r23.2.1, .slice a27 r23.2.2.1.length c27, .slice a28 r23.2.2.2.length c28]) (cs' := #[.slice a26 r23.1.length c26, .int .i64 r23.2.1, .slice a27 r23.2.2.1.length c27, .slice a28 r23.2.2.2.length c28]) bx30 ag26.sz Wt.no rfl rfl rfl rfl rfl (Nat.le_of_ble_eq_true rfl) rfl fun s34 m35 bx30 => L.nil (X.dn kn ⟨im.trans (m35.one rfl), ib, i0, i1, fun z => let ⟨a19, c19, q, h19⟩ := i2 z; ⟨a19, c19, q, (h19.mono (m35.le (tg0 hN)))⟩, i3, i4, fun z => let ⟨a26, c26, a27, c27, a28, c28, q, h26, h27, h28⟩ := i5 z; ⟨a26, c26, a27, c27, a28, c28, q, (h26.mv m35 (tgN (by decide)) (tg0 hN)), (h27.mv m35 (tgN (by decide)) (tg0 hN)), (h28.mv m35 (tgN (by decide)) (tg0 hN))⟩, i6, fun _ z => Bool.noConfusion (show true = false from z), fun _ _ _ _ _ _ _ _ q5 q6 => by cases g5_.symm.trans q5; cases g6_.symm.trans q6; exact bx30⟩))
 ·rintro D e s36 hD ⟨im, ib, i0, i1, i2, i3, i4, i5, i6, i7, i8⟩
  obtain ⟨a26, c26, a27, c27, a28, c28, g5_, h26, h27, h28⟩ := i5 (hD 5 rfl)
  obtain ⟨b30, g6_⟩ := i6 (hD 6 rfl)
  obtain bx30 := i8 (hD 7 rfl) a26 c26 a27 c27 a28 c28 b30 g5_ g6_
  have bx8 := bx8.mv im (tgN (by decide))
  have bx5 := bx5.mv im (tgN (by decide))
  have m0 := m0.trans (im.one up)
  refine X.sub (e' := [(4, .pointer (some ⟨b30, 0, none⟩)), (2, .pointer (some ⟨b8, 0, none⟩)), (1, .pointer (some ⟨b5, 0, none⟩))]) ?_ (Sub.cons g6_ (Sub.cons (ib 2 _ rfl) (Sub.cons (ib 1 _ rfl) Sub.nil)))
  refine X.seqN (E.seq ?_)
  have m37 := Sig.fz_mv (N + 2) s36
  replace bx30 := bx30.fz (tgn hN)
  replace m0 := m0.trans (m37.one up)
  replace h26 := h26.mv m37 (tgN (by decide)) (tg0 hN)
  replace h27 := h27.mv m37 (tgN (by decide)) (tg0 hN)
  replace h28 := h28.mv m37 (tgN (by decide)) (tg0 hN)
  replace bx8 := bx8.mv m37 (tgN (by decide))
  replace bx5 := bx5.mv m37 (tgN (by decide))
  refine E.toR (s' := (Sig.fz (N + 2) s36)) rfl ?_
  have m38 := Sig.fz_mv (N + 4) (Sig.fz (N + 2) s36)
  replace h26 := h26.fz (tgn hN)
  replace m0 := m0.trans (m38.one up)
  replace bx30 := bx30.mv m38 (tg0 hN)
  replace h27 := h27.mv m38 (tgN (by decide)) (tg0 hN)
  replace h28 := h28.mv m38 (tgN (by decide)) (tg0 hN)
  replace bx8 := bx8.mv m38 (tgN (by decide))
  replace bx5 := bx5.mv m38 (tgN (by decide))
  refine E.toR (s' := (Sig.fz (N + 4) (Sig.fz (N + 2) s36))) rfl ?_
  have m39 := Sig.fz_mv (N + 5) (Sig.fz (N + 4) (Sig.fz (N + 2) s36))
  replace h27 := h27.fz (tgn hN)
  replace m0 := m0.trans (m39.one up)
  replace bx30 := bx30.mv m39 (tg0 hN)
  replace h26 := h26.mono (m39.le (tg0 hN))
  replace h28 := h28.mv m39 (tgN (by decide)) (tg0 hN)
  replace bx8 := bx8.mv m39 (tgN (by decide))
  replace bx5 := bx5.mv m39 (tgN (by decide))
  refine E.toR (s' := (Sig.fz (N + 5) (Sig.fz (N + 4) (Sig.fz (N + 2) s36)))) rfl ?_
  have m40 := Sig.fz_mv (N + 6) (Sig.fz (N + 5) (Sig.fz (N + 4) (Sig.fz (N + 2) s36)))
  replace h28 := h28.fz (tgn hN)
  replace m0 := m0.trans (m40.one up)
  replace bx30 := bx30.mv m40 (tg0 hN)
  replace h26 := h26.mono (m40.le (tg0 hN))
  replace h27 := h27.mono (m40.le (tg0 hN))
  replace bx8 := bx8.mv m40 (tgN (by decide))
  replace bx5 := bx5.mv m40 (tgN (by decide))
  refine E.toR (s' := (Sig.fz (N + 6) (Sig.fz (N + 5) (Sig.fz (N + 4) (Sig.fz (N + 2) s36))))) rfl ?_
  obtain ⟨r45, er45, hm⟩ := bindS hm
  obtain ⟨r52, er52, hm⟩ := bindS hm
  obtain ⟨_, qz56, hm⟩ := bindS hm
  have elz56 := len_some qz56
  refine E.draw [[], [], [1], [1, 2], [], [1, 2, 3, 4], [0, 1, 2, 3, 4, 5], [0, 1, 2, 3, 4, 5, 6]] (fun D e sx => Mv (fun t => t = (N + 1) ∨ t = (N + 3)) (Sig.fz (N + 6) (Sig.fz (N + 5) (Sig.fz (N + 4) (Sig.fz (N + 2) s36)))) sx ∧ Sub [(4, .pointer (some ⟨b30, 0, none⟩)), (2, .pointer (some ⟨b8, 0, none⟩)), (1, .pointer (some ⟨b5, 0, none⟩))] e ∧ (D 0 = true → (Env.get e 17 = some (.agg #[.slice a26 r23.1.length c26, .int .i64 r23.2.1, .slice a27 r23.2.2.1.length c27, .slice a28 r23.2.2.2.length c28]))) ∧ (D 1 = true → (Env.get e 18 = some (.pointer (some ⟨b5, 28, none⟩)))) ∧ (D 2 = true → (Env.get e 19 = some (.int .u8 p0.2.2))) ∧ (D 3 = true → (∃ (a48 : Option Addr) (c48 : Nat), Env.get e 20 = some (.slice a48 r45.length c48))) ∧ (D 4 = true → (Env.get e 21 = some (.func (.func 49) #[] #[.pointer (some ⟨b30, 0, none⟩)]) ∧ FV1 Try.prog sx (.func (.func 49) #[] #[.pointer (some ⟨b30, 0, none⟩)]) (fun (x0 : Int) => [.int .i64 x0]) (fun (r : Bool) => .bool r) (m_overseerlaw53_Make_1 r23))) ∧ (D 5 = true → (∃ (a55 : Option Addr) (c55 : Nat), Env.get e 22 = some (.slice a55 r52.1.length c55))) ∧ (D 7 = true → ∀ (a55 : Option Addr) (c55 : Nat), Env.get e 22 = some (.slice a55 r52.1.length c55) → (Env.get e 3 = some (.slice a55 r52.1.length c55))) ∧ (D 6 = false → Bx sx (N + 1) b8 #[.slice none 0 0, .int .i64 0, .slice none 0 0, .slice none 0 0] 26) ∧ (D 6 = true → Bx sx (N + 1) b8 #[.slice a26 r23.1.length c26, .int .i64 r23.2.1, .slice a27 r23.2.2.1.length c27, .slice a28 r23.2.2.2.length c28] 26) ∧ (D 3 = true → D 5 = false → ∀ (a48 : Option Addr) (c48 : Nat), Env.get e 20 = some (.slice a48 r45.length c48) → RowT (rK .i64) sx (N + 3) 3 a48 c48 r45) ∧ (D 5 = true → ∀ (a48 : Option Addr) (c48 : Nat) (a55 : Option Addr) (c55 : Nat), Env.get e 20 = some (.slice a48 r45.length c48) → Env.get e 22 = some (.slice a55 r52.1.length c55) → RowT (rK .i64) sx (N + 3) 3 a55 c55 r52.1 ∧ RowT (rK .i64) sx (N + 3) 3 a48 c48 r52.2)) (by kernel_rfl) (by kernel_rfl) (by kernel_rfl) ?_ ?_ ?_
  ·intro sz mz
   exact ⟨mz.no, (Sub.rf rfl), nofun, nofun, nofun, nofun, nofun, nofun, nofun, fun _ => bx8.mv mz no_No, nofun, nofun, nofun⟩
  ·refine ⟨?_, ?_, ?_, ?_, ?_, ?_, ?_, ?_, trivial⟩
   ·rintro D e s41 ⟨im, ib, i0, t_⟩ hk hf ha
    have bx30 := bx30.mv im (nor (tg0 hN) (tg0 hN))
    have kn : Kn e [(4, .pointer (some ⟨b30, 0, none⟩))] := ⟨(ib 4 _ rfl), trivial⟩
    exact L.kns _ kn (L.lg (j := 0) (cs := [.slice a26 r23.1.length c26, .int .i64 r23.2.1, .slice a27 r23.2.2.1.length c27, .slice a28 r23.2.2.2.length c28]) bx30.mem ag26 Wt.no rfl rfl rfl rfl rfl (L.nil (X.dk kn ⟨im, Sub.fresh ib rfl, fun _ => rfl, t_⟩)))
   ·rintro D e s42 ⟨im, ib, i0, i1, t_⟩ hk hf ha
    have kn : Kn e [(1, .pointer (some ⟨b5, 0, none⟩))] := ⟨(ib 1 _ rfl), trivial⟩
    exact L.kns _ kn (L.fa fa51_2 Wt.no rfl rfl (L.nil (X.dk kn ⟨im, Sub.fresh ib rfl, i0, fun _ => rfl, t_⟩)))
   ·rintro D e s43 ⟨im, ib, i0, i1, i2, t_⟩ hk hf ha
    obtain ⟨d1, -⟩ := ha
    have g1_ := i1 d1
    have bx5 := bx5.mv im (nor (tgN (by decide)) (tgN (by decide)))
    have kn : Kn e [(18, .pointer (some ⟨b5, 28, none⟩))] := ⟨g1_, trivial⟩
    exact L.kns _ kn (L.ld (j := 28) bx5.mem nag45 Wt.no rfl rfl rfl rfl (L.nil (X.dk kn ⟨im, Sub.fresh ib rfl, i0, i1, fun _ => rfl, t_⟩)))
   ·rintro D e s44 ⟨im, ib, i0, i1, i2, i3, i4, i5, i6, i7, i8, i9, i10⟩ hk hf ha
    obtain ⟨d1, d2, -⟩ := ha
    have g2_ := i2 d2
    have kn : Kn e [(19, .int .u8 p0.2.2)] := ⟨g2_, trivial⟩
    refine L.kns _ kn (L.ca cf47 rfl rfl Wt.no rfl (m_overseerlaw03_Set_Events_c (s := s44) (p0 := p0.2.2) (u0 := (N + 3)) er45) rfl ?_)
    rintro _ s46 m47 ⟨a48, c48, rfl, h48⟩
    exact L.nil (X.dk kn ⟨im.trans m47.no, Sub.fresh ib rfl, i0, i1, i2, fun _ => ⟨a48, c48, rfl⟩, fun z => let ⟨q, h50⟩ := i4 z; ⟨q, (h50.mono (m47.le no_No))⟩, i5, i6, fun z2 => ((i7 z2).mv m47 no_No), fun z => ((i8 z).mv m47 no_No), fun _ _ _ _ q3 => by cases (show some (.slice a48 r45.length c48 : Value) = some _ from q3); exact h48, fun z => Bool.noConfusion ((hf 5 (Nat.le_of_ble_eq_true rfl) rfl).symm.trans z)⟩)
   ·rintro D e s49 ⟨im, ib, i0, i1, i2, i3, i4, t_⟩ hk hf ha
    have bx30 := bx30.mv im (nor (tg0 hN) (tg0 hN))
    have h26 := h26.mono (im.le (nor (tg0 hN) (tg0 hN)))
    have h27 := h27.mono (im.le (nor (tg0 hN) (tg0 hN)))
    have h28 := h28.mono (im.le (nor (tg0 hN) (tg0 hN)))
    have kn : Kn e [(4, .pointer (some ⟨b30, 0, none⟩))] := ⟨(ib 4 _ rfl), trivial⟩
    refine L.kns _ kn ?_
    have h50 : FV1 Try.prog s49 (.func (.func 49) #[] #[.pointer (some ⟨b30, 0, none⟩)]) (fun (x0 : Int) => [.int .i64 x0]) (fun (r : Bool) => .bool r) (m_overseerlaw53_Make_1 r23) := ⟨49, #[], #[.pointer (some ⟨b30, 0, none⟩)], rfl, cf49, fun x0 r hm s' hl => by have hh := m_overseerlaw53_Make_1_c (s := s') (h26.mono hl) (h27.mono hl) (h28.mono hl) (bx30.le hl) hm; simpa using hh⟩
    exact L.mf Wt.no rfl rfl rfl (L.nil (X.dk kn ⟨im, Sub.fresh ib rfl, i0, i1, i2, i3, fun _ => ⟨rfl, h50⟩, t_⟩))
   ·rintro D e s51 ⟨im, ib, i0, i1, i2, i3, i4, i5, i6, i7, i8, i9, i10⟩ hk hf ha
    obtain ⟨d1, d2, d3, d4, -⟩ := ha
    obtain ⟨a48, c48, g3_⟩ := i3 d3
    obtain ⟨g4_, h50⟩ := i4 d4
    obtain h48 := i9 d3 hk a48 c48 g3_
    have kn : Kn e [(20, .slice a48 r45.length c48), (21, (.func (.func 49) #[] #[.pointer (some ⟨b30, 0, none⟩)]))] := ⟨g3_, g4_, trivial⟩
    refine L.kns _ kn (L.ca cf48 rfl rfl Wt.no rfl (m_slices_DeleteFunc_int_c (s := s51) (p0 := r45) (p1 := (m_overseerlaw53_Make_1 r23)) (t0 := (N + 3)) (tpos hN) h48 h50 er52) rfl ?_)
    rintro _ s53 m54 ⟨a55, c55, rfl, h55, h48⟩
    exact L.nil (X.dk kn ⟨im.trans (m54.one (.inr rfl)), Sub.fresh ib rfl, i0, i1, i2, i3, fun z => let ⟨q, h50⟩ := i4 z; ⟨q, (h50.mono (m54.le (tg0 hN)))⟩, fun _ => ⟨a55, c55, rfl⟩, fun z => Bool.noConfusion ((hf 7 (Nat.le_of_ble_eq_true rfl) rfl).symm.trans z), fun z2 => ((i7 z2).mv m54 (tgN (by decide))), fun z => ((i8 z).mv m54 (tgN (by decide))), fun _ z => Bool.noConfusion (show true = false from z), fun _ _ _ _ _ q3 q5 => by cases g3_.symm.trans q3; cases (show some (.slice a55 r52.1.length c55 : Value) = some _ from q5); exact ⟨h55, h48⟩⟩)
   ·rintro D e s57 ⟨im, ib, i0, i1, i2, i3, i4, i5, i6, i7, i8, i9, i10⟩ hk hf ha
    obtain ⟨d0, d1, d2, d3, d4, d5, -⟩ := ha
    have g0_ := i0 d0
    obtain bx8 := i7 hk
    have kn : Kn e [(2, .pointer (some ⟨b8, 0, none⟩)), (17, .agg #[.slice a26 r23.1.length c26, .int .i64 r23.2.1, .slice a27 r23.2.2.1.length c27, .slice a28 r23.2.2.2.length c28])] := ⟨(ib 2 _ rfl), g0_, trivial⟩
    exact L.kns _ kn (L.st (c := [.slice a26 r23.1.length c26, .int .i64 r23.2.1, .slice a27 r23.2.2.1.length c27, .slice a28 r23.2.2.2.length c28]) (cs' := #[.slice a26 r23.1.length c26, .int .i64 r23.2.1, .slice a27 r23.2.2.1.length c27, .slice a28 r23.2.2.2.length c28]) bx8 ag26.sz Wt.no rfl rfl rfl rfl rfl (Nat.le_of_ble_eq_true rfl) rfl fun s58 m59 bx8 => L.nil (X.dn kn ⟨im.trans (m59.one (.inl rfl)), ib, i0, i1, i2, i3, fun z => let ⟨q, h50⟩ := i4 z; ⟨q, (h50.mono (m59.le (tg0 hN)))⟩, i5, i6, fun z => Bool.noConfusion (show true = false from z), fun _ => by exact bx8, fun z z2 a48 c48 q3 => ((i9 z z2 a48 c48 q3).mv m59 (tgN (by decide)) (tg0 hN)), fun z a48 c48 a55 c55 q3 q5 => let ⟨h55, h48⟩ := i10 z a48 c48 a55 c55 q3 q5; ⟨(h55.mv m59 (tgN (by decide)) (tg0 hN)), (h48.mv m59 (tgN (by decide)) (tg0 hN))⟩⟩))
   ·rintro D e s60 ⟨im, ib, i0, i1, i2, i3, i4, i5, i6, t_⟩ hk hf ha
    obtain ⟨d0, d1, d2, d3, d4, d5, d6, -⟩ := ha
    obtain ⟨a55, c55, g5_⟩ := i5 d5
    have kn : Kn e [(22, .slice a55 r52.1.length c55)] := ⟨g5_, trivial⟩
    exact L.kns _ kn (L.as Wt.no rfl rfl (L.nil (X.dk kn ⟨im, Sub.fresh ib rfl, i0, i1, i2, i3, i4, i5, fun _ _ _ q5 => by cases g5_.symm.trans q5; exact rfl, t_⟩)))
  ·rintro D e s61 hD ⟨im, ib, i0, i1, i2, i3, i4, i5, i6, i7, i8, i9, i10⟩
   obtain ⟨a55, c55, g5_⟩ := i5 (hD 5 rfl)
   have g7_ := i6 (hD 7 rfl) a55 c55 g5_
   obtain bx8 := i8 (hD 6 rfl)
   obtain ⟨a48, c48, g3_⟩ := i3 (hD 3 rfl)
   obtain ⟨h55, h48⟩ := i10 (hD 5 rfl) a48 c48 a55 c55 g3_ g5_
   have h26 := h26.mono (im.le (nor (tg0 hN) (tg0 hN)))
   have h27 := h27.mono (im.le (nor (tg0 hN) (tg0 hN)))
   have h28 := h28.mono (im.le (nor (tg0 hN) (tg0 hN)))
   have m0 := m0.trans (im.weak fun _ e => by rcases e with e | e; (rw [e]; exact up); (rw [e]; exact up))
   refine X.sub (e' := [(3, .slice a55 r52.1.length c55), (2, .pointer (some ⟨b8, 0, none⟩))]) ?_ (Sub.cons g7_ (Sub.cons (ib 2 _ rfl) Sub.nil))
   refine X.seqN (E.ret ?_)
   obtain rfl := Option.some.inj hm
   exact X.rt (.inl rfl) Try.results16 (Rs.cell rfl bx8 ag26 rfl (Rs.tmp rfl Rs.nil)) rfl ⟨_, (s61).ren N (fun k => cond (Nat.beq k 3) u3 (0)), rfl, rfl, m0.ren hNb, ⟨a26, c26, a27, c27, a28, c28, a55, c55, rfl, (h26.ren hN), (h27.ren hN), (h28.ren hN), (h55.ren hN)⟩⟩

theorem ag51 : Ag Try.prog 51 29 := Ag.mk' Try.underlying51 rfl (by kernel_rfl)
theorem cf16 : Cf Try.prog 16 := Cf.mk Try.func16 (by kernel_rfl) (by kernel_rfl)
end Go.Proofs.Ytkkemchihllklaa

namespace Go.Proofs.Ytkkemchihllklaa
open Go Go.RowKit

theorem getD_at {xs : List Int} {i : Nat} (h : i < xs.length) : xs.getD i 0 = xs[i] := by
  rw [List.getD_eq_getElem?_getD, List.getElem?_eq_getElem h]; rfl
/-- What the walks of chapter 3 ask of an automaton. -/
structure A3 (a : Aut) (n : Nat) : Prop where
  n1 : n ≤ 4096
  es : ∀ x ∈ a.es, 0 ≤ x.t ∧ x.t < (n : Int)
  el : a.es.length ≤ 1000000
  al : a.al.length ≤ 32
  ml : a.ms.length ≤ 1000000
section
variable {a : Aut} {n : Nat}
theorem found_row (h : A3 a n) {i : Nat} {out y : List Int} (hq : QOk n out) (hi : i < out.length) : iter (m_overseerref03_Found_l2 (autP a) ((i : Int), y)) (0, out) = some (a.al.foldl (c3In a.es (out.getD i 0)) out) := by
  have hel := h.el; have hal := h.al; have hn1 := h.n1
  refine (iter_foldl (f := m_overseerref03_Found_l2 (autP a) ((i : Int), y)) (xs := a.al) (fun k s => ((k : Int), s)) (c3In a.es (out.getD i 0)) (fun s => s) (fun _ s => QOk n s ∧ ∃ r, s = out ++ r) (by omega) (fun k hk s hp => ?_) (fun s hp => ?_) ⟨hq, [], (List.append_nil _).symm⟩).1
  · obtain ⟨hs, r, rfl⟩ := hp
    obtain ⟨h1, ⟨r1, h2⟩, -⟩ := c3In_fold h.es (s := out.getD i 0) [a.al[k]] _ hs
    rw [List.foldl_cons, List.foldl_nil] at h1 h2
    refine ⟨?_, h1, r ++ r1, by rw [h2, List.append_assoc]⟩
    have hlen := hs.len
    have hil : i < (out ++ r).length := by rw [List.length_append]; omega
    have hr := hq.rng out[i] (List.getElem_mem hi)
    have hj : ∀ l : List Int, m_overseerref03_Found_j2 ((k : Int), out ++ r) l = some (.inl (((k + 1 : Nat) : Int), l)) := fun l => by
      rw [m_overseerref03_Found_j2]; dsimp only; rw [nxt (by omega)]
    rw [m_overseerref03_Found_l2]
    dsimp only
    rw [if_pos (show decide ((k : Int) < ((autP a).1.length : Int)) = true from ct_lt hk), idx_at hil, Option.bind_some, show idx (autP a).1 (k : Int) = some a.al[k] from idx_at hk, Option.bind_some, List.getElem_append_left hi,
      show out[i] = ((out[i].toNat : Nat) : Int) by omega, rstep_eq (by omega) (fun x hx => (h.es x hx).1), Option.bind_some]
    rw [c3In, getD_at hi, stF]
    cases hst : stepF a.es out[i].toNat a.al[k] with
    | none => exact hj _
    | some t =>
      dsimp only
      rw [if_pos (by simp), rhas_eq (by omega), Option.bind_some, Option.bind_some]
      cases hb : hasB (out ++ r) (t : Int) with
      | true => rw [if_neg (by simp), if_pos rfl, hj]
      | false => rw [if_pos (by simp), if_neg (by simp), app_eq (by rw [List.length_cons, List.length_nil]; omega), Option.bind_some, hj]
  · rw [m_overseerref03_Found_l2]
    dsimp only
    rw [if_neg (show ¬ decide ((a.al.length : Int) < ((autP a).1.length : Int)) = true from ct_ge)]
theorem found_go (h : A3 a n) : ∀ (f i : Nat) (out : List Int), QOk n out → n + 1 ≤ i + f → iterF (m_overseerref03_Found_l1 (autP a)) (f + 1) ((i : Int), out) = some (c3Loop a.es a.al f i out)
  | 0, i, out, hq, hf => by
    have := hq.len
    rw [iterF_succ, m_overseerref03_Found_l1]
    dsimp only
    rw [if_neg (by simp; omega)]
    rfl
  | f + 1, i, out, hq, hf => by
    have hl := hq.len
    have hn1 := h.n1
    rw [iterF_succ, m_overseerref03_Found_l1, c3Loop]
    dsimp only
    by_cases hi : i < out.length
    · rw [if_pos (by simpa using hi), if_pos hi, found_row h hq hi, Option.bind_some, nxt (by omega)]
      exact found_go h f (i + 1) _ (c3In_fold h.es a.al out hq).1 (by omega)
    · rw [if_neg (by simpa using hi), if_neg hi]
theorem found_eq (h : A3 a n) (hn : a.n = n) (h0 : 0 < n) : m_overseerref03_Found (autP a) = some (foundL a) ∧ QOk n (foundL a) := by
  have hn1 := h.n1
  have hq0 : QOk n [0] := ⟨by simp, fun s hs => by rw [List.mem_singleton.1 hs]; omega⟩
  have hg := found_go h (n + 1) 0 [0] hq0 (by omega)
  have hfd : foundL a = c3Loop a.es a.al (n + 1) 0 [0] := by rw [foundL, if_neg (by omega), hn, Int.toNat_natCast]
  refine ⟨?_, ?_⟩
  · rw [m_overseerref03_Found, if_pos (show decide ((autP a).2.1 > 0) = true from decide_eq_true (show a.n > 0 by omega)), app_eq (by simp), Option.bind_some, m_overseerref03_Found_j1, show iter (m_overseerref03_Found_l1 (autP a)) (0, ([] : List Int) ++ [0]) = _ from iter_of (by omega) hg, hfd]
    rfl
  · rw [hfd]
    exact (c3_loop h.es (n + 1) 0 [0] hq0 (fun k hk => absurd hk (Nat.not_lt_zero _)) (by omega)).1
def c3Put (a : Aut) (q : List Int) (i : Nat) (out : List (Int × Int × Int)) (e : Int) : List (Int × Int × Int) := match stepF a.es (q.getD i 0).toNat e with
  | some t => out ++ [((i : Int), e, idxI q (t : Int))]
  | none => out
theorem c3Put_fold (q : List Int) (i : Nat) : ∀ (al : List Int) (out : List (Int × Int × Int)), al.foldl (c3Put a q i) out = out ++ (c3Row ⟨al, a.n, a.ms, a.es⟩ q i).map edP
  | [], out => by simp [c3Row]
  | e :: al, out => by
    rw [List.foldl_cons, c3Put_fold q i al, c3Put, c3Row, c3Row]
    dsimp only
    rw [List.filterMap_cons]
    generalize stepF a.es (q.getD i 0).toNat e = r
    cases r <;> simp [edP]
theorem c3Row_len (q : List Int) (i : Nat) : (c3Row a q i).length ≤ a.al.length := List.length_filterMap_le _ _
theorem rows_len (q : List Int) : ∀ m, ((List.range m).flatMap (c3Row a q)).length ≤ m * a.al.length
  | 0 => by simp
  | m + 1 => by
    have h1 := rows_len q m
    have h2 := c3Row_len (a := a) q m
    rw [List.range_succ, List.flatMap_append, List.length_append, Nat.succ_mul]
    simp only [List.flatMap_cons, List.flatMap_nil, List.append_nil]
    omega
theorem canon_row (h : A3 a n) {q : List Int} (hq : QOk n q) {i : Nat} (hi : i < q.length) {ms : List Int} {x y : List (Int × Int × Int)} (hx : x.length ≤ 4000000) : iter (m_overseerref03_Canonical_l2 (autP a) q ((i : Int), ms, y)) (0, x) = some (x ++ (c3Row a q i).map edP) := by
  have hel := h.el; have hal := h.al; have hn1 := h.n1; have hql := hq.len
  have hr := hq.rng q[i] (List.getElem_mem hi)
  refine ((iter_foldl (f := m_overseerref03_Canonical_l2 (autP a) q ((i : Int), ms, y)) (xs := a.al) (fun k s => ((k : Int), s)) (c3Put a q i) (fun s => s) (fun k s => s.length ≤ x.length + k) (by omega) (fun k hk s hp => ?_) (fun s hp => ?_) (Nat.le_refl _)).1).trans (by rw [c3Put_fold])
  · have hj : ∀ l : List (Int × Int × Int), m_overseerref03_Canonical_j2 ((k : Int), s) l = some (.inl (((k + 1 : Nat) : Int), l)) := fun l => by
      rw [m_overseerref03_Canonical_j2]; dsimp only; rw [nxt (by omega)]
    rw [m_overseerref03_Canonical_l2, c3Put, getD_at hi]
    dsimp only
    rw [if_pos (show decide ((k : Int) < ((autP a).1.length : Int)) = true from ct_lt hk), idx_at hi, Option.bind_some, show idx (autP a).1 (k : Int) = some a.al[k] from idx_at hk, Option.bind_some,
      show q[i] = ((q[i].toNat : Nat) : Int) by omega, rstep_eq (by omega) (fun x hx => (h.es x hx).1), Option.bind_some, stF, Int.toNat_natCast]
    cases hst : stepF a.es q[i].toNat a.al[k] with
    | none => exact ⟨hj _, by dsimp only; omega⟩
    | some t =>
      dsimp only
      rw [if_pos (by simp), Option.bind_some, rindex_eq (by omega), Option.bind_some, app_eq (by rw [List.length_cons, List.length_nil]; omega), Option.bind_some, hj]
      exact ⟨rfl, by rw [List.length_append, List.length_cons, List.length_nil]; omega⟩
  · rw [m_overseerref03_Canonical_l2]
    dsimp only
    rw [if_neg (show ¬ decide ((a.al.length : Int) < ((autP a).1.length : Int)) = true from ct_ge)]
/-- The canonical form. -/
theorem canon_eq (h : A3 a n) (hn : a.n = n) (h0 : 0 < n) : m_overseerref03_Canonical (autP a) = some (autP (canon3 a)) := by
  have hel := h.el; have hal := h.al; have hn1 := h.n1; have hml := h.ml
  obtain ⟨hf, hq⟩ := found_eq h hn h0
  have hql := hq.len
  generalize hqq : foundL a = q at hf hq hql
  have hi := iter_run (f := m_overseerref03_Canonical_l1 (autP a) q) (fun i => ((i : Int), (((List.range i).filter fun i => hasB a.ms (q.getD i 0)).map fun (i : Nat) => (i : Int)), ((List.range i).flatMap (c3Row a q)).map edP)) q.length (by omega) (o := (rrMs a.ms q, ((List.range q.length).flatMap (c3Row a q)).map edP)) (fun i hi => by
    have hrl := rows_len (a := a) q i
    have hmul : i * a.al.length ≤ 4096 * 32 := Nat.mul_le_mul (by omega) hal
    have hfl : ((List.range i).filter fun i => hasB a.ms (q.getD i 0)).length ≤ i := Nat.le_trans (List.length_filter_le ..) (by simp)
    have hr := hq.rng q[i] (List.getElem_mem hi)
    have hj : ∀ (m1 : List Int), m_overseerref03_Canonical_j1 (autP a) q ((i : Int), (((List.range i).filter fun i => hasB a.ms (q.getD i 0)).map fun (i : Nat) => (i : Int)), ((List.range i).flatMap (c3Row a q)).map edP) m1 = some (.inl (((i + 1 : Nat) : Int), m1, ((List.range (i + 1)).flatMap (c3Row a q)).map edP)) := fun m1 => by
      rw [m_overseerref03_Canonical_j1]
      dsimp only
      rw [canon_row h hq hi (by rw [List.length_map]; omega), Option.bind_some, nxt (by omega), List.range_succ, List.flatMap_append, List.map_append]
      simp only [List.flatMap_cons, List.flatMap_nil, List.append_nil]
    rw [m_overseerref03_Canonical_l1]
    dsimp only
    rw [if_pos (ct_lt hi), idx_at hi, Option.bind_some, show m_overseerref03_has (autP a).2.2.1 q[i] = some (hasB a.ms q[i]) from rhas_eq (xs := a.ms) (by omega), Option.bind_some]
    cases hb : hasB a.ms q[i] with
    | true =>
      rw [if_pos rfl, app_eq (by rw [List.length_map, List.length_cons, List.length_nil]; omega), Option.bind_some, hj, List.range_succ, List.filter_append, List.filter_cons_of_pos (by rw [getD_at hi, hb]), List.map_append]
      rfl
    | false =>
      rw [if_neg (by simp), hj, List.range_succ, List.filter_append, List.filter_cons_of_neg (by rw [getD_at hi, hb]; simp), List.filter_nil, List.append_nil]) (by
    rw [m_overseerref03_Canonical_l1]
    dsimp only
    rw [if_neg ct_ge]
    rfl)
  rw [m_overseerref03_Canonical, hf, Option.bind_some, show m_overseerref03_Empty (autP a).1 = some (a.al, 0, [], []) from rempty_eq (xs := a.al) (by omega), Option.bind_some, show iter (m_overseerref03_Canonical_l1 (autP a) q) (0, (a.al, (0 : Int), ([] : List Int), ([] : List (Int × Int × Int))).2.2) = _ from hi, Option.bind_some]
  rw [canon3, autP, hqq]
end
/-- The 25 cells of a graph. -/
def cells25 (g : (Int × Int × Int × Int × Int) × (Int × Int × Int × Int × Int) × (Int × Int × Int × Int × Int) × (Int × Int × Int × Int × Int) × (Int × Int × Int × Int × Int)) : List Int :=
  [g.1.1, g.1.2.1, g.1.2.2.1, g.1.2.2.2.1, g.1.2.2.2.2, g.2.1.1, g.2.1.2.1, g.2.1.2.2.1, g.2.1.2.2.2.1, g.2.1.2.2.2.2, g.2.2.1.1, g.2.2.1.2.1, g.2.2.1.2.2.1, g.2.2.1.2.2.2.1, g.2.2.1.2.2.2.2, g.2.2.2.1.1, g.2.2.2.1.2.1, g.2.2.2.1.2.2.1, g.2.2.2.1.2.2.2.1, g.2.2.2.1.2.2.2.2, g.2.2.2.2.1, g.2.2.2.2.2.1, g.2.2.2.2.2.2.1, g.2.2.2.2.2.2.2.1, g.2.2.2.2.2.2.2.2]
/-- The automaton of a graph is right. -/
theorem make3_ex {ev : List Int} (ie : Inc ev) (he : ∀ x ∈ ev, 0 ≤ x ∧ x < 32) (hel : ev.length ≤ 5) {s m : Int} {g : (Int × Int × Int × Int × Int) × (Int × Int × Int × Int × Int) × (Int × Int × Int × Int × Int) × (Int × Int × Int × Int × Int) × (Int × Int × Int × Int × Int)} (hs : 0 ≤ s ∧ s < 250) (hg : ∀ y ∈ cells25 g, 0 ≤ y ∧ y < 256) :
    ∃ a : Aut, m_overseerlaw03_Make ev (s, m, g) = some (autP a) ∧ a.err = 0 ∧ 1 ≤ a.n ∧ a.n ≤ 5 ∧ Sorted a.es ∧ a.al = ev ∧ a.es.length ≤ 25 ∧ a.ms.length ≤ 5 := by
  obtain ⟨n, hn0, hn5, hn⟩ : ∃ n : Nat, 0 < n ∧ n ≤ 5 ∧ W (1 + W (s.tmod 5)) = (n : Int) := by
    refine ⟨(1 + s % 5).toNat, by omega, by omega, ?_⟩
    rw [Int.tmod_eq_emod_of_nonneg hs.1, W_of (x := s % 5) (by omega) (by omega), W_of (by omega) (by omega)]
    omega
  have hn2 : W ((n : Int) + 2) = ((n + 2 : Nat) : Int) := by rw [show (n : Int) + 2 = ((n + 2 : Nat) : Int) by omega, W_nat (by omega)]
  have key : ∃ o : List Int × List (Int × Int × Int), iter (m_overseerlaw03_Make_l1 ev (s, m, g)) (0, ([] : List Int), ([] : List (Int × Int × Int))) = some o ∧ o.1.length ≤ 5 ∧ ∃ es : List Ed, o.2 = es.map edP ∧ es.length ≤ 25 ∧ ∀ x ∈ es, 0 ≤ x.t ∧ x.t < (n : Int) := by
    refine iter_inv (f := m_overseerlaw03_Make_l1 ev (s, m, g)) (fun i t => t.1 = (i : Int) ∧ t.2.1.length ≤ i ∧ ∃ es : List Ed, t.2.2 = es.map edP ∧ es.length ≤ 5 * i ∧ ∀ x ∈ es, 0 ≤ x.t ∧ x.t < (n : Int)) _ n 0 (by omega) (fun i t hi ⟨e1, e2, es, e3, e4, e5⟩ => ?_) (fun t ⟨e1, e2, es, e3, e4, e5⟩ => ?_) (by omega) _ ⟨rfl, by simp, [], rfl, by simp, fun x hx => by cases hx⟩
    · obtain ⟨t1, t2, t3⟩ := t
      dsimp only at e1 e2 e3 e4
      subst e1; subst e3
      have hj : ∀ l : List Int, l.length ≤ i + 1 → ∃ s', m_overseerlaw03_Make_j1 ev (s, m, g) ((i : Int), t2, es.map edP) l = some (.inl s') ∧ s'.1 = ((i + 1 : Nat) : Int) ∧ s'.2.1.length ≤ i + 1 ∧ ∃ es : List Ed, s'.2.2 = es.map edP ∧ es.length ≤ 5 * (i + 1) ∧ ∀ x ∈ es, 0 ≤ x.t ∧ x.t < (n : Int) := by
        intro l hl
        obtain ⟨o, h1, h2⟩ := iter_inv (f := m_overseerlaw03_Make_l2 ev (s, m, g) ((i : Int), t2, es.map edP)) (fun k t => t.1 = (k : Int) ∧ ∃ es' : List Ed, t.2 = es'.map edP ∧ es'.length ≤ es.length + k ∧ ∀ x ∈ es', 0 ≤ x.t ∧ x.t < (n : Int)) (fun o => ∃ es' : List Ed, o = es'.map edP ∧ es'.length ≤ es.length + 5 ∧ ∀ x ∈ es', 0 ≤ x.t ∧ x.t < (n : Int)) ev.length 0 (by omega) (fun k t hk ⟨g1, es', g3, g4, g5⟩ => by
            obtain ⟨u1, u2⟩ := t
            dsimp only at g1 g3
            subst g1; subst g3
            have hj2 : ∀ l : List (Int × Int × Int), m_overseerlaw03_Make_j2 ((k : Int), es'.map edP) l = some (.inl (((k + 1 : Nat) : Int), l)) := fun l => by
              rw [m_overseerlaw03_Make_j2]; dsimp only; rw [nxt (by omega)]
            left
            have hlt : i * 5 + k * 1 < (cells25 g).length := by show _ < 25; omega
            obtain ⟨v, hcell, hv⟩ : ∃ v, (cells25 g)[i * 5 + k * 1]? = some v ∧ 0 ≤ v ∧ v < 256 := ⟨_, List.getElem?_eq_getElem hlt, hg _ (List.getElem_mem hlt)⟩
            rw [cells25] at hcell
            rw [m_overseerlaw03_Make_l2]
            dsimp only
            rw [if_pos (by simp; omega), show rng (i : Int) 5 = some () from if_pos (by simp; omega), Option.bind_some, show rng (k : Int) 5 = some () from if_pos (by simp; omega), Option.bind_some, Int.toNat_natCast, Int.toNat_natCast, hcell, Option.bind_some, hn, hn2, show nz ((n + 2 : Nat) : Int) = some () from if_neg (by omega), Option.bind_some, W_of (x := v) (by omega) (by omega), Int.tmod_eq_emod_of_nonneg hv.1]
            have hm0 := Int.emod_nonneg v (show ((n + 2 : Nat) : Int) ≠ 0 by omega)
            by_cases hlt2 : v % ((n + 2 : Nat) : Int) < (n : Int)
            · rw [if_pos (decide_eq_true hlt2), idx_at hk, Option.bind_some, app_eq (by rw [List.length_map, List.length_cons, List.length_nil]; omega), Option.bind_some, hj2]
              refine ⟨_, rfl, rfl, es' ++ [⟨(i : Int), ev[k], v % ((n + 2 : Nat) : Int)⟩], by simp [edP], by simp; omega, fun x hx => ?_⟩
              rcases List.mem_append.1 hx with h | h
              · exact g5 x h
              · rw [List.mem_singleton.1 h]; exact ⟨hm0, hlt2⟩
            · rw [if_neg (by simpa using hlt2), hj2]
              exact ⟨_, rfl, rfl, es', rfl, by omega, g5⟩) (fun t ⟨g1, es', g3, g4, g5⟩ => by
            obtain ⟨u1, u2⟩ := t
            dsimp only at g1 g3
            subst g1; subst g3
            rw [m_overseerlaw03_Make_l2]
            dsimp only
            rw [if_neg (by simp)]
            exact ⟨_, rfl, es', rfl, by omega, g5⟩) (by omega) (0, es.map edP) ⟨rfl, es, rfl, by omega, e5⟩
        obtain ⟨es', g1, g2, g3⟩ := h2
        rw [m_overseerlaw03_Make_j1]
        dsimp only
        rw [h1, Option.bind_some, nxt (by omega)]
        exact ⟨_, rfl, rfl, hl, es', g1, by omega, g3⟩
      left
      rw [m_overseerlaw03_Make_l1]
      dsimp only
      rw [hn, if_pos (by simp; omega), show ng (i : Int) = some () from if_neg (by omega), Option.bind_some]
      split
      · rw [app_eq (by simp; omega), Option.bind_some]
        exact hj _ (by simp; omega)
      · exact hj _ (by omega)
    · obtain ⟨t1, t2, t3⟩ := t
      dsimp only at e1 e2 e3 e4
      subst e1; subst e3
      rw [m_overseerlaw03_Make_l1]
      dsimp only
      rw [hn, if_neg (by simp)]
      exact ⟨_, rfl, by dsimp only; omega, es, rfl, by omega, e5⟩
  obtain ⟨o, h1, h2, es, h3, h4, h5⟩ := key
  have hA : A3 ⟨ev, n, o.1, es⟩ n := ⟨by omega, h5, by show es.length ≤ _; omega, by show ev.length ≤ _; omega, by show o.1.length ≤ _; omega⟩
  have hal : setErr 32 none ev = 0 := setErr_ok ie he (fun q hq => by cases hq)
  obtain ⟨r1, r2, r3, r4, r5⟩ := canon3_right (a := ⟨ev, n, o.1, es⟩) (n := n) rfl hn0 h5 ie hal (by omega)
  refine ⟨canon3 ⟨ev, n, o.1, es⟩, ?_, r1, r2, by omega, r4, r5, ?_, ?_⟩
  · rw [m_overseerlaw03_Make]
    dsimp only
    rw [if_neg (by simp; omega), rempty_eq (by omega), Option.bind_some]
    dsimp only
    rw [h1, Option.bind_some, hn]
    obtain ⟨o1, o2⟩ := o
    dsimp only at h3
    subst h3
    rw [show m_overseerref03_Canonical (ev, (n : Int), o1, es.map edP) = _ from canon_eq (a := ⟨ev, n, o1, es⟩) hA rfl hn0]
    rfl
  · have h6 := rows_len (a := ⟨ev, n, o.1, es⟩) (foundL ⟨ev, n, o.1, es⟩) (foundL ⟨ev, n, o.1, es⟩).length
    have h7 : ((foundL ⟨ev, n, o.1, es⟩).length : Int) ≤ n := r3
    have h8 : (foundL ⟨ev, n, o.1, es⟩).length * ev.length ≤ 5 * 5 := Nat.mul_le_mul (by omega) hel
    exact Nat.le_trans h6 h8
  · have h7 : ((foundL ⟨ev, n, o.1, es⟩).length : Int) ≤ n := r3
    show (rrMs _ _).length ≤ 5
    rw [rrMs, List.length_map]
    exact Nat.le_trans (List.length_filter_le ..) (by rw [List.length_range]; omega)
end Go.Proofs.Ytkkemchihllklaa

namespace Go.Proofs.Ytkkemchihllklaa
open Go Go.RowKit

/-- The first place whose element has a property. -/
theorem indexF_eq {xs : List Int} {p : Int → Option Bool} {q : Int → Bool} (hl : xs.length < 4611686018427387904) (hp : ∀ x ∈ xs, p x = some (q x)) : m_slices_IndexFunc_int xs p = some (if xs.any q = true then ((xs.findIdx q : Nat) : Int) else -1) := by
  have h := iter_scan (f := m_slices_IndexFunc_int_l1 xs p) (xs := xs) (fun i (_ : Unit) => (i : Int)) (fun i _ y => if q y then .inr (.inr (i : Int)) else .inl ()) (fun _ => .inl ()) (fun _ _ => True) (by omega) (fun i h _ _ => by
      rw [m_slices_IndexFunc_int_l1, if_pos (ct_lt h), idx_at h, Option.bind_some, hp _ (List.getElem_mem h), Option.bind_some, nxt (by omega)]
      refine ⟨fun s' e => ?_, fun o e => ?_⟩
      · split at e
        · cases e
        · rename_i h1; rw [if_neg h1]; exact ⟨rfl, trivial⟩
      · split at e
        · rename_i h1; rw [if_pos h1]; cases e; rfl
        · cases e) (fun _ _ => by rw [m_slices_IndexFunc_int_l1, if_neg ct_ge]) (s := ()) trivial
  have key : ∀ (ys : List Int) (i : Nat), scanL (O := Unit ⊕ Int) (fun i (_ : Unit) y => if q y then .inr (.inr (i : Int)) else .inl ()) (fun _ => .inl ()) i ys () = if ys.any q = true then .inr ((i + ys.findIdx q : Nat) : Int) else .inl () := by
    intro ys
    induction ys with
    | nil => intro i; rfl
    | cons y ys ih =>
      intro i
      rw [scanL, List.any_cons, List.findIdx_cons]
      cases hy : q y with
      | true => rfl
      | false =>
        rw [if_neg (by simp)]
        dsimp only
        rw [ih, Bool.false_or, cond_false]
        split
        · congr 2; omega
        · rfl
  rw [m_slices_IndexFunc_int, show iter (m_slices_IndexFunc_int_l1 xs p) 0 = _ from h, Option.bind_some, key]
  by_cases hm : xs.any q = true
  · rw [if_pos hm, if_pos hm]; simp
  · rw [if_neg hm, if_neg hm]
theorem set_app {xs ys : List Int} {v : Int} {n : Nat} (h : xs.length = n) (hy : 0 < ys.length) : (xs ++ ys).set n v = xs ++ [v] ++ ys.drop 1 := by
  subst h
  rw [List.set_append_right _ _ (Nat.le_refl _), Nat.sub_self]
  cases ys with
  | nil => cases hy
  | cons y ys => simp
/-- What is left of a list. -/
theorem deleteF_eq {xs : List Int} {p : Int → Option Bool} {q : Int → Bool} (hl : xs.length < 4611686018427387904) (hp : ∀ x ∈ xs, p x = some (q x)) : ∃ ys, m_slices_DeleteFunc_int xs p = some (xs.filter (fun x => !q x), ys) ∧ ys.length = xs.length := by
  rw [m_slices_DeleteFunc_int, indexF_eq hl hp, Option.bind_some]
  by_cases hm : xs.any q = true
  · rw [if_pos hm]
    have hlt : xs.findIdx q < xs.length := List.findIdx_lt_length_of_exists (by simpa [List.any_eq_true] using hm)
    have hpre : (xs.take (xs.findIdx q)).filter (fun x => !q x) = xs.take (xs.findIdx q) := by
      refine List.filter_eq_self.2 fun x hx => ?_
      obtain ⟨k, hk, rfl⟩ := List.mem_iff_getElem.1 hx
      rw [List.length_take] at hk
      rw [List.getElem_take]
      have := List.not_of_lt_findIdx (p := q) (xs := xs) (i := k) (by omega)
      simpa using this
    generalize hj0 : xs.findIdx q = j0 at hlt hpre
    have hq0 : q xs[j0] = true := by
      have := List.findIdx_getElem (xs := xs) (p := q) (w := by rw [hj0]; exact hlt)
      simpa [hj0] using this
    rw [if_neg (by simp), show W ((j0 : Int) + 1) = ((j0 + 1 : Nat) : Int) from nxt (by omega)]
    have hi := iter_inv (f := m_slices_DeleteFunc_int_l1 p) (fun j t => j0 + 1 + j ≤ xs.length ∧ t.1 = ((j0 + 1 + j : Nat) : Int) ∧ ∃ r : List Int, t.2.1 = ((((xs.take (j0 + 1 + j)).filter fun x => !q x).length : Nat) : Int) ∧ t.2.2 = (xs.take (j0 + 1 + j)).filter (fun x => !q x) ++ r ++ xs.drop (j0 + 1 + j) ∧ ((xs.take (j0 + 1 + j)).filter fun x => !q x).length + r.length = j0 + 1 + j ∧ 0 < r.length)
        (fun o => ∃ r : List Int, o.1 = (((xs.filter fun x => !q x).length : Nat) : Int) ∧ o.2 = xs.filter (fun x => !q x) ++ r ∧ (xs.filter fun x => !q x).length + r.length = xs.length)
        (xs.length - (j0 + 1)) 0 (by omega) (fun j t hj ⟨e0, e1, r, e2, e3, e4, e5⟩ => by
          obtain ⟨t1, t2, t3⟩ := t
          dsimp only at e1 e2 e3
          subst e1; subst e2; subst e3
          left
          have hlt2 : j0 + 1 + j < xs.length := by omega
          generalize hF : (xs.take (j0 + 1 + j)).filter (fun x => !q x) = F at e4
          have hlen : (F ++ r ++ xs.drop (j0 + 1 + j)).length = xs.length := by rw [List.length_append, List.length_append, List.length_drop]; omega
          have hat : (F ++ r ++ xs.drop (j0 + 1 + j))[j0 + 1 + j]'(by omega) = xs[j0 + 1 + j] := by
            rw [List.getElem_append_right (by rw [List.length_append]; omega), List.getElem_drop]
            congr 1; rw [List.length_append, e4, Nat.sub_self]; rfl
          have htk : (xs.take (j0 + 1 + (j + 1))).filter (fun x => !q x) = F ++ (if q xs[j0 + 1 + j] then [] else [xs[j0 + 1 + j]]) := by
            rw [show j0 + 1 + (j + 1) = j0 + 1 + j + 1 by omega, List.take_succ_eq_append_getElem hlt2, List.filter_append, hF]
            cases h : q xs[j0 + 1 + j] <;> simp [h]
          have hdr : xs.drop (j0 + 1 + j) = xs[j0 + 1 + j] :: xs.drop (j0 + 1 + (j + 1)) := by rw [List.drop_eq_getElem_cons hlt2]; rfl
          rw [m_slices_DeleteFunc_int_l1]
          dsimp only
          rw [if_pos (by rw [hlen]; exact ct_lt hlt2), idx_at (by omega), Option.bind_some, hat, hp _ (List.getElem_mem hlt2), Option.bind_some]
          cases hc : q xs[j0 + 1 + j] with
          | true =>
            rw [if_neg (by simp), m_slices_DeleteFunc_int_j1]
            dsimp only
            rw [nxt (by omega)]
            rw [hc, if_pos rfl, List.append_nil] at htk
            refine ⟨_, rfl, by omega, rfl, r ++ [xs[j0 + 1 + j]], ?_, ?_, ?_, ?_⟩
            · rw [htk]
            · rw [htk, hdr]; simp
            · rw [htk, List.length_append, List.length_cons, List.length_nil]; omega
            · rw [List.length_append]; omega
          | false =>
            rw [if_pos (by simp), idx_at (show F.length < _ by omega), Option.bind_some, upd, if_pos ⟨by omega, by omega⟩, Option.bind_some, m_slices_DeleteFunc_int_j1]
            dsimp only
            rw [nxt (by omega), nxt (by omega), Int.toNat_natCast]
            rw [hc, if_neg (by simp)] at htk
            refine ⟨_, rfl, by omega, rfl, r.drop 1 ++ [xs[j0 + 1 + j]], ?_, ?_, ?_, ?_⟩
            · rw [htk, List.length_append]; rfl
            · rw [htk]
              dsimp only
              rw [List.append_assoc F r, set_app rfl (by rw [List.length_append]; omega), hdr, List.drop_append_of_le_length (by omega)]
              simp
            · rw [htk, List.length_append, List.length_append, List.length_drop, List.length_cons, List.length_nil]; omega
            · rw [List.length_append, List.length_cons]; omega) (fun t ⟨e0, e1, r, e2, e3, e4, e5⟩ => by
          obtain ⟨t1, t2, t3⟩ := t
          dsimp only at e1 e2 e3
          subst e1; subst e2; subst e3
          have he : j0 + 1 + (xs.length - (j0 + 1)) = xs.length := by omega
          rw [he] at e4 ⊢
          rw [List.take_length] at e4 ⊢
          rw [List.drop_length, List.append_nil, m_slices_DeleteFunc_int_l1]
          dsimp only
          rw [if_neg (by rw [List.length_append, e4]; exact ct_ge)]
          exact ⟨_, rfl, r, rfl, rfl, e4⟩) (by omega) (((j0 + 1 : Nat) : Int), (j0 : Int), xs) ⟨by omega, rfl, [xs[j0]], by
            rw [show j0 + 1 + 0 = j0 + 1 by omega, List.take_succ_eq_append_getElem hlt, List.filter_append, hpre, List.filter_cons_of_neg (by simpa using hq0), List.filter_nil, List.append_nil, List.length_take]
            dsimp only; omega, by
            rw [show j0 + 1 + 0 = j0 + 1 by omega, List.take_succ_eq_append_getElem hlt, List.filter_append, hpre, List.filter_cons_of_neg (by simpa using hq0), List.filter_nil, List.append_nil, ← List.take_succ_eq_append_getElem hlt, List.take_append_drop], by
            rw [show j0 + 1 + 0 = j0 + 1 by omega, List.take_succ_eq_append_getElem hlt, List.filter_append, hpre, List.filter_cons_of_neg (by simpa using hq0), List.filter_nil, List.append_nil, List.length_take, List.length_cons, List.length_nil]
            omega, by simp⟩
    obtain ⟨o, h1, r, h2, h3, h4⟩ := hi
    obtain ⟨o1, o2⟩ := o
    dsimp only at h2 h3
    subst h2; subst h3
    generalize xs.filter (fun x => !q x) = F at h1 h4
    rw [h1, Option.bind_some]
    dsimp only
    rw [slc, if_pos ⟨by omega, by rw [List.length_append]; omega, by omega⟩, Option.bind_some, clrG, if_pos (by rw [List.length_append]; omega), Option.bind_some, Int.toNat_natCast, List.take_left' rfl, slc, if_pos ⟨by omega, by omega, by rw [List.length_append]; omega⟩, Option.bind_some]
    refine ⟨F ++ List.replicate ((F ++ r).length - F.length) 0, ?_, ?_⟩
    · rw [Int.toNat_natCast, List.take_left' rfl]; rfl
    · rw [List.length_append, List.length_replicate, List.length_append]; omega
  · rw [if_neg hm, if_pos (by simp)]
    have hn : xs.filter (fun x => !q x) = xs := by
      refine List.filter_eq_self.2 fun x hx => ?_
      have h2 : xs.any q = false := by simpa using hm
      have := List.any_eq_false.1 h2 x hx
      simpa using this
    rw [hn]
    exact ⟨_, rfl, rfl⟩
theorem inc_nodup {xs : List Int} (h : Inc xs) : xs.Nodup := by
  unfold Inc at h
  exact List.Pairwise.imp (fun {a b} hab e => by omega) h
theorem sub_len {xs ys : List Int} (h : Inc xs) (hs : ∀ x ∈ xs, x ∈ ys) : xs.length ≤ ys.length := (inc_nodup h).length_le_of_subset hs
theorem subB_of {xs ys : List Int} (h : ∀ x ∈ xs, x ∈ ys) : subB xs ys = true := List.all_eq_true.2 fun x hx => hasB_true.2 (h x hx)
/-- A sketch's cells are bytes. -/
abbrev Sketch : Type := Int × (Int × Int × ((Int × Int × Int × Int × Int) × (Int × Int × Int × Int × Int) × (Int × Int × Int × Int × Int) × (Int × Int × Int × Int × Int) × (Int × Int × Int × Int × Int))) × Int
structure SkOk (x : Sketch) : Prop where
  s : 0 ≤ x.2.1.1 ∧ x.2.1.1 < 256
  g : ∀ y ∈ cells25 x.2.1.2.2, 0 ≤ y ∧ y < 256
/-- What a sketch is. -/
structure SkIn (a : Aut) (l : List Int) (n : Nat) : Prop where
  gen : GenIn a l n
  ia : Inc a.al
  ic : Inc l
  al : ∀ x ∈ a.al, 0 ≤ x ∧ x < 5
  sub : ∀ x ∈ l, x ∈ a.al
  err : a.err = 0
  so : Sorted a.es
  ms : a.ms.length ≤ 5
  n5 : n ≤ 5
theorem err_ed {a : Aut} (h : a.err = 0) : ∀ x ∈ a.es, 0 ≤ x.f ∧ x.f < a.n ∧ 0 ≤ x.t ∧ x.t < a.n ∧ x.e ∈ a.al := by
  have he : edErr a.al a.n none a.es = 0 := by
    unfold Aut.err at h
    split at h
    · rename_i h1; rw [h] at h1; exact absurd h1 (by decide)
    · split at h
      · cases h
      · split at h
        · cases h
        · split at h
          · rename_i h1; rw [h] at h1; exact absurd h1 (by decide)
          · exact h
  have key : ∀ (es : List Ed) (p : Option Ed), edErr a.al a.n p es = 0 → ∀ x ∈ es, 0 ≤ x.f ∧ x.f < a.n ∧ 0 ≤ x.t ∧ x.t < a.n ∧ x.e ∈ a.al := by
    intro es
    induction es with
    | nil => intro p _ x hx; cases hx
    | cons y es ih =>
      intro p h x hx
      rw [edErr] at h
      split at h
      · cases h
      · rename_i h1
        split at h
        · cases h
        · rename_i h2
          split at h
          · cases h
          · rcases List.mem_cons.1 hx with rfl | hx
            · have h3 : hasB a.al x.e = true := by simpa using h2
              have h4 := hasB_true.1 h3
              exact ⟨by omega, by omega, by omega, by omega, h4⟩
            · exact ih _ h x hx
  exact key a.es none he
theorem make53_ex {x : Sketch} (h : SkOk x) : ∃ (a : Aut) (l : List Int) (n : Nat), m_overseerlaw53_Make x = some (autP a, l) ∧ SkIn a l n := by
  obtain ⟨ev, h1, h2, h3, h4⟩ := events_ex x.1
  have hs : 0 ≤ x.2.1.1.tmod 5 ∧ x.2.1.1.tmod 5 < 250 := by
    rw [Int.tmod_eq_emod_of_nonneg h.s.1]; omega
  obtain ⟨a, g1, g2, g3, g4, g5, g6, g7, g8⟩ := make3_ex h2 (fun y hy => by have := h3 y hy; omega) h4 (s := x.2.1.1.tmod 5) (m := x.2.1.2.1) (g := x.2.1.2.2) hs h.g
  obtain ⟨ev2, k1, k2, k3, k4⟩ := events_ex x.2.2
  obtain ⟨ys, d1, d2⟩ := deleteF_eq (xs := ev2) (p := m_overseerlaw53_Make_1 (autP a)) (q := fun y => !hasB a.al y) (by omega) (fun y hy => by
    rw [m_overseerlaw53_Make_1, show m_slices_Contains_int (autP a).1 y = some (hasB a.al y) from contains_eq (xs := a.al) (by rw [g6]; omega)]; rfl)
  refine ⟨a, ev2.filter (fun y => !!hasB a.al y), a.n.toNat, ?_, ⟨⟨by omega, by omega, by omega, by omega, by rw [g6]; omega, ?_, ?_⟩, by rw [g6]; exact h2, ?_, by rw [g6]; exact h3, ?_, g2, g5, g8, by omega⟩⟩
  · rw [m_overseerlaw53_Make, h1, Option.bind_some, show m_overseerlaw03_Make ev ((x.2.1.1.tmod 5), x.2.1.2) = _ from g1, Option.bind_some, k1, Option.bind_some, d1, Option.bind_some, lenEq, if_pos d2]
    rfl
  · exact Nat.le_trans (List.length_filter_le ..) (by omega)
  · intro y hy
    have := err_ed g2 y hy
    omega
  · exact List.Pairwise.filter _ k2
  · intro y hy
    have := (List.mem_filter.1 hy).2
    rw [Bool.not_not] at this
    exact hasB_true.1 this
section
variable {a : Aut} {l : List Int} {n : Nat}
theorem SkIn.set32 (h : SkIn a l n) {xs : List Int} (ix : Inc xs) (hx : ∀ x ∈ xs, x ∈ a.al) : setErr 32 none xs = 0 := setErr_ok ix (fun x hm => by have := h.al x (hx x hm); omega) (fun q hq => by cases hq)
theorem SkIn.code (h : SkIn a l n) : m_generate_Generate (autP a) l = some (codeP a l n, 0) :=
  generate_eq h.gen (by have := h.ms; omega) h.err (h.set32 h.ic h.sub) (by rw [subset_eq (by have := h.gen.ct; omega) (by have := h.gen.al; omega) h.ic h.ia, subB_of h.sub])
theorem SkIn.start (h : SkIn a l n) : m_instruction_Start (codeP a l n).1 = some ((List.replicate (l.length + 1) false, true :: List.replicate n false), 0) := gstart_eq h.gen h.ia h.ic
theorem Shows.alarm (h : SkIn a l n) {st : List Bool × List Bool} {s : Nat} {al : Bool} (hv : Shows a l n s al st) : m_generate_Alarmed (codeP a l n) st = some (al, 0) := by
  rw [alarmed_eq (out := st.1) (mem := st.2) h.gen hv.ho hv.hm, hv.ha]
end
end Go.Proofs.Ytkkemchihllklaa

namespace Go.Proofs.Ytkkemchihllklaa
open Go Go.RowKit Go.ChangeShapes Go.WideShapes Go.ChangeAt Go.Deep

theorem op_i64 : Op Try.prog (rK .i64) (fun n => -9223372036854775808 ≤ n ∧ n < 9223372036854775808) 3 := by
  intro H enc w fuel cs x h
  obtain ⟨y, h1, h2⟩ := (Op.int (P := Try.prog) (k := .i64) Try.underlying3) H enc w fuel cs x h
  refine ⟨y, h1, ?_⟩
  simp [IntKind.min, IntKind.max, IntKind.signed, IntKind.bits] at h2
  omega
section
variable {H : Type} {enc : TypeId × Value → H} {w : World} {base : Nat} {v : Value} {d : DataW H} {ps : List MemPlace}
set_option maxRecDepth 100000 in
/-- A list of ints. -/
theorem arg_ints (hok : Value.okWide Try.prog w .any base 23 v) (h : DataW.Trod enc Try.prog w 0 (fun _ => true) true 23 v d ps) : ∃ a c xs, v = .slice a xs.length c ∧ RdL (rK .i64) ⟨w, fun _ => 0⟩ a c xs ∧ ∀ y ∈ xs, -9223372036854775808 ≤ y ∧ y < 9223372036854775808 := by
  obtain ⟨fuel, hf⟩ := h
  simp only [Value.okWide, Try.underlying23] at hok
  have hv : v.cells.toList = [v] := by
    simp only [Cell.okWide, Try.underlying23] at hok
    cases v <;> simp_all [Cell.ok, Value.cells]
  rw [hv] at hf
  exact op_slice Try.underlying23 (by kernel_rfl) op_i64 hok hf
theorem arr2 {cs : Array Value} (h : cs.size = 2) : ∃ a b, cs = #[a, b] := by
  obtain ⟨l⟩ := cs
  match l, h with
  | [a, b], _ => exact ⟨a, b, rfl⟩
/-- The types of a sketch's cells. -/
def skT : List TypeId := [45] ++ List.replicate 27 5 ++ [45]
theorem sk_types : Try.prog.cellTypes Try.prog.depth 51 = some skT := by kernel_rfl
theorem sk_cells : Try.prog.cellsOf 51 = skT.length := by kernel_rfl
set_option maxRecDepth 100000 in
/-- A sketch. -/
theorem arg_sketch (hok : Value.okWide Try.prog w .any base 51 v) : ∃ p0 : Sketch, SkOk p0 ∧ v = .agg #[.int .u8 p0.1, .int .u8 p0.2.1.1, .int .u8 p0.2.1.2.1, .int .u8 p0.2.1.2.2.1.1, .int .u8 p0.2.1.2.2.1.2.1, .int .u8 p0.2.1.2.2.1.2.2.1, .int .u8 p0.2.1.2.2.1.2.2.2.1, .int .u8 p0.2.1.2.2.1.2.2.2.2, .int .u8 p0.2.1.2.2.2.1.1, .int .u8 p0.2.1.2.2.2.1.2.1, .int .u8 p0.2.1.2.2.2.1.2.2.1, .int .u8 p0.2.1.2.2.2.1.2.2.2.1, .int .u8 p0.2.1.2.2.2.1.2.2.2.2, .int .u8 p0.2.1.2.2.2.2.1.1, .int .u8 p0.2.1.2.2.2.2.1.2.1, .int .u8 p0.2.1.2.2.2.2.1.2.2.1, .int .u8 p0.2.1.2.2.2.2.1.2.2.2.1, .int .u8 p0.2.1.2.2.2.2.1.2.2.2.2, .int .u8 p0.2.1.2.2.2.2.2.1.1, .int .u8 p0.2.1.2.2.2.2.2.1.2.1, .int .u8 p0.2.1.2.2.2.2.2.1.2.2.1, .int .u8 p0.2.1.2.2.2.2.2.1.2.2.2.1, .int .u8 p0.2.1.2.2.2.2.2.1.2.2.2.2, .int .u8 p0.2.1.2.2.2.2.2.2.1, .int .u8 p0.2.1.2.2.2.2.2.2.2.1, .int .u8 p0.2.1.2.2.2.2.2.2.2.2.1, .int .u8 p0.2.1.2.2.2.2.2.2.2.2.2.1, .int .u8 p0.2.1.2.2.2.2.2.2.2.2.2.2, .int .u8 p0.2.2] := by
  obtain ⟨cs, rfl, h1, h2⟩ := op_agg Try.underlying51 sk_types sk_cells hok
  have h1' : cs.size = 29 := h1
  obtain ⟨f, hf⟩ := choose_lt (α := Int) (n := 29) (p := fun i n => cs[i]? = some (.int .u8 n) ∧ 0 ≤ n ∧ n < 256) (fun i hi => by
    obtain ⟨u, hu, hu2⟩ : ∃ u, skT[i]? = some u ∧ (u = 45 ∨ u = 5) := by
      refine ⟨skT[i]'hi, List.getElem?_eq_getElem (l := skT) hi, ?_⟩
      have := List.getElem_mem (l := skT) hi
      generalize skT[i]'hi = u at this
      simp only [skT, List.mem_append, List.mem_singleton, List.mem_replicate] at this
      rcases this with (h | h) | h
      · exact .inl h
      · exact .inr h.2
      · exact .inl h
    obtain ⟨c, g1, g2⟩ := h2 i u hu
    have g2' : Cell.okWide Try.prog w .any base 5 c := by
      rcases hu2 with rfl | rfl
      · simp only [Cell.okWide, Cell.ok, Try.underlying45, Try.underlying5] at g2 ⊢
        exact g2
      · exact g2
    obtain ⟨n, rfl, g3⟩ := cell_u8 g2'
    exact ⟨n, g1, g3⟩)
  have hcs : cs = ((List.range 29).map fun i => Value.int .u8 (f i)).toArray := by
    apply Array.ext_getElem?
    intro i
    by_cases hi : i < 29
    · rw [(hf i hi).1]; simp [hi]
    · rw [Array.getElem?_eq_none (by omega), Array.getElem?_eq_none (by simp; omega)]
  refine ⟨(f 0, (f 1, f 2, ((f 3, f 4, f 5, f 6, f 7), (f 8, f 9, f 10, f 11, f 12), (f 13, f 14, f 15, f 16, f 17), (f 18, f 19, f 20, f 21, f 22), (f 23, f 24, f 25, f 26, f 27))), f 28), ⟨(hf 1 (by omega)).2, fun y hy => ?_⟩, by rw [hcs]; rfl⟩
  have hy2 : y ∈ (List.range 25).map fun i => f (i + 3) := hy
  obtain ⟨i, hi, rfl⟩ := List.mem_map.1 hy2
  have := List.mem_range.1 hi
  exact (hf (i + 3) (by omega)).2
theorem op_bool : Op Try.prog rB (fun _ => True) 4 := Op.bool Try.underlying4
theorem state_types : Try.prog.cellTypes Try.prog.depth 39 = some [29, 29] := by kernel_rfl
theorem state_cells : Try.prog.cellsOf 39 = [29, 29].length := by kernel_rfl
theorem bools_cells : Try.prog.cellsOf 29 = 1 := by kernel_rfl
theorem bool_cells : Try.prog.cellsOf 4 = 1 := by kernel_rfl
set_option maxRecDepth 100000 in
/-- A state of a program. -/
theorem arg_state (hok : Value.okWide Try.prog w .any base 39 v) (h : DataW.Trod enc Try.prog w 0 (fun _ => true) true 39 v d ps) : ∃ a c xs b e ys, v = .agg #[.slice a (xs : List Bool).length c, .slice b (ys : List Bool).length e] ∧ RdL rB ⟨w, fun _ => 0⟩ a c xs ∧ RdL rB ⟨w, fun _ => 0⟩ b e ys := by
  obtain ⟨cs, rfl, h1, h2⟩ := op_agg Try.underlying39 state_types state_cells hok
  obtain ⟨x, y, rfl⟩ := arr2 h1
  obtain ⟨fuel, hf⟩ := h
  obtain ⟨c0, e0, o0⟩ := h2 0 29 rfl
  obtain ⟨c1, e1, o1⟩ := h2 1 29 rfl
  cases e0
  cases e1
  obtain ⟨n0, x0, g0⟩ := op_field1 Try.underlying39 hf 0 29 rfl rfl rfl bools_cells rfl
  obtain ⟨n1, x1, g1⟩ := op_field1 Try.underlying39 hf 1 29 rfl rfl rfl bools_cells rfl
  obtain ⟨a, c, xs, rfl, r0, -⟩ := op_slice Try.underlying29 bool_cells op_bool o0 g0
  obtain ⟨b, e, ys, rfl, r1, -⟩ := op_slice Try.underlying29 bool_cells op_bool o1 g1
  exact ⟨a, c, xs, b, e, ys, rfl, r0, r1⟩
end
end Go.Proofs.Ytkkemchihllklaa

namespace Go.Proofs.Ytkkemchihllklaa
open Go Go.RowKit
/-- What overseerlaw53.GenerateReads$1 computes. -/
noncomputable def m_overseerlaw53_GenerateReads_1 (q0 : List Int × Int × List Int × (List (Int × Int × Int))) (p0 : Int) : Option Bool :=
  (m_slices_Contains_int q0.1 p0).bind fun r5 =>
  some (!r5)
set_option maxRecDepth 100000 in
set_option maxHeartbeats 8000000 in
theorem m_overseerlaw53_GenerateReads_1_c {s : Sig} {q0 : List Int × Int × List Int × (List (Int × Int × Int))} {p0 : Int} {a1 : Option Addr} {c1 : Nat} {a2 : Option Addr} {c2 : Nat} {a3 : Option Addr} {c3 : Nat} {b4 : Nat} {r : Bool} (h1 : RdL (rK .i64) s a1 c1 q0.1) (h2 : RdL (rK .i64) s a2 c2 q0.2.2.1) (h3 : RdL (rP (rK .i64) (rP (rK .i64) (rK .i64))) s a3 c3 q0.2.2.2) (bx4 : Bx s 0 b4 #[.slice a1 q0.1.length c1, .int .i64 q0.2.1, .slice a2 q0.2.2.1.length c2, .slice a3 q0.2.2.2.length c3] 26) (hm : m_overseerlaw53_GenerateReads_1 q0 p0 = some r) :
    Calls Try.prog 30 #[.int .i64 p0, .pointer (some ⟨b4, 0, none⟩)] s.w (RetS No s fun v s' => v = .bool r) := by
 unfold m_overseerlaw53_GenerateReads_1 at hm
 obtain ⟨N, hN, hNb⟩ := s.fresh
 have m0 : Mv (Up N No) s s := Mv.refl _ _
 refine E.entry Try.func30 rfl Try.ntmps30 rfl rfl (E.seq (E.reg (L.as Wt.no rfl rfl (L.nil (X.seqN (E.seq (E.reg (L.fa fa26_0 Wt.no rfl rfl (L.ld (j := 0) bx4.mem nag23 Wt.no rfl rfl rfl rfl (L.mv Wt.no rfl rfl ?_))))))))))
 obtain ⟨r5, er5, hm⟩ := bindS hm
 refine L.ca cf23 rfl rfl Wt.no rfl (m_slices_Contains_int_c (s := s) (p0 := q0.1) (p1 := p0) h1 er5) rfl ?_
 rintro _ s6 m7 rfl
 replace m0 := m0.trans m7.no
 refine L.not Wt.no rfl rfl (L.as Wt.no rfl rfl (L.nil (X.seqN (E.ret ?_))))
 obtain rfl := Option.some.inj hm
 exact X.rt (.inl rfl) Try.results30 (Rs.tmp rfl Rs.nil) rfl ⟨_, (s6).ren N (fun _ => 0), rfl, rfl, m0.ren hNb, rfl⟩

/-- What slices.ContainsFunc<<>int,int> computes. -/
noncomputable def m_slices_ContainsFunc_int (p0 : List Int) (p1 : Int → Option Bool) : Option Bool :=
  (m_slices_IndexFunc_int p0 p1).bind fun r2 =>
  some (decide (r2 ≥ 0))
set_option maxRecDepth 100000 in
set_option maxHeartbeats 8000000 in
theorem m_slices_ContainsFunc_int_c {s : Sig} {p0 : List Int} {p1 : Int → Option Bool} {a1 : Option Addr} {c1 : Nat} {vp1 : Value} {r : Bool} (h1 : RdL (rK .i64) s a1 c1 p0) (hp1 : FV1 Try.prog s vp1 (fun (x0 : Int) => [.int .i64 x0]) (fun (r : Bool) => .bool r) p1) (hm : m_slices_ContainsFunc_int p0 p1 = some r) :
    Calls Try.prog 29 #[.slice a1 p0.length c1, vp1] s.w (RetS No s fun v s' => v = .bool r) := by
 unfold m_slices_ContainsFunc_int at hm
 obtain ⟨N, hN, hNb⟩ := s.fresh
 have m0 : Mv (Up N No) s s := Mv.refl _ _
 refine E.entry Try.func29 rfl Try.ntmps29 rfl rfl (E.seq (E.reg (L.as Wt.no rfl rfl (L.nil (X.seqN (E.seq (E.reg (L.mv Wt.no rfl rfl (L.mv Wt.no rfl rfl ?_)))))))))
 obtain ⟨r2, er2, hm⟩ := bindS hm
 refine L.ca cf60 rfl rfl Wt.no rfl (m_slices_IndexFunc_int_c (s := s) (p0 := p0) (p1 := p1) h1 hp1 er2) rfl ?_
 rintro _ s3 m4 rfl
 replace m0 := m0.trans m4.no
 refine L.bi Wt.no rfl rfl rfl rfl (L.as Wt.no rfl rfl (L.nil (X.seqN (E.ret ?_))))
 obtain rfl := Option.some.inj hm
 exact X.rt (.inl rfl) Try.results29 (Rs.tmp rfl Rs.nil) rfl ⟨_, (s3).ren N (fun _ => 0), rfl, rfl, m0.ren hNb, rfl⟩

theorem cf29 : Cf Try.prog 29 := Cf.mk Try.func29 (by kernel_rfl) (by kernel_rfl)
theorem cf30 : Cf Try.prog 30 := Cf.mk Try.func30 (by kernel_rfl) (by kernel_rfl)
noncomputable def m_overseerlaw53_GenerateReads_j2 (r54 : Int × Int) (r57 : List Int × Int) (r61 : Bool × Int) (r64 : (List Bool × List Bool) × Int) (n75 : Int) : Option Bool :=
  some ((((((((r54.2 == 4) && (r57.2 == r54.2)) && (r61.2 == r54.2)) && (r64.2 == n75)) && (r54.1 == 0)) && ((r57.1.length : Int) == 0)) && (!r61.1)) && ((W ((r64.1.1.length : Int) + (r64.1.2.length : Int))) == 0))
noncomputable def m_overseerlaw53_GenerateReads_j3 (st137 : Int × List Int) (l164 : List Int) : Option ((Int × List Int) ⊕ (List Int)) :=
  some (.inl (W (st137.1 + 1), l164))
noncomputable def m_overseerlaw53_GenerateReads_l1 (p1 : List Bool × List Bool) (r19 : (List Int × Int × List Int × (List (Int × Int × Int))) × List Int) (st137 : Int × List Int) : Option ((Int × List Int) ⊕ (List Int)) :=
  if decide (st137.1 < (r19.2.length : Int)) then
    (idx r19.2 st137.1).bind fun x168 =>
    (idx p1.1 st137.1).bind fun x170 =>
    if x170 then
      (app st137.2 ([x168] : List Int)).bind fun x175 =>
      m_overseerlaw53_GenerateReads_j3 st137 x175
    else
      m_overseerlaw53_GenerateReads_j3 st137 st137.2
  else
    some (.inr st137.2)
noncomputable def m_overseerlaw53_GenerateReads_j4 (st111 : Int × List Int) (l180 : List Int) : Option ((Int × List Int) ⊕ (List Int)) :=
  some (.inl (W (st111.1 + 1), l180))
noncomputable def m_overseerlaw53_GenerateReads_l2 (p1 : List Bool × List Bool) (r19 : (List Int × Int × List Int × (List (Int × Int × Int))) × List Int) (st111 : Int × List Int) : Option ((Int × List Int) ⊕ (List Int)) :=
  if decide (st111.1 < r19.1.2.1) then
    (idx p1.2 st111.1).bind fun x184 =>
    if x184 then
      (app st111.2 ([st111.1] : List Int)).bind fun x189 =>
      m_overseerlaw53_GenerateReads_j4 st111 x189
    else
      m_overseerlaw53_GenerateReads_j4 st111 st111.2
  else
    some (.inr st111.2)
noncomputable def m_overseerlaw53_GenerateReads_j1 (p1 : List Bool × List Bool) (p2 : List Int) (r19 : (List Int × Int × List Int × (List (Int × Int × Int))) × List Int) (r31 : ((Int × Int × Int × List Bool × (List (Int × Int))) × List Int × List Int × Int) × Int) (n46 : Int) : Option Bool :=
  (m_generate_Inputs r31.1 p2).bind fun r49 =>
  if ((r49.2 != n46) || ((n46 != 0) && (decide ((r49.1.length : Int) > 0)))) then
    some false
  else
    (m_generate_State r31.1 p1).bind fun r54 =>
    (m_generate_Enabled r31.1 p1).bind fun r57 =>
    (m_generate_Alarmed r31.1 p1).bind fun r61 =>
    (m_generate_Scan r31.1 p1 p2).bind fun r64 =>
    if (((p1.1.length : Int) != r31.1.1.2.1) || ((p1.2.length : Int) != r31.1.1.2.2.1)) then
      if (n46 == 0) then
        m_overseerlaw53_GenerateReads_j2 r54 r57 r61 r64 4
      else
        m_overseerlaw53_GenerateReads_j2 r54 r57 r61 r64 n46
    else
      if (r64.2 != n46) then
        some false
      else
        (iter (m_overseerlaw53_GenerateReads_l2 p1 r19) (0, ([] : List Int))).bind fun o111 =>
        (iter (m_overseerlaw53_GenerateReads_l1 p1 r19) (0, ([] : List Int))).bind fun o137 =>
        (if ((r57.2 != 0) || (r61.2 != 0)) then
          some true
        else
          (m_slices_Equal_int r57.1 o137).bind fun r159 =>
          some (!r159)).bind fun b143 =>
        (if b143 then
          some true
        else
          (idx p1.1 (r19.2.length : Int)).bind fun x156 =>
          some (r61.1 != x156)).bind fun b146 =>
        if b146 then
          some false
        else
          if ((o111.length : Int) != 1) then
            some ((r54.2 == 22) && (r54.1 == 0))
          else
            (if (r54.2 == 0) then
              (idx o111 0).bind fun x153 =>
              some (r54.1 == x153)
            else
              some false).bind fun b150 =>
            some b150
/-- What overseerlaw53.GenerateReads computes. -/
noncomputable def m_overseerlaw53_GenerateReads (p0 : Int × (Int × Int × ((Int × Int × Int × Int × Int) × (Int × Int × Int × Int × Int) × (Int × Int × Int × Int × Int) × (Int × Int × Int × Int × Int) × (Int × Int × Int × Int × Int))) × Int) (p1 : List Bool × List Bool) (p2 : List Int) : Option Bool :=
  (m_overseerlaw53_known).bind fun r10 =>
  if ((((!r10) || (decide ((p1.1.length : Int) > 20))) || (decide ((p1.2.length : Int) > 20))) || (decide ((p2.length : Int) > 8))) then
    (m_overseerlaw53_known).bind fun r16 =>
    some r16
  else
    (m_overseerlaw53_Make p0).bind fun r19 =>
    (m_generate_Generate r19.1 r19.2).bind fun r31 =>
    if (r31.2 != 0) then
      some false
    else
      (m_alphabet_CheckSet p2 32).bind fun r43 =>
      (if (r43 == 0) then
        (m_slices_ContainsFunc_int p2 (m_overseerlaw53_GenerateReads_1 r19.1)).bind fun r203 =>
        some r203
      else
        some false).bind fun b197 =>
      if b197 then
        m_overseerlaw53_GenerateReads_j1 p1 p2 r19 r31 9
      else
        m_overseerlaw53_GenerateReads_j1 p1 p2 r19 r31 r43
set_option maxRecDepth 100000 in
set_option maxHeartbeats 8000000 in
theorem m_overseerlaw53_GenerateReads_c {s : Sig} {p0 : Int × (Int × Int × ((Int × Int × Int × Int × Int) × (Int × Int × Int × Int × Int) × (Int × Int × Int × Int × Int) × (Int × Int × Int × Int × Int) × (Int × Int × Int × Int × Int))) × Int} {p1 : List Bool × List Bool} {p2 : List Int} {a1 : Option Addr} {c1 : Nat} {a2 : Option Addr} {c2 : Nat} {a3 : Option Addr} {c3 : Nat} {r : Bool} (h1 : RdL rB s a1 c1 p1.1) (h2 : RdL rB s a2 c2 p1.2) (h3 : RdL (rK .i64) s a3 c3 p2) (hm : m_overseerlaw53_GenerateReads p0 p1 p2 = some r) :
    Calls Try.prog 7 #[.agg #[.int .u8 p0.1, .int .u8 p0.2.1.1, .int .u8 p0.2.1.2.1, .int .u8 p0.2.1.2.2.1.1, .int .u8 p0.2.1.2.2.1.2.1, .int .u8 p0.2.1.2.2.1.2.2.1, .int .u8 p0.2.1.2.2.1.2.2.2.1, .int .u8 p0.2.1.2.2.1.2.2.2.2, .int .u8 p0.2.1.2.2.2.1.1, .int .u8 p0.2.1.2.2.2.1.2.1, .int .u8 p0.2.1.2.2.2.1.2.2.1, .int .u8 p0.2.1.2.2.2.1.2.2.2.1, .int .u8 p0.2.1.2.2.2.1.2.2.2.2, .int .u8 p0.2.1.2.2.2.2.1.1, .int .u8 p0.2.1.2.2.2.2.1.2.1, .int .u8 p0.2.1.2.2.2.2.1.2.2.1, .int .u8 p0.2.1.2.2.2.2.1.2.2.2.1, .int .u8 p0.2.1.2.2.2.2.1.2.2.2.2, .int .u8 p0.2.1.2.2.2.2.2.1.1, .int .u8 p0.2.1.2.2.2.2.2.1.2.1, .int .u8 p0.2.1.2.2.2.2.2.1.2.2.1, .int .u8 p0.2.1.2.2.2.2.2.1.2.2.2.1, .int .u8 p0.2.1.2.2.2.2.2.1.2.2.2.2, .int .u8 p0.2.1.2.2.2.2.2.2.1, .int .u8 p0.2.1.2.2.2.2.2.2.2.1, .int .u8 p0.2.1.2.2.2.2.2.2.2.2.1, .int .u8 p0.2.1.2.2.2.2.2.2.2.2.2.1, .int .u8 p0.2.1.2.2.2.2.2.2.2.2.2.2, .int .u8 p0.2.2], .agg #[.slice a1 p1.1.length c1, .slice a2 p1.2.length c2], .slice a3 p2.length c3] s.w (RetS No s fun v s' => v = .bool r) := by
 unfold m_overseerlaw53_GenerateReads at hm
 obtain ⟨N, hN, hNb⟩ := s.fresh
 have m0 : Mv (Up N No) s s := Mv.refl _ _
 refine E.entry Try.func7 rfl Try.ntmps7 rfl rfl (E.seq (E.reg (L.box (N + 0) Wt.no rfl rfl rfl fun b4 s5 m6 bx4 => ?_)))
 replace m0 := m0.trans m6.no
 replace h1 := h1.mono (m6.le no_No)
 replace h2 := h2.mono (m6.le no_No)
 replace h3 := h3.mono (m6.le no_No)
 refine L.box (N + 1) Wt.no rfl rfl rfl fun b7 s8 m9 bx7 => ?_
 replace m0 := m0.trans m9.no
 replace h3 := h3.mono (m9.le no_No)
 replace bx4 := bx4.mv m9 no_No
 replace h1 := h1.mono (m9.le no_No)
 replace h2 := h2.mono (m9.le no_No)
 refine L.as Wt.no rfl rfl (L.nil (X.seqN (E.seq (E.seq (E.reg ?_)))))
 obtain ⟨r10, er10, hm⟩ := bindS hm
 refine L.ca cf11 rfl rfl Wt.no rfl (m_overseerlaw53_known_c (s := s8) er10) rfl ?_
 rintro _ s11 m12 rfl
 replace m0 := m0.trans m12.no
 replace h3 := h3.mono (m12.le no_No)
 replace bx4 := bx4.mv m12 no_No
 replace bx7 := bx7.mv m12 no_No
 replace h1 := h1.mono (m12.le no_No)
 replace h2 := h2.mono (m12.le no_No)
 refine L.not Wt.no rfl rfl (L.mv Wt.no rfl rfl (L.cut 5 (fun e w => ∃ (v13 : Bool), ((!r10) || (decide ((p1.1.length : Int) > 20))) = v13 ∧ e = (34, .bool v13) :: [(4, .pointer (some ⟨b7, 0, none⟩)), (3, .pointer (some ⟨b4, 0, none⟩)), (2, .slice a3 p2.length c3)] ∧ w = s11.w) ?_ ?_))
 ·rintro _ _ ⟨v13, rfl, rfl, rfl⟩
  refine L.mv Wt.no rfl rfl (L.cut 5 (fun e w => ∃ (v14 : Bool), (((!r10) || (decide ((p1.1.length : Int) > 20))) || (decide ((p1.2.length : Int) > 20))) = v14 ∧ e = (40, .bool v14) :: [(4, .pointer (some ⟨b7, 0, none⟩)), (3, .pointer (some ⟨b4, 0, none⟩)), (2, .slice a3 p2.length c3)] ∧ w = s11.w) ?_ ?_)
  ·rintro _ _ ⟨v14, rfl, rfl, rfl⟩
   refine L.mv Wt.no rfl rfl (L.cut 4 (fun e w => ∃ (v15 : Bool), ((((!r10) || (decide ((p1.1.length : Int) > 20))) || (decide ((p1.2.length : Int) > 20))) || (decide ((p2.length : Int) > 8))) = v15 ∧ e = (45, .bool v15) :: [(4, .pointer (some ⟨b7, 0, none⟩)), (3, .pointer (some ⟨b4, 0, none⟩)), (2, .slice a3 p2.length c3)] ∧ w = s11.w) ?_ ?_)
   ·rintro _ _ ⟨v15, rfl, rfl, rfl⟩
    refine L.nil (X.seqN ?_)
    rcases ifS hm with ⟨hc, hm⟩ | ⟨hc, hm⟩
    ·refine E.cT rfl hc (E.seq (E.reg ?_))
     obtain ⟨r16, er16, hm⟩ := bindS hm
     refine L.ca cf11 rfl rfl Wt.no rfl (m_overseerlaw53_known_c (s := s11) er16) rfl ?_
     rintro _ s17 m18 rfl
     replace m0 := m0.trans m18.no
     refine L.as Wt.no rfl rfl (L.nil (X.seqN (E.ret (X.seqR ?_))))
     obtain rfl := Option.some.inj hm
     exact X.rt (.inl rfl) Try.results7 (Rs.tmp rfl Rs.nil) rfl ⟨_, (s17).ren N (fun _ => 0), rfl, rfl, m0.ren hNb, rfl⟩
    ·refine E.cF rfl hc (E.skip (X.seqN (E.seq (E.reg (L.lg (j := 0) (cs := [.int .u8 p0.1, .int .u8 p0.2.1.1, .int .u8 p0.2.1.2.1, .int .u8 p0.2.1.2.2.1.1, .int .u8 p0.2.1.2.2.1.2.1, .int .u8 p0.2.1.2.2.1.2.2.1, .int .u8 p0.2.1.2.2.1.2.2.2.1, .int .u8 p0.2.1.2.2.1.2.2.2.2, .int .u8 p0.2.1.2.2.2.1.1, .int .u8 p0.2.1.2.2.2.1.2.1, .int .u8 p0.2.1.2.2.2.1.2.2.1, .int .u8 p0.2.1.2.2.2.1.2.2.2.1, .int .u8 p0.2.1.2.2.2.1.2.2.2.2, .int .u8 p0.2.1.2.2.2.2.1.1, .int .u8 p0.2.1.2.2.2.2.1.2.1, .int .u8 p0.2.1.2.2.2.2.1.2.2.1, .int .u8 p0.2.1.2.2.2.2.1.2.2.2.1, .int .u8 p0.2.1.2.2.2.2.1.2.2.2.2, .int .u8 p0.2.1.2.2.2.2.2.1.1, .int .u8 p0.2.1.2.2.2.2.2.1.2.1, .int .u8 p0.2.1.2.2.2.2.2.1.2.2.1, .int .u8 p0.2.1.2.2.2.2.2.1.2.2.2.1, .int .u8 p0.2.1.2.2.2.2.2.1.2.2.2.2, .int .u8 p0.2.1.2.2.2.2.2.2.1, .int .u8 p0.2.1.2.2.2.2.2.2.2.1, .int .u8 p0.2.1.2.2.2.2.2.2.2.2.1, .int .u8 p0.2.1.2.2.2.2.2.2.2.2.2.1, .int .u8 p0.2.1.2.2.2.2.2.2.2.2.2.2, .int .u8 p0.2.2]) bx4.mem ag51 Wt.no rfl rfl rfl rfl rfl ?_)))))
     obtain ⟨r19, er19, hm⟩ := bindS hm
     refine L.ca cf16 rfl rfl Wt.no rfl (m_overseerlaw53_Make_c (s := s11) (p0 := p0) (u3 := 0) er19) rfl ?_
     rintro _ s20 m21 ⟨a22, c22, a23, c23, a24, c24, a25, c25, rfl, h22, h23, h24, h25⟩
     replace h25 := h25.p
     replace m0 := m0.trans m21.no
     replace h3 := h3.mono (m21.le no_No)
     replace bx7 := bx7.mv m21 no_No
     replace h1 := h1.mono (m21.le no_No)
     replace h2 := h2.mono (m21.le no_No)
     refine L.mv Wt.no rfl rfl (L.ex Wt.no rfl rfl rfl (L.ex Wt.no rfl rfl rfl (L.al (N + 2) zz26 rfl Wt.no rfl fun b26 s27 m28 bx26 => ?_)))
     replace m0 := m0.trans m28.no
     replace h3 := h3.mono (m28.le no_No)
     replace h25 := h25.mono (m28.le no_No)
     replace h22 := h22.mono (m28.le no_No)
     replace h23 := h23.mono (m28.le no_No)
     replace h24 := h24.mono (m28.le no_No)
     replace bx7 := bx7.mv m28 no_No
     replace h1 := h1.mono (m28.le no_No)
     replace h2 := h2.mono (m28.le no_No)
     refine L.st (c := [.slice a22 r19.1.1.length c22, .int .i64 r19.1.2.1, .slice a23 r19.1.2.2.1.length c23, .slice a24 r19.1.2.2.2.length c24]) (cs' := #[.slice a22 r19.1.1.length c22, .int .i64 r19.1.2.1, .slice a23 r19.1.2.2.1.length c23, .slice a24 r19.1.2.2.2.length c24]) bx26 ag26.sz Wt.no rfl rfl rfl rfl rfl (Nat.le_of_ble_eq_true rfl) rfl fun s29 m30 bx26 => ?_
     replace m0 := m0.trans (m30.one up)
     replace h3 := h3.mono (m30.le (tg0 hN))
     replace h25 := h25.mono (m30.le (tg0 hN))
     replace bx7 := bx7.mv m30 (tgN (by decide))
     replace h1 := h1.mono (m30.le (tg0 hN))
     replace h2 := h2.mono (m30.le (tg0 hN))
     replace h22 := h22.mono (m30.le (tg0 hN))
     replace h23 := h23.mono (m30.le (tg0 hN))
     replace h24 := h24.mono (m30.le (tg0 hN))
     refine L.as Wt.no rfl rfl (L.nil (X.seqN (E.seq (E.reg (L.lg (j := 0) (cs := [.slice a22 r19.1.1.length c22, .int .i64 r19.1.2.1, .slice a23 r19.1.2.2.1.length c23, .slice a24 r19.1.2.2.2.length c24]) bx26.mem ag26 Wt.no rfl rfl rfl rfl rfl (L.mv Wt.no rfl rfl ?_))))))
     obtain ⟨r31, er31, hm⟩ := bindS hm
     refine L.ca cf12 rfl rfl Wt.no rfl (m_generate_Generate_c (s := s29) (p0 := r19.1) (p1 := r19.2) (u0 := 0) (u1 := 0) (u2 := 0) (u3 := 0) h22 h23 h24 h25 er31) rfl ?_
     rintro _ s32 m33 ⟨a34, c34, a35, c35, a36, c36, a37, c37, rfl, h34, h35, h36, h37⟩
     replace h34 := h34.p
     replace h35 := h35.p
     replace h36 := h36.p
     replace h37 := h37.p
     replace m0 := m0.trans m33.no
     replace h3 := h3.mono (m33.le no_No)
     replace h25 := h25.mono (m33.le no_No)
     replace bx7 := bx7.mv m33 no_No
     replace h1 := h1.mono (m33.le no_No)
     replace h2 := h2.mono (m33.le no_No)
     replace bx26 := bx26.mv m33 no_No
     replace h22 := h22.mono (m33.le no_No)
     replace h23 := h23.mono (m33.le no_No)
     replace h24 := h24.mono (m33.le no_No)
     refine L.mv Wt.no rfl rfl (L.ex Wt.no rfl rfl rfl (L.ex Wt.no rfl rfl rfl (L.al (N + 3) zz34 rfl Wt.no rfl fun b38 s39 m40 bx38 => ?_)))
     replace m0 := m0.trans m40.no
     replace h3 := h3.mono (m40.le no_No)
     replace h25 := h25.mono (m40.le no_No)
     replace h34 := h34.mono (m40.le no_No)
     replace h35 := h35.mono (m40.le no_No)
     replace h36 := h36.mono (m40.le no_No)
     replace h37 := h37.mono (m40.le no_No)
     replace bx7 := bx7.mv m40 no_No
     replace h1 := h1.mono (m40.le no_No)
     replace h2 := h2.mono (m40.le no_No)
     replace bx26 := bx26.mv m40 no_No
     replace h22 := h22.mono (m40.le no_No)
     replace h23 := h23.mono (m40.le no_No)
     replace h24 := h24.mono (m40.le no_No)
     refine L.st (c := [.int .i64 r31.1.1.1, .int .i64 r31.1.1.2.1, .int .i64 r31.1.1.2.2.1, .slice a34 r31.1.1.2.2.2.1.length c34, .slice a35 r31.1.1.2.2.2.2.length c35, .slice a36 r31.1.2.1.length c36, .slice a37 r31.1.2.2.1.length c37, .int .i64 r31.1.2.2.2]) (cs' := #[.int .i64 r31.1.1.1, .int .i64 r31.1.1.2.1, .int .i64 r31.1.1.2.2.1, .slice a34 r31.1.1.2.2.2.1.length c34, .slice a35 r31.1.1.2.2.2.2.length c35, .slice a36 r31.1.2.1.length c36, .slice a37 r31.1.2.2.1.length c37, .int .i64 r31.1.2.2.2]) bx38 ag34.sz Wt.no rfl rfl rfl rfl rfl (Nat.le_of_ble_eq_true rfl) rfl fun s41 m42 bx38 => ?_
     replace m0 := m0.trans (m42.one up)
     replace h3 := h3.mono (m42.le (tg0 hN))
     replace h25 := h25.mono (m42.le (tg0 hN))
     replace bx7 := bx7.mv m42 (tgN (by decide))
     replace h1 := h1.mono (m42.le (tg0 hN))
     replace h2 := h2.mono (m42.le (tg0 hN))
     replace bx26 := bx26.mv m42 (tgN (by decide))
     replace h22 := h22.mono (m42.le (tg0 hN))
     replace h23 := h23.mono (m42.le (tg0 hN))
     replace h24 := h24.mono (m42.le (tg0 hN))
     replace h34 := h34.mono (m42.le (tg0 hN))
     replace h35 := h35.mono (m42.le (tg0 hN))
     replace h36 := h36.mono (m42.le (tg0 hN))
     replace h37 := h37.mono (m42.le (tg0 hN))
     refine L.as Wt.no rfl rfl (L.nil (X.seqN (E.seq (E.seq (E.reg (L.mv Wt.no rfl rfl (L.bi Wt.no rfl rfl rfl rfl (L.nil (X.seqN ?_)))))))))
     rcases ifS hm with ⟨hc, hm⟩ | ⟨hc, hm⟩
     ·refine E.cT rfl hc (E.seq (E.reg (L.as Wt.no rfl rfl (L.nil (X.seqN (E.ret (X.seqR ?_)))))))
      obtain rfl := Option.some.inj hm
      exact X.rt (.inl rfl) Try.results7 (Rs.tmp rfl Rs.nil) rfl ⟨_, (s41).ren N (fun _ => 0), rfl, rfl, m0.ren hNb, rfl⟩
     ·refine E.cF rfl hc (E.skip (X.seqN (E.seq (E.reg (L.mv Wt.no rfl rfl ?_)))))
      obtain ⟨r43, er43, hm⟩ := bindS hm
      refine L.ca cf28 rfl rfl Wt.no rfl (m_alphabet_CheckSet_c (s := s41) (p0 := p2) (p1 := 32) h3 er43) rfl ?_
      rintro _ s44 m45 rfl
      replace m0 := m0.trans m45.no
      replace h3 := h3.mono (m45.le no_No)
      replace h25 := h25.mono (m45.le no_No)
      replace bx7 := bx7.mv m45 no_No
      replace h1 := h1.mono (m45.le no_No)
      replace h2 := h2.mono (m45.le no_No)
      replace bx26 := bx26.mv m45 no_No
      replace h22 := h22.mono (m45.le no_No)
      replace h23 := h23.mono (m45.le no_No)
      replace h24 := h24.mono (m45.le no_No)
      replace bx38 := bx38.mv m45 no_No
      replace h34 := h34.mono (m45.le no_No)
      replace h35 := h35.mono (m45.le no_No)
      replace h36 := h36.mono (m45.le no_No)
      replace h37 := h37.mono (m45.le no_No)
      refine L.as Wt.no rfl rfl (L.nil (X.seqN (E.seqJ (fun e w => ∃ (s47 : Sig) (n46 : Int), m_overseerlaw53_GenerateReads_j1 p1 p2 r19 r31 n46 = some r ∧ Mv (Up N No) s s47 ∧ RdL (rK .i64) s47 a25 c25 r19.2 ∧ RdL (rK .i64) s47 a3 c3 p2 ∧ RdL rB s47 a1 c1 p1.1 ∧ RdL rB s47 a2 c2 p1.2 ∧ RdL (rK .i64) s47 a22 c22 r19.1.1 ∧ RdL (rK .i64) s47 a23 c23 r19.1.2.2.1 ∧ RdL (rP (rK .i64) (rP (rK .i64) (rK .i64))) s47 a24 c24 r19.1.2.2.2 ∧ RdL rB s47 a34 c34 r31.1.1.2.2.2.1 ∧ RdL (rP (rK .i64) (rK .i64)) s47 a35 c35 r31.1.1.2.2.2.2 ∧ RdL (rK .i64) s47 a36 c36 r31.1.2.1 ∧ RdL (rK .i64) s47 a37 c37 r31.1.2.2.1 ∧ Bx s47 (N + 1) b7 #[.slice a1 p1.1.length c1, .slice a2 p1.2.length c2] 39 ∧ Bx s47 0 b26 #[.slice a22 r19.1.1.length c22, .int .i64 r19.1.2.1, .slice a23 r19.1.2.2.1.length c23, .slice a24 r19.1.2.2.2.length c24] 26 ∧ Bx s47 (N + 3) b38 #[.int .i64 r31.1.1.1, .int .i64 r31.1.1.2.1, .int .i64 r31.1.1.2.2.1, .slice a34 r31.1.1.2.2.2.1.length c34, .slice a35 r31.1.1.2.2.2.2.length c35, .slice a36 r31.1.2.1.length c36, .slice a37 r31.1.2.2.1.length c37, .int .i64 r31.1.2.2.2] 34 ∧ e = [(11, .int .i64 n46), (9, .pointer (some ⟨b38, 0, none⟩)), (8, .slice a25 r19.2.length c25), (7, .pointer (some ⟨b26, 0, none⟩)), (4, .pointer (some ⟨b7, 0, none⟩)), (2, .slice a3 p2.length c3)] ∧ w = s47.w) ?_ ?_)))
      ·rintro _ _ ⟨s47, n46, hm, m0, h25, h3, h1, h2, h22, h23, h24, h34, h35, h36, h37, bx7, bx26, bx38, rfl, rfl⟩
       unfold m_overseerlaw53_GenerateReads_j1 at hm
       refine E.seq (E.reg (L.lg (j := 0) (cs := [.int .i64 r31.1.1.1, .int .i64 r31.1.1.2.1, .int .i64 r31.1.1.2.2.1, .slice a34 r31.1.1.2.2.2.1.length c34, .slice a35 r31.1.1.2.2.2.2.length c35, .slice a36 r31.1.2.1.length c36, .slice a37 r31.1.2.2.1.length c37, .int .i64 r31.1.2.2.2]) bx38.mem ag34 Wt.no rfl rfl rfl rfl rfl (L.mv Wt.no rfl rfl ?_)))
       obtain ⟨r49, er49, hm⟩ := bindS hm
       refine L.ca cf22 rfl rfl Wt.no rfl (m_generate_Inputs_c (s := s47) (p0 := r31.1) (p1 := p2) (u0 := 0) h34 h35 h36 h37 h3 er49) rfl ?_
       rintro _ s50 m51 ⟨a52, c52, rfl, h52⟩
       replace h52 := h52.p
       replace m0 := m0.trans m51.no
       replace h3 := h3.mono (m51.le no_No)
       replace h25 := h25.mono (m51.le no_No)
       replace bx7 := bx7.mv m51 no_No
       replace h1 := h1.mono (m51.le no_No)
       replace h2 := h2.mono (m51.le no_No)
       replace bx26 := bx26.mv m51 no_No
       replace bx38 := bx38.mv m51 no_No
       replace h34 := h34.mono (m51.le no_No)
       replace h35 := h35.mono (m51.le no_No)
       replace h36 := h36.mono (m51.le no_No)
       replace h37 := h37.mono (m51.le no_No)
       refine L.mv Wt.no rfl rfl (L.ex Wt.no rfl rfl rfl (L.ex Wt.no rfl rfl rfl (L.as Wt.no rfl rfl (L.as Wt.no rfl rfl (L.nil (X.seqN (E.seq (E.seq (E.reg (L.mv Wt.no rfl rfl (L.mv Wt.no rfl rfl (L.bi Wt.no rfl rfl rfl rfl (L.mv Wt.no rfl rfl (L.cut 8 (fun e w => ∃ (v53 : Bool), ((r49.2 != n46) || ((n46 != 0) && (decide ((r49.1.length : Int) > 0)))) = v53 ∧ e = (86, .bool v53) :: [(11, .int .i64 n46), (9, .pointer (some ⟨b38, 0, none⟩)), (8, .slice a25 r19.2.length c25), (7, .pointer (some ⟨b26, 0, none⟩)), (4, .pointer (some ⟨b7, 0, none⟩)), (2, .slice a3 p2.length c3)] ∧ w = s50.w) ?_ ?_))))))))))))))
       ·rintro _ _ ⟨v53, rfl, rfl, rfl⟩
        refine L.nil (X.seqN ?_)
        rcases ifS hm with ⟨hc, hm⟩ | ⟨hc, hm⟩
        ·refine E.cT rfl hc (E.seq (E.reg (L.as Wt.no rfl rfl (L.nil (X.seqN (E.ret (X.seqR ?_)))))))
         obtain rfl := Option.some.inj hm
         exact X.rt (.inl rfl) Try.results7 (Rs.tmp rfl Rs.nil) rfl ⟨_, (s50).ren N (fun _ => 0), rfl, rfl, m0.ren hNb, rfl⟩
        ·refine E.cF rfl hc (E.skip (X.seqN (E.seq (E.reg (L.lg (j := 0) (cs := [.int .i64 r31.1.1.1, .int .i64 r31.1.1.2.1, .int .i64 r31.1.1.2.2.1, .slice a34 r31.1.1.2.2.2.1.length c34, .slice a35 r31.1.1.2.2.2.2.length c35, .slice a36 r31.1.2.1.length c36, .slice a37 r31.1.2.2.1.length c37, .int .i64 r31.1.2.2.2]) bx38.mem ag34 Wt.no rfl rfl rfl rfl rfl (L.lg (j := 0) (cs := [.slice a1 p1.1.length c1, .slice a2 p1.2.length c2]) bx7.mem ag39 Wt.no rfl rfl rfl rfl rfl ?_))))))
         obtain ⟨r54, er54, hm⟩ := bindS hm
         refine L.ca cf18 rfl rfl Wt.no rfl (m_generate_State_c (s := s50) (p0 := r31.1) (p1 := p1) h34 h35 h36 h37 h1 h2 er54) rfl ?_
         rintro _ s55 m56 rfl
         replace m0 := m0.trans m56.no
         replace h3 := h3.mono (m56.le no_No)
         replace h25 := h25.mono (m56.le no_No)
         replace bx7 := bx7.mv m56 no_No
         replace h1 := h1.mono (m56.le no_No)
         replace h2 := h2.mono (m56.le no_No)
         replace bx26 := bx26.mv m56 no_No
         replace bx38 := bx38.mv m56 no_No
         replace h34 := h34.mono (m56.le no_No)
         replace h35 := h35.mono (m56.le no_No)
         replace h36 := h36.mono (m56.le no_No)
         replace h37 := h37.mono (m56.le no_No)
         refine L.mv Wt.no rfl rfl (L.ex Wt.no rfl rfl rfl (L.ex Wt.no rfl rfl rfl (L.as Wt.no rfl rfl (L.as Wt.no rfl rfl (L.nil (X.seqN (E.seq (E.reg (L.lg (j := 0) (cs := [.int .i64 r31.1.1.1, .int .i64 r31.1.1.2.1, .int .i64 r31.1.1.2.2.1, .slice a34 r31.1.1.2.2.2.1.length c34, .slice a35 r31.1.1.2.2.2.2.length c35, .slice a36 r31.1.2.1.length c36, .slice a37 r31.1.2.2.1.length c37, .int .i64 r31.1.2.2.2]) bx38.mem ag34 Wt.no rfl rfl rfl rfl rfl (L.lg (j := 0) (cs := [.slice a1 p1.1.length c1, .slice a2 p1.2.length c2]) bx7.mem ag39 Wt.no rfl rfl rfl rfl rfl ?_))))))))))
         obtain ⟨r57, er57, hm⟩ := bindS hm
         refine L.ca cf19 rfl rfl Wt.no rfl (m_generate_Enabled_c (s := s55) (p0 := r31.1) (p1 := p1) (u0 := 0) h34 h35 h36 h37 h1 h2 er57) rfl ?_
         rintro _ s58 m59 ⟨a60, c60, rfl, h60⟩
         replace h60 := h60.p
         replace m0 := m0.trans m59.no
         replace h3 := h3.mono (m59.le no_No)
         replace h25 := h25.mono (m59.le no_No)
         replace bx7 := bx7.mv m59 no_No
         replace h1 := h1.mono (m59.le no_No)
         replace h2 := h2.mono (m59.le no_No)
         replace bx26 := bx26.mv m59 no_No
         replace bx38 := bx38.mv m59 no_No
         replace h34 := h34.mono (m59.le no_No)
         replace h35 := h35.mono (m59.le no_No)
         replace h36 := h36.mono (m59.le no_No)
         replace h37 := h37.mono (m59.le no_No)
         refine L.mv Wt.no rfl rfl (L.ex Wt.no rfl rfl rfl (L.ex Wt.no rfl rfl rfl (L.as Wt.no rfl rfl (L.as Wt.no rfl rfl (L.nil (X.seqN (E.seq (E.reg (L.lg (j := 0) (cs := [.int .i64 r31.1.1.1, .int .i64 r31.1.1.2.1, .int .i64 r31.1.1.2.2.1, .slice a34 r31.1.1.2.2.2.1.length c34, .slice a35 r31.1.1.2.2.2.2.length c35, .slice a36 r31.1.2.1.length c36, .slice a37 r31.1.2.2.1.length c37, .int .i64 r31.1.2.2.2]) bx38.mem ag34 Wt.no rfl rfl rfl rfl rfl (L.lg (j := 0) (cs := [.slice a1 p1.1.length c1, .slice a2 p1.2.length c2]) bx7.mem ag39 Wt.no rfl rfl rfl rfl rfl ?_))))))))))
         obtain ⟨r61, er61, hm⟩ := bindS hm
         refine L.ca cf31 rfl rfl Wt.no rfl (m_generate_Alarmed_c (s := s58) (p0 := r31.1) (p1 := p1) h34 h35 h36 h37 h1 h2 er61) rfl ?_
         rintro _ s62 m63 rfl
         replace m0 := m0.trans m63.no
         replace h3 := h3.mono (m63.le no_No)
         replace h25 := h25.mono (m63.le no_No)
         replace h60 := h60.mono (m63.le no_No)
         replace bx7 := bx7.mv m63 no_No
         replace h1 := h1.mono (m63.le no_No)
         replace h2 := h2.mono (m63.le no_No)
         replace bx26 := bx26.mv m63 no_No
         replace bx38 := bx38.mv m63 no_No
         replace h34 := h34.mono (m63.le no_No)
         replace h35 := h35.mono (m63.le no_No)
         replace h36 := h36.mono (m63.le no_No)
         replace h37 := h37.mono (m63.le no_No)
         refine L.mv Wt.no rfl rfl (L.ex Wt.no rfl rfl rfl (L.ex Wt.no rfl rfl rfl (L.as Wt.no rfl rfl (L.as Wt.no rfl rfl (L.nil (X.seqN (E.seq (E.reg (L.lg (j := 0) (cs := [.int .i64 r31.1.1.1, .int .i64 r31.1.1.2.1, .int .i64 r31.1.1.2.2.1, .slice a34 r31.1.1.2.2.2.1.length c34, .slice a35 r31.1.1.2.2.2.2.length c35, .slice a36 r31.1.2.1.length c36, .slice a37 r31.1.2.2.1.length c37, .int .i64 r31.1.2.2.2]) bx38.mem ag34 Wt.no rfl rfl rfl rfl rfl (L.lg (j := 0) (cs := [.slice a1 p1.1.length c1, .slice a2 p1.2.length c2]) bx7.mem ag39 Wt.no rfl rfl rfl rfl rfl (L.mv Wt.no rfl rfl ?_)))))))))))
         obtain ⟨r64, er64, hm⟩ := bindS hm
         refine L.ca cf14 rfl rfl Wt.no rfl (m_generate_Scan_c (s := s62) (p0 := r31.1) (p1 := p1) (p2 := p2) h34 h35 h36 h37 h1 h2 h3 er64) rfl ?_
         rintro _ s65 m66 ⟨a67, c67, a68, c68, rfl, h67, h68⟩
         replace m0 := m0.trans m66.no
         replace h25 := h25.mono (m66.le no_No)
         replace h60 := h60.mono (m66.le no_No)
         replace bx7 := bx7.mv m66 no_No
         replace h1 := h1.mono (m66.le no_No)
         replace h2 := h2.mono (m66.le no_No)
         replace bx26 := bx26.mv m66 no_No
         replace bx38 := bx38.mv m66 no_No
         refine L.mv Wt.no rfl rfl (L.ex Wt.no rfl rfl rfl (L.ex Wt.no rfl rfl rfl (L.al (N + 4) zz39 rfl Wt.no rfl fun b69 s70 m71 bx69 => ?_)))
         replace m0 := m0.trans m71.no
         replace h25 := h25.mono (m71.le no_No)
         replace h60 := h60.mono (m71.le no_No)
         replace h67 := h67.mono (m71.le no_No)
         replace h68 := h68.mono (m71.le no_No)
         replace bx7 := bx7.mv m71 no_No
         replace h1 := h1.mono (m71.le no_No)
         replace h2 := h2.mono (m71.le no_No)
         replace bx26 := bx26.mv m71 no_No
         replace bx38 := bx38.mv m71 no_No
         refine L.st (c := [.slice a67 r64.1.1.length c67, .slice a68 r64.1.2.length c68]) (cs' := #[.slice a67 r64.1.1.length c67, .slice a68 r64.1.2.length c68]) bx69 ag39.sz Wt.no rfl rfl rfl rfl rfl (Nat.le_of_ble_eq_true rfl) rfl fun s72 m73 bx69 => ?_
         replace m0 := m0.trans (m73.one up)
         replace h25 := h25.mono (m73.le (tg0 hN))
         replace h60 := h60.mono (m73.le (tg0 hN))
         replace bx7 := bx7.mv m73 (tgN (by decide))
         replace h1 := h1.mono (m73.le (tg0 hN))
         replace h2 := h2.mono (m73.le (tg0 hN))
         replace bx26 := bx26.mv m73 (tg0 hN)
         replace bx38 := bx38.mv m73 (tgN (by decide))
         replace h67 := h67.mono (m73.le (tg0 hN))
         replace h68 := h68.mono (m73.le (tg0 hN))
         refine L.as Wt.no rfl rfl (L.nil (X.seqN (E.seq (E.seq (E.reg (L.fa fa39_0 Wt.no rfl rfl (L.ld (j := 0) bx7.mem nag29 Wt.no rfl rfl rfl rfl (L.len sl29 Wt.no rfl rfl (L.fa fa34_0 Wt.no rfl rfl (L.fa fa32_1 Wt.no rfl rfl (L.ld (j := 1) bx38.mem nag3 Wt.no rfl rfl rfl rfl (L.bi Wt.no rfl rfl rfl rfl (L.mv Wt.no rfl rfl (L.cut 8 (fun e w => ∃ (v74 : Bool), (((p1.1.length : Int) != r31.1.1.2.1) || ((p1.2.length : Int) != r31.1.1.2.2.1)) = v74 ∧ e = (127, .bool v74) :: [(21, .int .i64 r64.2), (20, .pointer (some ⟨b69, 0, none⟩)), (19, .int .i64 r61.2), (18, .bool r61.1), (17, .int .i64 r57.2), (16, .slice a60 r57.1.length c60), (15, .int .i64 r54.2), (14, .int .i64 r54.1), (11, .int .i64 n46), (8, .slice a25 r19.2.length c25), (7, .pointer (some ⟨b26, 0, none⟩)), (4, .pointer (some ⟨b7, 0, none⟩))] ∧ w = s72.w) ?_ ?_))))))))))))))
         ·rintro _ _ ⟨v74, rfl, rfl, rfl⟩
          refine L.nil (X.seqN ?_)
          rcases ifS hm with ⟨hc, hm⟩ | ⟨hc, hm⟩
          ·refine E.cT rfl hc (E.seqJ (fun e w => ∃ (s76 : Sig) (n75 : Int), m_overseerlaw53_GenerateReads_j2 r54 r57 r61 r64 n75 = some r ∧ Mv (Up N No) s s76 ∧ RdL (rK .i64) s76 a60 c60 r57.1 ∧ RdL rB s76 a67 c67 r64.1.1 ∧ RdL rB s76 a68 c68 r64.1.2 ∧ Bx s76 (N + 4) b69 #[.slice a67 r64.1.1.length c67, .slice a68 r64.1.2.length c68] 39 ∧ e = [(11, .int .i64 n75), (21, .int .i64 r64.2), (20, .pointer (some ⟨b69, 0, none⟩)), (19, .int .i64 r61.2), (18, .bool r61.1), (17, .int .i64 r57.2), (16, .slice a60 r57.1.length c60), (15, .int .i64 r54.2), (14, .int .i64 r54.1)] ∧ w = s76.w) ?_ ?_)
           ·rintro _ _ ⟨s76, n75, hm, m0, h60, h67, h68, bx69, rfl, rfl⟩
            unfold m_overseerlaw53_GenerateReads_j2 at hm
            refine E.seq (E.reg (L.mv Wt.no rfl rfl (L.bi Wt.no rfl rfl rfl rfl (L.mv Wt.no rfl rfl (L.cut 4 (fun e w => ∃ (v78 : Bool), ((r54.2 == 4) && (r57.2 == r54.2)) = v78 ∧ e = (136, .bool v78) :: [(11, .int .i64 n75), (21, .int .i64 r64.2), (20, .pointer (some ⟨b69, 0, none⟩)), (19, .int .i64 r61.2), (18, .bool r61.1), (16, .slice a60 r57.1.length c60), (15, .int .i64 r54.2), (14, .int .i64 r54.1)] ∧ w = s76.w) ?_ ?_)))))
            ·rintro _ _ ⟨v78, rfl, rfl, rfl⟩
             refine L.mv Wt.no rfl rfl (L.cut 4 (fun e w => ∃ (v79 : Bool), (((r54.2 == 4) && (r57.2 == r54.2)) && (r61.2 == r54.2)) = v79 ∧ e = (141, .bool v79) :: [(11, .int .i64 n75), (21, .int .i64 r64.2), (20, .pointer (some ⟨b69, 0, none⟩)), (18, .bool r61.1), (16, .slice a60 r57.1.length c60), (14, .int .i64 r54.1)] ∧ w = s76.w) ?_ ?_)
             ·rintro _ _ ⟨v79, rfl, rfl, rfl⟩
              refine L.mv Wt.no rfl rfl (L.cut 4 (fun e w => ∃ (v80 : Bool), ((((r54.2 == 4) && (r57.2 == r54.2)) && (r61.2 == r54.2)) && (r64.2 == n75)) = v80 ∧ e = (146, .bool v80) :: [(20, .pointer (some ⟨b69, 0, none⟩)), (18, .bool r61.1), (16, .slice a60 r57.1.length c60), (14, .int .i64 r54.1)] ∧ w = s76.w) ?_ ?_)
              ·rintro _ _ ⟨v80, rfl, rfl, rfl⟩
               refine L.mv Wt.no rfl rfl (L.cut 3 (fun e w => ∃ (v81 : Bool), (((((r54.2 == 4) && (r57.2 == r54.2)) && (r61.2 == r54.2)) && (r64.2 == n75)) && (r54.1 == 0)) = v81 ∧ e = (150, .bool v81) :: [(20, .pointer (some ⟨b69, 0, none⟩)), (18, .bool r61.1), (16, .slice a60 r57.1.length c60)] ∧ w = s76.w) ?_ ?_)
               ·rintro _ _ ⟨v81, rfl, rfl, rfl⟩
                refine L.mv Wt.no rfl rfl (L.cut 4 (fun e w => ∃ (v82 : Bool), ((((((r54.2 == 4) && (r57.2 == r54.2)) && (r61.2 == r54.2)) && (r64.2 == n75)) && (r54.1 == 0)) && ((r57.1.length : Int) == 0)) = v82 ∧ e = (155, .bool v82) :: [(20, .pointer (some ⟨b69, 0, none⟩)), (18, .bool r61.1)] ∧ w = s76.w) ?_ ?_)
                ·rintro _ _ ⟨v82, rfl, rfl, rfl⟩
                 refine L.mv Wt.no rfl rfl (L.cut 3 (fun e w => ∃ (v83 : Bool), (((((((r54.2 == 4) && (r57.2 == r54.2)) && (r61.2 == r54.2)) && (r64.2 == n75)) && (r54.1 == 0)) && ((r57.1.length : Int) == 0)) && (!r61.1)) = v83 ∧ e = (159, .bool v83) :: [(20, .pointer (some ⟨b69, 0, none⟩))] ∧ w = s76.w) ?_ ?_)
                 ·rintro _ _ ⟨v83, rfl, rfl, rfl⟩
                  refine L.mv Wt.no rfl rfl (L.cut 9 (fun e w => ∃ (v84 : Bool), ((((((((r54.2 == 4) && (r57.2 == r54.2)) && (r61.2 == r54.2)) && (r64.2 == n75)) && (r54.1 == 0)) && ((r57.1.length : Int) == 0)) && (!r61.1)) && ((W ((r64.1.1.length : Int) + (r64.1.2.length : Int))) == 0)) = v84 ∧ e = (169, .bool v84) :: [] ∧ w = s76.w) ?_ ?_)
                  ·rintro _ _ ⟨v84, rfl, rfl, rfl⟩
                   refine L.as Wt.no rfl rfl (L.nil (X.seqN (E.ret (X.seqR ?_))))
                   obtain rfl := Option.some.inj hm
                   exact X.rt (.inl rfl) Try.results7 (Rs.tmp rfl Rs.nil) rfl ⟨_, (s76).ren N (fun _ => 0), rfl, rfl, m0.ren hNb, rfl⟩
                  ·intro J85
                   rcases Bool.eq_false_or_eq_true (((((((r54.2 == 4) && (r57.2 == r54.2)) && (r61.2 == r54.2)) && (r64.2 == n75)) && (r54.1 == 0)) && ((r57.1.length : Int) == 0)) && (!r61.1)) with hc | hc
                   ·exact L.know (d := 160) rfl hc (L.fa fa39_0 (Wt.mk rfl rfl) rfl rfl (L.ld (j := 0) bx69.mem nag29 (Wt.mk rfl rfl) rfl rfl rfl rfl (L.len sl29 (Wt.mk rfl rfl) rfl rfl (L.fa fa39_1 (Wt.mk rfl rfl) rfl rfl (L.ld (j := 1) bx69.mem nag29 (Wt.mk rfl rfl) rfl rfl rfl rfl (L.len sl29 (Wt.mk rfl rfl) rfl rfl (L.bi (Wt.mk rfl rfl) rfl rfl rfl rfl (L.bi (Wt.mk rfl rfl) rfl rfl rfl rfl (L.pkT Wt.no rfl rfl rfl rfl (L.sb (J85 _ _ ⟨((W ((r64.1.1.length : Int) + (r64.1.2.length : Int))) == 0), (andT hc).symm, rfl, rfl⟩) rfl))))))))))
                   ·exact L.know (d := 160) rfl hc (L.skip rfl rfl rfl rfl (L.skip rfl rfl rfl rfl (L.skip rfl rfl rfl rfl (L.skip rfl rfl rfl rfl (L.skip rfl rfl rfl rfl (L.skip rfl rfl rfl rfl (L.skip rfl rfl rfl rfl (L.skip rfl rfl rfl rfl (L.pkF Wt.no rfl rfl rfl rfl (L.sb (J85 _ _ ⟨false, (andF hc).symm, rfl, rfl⟩) rfl))))))))))
                 ·intro J86
                  rcases Bool.eq_false_or_eq_true ((((((r54.2 == 4) && (r57.2 == r54.2)) && (r61.2 == r54.2)) && (r64.2 == n75)) && (r54.1 == 0)) && ((r57.1.length : Int) == 0)) with hc | hc
                  ·exact L.know (d := 156) rfl hc (L.mv (Wt.mk rfl rfl) rfl rfl (L.not (Wt.mk rfl rfl) rfl rfl (L.pkT Wt.no rfl rfl rfl rfl (L.sb (J86 _ _ ⟨(!r61.1), (andT hc).symm, rfl, rfl⟩) rfl))))
                  ·exact L.know (d := 156) rfl hc (L.skip rfl rfl rfl rfl (L.skip rfl rfl rfl rfl (L.pkF Wt.no rfl rfl rfl rfl (L.sb (J86 _ _ ⟨false, (andF hc).symm, rfl, rfl⟩) rfl))))
                ·intro J87
                 rcases Bool.eq_false_or_eq_true (((((r54.2 == 4) && (r57.2 == r54.2)) && (r61.2 == r54.2)) && (r64.2 == n75)) && (r54.1 == 0)) with hc | hc
                 ·exact L.know (d := 151) rfl hc (L.mv (Wt.mk rfl rfl) rfl rfl (L.len sl23 (Wt.mk rfl rfl) rfl rfl (L.bi (Wt.mk rfl rfl) rfl rfl rfl rfl (L.pkT Wt.no rfl rfl rfl rfl (L.sb (J87 _ _ ⟨((r57.1.length : Int) == 0), (andT hc).symm, rfl, rfl⟩) rfl)))))
                 ·exact L.know (d := 151) rfl hc (L.skip rfl rfl rfl rfl (L.skip rfl rfl rfl rfl (L.skip rfl rfl rfl rfl (L.pkF Wt.no rfl rfl rfl rfl (L.sb (J87 _ _ ⟨false, (andF hc).symm, rfl, rfl⟩) rfl)))))
               ·intro J88
                rcases Bool.eq_false_or_eq_true ((((r54.2 == 4) && (r57.2 == r54.2)) && (r61.2 == r54.2)) && (r64.2 == n75)) with hc | hc
                ·exact L.know (d := 147) rfl hc (L.mv (Wt.mk rfl rfl) rfl rfl (L.bi (Wt.mk rfl rfl) rfl rfl rfl rfl (L.pkT Wt.no rfl rfl rfl rfl (L.sb (J88 _ _ ⟨(r54.1 == 0), (andT hc).symm, rfl, rfl⟩) rfl))))
                ·exact L.know (d := 147) rfl hc (L.skip rfl rfl rfl rfl (L.skip rfl rfl rfl rfl (L.pkF Wt.no rfl rfl rfl rfl (L.sb (J88 _ _ ⟨false, (andF hc).symm, rfl, rfl⟩) rfl))))
              ·intro J89
               rcases Bool.eq_false_or_eq_true (((r54.2 == 4) && (r57.2 == r54.2)) && (r61.2 == r54.2)) with hc | hc
               ·exact L.know (d := 142) rfl hc (L.mv (Wt.mk rfl rfl) rfl rfl (L.mv (Wt.mk rfl rfl) rfl rfl (L.bi (Wt.mk rfl rfl) rfl rfl rfl rfl (L.pkT Wt.no rfl rfl rfl rfl (L.sb (J89 _ _ ⟨(r64.2 == n75), (andT hc).symm, rfl, rfl⟩) rfl)))))
               ·exact L.know (d := 142) rfl hc (L.skip rfl rfl rfl rfl (L.skip rfl rfl rfl rfl (L.skip rfl rfl rfl rfl (L.pkF Wt.no rfl rfl rfl rfl (L.sb (J89 _ _ ⟨false, (andF hc).symm, rfl, rfl⟩) rfl)))))
             ·intro J90
              rcases Bool.eq_false_or_eq_true ((r54.2 == 4) && (r57.2 == r54.2)) with hc | hc
              ·exact L.know (d := 137) rfl hc (L.mv (Wt.mk rfl rfl) rfl rfl (L.mv (Wt.mk rfl rfl) rfl rfl (L.bi (Wt.mk rfl rfl) rfl rfl rfl rfl (L.pkT Wt.no rfl rfl rfl rfl (L.sb (J90 _ _ ⟨(r61.2 == r54.2), (andT hc).symm, rfl, rfl⟩) rfl)))))
              ·exact L.know (d := 137) rfl hc (L.skip rfl rfl rfl rfl (L.skip rfl rfl rfl rfl (L.skip rfl rfl rfl rfl (L.pkF Wt.no rfl rfl rfl rfl (L.sb (J90 _ _ ⟨false, (andF hc).symm, rfl, rfl⟩) rfl)))))
            ·intro J91
             rcases Bool.eq_false_or_eq_true (r54.2 == 4) with hc | hc
             ·exact L.know (d := 132) rfl hc (L.mv (Wt.mk rfl rfl) rfl rfl (L.mv (Wt.mk rfl rfl) rfl rfl (L.bi (Wt.mk rfl rfl) rfl rfl rfl rfl (L.pkT Wt.no rfl rfl rfl rfl (L.sb (J91 _ _ ⟨(r57.2 == r54.2), (andT hc).symm, rfl, rfl⟩) rfl)))))
             ·exact L.know (d := 132) rfl hc (L.skip rfl rfl rfl rfl (L.skip rfl rfl rfl rfl (L.skip rfl rfl rfl rfl (L.pkF Wt.no rfl rfl rfl rfl (L.sb (J91 _ _ ⟨false, (andF hc).symm, rfl, rfl⟩) rfl)))))
           ·intro Jj77
            refine E.seq (E.reg (L.mv Wt.no rfl rfl (L.bi Wt.no rfl rfl rfl rfl (L.nil (X.seqN ?_)))))
            rcases ifS hm with ⟨hc, hm⟩ | ⟨hc, hm⟩
            ·exact E.cT rfl hc (E.reg (L.as Wt.no rfl rfl (L.nil (X.sub (Jj77 _ _ ⟨s72, 4, hm, m0, h60, h67, h68, bx69, rfl, rfl⟩) (Sub.rf rfl)))))
            ·exact E.cF rfl hc (E.skip (X.sub (Jj77 _ _ ⟨s72, n46, hm, m0, h60, h67, h68, bx69, rfl, rfl⟩) (Sub.rf rfl)))
          ·refine E.cF rfl hc (E.skip (X.seqN (E.seq (E.seq (E.reg (L.mv Wt.no rfl rfl (L.mv Wt.no rfl rfl (L.bi Wt.no rfl rfl rfl rfl (L.nil (X.seqN ?_))))))))))
           rcases ifS hm with ⟨hc, hm⟩ | ⟨hc, hm⟩
           ·refine E.cT rfl hc (E.seq (E.reg (L.as Wt.no rfl rfl (L.nil (X.seqN (E.ret (X.seqR ?_)))))))
            obtain rfl := Option.some.inj hm
            exact X.rt (.inl rfl) Try.results7 (Rs.tmp rfl Rs.nil) rfl ⟨_, (s72).ren N (fun _ => 0), rfl, rfl, m0.ren hNb, rfl⟩
           ·refine E.cF rfl hc (E.skip (X.seqN (E.seq (E.reg (L.as Wt.no rfl rfl (L.as Wt.no rfl rfl (L.nil (X.seqN (E.seq (E.seq (E.reg (L.fa fa26_1 Wt.no rfl rfl (L.ld (j := 1) bx26.mem nag3 Wt.no rfl rfl rfl rfl (L.mv Wt.no rfl rfl (L.nil (X.seqN (E.block ?_)))))))))))))))))
            obtain ⟨o111, eo111, hm⟩ := bindS hm
            refine E.cut (x := .exit 0) (fun e w => ∃ (s115 : Sig) (a113 : Option Addr) (c113 : Nat), Mv (Up N No) s s115 ∧ RowT (rK .i64) s115 (N + 5) 3 a113 c113 o111 ∧ RdL (rK .i64) s115 a60 c60 r57.1 ∧ RdL (rK .i64) s115 a25 c25 r19.2 ∧ RdL rB s115 a1 c1 p1.1 ∧ RdL rB s115 a2 c2 p1.2 ∧ Bx s115 (N + 1) b7 #[.slice a1 p1.1.length c1, .slice a2 p1.2.length c2] 39 ∧ e = [(23, .slice none 0 0), (22, .slice a113 o111.length c113), (19, .int .i64 r61.2), (18, .bool r61.1), (17, .int .i64 r57.2), (16, .slice a60 r57.1.length c60), (15, .int .i64 r54.2), (14, .int .i64 r54.1), (8, .slice a25 r19.2.length c25), (4, .pointer (some ⟨b7, 0, none⟩))] ∧ w = s115.w) ?_ ?_
            ·rintro _ _ ⟨s115, a113, c113, m0, h113, h60, h25, h1, h2, bx7, rfl, rfl⟩
             refine X.blkE (X.seqN (E.seq (E.seq (E.reg (L.mv Wt.no rfl rfl (L.len sl23 Wt.no rfl rfl (L.mv Wt.no rfl rfl (L.nil (X.seqN (E.block ?_))))))))))
             obtain ⟨o137, eo137, hm⟩ := bindS hm
             refine E.cut (x := .exit 2) (fun e w => ∃ (s141 : Sig) (a139 : Option Addr) (c139 : Nat), Mv (Up N No) s s141 ∧ RowT (rK .i64) s141 (N + 6) 3 a139 c139 o137 ∧ RowT (rK .i64) s141 (N + 5) 3 a113 c113 o111 ∧ RdL (rK .i64) s141 a60 c60 r57.1 ∧ RdL (rK .i64) s141 a25 c25 r19.2 ∧ RdL rB s141 a1 c1 p1.1 ∧ RdL rB s141 a2 c2 p1.2 ∧ Bx s141 (N + 1) b7 #[.slice a1 p1.1.length c1, .slice a2 p1.2.length c2] 39 ∧ e = [(23, .slice a139 o137.length c139), (22, .slice a113 o111.length c113), (19, .int .i64 r61.2), (18, .bool r61.1), (17, .int .i64 r57.2), (16, .slice a60 r57.1.length c60), (15, .int .i64 r54.2), (14, .int .i64 r54.1), (8, .slice a25 r19.2.length c25), (4, .pointer (some ⟨b7, 0, none⟩))] ∧ w = s141.w) ?_ ?_
             ·rintro _ _ ⟨s141, a139, c139, m0, h139, h113, h60, h25, h1, h2, bx7, rfl, rfl⟩
              refine X.blkE (X.seqN (E.seq (E.seq (E.reg (L.mv Wt.no rfl rfl (L.bi Wt.no rfl rfl rfl rfl (L.mv Wt.no rfl rfl (L.cut 3 (fun e w => ∃ (v142 : Bool), ((r57.2 != 0) || (r61.2 != 0)) = v142 ∧ e = (210, .bool v142) :: [(23, .slice a139 o137.length c139), (22, .slice a113 o111.length c113), (18, .bool r61.1), (16, .slice a60 r57.1.length c60), (15, .int .i64 r54.2), (14, .int .i64 r54.1), (8, .slice a25 r19.2.length c25), (4, .pointer (some ⟨b7, 0, none⟩))] ∧ w = s141.w) ?_ ?_))))))))
              ·rintro _ _ ⟨v142, rfl, rfl, rfl⟩
               refine L.mv Wt.no rfl rfl ?_
               obtain ⟨b143, eb143, hm⟩ := bindS hm
               refine L.cut 5 (fun e w => ∃ (s145 : Sig) (v144 : Bool), b143 = v144 ∧ Mv (Up N No) s s145 ∧ RowT (rK .i64) s145 (N + 5) 3 a113 c113 o111 ∧ RdL (rK .i64) s145 a25 c25 r19.2 ∧ RdL rB s145 a1 c1 p1.1 ∧ RdL rB s145 a2 c2 p1.2 ∧ Bx s145 (N + 1) b7 #[.slice a1 p1.1.length c1, .slice a2 p1.2.length c2] 39 ∧ e = (216, .bool v144) :: [(22, .slice a113 o111.length c113), (18, .bool r61.1), (15, .int .i64 r54.2), (14, .int .i64 r54.1), (8, .slice a25 r19.2.length c25), (4, .pointer (some ⟨b7, 0, none⟩))] ∧ w = s145.w) ?_ ?_
               ·rintro _ _ ⟨s145, v144, rfl, m0, h113, h25, h1, h2, bx7, rfl, rfl⟩
                refine L.mv Wt.no rfl rfl ?_
                obtain ⟨b146, eb146, hm⟩ := bindS hm
                refine L.cut 9 (fun e w => ∃ (v147 : Bool), b146 = v147 ∧ e = (226, .bool v147) :: [(22, .slice a113 o111.length c113), (15, .int .i64 r54.2), (14, .int .i64 r54.1)] ∧ w = s145.w) ?_ ?_
                ·rintro _ _ ⟨v147, rfl, rfl, rfl⟩
                 refine L.nil (X.seqN ?_)
                 rcases ifS hm with ⟨hc, hm⟩ | ⟨hc, hm⟩
                 ·refine E.cT rfl hc (E.seq (E.reg (L.as Wt.no rfl rfl (L.nil (X.seqN (E.ret (X.seqR ?_)))))))
                  obtain rfl := Option.some.inj hm
                  exact X.rt (.inl rfl) Try.results7 (Rs.tmp rfl Rs.nil) rfl ⟨_, (s145).ren N (fun _ => 0), rfl, rfl, m0.ren hNb, rfl⟩
                 ·refine E.cF rfl hc (E.skip (X.seqN (E.seq (E.seq (E.reg (L.mv Wt.no rfl rfl (L.len sl23 Wt.no rfl rfl (L.bi Wt.no rfl rfl rfl rfl (L.nil (X.seqN ?_))))))))))
                  rcases ifS hm with ⟨hc, hm⟩ | ⟨hc, hm⟩
                  ·refine E.cT rfl hc (E.seq (E.reg (L.mv Wt.no rfl rfl (L.bi Wt.no rfl rfl rfl rfl (L.mv Wt.no rfl rfl (L.cut 3 (fun e w => ∃ (v148 : Bool), ((r54.2 == 22) && (r54.1 == 0)) = v148 ∧ e = (235, .bool v148) :: [] ∧ w = s145.w) ?_ ?_))))))
                   ·rintro _ _ ⟨v148, rfl, rfl, rfl⟩
                    refine L.as Wt.no rfl rfl (L.nil (X.seqN (E.ret (X.seqR ?_))))
                    obtain rfl := Option.some.inj hm
                    exact X.rt (.inl rfl) Try.results7 (Rs.tmp rfl Rs.nil) rfl ⟨_, (s145).ren N (fun _ => 0), rfl, rfl, m0.ren hNb, rfl⟩
                   ·intro J149
                    rcases Bool.eq_false_or_eq_true (r54.2 == 22) with hc | hc
                    ·exact L.know (d := 232) rfl hc (L.mv (Wt.mk rfl rfl) rfl rfl (L.bi (Wt.mk rfl rfl) rfl rfl rfl rfl (L.pkT Wt.no rfl rfl rfl rfl (L.sb (J149 _ _ ⟨(r54.1 == 0), (andT hc).symm, rfl, rfl⟩) rfl))))
                    ·exact L.know (d := 232) rfl hc (L.skip rfl rfl rfl rfl (L.skip rfl rfl rfl rfl (L.pkF Wt.no rfl rfl rfl rfl (L.sb (J149 _ _ ⟨false, (andF hc).symm, rfl, rfl⟩) rfl))))
                  ·refine E.cF rfl hc (E.skip (X.seqN (E.seq (E.reg (L.mv Wt.no rfl rfl (L.bi Wt.no rfl rfl rfl rfl (L.mv Wt.no rfl rfl ?_)))))))
                   obtain ⟨b150, eb150, hm⟩ := bindS hm
                   refine L.cut 6 (fun e w => ∃ (v151 : Bool), b150 = v151 ∧ e = (244, .bool v151) :: [] ∧ w = s145.w) ?_ ?_
                   ·rintro _ _ ⟨v151, rfl, rfl, rfl⟩
                    refine L.as Wt.no rfl rfl (L.nil (X.seqN (E.ret ?_)))
                    obtain rfl := Option.some.inj hm
                    exact X.rt (.inl rfl) Try.results7 (Rs.tmp rfl Rs.nil) rfl ⟨_, (s145).ren N (fun _ => 0), rfl, rfl, m0.ren hNb, rfl⟩
                   ·intro J152
                    rcases ifS eb150 with ⟨hc, hm⟩ | ⟨hc, hm⟩
                    ·refine L.know (d := 238) rfl hc (L.mv (Wt.mk rfl rfl) rfl rfl (L.mv (Wt.mk rfl rfl) rfl rfl ?_))
                     obtain ⟨x153, ex153, hm⟩ := bindS hm
                     refine L.ir (r := (rK .i64)) sl23 h113 (Wt.mk rfl rfl) rfl rfl ex153 rfl fun b154 o154 cc154 me154 rd154 sp154 => ?_
                     obtain rfl := rd154
                     exact L.ld (j := 0) me154 nag3 (Wt.mk rfl rfl) rfl rfl rfl rfl (L.bi (Wt.mk rfl rfl) rfl rfl rfl rfl (L.pkT Wt.no rfl rfl rfl rfl (L.sb (J152 _ _ ⟨(r54.1 == x153), (Option.some.inj hm).symm, rfl, rfl⟩) rfl)))
                    ·exact L.know (d := 238) rfl hc (L.skip rfl rfl rfl rfl (L.skip rfl rfl rfl rfl (L.skip rfl rfl rfl rfl (L.skip rfl rfl rfl rfl (L.skip rfl rfl rfl rfl (L.pkF Wt.no rfl rfl rfl rfl (L.sb (J152 _ _ ⟨false, (Option.some.inj hm).symm, rfl, rfl⟩) rfl)))))))
                ·intro J155
                 rcases ifS eb146 with ⟨hc, hm⟩ | ⟨hc, hm⟩
                 ·exact L.know (d := 217) rfl hc (L.skip rfl rfl rfl rfl (L.skip rfl rfl rfl rfl (L.skip rfl rfl rfl rfl (L.skip rfl rfl rfl rfl (L.skip rfl rfl rfl rfl (L.skip rfl rfl rfl rfl (L.skip rfl rfl rfl rfl (L.skip rfl rfl rfl rfl (L.pkT Wt.no rfl rfl rfl rfl (L.sb (J155 _ _ ⟨true, (Option.some.inj hm).symm, rfl, rfl⟩) rfl))))))))))
                 ·refine L.know (d := 217) rfl hc (L.mv (Wt.mk rfl rfl) rfl rfl (L.fa fa39_0 (Wt.mk rfl rfl) rfl rfl (L.ld (j := 0) bx7.mem nag29 (Wt.mk rfl rfl) rfl rfl rfl rfl (L.mv (Wt.mk rfl rfl) rfl rfl (L.len sl23 (Wt.mk rfl rfl) rfl rfl ?_)))))
                  obtain ⟨x156, ex156, hm⟩ := bindS hm
                  refine L.ix (r := rB) sl29 h1 (Wt.mk rfl rfl) rfl rfl ex156 rfl fun b157 o157 cc157 me157 rd157 => ?_
                  obtain rfl := rd157
                  exact L.ld (j := 0) me157 nag4 (Wt.mk rfl rfl) rfl rfl rfl rfl (L.bne Try.underlying4 (Wt.mk rfl rfl) rfl rfl rfl (L.pkF Wt.no rfl rfl rfl rfl (L.sb (J155 _ _ ⟨(r61.1 != x156), (Option.some.inj hm).symm, rfl, rfl⟩) rfl)))
               ·intro J158
                rcases ifS eb143 with ⟨hc, hm⟩ | ⟨hc, hm⟩
                ·exact L.know (d := 211) rfl hc (L.skip rfl rfl rfl rfl (L.skip rfl rfl rfl rfl (L.skip rfl rfl rfl rfl (L.skip rfl rfl rfl rfl (L.pkT Wt.no rfl rfl rfl rfl (L.sb (J158 _ _ ⟨s141, true, (Option.some.inj hm).symm, m0, h113, h25, h1, h2, bx7, rfl, rfl⟩) rfl))))))
                ·refine L.know (d := 211) rfl hc (L.mv (Wt.mk rfl rfl) rfl rfl (L.mv (Wt.mk rfl rfl) rfl rfl ?_))
                 obtain ⟨r159, er159, hm⟩ := bindS hm
                 refine L.ca cf20 rfl rfl (Wt.mk rfl rfl) rfl (Calls.lendG (s0 := (Sig.drop N s141)) (s := s141) rfl (m_slices_Equal_int_c (s := (Sig.drop N s141)) (p0 := r57.1) (p1 := o137) (h60.mono (Sig.drop_le N _)) (h139.drop (Nat.le_add_right _ _)) er159) (fun v s' h => h)) rfl ?_
                 rintro _ s160 m161 rfl
                 replace m0 := m0.trans m161.no
                 replace h25 := h25.mono (m161.le no_No)
                 replace h113 := h113.mv m161 no_No no_No
                 replace bx7 := bx7.mv m161 no_No
                 replace h1 := h1.mono (m161.le no_No)
                 replace h2 := h2.mono (m161.le no_No)
                 exact L.not (Wt.mk rfl rfl) rfl rfl (L.pkF Wt.no rfl rfl rfl rfl (L.sb (J158 _ _ ⟨s160, (!r159), (Option.some.inj hm).symm, m0, h113, h25, h1, h2, bx7, rfl, rfl⟩) rfl))
              ·intro J162
               rcases Bool.eq_false_or_eq_true (r57.2 != 0) with hc | hc
               ·exact L.know (d := 207) rfl hc (L.skip rfl rfl rfl rfl (L.skip rfl rfl rfl rfl (L.pkT Wt.no rfl rfl rfl rfl (L.sb (J162 _ _ ⟨true, (orT hc).symm, rfl, rfl⟩) rfl))))
               ·exact L.know (d := 207) rfl hc (L.mv (Wt.mk rfl rfl) rfl rfl (L.bi (Wt.mk rfl rfl) rfl rfl rfl rfl (L.pkF Wt.no rfl rfl rfl rfl (L.sb (J162 _ _ ⟨(r61.2 != 0), (orF hc).symm, rfl, rfl⟩) rfl))))
             intro K163
             refine E.iter (fun (st137 : Int × List Int) (e : List (Nat × Value)) (w : World) => ∃ (s140 : Sig) (a118 : Option Addr) (c118 : Nat), Mv (Up N No) s s140 ∧ RdL (rK .i64) s140 a25 c25 r19.2 ∧ RowT (rK .i64) s140 (N + 6) 3 a118 c118 st137.2 ∧ RowT (rK .i64) s140 (N + 5) 3 a113 c113 o111 ∧ RdL (rK .i64) s140 a60 c60 r57.1 ∧ RdL rB s140 a1 c1 p1.1 ∧ RdL rB s140 a2 c2 p1.2 ∧ Bx s140 (N + 1) b7 #[.slice a1 p1.1.length c1, .slice a2 p1.2.length c2] 39 ∧ e = [(190, .int .i64 st137.1), (189, .int .i64 (r19.2.length : Int)), (188, .slice a25 r19.2.length c25), (23, .slice a118 st137.2.length c118), (22, .slice a113 o111.length c113), (19, .int .i64 r61.2), (18, .bool r61.1), (17, .int .i64 r57.2), (16, .slice a60 r57.1.length c60), (15, .int .i64 r54.2), (14, .int .i64 r54.1), (8, .slice a25 r19.2.length c25), (4, .pointer (some ⟨b7, 0, none⟩))] ∧ w = s140.w) eo137 ⟨s115, none, 0, m0, h25, RowT.nil, h113, h60, h1, h2, bx7, rfl, rfl⟩ (Sub.rf rfl) ?_
             rintro st137 res137 hm ih137 ho137 _ _ ⟨s140, a118, c118, m0, h25, h118, h113, h60, h1, h2, bx7, rfl, rfl⟩
             unfold m_overseerlaw53_GenerateReads_l1 at hm
             refine E.seq (E.reg (L.bi Wt.no rfl rfl rfl rfl (L.nil (X.seqN (E.seq ?_)))))
             rcases ifS hm with ⟨hc, hm⟩ | ⟨hc, hm⟩
             ·refine E.cT rfl hc (E.skip (X.seqN (E.seqJ (fun e w => ∃ (s166 : Sig) (l164 : List Int) (a165 : Option Addr) (c165 : Nat), m_overseerlaw53_GenerateReads_j3 st137 l164 = some res137 ∧ Mv (Up N No) s s166 ∧ RowT (rK .i64) s166 (N + 6) 3 a165 c165 l164 ∧ RdL (rK .i64) s166 a25 c25 r19.2 ∧ RowT (rK .i64) s166 (N + 5) 3 a113 c113 o111 ∧ RdL (rK .i64) s166 a60 c60 r57.1 ∧ RdL rB s166 a1 c1 p1.1 ∧ RdL rB s166 a2 c2 p1.2 ∧ Bx s166 (N + 1) b7 #[.slice a1 p1.1.length c1, .slice a2 p1.2.length c2] 39 ∧ e = [(23, .slice a165 l164.length c165), (190, .int .i64 st137.1), (189, .int .i64 (r19.2.length : Int)), (188, .slice a25 r19.2.length c25), (22, .slice a113 o111.length c113), (19, .int .i64 r61.2), (18, .bool r61.1), (17, .int .i64 r57.2), (16, .slice a60 r57.1.length c60), (15, .int .i64 r54.2), (14, .int .i64 r54.1), (8, .slice a25 r19.2.length c25), (4, .pointer (some ⟨b7, 0, none⟩))] ∧ w = s166.w) ?_ ?_)))
              ·rintro _ _ ⟨s166, l164, a165, c165, hm, m0, h165, h25, h113, h60, h1, h2, bx7, rfl, rfl⟩
               unfold m_overseerlaw53_GenerateReads_j3 at hm
               exact E.reg (L.bi Wt.no rfl rfl rfl rfl (L.mv Wt.no rfl rfl (L.nil (X.sub (ih137 _ (Option.some.inj hm).symm _ _ ⟨s166, a165, c165, m0, h25, h165, h113, h60, h1, h2, bx7, rfl, rfl⟩) (Sub.rf rfl)))))
              ·intro Jj167
               refine E.block (E.seq (E.reg (L.mv Wt.no rfl rfl ?_)))
               obtain ⟨x168, ex168, hm⟩ := bindS hm
               refine L.ix (r := (rK .i64)) sl23 h25 Wt.no rfl rfl ex168 rfl fun b169 o169 cc169 me169 rd169 => ?_
               obtain rfl := rd169
               refine L.ld (j := 0) me169 nag3 Wt.no rfl rfl rfl rfl (L.as Wt.no rfl rfl (L.as Wt.no rfl rfl (L.nil (X.seqN (E.seq (E.reg (L.fa fa39_0 Wt.no rfl rfl (L.ld (j := 0) bx7.mem nag29 Wt.no rfl rfl rfl rfl (L.mv Wt.no rfl rfl ?_)))))))))
               obtain ⟨x170, ex170, hm⟩ := bindS hm
               refine L.ix (r := rB) sl29 h1 Wt.no rfl rfl ex170 rfl fun b171 o171 cc171 me171 rd171 => ?_
               obtain rfl := rd171
               refine L.ld (j := 0) me171 nag4 Wt.no rfl rfl rfl rfl (L.nil (X.seqN ?_))
               rcases ifS hm with ⟨hc, hm⟩ | ⟨hc, hm⟩
               ·refine E.cT rfl hc (E.reg (L.mv Wt.no rfl rfl (L.mv Wt.no rfl rfl (L.bsE (k := 1) (cs := [.int .i64 x168]) 0 bs23 (Nat.le_of_ble_eq_true rfl) Wt.no rfl rfl rfl rfl fun b172 s173 m174 bx172 => ?_))))
                replace m0 := m0.trans m174.no
                replace h25 := h25.mono (m174.le no_No)
                replace h118 := h118.mv m174 no_No no_No
                replace h60 := h60.mono (m174.le no_No)
                replace h113 := h113.mv m174 no_No no_No
                replace bx7 := bx7.mv m174 no_No
                replace h1 := h1.mono (m174.le no_No)
                replace h2 := h2.mono (m174.le no_No)
                have h172 := Bx.rdL (r := (rK .i64)) (xs := ([x168] : List Int)) bx172 ⟨[.int .i64 x168], _, rfl, rfl, rfl⟩ (Nat.le_of_ble_eq_true rfl)
                obtain ⟨x175, ex175, hm⟩ := bindS hm
                refine L.ap (r := (rK .i64)) Try.underlying23 el3 rfl (tgp hN) h118 h172.wk Wt.no rfl rfl ex175 rfl fun a176 c176 s177 m178 h176 => ?_
                replace m0 := m0.trans (m178.one up)
                replace h25 := h25.mono (m178.le (tg0 hN))
                replace h60 := h60.mono (m178.le (tg0 hN))
                replace h113 := h113.mv m178 (tgN (by decide)) (tg0 hN)
                replace bx7 := bx7.mv m178 (tgN (by decide))
                replace h1 := h1.mono (m178.le (tg0 hN))
                replace h2 := h2.mono (m178.le (tg0 hN))
                exact L.as Wt.no rfl rfl (L.nil (X.blkN (X.sub (Jj167 _ _ ⟨s177, x175, a176, c176, hm, m0, h176, h25, h113, h60, h1, h2, bx7, rfl, rfl⟩) (Sub.rf rfl))))
               ·exact E.cF rfl hc (E.skip (X.blkN (X.sub (Jj167 _ _ ⟨s140, st137.2, a118, c118, hm, m0, h118, h25, h113, h60, h1, h2, bx7, rfl, rfl⟩) (Sub.rf rfl))))
             ·refine E.cF rfl hc (E.exit (X.seqX (X.seqX ?_)))
              have hx := ho137 _ (Option.some.inj hm).symm
              subst hx
              exact X.sub (K163 _ _ ⟨s140, a118, c118, m0, h118, h113, h60, h25, h1, h2, bx7, rfl, rfl⟩) (Sub.rf rfl)
            intro K179
            refine E.iter (fun (st111 : Int × List Int) (e : List (Nat × Value)) (w : World) => ∃ (s114 : Sig) (a94 : Option Addr) (c94 : Nat), Mv (Up N No) s s114 ∧ RowT (rK .i64) s114 (N + 5) 3 a94 c94 st111.2 ∧ RdL (rK .i64) s114 a60 c60 r57.1 ∧ RdL (rK .i64) s114 a25 c25 r19.2 ∧ RdL rB s114 a1 c1 p1.1 ∧ RdL rB s114 a2 c2 p1.2 ∧ Bx s114 (N + 1) b7 #[.slice a1 p1.1.length c1, .slice a2 p1.2.length c2] 39 ∧ e = [(175, .int .i64 st111.1), (174, .int .i64 r19.1.2.1), (23, .slice none 0 0), (22, .slice a94 st111.2.length c94), (19, .int .i64 r61.2), (18, .bool r61.1), (17, .int .i64 r57.2), (16, .slice a60 r57.1.length c60), (15, .int .i64 r54.2), (14, .int .i64 r54.1), (8, .slice a25 r19.2.length c25), (4, .pointer (some ⟨b7, 0, none⟩))] ∧ w = s114.w) eo111 ⟨s72, none, 0, m0, RowT.nil, h60, h25, h1, h2, bx7, rfl, rfl⟩ (Sub.rf rfl) ?_
            rintro st111 res111 hm ih111 ho111 _ _ ⟨s114, a94, c94, m0, h94, h60, h25, h1, h2, bx7, rfl, rfl⟩
            unfold m_overseerlaw53_GenerateReads_l2 at hm
            refine E.seq (E.reg (L.bi Wt.no rfl rfl rfl rfl (L.nil (X.seqN (E.seq ?_)))))
            rcases ifS hm with ⟨hc, hm⟩ | ⟨hc, hm⟩
            ·refine E.cT rfl hc (E.skip (X.seqN (E.seqJ (fun e w => ∃ (s182 : Sig) (l180 : List Int) (a181 : Option Addr) (c181 : Nat), m_overseerlaw53_GenerateReads_j4 st111 l180 = some res111 ∧ Mv (Up N No) s s182 ∧ RowT (rK .i64) s182 (N + 5) 3 a181 c181 l180 ∧ RdL (rK .i64) s182 a60 c60 r57.1 ∧ RdL (rK .i64) s182 a25 c25 r19.2 ∧ RdL rB s182 a1 c1 p1.1 ∧ RdL rB s182 a2 c2 p1.2 ∧ Bx s182 (N + 1) b7 #[.slice a1 p1.1.length c1, .slice a2 p1.2.length c2] 39 ∧ e = [(22, .slice a181 l180.length c181), (175, .int .i64 st111.1), (174, .int .i64 r19.1.2.1), (23, .slice none 0 0), (19, .int .i64 r61.2), (18, .bool r61.1), (17, .int .i64 r57.2), (16, .slice a60 r57.1.length c60), (15, .int .i64 r54.2), (14, .int .i64 r54.1), (8, .slice a25 r19.2.length c25), (4, .pointer (some ⟨b7, 0, none⟩))] ∧ w = s182.w) ?_ ?_)))
             ·rintro _ _ ⟨s182, l180, a181, c181, hm, m0, h181, h60, h25, h1, h2, bx7, rfl, rfl⟩
              unfold m_overseerlaw53_GenerateReads_j4 at hm
              exact E.reg (L.bi Wt.no rfl rfl rfl rfl (L.mv Wt.no rfl rfl (L.nil (X.sub (ih111 _ (Option.some.inj hm).symm _ _ ⟨s182, a181, c181, m0, h181, h60, h25, h1, h2, bx7, rfl, rfl⟩) (Sub.rf rfl)))))
             ·intro Jj183
              refine E.block (E.seq (E.reg (L.mv Wt.no rfl rfl (L.as Wt.no rfl rfl (L.nil (X.seqN (E.seq (E.reg (L.fa fa39_1 Wt.no rfl rfl (L.ld (j := 1) bx7.mem nag29 Wt.no rfl rfl rfl rfl (L.mv Wt.no rfl rfl ?_)))))))))))
              obtain ⟨x184, ex184, hm⟩ := bindS hm
              refine L.ix (r := rB) sl29 h2 Wt.no rfl rfl ex184 rfl fun b185 o185 cc185 me185 rd185 => ?_
              obtain rfl := rd185
              refine L.ld (j := 0) me185 nag4 Wt.no rfl rfl rfl rfl (L.nil (X.seqN ?_))
              rcases ifS hm with ⟨hc, hm⟩ | ⟨hc, hm⟩
              ·refine E.cT rfl hc (E.reg (L.mv Wt.no rfl rfl (L.mv Wt.no rfl rfl (L.bsE (k := 1) (cs := [.int .i64 st111.1]) 0 bs23 (Nat.le_of_ble_eq_true rfl) Wt.no rfl rfl rfl rfl fun b186 s187 m188 bx186 => ?_))))
               replace m0 := m0.trans m188.no
               replace h25 := h25.mono (m188.le no_No)
               replace h60 := h60.mono (m188.le no_No)
               replace h94 := h94.mv m188 no_No no_No
               replace bx7 := bx7.mv m188 no_No
               replace h1 := h1.mono (m188.le no_No)
               replace h2 := h2.mono (m188.le no_No)
               have h186 := Bx.rdL (r := (rK .i64)) (xs := ([st111.1] : List Int)) bx186 ⟨[.int .i64 st111.1], _, rfl, rfl, rfl⟩ (Nat.le_of_ble_eq_true rfl)
               obtain ⟨x189, ex189, hm⟩ := bindS hm
               refine L.ap (r := (rK .i64)) Try.underlying23 el3 rfl (tgp hN) h94 h186.wk Wt.no rfl rfl ex189 rfl fun a190 c190 s191 m192 h190 => ?_
               replace m0 := m0.trans (m192.one up)
               replace h25 := h25.mono (m192.le (tg0 hN))
               replace h60 := h60.mono (m192.le (tg0 hN))
               replace bx7 := bx7.mv m192 (tgN (by decide))
               replace h1 := h1.mono (m192.le (tg0 hN))
               replace h2 := h2.mono (m192.le (tg0 hN))
               exact L.as Wt.no rfl rfl (L.nil (X.blkN (X.sub (Jj183 _ _ ⟨s191, x189, a190, c190, hm, m0, h190, h60, h25, h1, h2, bx7, rfl, rfl⟩) (Sub.rf rfl))))
              ·exact E.cF rfl hc (E.skip (X.blkN (X.sub (Jj183 _ _ ⟨s114, st111.2, a94, c94, hm, m0, h94, h60, h25, h1, h2, bx7, rfl, rfl⟩) (Sub.rf rfl))))
            ·refine E.cF rfl hc (E.exit (X.seqX (X.seqX ?_)))
             have hx := ho111 _ (Option.some.inj hm).symm
             subst hx
             exact X.sub (K179 _ _ ⟨s114, a94, c94, m0, h94, h60, h25, h1, h2, bx7, rfl, rfl⟩) (Sub.rf rfl)
         ·intro J193
          rcases Bool.eq_false_or_eq_true ((p1.1.length : Int) != r31.1.1.2.1) with hc | hc
          ·exact L.know (d := 119) rfl hc (L.skip rfl rfl rfl rfl (L.skip rfl rfl rfl rfl (L.skip rfl rfl rfl rfl (L.skip rfl rfl rfl rfl (L.skip rfl rfl rfl rfl (L.skip rfl rfl rfl rfl (L.skip rfl rfl rfl rfl (L.pkT Wt.no rfl rfl rfl rfl (L.sb (J193 _ _ ⟨true, (orT hc).symm, rfl, rfl⟩) rfl)))))))))
          ·exact L.know (d := 119) rfl hc (L.fa fa39_1 (Wt.mk rfl rfl) rfl rfl (L.ld (j := 1) bx7.mem nag29 (Wt.mk rfl rfl) rfl rfl rfl rfl (L.len sl29 (Wt.mk rfl rfl) rfl rfl (L.fa fa34_0 (Wt.mk rfl rfl) rfl rfl (L.fa fa32_2 (Wt.mk rfl rfl) rfl rfl (L.ld (j := 2) bx38.mem nag3 (Wt.mk rfl rfl) rfl rfl rfl rfl (L.bi (Wt.mk rfl rfl) rfl rfl rfl rfl (L.pkF Wt.no rfl rfl rfl rfl (L.sb (J193 _ _ ⟨((p1.2.length : Int) != r31.1.1.2.2.1), (orF hc).symm, rfl, rfl⟩) rfl)))))))))
       ·intro J194
        rcases Bool.eq_false_or_eq_true (r49.2 != n46) with hc | hc
        ·exact L.know (d := 78) rfl hc (L.skip rfl rfl rfl rfl (L.skip rfl rfl rfl rfl (L.skip rfl rfl rfl rfl (L.skipU rfl rfl rfl (L.skipU rfl rfl rfl (L.skipU rfl rfl rfl (L.skip rfl rfl rfl rfl (L.pkT Wt.no rfl rfl rfl rfl (L.sb (J194 _ _ ⟨true, (orT hc).symm, rfl, rfl⟩) rfl)))))))))
        ·refine L.know (d := 78) rfl hc (L.mv (Wt.mk rfl rfl) rfl rfl (L.bi (Wt.mk rfl rfl) rfl rfl rfl rfl (L.mv (Wt.mk rfl rfl) rfl rfl (L.cut 4 (fun e w => ∃ (v195 : Bool), ((n46 != 0) && (decide ((r49.1.length : Int) > 0))) = v195 ∧ e = (85, .bool v195) :: [(78, .bool false), (11, .int .i64 n46), (9, .pointer (some ⟨b38, 0, none⟩)), (8, .slice a25 r19.2.length c25), (7, .pointer (some ⟨b26, 0, none⟩)), (4, .pointer (some ⟨b7, 0, none⟩)), (2, .slice a3 p2.length c3)] ∧ w = s50.w) ?_ ?_))))
         ·rintro _ _ ⟨v195, rfl, rfl, rfl⟩
          exact L.pkF Wt.no rfl rfl rfl rfl (L.sb (J194 _ _ ⟨((n46 != 0) && (decide ((r49.1.length : Int) > 0))), (orF hc).symm, rfl, rfl⟩) rfl)
         ·intro J196
          rcases Bool.eq_false_or_eq_true (n46 != 0) with hc | hc
          ·exact L.know (d := 81) rfl hc (L.mv (Wt.mk rfl rfl) rfl rfl (L.len sl29 (Wt.mk rfl rfl) rfl rfl (L.bi (Wt.mk rfl rfl) rfl rfl rfl rfl (L.pkT (Wt.mk rfl rfl) rfl rfl rfl rfl (L.sb (J196 _ _ ⟨(decide ((r49.1.length : Int) > 0)), (andT hc).symm, rfl, rfl⟩) rfl)))))
          ·exact L.know (d := 81) rfl hc (L.skip rfl rfl rfl rfl (L.skip rfl rfl rfl rfl (L.skip rfl rfl rfl rfl (L.pkF (Wt.mk rfl rfl) rfl rfl rfl rfl (L.sb (J196 _ _ ⟨false, (andF hc).symm, rfl, rfl⟩) rfl)))))
      ·intro Jj48
       refine E.seq (E.reg (L.mv Wt.no rfl rfl (L.bi Wt.no rfl rfl rfl rfl (L.mv Wt.no rfl rfl ?_))))
       obtain ⟨b197, eb197, hm⟩ := bindS hm
       refine L.cut 4 (fun e w => ∃ (s199 : Sig) (v198 : Bool), b197 = v198 ∧ Mv (Up N No) s s199 ∧ RdL (rK .i64) s199 a25 c25 r19.2 ∧ RdL (rK .i64) s199 a3 c3 p2 ∧ RdL rB s199 a1 c1 p1.1 ∧ RdL rB s199 a2 c2 p1.2 ∧ RdL (rK .i64) s199 a22 c22 r19.1.1 ∧ RdL (rK .i64) s199 a23 c23 r19.1.2.2.1 ∧ RdL (rP (rK .i64) (rP (rK .i64) (rK .i64))) s199 a24 c24 r19.1.2.2.2 ∧ RdL rB s199 a34 c34 r31.1.1.2.2.2.1 ∧ RdL (rP (rK .i64) (rK .i64)) s199 a35 c35 r31.1.1.2.2.2.2 ∧ RdL (rK .i64) s199 a36 c36 r31.1.2.1 ∧ RdL (rK .i64) s199 a37 c37 r31.1.2.2.1 ∧ Bx s199 (N + 1) b7 #[.slice a1 p1.1.length c1, .slice a2 p1.2.length c2] 39 ∧ Bx s199 0 b26 #[.slice a22 r19.1.1.length c22, .int .i64 r19.1.2.1, .slice a23 r19.1.2.2.1.length c23, .slice a24 r19.1.2.2.2.length c24] 26 ∧ Bx s199 (N + 3) b38 #[.int .i64 r31.1.1.1, .int .i64 r31.1.1.2.1, .int .i64 r31.1.1.2.2.1, .slice a34 r31.1.1.2.2.2.1.length c34, .slice a35 r31.1.1.2.2.2.2.length c35, .slice a36 r31.1.2.1.length c36, .slice a37 r31.1.2.2.1.length c37, .int .i64 r31.1.2.2.2] 34 ∧ e = (68, .bool v198) :: [(11, .int .i64 r43), (9, .pointer (some ⟨b38, 0, none⟩)), (8, .slice a25 r19.2.length c25), (7, .pointer (some ⟨b26, 0, none⟩)), (4, .pointer (some ⟨b7, 0, none⟩)), (2, .slice a3 p2.length c3)] ∧ w = s199.w) ?_ ?_
       ·rintro _ _ ⟨s199, v198, rfl, m0, h25, h3, h1, h2, h22, h23, h24, h34, h35, h36, h37, bx7, bx26, bx38, rfl, rfl⟩
        refine L.nil (X.seqN ?_)
        rcases ifS hm with ⟨hc, hm⟩ | ⟨hc, hm⟩
        ·exact E.cT rfl hc (E.reg (L.as Wt.no rfl rfl (L.nil (X.sub (Jj48 _ _ ⟨s199, 9, hm, m0, h25, h3, h1, h2, h22, h23, h24, h34, h35, h36, h37, bx7, bx26, bx38, rfl, rfl⟩) (Sub.rf rfl)))))
        ·exact E.cF rfl hc (E.skip (X.sub (Jj48 _ _ ⟨s199, r43, hm, m0, h25, h3, h1, h2, h22, h23, h24, h34, h35, h36, h37, bx7, bx26, bx38, rfl, rfl⟩) (Sub.rf rfl)))
       ·intro J200
        rcases ifS eb197 with ⟨hc, hm⟩ | ⟨hc, hm⟩
        ·refine L.know (d := 64) rfl hc (L.mv (Wt.mk rfl rfl) rfl rfl ?_)
         have m201 := Sig.fz_mv (N + 2) s44
         replace bx26 := bx26.fz (tgn hN)
         replace m0 := m0.trans (m201.one up)
         replace h3 := h3.mono (m201.le (tg0 hN))
         replace h25 := h25.mono (m201.le (tg0 hN))
         replace bx7 := bx7.mv m201 (tgN (by decide))
         replace h1 := h1.mono (m201.le (tg0 hN))
         replace h2 := h2.mono (m201.le (tg0 hN))
         replace h22 := h22.mono (m201.le (tg0 hN))
         replace h23 := h23.mono (m201.le (tg0 hN))
         replace h24 := h24.mono (m201.le (tg0 hN))
         replace bx38 := bx38.mv m201 (tgN (by decide))
         replace h34 := h34.mono (m201.le (tg0 hN))
         replace h35 := h35.mono (m201.le (tg0 hN))
         replace h36 := h36.mono (m201.le (tg0 hN))
         replace h37 := h37.mono (m201.le (tg0 hN))
         refine L.toR (s' := (Sig.fz (N + 2) s44)) rfl ?_
         have h202 : FV1 Try.prog (Sig.fz (N + 2) s44) (.func (.func 30) #[] #[.pointer (some ⟨b26, 0, none⟩)]) (fun (x0 : Int) => [.int .i64 x0]) (fun (r : Bool) => .bool r) (m_overseerlaw53_GenerateReads_1 r19.1) := ⟨30, #[], #[.pointer (some ⟨b26, 0, none⟩)], rfl, cf30, fun x0 r hm s' hl => by have hh := m_overseerlaw53_GenerateReads_1_c (s := s') (h22.mono hl) (h23.mono hl) (h24.mono hl) (bx26.le hl) hm; simpa using hh⟩
         refine L.mf (Wt.mk rfl rfl) rfl rfl rfl ?_
         obtain ⟨r203, er203, hm⟩ := bindS hm
         refine L.ca cf29 rfl rfl (Wt.mk rfl rfl) rfl (m_slices_ContainsFunc_int_c (s := (Sig.fz (N + 2) s44)) (p0 := p2) (p1 := (m_overseerlaw53_GenerateReads_1 r19.1)) h3 h202 er203) rfl ?_
         rintro _ s204 m205 rfl
         replace m0 := m0.trans m205.no
         replace h3 := h3.mono (m205.le no_No)
         replace h25 := h25.mono (m205.le no_No)
         replace bx7 := bx7.mv m205 no_No
         replace h1 := h1.mono (m205.le no_No)
         replace h2 := h2.mono (m205.le no_No)
         replace bx26 := bx26.mv m205 no_No
         replace h22 := h22.mono (m205.le no_No)
         replace h23 := h23.mono (m205.le no_No)
         replace h24 := h24.mono (m205.le no_No)
         replace bx38 := bx38.mv m205 no_No
         replace h34 := h34.mono (m205.le no_No)
         replace h35 := h35.mono (m205.le no_No)
         replace h36 := h36.mono (m205.le no_No)
         replace h37 := h37.mono (m205.le no_No)
         exact L.pkT Wt.no rfl rfl rfl rfl (L.sb (J200 _ _ ⟨s204, r203, (Option.some.inj hm).symm, m0, h25, h3, h1, h2, h22, h23, h24, h34, h35, h36, h37, bx7, bx26, bx38, rfl, rfl⟩) rfl)
        ·refine L.know (d := 64) rfl hc (L.skip rfl rfl rfl rfl (L.skip rfl rfl rfl rfl (L.skip rfl rfl rfl rfl (L.pkF Wt.no rfl rfl rfl rfl ?_))))
         have m206 := Sig.fz_mv (N + 2) s44
         replace bx26 := bx26.fz (tgn hN)
         replace m0 := m0.trans (m206.one up)
         replace h25 := h25.mono (m206.le (tg0 hN))
         replace h3 := h3.mono (m206.le (tg0 hN))
         replace bx38 := bx38.mv m206 (tgN (by decide))
         replace h34 := h34.mono (m206.le (tg0 hN))
         replace h35 := h35.mono (m206.le (tg0 hN))
         replace h36 := h36.mono (m206.le (tg0 hN))
         replace h37 := h37.mono (m206.le (tg0 hN))
         replace h22 := h22.mono (m206.le (tg0 hN))
         replace h23 := h23.mono (m206.le (tg0 hN))
         replace h24 := h24.mono (m206.le (tg0 hN))
         replace bx7 := bx7.mv m206 (tgN (by decide))
         replace h1 := h1.mono (m206.le (tg0 hN))
         replace h2 := h2.mono (m206.le (tg0 hN))
         exact L.sb (J200 _ _ ⟨(Sig.fz (N + 2) s44), false, (Option.some.inj hm).symm, m0, h25, h3, h1, h2, h22, h23, h24, h34, h35, h36, h37, bx7, bx26, bx38, rfl, rfl⟩) rfl
   ·intro J207
    rcases Bool.eq_false_or_eq_true (((!r10) || (decide ((p1.1.length : Int) > 20))) || (decide ((p1.2.length : Int) > 20))) with hc | hc
    ·exact L.know (d := 41) rfl hc (L.skip rfl rfl rfl rfl (L.skip rfl rfl rfl rfl (L.skip rfl rfl rfl rfl (L.pkT Wt.no rfl rfl rfl rfl (L.sb (J207 _ _ ⟨true, (orT hc).symm, rfl, rfl⟩) rfl)))))
    ·exact L.know (d := 41) rfl hc (L.mv (Wt.mk rfl rfl) rfl rfl (L.len sl23 (Wt.mk rfl rfl) rfl rfl (L.bi (Wt.mk rfl rfl) rfl rfl rfl rfl (L.pkF Wt.no rfl rfl rfl rfl (L.sb (J207 _ _ ⟨(decide ((p2.length : Int) > 8)), (orF hc).symm, rfl, rfl⟩) rfl)))))
  ·intro J208
   rcases Bool.eq_false_or_eq_true ((!r10) || (decide ((p1.1.length : Int) > 20))) with hc | hc
   ·exact L.know (d := 35) rfl hc (L.skip rfl rfl rfl rfl (L.skip rfl rfl rfl rfl (L.skip rfl rfl rfl rfl (L.skip rfl rfl rfl rfl (L.pkT Wt.no rfl rfl rfl rfl (L.sb (J208 _ _ ⟨true, (orT hc).symm, rfl, rfl⟩) rfl))))))
   ·exact L.know (d := 35) rfl hc (L.fa fa39_1 (Wt.mk rfl rfl) rfl rfl (L.ld (j := 1) bx7.mem nag29 (Wt.mk rfl rfl) rfl rfl rfl rfl (L.len sl29 (Wt.mk rfl rfl) rfl rfl (L.bi (Wt.mk rfl rfl) rfl rfl rfl rfl (L.pkF Wt.no rfl rfl rfl rfl (L.sb (J208 _ _ ⟨(decide ((p1.2.length : Int) > 20)), (orF hc).symm, rfl, rfl⟩) rfl))))))
 ·intro J209
  rcases Bool.eq_false_or_eq_true (!r10) with hc | hc
  ·exact L.know (d := 29) rfl hc (L.skip rfl rfl rfl rfl (L.skip rfl rfl rfl rfl (L.skip rfl rfl rfl rfl (L.skip rfl rfl rfl rfl (L.pkT Wt.no rfl rfl rfl rfl (L.sb (J209 _ _ ⟨true, (orT hc).symm, rfl, rfl⟩) rfl))))))
  ·exact L.know (d := 29) rfl hc (L.fa fa39_0 (Wt.mk rfl rfl) rfl rfl (L.ld (j := 0) bx7.mem nag29 (Wt.mk rfl rfl) rfl rfl rfl rfl (L.len sl29 (Wt.mk rfl rfl) rfl rfl (L.bi (Wt.mk rfl rfl) rfl rfl rfl rfl (L.pkF Wt.no rfl rfl rfl rfl (L.sb (J209 _ _ ⟨(decide ((p1.1.length : Int) > 20)), (orF hc).symm, rfl, rfl⟩) rfl))))))

end Go.Proofs.Ytkkemchihllklaa

namespace Go.Proofs.Ytkkemchihllklaa
open Go Go.RowKit

theorem codeP_eq {a : Aut} {l : List Int} {n : Nat} : codeP a l n = ((codeP a l n).1, a.al, l, (n : Int)) := rfl
theorem SkIn.inputs {a : Aut} {l : List Int} {n : Nat} (h : SkIn a l n) {ev : List Int} (ie : Inc ev) (hs : ∀ x ∈ ev, x ∈ a.al) : m_generate_Inputs (codeP a l n) ev = some (a.al.map (hasB ev), 0) := by
  have h1 := sub_len ie hs
  have h2 := h.gen.al
  rw [codeP_eq, inputs_eq (by omega) (by omega) h.ia ie (h.set32 ie hs) (subB_of hs)]
theorem containsF_eq {xs : List Int} {p : Int → Option Bool} {q : Int → Bool} (hl : xs.length < 4611686018427387904) (hp : ∀ x ∈ xs, p x = some (q x)) : m_slices_ContainsFunc_int xs p = some (xs.any q) := by
  rw [m_slices_ContainsFunc_int, indexF_eq hl hp, Option.bind_some]
  by_cases hm : xs.any q = true
  · rw [if_pos hm, hm]; simp
  · rw [if_neg hm, show xs.any q = false by simpa using hm]; rfl
/-- The error of a set of events that must be among some. -/
def amErr (us al : List Int) : Int := if setErr 32 none us ≠ 0 then setErr 32 none us else if subB us al = true then 0 else 9
theorem setErr_inc {n : Int} {xs : List Int} (h : setErr n none xs = 0) : Inc xs ∧ ∀ x ∈ xs, 0 ≤ x ∧ x < n := by
  have key : ∀ (xs : List Int) (p : Option Int), setErr n p xs = 0 → Inc xs ∧ (∀ x ∈ xs, 0 ≤ x ∧ x < n) ∧ ∀ q, p = some q → ∀ x ∈ xs, q < x := by
    intro xs
    induction xs with
    | nil => intro p _; exact ⟨List.Pairwise.nil, fun x hx => (by cases hx), fun q _ x hx => (by cases hx)⟩
    | cons y xs ih =>
      intro p h
      rw [setErr] at h
      split at h
      · cases h
      · rename_i h1
        split at h
        · cases h
        · rename_i h2
          obtain ⟨g1, g2, g3⟩ := ih _ h
          have g4 := g3 y rfl
          refine ⟨List.pairwise_cons.2 ⟨g4, g1⟩, fun x hx => ?_, fun q hq x hx => ?_⟩
          · rcases List.mem_cons.1 hx with rfl | hx
            · omega
            · exact g2 x hx
          · have hqy : q < y := by
              have := h2
              exact Int.not_le.1 (fun hle => this ⟨q, hq, hle⟩)
            rcases List.mem_cons.1 hx with rfl | hx
            · exact hqy
            · have := g4 x hx; omega
  exact ⟨(key xs none h).1, (key xs none h).2.1⟩
theorem among2_eq {us al : List Int} (hu : us.length < 4294967296) (ha : al.length < 4294967296) (ia : Inc al) : m_generate_among us al = some (amErr us al) := by
  rw [m_generate_among, checkSet2_eq (by omega), Option.bind_some, amErr]
  by_cases h0 : setErr 32 none us = 0
  · rw [if_neg (show ¬ (setErr 32 none us ≠ 0) from fun h => h h0), h0, if_neg (by simp), subset_eq (by omega) (by omega) (setErr_inc h0).1 ia, Option.bind_some]
    cases subB us al <;> rfl
  · rw [if_pos (by simpa using h0), if_pos h0]
theorem amErr_0 {us al : List Int} (h : amErr us al = 0) : Inc us ∧ ∀ x ∈ us, x ∈ al := by
  unfold amErr at h
  by_cases h0 : setErr 32 none us = 0
  · rw [if_neg (fun h => h h0)] at h
    refine ⟨(setErr_inc h0).1, ?_⟩
    split at h
    · rename_i h1; exact subB_mem h1
    · cases h
  · rw [if_pos h0] at h; exact absurd h h0
theorem any_subB (us al : List Int) : us.any (fun y => !hasB al y) = !subB us al := by
  unfold subB
  rw [Bool.eq_iff_iff]
  simp
/-- What the laws say of the error. -/
theorem law_err {us al : List Int} : (if setErr 32 none us = 0 then (if (us.any fun y => !hasB al y) = true then (9 : Int) else setErr 32 none us) else setErr 32 none us) = amErr us al := by
  unfold amErr
  by_cases h0 : setErr 32 none us = 0
  · rw [if_pos h0, if_neg (show ¬ (setErr 32 none us ≠ 0) from fun h => h h0), any_subB, h0]
    cases subB us al <;> rfl
  · rw [if_neg h0, if_pos h0]
/-- The places whose bits are set. -/
def onL (mem : List Bool) (n : Nat) : List Int := ((List.range n).filter fun i => mem.getD i false).map fun (i : Nat) => (i : Int)
theorem onL_succ (mem : List Bool) (k : Nat) : onL mem (k + 1) = onL mem k ++ (if mem.getD k false = true then [(k : Int)] else []) := by
  unfold onL
  rw [List.range_succ, List.filter_append, List.map_append]
  congr 1
  cases h : mem.getD k false <;> simp [List.filter_cons, h, List.getD_eq_getElem?_getD] <;> simp_all [List.getD_eq_getElem?_getD]
theorem onL_len (mem : List Bool) (k : Nat) : (onL mem k).length ≤ k := by
  unfold onL
  rw [List.length_map]
  exact Nat.le_trans (List.length_filter_le ..) (by simp)
theorem getB_at {xs : List Bool} {i : Nat} (h : i < xs.length) : xs.getD i false = xs[i] := by
  rw [List.getD_eq_getElem?_getD, List.getElem?_eq_getElem h]; rfl
section
variable {a : Aut} {l : List Int} {n : Nat}
theorem gstate_any (h : SkIn a l n) {out mem : List Bool} (ho : out.length = l.length + 1) (hm : mem.length = n + 1) :
    m_generate_State (codeP a l n) (out, mem) = some (if (onL mem n).length = 1 then ((onL mem n).getLastD 0, 0) else (0, 22)) := by
  have h1 := h.gen.n1
  have hl : (mem.take n).length = n := by rw [List.length_take]; omega
  have hi : iter (m_generate_State_l1 (mem.take n)) (0, 0, 0) = some (((onL mem n).length : Int), (onL mem n).getLastD 0) := by
    refine iter_run (f := m_generate_State_l1 (mem.take n)) (fun k : Nat => ((k : Int), ((onL mem k).length : Int), (onL mem k).getLastD 0)) n (by omega) (fun k hk => ?_) ?_
    · have h2 := onL_len mem k
      rw [m_generate_State_l1]
      dsimp only
      rw [if_pos (by rw [hl]; exact ct_lt hk), idx_at (by omega), Option.bind_some, List.getElem_take, onL_succ, getB_at (by omega)]
      cases hb : mem[k]'(by omega) with
      | true =>
        rw [if_pos rfl, if_pos rfl, m_generate_State_j1]
        dsimp only
        rw [nxt (by omega), nxt (by omega), List.length_append, List.getLastD_concat]
        rfl
      | false =>
        rw [if_neg (by simp), if_neg (by simp), List.append_nil, m_generate_State_j1]
        dsimp only
        rw [nxt (by omega)]
    · rw [m_generate_State_l1]
      dsimp only
      rw [if_neg (by rw [hl]; exact ct_ge)]
  rw [m_generate_State, fits_eq ho hm, Option.bind_some, if_neg (by simp), show slc (out, mem).2 0 (codeP a l n).2.2.2 = some (mem.take n) from by
    show slc mem 0 (n : Int) = _
    rw [slc, if_pos ⟨by omega, by omega, by omega⟩]; simp, Option.bind_some, hi, Option.bind_some]
  dsimp only
  by_cases hc : (onL mem n).length = 1
  · rw [if_neg (by simp [hc]), if_pos hc]
  · rw [if_pos (by simp; omega), if_neg hc]
theorem reads_on (h : SkIn a l n) {out mem : List Bool} (hm : mem.length = n + 1) : iter (m_overseerlaw53_GenerateReads_l2 (out, mem) (autP a, l)) (0, ([] : List Int)) = some (onL mem n) := by
  have h1 := h.gen.n1
  have hn := h.gen.hn
  refine iter_run (f := m_overseerlaw53_GenerateReads_l2 (out, mem) (autP a, l)) (fun k : Nat => ((k : Int), onL mem k)) n (by omega) (fun k hk => ?_) ?_
  · have h2 := onL_len mem k
    rw [m_overseerlaw53_GenerateReads_l2]
    dsimp only
    rw [show (autP a).2.1 = (n : Int) from hn, if_pos (ct_lt hk), idx_at (by omega), Option.bind_some, onL_succ, getB_at (by omega)]
    cases hb : mem[k]'(by omega) with
    | true =>
      rw [if_pos rfl, if_pos rfl, app_eq (by rw [List.length_cons, List.length_nil]; omega), Option.bind_some, m_overseerlaw53_GenerateReads_j4]
      dsimp only
      rw [nxt (by omega)]
    | false =>
      rw [if_neg (by simp), if_neg (by simp), List.append_nil, m_overseerlaw53_GenerateReads_j4]
      dsimp only
      rw [nxt (by omega)]
  · rw [m_overseerlaw53_GenerateReads_l2]
    dsimp only
    rw [show (autP a).2.1 = (n : Int) from hn, if_neg ct_ge]
theorem enab_any (h : SkIn a l n) {out mem : List Bool} (ho : out.length = l.length + 1) (hm : mem.length = n + 1) : ∃ w : List Int, m_generate_Enabled (codeP a l n) (out, mem) = some (w, 0) ∧ iter (m_overseerlaw53_GenerateReads_l1 (out, mem) (autP a, l)) (0, ([] : List Int)) = some w ∧ w.length ≤ 32 := by
  have h4 := h.gen.ct
  have he := enabled_eq h.gen ho hm (q := fun e => out.getD (l.idxOf e) false) (fun k hk => by
    rw [getD_at hk, (inc_nodup h.ic).idxOf_getElem k hk])
  refine ⟨_, he, ?_, Nat.le_trans (List.length_filter_le ..) h4⟩
  rw [m_generate_Enabled, fits_eq ho hm, Option.bind_some, if_neg (by simp)] at he
  have hf : m_overseerlaw53_GenerateReads_l1 (out, mem) (autP a, l) = m_generate_Enabled_l1 (codeP a l n) (out, mem) := rfl
  rw [hf]
  cases hz : iter (m_generate_Enabled_l1 (codeP a l n) (out, mem)) (0, ([] : List Int)) with
  | none => rw [hz] at he; cases he
  | some z =>
    rw [hz, Option.bind_some] at he
    rw [Option.some.injEq, Prod.mk.injEq] at he
    rw [he.1]
theorem inputs_any (h : SkIn a l n) {ev : List Int} (hl : ev.length ≤ 100) : m_generate_Inputs (codeP a l n) ev = some (if amErr ev a.al = 0 then (a.al.map (hasB ev), 0) else ([], amErr ev a.al)) := by
  have h3 := h.gen.al
  by_cases h0 : amErr ev a.al = 0
  · obtain ⟨g1, g2⟩ := amErr_0 h0
    rw [if_pos h0, h.inputs g1 g2]
  · rw [if_neg h0, m_generate_Inputs, show m_generate_among ev (codeP a l n).2.1 = some (amErr ev a.al) from among2_eq (al := a.al) (by omega) (by omega) h.ia, Option.bind_some, if_pos (by simpa using h0)]
theorem gscan_any (h : SkIn a l n) {ev : List Int} (hl : ev.length ≤ 100) {out mem : List Bool} : ∃ st, m_generate_Scan (codeP a l n) (out, mem) ev = some (st, if amErr ev a.al = 0 then (if out.length = l.length + 1 ∧ mem.length = n + 1 then 0 else 4) else amErr ev a.al) ∧ (¬ (out.length = l.length + 1 ∧ mem.length = n + 1) → st = ([], [])) := by
  have h3 := h.gen.al
  by_cases h0 : amErr ev a.al = 0
  · obtain ⟨g1, g2⟩ := amErr_0 h0
    rw [if_pos h0]
    by_cases hs : out.length = l.length + 1 ∧ mem.length = n + 1
    · rw [if_pos hs, gscan_eq h.gen h.ia h.ic g1 (by omega) (h.set32 g1 g2) (subB_of g2) hs.1 hs.2]
      exact ⟨_, rfl, fun hn => absurd hs hn⟩
    · rw [if_neg hs, m_generate_Scan, h.inputs g1 g2, Option.bind_some, if_neg (by simp)]
      dsimp only
      have hb : m_instruction_begin (codeP a l n).1 (out, mem) (a.al.map (hasB ev)) = some ([], 4) := by
        rw [m_instruction_begin, show m_instruction_Check (codeP a l n).1 = some 0 from pcheck_eq (genP_in h.gen h.ia h.ic), Option.bind_some, if_neg (by simp), if_pos]
        have e2 : (codeP a l n).1.2.1 = ((l.length + 1 : Nat) : Int) := rfl
        have e3 : (codeP a l n).1.2.2.1 = ((n + 1 : Nat) : Int) := rfl
        rw [e2, e3]
        simp only [Bool.or_eq_true, bne_iff_ne, ne_eq]
        omega
      rw [m_instruction_Scan, hb, Option.bind_some, if_pos (by simp)]
      exact ⟨_, rfl, fun _ => rfl⟩
  · rw [if_neg h0, m_generate_Scan, inputs_any h hl, if_neg h0, Option.bind_some, if_pos (by simpa using h0)]
    exact ⟨_, rfl, fun _ => rfl⟩
end
theorem reads_eq {x : Sketch} (hx : SkOk x) {st : List Bool × List Bool} {ev : List Int} : m_overseerlaw53_GenerateReads x st ev = some true := by
  obtain ⟨out, mem⟩ := st
  rw [m_overseerlaw53_GenerateReads, known53, Option.bind_some, Option.bind_some]
  dsimp only
  by_cases hl : out.length > 20 ∨ mem.length > 20 ∨ ev.length > 8
  · rw [if_pos (by simp; omega)]
  · obtain ⟨a, l, n, h1, h⟩ := make53_ex hx
    have hc := h.code
    have hct := h.gen.ct
    have hal := h.gen.al
    have hn1 := h.gen.n1
    rw [if_neg (by simp; omega), h1, Option.bind_some]
    dsimp only
    rw [hc, Option.bind_some]
    dsimp only
    rw [if_neg (by simp), checkSet2_eq (by omega), Option.bind_some]
    have hany := containsF_eq (xs := ev) (p := m_overseerlaw53_GenerateReads_1 (autP a)) (q := fun y => !hasB a.al y) (by omega) (fun y hy => by
      rw [m_overseerlaw53_GenerateReads_1, show m_slices_Contains_int (autP a).1 y = some (hasB a.al y) from contains_eq (xs := a.al) (by omega)]; rfl)
    obtain ⟨s2, hsc, hs0⟩ := gscan_any h (ev := ev) (by omega) (out := out) (mem := mem)
    have key : m_overseerlaw53_GenerateReads_j1 (out, mem) ev (autP a, l) (codeP a l n, 0) (amErr ev a.al) = some true := by
      have e2 : (codeP a l n).1.2.1 = ((l.length + 1 : Nat) : Int) := rfl
      have e3 : (codeP a l n).1.2.2.1 = ((n + 1 : Nat) : Int) := rfl
      rw [m_overseerlaw53_GenerateReads_j1]
      dsimp only
      rw [inputs_any h (by omega), Option.bind_some, if_neg (by
        by_cases h0 : amErr ev a.al = 0
        · rw [if_pos h0]; simp [h0]
        · rw [if_neg h0]; simp)]
      by_cases hs : out.length = l.length + 1 ∧ mem.length = n + 1
      · obtain ⟨w, w1, w2, w3⟩ := enab_any h hs.1 hs.2
        rw [if_pos hs] at hsc
        rw [gstate_any h hs.1 hs.2, Option.bind_some, w1, Option.bind_some, alarmed_eq h.gen hs.1 hs.2, Option.bind_some, hsc, Option.bind_some]
        dsimp only
        rw [e2, e3, if_neg (by simp; omega), if_neg (by split <;> simp_all), reads_on h hs.2, Option.bind_some, w2, Option.bind_some, if_neg (by simp), equal_self (by omega), Option.bind_some, Option.bind_some, if_neg (by simp), idx_at (by omega), Option.bind_some, getB_at (by omega), Option.bind_some, if_neg (by simp)]
        by_cases hc1 : (onL mem n).length = 1
        · rw [if_pos hc1, if_neg (by simp [hc1]), if_pos (by simp), show idx (onL mem n) 0 = some ((onL mem n)[0]'(by omega)) from idx_at (i := 0) (by omega), Option.bind_some, Option.bind_some]
          congr 1
          obtain ⟨y, hy⟩ := List.length_eq_one_iff.1 hc1
          simp [hy]
        · rw [if_neg hc1, if_pos (by simp; omega)]
          rfl
      · have hfit : m_generate_fits (codeP a l n) (out, mem) = some 4 := by
          rw [m_generate_fits, e2, e3, if_pos (by simp; omega)]
        rw [if_neg hs] at hsc
        have hs1 := hs0 hs
        subst hs1
        rw [m_generate_State, hfit, Option.bind_some, if_pos (by simp), Option.bind_some, m_generate_Enabled, hfit, Option.bind_some, if_pos (by simp), Option.bind_some, m_generate_Alarmed, hfit, Option.bind_some, if_pos (by simp), Option.bind_some, hsc, Option.bind_some, e2, e3, if_pos (by simp; omega)]
        by_cases h0 : amErr ev a.al = 0
        · rw [if_pos (by simp [h0]), if_pos h0]; rfl
        · rw [if_neg (by simp [h0]), if_neg h0, m_overseerlaw53_GenerateReads_j2]
          simp
          decide
    have hle := law_err (us := ev) (al := a.al)
    rw [← hle] at key
    by_cases h0 : setErr 32 none ev = 0
    · rw [if_pos h0] at key
      rw [if_pos (by simpa using h0), hany, Option.bind_some, Option.bind_some]
      split
      · rename_i h2; rw [if_pos h2] at key; exact key
      · rename_i h2; rw [if_neg h2] at key; exact key
    · rw [if_neg h0] at key
      rw [if_neg (by simpa using h0), Option.bind_some, if_neg (by simp)]
      exact key
end Go.Proofs.Ytkkemchihllklaa

namespace Go.Proofs.Ytkkemchihllklaa
open Go Go.ChangeShapes Go.WideShapes Go.ChangeAt Go.RowKit

set_option maxRecDepth 100000 in
theorem generateReads_lifted (os : Os) (started : os.Started) (H : Type) (enc : TypeId × Value → H) :
    ReturnsInHanded {} Try.checked os 7 .any (Rows.generateReadsSpec.pre6 enc Try.prog Try.f7 Rows.generateReadsRow.domain false) (Rows.generateReadsSpec.post enc Try.prog Try.f7 false true false false) := by
  refine returnsInHanded_of_change (C := Try.checked) Try.own started (by kernel_rfl) Try.func7
    (ChangeSpec.witness6 (enc := enc) (C := Try.checked) false ⟨#[], #[.agg #[.int .u8 0, .int .u8 0, .int .u8 0, .int .u8 0, .int .u8 0, .int .u8 0, .int .u8 0, .int .u8 0, .int .u8 0, .int .u8 0, .int .u8 0, .int .u8 0, .int .u8 0, .int .u8 0, .int .u8 0, .int .u8 0, .int .u8 0, .int .u8 0, .int .u8 0, .int .u8 0, .int .u8 0, .int .u8 0, .int .u8 0, .int .u8 0, .int .u8 0, .int .u8 0, .int .u8 0, .int .u8 0, .int .u8 0], .agg #[.slice none 0 0, .slice none 0 0], .slice none 0 0], []⟩ 8 (by kernel_rfl) (by kernel_rfl) (by kernel_rfl) (by kernel_rfl)) ?_
  intro W base args ds gs before hval0 hW hcnd _
  have hval : ∀ (j : Nat) t v, Try.f7.params[j]? = some t → args[j]? = some v → Value.okWide Try.prog W .any base t v := hval0
  have hW' := hW
  obtain ⟨p, q, hA0, hV, rfl, hfz, hnd⟩ := hW
  have hA : DataW.TrodAll enc Try.prog W 0 (fun _ => true) true Try.f7.params.toList args.toList ds p := hA0
  rw [Try.params7] at hA hval
  obtain ⟨v0, v1, v2, d0, d1, d2, p0, p1, p2, rfl, rfl, rfl, h0, h1, h2⟩ := trodAll_three hA
  obtain ⟨x, hx, rfl⟩ := arg_sketch (hval 0 51 v0 rfl rfl)
  obtain ⟨a1, c1, xs1, b1, e1, ys1, rfl, r1, q1⟩ := arg_state (hval 1 39 v1 rfl rfl) h1
  obtain ⟨a2, c2, xs2, rfl, r2, k2⟩ := arg_ints (hval 2 23 v2 rfl rfl) h2
  obtain ⟨rfl, rfl⟩ := trodVars_none hV
  clear hA0 hval0
  refine (m_overseerlaw53_GenerateReads_c (s := ⟨W, fun _ => 0⟩) (p1 := (xs1, ys1)) r1 q1 r2 (reads_eq hx)).mono fun e W' ⟨v, s', hw, he, hm, hv⟩ => ?_
  subst hw
  subst he
  subst hv
  have hbl := hm.below
  exact ⟨_, rfl, law_post Try.laidOut hW' rfl (by kernel_rfl) (by kernel_rfl) Try.underlying4 rfl rfl rfl hbl⟩

/-- The statement. -/
theorem generateReads_holds : Rows.GenerateReadsSaid :=
  OpenClaim.holds_of_wide 7 Try.f7 rfl rfl rfl rfl rfl rfl rfl ⟨rfl, rfl, rfl, rfl, rfl⟩ rfl rfl rfl rfl rfl (by kernel_rfl) Try.func7 (by kernel_rfl)
    (of_decide_eq_true (by kernel_rfl)) (by unfold Func.isWrapper; first | (rw [if_pos (by decide +kernel)]; kernel_rfl) | (rw [if_neg (by decide +kernel)]; exact ⟨rfl, rfl⟩))
    (fun os started H enc _ => generateReads_lifted os started H enc)
end Go.Proofs.Ytkkemchihllklaa
