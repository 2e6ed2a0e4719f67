/- GenerateRests returns true for all arguments, and leaves its arguments as they were. No conditions. -/
import Derived.Test.YtkkemchihllklaaProg
import Derived.Test.YtkkemchihllklaaQRst6
namespace Go.Proofs.Ytkkemchihllklaa
open Go Go.RowKit
theorem cf60 : Cf Try.prog 60 := Cf.mk Try.func60 (by kernel_rfl) (by kernel_rfl)
theorem zz3 : (Try.prog.info? 3).bind (·.zero) = some (.int .i64 0) := by kernel_rfl
noncomputable def m_slices_DeleteFunc_int_j1 (st26 : Int × Int × List Int) (n38 : Int) (l39 : List Int) : Option ((Int × Int × List Int) ⊕ (Int × List Int)) :=
  some (.inl (W (st26.1 + 1), n38, l39))
noncomputable def m_slices_DeleteFunc_int_l1 (p1 : Int → Option Bool) (st26 : Int × Int × List Int) : Option ((Int × Int × List Int) ⊕ (Int × List Int)) :=
  if decide (st26.1 < (st26.2.2.length : Int)) then
    (idx st26.2.2 st26.1).bind fun x42 =>
    (p1 x42).bind fun r44 =>
    if (!r44) then
      (idx st26.2.2 st26.2.1).bind fun x47 =>
      (upd st26.2.2 st26.2.1 x42).bind fun x49 =>
      m_slices_DeleteFunc_int_j1 st26 (W (st26.2.1 + 1)) x49
    else
      m_slices_DeleteFunc_int_j1 st26 st26.2.1 st26.2.2
  else
    some (.inr st26.2)
/-- What slices.DeleteFunc<<>int,int> computes. -/
noncomputable def m_slices_DeleteFunc_int (p0 : List Int) (p1 : Int → Option Bool) : Option (List Int × List Int) :=
  (m_slices_IndexFunc_int p0 p1).bind fun r3 =>
  if (r3 == (-1)) then
    some (p0, p0)
  else
    (iter (m_slices_DeleteFunc_int_l1 p1) ((W (r3 + 1)), r3, p0)).bind fun o26 =>
    (slc o26.2 o26.1 (o26.2.length : Int)).bind fun x31 =>
    (clrG o26.2 o26.1 (0 : Int)).bind fun x34 =>
    (slc (o26.2.take o26.1.toNat ++ List.replicate (o26.2.length - o26.1.toNat) (0 : Int)) 0 o26.1).bind fun x35 =>
    some (x35, (o26.2.take o26.1.toNat ++ List.replicate (o26.2.length - o26.1.toNat) (0 : Int)))
set_option maxRecDepth 100000 in
set_option maxHeartbeats 8000000 in
theorem m_slices_DeleteFunc_int_c {s : Sig} {p0 : List Int} {p1 : Int → Option Bool} {t0 : Nat} {a1 : Option Addr} {c1 : Nat} {vp1 : Value} {r : List Int × List Int} (zt0 : 0 < t0) (h1 : RowT (rK .i64) s t0 3 a1 c1 p0) (hp1 : FV1 Try.prog s vp1 (fun (x0 : Int) => [.int .i64 x0]) (fun (r : Bool) => .bool r) p1) (hm : m_slices_DeleteFunc_int p0 p1 = some r) :
    Calls Try.prog 48 #[.slice a1 p0.length c1, vp1] s.w (RetS (One t0) s fun v s' => ∃ (a2 : Option Addr) (c2 : Nat), v = .slice a2 r.1.length c2 ∧ RowT (rK .i64) s' t0 3 a2 c2 r.1 ∧ RowT (rK .i64) s' t0 3 a1 c1 r.2) := by
 unfold m_slices_DeleteFunc_int at hm
 obtain ⟨N, hN, hNb, lt0, -⟩ := s.freshL [t0]
 have m0 : Mv (Up N (One t0)) s s := Mv.refl _ _
 refine E.entry Try.func48 rfl Try.ntmps48 rfl rfl (E.seq (E.reg (L.as Wt.no rfl rfl (L.nil (X.seqN (E.seq (E.reg (L.mv Wt.no rfl rfl (L.mv Wt.no rfl rfl ?_)))))))))
 obtain ⟨r3, er3, hm⟩ := bindS hm
 refine L.ca cf60 rfl rfl Wt.no rfl (Calls.lendG (s0 := (Sig.fz t0 (Sig.drop N s))) (s := s) rfl (m_slices_IndexFunc_int_c (s := (Sig.fz t0 (Sig.drop N s))) (p0 := p0) (p1 := p1) ((h1.dropV lt0).fz (Ne.symm (tne0V zt0))) (hp1.mono ((Sig.drop_le N _).trans ((Sig.fz_mv t0 _).le (tgz zt0)))) er3) (fun v s' h => h)) rfl ?_
 rintro _ s4 m5 rfl
 replace m0 := m0.trans m5.no
 replace h1 := h1.mv m5 no_No no_No
 replace hp1 := hp1.mono (m5.le no_No)
 refine L.as Wt.no rfl rfl (L.nil (X.seqN (E.seq (E.seq (E.reg (L.mv Wt.no rfl rfl (L.bi Wt.no rfl rfl rfl rfl (L.nil (X.seqN ?_)))))))))
 rcases ifS hm with ⟨hc, hm⟩ | ⟨hc, hm⟩
 ·refine E.cT rfl hc (E.seq (E.reg (L.mv Wt.no rfl rfl (L.as Wt.no rfl rfl (L.nil (X.seqN (E.ret (X.seqR ?_))))))))
  obtain rfl := Option.some.inj hm
  exact X.rt (.inl rfl) Try.results48 (Rs.tmp rfl Rs.nil) rfl ⟨_, (s4).ren N (fun _ => 0), rfl, rfl, m0.ren hNb, ⟨a1, c1, rfl, (h1.renV hN lt0), (h1.renV hN lt0)⟩⟩
 ·refine E.cF rfl hc (E.skip (X.seqN (E.seq (E.seq (E.reg (L.mv Wt.no rfl rfl (L.bi Wt.no rfl rfl rfl rfl (L.as Wt.no rfl rfl (L.nil (X.seqN (E.block ?_)))))))))))
  obtain ⟨o26, eo26, hm⟩ := bindS hm
  refine E.cut (x := .exit 0) (fun e w => ∃ (s30 : Sig), Mv (Up N (One t0)) s s30 ∧ RowT (rK .i64) s30 t0 3 a1 c1 o26.2 ∧ e = [(5, .int .i64 o26.1), (0, .slice a1 o26.2.length c1)] ∧ w = s30.w) ?_ ?_
  ·rintro _ _ ⟨s30, m0, h1, rfl, rfl⟩
   refine X.blkE (X.seqN (E.seq (E.reg (L.mv Wt.no rfl rfl (L.mv Wt.no rfl rfl ?_)))))
   obtain ⟨x31, ex31, hm⟩ := bindS hm
   refine L.slo (r := (rK .i64)) sl23 h1 Wt.no rfl rfl ex31 rfl ?_
   obtain ⟨x34, ex34, hm⟩ := bindS hm
   obtain ⟨kx34, rfl⟩ := clr_some ex34
   refine L.clr (r := (rK .i64)) (lo := o26.1.toNat) (z0 := (0 : Int)) sl23 zz3 rfl rfl (fun _ => rfl) kx34 h1 (tgpV zt0) Wt.no rfl fun s32 m33 h1 => ?_
   have elx34 : (o26.2.take o26.1.toNat ++ List.replicate (o26.2.length - o26.1.toNat) (0 : Int)).length = o26.2.length := clr_len kx34
   replace m0 := m0.trans (m33.one (.inr rfl))
   refine L.reval (d := 0) rfl elx34 (L.nil (X.seqN (E.seq (E.reg (L.mv Wt.no rfl rfl (L.mv Wt.no rfl rfl ?_))))))
   obtain ⟨x35, ex35, hm⟩ := bindS hm
   refine L.sho (r := (rK .i64)) sl23 h1 Wt.no rfl rfl ex35 rfl fun a36 c36 h36 => L.as Wt.no rfl rfl (L.nil (X.seqN (E.ret ?_)))
   obtain rfl := Option.some.inj hm
   exact X.rt (.inl rfl) Try.results48 (Rs.tmp rfl Rs.nil) rfl ⟨_, (s32).ren N (fun _ => 0), rfl, rfl, m0.ren hNb, ⟨a36, c36, rfl, (h36.renV hN lt0), (h1.renV hN lt0)⟩⟩
  intro K37
  refine E.iter (fun (st26 : Int × Int × List Int) (e : List (Nat × Value)) (w : World) => ∃ (s29 : Sig), Mv (Up N (One t0)) s s29 ∧ RowT (rK .i64) s29 t0 3 a1 c1 st26.2.2 ∧ FV1 Try.prog s29 vp1 (fun (x0 : Int) => [.int .i64 x0]) (fun (r : Bool) => .bool r) p1 ∧ e = [(6, .int .i64 st26.1), (5, .int .i64 st26.2.1), (0, .slice a1 st26.2.2.length c1), (1, vp1)] ∧ w = s29.w) eo26 ⟨s4, m0, h1, hp1, rfl, rfl⟩ (Sub.rf rfl) ?_
  rintro st26 res26 hm ih26 ho26 _ _ ⟨s29, m0, h1, hp1, rfl, rfl⟩
  unfold m_slices_DeleteFunc_int_l1 at hm
  refine E.seq (E.seq (E.reg (L.mv Wt.no rfl rfl (L.mv Wt.no rfl rfl (L.len sl23 Wt.no rfl rfl (L.bi Wt.no rfl rfl rfl rfl (L.nil (X.seqN ?_))))))))
  rcases ifS hm with ⟨hc, hm⟩ | ⟨hc, hm⟩
  ·refine E.cT rfl hc (E.skip (X.seqN (E.seqJ (fun e w => ∃ (s40 : Sig) (n38 : Int) (l39 : List Int), m_slices_DeleteFunc_int_j1 st26 n38 l39 = some res26 ∧ Mv (Up N (One t0)) s s40 ∧ RowT (rK .i64) s40 t0 3 a1 c1 l39 ∧ FV1 Try.prog s40 vp1 (fun (x0 : Int) => [.int .i64 x0]) (fun (r : Bool) => .bool r) p1 ∧ e = [(5, .int .i64 n38), (0, .slice a1 l39.length c1), (6, .int .i64 st26.1), (1, vp1)] ∧ w = s40.w) ?_ ?_)))
   ·rintro _ _ ⟨s40, n38, l39, hm, m0, h1, hp1, rfl, rfl⟩
    unfold m_slices_DeleteFunc_int_j1 at hm
    exact E.reg (L.mv Wt.no rfl rfl (L.bi Wt.no rfl rfl rfl rfl (L.as Wt.no rfl rfl (L.nil (X.sub (ih26 _ (Option.some.inj hm).symm _ _ ⟨s40, m0, h1, hp1, rfl, rfl⟩) (Sub.rf rfl))))))
   ·intro Jj41
    refine E.block (E.seq (E.reg (L.mv Wt.no rfl rfl (L.mv Wt.no rfl rfl ?_))))
    obtain ⟨x42, ex42, hm⟩ := bindS hm
    refine L.ir (r := (rK .i64)) sl23 h1 Wt.no rfl rfl ex42 rfl fun b43 o43 cc43 me43 rd43 sp43 => ?_
    obtain rfl := rd43
    refine L.ld (j := 0) me43 nag3 Wt.no rfl rfl rfl rfl (L.as Wt.no rfl rfl (L.nil (X.seqN (E.seq (E.reg (L.mv Wt.no rfl rfl (L.mv Wt.no rfl rfl ?_)))))))
    obtain ⟨r44, er44, hm⟩ := bindS hm
    refine L.fv1 (y := x42) hp1 rfl rfl Wt.no rfl rfl er44 rfl fun s45 m46 => ?_
    replace m0 := m0.trans m46.no
    replace h1 := h1.mv m46 no_No no_No
    replace hp1 := hp1.mono (m46.le no_No)
    refine L.not Wt.no rfl rfl (L.nil (X.seqN ?_))
    rcases ifS hm with ⟨hc, hm⟩ | ⟨hc, hm⟩
    ·refine E.cT rfl hc (E.seq (E.reg (L.mv Wt.no rfl rfl (L.mv Wt.no rfl rfl (L.mv Wt.no rfl rfl ?_)))))
     obtain ⟨x47, ex47, hm⟩ := bindS hm
     refine L.ir (r := (rK .i64)) sl23 h1 Wt.no rfl rfl ex47 rfl fun b48 o48 cc48 me48 rd48 sp48 => ?_
     obtain rfl := rd48
     obtain ⟨x49, ex49, hm⟩ := bindS hm
     have elx49 := upd_len ex49
     refine L.su (fo := 0) (c := [.int .i64 x42]) (z := x42) h1 sp48 ex47 ex49 (tgpV zt0) nag3.sz Wt.no rfl rfl rfl rfl rfl rfl (fun c0 hc0 => by obtain rfl := hc0; exact rfl) fun s50 m51 h1 => ?_
     replace m0 := m0.trans (m51.one (.inr rfl))
     replace hp1 := hp1.mono (m51.le (tgz zt0))
     exact L.reval (d := 0) rfl elx49 (L.nil (X.seqN (E.reg (L.mv Wt.no rfl rfl (L.bi Wt.no rfl rfl rfl rfl (L.as Wt.no rfl rfl (L.nil (X.blkN (X.sub (Jj41 _ _ ⟨s50, (W (st26.2.1 + 1)), x49, hm, m0, h1, hp1, rfl, rfl⟩) (Sub.rf rfl))))))))))
    ·exact E.cF rfl hc (E.skip (X.blkN (X.sub (Jj41 _ _ ⟨s45, st26.2.1, st26.2.2, hm, m0, h1, hp1, rfl, rfl⟩) (Sub.rf rfl))))
  ·refine E.cF rfl hc (E.exit (X.seqX (X.seqX ?_)))
   have hx := ho26 _ (Option.some.inj hm).symm
   subst hx
   exact X.sub (K37 _ _ ⟨s29, m0, h1, rfl, rfl⟩) (Sub.rf rfl)

theorem ag49 : Ag Try.prog 49 27 := Ag.mk' Try.underlying49 rfl (by kernel_rfl)
theorem cf46 : Cf Try.prog 46 := Cf.mk Try.func46 (by kernel_rfl) (by kernel_rfl)
theorem cf47 : Cf Try.prog 47 := Cf.mk Try.func47 (by kernel_rfl) (by kernel_rfl)
theorem cf48 : Cf Try.prog 48 := Cf.mk Try.func48 (by kernel_rfl) (by kernel_rfl)
theorem cf49 : Cf Try.prog 49 := Cf.mk Try.func49 (by kernel_rfl) (by kernel_rfl)
theorem fa51_0 : FA Try.prog 51 0 0 := FA.mk Try.underlying51 rfl rfl ⟨1, by decide, by kernel_rfl⟩
theorem fa51_1 : FA Try.prog 51 1 1 := FA.mk Try.underlying51 rfl rfl ⟨27, by decide, by kernel_rfl⟩
theorem fa51_2 : FA Try.prog 51 2 28 := FA.mk Try.underlying51 rfl rfl ⟨1, by decide, by kernel_rfl⟩
theorem nag45 : NAg Try.prog 45 := NAg.mk' Try.underlying45 rfl (by kernel_rfl)
/-- What overseerlaw53.Make computes. -/
noncomputable def m_overseerlaw53_Make (p0 : Int × (Int × Int × ((Int × Int × Int × Int × Int) × (Int × Int × Int × Int × Int) × (Int × Int × Int × Int × Int) × (Int × Int × Int × Int × Int) × (Int × Int × Int × Int × Int))) × Int) : Option ((List Int × Int × List Int × (List (Int × Int × Int))) × List Int) :=
  (m_overseerlaw03_Set_Events p0.1).bind fun r16 =>
  (m_overseerlaw03_Make r16 ((p0.2.1.1.tmod 5), p0.2.1.2)).bind fun r23 =>
  (m_overseerlaw03_Set_Events p0.2.2).bind fun r45 =>
  (m_slices_DeleteFunc_int r45 (m_overseerlaw53_Make_1 r23)).bind fun r52 =>
  (lenEq r52.2 r45).bind fun _ =>
  some (r23, r52.1)
set_option maxRecDepth 100000 in
set_option maxHeartbeats 8000000 in
theorem m_overseerlaw53_Make_c {s : Sig} {p0 : Int × (Int × Int × ((Int × Int × Int × Int × Int) × (Int × Int × Int × Int × Int) × (Int × Int × Int × Int × Int) × (Int × Int × Int × Int × Int) × (Int × Int × Int × Int × Int))) × Int} {u3 : Nat} {r : (List Int × Int × List Int × (List (Int × Int × Int))) × List Int} (hm : m_overseerlaw53_Make p0 = some r) :
    Calls Try.prog 16 #[.agg #[.int .u8 p0.1, .int .u8 p0.2.1.1, .int .u8 p0.2.1.2.1, .int .u8 p0.2.1.2.2.1.1, .int .u8 p0.2.1.2.2.1.2.1, .int .u8 p0.2.1.2.2.1.2.2.1, .int .u8 p0.2.1.2.2.1.2.2.2.1, .int .u8 p0.2.1.2.2.1.2.2.2.2, .int .u8 p0.2.1.2.2.2.1.1, .int .u8 p0.2.1.2.2.2.1.2.1, .int .u8 p0.2.1.2.2.2.1.2.2.1, .int .u8 p0.2.1.2.2.2.1.2.2.2.1, .int .u8 p0.2.1.2.2.2.1.2.2.2.2, .int .u8 p0.2.1.2.2.2.2.1.1, .int .u8 p0.2.1.2.2.2.2.1.2.1, .int .u8 p0.2.1.2.2.2.2.1.2.2.1, .int .u8 p0.2.1.2.2.2.2.1.2.2.2.1, .int .u8 p0.2.1.2.2.2.2.1.2.2.2.2, .int .u8 p0.2.1.2.2.2.2.2.1.1, .int .u8 p0.2.1.2.2.2.2.2.1.2.1, .int .u8 p0.2.1.2.2.2.2.2.1.2.2.1, .int .u8 p0.2.1.2.2.2.2.2.1.2.2.2.1, .int .u8 p0.2.1.2.2.2.2.2.1.2.2.2.2, .int .u8 p0.2.1.2.2.2.2.2.2.1, .int .u8 p0.2.1.2.2.2.2.2.2.2.1, .int .u8 p0.2.1.2.2.2.2.2.2.2.2.1, .int .u8 p0.2.1.2.2.2.2.2.2.2.2.2.1, .int .u8 p0.2.1.2.2.2.2.2.2.2.2.2.2, .int .u8 p0.2.2]] s.w (RetS No s fun v s' => ∃ (a1 : Option Addr) (c1 : Nat) (a2 : Option Addr) (c2 : Nat) (a3 : Option Addr) (c3 : Nat) (a4 : Option Addr) (c4 : Nat), v = .tuple #[.agg #[.slice a1 r.1.1.length c1, .int .i64 r.1.2.1, .slice a2 r.1.2.2.1.length c2, .slice a3 r.1.2.2.2.length c3], .slice a4 r.2.length c4] ∧ RdL (rK .i64) s' a1 c1 r.1.1 ∧ RdL (rK .i64) s' a2 c2 r.1.2.2.1 ∧ RdL (rP (rK .i64) (rP (rK .i64) (rK .i64))) s' a3 c3 r.1.2.2.2 ∧ RowT (rK .i64) s' u3 3 a4 c4 r.2) := by
 unfold m_overseerlaw53_Make at hm
 obtain ⟨N, hN, hNb⟩ := s.fresh
 have m0 : Mv (Up N No) s s := Mv.refl _ _
 refine E.entry Try.func16 rfl Try.ntmps16 rfl rfl (E.seq (E.reg (L.box (N + 0) Wt.no rfl rfl rfl fun b5 s6 m7 bx5 => ?_)))
 replace m0 := m0.trans m7.no
 refine L.al (N + 1) zz26 rfl Wt.no rfl fun b8 s9 m10 bx8 => ?_
 replace m0 := m0.trans m10.no
 replace bx5 := bx5.mv m10 no_No
 refine L.as Wt.no rfl rfl (L.nil (X.seqN (E.seq (E.reg (L.fa fa51_1 Wt.no rfl rfl (L.fa fa49_0 Wt.no rfl rfl (L.ld (j := 1) bx5.mem nag5 Wt.no rfl rfl rfl rfl (L.rem Wt.no rfl rfl (by decide) rfl (L.fa fa51_1 Wt.no rfl rfl (L.fa fa49_0 Wt.no rfl rfl (L.st (c := [.int .u8 (p0.2.1.1.tmod 5)]) (cs' := #[.int .u8 p0.1, .int .u8 (p0.2.1.1.tmod 5), .int .u8 p0.2.1.2.1, .int .u8 p0.2.1.2.2.1.1, .int .u8 p0.2.1.2.2.1.2.1, .int .u8 p0.2.1.2.2.1.2.2.1, .int .u8 p0.2.1.2.2.1.2.2.2.1, .int .u8 p0.2.1.2.2.1.2.2.2.2, .int .u8 p0.2.1.2.2.2.1.1, .int .u8 p0.2.1.2.2.2.1.2.1, .int .u8 p0.2.1.2.2.2.1.2.2.1, .int .u8 p0.2.1.2.2.2.1.2.2.2.1, .int .u8 p0.2.1.2.2.2.1.2.2.2.2, .int .u8 p0.2.1.2.2.2.2.1.1, .int .u8 p0.2.1.2.2.2.2.1.2.1, .int .u8 p0.2.1.2.2.2.2.1.2.2.1, .int .u8 p0.2.1.2.2.2.2.1.2.2.2.1, .int .u8 p0.2.1.2.2.2.2.1.2.2.2.2, .int .u8 p0.2.1.2.2.2.2.2.1.1, .int .u8 p0.2.1.2.2.2.2.2.1.2.1, .int .u8 p0.2.1.2.2.2.2.2.1.2.2.1, .int .u8 p0.2.1.2.2.2.2.2.1.2.2.2.1, .int .u8 p0.2.1.2.2.2.2.2.1.2.2.2.2, .int .u8 p0.2.1.2.2.2.2.2.2.1, .int .u8 p0.2.1.2.2.2.2.2.2.2.1, .int .u8 p0.2.1.2.2.2.2.2.2.2.2.1, .int .u8 p0.2.1.2.2.2.2.2.2.2.2.2.1, .int .u8 p0.2.1.2.2.2.2.2.2.2.2.2.2, .int .u8 p0.2.2]) bx5 nag5.sz Wt.no rfl rfl rfl rfl rfl (Nat.le_of_ble_eq_true rfl) rfl fun s11 m12 bx5 => ?_)))))))))))
 replace m0 := m0.trans (m12.one up)
 replace bx8 := bx8.mv m12 (tgN (by decide))
 refine L.nil (X.seqN (E.seq ?_))
 obtain ⟨r16, er16, hm⟩ := bindS hm
 obtain ⟨r23, er23, hm⟩ := bindS hm
 refine E.draw [[], [0], [0, 1], [], [3], [0, 1, 2, 3, 4], [], [0, 1, 2, 3, 4, 5, 6]] (fun D e sx => Mv (One (N + 2)) s11 sx ∧ Sub [(2, .pointer (some ⟨b8, 0, none⟩)), (1, .pointer (some ⟨b5, 0, none⟩))] e ∧ (D 0 = true → (Env.get e 11 = some (.pointer (some ⟨b5, 0, none⟩)))) ∧ (D 1 = true → (Env.get e 12 = some (.int .u8 p0.1))) ∧ (D 2 = true → (∃ (a19 : Option Addr) (c19 : Nat), Env.get e 13 = some (.slice a19 r16.length c19) ∧ RdL (rK .i64) sx a19 c19 r16)) ∧ (D 3 = true → (Env.get e 14 = some (.pointer (some ⟨b5, 1, none⟩)))) ∧ (D 4 = true → (Env.get e 15 = some (.agg #[.int .u8 (p0.2.1.1.tmod 5), .int .u8 p0.2.1.2.1, .int .u8 p0.2.1.2.2.1.1, .int .u8 p0.2.1.2.2.1.2.1, .int .u8 p0.2.1.2.2.1.2.2.1, .int .u8 p0.2.1.2.2.1.2.2.2.1, .int .u8 p0.2.1.2.2.1.2.2.2.2, .int .u8 p0.2.1.2.2.2.1.1, .int .u8 p0.2.1.2.2.2.1.2.1, .int .u8 p0.2.1.2.2.2.1.2.2.1, .int .u8 p0.2.1.2.2.2.1.2.2.2.1, .int .u8 p0.2.1.2.2.2.1.2.2.2.2, .int .u8 p0.2.1.2.2.2.2.1.1, .int .u8 p0.2.1.2.2.2.2.1.2.1, .int .u8 p0.2.1.2.2.2.2.1.2.2.1, .int .u8 p0.2.1.2.2.2.2.1.2.2.2.1, .int .u8 p0.2.1.2.2.2.2.1.2.2.2.2, .int .u8 p0.2.1.2.2.2.2.2.1.1, .int .u8 p0.2.1.2.2.2.2.2.1.2.1, .int .u8 p0.2.1.2.2.2.2.2.1.2.2.1, .int .u8 p0.2.1.2.2.2.2.2.1.2.2.2.1, .int .u8 p0.2.1.2.2.2.2.2.1.2.2.2.2, .int .u8 p0.2.1.2.2.2.2.2.2.1, .int .u8 p0.2.1.2.2.2.2.2.2.2.1, .int .u8 p0.2.1.2.2.2.2.2.2.2.2.1, .int .u8 p0.2.1.2.2.2.2.2.2.2.2.2.1, .int .u8 p0.2.1.2.2.2.2.2.2.2.2.2.2]))) ∧ (D 5 = true → (∃ (a26 : Option Addr) (c26 : Nat) (a27 : Option Addr) (c27 : Nat) (a28 : Option Addr) (c28 : Nat), Env.get e 16 = some (.agg #[.slice a26 r23.1.length c26, .int .i64 r23.2.1, .slice a27 r23.2.2.1.length c27, .slice a28 r23.2.2.2.length c28]) ∧ RowT (rK .i64) sx (N + 4) 3 a26 c26 r23.1 ∧ RowT (rK .i64) sx (N + 5) 3 a27 c27 r23.2.2.1 ∧ RowT (rP (rK .i64) (rP (rK .i64) (rK .i64))) sx (N + 6) 28 a28 c28 r23.2.2.2)) ∧ (D 6 = true → (∃ (b30 : Nat), Env.get e 4 = some (.pointer (some ⟨b30, 0, none⟩)))) ∧ (D 6 = true → D 7 = false → ∀ (b30 : Nat), Env.get e 4 = some (.pointer (some ⟨b30, 0, none⟩)) → Bx sx (N + 2) b30 #[.slice none 0 0, .int .i64 0, .slice none 0 0, .slice none 0 0] 26) ∧ (D 7 = true → ∀ (a26 : Option Addr) (c26 : Nat) (a27 : Option Addr) (c27 : Nat) (a28 : Option Addr) (c28 : Nat) (b30 : Nat), Env.get e 16 = some (.agg #[.slice a26 r23.1.length c26, .int .i64 r23.2.1, .slice a27 r23.2.2.1.length c27, .slice a28 r23.2.2.2.length c28]) → Env.get e 4 = some (.pointer (some ⟨b30, 0, none⟩)) → Bx sx (N + 2) b30 #[.slice a26 r23.1.length c26, .int .i64 r23.2.1, .slice a27 r23.2.2.1.length c27, .slice a28 r23.2.2.2.length c28] 26)) (by kernel_rfl) (by kernel_rfl) (by kernel_rfl) ?_ ?_ ?_
 ·intro sz mz
  exact ⟨mz.no, (Sub.rf rfl), nofun, nofun, nofun, nofun, nofun, nofun, nofun, nofun, nofun⟩
 ·refine ⟨?_, ?_, ?_, ?_, ?_, ?_, ?_, ?_, trivial⟩
  ·rintro D e s13 ⟨im, ib, i0, t_⟩ hk hf ha
   have kn : Kn e [(1, .pointer (some ⟨b5, 0, none⟩))] := ⟨(ib 1 _ rfl), trivial⟩
   exact L.kns _ kn (L.fa fa51_0 Wt.no rfl rfl (L.nil (X.dk kn ⟨im, Sub.fresh ib rfl, fun _ => rfl, t_⟩)))
  ·rintro D e s14 ⟨im, ib, i0, i1, t_⟩ hk hf ha
   obtain ⟨d0, -⟩ := ha
   have g0_ := i0 d0
   have bx5 := bx5.mv im (tgN (by decide))
   have kn : Kn e [(11, .pointer (some ⟨b5, 0, none⟩))] := ⟨g0_, trivial⟩
   exact L.kns _ kn (L.ld (j := 0) bx5.mem nag45 Wt.no rfl rfl rfl rfl (L.nil (X.dk kn ⟨im, Sub.fresh ib rfl, i0, fun _ => rfl, t_⟩)))
  ·rintro D e s15 ⟨im, ib, i0, i1, i2, i3, i4, i5, i6, i7, i8⟩ hk hf ha
   obtain ⟨d0, d1, -⟩ := ha
   have g1_ := i1 d1
   have kn : Kn e [(12, .int .u8 p0.1)] := ⟨g1_, trivial⟩
   refine L.kns _ kn (L.ca cf47 rfl rfl Wt.no rfl (m_overseerlaw03_Set_Events_c (s := s15) (p0 := p0.1) (u0 := 0) er16) rfl ?_)
   rintro _ s17 m18 ⟨a19, c19, rfl, h19⟩
   replace h19 := h19.p
   exact L.nil (X.dk kn ⟨im.trans m18.no, Sub.fresh ib rfl, i0, i1, fun _ => ⟨a19, c19, rfl, h19⟩, i3, i4, fun z => let ⟨a26, c26, a27, c27, a28, c28, q, h26, h27, h28⟩ := i5 z; ⟨a26, c26, a27, c27, a28, c28, q, (h26.mv m18 no_No no_No), (h27.mv m18 no_No no_No), (h28.mv m18 no_No no_No)⟩, i6, fun z z2 b30 q6 => ((i7 z z2 b30 q6).mv m18 no_No), fun z a26 c26 a27 c27 a28 c28 b30 q5 q6 => ((i8 z a26 c26 a27 c27 a28 c28 b30 q5 q6).mv m18 no_No)⟩)
  ·rintro D e s20 ⟨im, ib, i0, i1, i2, i3, t_⟩ hk hf ha
   have kn : Kn e [(1, .pointer (some ⟨b5, 0, none⟩))] := ⟨(ib 1 _ rfl), trivial⟩
   exact L.kns _ kn (L.fa fa51_1 Wt.no rfl rfl (L.nil (X.dk kn ⟨im, Sub.fresh ib rfl, i0, i1, i2, fun _ => rfl, t_⟩)))
  ·rintro D e s21 ⟨im, ib, i0, i1, i2, i3, i4, t_⟩ hk hf ha
   obtain ⟨d3, -⟩ := ha
   have g3_ := i3 d3
   have bx5 := bx5.mv im (tgN (by decide))
   have kn : Kn e [(14, .pointer (some ⟨b5, 1, none⟩))] := ⟨g3_, trivial⟩
   exact L.kns _ kn (L.lg (j := 1) (cs := [.int .u8 (p0.2.1.1.tmod 5), .int .u8 p0.2.1.2.1, .int .u8 p0.2.1.2.2.1.1, .int .u8 p0.2.1.2.2.1.2.1, .int .u8 p0.2.1.2.2.1.2.2.1, .int .u8 p0.2.1.2.2.1.2.2.2.1, .int .u8 p0.2.1.2.2.1.2.2.2.2, .int .u8 p0.2.1.2.2.2.1.1, .int .u8 p0.2.1.2.2.2.1.2.1, .int .u8 p0.2.1.2.2.2.1.2.2.1, .int .u8 p0.2.1.2.2.2.1.2.2.2.1, .int .u8 p0.2.1.2.2.2.1.2.2.2.2, .int .u8 p0.2.1.2.2.2.2.1.1, .int .u8 p0.2.1.2.2.2.2.1.2.1, .int .u8 p0.2.1.2.2.2.2.1.2.2.1, .int .u8 p0.2.1.2.2.2.2.1.2.2.2.1, .int .u8 p0.2.1.2.2.2.2.1.2.2.2.2, .int .u8 p0.2.1.2.2.2.2.2.1.1, .int .u8 p0.2.1.2.2.2.2.2.1.2.1, .int .u8 p0.2.1.2.2.2.2.2.1.2.2.1, .int .u8 p0.2.1.2.2.2.2.2.1.2.2.2.1, .int .u8 p0.2.1.2.2.2.2.2.1.2.2.2.2, .int .u8 p0.2.1.2.2.2.2.2.2.1, .int .u8 p0.2.1.2.2.2.2.2.2.2.1, .int .u8 p0.2.1.2.2.2.2.2.2.2.2.1, .int .u8 p0.2.1.2.2.2.2.2.2.2.2.2.1, .int .u8 p0.2.1.2.2.2.2.2.2.2.2.2.2]) bx5.mem ag49 Wt.no rfl rfl rfl rfl rfl (L.nil (X.dk kn ⟨im, Sub.fresh ib rfl, i0, i1, i2, i3, fun _ => rfl, t_⟩)))
  ·rintro D e s22 ⟨im, ib, i0, i1, i2, i3, i4, i5, i6, i7, i8⟩ hk hf ha
   obtain ⟨d0, d1, d2, d3, d4, -⟩ := ha
   obtain ⟨a19, c19, g2_, h19⟩ := i2 d2
   have g4_ := i4 d4
   have kn : Kn e [(13, .slice a19 r16.length c19), (15, .agg #[.int .u8 (p0.2.1.1.tmod 5), .int .u8 p0.2.1.2.1, .int .u8 p0.2.1.2.2.1.1, .int .u8 p0.2.1.2.2.1.2.1, .int .u8 p0.2.1.2.2.1.2.2.1, .int .u8 p0.2.1.2.2.1.2.2.2.1, .int .u8 p0.2.1.2.2.1.2.2.2.2, .int .u8 p0.2.1.2.2.2.1.1, .int .u8 p0.2.1.2.2.2.1.2.1, .int .u8 p0.2.1.2.2.2.1.2.2.1, .int .u8 p0.2.1.2.2.2.1.2.2.2.1, .int .u8 p0.2.1.2.2.2.1.2.2.2.2, .int .u8 p0.2.1.2.2.2.2.1.1, .int .u8 p0.2.1.2.2.2.2.1.2.1, .int .u8 p0.2.1.2.2.2.2.1.2.2.1, .int .u8 p0.2.1.2.2.2.2.1.2.2.2.1, .int .u8 p0.2.1.2.2.2.2.1.2.2.2.2, .int .u8 p0.2.1.2.2.2.2.2.1.1, .int .u8 p0.2.1.2.2.2.2.2.1.2.1, .int .u8 p0.2.1.2.2.2.2.2.1.2.2.1, .int .u8 p0.2.1.2.2.2.2.2.1.2.2.2.1, .int .u8 p0.2.1.2.2.2.2.2.1.2.2.2.2, .int .u8 p0.2.1.2.2.2.2.2.2.1, .int .u8 p0.2.1.2.2.2.2.2.2.2.1, .int .u8 p0.2.1.2.2.2.2.2.2.2.2.1, .int .u8 p0.2.1.2.2.2.2.2.2.2.2.2.1, .int .u8 p0.2.1.2.2.2.2.2.2.2.2.2.2])] := ⟨g2_, g4_, trivial⟩
   refine L.kns _ kn (L.ca cf46 rfl rfl Wt.no rfl (m_overseerlaw03_Make_c (s := s22) (p0 := r16) (p1 := ((p0.2.1.1.tmod 5), p0.2.1.2)) (u0 := (N + 4)) (u1 := (N + 5)) (u2 := (N + 6)) h19 er23) rfl ?_)
   rintro _ s24 m25 ⟨a26, c26, a27, c27, a28, c28, rfl, h26, h27, h28⟩
   exact L.nil (X.dk kn ⟨im.trans m25.no, Sub.fresh ib rfl, i0, i1, fun z => let ⟨a19, c19, q, h19⟩ := i2 z; ⟨a19, c19, q, (h19.mono (m25.le no_No))⟩, i3, i4, fun _ => ⟨a26, c26, a27, c27, a28, c28, rfl, h26, h27, h28⟩, i6, fun z z2 b30 q6 => ((i7 z z2 b30 q6).mv m25 no_No), fun z => Bool.noConfusion ((hf 7 (Nat.le_of_ble_eq_true rfl) rfl).symm.trans z)⟩)
  ·rintro D e s29 ⟨im, ib, i0, i1, i2, i3, i4, i5, i6, i7, i8⟩ hk hf ha
   exact L.al (N + 2) zz26 rfl Wt.no rfl fun b30 s31 m32 bx30 => L.nil (X.dr (s := s31) (e' := (4, .pointer (some ⟨b30, 0, none⟩)) :: e) (Sub.both (Sub.refl)) ⟨im.trans m32.no, Sub.fresh ib rfl, i0, i1, fun z => let ⟨a19, c19, q, h19⟩ := i2 z; ⟨a19, c19, q, (h19.mono (m32.le no_No))⟩, i3, i4, fun z => let ⟨a26, c26, a27, c27, a28, c28, q, h26, h27, h28⟩ := i5 z; ⟨a26, c26, a27, c27, a28, c28, q, (h26.mv m32 no_No no_No), (h27.mv m32 no_No no_No), (h28.mv m32 no_No no_No)⟩, fun _ => ⟨b30, rfl⟩, fun _ _ _ q6 => by cases (show some (.pointer (some ⟨b30, 0, none⟩) : Value) = some _ from q6); exact bx30, fun z => Bool.noConfusion ((hf 7 (Nat.le_of_ble_eq_true rfl) rfl).symm.trans z)⟩)
  ·rintro D e s33 ⟨im, ib, i0, i1, i2, i3, i4, i5, i6, i7, i8⟩ hk hf ha
   obtain ⟨d0, d1, d2, d3, d4, d5, d6, -⟩ := ha
   obtain ⟨a26, c26, a27, c27, a28, c28, g5_, h26, h27, h28⟩ := i5 d5
   obtain ⟨b30, g6_⟩ := i6 d6
   obtain bx30 := i7 d6 hk b30 g6_
   have kn : Kn e [(4, .pointer (some ⟨b30, 0, none⟩)), (16, .agg #[.slice a26 r23.1.length c26, .int .i64 r23.2.1, .slice a27 r23.2.2.1.length c27, .slice a28 r23.2.2.2.length c28])] := ⟨g6_, g5_, trivial⟩
   exact L.kns _ kn (L.st (c := [.slice a26 r23.1.length c26, .int .i64 r23.2.1, .slice a27 r23.2.2.1.length c27, .slice a28 r23.2.2.2.length c28]) (cs' := #[.slice a26 r23.1.length c26, .int .i64 r23.2.1, .slice a27 r23.2.2.1.length c27, .slice a28 r23.2.2.2.length c28]) bx30 ag26.sz Wt.no rfl rfl rfl rfl rfl (Nat.le_of_ble_eq_true rfl) rfl fun s34 m35 bx30 => L.nil (X.dn kn ⟨im.trans (m35.one rfl), ib, i0, i1, fun z => let ⟨a19, c19, q, h19⟩ := i2 z; ⟨a19, c19, q, (h19.mono (m35.le (tg0 hN)))⟩, i3, i4, fun z => let ⟨a26, c26, a27, c27, a28, c28, q, h26, h27, h28⟩ := i5 z; ⟨a26, c26, a27, c27, a28, c28, q, (h26.mv m35 (tgN (by decide)) (tg0 hN)), (h27.mv m35 (tgN (by decide)) (tg0 hN)), (h28.mv m35 (tgN (by decide)) (tg0 hN))⟩, i6, fun _ z => Bool.noConfusion (show true = false from z), fun _ _ _ _ _ _ _ _ q5 q6 => by cases g5_.symm.trans q5; cases g6_.symm.trans q6; exact bx30⟩))
 ·rintro D e s36 hD ⟨im, ib, i0, i1, i2, i3, i4, i5, i6, i7, i8⟩
  obtain ⟨a26, c26, a27, c27, a28, c28, g5_, h26, h27, h28⟩ := i5 (hD 5 rfl)
  obtain ⟨b30, g6_⟩ := i6 (hD 6 rfl)
  obtain bx30 := i8 (hD 7 rfl) a26 c26 a27 c27 a28 c28 b30 g5_ g6_
  have bx8 := bx8.mv im (tgN (by decide))
  have bx5 := bx5.mv im (tgN (by decide))
  have m0 := m0.trans (im.one up)
  refine X.sub (e' := [(4, .pointer (some ⟨b30, 0, none⟩)), (2, .pointer (some ⟨b8, 0, none⟩)), (1, .pointer (some ⟨b5, 0, none⟩))]) ?_ (Sub.cons g6_ (Sub.cons (ib 2 _ rfl) (Sub.cons (ib 1 _ rfl) Sub.nil)))
  refine X.seqN (E.seq ?_)
  have m37 := Sig.fz_mv (N + 2) s36
  replace bx30 := bx30.fz (tgn hN)
  replace m0 := m0.trans (m37.one up)
  replace h26 := h26.mv m37 (tgN (by decide)) (tg0 hN)
  replace h27 := h27.mv m37 (tgN (by decide)) (tg0 hN)
  replace h28 := h28.mv m37 (tgN (by decide)) (tg0 hN)
  replace bx8 := bx8.mv m37 (tgN (by decide))
  replace bx5 := bx5.mv m37 (tgN (by decide))
  refine E.toR (s' := (Sig.fz (N + 2) s36)) rfl ?_
  have m38 := Sig.fz_mv (N + 4) (Sig.fz (N + 2) s36)
  replace h26 := h26.fz (tgn hN)
  replace m0 := m0.trans (m38.one up)
  replace bx30 := bx30.mv m38 (tg0 hN)
  replace h27 := h27.mv m38 (tgN (by decide)) (tg0 hN)
  replace h28 := h28.mv m38 (tgN (by decide)) (tg0 hN)
  replace bx8 := bx8.mv m38 (tgN (by decide))
  replace bx5 := bx5.mv m38 (tgN (by decide))
  refine E.toR (s' := (Sig.fz (N + 4) (Sig.fz (N + 2) s36))) rfl ?_
  have m39 := Sig.fz_mv (N + 5) (Sig.fz (N + 4) (Sig.fz (N + 2) s36))
  replace h27 := h27.fz (tgn hN)
  replace m0 := m0.trans (m39.one up)
  replace bx30 := bx30.mv m39 (tg0 hN)
  replace h26 := h26.mono (m39.le (tg0 hN))
  replace h28 := h28.mv m39 (tgN (by decide)) (tg0 hN)
  replace bx8 := bx8.mv m39 (tgN (by decide))
  replace bx5 := bx5.mv m39 (tgN (by decide))
  refine E.toR (s' := (Sig.fz (N + 5) (Sig.fz (N + 4) (Sig.fz (N + 2) s36)))) rfl ?_
  have m40 := Sig.fz_mv (N + 6) (Sig.fz (N + 5) (Sig.fz (N + 4) (Sig.fz (N + 2) s36)))
  replace h28 := h28.fz (tgn hN)
  replace m0 := m0.trans (m40.one up)
  replace bx30 := bx30.mv m40 (tg0 hN)
  replace h26 := h26.mono (m40.le (tg0 hN))
  replace h27 := h27.mono (m40.le (tg0 hN))
  replace bx8 := bx8.mv m40 (tgN (by decide))
  replace bx5 := bx5.mv m40 (tgN (by decide))
  refine E.toR (s' := (Sig.fz (N + 6) (Sig.fz (N + 5) (Sig.fz (N + 4) (Sig.fz (N + 2) s36))))) rfl ?_
  obtain ⟨r45, er45, hm⟩ := bindS hm
  obtain ⟨r52, er52, hm⟩ := bindS hm
  obtain ⟨_, qz56, hm⟩ := bindS hm
  have elz56 := len_some qz56
  refine E.draw [[], [], [1], [1, 2], [], [1, 2, 3, 4], [0, 1, 2, 3, 4, 5], [0, 1, 2, 3, 4, 5, 6]] (fun D e sx => Mv (fun t => t = (N + 1) ∨ t = (N + 3)) (Sig.fz (N + 6) (Sig.fz (N + 5) (Sig.fz (N + 4) (Sig.fz (N + 2) s36)))) sx ∧ Sub [(4, .pointer (some ⟨b30, 0, none⟩)), (2, .pointer (some ⟨b8, 0, none⟩)), (1, .pointer (some ⟨b5, 0, none⟩))] e ∧ (D 0 = true → (Env.get e 17 = some (.agg #[.slice a26 r23.1.length c26, .int .i64 r23.2.1, .slice a27 r23.2.2.1.length c27, .slice a28 r23.2.2.2.length c28]))) ∧ (D 1 = true → (Env.get e 18 = some (.pointer (some ⟨b5, 28, none⟩)))) ∧ (D 2 = true → (Env.get e 19 = some (.int .u8 p0.2.2))) ∧ (D 3 = true → (∃ (a48 : Option Addr) (c48 : Nat), Env.get e 20 = some (.slice a48 r45.length c48))) ∧ (D 4 = true → (Env.get e 21 = some (.func (.func 49) #[] #[.pointer (some ⟨b30, 0, none⟩)]) ∧ FV1 Try.prog sx (.func (.func 49) #[] #[.pointer (some ⟨b30, 0, none⟩)]) (fun (x0 : Int) => [.int .i64 x0]) (fun (r : Bool) => .bool r) (m_overseerlaw53_Make_1 r23))) ∧ (D 5 = true → (∃ (a55 : Option Addr) (c55 : Nat), Env.get e 22 = some (.slice a55 r52.1.length c55))) ∧ (D 7 = true → ∀ (a55 : Option Addr) (c55 : Nat), Env.get e 22 = some (.slice a55 r52.1.length c55) → (Env.get e 3 = some (.slice a55 r52.1.length c55))) ∧ (D 6 = false → Bx sx (N + 1) b8 #[.slice none 0 0, .int .i64 0, .slice none 0 0, .slice none 0 0] 26) ∧ (D 6 = true → Bx sx (N + 1) b8 #[.slice a26 r23.1.length c26, .int .i64 r23.2.1, .slice a27 r23.2.2.1.length c27, .slice a28 r23.2.2.2.length c28] 26) ∧ (D 3 = true → D 5 = false → ∀ (a48 : Option Addr) (c48 : Nat), Env.get e 20 = some (.slice a48 r45.length c48) → RowT (rK .i64) sx (N + 3) 3 a48 c48 r45) ∧ (D 5 = true → ∀ (a48 : Option Addr) (c48 : Nat) (a55 : Option Addr) (c55 : Nat), Env.get e 20 = some (.slice a48 r45.length c48) → Env.get e 22 = some (.slice a55 r52.1.length c55) → RowT (rK .i64) sx (N + 3) 3 a55 c55 r52.1 ∧ RowT (rK .i64) sx (N + 3) 3 a48 c48 r52.2)) (by kernel_rfl) (by kernel_rfl) (by kernel_rfl) ?_ ?_ ?_
  ·intro sz mz
   exact ⟨mz.no, (Sub.rf rfl), nofun, nofun, nofun, nofun, nofun, nofun, nofun, fun _ => bx8.mv mz no_No, nofun, nofun, nofun⟩
  ·refine ⟨?_, ?_, ?_, ?_, ?_, ?_, ?_, ?_, trivial⟩
   ·rintro D e s41 ⟨im, ib, i0, t_⟩ hk hf ha
    have bx30 := bx30.mv im (nor (tg0 hN) (tg0 hN))
    have kn : Kn e [(4, .pointer (some ⟨b30, 0, none⟩))] := ⟨(ib 4 _ rfl), trivial⟩
    exact L.kns _ kn (L.lg (j := 0) (cs := [.slice a26 r23.1.length c26, .int .i64 r23.2.1, .slice a27 r23.2.2.1.length c27, .slice a28 r23.2.2.2.length c28]) bx30.mem ag26 Wt.no rfl rfl rfl rfl rfl (L.nil (X.dk kn ⟨im, Sub.fresh ib rfl, fun _ => rfl, t_⟩)))
   ·rintro D e s42 ⟨im, ib, i0, i1, t_⟩ hk hf ha
    have kn : Kn e [(1, .pointer (some ⟨b5, 0, none⟩))] := ⟨(ib 1 _ rfl), trivial⟩
    exact L.kns _ kn (L.fa fa51_2 Wt.no rfl rfl (L.nil (X.dk kn ⟨im, Sub.fresh ib rfl, i0, fun _ => rfl, t_⟩)))
   ·rintro D e s43 ⟨im, ib, i0, i1, i2, t_⟩ hk hf ha
    obtain ⟨d1, -⟩ := ha
    have g1_ := i1 d1
    have bx5 := bx5.mv im (nor (tgN (by decide)) (tgN (by decide)))
    have kn : Kn e [(18, .pointer (some ⟨b5, 28, none⟩))] := ⟨g1_, trivial⟩
    exact L.kns _ kn (L.ld (j := 28) bx5.mem nag45 Wt.no rfl rfl rfl rfl (L.nil (X.dk kn ⟨im, Sub.fresh ib rfl, i0, i1, fun _ => rfl, t_⟩)))
   ·rintro D e s44 ⟨im, ib, i0, i1, i2, i3, i4, i5, i6, i7, i8, i9, i10⟩ hk hf ha
    obtain ⟨d1, d2, -⟩ := ha
    have g2_ := i2 d2
    have kn : Kn e [(19, .int .u8 p0.2.2)] := ⟨g2_, trivial⟩
    refine L.kns _ kn (L.ca cf47 rfl rfl Wt.no rfl (m_overseerlaw03_Set_Events_c (s := s44) (p0 := p0.2.2) (u0 := (N + 3)) er45) rfl ?_)
    rintro _ s46 m47 ⟨a48, c48, rfl, h48⟩
    exact L.nil (X.dk kn ⟨im.trans m47.no, Sub.fresh ib rfl, i0, i1, i2, fun _ => ⟨a48, c48, rfl⟩, fun z => let ⟨q, h50⟩ := i4 z; ⟨q, (h50.mono (m47.le no_No))⟩, i5, i6, fun z2 => ((i7 z2).mv m47 no_No), fun z => ((i8 z).mv m47 no_No), fun _ _ _ _ q3 => by cases (show some (.slice a48 r45.length c48 : Value) = some _ from q3); exact h48, fun z => Bool.noConfusion ((hf 5 (Nat.le_of_ble_eq_true rfl) rfl).symm.trans z)⟩)
   ·rintro D e s49 ⟨im, ib, i0, i1, i2, i3, i4, t_⟩ hk hf ha
    have bx30 := bx30.mv im (nor (tg0 hN) (tg0 hN))
    have h26 := h26.mono (im.le (nor (tg0 hN) (tg0 hN)))
    have h27 := h27.mono (im.le (nor (tg0 hN) (tg0 hN)))
    have h28 := h28.mono (im.le (nor (tg0 hN) (tg0 hN)))
    have kn : Kn e [(4, .pointer (some ⟨b30, 0, none⟩))] := ⟨(ib 4 _ rfl), trivial⟩
    refine L.kns _ kn ?_
    have h50 : FV1 Try.prog s49 (.func (.func 49) #[] #[.pointer (some ⟨b30, 0, none⟩)]) (fun (x0 : Int) => [.int .i64 x0]) (fun (r : Bool) => .bool r) (m_overseerlaw53_Make_1 r23) := ⟨49, #[], #[.pointer (some ⟨b30, 0, none⟩)], rfl, cf49, fun x0 r hm s' hl => by have hh := m_overseerlaw53_Make_1_c (s := s') (h26.mono hl) (h27.mono hl) (h28.mono hl) (bx30.le hl) hm; simpa using hh⟩
    exact L.mf Wt.no rfl rfl rfl (L.nil (X.dk kn ⟨im, Sub.fresh ib rfl, i0, i1, i2, i3, fun _ => ⟨rfl, h50⟩, t_⟩))
   ·rintro D e s51 ⟨im, ib, i0, i1, i2, i3, i4, i5, i6, i7, i8, i9, i10⟩ hk hf ha
    obtain ⟨d1, d2, d3, d4, -⟩ := ha
    obtain ⟨a48, c48, g3_⟩ := i3 d3
    obtain ⟨g4_, h50⟩ := i4 d4
    obtain h48 := i9 d3 hk a48 c48 g3_
    have kn : Kn e [(20, .slice a48 r45.length c48), (21, (.func (.func 49) #[] #[.pointer (some ⟨b30, 0, none⟩)]))] := ⟨g3_, g4_, trivial⟩
    refine L.kns _ kn (L.ca cf48 rfl rfl Wt.no rfl (m_slices_DeleteFunc_int_c (s := s51) (p0 := r45) (p1 := (m_overseerlaw53_Make_1 r23)) (t0 := (N + 3)) (tpos hN) h48 h50 er52) rfl ?_)
    rintro _ s53 m54 ⟨a55, c55, rfl, h55, h48⟩
    exact L.nil (X.dk kn ⟨im.trans (m54.one (.inr rfl)), Sub.fresh ib rfl, i0, i1, i2, i3, fun z => let ⟨q, h50⟩ := i4 z; ⟨q, (h50.mono (m54.le (tg0 hN)))⟩, fun _ => ⟨a55, c55, rfl⟩, fun z => Bool.noConfusion ((hf 7 (Nat.le_of_ble_eq_true rfl) rfl).symm.trans z), fun z2 => ((i7 z2).mv m54 (tgN (by decide))), fun z => ((i8 z).mv m54 (tgN (by decide))), fun _ z => Bool.noConfusion (show true = false from z), fun _ _ _ _ _ q3 q5 => by cases g3_.symm.trans q3; cases (show some (.slice a55 r52.1.length c55 : Value) = some _ from q5); exact ⟨h55, h48⟩⟩)
   ·rintro D e s57 ⟨im, ib, i0, i1, i2, i3, i4, i5, i6, i7, i8, i9, i10⟩ hk hf ha
    obtain ⟨d0, d1, d2, d3, d4, d5, -⟩ := ha
    have g0_ := i0 d0
    obtain bx8 := i7 hk
    have kn : Kn e [(2, .pointer (some ⟨b8, 0, none⟩)), (17, .agg #[.slice a26 r23.1.length c26, .int .i64 r23.2.1, .slice a27 r23.2.2.1.length c27, .slice a28 r23.2.2.2.length c28])] := ⟨(ib 2 _ rfl), g0_, trivial⟩
    exact L.kns _ kn (L.st (c := [.slice a26 r23.1.length c26, .int .i64 r23.2.1, .slice a27 r23.2.2.1.length c27, .slice a28 r23.2.2.2.length c28]) (cs' := #[.slice a26 r23.1.length c26, .int .i64 r23.2.1, .slice a27 r23.2.2.1.length c27, .slice a28 r23.2.2.2.length c28]) bx8 ag26.sz Wt.no rfl rfl rfl rfl rfl (Nat.le_of_ble_eq_true rfl) rfl fun s58 m59 bx8 => L.nil (X.dn kn ⟨im.trans (m59.one (.inl rfl)), ib, i0, i1, i2, i3, fun z => let ⟨q, h50⟩ := i4 z; ⟨q, (h50.mono (m59.le (tg0 hN)))⟩, i5, i6, fun z => Bool.noConfusion (show true = false from z), fun _ => by exact bx8, fun z z2 a48 c48 q3 => ((i9 z z2 a48 c48 q3).mv m59 (tgN (by decide)) (tg0 hN)), fun z a48 c48 a55 c55 q3 q5 => let ⟨h55, h48⟩ := i10 z a48 c48 a55 c55 q3 q5; ⟨(h55.mv m59 (tgN (by decide)) (tg0 hN)), (h48.mv m59 (tgN (by decide)) (tg0 hN))⟩⟩))
   ·rintro D e s60 ⟨im, ib, i0, i1, i2, i3, i4, i5, i6, t_⟩ hk hf ha
    obtain ⟨d0, d1, d2, d3, d4, d5, d6, -⟩ := ha
    obtain ⟨a55, c55, g5_⟩ := i5 d5
    have kn : Kn e [(22, .slice a55 r52.1.length c55)] := ⟨g5_, trivial⟩
    exact L.kns _ kn (L.as Wt.no rfl rfl (L.nil (X.dk kn ⟨im, Sub.fresh ib rfl, i0, i1, i2, i3, i4, i5, fun _ _ _ q5 => by cases g5_.symm.trans q5; exact rfl, t_⟩)))
  ·rintro D e s61 hD ⟨im, ib, i0, i1, i2, i3, i4, i5, i6, i7, i8, i9, i10⟩
   obtain ⟨a55, c55, g5_⟩ := i5 (hD 5 rfl)
   have g7_ := i6 (hD 7 rfl) a55 c55 g5_
   obtain bx8 := i8 (hD 6 rfl)
   obtain ⟨a48, c48, g3_⟩ := i3 (hD 3 rfl)
   obtain ⟨h55, h48⟩ := i10 (hD 5 rfl) a48 c48 a55 c55 g3_ g5_
   have h26 := h26.mono (im.le (nor (tg0 hN) (tg0 hN)))
   have h27 := h27.mono (im.le (nor (tg0 hN) (tg0 hN)))
   have h28 := h28.mono (im.le (nor (tg0 hN) (tg0 hN)))
   have m0 := m0.trans (im.weak fun _ e => by rcases e with e | e; (rw [e]; exact up); (rw [e]; exact up))
   refine X.sub (e' := [(3, .slice a55 r52.1.length c55), (2, .pointer (some ⟨b8, 0, none⟩))]) ?_ (Sub.cons g7_ (Sub.cons (ib 2 _ rfl) Sub.nil))
   refine X.seqN (E.ret ?_)
   obtain rfl := Option.some.inj hm
   exact X.rt (.inl rfl) Try.results16 (Rs.cell rfl bx8 ag26 rfl (Rs.tmp rfl Rs.nil)) rfl ⟨_, (s61).ren N (fun k => cond (Nat.beq k 3) u3 (0)), rfl, rfl, m0.ren hNb, ⟨a26, c26, a27, c27, a28, c28, a55, c55, rfl, (h26.ren hN), (h27.ren hN), (h28.ren hN), (h55.ren hN)⟩⟩

noncomputable def m_overseerlaw53_set_j1 (st28 : Int × List Int) (l34 : List Int) : Option ((Int × List Int) ⊕ (List Int)) :=
  some (.inl (W (st28.1 + 1), l34))
noncomputable def m_overseerlaw53_set_l1 (p0 : List Int × Int × List Int × (List (Int × Int × Int))) (p1 : Int) (st28 : Int × List Int) : Option ((Int × List Int) ⊕ (List Int)) :=
  if decide (st28.1 < (p0.1.length : Int)) then
    (idx p0.1 st28.1).bind fun x38 =>
    (ng (st28.1.tmod 8)).bind fun _ =>
    if ((IntKind.u8.wrap (((BitVec.ofInt 8 (p1.fdiv (2 ^ (min (st28.1.tmod 8).toNat 8))) &&& BitVec.ofInt 8 1).toNat : Int))) == 1) then
      (app st28.2 ([x38] : List Int)).bind fun x44 =>
      m_overseerlaw53_set_j1 st28 x44
    else
      m_overseerlaw53_set_j1 st28 st28.2
  else
    some (.inr st28.2)
/-- What overseerlaw53.set computes. -/
noncomputable def m_overseerlaw53_set (p0 : List Int × Int × List Int × (List (Int × Int × Int))) (p1 : Int) : Option (List Int) :=
  (iter (m_overseerlaw53_set_l1 p0 p1) (0, ([] : List Int))).bind fun o28 =>
  some o28
set_option maxRecDepth 100000 in
set_option maxHeartbeats 8000000 in
theorem m_overseerlaw53_set_c {s : Sig} {p0 : List Int × Int × List Int × (List (Int × Int × Int))} {p1 : Int} {a1 : Option Addr} {c1 : Nat} {a2 : Option Addr} {c2 : Nat} {a3 : Option Addr} {c3 : Nat} {u0 : Nat} {r : List Int} (h1 : RdL (rK .i64) s a1 c1 p0.1) (h2 : RdL (rK .i64) s a2 c2 p0.2.2.1) (h3 : RdL (rP (rK .i64) (rP (rK .i64) (rK .i64))) s a3 c3 p0.2.2.2) (hm : m_overseerlaw53_set p0 p1 = some r) :
    Calls Try.prog 17 #[.agg #[.slice a1 p0.1.length c1, .int .i64 p0.2.1, .slice a2 p0.2.2.1.length c2, .slice a3 p0.2.2.2.length c3], .int .u8 p1] s.w (RetS No s fun v s' => ∃ (a4 : Option Addr) (c4 : Nat), v = .slice a4 r.length c4 ∧ RowT (rK .i64) s' u0 3 a4 c4 r) := by
 unfold m_overseerlaw53_set at hm
 obtain ⟨N, hN, hNb⟩ := s.fresh
 have m0 : Mv (Up N No) s s := Mv.refl _ _
 refine E.entry Try.func17 rfl Try.ntmps17 rfl rfl (E.seq (E.reg (L.box (N + 0) Wt.no rfl rfl rfl fun b5 s6 m7 bx5 => ?_)))
 replace m0 := m0.trans m7.no
 replace h1 := h1.mono (m7.le no_No)
 refine L.as Wt.no rfl rfl (L.nil (X.seqN (E.seq (E.reg (L.as Wt.no rfl rfl (L.nil (X.seqN (E.seq (E.seq (E.reg (L.fa fa26_0 Wt.no rfl rfl (L.ld (j := 0) bx5.mem nag23 Wt.no rfl rfl rfl rfl (L.len sl23 Wt.no rfl rfl (L.mv Wt.no rfl rfl (L.nil (X.seqN (E.block ?_)))))))))))))))))
 obtain ⟨o28, eo28, hm⟩ := bindS hm
 refine E.cut (x := .exit 0) (fun e w => ∃ (s32 : Sig) (a30 : Option Addr) (c30 : Nat), Mv (Up N No) s s32 ∧ RowT (rK .i64) s32 (N + 1) 3 a30 c30 o28 ∧ e = [(5, .slice a30 o28.length c30)] ∧ w = s32.w) ?_ ?_
 ·rintro _ _ ⟨s32, a30, c30, m0, h30, rfl, rfl⟩
  refine X.blkE (X.seqN (E.seq (E.reg (L.mv Wt.no rfl rfl (L.as Wt.no rfl rfl (L.nil (X.seqN (E.ret ?_))))))))
  obtain rfl := Option.some.inj hm
  exact X.rt (.inl rfl) Try.results17 (Rs.tmp rfl Rs.nil) rfl ⟨_, (s32).ren N (fun k => cond (Nat.beq k 1) u0 (0)), rfl, rfl, m0.ren hNb, ⟨a30, c30, rfl, (h30.ren hN)⟩⟩
 intro K33
 refine E.iter (fun (st28 : Int × List Int) (e : List (Nat × Value)) (w : World) => ∃ (s31 : Sig) (a10 : Option Addr) (c10 : Nat), Mv (Up N No) s s31 ∧ RdL (rK .i64) s31 a1 c1 p0.1 ∧ RowT (rK .i64) s31 (N + 1) 3 a10 c10 st28.2 ∧ e = [(11, .int .i64 st28.1), (10, .int .i64 (p0.1.length : Int)), (9, .slice a1 p0.1.length c1), (5, .slice a10 st28.2.length c10), (1, .int .u8 p1)] ∧ w = s31.w) eo28 ⟨s6, none, 0, m0, h1, RowT.nil, rfl, rfl⟩ (Sub.rf rfl) ?_
 rintro st28 res28 hm ih28 ho28 _ _ ⟨s31, a10, c10, m0, h1, h10, rfl, rfl⟩
 unfold m_overseerlaw53_set_l1 at hm
 refine E.seq (E.reg (L.bi Wt.no rfl rfl rfl rfl (L.nil (X.seqN (E.seq ?_)))))
 rcases ifS hm with ⟨hc, hm⟩ | ⟨hc, hm⟩
 ·refine E.cT rfl hc (E.skip (X.seqN (E.seqJ (fun e w => ∃ (s36 : Sig) (l34 : List Int) (a35 : Option Addr) (c35 : Nat), m_overseerlaw53_set_j1 st28 l34 = some res28 ∧ Mv (Up N No) s s36 ∧ RowT (rK .i64) s36 (N + 1) 3 a35 c35 l34 ∧ RdL (rK .i64) s36 a1 c1 p0.1 ∧ e = [(5, .slice a35 l34.length c35), (11, .int .i64 st28.1), (10, .int .i64 (p0.1.length : Int)), (9, .slice a1 p0.1.length c1), (1, .int .u8 p1)] ∧ w = s36.w) ?_ ?_)))
  ·rintro _ _ ⟨s36, l34, a35, c35, hm, m0, h35, h1, rfl, rfl⟩
   unfold m_overseerlaw53_set_j1 at hm
   exact E.reg (L.bi Wt.no rfl rfl rfl rfl (L.mv Wt.no rfl rfl (L.nil (X.sub (ih28 _ (Option.some.inj hm).symm _ _ ⟨s36, a35, c35, m0, h1, h35, rfl, rfl⟩) (Sub.rf rfl)))))
  ·intro Jj37
   refine E.block (E.seq (E.reg (L.mv Wt.no rfl rfl ?_)))
   obtain ⟨x38, ex38, hm⟩ := bindS hm
   refine L.ix (r := (rK .i64)) sl23 h1 Wt.no rfl rfl ex38 rfl fun b39 o39 cc39 me39 rd39 => ?_
   obtain rfl := rd39
   refine L.ld (j := 0) me39 nag3 Wt.no rfl rfl rfl rfl (L.as Wt.no rfl rfl (L.as Wt.no rfl rfl (L.nil (X.seqN (E.seq (E.reg (L.mv Wt.no rfl rfl (L.mv Wt.no rfl rfl (L.rem Wt.no rfl rfl (by decide) rfl ?_)))))))))
   obtain ⟨_, z40, hm⟩ := bindS hm
   refine L.shr Wt.no rfl rfl (ng_some z40) rfl (L.bi Wt.no rfl rfl rfl rfl (L.bi Wt.no rfl rfl rfl rfl (L.nil (X.seqN ?_))))
   rcases ifS hm with ⟨hc, hm⟩ | ⟨hc, hm⟩
   ·refine E.cT rfl hc (E.reg (L.mv Wt.no rfl rfl (L.mv Wt.no rfl rfl (L.bsE (k := 1) (cs := [.int .i64 x38]) 0 bs23 (Nat.le_of_ble_eq_true rfl) Wt.no rfl rfl rfl rfl fun b41 s42 m43 bx41 => ?_))))
    replace m0 := m0.trans m43.no
    replace h10 := h10.mv m43 no_No no_No
    replace h1 := h1.mono (m43.le no_No)
    have h41 := Bx.rdL (r := (rK .i64)) (xs := ([x38] : List Int)) bx41 ⟨[.int .i64 x38], _, rfl, rfl, rfl⟩ (Nat.le_of_ble_eq_true rfl)
    obtain ⟨x44, ex44, hm⟩ := bindS hm
    refine L.ap (r := (rK .i64)) Try.underlying23 el3 rfl (tgp hN) h10 h41.wk Wt.no rfl rfl ex44 rfl fun a45 c45 s46 m47 h45 => ?_
    replace m0 := m0.trans (m47.one up)
    replace h1 := h1.mono (m47.le (tg0 hN))
    exact L.as Wt.no rfl rfl (L.nil (X.blkN (X.sub (Jj37 _ _ ⟨s46, x44, a45, c45, hm, m0, h45, h1, rfl, rfl⟩) (Sub.rf rfl))))
   ·exact E.cF rfl hc (E.skip (X.blkN (X.sub (Jj37 _ _ ⟨s31, st28.2, a10, c10, hm, m0, h10, h1, rfl, rfl⟩) (Sub.rf rfl))))
 ·refine E.cF rfl hc (E.exit (X.seqX (X.seqX ?_)))
  have hx := ho28 _ (Option.some.inj hm).symm
  subst hx
  exact X.sub (K33 _ _ ⟨s31, a10, c10, m0, h10, rfl, rfl⟩) (Sub.rf rfl)

theorem ag51 : Ag Try.prog 51 29 := Ag.mk' Try.underlying51 rfl (by kernel_rfl)
theorem bs52 : Bs Try.prog 52 5 1 [.int .u8 0] := Bs.mk' Try.underlying52 (by kernel_rfl) (by kernel_rfl) rfl
theorem cf16 : Cf Try.prog 16 := Cf.mk Try.func16 (by kernel_rfl) (by kernel_rfl)
theorem cf17 : Cf Try.prog 17 := Cf.mk Try.func17 (by kernel_rfl) (by kernel_rfl)
theorem el5 : El Try.prog 5 1 1 := El.mk' (z := .int .u8 0) (by kernel_rfl) (by kernel_rfl) (by kernel_rfl) rfl
theorem sl52 : Sl Try.prog 52 5 1 := Sl.mk' Try.underlying52 (by kernel_rfl)
noncomputable def m_overseerlaw53_GenerateRests_l2 (p2 : Int) (r24 : ((Int × Int × Int × List Bool × (List (Int × Int))) × List Int × List Int × Int) × Int) (st121 : Int × List Bool × List Bool) : Option ((Int × List Bool × List Bool) ⊕ ((List Bool × List Bool) ⊕ Unit)) :=
  if decide (st121.1 < (p2.tmod 4)) then
    (m_generate_Scan r24.1 st121.2 ([] : List Int)).bind fun r155 =>
    if (r155.2 != 0) then
      some (.inr (.inr (())))
    else
      some (.inl (IntKind.u8.wrap (st121.1 + 1), r155.1))
  else
    some (.inr (.inl st121.2))
noncomputable def m_overseerlaw53_GenerateRests_l1 (r12 : (List Int × Int × List Int × (List (Int × Int × Int))) × List Int) (r24 : ((Int × Int × Int × List Bool × (List (Int × Int))) × List Int × List Int × Int) × Int) (x50 : List Int) (st89 : Int × List Bool × List Bool) : Option ((Int × List Bool × List Bool) ⊕ ((List Bool × List Bool) ⊕ Unit)) :=
  if decide (st89.1 < (x50.length : Int)) then
    (idx x50 st89.1).bind fun x166 =>
    (m_overseerlaw53_set r12.1 x166).bind fun r173 =>
    (m_generate_Scan r24.1 st89.2 r173).bind fun r178 =>
    if (r178.2 != 0) then
      some (.inr (.inr (())))
    else
      some (.inl (W (st89.1 + 1), r178.1))
  else
    some (.inr (.inl st89.2))
/-- What overseerlaw53.GenerateRests computes. -/
noncomputable def m_overseerlaw53_GenerateRests (p0 : Int × (Int × Int × ((Int × Int × Int × Int × Int) × (Int × Int × Int × Int × Int) × (Int × Int × Int × Int × Int) × (Int × Int × Int × Int × Int) × (Int × Int × Int × Int × Int))) × Int) (p1 : List Int) (p2 : Int) : Option Bool :=
  (m_overseerlaw53_known).bind fun r5 =>
  if ((!r5) || (decide ((p1.length : Int) > 8))) then
    (m_overseerlaw53_known).bind fun r9 =>
    some r9
  else
    (m_overseerlaw53_Make p0).bind fun r12 =>
    (m_generate_Generate r12.1 r12.2).bind fun r24 =>
    (m_instruction_Start r24.1.1).bind fun r36 =>
    if ((r24.2 != 0) || (r36.2 != 0)) then
      some false
    else
      (app ([0] : List Int) p1).bind fun x50 =>
      (iter (m_overseerlaw53_GenerateRests_l1 r12 r24 x50) (0, r36.1)).bind fun o89 =>
      match o89 with
      | .inl u95 =>
        (m_generate_State r24.1 u95).bind fun r97 =>
        (m_generate_Enabled r24.1 u95).bind fun r100 =>
        (iter (m_overseerlaw53_GenerateRests_l2 p2 r24) (0, u95)).bind fun o121 =>
        match o121 with
        | .inl u127 =>
          (m_generate_State r24.1 u127).bind fun r129 =>
          (m_generate_Enabled r24.1 u127).bind fun r132 =>
          (if (((((r97.2 == 0) && (r100.2 == 0)) && (r129.2 == 0)) && (r132.2 == 0)) && (r97.1 == r129.1)) then
            (m_slices_Equal_int r100.1 r132.1).bind fun r144 =>
            some r144
          else
            some false).bind fun b140 =>
          some b140
        | .inr (u152) =>
          some false
      | .inr (u163) =>
        some false
set_option maxRecDepth 100000 in
set_option maxHeartbeats 8000000 in
theorem m_overseerlaw53_GenerateRests_c {s : Sig} {p0 : Int × (Int × Int × ((Int × Int × Int × Int × Int) × (Int × Int × Int × Int × Int) × (Int × Int × Int × Int × Int) × (Int × Int × Int × Int × Int) × (Int × Int × Int × Int × Int))) × Int} {p1 : List Int} {p2 : Int} {a1 : Option Addr} {c1 : Nat} {r : Bool} (h1 : RdL (rK .u8) s a1 c1 p1) (hm : m_overseerlaw53_GenerateRests p0 p1 p2 = some r) :
    Calls Try.prog 4 #[.agg #[.int .u8 p0.1, .int .u8 p0.2.1.1, .int .u8 p0.2.1.2.1, .int .u8 p0.2.1.2.2.1.1, .int .u8 p0.2.1.2.2.1.2.1, .int .u8 p0.2.1.2.2.1.2.2.1, .int .u8 p0.2.1.2.2.1.2.2.2.1, .int .u8 p0.2.1.2.2.1.2.2.2.2, .int .u8 p0.2.1.2.2.2.1.1, .int .u8 p0.2.1.2.2.2.1.2.1, .int .u8 p0.2.1.2.2.2.1.2.2.1, .int .u8 p0.2.1.2.2.2.1.2.2.2.1, .int .u8 p0.2.1.2.2.2.1.2.2.2.2, .int .u8 p0.2.1.2.2.2.2.1.1, .int .u8 p0.2.1.2.2.2.2.1.2.1, .int .u8 p0.2.1.2.2.2.2.1.2.2.1, .int .u8 p0.2.1.2.2.2.2.1.2.2.2.1, .int .u8 p0.2.1.2.2.2.2.1.2.2.2.2, .int .u8 p0.2.1.2.2.2.2.2.1.1, .int .u8 p0.2.1.2.2.2.2.2.1.2.1, .int .u8 p0.2.1.2.2.2.2.2.1.2.2.1, .int .u8 p0.2.1.2.2.2.2.2.1.2.2.2.1, .int .u8 p0.2.1.2.2.2.2.2.1.2.2.2.2, .int .u8 p0.2.1.2.2.2.2.2.2.1, .int .u8 p0.2.1.2.2.2.2.2.2.2.1, .int .u8 p0.2.1.2.2.2.2.2.2.2.2.1, .int .u8 p0.2.1.2.2.2.2.2.2.2.2.2.1, .int .u8 p0.2.1.2.2.2.2.2.2.2.2.2.2, .int .u8 p0.2.2], .slice a1 p1.length c1, .int .u8 p2] s.w (RetS No s fun v s' => v = .bool r) := by
 unfold m_overseerlaw53_GenerateRests at hm
 obtain ⟨N, hN, hNb⟩ := s.fresh
 have m0 : Mv (Up N No) s s := Mv.refl _ _
 refine E.entry Try.func4 rfl Try.ntmps4 rfl rfl (E.seq (E.reg (L.box (N + 0) Wt.no rfl rfl rfl fun b2 s3 m4 bx2 => ?_)))
 replace m0 := m0.trans m4.no
 replace h1 := h1.mono (m4.le no_No)
 refine L.as Wt.no rfl rfl (L.nil (X.seqN (E.seq (E.seq (E.reg ?_)))))
 obtain ⟨r5, er5, hm⟩ := bindS hm
 refine L.ca cf11 rfl rfl Wt.no rfl (m_overseerlaw53_known_c (s := s3) er5) rfl ?_
 rintro _ s6 m7 rfl
 replace m0 := m0.trans m7.no
 replace h1 := h1.mono (m7.le no_No)
 replace bx2 := bx2.mv m7 no_No
 refine L.not Wt.no rfl rfl (L.mv Wt.no rfl rfl (L.cut 4 (fun e w => ∃ (v8 : Bool), ((!r5) || (decide ((p1.length : Int) > 8))) = v8 ∧ e = (29, .bool v8) :: [(3, .pointer (some ⟨b2, 0, none⟩)), (1, .slice a1 p1.length c1), (2, .int .u8 p2)] ∧ w = s6.w) ?_ ?_))
 ·rintro _ _ ⟨v8, rfl, rfl, rfl⟩
  refine L.nil (X.seqN ?_)
  rcases ifS hm with ⟨hc, hm⟩ | ⟨hc, hm⟩
  ·refine E.cT rfl hc (E.seq (E.reg ?_))
   obtain ⟨r9, er9, hm⟩ := bindS hm
   refine L.ca cf11 rfl rfl Wt.no rfl (m_overseerlaw53_known_c (s := s6) er9) rfl ?_
   rintro _ s10 m11 rfl
   replace m0 := m0.trans m11.no
   refine L.as Wt.no rfl rfl (L.nil (X.seqN (E.ret (X.seqR ?_))))
   obtain rfl := Option.some.inj hm
   exact X.rt (.inl rfl) Try.results4 (Rs.tmp rfl Rs.nil) rfl ⟨_, (s10).ren N (fun _ => 0), rfl, rfl, m0.ren hNb, rfl⟩
  ·refine E.cF rfl hc (E.skip (X.seqN (E.seq (E.reg (L.lg (j := 0) (cs := [.int .u8 p0.1, .int .u8 p0.2.1.1, .int .u8 p0.2.1.2.1, .int .u8 p0.2.1.2.2.1.1, .int .u8 p0.2.1.2.2.1.2.1, .int .u8 p0.2.1.2.2.1.2.2.1, .int .u8 p0.2.1.2.2.1.2.2.2.1, .int .u8 p0.2.1.2.2.1.2.2.2.2, .int .u8 p0.2.1.2.2.2.1.1, .int .u8 p0.2.1.2.2.2.1.2.1, .int .u8 p0.2.1.2.2.2.1.2.2.1, .int .u8 p0.2.1.2.2.2.1.2.2.2.1, .int .u8 p0.2.1.2.2.2.1.2.2.2.2, .int .u8 p0.2.1.2.2.2.2.1.1, .int .u8 p0.2.1.2.2.2.2.1.2.1, .int .u8 p0.2.1.2.2.2.2.1.2.2.1, .int .u8 p0.2.1.2.2.2.2.1.2.2.2.1, .int .u8 p0.2.1.2.2.2.2.1.2.2.2.2, .int .u8 p0.2.1.2.2.2.2.2.1.1, .int .u8 p0.2.1.2.2.2.2.2.1.2.1, .int .u8 p0.2.1.2.2.2.2.2.1.2.2.1, .int .u8 p0.2.1.2.2.2.2.2.1.2.2.2.1, .int .u8 p0.2.1.2.2.2.2.2.1.2.2.2.2, .int .u8 p0.2.1.2.2.2.2.2.2.1, .int .u8 p0.2.1.2.2.2.2.2.2.2.1, .int .u8 p0.2.1.2.2.2.2.2.2.2.2.1, .int .u8 p0.2.1.2.2.2.2.2.2.2.2.2.1, .int .u8 p0.2.1.2.2.2.2.2.2.2.2.2.2, .int .u8 p0.2.2]) bx2.mem ag51 Wt.no rfl rfl rfl rfl rfl ?_)))))
   obtain ⟨r12, er12, hm⟩ := bindS hm
   refine L.ca cf16 rfl rfl Wt.no rfl (m_overseerlaw53_Make_c (s := s6) (p0 := p0) (u3 := 0) er12) rfl ?_
   rintro _ s13 m14 ⟨a15, c15, a16, c16, a17, c17, a18, c18, rfl, h15, h16, h17, h18⟩
   replace h18 := h18.p
   replace m0 := m0.trans m14.no
   replace h1 := h1.mono (m14.le no_No)
   refine L.mv Wt.no rfl rfl (L.ex Wt.no rfl rfl rfl (L.ex Wt.no rfl rfl rfl (L.al (N + 1) zz26 rfl Wt.no rfl fun b19 s20 m21 bx19 => ?_)))
   replace m0 := m0.trans m21.no
   replace h1 := h1.mono (m21.le no_No)
   replace h18 := h18.mono (m21.le no_No)
   replace h15 := h15.mono (m21.le no_No)
   replace h16 := h16.mono (m21.le no_No)
   replace h17 := h17.mono (m21.le no_No)
   refine L.st (c := [.slice a15 r12.1.1.length c15, .int .i64 r12.1.2.1, .slice a16 r12.1.2.2.1.length c16, .slice a17 r12.1.2.2.2.length c17]) (cs' := #[.slice a15 r12.1.1.length c15, .int .i64 r12.1.2.1, .slice a16 r12.1.2.2.1.length c16, .slice a17 r12.1.2.2.2.length c17]) bx19 ag26.sz Wt.no rfl rfl rfl rfl rfl (Nat.le_of_ble_eq_true rfl) rfl fun s22 m23 bx19 => ?_
   replace m0 := m0.trans (m23.one up)
   replace h1 := h1.mono (m23.le (tg0 hN))
   replace h18 := h18.mono (m23.le (tg0 hN))
   replace h15 := h15.mono (m23.le (tg0 hN))
   replace h16 := h16.mono (m23.le (tg0 hN))
   replace h17 := h17.mono (m23.le (tg0 hN))
   refine L.as Wt.no rfl rfl (L.nil (X.seqN (E.seq (E.reg (L.lg (j := 0) (cs := [.slice a15 r12.1.1.length c15, .int .i64 r12.1.2.1, .slice a16 r12.1.2.2.1.length c16, .slice a17 r12.1.2.2.2.length c17]) bx19.mem ag26 Wt.no rfl rfl rfl rfl rfl (L.mv Wt.no rfl rfl ?_))))))
   obtain ⟨r24, er24, hm⟩ := bindS hm
   refine L.ca cf12 rfl rfl Wt.no rfl (m_generate_Generate_c (s := s22) (p0 := r12.1) (p1 := r12.2) (u0 := 0) (u1 := 0) (u2 := 0) (u3 := 0) h15 h16 h17 h18 er24) rfl ?_
   rintro _ s25 m26 ⟨a27, c27, a28, c28, a29, c29, a30, c30, rfl, h27, h28, h29, h30⟩
   replace h27 := h27.p
   replace h28 := h28.p
   replace h29 := h29.p
   replace h30 := h30.p
   replace m0 := m0.trans m26.no
   replace h1 := h1.mono (m26.le no_No)
   replace bx19 := bx19.mv m26 no_No
   replace h15 := h15.mono (m26.le no_No)
   replace h16 := h16.mono (m26.le no_No)
   replace h17 := h17.mono (m26.le no_No)
   refine L.mv Wt.no rfl rfl (L.ex Wt.no rfl rfl rfl (L.ex Wt.no rfl rfl rfl (L.al (N + 2) zz34 rfl Wt.no rfl fun b31 s32 m33 bx31 => ?_)))
   replace m0 := m0.trans m33.no
   replace h1 := h1.mono (m33.le no_No)
   replace h27 := h27.mono (m33.le no_No)
   replace h28 := h28.mono (m33.le no_No)
   replace h29 := h29.mono (m33.le no_No)
   replace h30 := h30.mono (m33.le no_No)
   replace bx19 := bx19.mv m33 no_No
   replace h15 := h15.mono (m33.le no_No)
   replace h16 := h16.mono (m33.le no_No)
   replace h17 := h17.mono (m33.le no_No)
   refine L.st (c := [.int .i64 r24.1.1.1, .int .i64 r24.1.1.2.1, .int .i64 r24.1.1.2.2.1, .slice a27 r24.1.1.2.2.2.1.length c27, .slice a28 r24.1.1.2.2.2.2.length c28, .slice a29 r24.1.2.1.length c29, .slice a30 r24.1.2.2.1.length c30, .int .i64 r24.1.2.2.2]) (cs' := #[.int .i64 r24.1.1.1, .int .i64 r24.1.1.2.1, .int .i64 r24.1.1.2.2.1, .slice a27 r24.1.1.2.2.2.1.length c27, .slice a28 r24.1.1.2.2.2.2.length c28, .slice a29 r24.1.2.1.length c29, .slice a30 r24.1.2.2.1.length c30, .int .i64 r24.1.2.2.2]) bx31 ag34.sz Wt.no rfl rfl rfl rfl rfl (Nat.le_of_ble_eq_true rfl) rfl fun s34 m35 bx31 => ?_
   replace m0 := m0.trans (m35.one up)
   replace h1 := h1.mono (m35.le (tg0 hN))
   replace bx19 := bx19.mv m35 (tgN (by decide))
   replace h15 := h15.mono (m35.le (tg0 hN))
   replace h16 := h16.mono (m35.le (tg0 hN))
   replace h17 := h17.mono (m35.le (tg0 hN))
   replace h27 := h27.mono (m35.le (tg0 hN))
   replace h28 := h28.mono (m35.le (tg0 hN))
   replace h29 := h29.mono (m35.le (tg0 hN))
   replace h30 := h30.mono (m35.le (tg0 hN))
   refine L.as Wt.no rfl rfl (L.nil (X.seqN (E.seq (E.reg (L.fa fa34_0 Wt.no rfl rfl (L.lg (j := 0) (cs := [.int .i64 r24.1.1.1, .int .i64 r24.1.1.2.1, .int .i64 r24.1.1.2.2.1, .slice a27 r24.1.1.2.2.2.1.length c27, .slice a28 r24.1.1.2.2.2.2.length c28]) bx31.mem ag32 Wt.no rfl rfl rfl rfl rfl ?_))))))
   obtain ⟨r36, er36, hm⟩ := bindS hm
   refine L.ca cf13 rfl rfl Wt.no rfl (m_instruction_Start_c (s := s34) (p0 := r24.1.1) (u0 := 0) (u1 := 0) h27 h28 er36) rfl ?_
   rintro _ s37 m38 ⟨a39, c39, a40, c40, rfl, h39, h40⟩
   replace h39 := h39.p
   replace h40 := h40.p
   replace m0 := m0.trans m38.no
   replace h1 := h1.mono (m38.le no_No)
   replace bx19 := bx19.mv m38 no_No
   replace h15 := h15.mono (m38.le no_No)
   replace h16 := h16.mono (m38.le no_No)
   replace h17 := h17.mono (m38.le no_No)
   replace bx31 := bx31.mv m38 no_No
   replace h27 := h27.mono (m38.le no_No)
   replace h28 := h28.mono (m38.le no_No)
   replace h29 := h29.mono (m38.le no_No)
   replace h30 := h30.mono (m38.le no_No)
   refine L.mv Wt.no rfl rfl (L.ex Wt.no rfl rfl rfl (L.ex Wt.no rfl rfl rfl (L.al (N + 3) zz39 rfl Wt.no rfl fun b41 s42 m43 bx41 => ?_)))
   replace m0 := m0.trans m43.no
   replace h1 := h1.mono (m43.le no_No)
   replace h39 := h39.mono (m43.le no_No)
   replace h40 := h40.mono (m43.le no_No)
   replace bx19 := bx19.mv m43 no_No
   replace h15 := h15.mono (m43.le no_No)
   replace h16 := h16.mono (m43.le no_No)
   replace h17 := h17.mono (m43.le no_No)
   replace bx31 := bx31.mv m43 no_No
   replace h27 := h27.mono (m43.le no_No)
   replace h28 := h28.mono (m43.le no_No)
   replace h29 := h29.mono (m43.le no_No)
   replace h30 := h30.mono (m43.le no_No)
   refine L.st (c := [.slice a39 r36.1.1.length c39, .slice a40 r36.1.2.length c40]) (cs' := #[.slice a39 r36.1.1.length c39, .slice a40 r36.1.2.length c40]) bx41 ag39.sz Wt.no rfl rfl rfl rfl rfl (Nat.le_of_ble_eq_true rfl) rfl fun s44 m45 bx41 => ?_
   replace m0 := m0.trans (m45.one up)
   replace h1 := h1.mono (m45.le (tg0 hN))
   replace bx19 := bx19.mv m45 (tgN (by decide))
   replace h15 := h15.mono (m45.le (tg0 hN))
   replace h16 := h16.mono (m45.le (tg0 hN))
   replace h17 := h17.mono (m45.le (tg0 hN))
   replace bx31 := bx31.mv m45 (tgN (by decide))
   replace h27 := h27.mono (m45.le (tg0 hN))
   replace h28 := h28.mono (m45.le (tg0 hN))
   replace h29 := h29.mono (m45.le (tg0 hN))
   replace h30 := h30.mono (m45.le (tg0 hN))
   replace h39 := h39.mono (m45.le (tg0 hN))
   replace h40 := h40.mono (m45.le (tg0 hN))
   refine L.as Wt.no rfl rfl (L.nil (X.seqN (E.seq (E.seq (E.reg (L.mv Wt.no rfl rfl (L.bi Wt.no rfl rfl rfl rfl (L.mv Wt.no rfl rfl (L.cut 3 (fun e w => ∃ (v46 : Bool), ((r24.2 != 0) || (r36.2 != 0)) = v46 ∧ e = (53, .bool v46) :: [(11, .pointer (some ⟨b41, 0, none⟩)), (9, .pointer (some ⟨b31, 0, none⟩)), (7, .pointer (some ⟨b19, 0, none⟩)), (1, .slice a1 p1.length c1), (2, .int .u8 p2)] ∧ w = s44.w) ?_ ?_)))))))))
   ·rintro _ _ ⟨v46, rfl, rfl, rfl⟩
    refine L.nil (X.seqN ?_)
    rcases ifS hm with ⟨hc, hm⟩ | ⟨hc, hm⟩
    ·refine E.cT rfl hc (E.seq (E.reg (L.as Wt.no rfl rfl (L.nil (X.seqN (E.ret (X.seqR ?_)))))))
     obtain rfl := Option.some.inj hm
     exact X.rt (.inl rfl) Try.results4 (Rs.tmp rfl Rs.nil) rfl ⟨_, (s44).ren N (fun _ => 0), rfl, rfl, m0.ren hNb, rfl⟩
    ·refine E.cF rfl hc (E.skip (X.seqN (E.seq (E.seq (E.reg (L.bsE (k := 1) (cs := [.int .u8 0]) (N + 4) bs52 (Nat.le_of_ble_eq_true rfl) Wt.no rfl rfl rfl rfl fun b47 s48 m49 bx47 => ?_))))))
     replace m0 := m0.trans m49.no
     replace h1 := h1.mono (m49.le no_No)
     replace bx19 := bx19.mv m49 no_No
     replace h15 := h15.mono (m49.le no_No)
     replace h16 := h16.mono (m49.le no_No)
     replace h17 := h17.mono (m49.le no_No)
     replace bx31 := bx31.mv m49 no_No
     replace h27 := h27.mono (m49.le no_No)
     replace h28 := h28.mono (m49.le no_No)
     replace h29 := h29.mono (m49.le no_No)
     replace h30 := h30.mono (m49.le no_No)
     replace bx41 := bx41.mv m49 no_No
     replace h39 := h39.mono (m49.le no_No)
     replace h40 := h40.mono (m49.le no_No)
     have h47 := Bx.row (r := (rK .u8)) (xs := ([0] : List Int)) bx47 ⟨[.int .u8 0], _, rfl, rfl, rfl⟩ (Nat.le_of_ble_eq_true rfl)
     refine L.mv Wt.no rfl rfl ?_
     obtain ⟨x50, ex50, hm⟩ := bindS hm
     refine L.ap (r := (rK .u8)) Try.underlying52 el5 rfl (tgp hN) h47 h1.wk Wt.no rfl rfl ex50 rfl fun a51 c51 s52 m53 h51 => ?_
     replace m0 := m0.trans (m53.one up)
     replace bx19 := bx19.mv m53 (tgN (by decide))
     replace h15 := h15.mono (m53.le (tg0 hN))
     replace h16 := h16.mono (m53.le (tg0 hN))
     replace h17 := h17.mono (m53.le (tg0 hN))
     replace bx31 := bx31.mv m53 (tgN (by decide))
     replace h27 := h27.mono (m53.le (tg0 hN))
     replace h28 := h28.mono (m53.le (tg0 hN))
     replace h29 := h29.mono (m53.le (tg0 hN))
     replace h30 := h30.mono (m53.le (tg0 hN))
     replace bx41 := bx41.mv m53 (tgN (by decide))
     replace h39 := h39.mono (m53.le (tg0 hN))
     replace h40 := h40.mono (m53.le (tg0 hN))
     refine L.len sl52 Wt.no rfl rfl (L.mv Wt.no rfl rfl (L.nil (X.seqN (E.block ?_))))
     obtain ⟨o89, eo89, hm⟩ := bindS hm
     refine E.cut (x := .exit 0) (fun e w => ∃ (s96 : Sig) (u95 : List Bool × List Bool) (a91 : Option Addr) (c91 : Nat) (a93 : Option Addr) (c93 : Nat), o89 = .inl u95 ∧ Mv (Up N No) s s96 ∧ RdL rB s96 a27 c27 r24.1.1.2.2.2.1 ∧ RdL (rP (rK .i64) (rK .i64)) s96 a28 c28 r24.1.1.2.2.2.2 ∧ RdL (rK .i64) s96 a29 c29 r24.1.2.1 ∧ RdL (rK .i64) s96 a30 c30 r24.1.2.2.1 ∧ RdL rB s96 a91 c91 u95.1 ∧ RdL rB s96 a93 c93 u95.2 ∧ Bx s96 (N + 2) b31 #[.int .i64 r24.1.1.1, .int .i64 r24.1.1.2.1, .int .i64 r24.1.1.2.2.1, .slice a27 r24.1.1.2.2.2.1.length c27, .slice a28 r24.1.1.2.2.2.2.length c28, .slice a29 r24.1.2.1.length c29, .slice a30 r24.1.2.2.1.length c30, .int .i64 r24.1.2.2.2] 34 ∧ Bx s96 (N + 3) b41 #[.slice a91 u95.1.length c91, .slice a93 u95.2.length c93] 39 ∧ e = [(11, .pointer (some ⟨b41, 0, none⟩)), (9, .pointer (some ⟨b31, 0, none⟩)), (2, .int .u8 p2)] ∧ w = s96.w) ?_ ?_
     ·rintro _ _ ⟨s96, u95, a91, c91, a93, c93, rfl, m0, h27, h28, h29, h30, h91, h93, bx31, bx41, rfl, rfl⟩
      dsimp only at hm
      refine X.blkE (X.seqN (E.seq (E.reg (L.lg (j := 0) (cs := [.int .i64 r24.1.1.1, .int .i64 r24.1.1.2.1, .int .i64 r24.1.1.2.2.1, .slice a27 r24.1.1.2.2.2.1.length c27, .slice a28 r24.1.1.2.2.2.2.length c28, .slice a29 r24.1.2.1.length c29, .slice a30 r24.1.2.2.1.length c30, .int .i64 r24.1.2.2.2]) bx31.mem ag34 Wt.no rfl rfl rfl rfl rfl (L.lg (j := 0) (cs := [.slice a91 u95.1.length c91, .slice a93 u95.2.length c93]) bx41.mem ag39 Wt.no rfl rfl rfl rfl rfl ?_)))))
      obtain ⟨r97, er97, hm⟩ := bindS hm
      refine L.ca cf18 rfl rfl Wt.no rfl (m_generate_State_c (s := s96) (p0 := r24.1) (p1 := u95) h27 h28 h29 h30 h91 h93 er97) rfl ?_
      rintro _ s98 m99 rfl
      replace m0 := m0.trans m99.no
      replace bx31 := bx31.mv m99 no_No
      replace h27 := h27.mono (m99.le no_No)
      replace h28 := h28.mono (m99.le no_No)
      replace h29 := h29.mono (m99.le no_No)
      replace h30 := h30.mono (m99.le no_No)
      replace bx41 := bx41.mv m99 no_No
      replace h91 := h91.mono (m99.le no_No)
      replace h93 := h93.mono (m99.le no_No)
      refine L.mv Wt.no rfl rfl (L.ex Wt.no rfl rfl rfl (L.ex Wt.no rfl rfl rfl (L.as Wt.no rfl rfl (L.as Wt.no rfl rfl (L.nil (X.seqN (E.seq (E.reg (L.lg (j := 0) (cs := [.int .i64 r24.1.1.1, .int .i64 r24.1.1.2.1, .int .i64 r24.1.1.2.2.1, .slice a27 r24.1.1.2.2.2.1.length c27, .slice a28 r24.1.1.2.2.2.2.length c28, .slice a29 r24.1.2.1.length c29, .slice a30 r24.1.2.2.1.length c30, .int .i64 r24.1.2.2.2]) bx31.mem ag34 Wt.no rfl rfl rfl rfl rfl (L.lg (j := 0) (cs := [.slice a91 u95.1.length c91, .slice a93 u95.2.length c93]) bx41.mem ag39 Wt.no rfl rfl rfl rfl rfl ?_))))))))))
      obtain ⟨r100, er100, hm⟩ := bindS hm
      refine L.ca cf19 rfl rfl Wt.no rfl (m_generate_Enabled_c (s := s98) (p0 := r24.1) (p1 := u95) (u0 := 0) h27 h28 h29 h30 h91 h93 er100) rfl ?_
      rintro _ s101 m102 ⟨a103, c103, rfl, h103⟩
      replace h103 := h103.p
      replace m0 := m0.trans m102.no
      replace bx31 := bx31.mv m102 no_No
      replace h27 := h27.mono (m102.le no_No)
      replace h28 := h28.mono (m102.le no_No)
      replace h29 := h29.mono (m102.le no_No)
      replace h30 := h30.mono (m102.le no_No)
      replace bx41 := bx41.mv m102 no_No
      replace h91 := h91.mono (m102.le no_No)
      replace h93 := h93.mono (m102.le no_No)
      refine L.mv Wt.no rfl rfl (L.ex Wt.no rfl rfl rfl (L.ex Wt.no rfl rfl rfl (L.as Wt.no rfl rfl (L.as Wt.no rfl rfl (L.nil (X.seqN (E.seq (E.seq (E.reg (L.mv Wt.no rfl rfl (L.rem Wt.no rfl rfl (by decide) rfl (L.mv Wt.no rfl rfl (L.nil (X.seqN (E.block ?_)))))))))))))))
      obtain ⟨o121, eo121, hm⟩ := bindS hm
      refine E.cut (x := .exit 2) (fun e w => ∃ (s128 : Sig) (u127 : List Bool × List Bool) (a123 : Option Addr) (c123 : Nat) (a125 : Option Addr) (c125 : Nat), o121 = .inl u127 ∧ Mv (Up N No) s s128 ∧ RdL (rK .i64) s128 a103 c103 r100.1 ∧ RdL rB s128 a27 c27 r24.1.1.2.2.2.1 ∧ RdL (rP (rK .i64) (rK .i64)) s128 a28 c28 r24.1.1.2.2.2.2 ∧ RdL (rK .i64) s128 a29 c29 r24.1.2.1 ∧ RdL (rK .i64) s128 a30 c30 r24.1.2.2.1 ∧ RdL rB s128 a123 c123 u127.1 ∧ RdL rB s128 a125 c125 u127.2 ∧ Bx s128 (N + 2) b31 #[.int .i64 r24.1.1.1, .int .i64 r24.1.1.2.1, .int .i64 r24.1.1.2.2.1, .slice a27 r24.1.1.2.2.2.1.length c27, .slice a28 r24.1.1.2.2.2.2.length c28, .slice a29 r24.1.2.1.length c29, .slice a30 r24.1.2.2.1.length c30, .int .i64 r24.1.2.2.2] 34 ∧ Bx s128 (N + 3) b41 #[.slice a123 u127.1.length c123, .slice a125 u127.2.length c125] 39 ∧ e = [(18, .int .i64 r100.2), (17, .slice a103 r100.1.length c103), (16, .int .i64 r97.2), (15, .int .i64 r97.1), (11, .pointer (some ⟨b41, 0, none⟩)), (9, .pointer (some ⟨b31, 0, none⟩))] ∧ w = s128.w) ?_ ?_
      ·rintro _ _ ⟨s128, u127, a123, c123, a125, c125, rfl, m0, h103, h27, h28, h29, h30, h123, h125, bx31, bx41, rfl, rfl⟩
       dsimp only at hm
       refine X.blkE (X.seqN (E.seq (E.reg (L.lg (j := 0) (cs := [.int .i64 r24.1.1.1, .int .i64 r24.1.1.2.1, .int .i64 r24.1.1.2.2.1, .slice a27 r24.1.1.2.2.2.1.length c27, .slice a28 r24.1.1.2.2.2.2.length c28, .slice a29 r24.1.2.1.length c29, .slice a30 r24.1.2.2.1.length c30, .int .i64 r24.1.2.2.2]) bx31.mem ag34 Wt.no rfl rfl rfl rfl rfl (L.lg (j := 0) (cs := [.slice a123 u127.1.length c123, .slice a125 u127.2.length c125]) bx41.mem ag39 Wt.no rfl rfl rfl rfl rfl ?_)))))
       obtain ⟨r129, er129, hm⟩ := bindS hm
       refine L.ca cf18 rfl rfl Wt.no rfl (m_generate_State_c (s := s128) (p0 := r24.1) (p1 := u127) h27 h28 h29 h30 h123 h125 er129) rfl ?_
       rintro _ s130 m131 rfl
       replace m0 := m0.trans m131.no
       replace h103 := h103.mono (m131.le no_No)
       replace bx31 := bx31.mv m131 no_No
       replace h27 := h27.mono (m131.le no_No)
       replace h28 := h28.mono (m131.le no_No)
       replace h29 := h29.mono (m131.le no_No)
       replace h30 := h30.mono (m131.le no_No)
       replace bx41 := bx41.mv m131 no_No
       replace h123 := h123.mono (m131.le no_No)
       replace h125 := h125.mono (m131.le no_No)
       refine L.mv Wt.no rfl rfl (L.ex Wt.no rfl rfl rfl (L.ex Wt.no rfl rfl rfl (L.as Wt.no rfl rfl (L.as Wt.no rfl rfl (L.nil (X.seqN (E.seq (E.reg (L.lg (j := 0) (cs := [.int .i64 r24.1.1.1, .int .i64 r24.1.1.2.1, .int .i64 r24.1.1.2.2.1, .slice a27 r24.1.1.2.2.2.1.length c27, .slice a28 r24.1.1.2.2.2.2.length c28, .slice a29 r24.1.2.1.length c29, .slice a30 r24.1.2.2.1.length c30, .int .i64 r24.1.2.2.2]) bx31.mem ag34 Wt.no rfl rfl rfl rfl rfl (L.lg (j := 0) (cs := [.slice a123 u127.1.length c123, .slice a125 u127.2.length c125]) bx41.mem ag39 Wt.no rfl rfl rfl rfl rfl ?_))))))))))
       obtain ⟨r132, er132, hm⟩ := bindS hm
       refine L.ca cf19 rfl rfl Wt.no rfl (m_generate_Enabled_c (s := s130) (p0 := r24.1) (p1 := u127) (u0 := 0) h27 h28 h29 h30 h123 h125 er132) rfl ?_
       rintro _ s133 m134 ⟨a135, c135, rfl, h135⟩
       replace h135 := h135.p
       replace m0 := m0.trans m134.no
       replace h103 := h103.mono (m134.le no_No)
       refine L.mv Wt.no rfl rfl (L.ex Wt.no rfl rfl rfl (L.ex Wt.no rfl rfl rfl (L.as Wt.no rfl rfl (L.as Wt.no rfl rfl (L.nil (X.seqN (E.seq (E.reg (L.mv Wt.no rfl rfl (L.bi Wt.no rfl rfl rfl rfl (L.mv Wt.no rfl rfl (L.cut 3 (fun e w => ∃ (v136 : Bool), ((r97.2 == 0) && (r100.2 == 0)) = v136 ∧ e = (116, .bool v136) :: [(22, .int .i64 r132.2), (21, .slice a135 r132.1.length c135), (20, .int .i64 r129.2), (19, .int .i64 r129.1), (17, .slice a103 r100.1.length c103), (15, .int .i64 r97.1)] ∧ w = s133.w) ?_ ?_))))))))))))
       ·rintro _ _ ⟨v136, rfl, rfl, rfl⟩
        refine L.mv Wt.no rfl rfl (L.cut 3 (fun e w => ∃ (v137 : Bool), (((r97.2 == 0) && (r100.2 == 0)) && (r129.2 == 0)) = v137 ∧ e = (120, .bool v137) :: [(22, .int .i64 r132.2), (21, .slice a135 r132.1.length c135), (19, .int .i64 r129.1), (17, .slice a103 r100.1.length c103), (15, .int .i64 r97.1)] ∧ w = s133.w) ?_ ?_)
        ·rintro _ _ ⟨v137, rfl, rfl, rfl⟩
         refine L.mv Wt.no rfl rfl (L.cut 3 (fun e w => ∃ (v138 : Bool), ((((r97.2 == 0) && (r100.2 == 0)) && (r129.2 == 0)) && (r132.2 == 0)) = v138 ∧ e = (124, .bool v138) :: [(21, .slice a135 r132.1.length c135), (19, .int .i64 r129.1), (17, .slice a103 r100.1.length c103), (15, .int .i64 r97.1)] ∧ w = s133.w) ?_ ?_)
         ·rintro _ _ ⟨v138, rfl, rfl, rfl⟩
          refine L.mv Wt.no rfl rfl (L.cut 4 (fun e w => ∃ (v139 : Bool), (((((r97.2 == 0) && (r100.2 == 0)) && (r129.2 == 0)) && (r132.2 == 0)) && (r97.1 == r129.1)) = v139 ∧ e = (129, .bool v139) :: [(21, .slice a135 r132.1.length c135), (17, .slice a103 r100.1.length c103)] ∧ w = s133.w) ?_ ?_)
          ·rintro _ _ ⟨v139, rfl, rfl, rfl⟩
           refine L.mv Wt.no rfl rfl ?_
           obtain ⟨b140, eb140, hm⟩ := bindS hm
           refine L.cut 4 (fun e w => ∃ (s142 : Sig) (v141 : Bool), b140 = v141 ∧ Mv (Up N No) s s142 ∧ e = (134, .bool v141) :: [] ∧ w = s142.w) ?_ ?_
           ·rintro _ _ ⟨s142, v141, rfl, m0, rfl, rfl⟩
            refine L.as Wt.no rfl rfl (L.nil (X.seqN (E.ret ?_)))
            obtain rfl := Option.some.inj hm
            exact X.rt (.inl rfl) Try.results4 (Rs.tmp rfl Rs.nil) rfl ⟨_, (s142).ren N (fun _ => 0), rfl, rfl, m0.ren hNb, rfl⟩
           ·intro J143
            rcases ifS eb140 with ⟨hc, hm⟩ | ⟨hc, hm⟩
            ·refine L.know (d := 130) rfl hc (L.mv (Wt.mk rfl rfl) rfl rfl (L.mv (Wt.mk rfl rfl) rfl rfl ?_))
             obtain ⟨r144, er144, hm⟩ := bindS hm
             refine L.ca cf20 rfl rfl (Wt.mk rfl rfl) rfl (m_slices_Equal_int_c (s := s133) (p0 := r100.1) (p1 := r132.1) h103 h135 er144) rfl ?_
             rintro _ s145 m146 rfl
             replace m0 := m0.trans m146.no
             exact L.pkT Wt.no rfl rfl rfl rfl (L.sb (J143 _ _ ⟨s145, r144, (Option.some.inj hm).symm, m0, rfl, rfl⟩) rfl)
            ·exact L.know (d := 130) rfl hc (L.skip rfl rfl rfl rfl (L.skip rfl rfl rfl rfl (L.skip rfl rfl rfl rfl (L.pkF Wt.no rfl rfl rfl rfl (L.sb (J143 _ _ ⟨s133, false, (Option.some.inj hm).symm, m0, rfl, rfl⟩) rfl)))))
          ·intro J147
           rcases Bool.eq_false_or_eq_true ((((r97.2 == 0) && (r100.2 == 0)) && (r129.2 == 0)) && (r132.2 == 0)) with hc | hc
           ·exact L.know (d := 125) rfl hc (L.mv (Wt.mk rfl rfl) rfl rfl (L.mv (Wt.mk rfl rfl) rfl rfl (L.bi (Wt.mk rfl rfl) rfl rfl rfl rfl (L.pkT Wt.no rfl rfl rfl rfl (L.sb (J147 _ _ ⟨(r97.1 == r129.1), (andT hc).symm, rfl, rfl⟩) rfl)))))
           ·exact L.know (d := 125) rfl hc (L.skip rfl rfl rfl rfl (L.skip rfl rfl rfl rfl (L.skip rfl rfl rfl rfl (L.pkF Wt.no rfl rfl rfl rfl (L.sb (J147 _ _ ⟨false, (andF hc).symm, rfl, rfl⟩) rfl)))))
         ·intro J148
          rcases Bool.eq_false_or_eq_true (((r97.2 == 0) && (r100.2 == 0)) && (r129.2 == 0)) with hc | hc
          ·exact L.know (d := 121) rfl hc (L.mv (Wt.mk rfl rfl) rfl rfl (L.bi (Wt.mk rfl rfl) rfl rfl rfl rfl (L.pkT Wt.no rfl rfl rfl rfl (L.sb (J148 _ _ ⟨(r132.2 == 0), (andT hc).symm, rfl, rfl⟩) rfl))))
          ·exact L.know (d := 121) rfl hc (L.skip rfl rfl rfl rfl (L.skip rfl rfl rfl rfl (L.pkF Wt.no rfl rfl rfl rfl (L.sb (J148 _ _ ⟨false, (andF hc).symm, rfl, rfl⟩) rfl))))
        ·intro J149
         rcases Bool.eq_false_or_eq_true ((r97.2 == 0) && (r100.2 == 0)) with hc | hc
         ·exact L.know (d := 117) rfl hc (L.mv (Wt.mk rfl rfl) rfl rfl (L.bi (Wt.mk rfl rfl) rfl rfl rfl rfl (L.pkT Wt.no rfl rfl rfl rfl (L.sb (J149 _ _ ⟨(r129.2 == 0), (andT hc).symm, rfl, rfl⟩) rfl))))
         ·exact L.know (d := 117) rfl hc (L.skip rfl rfl rfl rfl (L.skip rfl rfl rfl rfl (L.pkF Wt.no rfl rfl rfl rfl (L.sb (J149 _ _ ⟨false, (andF hc).symm, rfl, rfl⟩) rfl))))
       ·intro J150
        rcases Bool.eq_false_or_eq_true (r97.2 == 0) with hc | hc
        ·exact L.know (d := 113) rfl hc (L.mv (Wt.mk rfl rfl) rfl rfl (L.bi (Wt.mk rfl rfl) rfl rfl rfl rfl (L.pkT Wt.no rfl rfl rfl rfl (L.sb (J150 _ _ ⟨(r100.2 == 0), (andT hc).symm, rfl, rfl⟩) rfl))))
        ·exact L.know (d := 113) rfl hc (L.skip rfl rfl rfl rfl (L.skip rfl rfl rfl rfl (L.pkF Wt.no rfl rfl rfl rfl (L.sb (J150 _ _ ⟨false, (andF hc).symm, rfl, rfl⟩) rfl))))
      intro K151
      refine E.cut (x := .ret) (fun e w => ∃ (s153 : Sig) (u152 : Unit), o121 = .inr (u152) ∧ Mv (Up N No) s s153 ∧ e = [(6, .bool false)] ∧ w = s153.w) ?_ ?_
      ·rintro _ _ ⟨s153, u152, rfl, m0, rfl, rfl⟩
       dsimp only at hm
       refine X.blkR (X.seqR ?_)
       obtain rfl := Option.some.inj hm
       exact X.rt (.inl rfl) Try.results4 (Rs.tmp rfl Rs.nil) rfl ⟨_, (s153).ren N (fun _ => 0), rfl, rfl, m0.ren hNb, rfl⟩
      intro K154
      refine E.iter (fun (st121 : Int × List Bool × List Bool) (e : List (Nat × Value)) (w : World) => ∃ (s126 : Sig) (a106 : Option Addr) (c106 : Nat) (a108 : Option Addr) (c108 : Nat), Mv (Up N No) s s126 ∧ RdL (rK .i64) s126 a103 c103 r100.1 ∧ RdL rB s126 a27 c27 r24.1.1.2.2.2.1 ∧ RdL (rP (rK .i64) (rK .i64)) s126 a28 c28 r24.1.1.2.2.2.2 ∧ RdL (rK .i64) s126 a29 c29 r24.1.2.1 ∧ RdL (rK .i64) s126 a30 c30 r24.1.2.2.1 ∧ RdL rB s126 a106 c106 st121.2.1 ∧ RdL rB s126 a108 c108 st121.2.2 ∧ Bx s126 (N + 2) b31 #[.int .i64 r24.1.1.1, .int .i64 r24.1.1.2.1, .int .i64 r24.1.1.2.2.1, .slice a27 r24.1.1.2.2.2.1.length c27, .slice a28 r24.1.1.2.2.2.2.length c28, .slice a29 r24.1.2.1.length c29, .slice a30 r24.1.2.2.1.length c30, .int .i64 r24.1.2.2.2] 34 ∧ Bx s126 (N + 3) b41 #[.slice a106 st121.2.1.length c106, .slice a108 st121.2.2.length c108] 39 ∧ e = [(88, .int .u8 st121.1), (87, .int .u8 (p2.tmod 4)), (18, .int .i64 r100.2), (17, .slice a103 r100.1.length c103), (16, .int .i64 r97.2), (15, .int .i64 r97.1), (11, .pointer (some ⟨b41, 0, none⟩)), (9, .pointer (some ⟨b31, 0, none⟩))] ∧ w = s126.w) eo121 ⟨s101, a91, c91, a93, c93, m0, h103, h27, h28, h29, h30, h91, h93, bx31, bx41, rfl, rfl⟩ (Sub.rf rfl) ?_
      rintro st121 res121 hm ih121 ho121 _ _ ⟨s126, a106, c106, a108, c108, m0, h103, h27, h28, h29, h30, h106, h108, bx31, bx41, rfl, rfl⟩
      unfold m_overseerlaw53_GenerateRests_l2 at hm
      refine E.seq (E.reg (L.bi Wt.no rfl rfl rfl rfl (L.nil (X.seqN (E.seq ?_)))))
      rcases ifS hm with ⟨hc, hm⟩ | ⟨hc, hm⟩
      ·refine E.cT rfl hc (E.skip (X.seqN (E.seq (E.block (E.seq (E.reg (L.lg (j := 0) (cs := [.int .i64 r24.1.1.1, .int .i64 r24.1.1.2.1, .int .i64 r24.1.1.2.2.1, .slice a27 r24.1.1.2.2.2.1.length c27, .slice a28 r24.1.1.2.2.2.2.length c28, .slice a29 r24.1.2.1.length c29, .slice a30 r24.1.2.2.1.length c30, .int .i64 r24.1.2.2.2]) bx31.mem ag34 Wt.no rfl rfl rfl rfl rfl (L.lg (j := 0) (cs := [.slice a106 st121.2.1.length c106, .slice a108 st121.2.2.length c108]) bx41.mem ag39 Wt.no rfl rfl rfl rfl rfl ?_))))))))
       obtain ⟨r155, er155, hm⟩ := bindS hm
       refine L.ca cf14 rfl rfl Wt.no rfl (m_generate_Scan_c (s := s126) (p0 := r24.1) (p1 := st121.2) (p2 := ([] : List Int)) h27 h28 h29 h30 h106 h108 RdL.nil er155) rfl ?_
       rintro _ s156 m157 ⟨a158, c158, a159, c159, rfl, h158, h159⟩
       replace m0 := m0.trans m157.no
       replace h103 := h103.mono (m157.le no_No)
       replace bx31 := bx31.mv m157 no_No
       replace h27 := h27.mono (m157.le no_No)
       replace h28 := h28.mono (m157.le no_No)
       replace h29 := h29.mono (m157.le no_No)
       replace h30 := h30.mono (m157.le no_No)
       replace bx41 := bx41.mv m157 no_No
       refine L.mv Wt.no rfl rfl (L.ex Wt.no rfl rfl rfl (L.ex Wt.no rfl rfl rfl (L.st (c := [.slice a158 r155.1.1.length c158, .slice a159 r155.1.2.length c159]) (cs' := #[.slice a158 r155.1.1.length c158, .slice a159 r155.1.2.length c159]) bx41 ag39.sz Wt.no rfl rfl rfl rfl rfl (Nat.le_of_ble_eq_true rfl) rfl fun s160 m161 bx41 => ?_)))
       replace m0 := m0.trans (m161.one up)
       replace h103 := h103.mono (m161.le (tg0 hN))
       replace bx31 := bx31.mv m161 (tgN (by decide))
       replace h27 := h27.mono (m161.le (tg0 hN))
       replace h28 := h28.mono (m161.le (tg0 hN))
       replace h29 := h29.mono (m161.le (tg0 hN))
       replace h30 := h30.mono (m161.le (tg0 hN))
       replace h158 := h158.mono (m161.le (tg0 hN))
       replace h159 := h159.mono (m161.le (tg0 hN))
       refine L.as Wt.no rfl rfl (L.nil (X.seqN (E.seq (E.reg (L.mv Wt.no rfl rfl (L.bi Wt.no rfl rfl rfl rfl (L.nil (X.seqN ?_))))))))
       rcases ifS hm with ⟨hc, hm⟩ | ⟨hc, hm⟩
       ·refine E.cT rfl hc (E.seq (E.reg (L.as Wt.no rfl rfl (L.nil (X.seqN (E.ret (X.blkR (X.seqR (X.seqR ?_)))))))))
        have hx := ho121 _ (Option.some.inj hm).symm
        exact X.sub (K154 _ _ ⟨s160, (), hx.symm, m0, rfl, rfl⟩) (Sub.rf rfl)
       ·exact E.cF rfl hc (E.skip (X.blkN (X.seqN (E.reg (L.bi Wt.no rfl rfl rfl rfl (L.mv Wt.no rfl rfl (L.nil (X.sub (ih121 _ (Option.some.inj hm).symm _ _ ⟨s160, a158, c158, a159, c159, m0, h103, h27, h28, h29, h30, h158, h159, bx31, bx41, rfl, rfl⟩) (Sub.rf rfl)))))))))
      ·refine E.cF rfl hc (E.exit (X.seqX (X.seqX ?_)))
       have hx := ho121 _ (Option.some.inj hm).symm
       exact X.sub (K151 _ _ ⟨s126, st121.2, a106, c106, a108, c108, hx.symm, m0, h103, h27, h28, h29, h30, h106, h108, bx31, bx41, rfl, rfl⟩) (Sub.rf rfl)
     intro K162
     refine E.cut (x := .ret) (fun e w => ∃ (s164 : Sig) (u163 : Unit), o89 = .inr (u163) ∧ Mv (Up N No) s s164 ∧ e = [(6, .bool false)] ∧ w = s164.w) ?_ ?_
     ·rintro _ _ ⟨s164, u163, rfl, m0, rfl, rfl⟩
      dsimp only at hm
      refine X.blkR (X.seqR ?_)
      obtain rfl := Option.some.inj hm
      exact X.rt (.inl rfl) Try.results4 (Rs.tmp rfl Rs.nil) rfl ⟨_, (s164).ren N (fun _ => 0), rfl, rfl, m0.ren hNb, rfl⟩
     intro K165
     refine E.iter (fun (st89 : Int × List Bool × List Bool) (e : List (Nat × Value)) (w : World) => ∃ (s94 : Sig) (a56 : Option Addr) (c56 : Nat) (a58 : Option Addr) (c58 : Nat), Mv (Up N No) s s94 ∧ RowT (rK .u8) s94 (N + 4) 5 a51 c51 x50 ∧ RdL (rK .i64) s94 a15 c15 r12.1.1 ∧ RdL (rK .i64) s94 a16 c16 r12.1.2.2.1 ∧ RdL (rP (rK .i64) (rP (rK .i64) (rK .i64))) s94 a17 c17 r12.1.2.2.2 ∧ RdL rB s94 a27 c27 r24.1.1.2.2.2.1 ∧ RdL (rP (rK .i64) (rK .i64)) s94 a28 c28 r24.1.1.2.2.2.2 ∧ RdL (rK .i64) s94 a29 c29 r24.1.2.1 ∧ RdL (rK .i64) s94 a30 c30 r24.1.2.2.1 ∧ RdL rB s94 a56 c56 st89.2.1 ∧ RdL rB s94 a58 c58 st89.2.2 ∧ Bx s94 (N + 1) b19 #[.slice a15 r12.1.1.length c15, .int .i64 r12.1.2.1, .slice a16 r12.1.2.2.1.length c16, .slice a17 r12.1.2.2.2.length c17] 26 ∧ Bx s94 (N + 2) b31 #[.int .i64 r24.1.1.1, .int .i64 r24.1.1.2.1, .int .i64 r24.1.1.2.2.1, .slice a27 r24.1.1.2.2.2.1.length c27, .slice a28 r24.1.1.2.2.2.2.length c28, .slice a29 r24.1.2.1.length c29, .slice a30 r24.1.2.2.1.length c30, .int .i64 r24.1.2.2.2] 34 ∧ Bx s94 (N + 3) b41 #[.slice a56 st89.2.1.length c56, .slice a58 st89.2.2.length c58] 39 ∧ e = [(58, .int .i64 st89.1), (57, .int .i64 (x50.length : Int)), (56, .slice a51 x50.length c51), (11, .pointer (some ⟨b41, 0, none⟩)), (9, .pointer (some ⟨b31, 0, none⟩)), (7, .pointer (some ⟨b19, 0, none⟩)), (2, .int .u8 p2)] ∧ w = s94.w) eo89 ⟨s52, a39, c39, a40, c40, m0, h51, h15, h16, h17, h27, h28, h29, h30, h39, h40, bx19, bx31, bx41, rfl, rfl⟩ (Sub.rf rfl) ?_
     rintro st89 res89 hm ih89 ho89 _ _ ⟨s94, a56, c56, a58, c58, m0, h51, h15, h16, h17, h27, h28, h29, h30, h56, h58, bx19, bx31, bx41, rfl, rfl⟩
     unfold m_overseerlaw53_GenerateRests_l1 at hm
     refine E.seq (E.reg (L.bi Wt.no rfl rfl rfl rfl (L.nil (X.seqN (E.seq ?_)))))
     rcases ifS hm with ⟨hc, hm⟩ | ⟨hc, hm⟩
     ·refine E.cT rfl hc (E.skip (X.seqN (E.seq (E.block (E.seq (E.reg ?_))))))
      obtain ⟨x166, ex166, hm⟩ := bindS hm
      refine L.ir (r := (rK .u8)) sl52 h51 Wt.no rfl rfl ex166 rfl fun b167 o167 cc167 me167 rd167 sp167 => ?_
      obtain rfl := rd167
      refine L.ld (j := 0) me167 nag5 Wt.no rfl rfl rfl rfl (L.as Wt.no rfl rfl (L.nil (X.seqN (E.seq ?_))))
      obtain ⟨r173, er173, hm⟩ := bindS hm
      obtain ⟨r178, er178, hm⟩ := bindS hm
      refine E.draw [[], [], [], [], [2, 3], [0, 1, 2, 3, 4], [0, 1, 2, 3, 4, 5], [0, 1, 2, 3, 4, 5, 6], [0, 1, 2, 3, 4, 5, 6], [0, 1, 2, 3, 4, 5, 6, 7], [0, 1, 2, 3, 4, 5, 6, 7, 8, 9]] (fun D e sx => Mv (One (N + 3)) s94 sx ∧ Sub [(14, .int .u8 x166), (58, .int .i64 st89.1), (57, .int .i64 (x50.length : Int)), (56, .slice a51 x50.length c51), (11, .pointer (some ⟨b41, 0, none⟩)), (9, .pointer (some ⟨b31, 0, none⟩)), (7, .pointer (some ⟨b19, 0, none⟩)), (2, .int .u8 p2)] e ∧ (D 0 = true → (Env.get e 63 = some (.agg #[.int .i64 r24.1.1.1, .int .i64 r24.1.1.2.1, .int .i64 r24.1.1.2.2.1, .slice a27 r24.1.1.2.2.2.1.length c27, .slice a28 r24.1.1.2.2.2.2.length c28, .slice a29 r24.1.2.1.length c29, .slice a30 r24.1.2.2.1.length c30, .int .i64 r24.1.2.2.2]))) ∧ (D 1 = true → (Env.get e 64 = some (.agg #[.slice a56 st89.2.1.length c56, .slice a58 st89.2.2.length c58]))) ∧ (D 2 = true → (Env.get e 65 = some (.agg #[.slice a15 r12.1.1.length c15, .int .i64 r12.1.2.1, .slice a16 r12.1.2.2.1.length c16, .slice a17 r12.1.2.2.2.length c17]))) ∧ (D 3 = true → (Env.get e 66 = some (.int .u8 x166))) ∧ (D 4 = true → (∃ (a176 : Option Addr) (c176 : Nat), Env.get e 67 = some (.slice a176 r173.length c176) ∧ RdL (rK .i64) sx a176 c176 r173)) ∧ (D 5 = true → (∃ (a181 : Option Addr) (c181 : Nat) (a182 : Option Addr) (c182 : Nat), Env.get e 68 = some (.tuple #[.agg #[.slice a181 r178.1.1.length c181, .slice a182 r178.1.2.length c182], .int .i64 r178.2]) ∧ RdL rB sx a181 c181 r178.1.1 ∧ RdL rB sx a182 c182 r178.1.2)) ∧ (D 6 = true → ∀ (a181 : Option Addr) (c181 : Nat) (a182 : Option Addr) (c182 : Nat), Env.get e 68 = some (.tuple #[.agg #[.slice a181 r178.1.1.length c181, .slice a182 r178.1.2.length c182], .int .i64 r178.2]) → (Env.get e 62 = some (.tuple #[.agg #[.slice a181 r178.1.1.length c181, .slice a182 r178.1.2.length c182], .int .i64 r178.2]))) ∧ (D 7 = true → ∀ (a181 : Option Addr) (c181 : Nat) (a182 : Option Addr) (c182 : Nat), Env.get e 68 = some (.tuple #[.agg #[.slice a181 r178.1.1.length c181, .slice a182 r178.1.2.length c182], .int .i64 r178.2]) → (Env.get e 69 = some (.agg #[.slice a181 r178.1.1.length c181, .slice a182 r178.1.2.length c182]))) ∧ (D 8 = true → (Env.get e 70 = some (.int .i64 r178.2))) ∧ (D 10 = true → (Env.get e 12 = some (.int .i64 r178.2))) ∧ (D 9 = false → Bx sx (N + 3) b41 #[.slice a56 st89.2.1.length c56, .slice a58 st89.2.2.length c58] 39) ∧ (D 9 = true → ∀ (a181 : Option Addr) (c181 : Nat) (a182 : Option Addr) (c182 : Nat), Env.get e 68 = some (.tuple #[.agg #[.slice a181 r178.1.1.length c181, .slice a182 r178.1.2.length c182], .int .i64 r178.2]) → Bx sx (N + 3) b41 #[.slice a181 r178.1.1.length c181, .slice a182 r178.1.2.length c182] 39)) (by kernel_rfl) (by kernel_rfl) (by kernel_rfl) ?_ ?_ ?_
      ·intro sz mz
       exact ⟨mz.no, (Sub.rf rfl), nofun, nofun, nofun, nofun, nofun, nofun, nofun, nofun, nofun, nofun, fun _ => bx41.mv mz no_No, nofun⟩
      ·refine ⟨?_, ?_, ?_, ?_, ?_, ?_, ?_, ?_, ?_, ?_, ?_, trivial⟩
       ·rintro D e s168 ⟨im, ib, i0, t_⟩ hk hf ha
        have bx31 := bx31.mv im (tgN (by decide))
        have kn : Kn e [(9, .pointer (some ⟨b31, 0, none⟩))] := ⟨(ib 9 _ rfl), trivial⟩
        exact L.kns _ kn (L.lg (j := 0) (cs := [.int .i64 r24.1.1.1, .int .i64 r24.1.1.2.1, .int .i64 r24.1.1.2.2.1, .slice a27 r24.1.1.2.2.2.1.length c27, .slice a28 r24.1.1.2.2.2.2.length c28, .slice a29 r24.1.2.1.length c29, .slice a30 r24.1.2.2.1.length c30, .int .i64 r24.1.2.2.2]) bx31.mem ag34 Wt.no rfl rfl rfl rfl rfl (L.nil (X.dk kn ⟨im, Sub.fresh ib rfl, fun _ => rfl, t_⟩)))
       ·rintro D e s169 ⟨im, ib, i0, i1, i2, i3, i4, i5, i6, i7, i8, i9, i10, i11⟩ hk hf ha
        obtain bx41 := i10 (hf 9 (Nat.le_of_ble_eq_true rfl) rfl)
        have kn : Kn e [(11, .pointer (some ⟨b41, 0, none⟩))] := ⟨(ib 11 _ rfl), trivial⟩
        exact L.kns _ kn (L.lg (j := 0) (cs := [.slice a56 st89.2.1.length c56, .slice a58 st89.2.2.length c58]) bx41.mem ag39 Wt.no rfl rfl rfl rfl rfl (L.nil (X.dk kn ⟨im, Sub.fresh ib rfl, i0, fun _ => rfl, i2, i3, i4, i5, i6, i7, i8, i9, i10, i11⟩)))
       ·rintro D e s170 ⟨im, ib, i0, i1, i2, t_⟩ hk hf ha
        have bx19 := bx19.mv im (tgN (by decide))
        have kn : Kn e [(7, .pointer (some ⟨b19, 0, none⟩))] := ⟨(ib 7 _ rfl), trivial⟩
        exact L.kns _ kn (L.lg (j := 0) (cs := [.slice a15 r12.1.1.length c15, .int .i64 r12.1.2.1, .slice a16 r12.1.2.2.1.length c16, .slice a17 r12.1.2.2.2.length c17]) bx19.mem ag26 Wt.no rfl rfl rfl rfl rfl (L.nil (X.dk kn ⟨im, Sub.fresh ib rfl, i0, i1, fun _ => rfl, t_⟩)))
       ·rintro D e s171 ⟨im, ib, i0, i1, i2, i3, t_⟩ hk hf ha
        have kn : Kn e [(14, .int .u8 x166)] := ⟨(ib 14 _ rfl), trivial⟩
        exact L.kns _ kn (L.mv Wt.no rfl rfl (L.nil (X.dk kn ⟨im, Sub.fresh ib rfl, i0, i1, i2, fun _ => rfl, t_⟩)))
       ·rintro D e s172 ⟨im, ib, i0, i1, i2, i3, i4, i5, i6, i7, i8, i9, i10, i11⟩ hk hf ha
        obtain ⟨d2, d3, -⟩ := ha
        have g2_ := i2 d2
        have g3_ := i3 d3
        have h15 := h15.mono (im.le (tg0 hN))
        have h16 := h16.mono (im.le (tg0 hN))
        have h17 := h17.mono (im.le (tg0 hN))
        have kn : Kn e [(65, .agg #[.slice a15 r12.1.1.length c15, .int .i64 r12.1.2.1, .slice a16 r12.1.2.2.1.length c16, .slice a17 r12.1.2.2.2.length c17]), (66, .int .u8 x166)] := ⟨g2_, g3_, trivial⟩
        refine L.kns _ kn (L.ca cf17 rfl rfl Wt.no rfl (m_overseerlaw53_set_c (s := s172) (p0 := r12.1) (p1 := x166) (u0 := 0) h15 h16 h17 er173) rfl ?_)
        rintro _ s174 m175 ⟨a176, c176, rfl, h176⟩
        replace h176 := h176.p
        exact L.nil (X.dk kn ⟨im.trans m175.no, Sub.fresh ib rfl, i0, i1, i2, i3, fun _ => ⟨a176, c176, rfl, h176⟩, fun z => let ⟨a181, c181, a182, c182, q, h181, h182⟩ := i5 z; ⟨a181, c181, a182, c182, q, (h181.mono (m175.le no_No)), (h182.mono (m175.le no_No))⟩, i6, i7, i8, i9, fun z2 => ((i10 z2).mv m175 no_No), fun z a181 c181 a182 c182 q5 => ((i11 z a181 c181 a182 c182 q5).mv m175 no_No)⟩)
       ·rintro D e s177 ⟨im, ib, i0, i1, i2, i3, i4, i5, i6, i7, i8, i9, i10, i11⟩ hk hf ha
        obtain ⟨d0, d1, d2, d3, d4, -⟩ := ha
        have g0_ := i0 d0
        have g1_ := i1 d1
        obtain ⟨a176, c176, g4_, h176⟩ := i4 d4
        have h56 := h56.mono (im.le (tg0 hN))
        have h58 := h58.mono (im.le (tg0 hN))
        have h27 := h27.mono (im.le (tg0 hN))
        have h28 := h28.mono (im.le (tg0 hN))
        have h29 := h29.mono (im.le (tg0 hN))
        have h30 := h30.mono (im.le (tg0 hN))
        have kn : Kn e [(63, .agg #[.int .i64 r24.1.1.1, .int .i64 r24.1.1.2.1, .int .i64 r24.1.1.2.2.1, .slice a27 r24.1.1.2.2.2.1.length c27, .slice a28 r24.1.1.2.2.2.2.length c28, .slice a29 r24.1.2.1.length c29, .slice a30 r24.1.2.2.1.length c30, .int .i64 r24.1.2.2.2]), (64, .agg #[.slice a56 st89.2.1.length c56, .slice a58 st89.2.2.length c58]), (67, .slice a176 r173.length c176)] := ⟨g0_, g1_, g4_, trivial⟩
        refine L.kns _ kn (L.ca cf14 rfl rfl Wt.no rfl (m_generate_Scan_c (s := s177) (p0 := r24.1) (p1 := st89.2) (p2 := r173) h27 h28 h29 h30 h56 h58 h176 er178) rfl ?_)
        rintro _ s179 m180 ⟨a181, c181, a182, c182, rfl, h181, h182⟩
        exact L.nil (X.dk kn ⟨im.trans m180.no, Sub.fresh ib rfl, i0, i1, i2, i3, fun z => let ⟨a176, c176, q, h176⟩ := i4 z; ⟨a176, c176, q, (h176.mono (m180.le no_No))⟩, fun _ => ⟨a181, c181, a182, c182, rfl, h181, h182⟩, fun z => Bool.noConfusion ((hf 6 (Nat.le_of_ble_eq_true rfl) rfl).symm.trans z), fun z => Bool.noConfusion ((hf 7 (Nat.le_of_ble_eq_true rfl) rfl).symm.trans z), i8, i9, fun z2 => ((i10 z2).mv m180 no_No), fun z => Bool.noConfusion ((hf 9 (Nat.le_of_ble_eq_true rfl) rfl).symm.trans z)⟩)
       ·rintro D e s183 ⟨im, ib, i0, i1, i2, i3, i4, i5, i6, t_⟩ hk hf ha
        obtain ⟨d0, d1, d2, d3, d4, d5, -⟩ := ha
        obtain ⟨a181, c181, a182, c182, g5_, h181, h182⟩ := i5 d5
        have kn : Kn e [(68, .tuple #[.agg #[.slice a181 r178.1.1.length c181, .slice a182 r178.1.2.length c182], .int .i64 r178.2])] := ⟨g5_, trivial⟩
        exact L.kns _ kn (L.mv Wt.no rfl rfl (L.nil (X.dk kn ⟨im, Sub.fresh ib rfl, i0, i1, i2, i3, i4, i5, fun _ _ _ _ _ q5 => by cases g5_.symm.trans q5; exact rfl, t_⟩)))
       ·rintro D e s184 ⟨im, ib, i0, i1, i2, i3, i4, i5, i6, i7, t_⟩ hk hf ha
        obtain ⟨d0, d1, d2, d3, d4, d5, d6, -⟩ := ha
        obtain ⟨a181, c181, a182, c182, g5_, h181, h182⟩ := i5 d5
        have g6_ := i6 d6 a181 c181 a182 c182 g5_
        have kn : Kn e [(62, .tuple #[.agg #[.slice a181 r178.1.1.length c181, .slice a182 r178.1.2.length c182], .int .i64 r178.2])] := ⟨g6_, trivial⟩
        exact L.kns _ kn (L.ex Wt.no rfl rfl rfl (L.nil (X.dk kn ⟨im, Sub.fresh ib rfl, i0, i1, i2, i3, i4, i5, i6, fun _ _ _ _ _ q5 => by cases g5_.symm.trans q5; exact rfl, t_⟩)))
       ·rintro D e s185 ⟨im, ib, i0, i1, i2, i3, i4, i5, i6, i7, i8, t_⟩ hk hf ha
        obtain ⟨d0, d1, d2, d3, d4, d5, d6, -⟩ := ha
        obtain ⟨a181, c181, a182, c182, g5_, h181, h182⟩ := i5 d5
        have g6_ := i6 d6 a181 c181 a182 c182 g5_
        have kn : Kn e [(62, .tuple #[.agg #[.slice a181 r178.1.1.length c181, .slice a182 r178.1.2.length c182], .int .i64 r178.2])] := ⟨g6_, trivial⟩
        exact L.kns _ kn (L.ex Wt.no rfl rfl rfl (L.nil (X.dk kn ⟨im, Sub.fresh ib rfl, i0, i1, i2, i3, i4, i5, i6, i7, fun _ => rfl, t_⟩)))
       ·rintro D e s186 ⟨im, ib, i0, i1, i2, i3, i4, i5, i6, i7, i8, i9, i10, i11⟩ hk hf ha
        obtain ⟨d0, d1, d2, d3, d4, d5, d6, d7, -⟩ := ha
        obtain ⟨a181, c181, a182, c182, g5_, h181, h182⟩ := i5 d5
        have g7_ := i7 d7 a181 c181 a182 c182 g5_
        obtain bx41 := i10 hk
        have kn : Kn e [(11, .pointer (some ⟨b41, 0, none⟩)), (69, .agg #[.slice a181 r178.1.1.length c181, .slice a182 r178.1.2.length c182])] := ⟨(ib 11 _ rfl), g7_, trivial⟩
        exact L.kns _ kn (L.st (c := [.slice a181 r178.1.1.length c181, .slice a182 r178.1.2.length c182]) (cs' := #[.slice a181 r178.1.1.length c181, .slice a182 r178.1.2.length c182]) bx41 ag39.sz Wt.no rfl rfl rfl rfl rfl (Nat.le_of_ble_eq_true rfl) rfl fun s187 m188 bx41 => L.nil (X.dn kn ⟨im.trans (m188.one rfl), ib, i0, i1, i2, i3, fun z => let ⟨a176, c176, q, h176⟩ := i4 z; ⟨a176, c176, q, (h176.mono (m188.le (tg0 hN)))⟩, fun z => let ⟨a181, c181, a182, c182, q, h181, h182⟩ := i5 z; ⟨a181, c181, a182, c182, q, (h181.mono (m188.le (tg0 hN))), (h182.mono (m188.le (tg0 hN)))⟩, i6, i7, i8, i9, fun z => Bool.noConfusion (show true = false from z), fun _ _ _ _ _ q5 => by cases g5_.symm.trans q5; exact bx41⟩))
       ·rintro D e s189 ⟨im, ib, i0, i1, i2, i3, i4, i5, i6, i7, i8, i9, t_⟩ hk hf ha
        obtain ⟨d0, d1, d2, d3, d4, d5, d6, d7, d8, d9, -⟩ := ha
        have g8_ := i8 d8
        have kn : Kn e [(70, .int .i64 r178.2)] := ⟨g8_, trivial⟩
        exact L.kns _ kn (L.as Wt.no rfl rfl (L.nil (X.dk kn ⟨im, Sub.fresh ib rfl, i0, i1, i2, i3, i4, i5, i6, i7, i8, fun _ => rfl, t_⟩)))
      ·rintro D e s190 hD ⟨im, ib, i0, i1, i2, i3, i4, i5, i6, i7, i8, i9, i10, i11⟩
       obtain ⟨a181, c181, a182, c182, g5_, h181, h182⟩ := i5 (hD 5 rfl)
       have g10_ := i9 (hD 10 rfl)
       obtain bx41 := i11 (hD 9 rfl) a181 c181 a182 c182 g5_
       have h51 := h51.mv im (tgN (by decide)) (tg0 hN)
       have bx31 := bx31.mv im (tgN (by decide))
       have h27 := h27.mono (im.le (tg0 hN))
       have h28 := h28.mono (im.le (tg0 hN))
       have h29 := h29.mono (im.le (tg0 hN))
       have h30 := h30.mono (im.le (tg0 hN))
       have bx19 := bx19.mv im (tgN (by decide))
       have h15 := h15.mono (im.le (tg0 hN))
       have h16 := h16.mono (im.le (tg0 hN))
       have h17 := h17.mono (im.le (tg0 hN))
       have m0 := m0.trans (im.one up)
       refine X.sub (e' := [(12, .int .i64 r178.2), (58, .int .i64 st89.1), (57, .int .i64 (x50.length : Int)), (56, .slice a51 x50.length c51), (11, .pointer (some ⟨b41, 0, none⟩)), (9, .pointer (some ⟨b31, 0, none⟩)), (7, .pointer (some ⟨b19, 0, none⟩)), (2, .int .u8 p2)]) ?_ (Sub.cons g10_ (Sub.cons (ib 58 _ rfl) (Sub.cons (ib 57 _ rfl) (Sub.cons (ib 56 _ rfl) (Sub.cons (ib 11 _ rfl) (Sub.cons (ib 9 _ rfl) (Sub.cons (ib 7 _ rfl) (Sub.cons (ib 2 _ rfl) Sub.nil))))))))
       refine X.seqN (E.seq (E.reg (L.mv Wt.no rfl rfl (L.bi Wt.no rfl rfl rfl rfl (L.nil (X.seqN ?_))))))
       rcases ifS hm with ⟨hc, hm⟩ | ⟨hc, hm⟩
       ·refine E.cT rfl hc (E.seq (E.reg (L.as Wt.no rfl rfl (L.nil (X.seqN (E.ret (X.blkR (X.seqR (X.seqR ?_)))))))))
        have hx := ho89 _ (Option.some.inj hm).symm
        exact X.sub (K165 _ _ ⟨s190, (), hx.symm, m0, rfl, rfl⟩) (Sub.rf rfl)
       ·exact E.cF rfl hc (E.skip (X.blkN (X.seqN (E.reg (L.bi Wt.no rfl rfl rfl rfl (L.mv Wt.no rfl rfl (L.nil (X.sub (ih89 _ (Option.some.inj hm).symm _ _ ⟨s190, a181, c181, a182, c182, m0, h51, h15, h16, h17, h27, h28, h29, h30, h181, h182, bx19, bx31, bx41, rfl, rfl⟩) (Sub.rf rfl)))))))))
     ·refine E.cF rfl hc (E.exit (X.seqX (X.seqX ?_)))
      have hx := ho89 _ (Option.some.inj hm).symm
      exact X.sub (K162 _ _ ⟨s94, st89.2, a56, c56, a58, c58, hx.symm, m0, h27, h28, h29, h30, h56, h58, bx31, bx41, rfl, rfl⟩) (Sub.rf rfl)
   ·intro J191
    rcases Bool.eq_false_or_eq_true (r24.2 != 0) with hc | hc
    ·exact L.know (d := 50) rfl hc (L.skip rfl rfl rfl rfl (L.skip rfl rfl rfl rfl (L.pkT Wt.no rfl rfl rfl rfl (L.sb (J191 _ _ ⟨true, (orT hc).symm, rfl, rfl⟩) rfl))))
    ·exact L.know (d := 50) rfl hc (L.mv (Wt.mk rfl rfl) rfl rfl (L.bi (Wt.mk rfl rfl) rfl rfl rfl rfl (L.pkF Wt.no rfl rfl rfl rfl (L.sb (J191 _ _ ⟨(r36.2 != 0), (orF hc).symm, rfl, rfl⟩) rfl))))
 ·intro J192
  rcases Bool.eq_false_or_eq_true (!r5) with hc | hc
  ·exact L.know (d := 25) rfl hc (L.skip rfl rfl rfl rfl (L.skip rfl rfl rfl rfl (L.skip rfl rfl rfl rfl (L.pkT Wt.no rfl rfl rfl rfl (L.sb (J192 _ _ ⟨true, (orT hc).symm, rfl, rfl⟩) rfl)))))
  ·exact L.know (d := 25) rfl hc (L.mv (Wt.mk rfl rfl) rfl rfl (L.len sl52 (Wt.mk rfl rfl) rfl rfl (L.bi (Wt.mk rfl rfl) rfl rfl rfl rfl (L.pkF Wt.no rfl rfl rfl rfl (L.sb (J192 _ _ ⟨(decide ((p1.length : Int) > 8)), (orF hc).symm, rfl, rfl⟩) rfl)))))

end Go.Proofs.Ytkkemchihllklaa

namespace Go.Proofs.Ytkkemchihllklaa
open Go Go.RowKit

theorem getD_at {xs : List Int} {i : Nat} (h : i < xs.length) : xs.getD i 0 = xs[i] := by
  rw [List.getD_eq_getElem?_getD, List.getElem?_eq_getElem h]; rfl
/-- What the walks of chapter 3 ask of an automaton. -/
structure A3 (a : Aut) (n : Nat) : Prop where
  n1 : n ≤ 4096
  es : ∀ x ∈ a.es, 0 ≤ x.t ∧ x.t < (n : Int)
  el : a.es.length ≤ 1000000
  al : a.al.length ≤ 32
  ml : a.ms.length ≤ 1000000
section
variable {a : Aut} {n : Nat}
theorem found_row (h : A3 a n) {i : Nat} {out y : List Int} (hq : QOk n out) (hi : i < out.length) : iter (m_overseerref03_Found_l2 (autP a) ((i : Int), y)) (0, out) = some (a.al.foldl (c3In a.es (out.getD i 0)) out) := by
  have hel := h.el; have hal := h.al; have hn1 := h.n1
  refine (iter_foldl (f := m_overseerref03_Found_l2 (autP a) ((i : Int), y)) (xs := a.al) (fun k s => ((k : Int), s)) (c3In a.es (out.getD i 0)) (fun s => s) (fun _ s => QOk n s ∧ ∃ r, s = out ++ r) (by omega) (fun k hk s hp => ?_) (fun s hp => ?_) ⟨hq, [], (List.append_nil _).symm⟩).1
  · obtain ⟨hs, r, rfl⟩ := hp
    obtain ⟨h1, ⟨r1, h2⟩, -⟩ := c3In_fold h.es (s := out.getD i 0) [a.al[k]] _ hs
    rw [List.foldl_cons, List.foldl_nil] at h1 h2
    refine ⟨?_, h1, r ++ r1, by rw [h2, List.append_assoc]⟩
    have hlen := hs.len
    have hil : i < (out ++ r).length := by rw [List.length_append]; omega
    have hr := hq.rng out[i] (List.getElem_mem hi)
    have hj : ∀ l : List Int, m_overseerref03_Found_j2 ((k : Int), out ++ r) l = some (.inl (((k + 1 : Nat) : Int), l)) := fun l => by
      rw [m_overseerref03_Found_j2]; dsimp only; rw [nxt (by omega)]
    rw [m_overseerref03_Found_l2]
    dsimp only
    rw [if_pos (show decide ((k : Int) < ((autP a).1.length : Int)) = true from ct_lt hk), idx_at hil, Option.bind_some, show idx (autP a).1 (k : Int) = some a.al[k] from idx_at hk, Option.bind_some, List.getElem_append_left hi,
      show out[i] = ((out[i].toNat : Nat) : Int) by omega, rstep_eq (by omega) (fun x hx => (h.es x hx).1), Option.bind_some]
    rw [c3In, getD_at hi, stF]
    cases hst : stepF a.es out[i].toNat a.al[k] with
    | none => exact hj _
    | some t =>
      dsimp only
      rw [if_pos (by simp), rhas_eq (by omega), Option.bind_some, Option.bind_some]
      cases hb : hasB (out ++ r) (t : Int) with
      | true => rw [if_neg (by simp), if_pos rfl, hj]
      | false => rw [if_pos (by simp), if_neg (by simp), app_eq (by rw [List.length_cons, List.length_nil]; omega), Option.bind_some, hj]
  · rw [m_overseerref03_Found_l2]
    dsimp only
    rw [if_neg (show ¬ decide ((a.al.length : Int) < ((autP a).1.length : Int)) = true from ct_ge)]
theorem found_go (h : A3 a n) : ∀ (f i : Nat) (out : List Int), QOk n out → n + 1 ≤ i + f → iterF (m_overseerref03_Found_l1 (autP a)) (f + 1) ((i : Int), out) = some (c3Loop a.es a.al f i out)
  | 0, i, out, hq, hf => by
    have := hq.len
    rw [iterF_succ, m_overseerref03_Found_l1]
    dsimp only
    rw [if_neg (by simp; omega)]
    rfl
  | f + 1, i, out, hq, hf => by
    have hl := hq.len
    have hn1 := h.n1
    rw [iterF_succ, m_overseerref03_Found_l1, c3Loop]
    dsimp only
    by_cases hi : i < out.length
    · rw [if_pos (by simpa using hi), if_pos hi, found_row h hq hi, Option.bind_some, nxt (by omega)]
      exact found_go h f (i + 1) _ (c3In_fold h.es a.al out hq).1 (by omega)
    · rw [if_neg (by simpa using hi), if_neg hi]
theorem found_eq (h : A3 a n) (hn : a.n = n) (h0 : 0 < n) : m_overseerref03_Found (autP a) = some (foundL a) ∧ QOk n (foundL a) := by
  have hn1 := h.n1
  have hq0 : QOk n [0] := ⟨by simp, fun s hs => by rw [List.mem_singleton.1 hs]; omega⟩
  have hg := found_go h (n + 1) 0 [0] hq0 (by omega)
  have hfd : foundL a = c3Loop a.es a.al (n + 1) 0 [0] := by rw [foundL, if_neg (by omega), hn, Int.toNat_natCast]
  refine ⟨?_, ?_⟩
  · rw [m_overseerref03_Found, if_pos (show decide ((autP a).2.1 > 0) = true from decide_eq_true (show a.n > 0 by omega)), app_eq (by simp), Option.bind_some, m_overseerref03_Found_j1, show iter (m_overseerref03_Found_l1 (autP a)) (0, ([] : List Int) ++ [0]) = _ from iter_of (by omega) hg, hfd]
    rfl
  · rw [hfd]
    exact (c3_loop h.es (n + 1) 0 [0] hq0 (fun k hk => absurd hk (Nat.not_lt_zero _)) (by omega)).1
def c3Put (a : Aut) (q : List Int) (i : Nat) (out : List (Int × Int × Int)) (e : Int) : List (Int × Int × Int) := match stepF a.es (q.getD i 0).toNat e with
  | some t => out ++ [((i : Int), e, idxI q (t : Int))]
  | none => out
theorem c3Put_fold (q : List Int) (i : Nat) : ∀ (al : List Int) (out : List (Int × Int × Int)), al.foldl (c3Put a q i) out = out ++ (c3Row ⟨al, a.n, a.ms, a.es⟩ q i).map edP
  | [], out => by simp [c3Row]
  | e :: al, out => by
    rw [List.foldl_cons, c3Put_fold q i al, c3Put, c3Row, c3Row]
    dsimp only
    rw [List.filterMap_cons]
    generalize stepF a.es (q.getD i 0).toNat e = r
    cases r <;> simp [edP]
theorem c3Row_len (q : List Int) (i : Nat) : (c3Row a q i).length ≤ a.al.length := List.length_filterMap_le _ _
theorem rows_len (q : List Int) : ∀ m, ((List.range m).flatMap (c3Row a q)).length ≤ m * a.al.length
  | 0 => by simp
  | m + 1 => by
    have h1 := rows_len q m
    have h2 := c3Row_len (a := a) q m
    rw [List.range_succ, List.flatMap_append, List.length_append, Nat.succ_mul]
    simp only [List.flatMap_cons, List.flatMap_nil, List.append_nil]
    omega
theorem canon_row (h : A3 a n) {q : List Int} (hq : QOk n q) {i : Nat} (hi : i < q.length) {ms : List Int} {x y : List (Int × Int × Int)} (hx : x.length ≤ 4000000) : iter (m_overseerref03_Canonical_l2 (autP a) q ((i : Int), ms, y)) (0, x) = some (x ++ (c3Row a q i).map edP) := by
  have hel := h.el; have hal := h.al; have hn1 := h.n1; have hql := hq.len
  have hr := hq.rng q[i] (List.getElem_mem hi)
  refine ((iter_foldl (f := m_overseerref03_Canonical_l2 (autP a) q ((i : Int), ms, y)) (xs := a.al) (fun k s => ((k : Int), s)) (c3Put a q i) (fun s => s) (fun k s => s.length ≤ x.length + k) (by omega) (fun k hk s hp => ?_) (fun s hp => ?_) (Nat.le_refl _)).1).trans (by rw [c3Put_fold])
  · have hj : ∀ l : List (Int × Int × Int), m_overseerref03_Canonical_j2 ((k : Int), s) l = some (.inl (((k + 1 : Nat) : Int), l)) := fun l => by
      rw [m_overseerref03_Canonical_j2]; dsimp only; rw [nxt (by omega)]
    rw [m_overseerref03_Canonical_l2, c3Put, getD_at hi]
    dsimp only
    rw [if_pos (show decide ((k : Int) < ((autP a).1.length : Int)) = true from ct_lt hk), idx_at hi, Option.bind_some, show idx (autP a).1 (k : Int) = some a.al[k] from idx_at hk, Option.bind_some,
      show q[i] = ((q[i].toNat : Nat) : Int) by omega, rstep_eq (by omega) (fun x hx => (h.es x hx).1), Option.bind_some, stF, Int.toNat_natCast]
    cases hst : stepF a.es q[i].toNat a.al[k] with
    | none => exact ⟨hj _, by dsimp only; omega⟩
    | some t =>
      dsimp only
      rw [if_pos (by simp), Option.bind_some, rindex_eq (by omega), Option.bind_some, app_eq (by rw [List.length_cons, List.length_nil]; omega), Option.bind_some, hj]
      exact ⟨rfl, by rw [List.length_append, List.length_cons, List.length_nil]; omega⟩
  · rw [m_overseerref03_Canonical_l2]
    dsimp only
    rw [if_neg (show ¬ decide ((a.al.length : Int) < ((autP a).1.length : Int)) = true from ct_ge)]
/-- The canonical form. -/
theorem canon_eq (h : A3 a n) (hn : a.n = n) (h0 : 0 < n) : m_overseerref03_Canonical (autP a) = some (autP (canon3 a)) := by
  have hel := h.el; have hal := h.al; have hn1 := h.n1; have hml := h.ml
  obtain ⟨hf, hq⟩ := found_eq h hn h0
  have hql := hq.len
  generalize hqq : foundL a = q at hf hq hql
  have hi := iter_run (f := m_overseerref03_Canonical_l1 (autP a) q) (fun i => ((i : Int), (((List.range i).filter fun i => hasB a.ms (q.getD i 0)).map fun (i : Nat) => (i : Int)), ((List.range i).flatMap (c3Row a q)).map edP)) q.length (by omega) (o := (rrMs a.ms q, ((List.range q.length).flatMap (c3Row a q)).map edP)) (fun i hi => by
    have hrl := rows_len (a := a) q i
    have hmul : i * a.al.length ≤ 4096 * 32 := Nat.mul_le_mul (by omega) hal
    have hfl : ((List.range i).filter fun i => hasB a.ms (q.getD i 0)).length ≤ i := Nat.le_trans (List.length_filter_le ..) (by simp)
    have hr := hq.rng q[i] (List.getElem_mem hi)
    have hj : ∀ (m1 : List Int), m_overseerref03_Canonical_j1 (autP a) q ((i : Int), (((List.range i).filter fun i => hasB a.ms (q.getD i 0)).map fun (i : Nat) => (i : Int)), ((List.range i).flatMap (c3Row a q)).map edP) m1 = some (.inl (((i + 1 : Nat) : Int), m1, ((List.range (i + 1)).flatMap (c3Row a q)).map edP)) := fun m1 => by
      rw [m_overseerref03_Canonical_j1]
      dsimp only
      rw [canon_row h hq hi (by rw [List.length_map]; omega), Option.bind_some, nxt (by omega), List.range_succ, List.flatMap_append, List.map_append]
      simp only [List.flatMap_cons, List.flatMap_nil, List.append_nil]
    rw [m_overseerref03_Canonical_l1]
    dsimp only
    rw [if_pos (ct_lt hi), idx_at hi, Option.bind_some, show m_overseerref03_has (autP a).2.2.1 q[i] = some (hasB a.ms q[i]) from rhas_eq (xs := a.ms) (by omega), Option.bind_some]
    cases hb : hasB a.ms q[i] with
    | true =>
      rw [if_pos rfl, app_eq (by rw [List.length_map, List.length_cons, List.length_nil]; omega), Option.bind_some, hj, List.range_succ, List.filter_append, List.filter_cons_of_pos (by rw [getD_at hi, hb]), List.map_append]
      rfl
    | false =>
      rw [if_neg (by simp), hj, List.range_succ, List.filter_append, List.filter_cons_of_neg (by rw [getD_at hi, hb]; simp), List.filter_nil, List.append_nil]) (by
    rw [m_overseerref03_Canonical_l1]
    dsimp only
    rw [if_neg ct_ge]
    rfl)
  rw [m_overseerref03_Canonical, hf, Option.bind_some, show m_overseerref03_Empty (autP a).1 = some (a.al, 0, [], []) from rempty_eq (xs := a.al) (by omega), Option.bind_some, show iter (m_overseerref03_Canonical_l1 (autP a) q) (0, (a.al, (0 : Int), ([] : List Int), ([] : List (Int × Int × Int))).2.2) = _ from hi, Option.bind_some]
  rw [canon3, autP, hqq]
end
/-- The 25 cells of a graph. -/
def cells25 (g : (Int × Int × Int × Int × Int) × (Int × Int × Int × Int × Int) × (Int × Int × Int × Int × Int) × (Int × Int × Int × Int × Int) × (Int × Int × Int × Int × Int)) : List Int :=
  [g.1.1, g.1.2.1, g.1.2.2.1, g.1.2.2.2.1, g.1.2.2.2.2, g.2.1.1, g.2.1.2.1, g.2.1.2.2.1, g.2.1.2.2.2.1, g.2.1.2.2.2.2, g.2.2.1.1, g.2.2.1.2.1, g.2.2.1.2.2.1, g.2.2.1.2.2.2.1, g.2.2.1.2.2.2.2, g.2.2.2.1.1, g.2.2.2.1.2.1, g.2.2.2.1.2.2.1, g.2.2.2.1.2.2.2.1, g.2.2.2.1.2.2.2.2, g.2.2.2.2.1, g.2.2.2.2.2.1, g.2.2.2.2.2.2.1, g.2.2.2.2.2.2.2.1, g.2.2.2.2.2.2.2.2]
/-- The automaton of a graph is right. -/
theorem make3_ex {ev : List Int} (ie : Inc ev) (he : ∀ x ∈ ev, 0 ≤ x ∧ x < 32) (hel : ev.length ≤ 5) {s m : Int} {g : (Int × Int × Int × Int × Int) × (Int × Int × Int × Int × Int) × (Int × Int × Int × Int × Int) × (Int × Int × Int × Int × Int) × (Int × Int × Int × Int × Int)} (hs : 0 ≤ s ∧ s < 250) (hg : ∀ y ∈ cells25 g, 0 ≤ y ∧ y < 256) :
    ∃ a : Aut, m_overseerlaw03_Make ev (s, m, g) = some (autP a) ∧ a.err = 0 ∧ 1 ≤ a.n ∧ a.n ≤ 5 ∧ Sorted a.es ∧ a.al = ev ∧ a.es.length ≤ 25 ∧ a.ms.length ≤ 5 := by
  obtain ⟨n, hn0, hn5, hn⟩ : ∃ n : Nat, 0 < n ∧ n ≤ 5 ∧ W (1 + W (s.tmod 5)) = (n : Int) := by
    refine ⟨(1 + s % 5).toNat, by omega, by omega, ?_⟩
    rw [Int.tmod_eq_emod_of_nonneg hs.1, W_of (x := s % 5) (by omega) (by omega), W_of (by omega) (by omega)]
    omega
  have hn2 : W ((n : Int) + 2) = ((n + 2 : Nat) : Int) := by rw [show (n : Int) + 2 = ((n + 2 : Nat) : Int) by omega, W_nat (by omega)]
  have key : ∃ o : List Int × List (Int × Int × Int), iter (m_overseerlaw03_Make_l1 ev (s, m, g)) (0, ([] : List Int), ([] : List (Int × Int × Int))) = some o ∧ o.1.length ≤ 5 ∧ ∃ es : List Ed, o.2 = es.map edP ∧ es.length ≤ 25 ∧ ∀ x ∈ es, 0 ≤ x.t ∧ x.t < (n : Int) := by
    refine iter_inv (f := m_overseerlaw03_Make_l1 ev (s, m, g)) (fun i t => t.1 = (i : Int) ∧ t.2.1.length ≤ i ∧ ∃ es : List Ed, t.2.2 = es.map edP ∧ es.length ≤ 5 * i ∧ ∀ x ∈ es, 0 ≤ x.t ∧ x.t < (n : Int)) _ n 0 (by omega) (fun i t hi ⟨e1, e2, es, e3, e4, e5⟩ => ?_) (fun t ⟨e1, e2, es, e3, e4, e5⟩ => ?_) (by omega) _ ⟨rfl, by simp, [], rfl, by simp, fun x hx => by cases hx⟩
    · obtain ⟨t1, t2, t3⟩ := t
      dsimp only at e1 e2 e3 e4
      subst e1; subst e3
      have hj : ∀ l : List Int, l.length ≤ i + 1 → ∃ s', m_overseerlaw03_Make_j1 ev (s, m, g) ((i : Int), t2, es.map edP) l = some (.inl s') ∧ s'.1 = ((i + 1 : Nat) : Int) ∧ s'.2.1.length ≤ i + 1 ∧ ∃ es : List Ed, s'.2.2 = es.map edP ∧ es.length ≤ 5 * (i + 1) ∧ ∀ x ∈ es, 0 ≤ x.t ∧ x.t < (n : Int) := by
        intro l hl
        obtain ⟨o, h1, h2⟩ := iter_inv (f := m_overseerlaw03_Make_l2 ev (s, m, g) ((i : Int), t2, es.map edP)) (fun k t => t.1 = (k : Int) ∧ ∃ es' : List Ed, t.2 = es'.map edP ∧ es'.length ≤ es.length + k ∧ ∀ x ∈ es', 0 ≤ x.t ∧ x.t < (n : Int)) (fun o => ∃ es' : List Ed, o = es'.map edP ∧ es'.length ≤ es.length + 5 ∧ ∀ x ∈ es', 0 ≤ x.t ∧ x.t < (n : Int)) ev.length 0 (by omega) (fun k t hk ⟨g1, es', g3, g4, g5⟩ => by
            obtain ⟨u1, u2⟩ := t
            dsimp only at g1 g3
            subst g1; subst g3
            have hj2 : ∀ l : List (Int × Int × Int), m_overseerlaw03_Make_j2 ((k : Int), es'.map edP) l = some (.inl (((k + 1 : Nat) : Int), l)) := fun l => by
              rw [m_overseerlaw03_Make_j2]; dsimp only; rw [nxt (by omega)]
            left
            have hlt : i * 5 + k * 1 < (cells25 g).length := by show _ < 25; omega
            obtain ⟨v, hcell, hv⟩ : ∃ v, (cells25 g)[i * 5 + k * 1]? = some v ∧ 0 ≤ v ∧ v < 256 := ⟨_, List.getElem?_eq_getElem hlt, hg _ (List.getElem_mem hlt)⟩
            rw [cells25] at hcell
            rw [m_overseerlaw03_Make_l2]
            dsimp only
            rw [if_pos (by simp; omega), show rng (i : Int) 5 = some () from if_pos (by simp; omega), Option.bind_some, show rng (k : Int) 5 = some () from if_pos (by simp; omega), Option.bind_some, Int.toNat_natCast, Int.toNat_natCast, hcell, Option.bind_some, hn, hn2, show nz ((n + 2 : Nat) : Int) = some () from if_neg (by omega), Option.bind_some, W_of (x := v) (by omega) (by omega), Int.tmod_eq_emod_of_nonneg hv.1]
            have hm0 := Int.emod_nonneg v (show ((n + 2 : Nat) : Int) ≠ 0 by omega)
            by_cases hlt2 : v % ((n + 2 : Nat) : Int) < (n : Int)
            · rw [if_pos (decide_eq_true hlt2), idx_at hk, Option.bind_some, app_eq (by rw [List.length_map, List.length_cons, List.length_nil]; omega), Option.bind_some, hj2]
              refine ⟨_, rfl, rfl, es' ++ [⟨(i : Int), ev[k], v % ((n + 2 : Nat) : Int)⟩], by simp [edP], by simp; omega, fun x hx => ?_⟩
              rcases List.mem_append.1 hx with h | h
              · exact g5 x h
              · rw [List.mem_singleton.1 h]; exact ⟨hm0, hlt2⟩
            · rw [if_neg (by simpa using hlt2), hj2]
              exact ⟨_, rfl, rfl, es', rfl, by omega, g5⟩) (fun t ⟨g1, es', g3, g4, g5⟩ => by
            obtain ⟨u1, u2⟩ := t
            dsimp only at g1 g3
            subst g1; subst g3
            rw [m_overseerlaw03_Make_l2]
            dsimp only
            rw [if_neg (by simp)]
            exact ⟨_, rfl, es', rfl, by omega, g5⟩) (by omega) (0, es.map edP) ⟨rfl, es, rfl, by omega, e5⟩
        obtain ⟨es', g1, g2, g3⟩ := h2
        rw [m_overseerlaw03_Make_j1]
        dsimp only
        rw [h1, Option.bind_some, nxt (by omega)]
        exact ⟨_, rfl, rfl, hl, es', g1, by omega, g3⟩
      left
      rw [m_overseerlaw03_Make_l1]
      dsimp only
      rw [hn, if_pos (by simp; omega), show ng (i : Int) = some () from if_neg (by omega), Option.bind_some]
      split
      · rw [app_eq (by simp; omega), Option.bind_some]
        exact hj _ (by simp; omega)
      · exact hj _ (by omega)
    · obtain ⟨t1, t2, t3⟩ := t
      dsimp only at e1 e2 e3 e4
      subst e1; subst e3
      rw [m_overseerlaw03_Make_l1]
      dsimp only
      rw [hn, if_neg (by simp)]
      exact ⟨_, rfl, by dsimp only; omega, es, rfl, by omega, e5⟩
  obtain ⟨o, h1, h2, es, h3, h4, h5⟩ := key
  have hA : A3 ⟨ev, n, o.1, es⟩ n := ⟨by omega, h5, by show es.length ≤ _; omega, by show ev.length ≤ _; omega, by show o.1.length ≤ _; omega⟩
  have hal : setErr 32 none ev = 0 := setErr_ok ie he (fun q hq => by cases hq)
  obtain ⟨r1, r2, r3, r4, r5⟩ := canon3_right (a := ⟨ev, n, o.1, es⟩) (n := n) rfl hn0 h5 ie hal (by omega)
  refine ⟨canon3 ⟨ev, n, o.1, es⟩, ?_, r1, r2, by omega, r4, r5, ?_, ?_⟩
  · rw [m_overseerlaw03_Make]
    dsimp only
    rw [if_neg (by simp; omega), rempty_eq (by omega), Option.bind_some]
    dsimp only
    rw [h1, Option.bind_some, hn]
    obtain ⟨o1, o2⟩ := o
    dsimp only at h3
    subst h3
    rw [show m_overseerref03_Canonical (ev, (n : Int), o1, es.map edP) = _ from canon_eq (a := ⟨ev, n, o1, es⟩) hA rfl hn0]
    rfl
  · have h6 := rows_len (a := ⟨ev, n, o.1, es⟩) (foundL ⟨ev, n, o.1, es⟩) (foundL ⟨ev, n, o.1, es⟩).length
    have h7 : ((foundL ⟨ev, n, o.1, es⟩).length : Int) ≤ n := r3
    have h8 : (foundL ⟨ev, n, o.1, es⟩).length * ev.length ≤ 5 * 5 := Nat.mul_le_mul (by omega) hel
    exact Nat.le_trans h6 h8
  · have h7 : ((foundL ⟨ev, n, o.1, es⟩).length : Int) ≤ n := r3
    show (rrMs _ _).length ≤ 5
    rw [rrMs, List.length_map]
    exact Nat.le_trans (List.length_filter_le ..) (by rw [List.length_range]; omega)
end Go.Proofs.Ytkkemchihllklaa

namespace Go.Proofs.Ytkkemchihllklaa
open Go Go.RowKit

/-- The first place whose element has a property. -/
theorem indexF_eq {xs : List Int} {p : Int → Option Bool} {q : Int → Bool} (hl : xs.length < 4611686018427387904) (hp : ∀ x ∈ xs, p x = some (q x)) : m_slices_IndexFunc_int xs p = some (if xs.any q = true then ((xs.findIdx q : Nat) : Int) else -1) := by
  have h := iter_scan (f := m_slices_IndexFunc_int_l1 xs p) (xs := xs) (fun i (_ : Unit) => (i : Int)) (fun i _ y => if q y then .inr (.inr (i : Int)) else .inl ()) (fun _ => .inl ()) (fun _ _ => True) (by omega) (fun i h _ _ => by
      rw [m_slices_IndexFunc_int_l1, if_pos (ct_lt h), idx_at h, Option.bind_some, hp _ (List.getElem_mem h), Option.bind_some, nxt (by omega)]
      refine ⟨fun s' e => ?_, fun o e => ?_⟩
      · split at e
        · cases e
        · rename_i h1; rw [if_neg h1]; exact ⟨rfl, trivial⟩
      · split at e
        · rename_i h1; rw [if_pos h1]; cases e; rfl
        · cases e) (fun _ _ => by rw [m_slices_IndexFunc_int_l1, if_neg ct_ge]) (s := ()) trivial
  have key : ∀ (ys : List Int) (i : Nat), scanL (O := Unit ⊕ Int) (fun i (_ : Unit) y => if q y then .inr (.inr (i : Int)) else .inl ()) (fun _ => .inl ()) i ys () = if ys.any q = true then .inr ((i + ys.findIdx q : Nat) : Int) else .inl () := by
    intro ys
    induction ys with
    | nil => intro i; rfl
    | cons y ys ih =>
      intro i
      rw [scanL, List.any_cons, List.findIdx_cons]
      cases hy : q y with
      | true => rfl
      | false =>
        rw [if_neg (by simp)]
        dsimp only
        rw [ih, Bool.false_or, cond_false]
        split
        · congr 2; omega
        · rfl
  rw [m_slices_IndexFunc_int, show iter (m_slices_IndexFunc_int_l1 xs p) 0 = _ from h, Option.bind_some, key]
  by_cases hm : xs.any q = true
  · rw [if_pos hm, if_pos hm]; simp
  · rw [if_neg hm, if_neg hm]
theorem set_app {xs ys : List Int} {v : Int} {n : Nat} (h : xs.length = n) (hy : 0 < ys.length) : (xs ++ ys).set n v = xs ++ [v] ++ ys.drop 1 := by
  subst h
  rw [List.set_append_right _ _ (Nat.le_refl _), Nat.sub_self]
  cases ys with
  | nil => cases hy
  | cons y ys => simp
/-- What is left of a list. -/
theorem deleteF_eq {xs : List Int} {p : Int → Option Bool} {q : Int → Bool} (hl : xs.length < 4611686018427387904) (hp : ∀ x ∈ xs, p x = some (q x)) : ∃ ys, m_slices_DeleteFunc_int xs p = some (xs.filter (fun x => !q x), ys) ∧ ys.length = xs.length := by
  rw [m_slices_DeleteFunc_int, indexF_eq hl hp, Option.bind_some]
  by_cases hm : xs.any q = true
  · rw [if_pos hm]
    have hlt : xs.findIdx q < xs.length := List.findIdx_lt_length_of_exists (by simpa [List.any_eq_true] using hm)
    have hpre : (xs.take (xs.findIdx q)).filter (fun x => !q x) = xs.take (xs.findIdx q) := by
      refine List.filter_eq_self.2 fun x hx => ?_
      obtain ⟨k, hk, rfl⟩ := List.mem_iff_getElem.1 hx
      rw [List.length_take] at hk
      rw [List.getElem_take]
      have := List.not_of_lt_findIdx (p := q) (xs := xs) (i := k) (by omega)
      simpa using this
    generalize hj0 : xs.findIdx q = j0 at hlt hpre
    have hq0 : q xs[j0] = true := by
      have := List.findIdx_getElem (xs := xs) (p := q) (w := by rw [hj0]; exact hlt)
      simpa [hj0] using this
    rw [if_neg (by simp), show W ((j0 : Int) + 1) = ((j0 + 1 : Nat) : Int) from nxt (by omega)]
    have hi := iter_inv (f := m_slices_DeleteFunc_int_l1 p) (fun j t => j0 + 1 + j ≤ xs.length ∧ t.1 = ((j0 + 1 + j : Nat) : Int) ∧ ∃ r : List Int, t.2.1 = ((((xs.take (j0 + 1 + j)).filter fun x => !q x).length : Nat) : Int) ∧ t.2.2 = (xs.take (j0 + 1 + j)).filter (fun x => !q x) ++ r ++ xs.drop (j0 + 1 + j) ∧ ((xs.take (j0 + 1 + j)).filter fun x => !q x).length + r.length = j0 + 1 + j ∧ 0 < r.length)
        (fun o => ∃ r : List Int, o.1 = (((xs.filter fun x => !q x).length : Nat) : Int) ∧ o.2 = xs.filter (fun x => !q x) ++ r ∧ (xs.filter fun x => !q x).length + r.length = xs.length)
        (xs.length - (j0 + 1)) 0 (by omega) (fun j t hj ⟨e0, e1, r, e2, e3, e4, e5⟩ => by
          obtain ⟨t1, t2, t3⟩ := t
          dsimp only at e1 e2 e3
          subst e1; subst e2; subst e3
          left
          have hlt2 : j0 + 1 + j < xs.length := by omega
          generalize hF : (xs.take (j0 + 1 + j)).filter (fun x => !q x) = F at e4
          have hlen : (F ++ r ++ xs.drop (j0 + 1 + j)).length = xs.length := by rw [List.length_append, List.length_append, List.length_drop]; omega
          have hat : (F ++ r ++ xs.drop (j0 + 1 + j))[j0 + 1 + j]'(by omega) = xs[j0 + 1 + j] := by
            rw [List.getElem_append_right (by rw [List.length_append]; omega), List.getElem_drop]
            congr 1; rw [List.length_append, e4, Nat.sub_self]; rfl
          have htk : (xs.take (j0 + 1 + (j + 1))).filter (fun x => !q x) = F ++ (if q xs[j0 + 1 + j] then [] else [xs[j0 + 1 + j]]) := by
            rw [show j0 + 1 + (j + 1) = j0 + 1 + j + 1 by omega, List.take_succ_eq_append_getElem hlt2, List.filter_append, hF]
            cases h : q xs[j0 + 1 + j] <;> simp [h]
          have hdr : xs.drop (j0 + 1 + j) = xs[j0 + 1 + j] :: xs.drop (j0 + 1 + (j + 1)) := by rw [List.drop_eq_getElem_cons hlt2]; rfl
          rw [m_slices_DeleteFunc_int_l1]
          dsimp only
          rw [if_pos (by rw [hlen]; exact ct_lt hlt2), idx_at (by omega), Option.bind_some, hat, hp _ (List.getElem_mem hlt2), Option.bind_some]
          cases hc : q xs[j0 + 1 + j] with
          | true =>
            rw [if_neg (by simp), m_slices_DeleteFunc_int_j1]
            dsimp only
            rw [nxt (by omega)]
            rw [hc, if_pos rfl, List.append_nil] at htk
            refine ⟨_, rfl, by omega, rfl, r ++ [xs[j0 + 1 + j]], ?_, ?_, ?_, ?_⟩
            · rw [htk]
            · rw [htk, hdr]; simp
            · rw [htk, List.length_append, List.length_cons, List.length_nil]; omega
            · rw [List.length_append]; omega
          | false =>
            rw [if_pos (by simp), idx_at (show F.length < _ by omega), Option.bind_some, upd, if_pos ⟨by omega, by omega⟩, Option.bind_some, m_slices_DeleteFunc_int_j1]
            dsimp only
            rw [nxt (by omega), nxt (by omega), Int.toNat_natCast]
            rw [hc, if_neg (by simp)] at htk
            refine ⟨_, rfl, by omega, rfl, r.drop 1 ++ [xs[j0 + 1 + j]], ?_, ?_, ?_, ?_⟩
            · rw [htk, List.length_append]; rfl
            · rw [htk]
              dsimp only
              rw [List.append_assoc F r, set_app rfl (by rw [List.length_append]; omega), hdr, List.drop_append_of_le_length (by omega)]
              simp
            · rw [htk, List.length_append, List.length_append, List.length_drop, List.length_cons, List.length_nil]; omega
            · rw [List.length_append, List.length_cons]; omega) (fun t ⟨e0, e1, r, e2, e3, e4, e5⟩ => by
          obtain ⟨t1, t2, t3⟩ := t
          dsimp only at e1 e2 e3
          subst e1; subst e2; subst e3
          have he : j0 + 1 + (xs.length - (j0 + 1)) = xs.length := by omega
          rw [he] at e4 ⊢
          rw [List.take_length] at e4 ⊢
          rw [List.drop_length, List.append_nil, m_slices_DeleteFunc_int_l1]
          dsimp only
          rw [if_neg (by rw [List.length_append, e4]; exact ct_ge)]
          exact ⟨_, rfl, r, rfl, rfl, e4⟩) (by omega) (((j0 + 1 : Nat) : Int), (j0 : Int), xs) ⟨by omega, rfl, [xs[j0]], by
            rw [show j0 + 1 + 0 = j0 + 1 by omega, List.take_succ_eq_append_getElem hlt, List.filter_append, hpre, List.filter_cons_of_neg (by simpa using hq0), List.filter_nil, List.append_nil, List.length_take]
            dsimp only; omega, by
            rw [show j0 + 1 + 0 = j0 + 1 by omega, List.take_succ_eq_append_getElem hlt, List.filter_append, hpre, List.filter_cons_of_neg (by simpa using hq0), List.filter_nil, List.append_nil, ← List.take_succ_eq_append_getElem hlt, List.take_append_drop], by
            rw [show j0 + 1 + 0 = j0 + 1 by omega, List.take_succ_eq_append_getElem hlt, List.filter_append, hpre, List.filter_cons_of_neg (by simpa using hq0), List.filter_nil, List.append_nil, List.length_take, List.length_cons, List.length_nil]
            omega, by simp⟩
    obtain ⟨o, h1, r, h2, h3, h4⟩ := hi
    obtain ⟨o1, o2⟩ := o
    dsimp only at h2 h3
    subst h2; subst h3
    generalize xs.filter (fun x => !q x) = F at h1 h4
    rw [h1, Option.bind_some]
    dsimp only
    rw [slc, if_pos ⟨by omega, by rw [List.length_append]; omega, by omega⟩, Option.bind_some, clrG, if_pos (by rw [List.length_append]; omega), Option.bind_some, Int.toNat_natCast, List.take_left' rfl, slc, if_pos ⟨by omega, by omega, by rw [List.length_append]; omega⟩, Option.bind_some]
    refine ⟨F ++ List.replicate ((F ++ r).length - F.length) 0, ?_, ?_⟩
    · rw [Int.toNat_natCast, List.take_left' rfl]; rfl
    · rw [List.length_append, List.length_replicate, List.length_append]; omega
  · rw [if_neg hm, if_pos (by simp)]
    have hn : xs.filter (fun x => !q x) = xs := by
      refine List.filter_eq_self.2 fun x hx => ?_
      have h2 : xs.any q = false := by simpa using hm
      have := List.any_eq_false.1 h2 x hx
      simpa using this
    rw [hn]
    exact ⟨_, rfl, rfl⟩
/-- A bit of a byte. -/
def bitB (b : Int) (i : Nat) : Bool := (IntKind.u8.wrap (((BitVec.ofInt 8 (b.fdiv (2 ^ (min ((i : Int).tmod 8).toNat 8))) &&& BitVec.ofInt 8 1).toNat : Int))) == 1
/-- The events whose bits are set. -/
theorem set_ex {a : Aut} (hal : a.al.length ≤ 32) (b : Int) : ∃ q : Nat → Bool, m_overseerlaw53_set (autP a) b = some ((((List.range a.al.length).filter q).map fun i => a.al.getD i 0)) := by
  refine ⟨bitB b, ?_⟩
  have h := iter_run (f := m_overseerlaw53_set_l1 (autP a) b) (fun k => ((k : Int), (((List.range k).filter (bitB b)).map fun i => a.al.getD i 0))) a.al.length (by omega) (fun k hk => by
    have hlen : ((List.range k).filter (bitB b)).length ≤ k := Nat.le_trans (List.length_filter_le ..) (by simp)
    have h8 : 0 ≤ (k : Int).tmod 8 := by rw [Int.tmod_eq_emod_of_nonneg (by omega)]; omega
    rw [m_overseerlaw53_set_l1]
    dsimp only
    rw [if_pos (show decide ((k : Int) < ((autP a).1.length : Int)) = true from ct_lt hk), show idx (autP a).1 (k : Int) = some a.al[k] from idx_at hk, Option.bind_some, show ng ((k : Int).tmod 8) = some () from if_neg (by omega), Option.bind_some, List.range_succ, List.filter_append]
    split
    · rename_i hc
      rw [app_eq (by rw [List.length_map, List.length_cons, List.length_nil]; omega), Option.bind_some, m_overseerlaw53_set_j1, List.filter_cons_of_pos (show bitB b k = true from hc), List.map_append]
      dsimp only
      rw [nxt (by omega), List.filter_nil, List.map_cons, List.map_nil, getD_at hk]
    · rename_i hc
      rw [m_overseerlaw53_set_j1, List.filter_cons_of_neg (show ¬ bitB b k = true from hc)]
      dsimp only
      rw [nxt (by omega), List.filter_nil, List.append_nil]) (by
    rw [m_overseerlaw53_set_l1]
    dsimp only
    rw [if_neg (show ¬ decide ((a.al.length : Int) < ((autP a).1.length : Int)) = true from ct_ge)])
  rw [m_overseerlaw53_set, show iter (m_overseerlaw53_set_l1 (autP a) b) (0, ([] : List Int)) = _ from h]
  rfl
/-- A part of an increasing list, chosen by places. -/
theorem sel_inc {al : List Int} (ia : Inc al) (q : Nat → Bool) : Inc (((List.range al.length).filter q).map fun i => al.getD i 0) := by
  unfold Inc at ia ⊢
  rw [List.pairwise_map]
  have h1 : ((List.range al.length).filter q).Pairwise (· < ·) := List.Pairwise.filter _ List.pairwise_lt_range
  refine List.Pairwise.imp_of_mem (fun {i j} hi hj hlt => ?_) h1
  have h2 := List.mem_range.1 (List.mem_filter.1 hi).1
  have h3 := List.mem_range.1 (List.mem_filter.1 hj).1
  rw [getD_at h2, getD_at h3]
  exact List.pairwise_iff_getElem.1 ia i j h2 h3 hlt
theorem sel_sub {al : List Int} (q : Nat → Bool) : ∀ x ∈ ((List.range al.length).filter q).map fun i => al.getD i 0, x ∈ al := by
  intro x hx
  obtain ⟨i, hi, rfl⟩ := List.mem_map.1 hx
  have h2 := List.mem_range.1 (List.mem_filter.1 hi).1
  rw [getD_at h2]
  exact List.getElem_mem h2
theorem inc_nodup {xs : List Int} (h : Inc xs) : xs.Nodup := by
  unfold Inc at h
  exact List.Pairwise.imp (fun {a b} hab e => by omega) h
theorem sub_len {xs ys : List Int} (h : Inc xs) (hs : ∀ x ∈ xs, x ∈ ys) : xs.length ≤ ys.length := (inc_nodup h).length_le_of_subset hs
theorem subB_of {xs ys : List Int} (h : ∀ x ∈ xs, x ∈ ys) : subB xs ys = true := List.all_eq_true.2 fun x hx => hasB_true.2 (h x hx)
/-- A sketch's cells are bytes. -/
abbrev Sketch : Type := Int × (Int × Int × ((Int × Int × Int × Int × Int) × (Int × Int × Int × Int × Int) × (Int × Int × Int × Int × Int) × (Int × Int × Int × Int × Int) × (Int × Int × Int × Int × Int))) × Int
structure SkOk (x : Sketch) : Prop where
  s : 0 ≤ x.2.1.1 ∧ x.2.1.1 < 256
  g : ∀ y ∈ cells25 x.2.1.2.2, 0 ≤ y ∧ y < 256
/-- What a sketch is. -/
structure SkIn (a : Aut) (l : List Int) (n : Nat) : Prop where
  gen : GenIn a l n
  ia : Inc a.al
  ic : Inc l
  al : ∀ x ∈ a.al, 0 ≤ x ∧ x < 5
  sub : ∀ x ∈ l, x ∈ a.al
  err : a.err = 0
  so : Sorted a.es
  ms : a.ms.length ≤ 5
  n5 : n ≤ 5
theorem err_ed {a : Aut} (h : a.err = 0) : ∀ x ∈ a.es, 0 ≤ x.f ∧ x.f < a.n ∧ 0 ≤ x.t ∧ x.t < a.n ∧ x.e ∈ a.al := by
  have he : edErr a.al a.n none a.es = 0 := by
    unfold Aut.err at h
    split at h
    · rename_i h1; rw [h] at h1; exact absurd h1 (by decide)
    · split at h
      · cases h
      · split at h
        · cases h
        · split at h
          · rename_i h1; rw [h] at h1; exact absurd h1 (by decide)
          · exact h
  have key : ∀ (es : List Ed) (p : Option Ed), edErr a.al a.n p es = 0 → ∀ x ∈ es, 0 ≤ x.f ∧ x.f < a.n ∧ 0 ≤ x.t ∧ x.t < a.n ∧ x.e ∈ a.al := by
    intro es
    induction es with
    | nil => intro p _ x hx; cases hx
    | cons y es ih =>
      intro p h x hx
      rw [edErr] at h
      split at h
      · cases h
      · rename_i h1
        split at h
        · cases h
        · rename_i h2
          split at h
          · cases h
          · rcases List.mem_cons.1 hx with rfl | hx
            · have h3 : hasB a.al x.e = true := by simpa using h2
              have h4 := hasB_true.1 h3
              exact ⟨by omega, by omega, by omega, by omega, h4⟩
            · exact ih _ h x hx
  exact key a.es none he
theorem make53_ex {x : Sketch} (h : SkOk x) : ∃ (a : Aut) (l : List Int) (n : Nat), m_overseerlaw53_Make x = some (autP a, l) ∧ SkIn a l n := by
  obtain ⟨ev, h1, h2, h3, h4⟩ := events_ex x.1
  have hs : 0 ≤ x.2.1.1.tmod 5 ∧ x.2.1.1.tmod 5 < 250 := by
    rw [Int.tmod_eq_emod_of_nonneg h.s.1]; omega
  obtain ⟨a, g1, g2, g3, g4, g5, g6, g7, g8⟩ := make3_ex h2 (fun y hy => by have := h3 y hy; omega) h4 (s := x.2.1.1.tmod 5) (m := x.2.1.2.1) (g := x.2.1.2.2) hs h.g
  obtain ⟨ev2, k1, k2, k3, k4⟩ := events_ex x.2.2
  obtain ⟨ys, d1, d2⟩ := deleteF_eq (xs := ev2) (p := m_overseerlaw53_Make_1 (autP a)) (q := fun y => !hasB a.al y) (by omega) (fun y hy => by
    rw [m_overseerlaw53_Make_1, show m_slices_Contains_int (autP a).1 y = some (hasB a.al y) from contains_eq (xs := a.al) (by rw [g6]; omega)]; rfl)
  refine ⟨a, ev2.filter (fun y => !!hasB a.al y), a.n.toNat, ?_, ⟨⟨by omega, by omega, by omega, by omega, by rw [g6]; omega, ?_, ?_⟩, by rw [g6]; exact h2, ?_, by rw [g6]; exact h3, ?_, g2, g5, g8, by omega⟩⟩
  · rw [m_overseerlaw53_Make, h1, Option.bind_some, show m_overseerlaw03_Make ev ((x.2.1.1.tmod 5), x.2.1.2) = _ from g1, Option.bind_some, k1, Option.bind_some, d1, Option.bind_some, lenEq, if_pos d2]
    rfl
  · exact Nat.le_trans (List.length_filter_le ..) (by omega)
  · intro y hy
    have := err_ed g2 y hy
    omega
  · exact List.Pairwise.filter _ k2
  · intro y hy
    have := (List.mem_filter.1 hy).2
    rw [Bool.not_not] at this
    exact hasB_true.1 this
section
variable {a : Aut} {l : List Int} {n : Nat}
theorem SkIn.set32 (h : SkIn a l n) {xs : List Int} (ix : Inc xs) (hx : ∀ x ∈ xs, x ∈ a.al) : setErr 32 none xs = 0 := setErr_ok ix (fun x hm => by have := h.al x (hx x hm); omega) (fun q hq => by cases hq)
theorem SkIn.code (h : SkIn a l n) : m_generate_Generate (autP a) l = some (codeP a l n, 0) :=
  generate_eq h.gen (by have := h.ms; omega) h.err (h.set32 h.ic h.sub) (by rw [subset_eq (by have := h.gen.ct; omega) (by have := h.gen.al; omega) h.ic h.ia, subB_of h.sub])
theorem SkIn.start (h : SkIn a l n) : m_instruction_Start (codeP a l n).1 = some ((List.replicate (l.length + 1) false, true :: List.replicate n false), 0) := gstart_eq h.gen h.ia h.ic
/-- A scan follows the supervisor. -/
theorem SkIn.scan (h : SkIn a l n) {ev : List Int} (ie : Inc ev) (hs : ∀ x ∈ ev, x ∈ a.al) {st : List Bool × List Bool} {s : Nat} {al : Bool} (hv : Shows a l n s al st) :
    ∃ st', m_generate_Scan (codeP a l n) st ev = some (st', 0) ∧ Shows a l n (ev.foldl (folStep a.es) (s, al)).1 (ev.foldl (folStep a.es) (s, al)).2 st' ∧
      ∀ k, k < l.length → st'.1.getD k false = (stepF a.es (ev.foldl (folStep a.es) (s, al)).1 (l.getD k 0)).isSome :=
  view_scan h.gen h.ia h.ic ie (by have := sub_len ie hs; have := h.gen.al; omega) (h.set32 ie hs) (subB_of hs) hv
/-- The state that the bits show. -/
theorem Shows.state (h : SkIn a l n) {st : List Bool × List Bool} {s : Nat} {al : Bool} (hv : Shows a l n s al st) : m_generate_State (codeP a l n) st = some ((s : Int), 0) := gstate_eq (out := st.1) (mem := st.2) h.gen hv.ho hv.hm hv.hs hv.hq
theorem Shows.enab (h : SkIn a l n) {st : List Bool × List Bool} {s : Nat} {al : Bool} (hv : Shows a l n s al st) (hc : ∀ k, k < l.length → st.1.getD k false = (stepF a.es s (l.getD k 0)).isSome) : m_generate_Enabled (codeP a l n) st = some (l.filter (fun e => (stepF a.es s e).isSome), 0) :=
  enabled_eq (out := st.1) (mem := st.2) h.gen hv.ho hv.hm (q := fun e => (stepF a.es s e).isSome) hc
theorem Shows.alarm (h : SkIn a l n) {st : List Bool × List Bool} {s : Nat} {al : Bool} (hv : Shows a l n s al st) : m_generate_Alarmed (codeP a l n) st = some (al, 0) := by
  rw [alarmed_eq (out := st.1) (mem := st.2) h.gen hv.ho hv.hm, hv.ha]
end
end Go.Proofs.Ytkkemchihllklaa

namespace Go.Proofs.Ytkkemchihllklaa
open Go Go.RowKit Go.ChangeShapes Go.WideShapes Go.ChangeAt Go.Deep

theorem op_u8 : Op Try.prog (rK .u8) (fun n => 0 ≤ n ∧ n < 256) 5 := by
  intro H enc w fuel cs x h
  obtain ⟨y, h1, h2⟩ := (Op.int (P := Try.prog) (k := .u8) Try.underlying5) H enc w fuel cs x h
  refine ⟨y, h1, ?_⟩
  simp [IntKind.min, IntKind.max, IntKind.signed, IntKind.bits] at h2
  omega
section
variable {H : Type} {enc : TypeId × Value → H} {w : World} {base : Nat} {v : Value} {d : DataW H} {ps : List MemPlace}
set_option maxRecDepth 100000 in
/-- A list of bytes. -/
theorem arg_bytes (hok : Value.okWide Try.prog w .any base 52 v) (h : DataW.Trod enc Try.prog w 0 (fun _ => true) true 52 v d ps) : ∃ a c xs, v = .slice a xs.length c ∧ RdL (rK .u8) ⟨w, fun _ => 0⟩ a c xs ∧ ∀ y ∈ xs, 0 ≤ y ∧ y < 256 := by
  obtain ⟨fuel, hf⟩ := h
  simp only [Value.okWide, Try.underlying52] at hok
  have hv : v.cells.toList = [v] := by
    simp only [Cell.okWide, Try.underlying52] at hok
    cases v <;> simp_all [Cell.ok, Value.cells]
  rw [hv] at hf
  exact op_slice Try.underlying52 (by kernel_rfl) op_u8 hok hf
/-- The types of a sketch's cells. -/
def skT : List TypeId := [45] ++ List.replicate 27 5 ++ [45]
theorem sk_types : Try.prog.cellTypes Try.prog.depth 51 = some skT := by kernel_rfl
theorem sk_cells : Try.prog.cellsOf 51 = skT.length := by kernel_rfl
set_option maxRecDepth 100000 in
/-- A sketch. -/
theorem arg_sketch (hok : Value.okWide Try.prog w .any base 51 v) : ∃ p0 : Sketch, SkOk p0 ∧ v = .agg #[.int .u8 p0.1, .int .u8 p0.2.1.1, .int .u8 p0.2.1.2.1, .int .u8 p0.2.1.2.2.1.1, .int .u8 p0.2.1.2.2.1.2.1, .int .u8 p0.2.1.2.2.1.2.2.1, .int .u8 p0.2.1.2.2.1.2.2.2.1, .int .u8 p0.2.1.2.2.1.2.2.2.2, .int .u8 p0.2.1.2.2.2.1.1, .int .u8 p0.2.1.2.2.2.1.2.1, .int .u8 p0.2.1.2.2.2.1.2.2.1, .int .u8 p0.2.1.2.2.2.1.2.2.2.1, .int .u8 p0.2.1.2.2.2.1.2.2.2.2, .int .u8 p0.2.1.2.2.2.2.1.1, .int .u8 p0.2.1.2.2.2.2.1.2.1, .int .u8 p0.2.1.2.2.2.2.1.2.2.1, .int .u8 p0.2.1.2.2.2.2.1.2.2.2.1, .int .u8 p0.2.1.2.2.2.2.1.2.2.2.2, .int .u8 p0.2.1.2.2.2.2.2.1.1, .int .u8 p0.2.1.2.2.2.2.2.1.2.1, .int .u8 p0.2.1.2.2.2.2.2.1.2.2.1, .int .u8 p0.2.1.2.2.2.2.2.1.2.2.2.1, .int .u8 p0.2.1.2.2.2.2.2.1.2.2.2.2, .int .u8 p0.2.1.2.2.2.2.2.2.1, .int .u8 p0.2.1.2.2.2.2.2.2.2.1, .int .u8 p0.2.1.2.2.2.2.2.2.2.2.1, .int .u8 p0.2.1.2.2.2.2.2.2.2.2.2.1, .int .u8 p0.2.1.2.2.2.2.2.2.2.2.2.2, .int .u8 p0.2.2] := by
  obtain ⟨cs, rfl, h1, h2⟩ := op_agg Try.underlying51 sk_types sk_cells hok
  have h1' : cs.size = 29 := h1
  obtain ⟨f, hf⟩ := choose_lt (α := Int) (n := 29) (p := fun i n => cs[i]? = some (.int .u8 n) ∧ 0 ≤ n ∧ n < 256) (fun i hi => by
    obtain ⟨u, hu, hu2⟩ : ∃ u, skT[i]? = some u ∧ (u = 45 ∨ u = 5) := by
      refine ⟨skT[i]'hi, List.getElem?_eq_getElem (l := skT) hi, ?_⟩
      have := List.getElem_mem (l := skT) hi
      generalize skT[i]'hi = u at this
      simp only [skT, List.mem_append, List.mem_singleton, List.mem_replicate] at this
      rcases this with (h | h) | h
      · exact .inl h
      · exact .inr h.2
      · exact .inl h
    obtain ⟨c, g1, g2⟩ := h2 i u hu
    have g2' : Cell.okWide Try.prog w .any base 5 c := by
      rcases hu2 with rfl | rfl
      · simp only [Cell.okWide, Cell.ok, Try.underlying45, Try.underlying5] at g2 ⊢
        exact g2
      · exact g2
    obtain ⟨n, rfl, g3⟩ := cell_u8 g2'
    exact ⟨n, g1, g3⟩)
  have hcs : cs = ((List.range 29).map fun i => Value.int .u8 (f i)).toArray := by
    apply Array.ext_getElem?
    intro i
    by_cases hi : i < 29
    · rw [(hf i hi).1]; simp [hi]
    · rw [Array.getElem?_eq_none (by omega), Array.getElem?_eq_none (by simp; omega)]
  refine ⟨(f 0, (f 1, f 2, ((f 3, f 4, f 5, f 6, f 7), (f 8, f 9, f 10, f 11, f 12), (f 13, f 14, f 15, f 16, f 17), (f 18, f 19, f 20, f 21, f 22), (f 23, f 24, f 25, f 26, f 27))), f 28), ⟨(hf 1 (by omega)).2, fun y hy => ?_⟩, by rw [hcs]; rfl⟩
  have hy2 : y ∈ (List.range 25).map fun i => f (i + 3) := hy
  obtain ⟨i, hi, rfl⟩ := List.mem_map.1 hy2
  have := List.mem_range.1 hi
  exact (hf (i + 3) (by omega)).2
end
end Go.Proofs.Ytkkemchihllklaa

namespace Go.Proofs.Ytkkemchihllklaa
open Go Go.RowKit

/-- A state of the program with its outputs behind a scan. -/
structure Shown (a : Aut) (l : List Int) (n : Nat) (s : Nat) (al : Bool) (st : List Bool × List Bool) : Prop where
  v : Shows a l n s al st
  c : ∀ k, k < l.length → st.1.getD k false = (stepF a.es s (l.getD k 0)).isSome
theorem sel_set {a : Aut} {l : List Int} {n : Nat} (h : SkIn a l n) (b : Int) : ∃ ev, m_overseerlaw53_set (autP a) b = some ev ∧ Inc ev ∧ ∀ x ∈ ev, x ∈ a.al := by
  obtain ⟨q, hq⟩ := set_ex h.gen.al b
  exact ⟨_, hq, sel_inc h.ia q, sel_sub q⟩
theorem SkIn.scan2 {a : Aut} {l : List Int} {n : Nat} (h : SkIn a l n) {ev : List Int} (ie : Inc ev) (hs : ∀ x ∈ ev, x ∈ a.al) {st : List Bool × List Bool} {s : Nat} {al : Bool} (hv : Shows a l n s al st) :
    ∃ st', m_generate_Scan (codeP a l n) st ev = some (st', 0) ∧ Shown a l n (ev.foldl (folStep a.es) (s, al)).1 (ev.foldl (folStep a.es) (s, al)).2 st' := by
  obtain ⟨st', h1, h2, h3⟩ := h.scan ie hs hv
  exact ⟨st', h1, h2, h3⟩
theorem wrap8 {i : Nat} (h : i < 255) : IntKind.u8.wrap ((i : Int) + 1) = ((i + 1 : Nat) : Int) := by
  rw [IntWalk.u8_in _ (by omega)]; omega
theorem rests_eq {x : Sketch} (hx : SkOk x) {bs : List Int} {m : Int} (hm : 0 ≤ m ∧ m < 256) : m_overseerlaw53_GenerateRests x bs m = some true := by
  rw [m_overseerlaw53_GenerateRests, known53, Option.bind_some, Option.bind_some]
  by_cases hl : bs.length > 8
  · rw [if_pos (by simp; omega)]
  · obtain ⟨a, l, n, h1, h⟩ := make53_ex hx
    have hc := h.code
    have hct := h.gen.ct
    rw [if_neg (by simp; omega), h1, Option.bind_some]
    dsimp only
    rw [hc, Option.bind_some]
    dsimp only
    rw [h.start, Option.bind_some]
    dsimp only
    rw [if_neg (by simp), app_eq (by simp; omega), Option.bind_some]
    have hlen : (([0] : List Int) ++ bs).length = bs.length + 1 := by simp
    generalize hB : (([0] : List Int) ++ bs) = B at hlen
    obtain ⟨o, i1, u, rfl, s, al, hu⟩ := iter_inv (f := m_overseerlaw53_GenerateRests_l1 (autP a, l) (codeP a l n, 0) B) (fun i t => t.1 = (i : Int) ∧ ∃ s al, Shows a l n s al t.2 ∧ (0 < i → Shown a l n s al t.2)) (fun o => ∃ u, o = .inl u ∧ ∃ s al, Shown a l n s al u) (bs.length + 1) 0 (by omega) (fun i t hi ⟨e1, s, al, e2, e3⟩ => by
        obtain ⟨t1, t2⟩ := t
        dsimp only at e1 e2 e3
        subst e1
        obtain ⟨ev, g1, g2, g3⟩ := sel_set h (B[i]'(by omega))
        obtain ⟨st', g4, g5⟩ := h.scan2 g2 g3 e2
        left
        rw [m_overseerlaw53_GenerateRests_l1]
        dsimp only
        rw [if_pos (by rw [hlen]; exact ct_lt hi), idx_at (by omega), Option.bind_some, g1, Option.bind_some, g4, Option.bind_some]
        dsimp only
        rw [if_neg (by simp), nxt (by omega)]
        exact ⟨_, rfl, rfl, _, _, g5.v, fun _ => g5⟩) (fun t ⟨e1, s, al, e2, e3⟩ => by
        obtain ⟨t1, t2⟩ := t
        dsimp only at e1 e2 e3
        subst e1
        rw [m_overseerlaw53_GenerateRests_l1]
        dsimp only
        rw [if_neg (by rw [hlen]; exact ct_ge)]
        exact ⟨_, rfl, _, rfl, s, al, e3 (by omega)⟩) (by omega) (0, List.replicate (l.length + 1) false, true :: List.replicate n false) ⟨rfl, 0, false, Shows.start h.gen.n0, fun hh => absurd hh (Nat.lt_irrefl 0)⟩
    obtain ⟨k, hk4, hk⟩ : ∃ k : Nat, k < 4 ∧ m.tmod 4 = (k : Int) := ⟨(m % 4).toNat, by omega, by rw [Int.tmod_eq_emod_of_nonneg hm.1]; omega⟩
    obtain ⟨o2, j1, u2, rfl, hu2⟩ := iter_inv (f := m_overseerlaw53_GenerateRests_l2 m (codeP a l n, 0)) (fun i t => t.1 = (i : Int) ∧ Shown a l n s al t.2) (fun o => ∃ u, o = .inl u ∧ Shown a l n s al u) k 0 (by omega) (fun i t hi ⟨e1, e2⟩ => by
        obtain ⟨t1, t2⟩ := t
        dsimp only at e1 e2
        subst e1
        obtain ⟨st', g4, g5⟩ := h.scan2 (ev := []) List.Pairwise.nil (fun x hx => by cases hx) e2.v
        left
        rw [m_overseerlaw53_GenerateRests_l2]
        dsimp only
        rw [hk, if_pos (ct_lt hi), g4, Option.bind_some]
        dsimp only
        rw [if_neg (by simp), wrap8 (by omega)]
        exact ⟨_, rfl, rfl, g5⟩) (fun t ⟨e1, e2⟩ => by
        obtain ⟨t1, t2⟩ := t
        dsimp only at e1 e2
        subst e1
        rw [m_overseerlaw53_GenerateRests_l2]
        dsimp only
        rw [hk, if_neg ct_ge]
        exact ⟨_, rfl, _, rfl, e2⟩) (by omega) (0, u) ⟨rfl, hu⟩
    rw [i1, Option.bind_some]
    dsimp only
    rw [hu.v.state h, Option.bind_some, hu.v.enab h hu.c, Option.bind_some, j1, Option.bind_some]
    dsimp only
    rw [hu2.v.state h, Option.bind_some, hu2.v.enab h hu2.c, Option.bind_some]
    have hf : (l.filter (fun e => (stepF a.es s e).isSome)).length ≤ 32 := Nat.le_trans (List.length_filter_le ..) hct
    dsimp only
    rw [if_pos (by simp), equal_self (by omega)]
    rfl
end Go.Proofs.Ytkkemchihllklaa

namespace Go.Proofs.Ytkkemchihllklaa
open Go Go.ChangeShapes Go.WideShapes Go.ChangeAt Go.RowKit

set_option maxRecDepth 100000 in
theorem generateRests_lifted (os : Os) (started : os.Started) (H : Type) (enc : TypeId × Value → H) :
    ReturnsInHanded {} Try.checked os 4 .any (Rows.generateRestsSpec.pre6 enc Try.prog Try.f4 Rows.generateRestsRow.domain false) (Rows.generateRestsSpec.post enc Try.prog Try.f4 false true false false) := by
  refine returnsInHanded_of_change (C := Try.checked) Try.own started (by kernel_rfl) Try.func4
    (ChangeSpec.witness6 (enc := enc) (C := Try.checked) false ⟨#[], #[.agg #[.int .u8 0, .int .u8 0, .int .u8 0, .int .u8 0, .int .u8 0, .int .u8 0, .int .u8 0, .int .u8 0, .int .u8 0, .int .u8 0, .int .u8 0, .int .u8 0, .int .u8 0, .int .u8 0, .int .u8 0, .int .u8 0, .int .u8 0, .int .u8 0, .int .u8 0, .int .u8 0, .int .u8 0, .int .u8 0, .int .u8 0, .int .u8 0, .int .u8 0, .int .u8 0, .int .u8 0, .int .u8 0, .int .u8 0], .slice none 0 0, .int .u8 0], []⟩ 8 (by kernel_rfl) (by kernel_rfl) (by kernel_rfl) (by kernel_rfl)) ?_
  intro W base args ds gs before hval0 hW hcnd _
  have hval : ∀ (j : Nat) t v, Try.f4.params[j]? = some t → args[j]? = some v → Value.okWide Try.prog W .any base t v := hval0
  have hW' := hW
  obtain ⟨p, q, hA0, hV, rfl, hfz, hnd⟩ := hW
  have hA : DataW.TrodAll enc Try.prog W 0 (fun _ => true) true Try.f4.params.toList args.toList ds p := hA0
  rw [Try.params4] at hA hval
  obtain ⟨v0, v1, v2, d0, d1, d2, p0, p1, p2, rfl, rfl, rfl, h0, h1, h2⟩ := trodAll_three hA
  obtain ⟨x, hx, rfl⟩ := arg_sketch (hval 0 51 v0 rfl rfl)
  obtain ⟨a1, c1, xs1, rfl, r1, k1⟩ := arg_bytes (hval 1 52 v1 rfl rfl) h1
  obtain ⟨n2, rfl, rfl, rfl, wn2⟩ := open_int Try.underlying5 (hval 2 5 v2 rfl rfl) h2
  obtain ⟨rfl, rfl⟩ := trodVars_none hV
  clear hA0 hval0
  have hn2 : 0 ≤ n2 ∧ n2 < 256 := by
    simp [Lit.wf, IntKind.min, IntKind.max, IntKind.signed, IntKind.bits] at wn2
    omega
  refine (m_overseerlaw53_GenerateRests_c (s := ⟨W, fun _ => 0⟩) r1 (rests_eq hx hn2)).mono fun e W' ⟨v, s', hw, he, hm, hv⟩ => ?_
  subst hw
  subst he
  subst hv
  have hbl := hm.below
  exact ⟨_, rfl, law_post Try.laidOut hW' rfl (by kernel_rfl) (by kernel_rfl) Try.underlying4 rfl rfl rfl hbl⟩

/-- The statement. -/
theorem generateRests_holds : Rows.GenerateRestsSaid :=
  OpenClaim.holds_of_wide 4 Try.f4 rfl rfl rfl rfl rfl rfl rfl ⟨rfl, rfl, rfl, rfl, rfl⟩ rfl rfl rfl rfl rfl (by kernel_rfl) Try.func4 (by kernel_rfl)
    (of_decide_eq_true (by kernel_rfl)) (by unfold Func.isWrapper; first | (rw [if_pos (by decide +kernel)]; kernel_rfl) | (rw [if_neg (by decide +kernel)]; exact ⟨rfl, rfl⟩))
    (fun os started H enc _ => generateRests_lifted os started H enc)
end Go.Proofs.Ytkkemchihllklaa
