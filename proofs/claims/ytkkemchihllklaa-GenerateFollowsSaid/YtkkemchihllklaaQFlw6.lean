/- GenerateFollows returns true for all arguments, and leaves its arguments as they were. No conditions. -/
import Derived.Test.YtkkemchihllklaaProg
import Derived.Test.YtkkemchihllklaaQFlw5
namespace Go.Proofs.Ytkkemchihllklaa
open Go Go.RowKit
theorem cf60 : Cf Try.prog 60 := Cf.mk Try.func60 (by kernel_rfl) (by kernel_rfl)
theorem zz3 : (Try.prog.info? 3).bind (·.zero) = some (.int .i64 0) := by kernel_rfl
noncomputable def m_slices_DeleteFunc_int_j1 (st26 : Int × Int × List Int) (n38 : Int) (l39 : List Int) : Option ((Int × Int × List Int) ⊕ (Int × List Int)) :=
  some (.inl (W (st26.1 + 1), n38, l39))
noncomputable def m_slices_DeleteFunc_int_l1 (p1 : Int → Option Bool) (st26 : Int × Int × List Int) : Option ((Int × Int × List Int) ⊕ (Int × List Int)) :=
  if decide (st26.1 < (st26.2.2.length : Int)) then
    (idx st26.2.2 st26.1).bind fun x42 =>
    (p1 x42).bind fun r44 =>
    if (!r44) then
      (idx st26.2.2 st26.2.1).bind fun x47 =>
      (upd st26.2.2 st26.2.1 x42).bind fun x49 =>
      m_slices_DeleteFunc_int_j1 st26 (W (st26.2.1 + 1)) x49
    else
      m_slices_DeleteFunc_int_j1 st26 st26.2.1 st26.2.2
  else
    some (.inr st26.2)
/-- What slices.DeleteFunc<<>int,int> computes. -/
noncomputable def m_slices_DeleteFunc_int (p0 : List Int) (p1 : Int → Option Bool) : Option (List Int × List Int) :=
  (m_slices_IndexFunc_int p0 p1).bind fun r3 =>
  if (r3 == (-1)) then
    some (p0, p0)
  else
    (iter (m_slices_DeleteFunc_int_l1 p1) ((W (r3 + 1)), r3, p0)).bind fun o26 =>
    (slc o26.2 o26.1 (o26.2.length : Int)).bind fun x31 =>
    (clrG o26.2 o26.1 (0 : Int)).bind fun x34 =>
    (slc (o26.2.take o26.1.toNat ++ List.replicate (o26.2.length - o26.1.toNat) (0 : Int)) 0 o26.1).bind fun x35 =>
    some (x35, (o26.2.take o26.1.toNat ++ List.replicate (o26.2.length - o26.1.toNat) (0 : Int)))
set_option maxRecDepth 100000 in
set_option maxHeartbeats 8000000 in
theorem m_slices_DeleteFunc_int_c {s : Sig} {p0 : List Int} {p1 : Int → Option Bool} {t0 : Nat} {a1 : Option Addr} {c1 : Nat} {vp1 : Value} {r : List Int × List Int} (zt0 : 0 < t0) (h1 : RowT (rK .i64) s t0 3 a1 c1 p0) (hp1 : FV1 Try.prog s vp1 (fun (x0 : Int) => [.int .i64 x0]) (fun (r : Bool) => .bool r) p1) (hm : m_slices_DeleteFunc_int p0 p1 = some r) :
    Calls Try.prog 48 #[.slice a1 p0.length c1, vp1] s.w (RetS (One t0) s fun v s' => ∃ (a2 : Option Addr) (c2 : Nat), v = .slice a2 r.1.length c2 ∧ RowT (rK .i64) s' t0 3 a2 c2 r.1 ∧ RowT (rK .i64) s' t0 3 a1 c1 r.2) := by
 unfold m_slices_DeleteFunc_int at hm
 obtain ⟨N, hN, hNb, lt0, -⟩ := s.freshL [t0]
 have m0 : Mv (Up N (One t0)) s s := Mv.refl _ _
 refine E.entry Try.func48 rfl Try.ntmps48 rfl rfl (E.seq (E.reg (L.as Wt.no rfl rfl (L.nil (X.seqN (E.seq (E.reg (L.mv Wt.no rfl rfl (L.mv Wt.no rfl rfl ?_)))))))))
 obtain ⟨r3, er3, hm⟩ := bindS hm
 refine L.ca cf60 rfl rfl Wt.no rfl (Calls.lendG (s0 := (Sig.fz t0 (Sig.drop N s))) (s := s) rfl (m_slices_IndexFunc_int_c (s := (Sig.fz t0 (Sig.drop N s))) (p0 := p0) (p1 := p1) ((h1.dropV lt0).fz (Ne.symm (tne0V zt0))) (hp1.mono ((Sig.drop_le N _).trans ((Sig.fz_mv t0 _).le (tgz zt0)))) er3) (fun v s' h => h)) rfl ?_
 rintro _ s4 m5 rfl
 replace m0 := m0.trans m5.no
 replace h1 := h1.mv m5 no_No no_No
 replace hp1 := hp1.mono (m5.le no_No)
 refine L.as Wt.no rfl rfl (L.nil (X.seqN (E.seq (E.seq (E.reg (L.mv Wt.no rfl rfl (L.bi Wt.no rfl rfl rfl rfl (L.nil (X.seqN ?_)))))))))
 rcases ifS hm with ⟨hc, hm⟩ | ⟨hc, hm⟩
 ·refine E.cT rfl hc (E.seq (E.reg (L.mv Wt.no rfl rfl (L.as Wt.no rfl rfl (L.nil (X.seqN (E.ret (X.seqR ?_))))))))
  obtain rfl := Option.some.inj hm
  exact X.rt (.inl rfl) Try.results48 (Rs.tmp rfl Rs.nil) rfl ⟨_, (s4).ren N (fun _ => 0), rfl, rfl, m0.ren hNb, ⟨a1, c1, rfl, (h1.renV hN lt0), (h1.renV hN lt0)⟩⟩
 ·refine E.cF rfl hc (E.skip (X.seqN (E.seq (E.seq (E.reg (L.mv Wt.no rfl rfl (L.bi Wt.no rfl rfl rfl rfl (L.as Wt.no rfl rfl (L.nil (X.seqN (E.block ?_)))))))))))
  obtain ⟨o26, eo26, hm⟩ := bindS hm
  refine E.cut (x := .exit 0) (fun e w => ∃ (s30 : Sig), Mv (Up N (One t0)) s s30 ∧ RowT (rK .i64) s30 t0 3 a1 c1 o26.2 ∧ e = [(5, .int .i64 o26.1), (0, .slice a1 o26.2.length c1)] ∧ w = s30.w) ?_ ?_
  ·rintro _ _ ⟨s30, m0, h1, rfl, rfl⟩
   refine X.blkE (X.seqN (E.seq (E.reg (L.mv Wt.no rfl rfl (L.mv Wt.no rfl rfl ?_)))))
   obtain ⟨x31, ex31, hm⟩ := bindS hm
   refine L.slo (r := (rK .i64)) sl23 h1 Wt.no rfl rfl ex31 rfl ?_
   obtain ⟨x34, ex34, hm⟩ := bindS hm
   obtain ⟨kx34, rfl⟩ := clr_some ex34
   refine L.clr (r := (rK .i64)) (lo := o26.1.toNat) (z0 := (0 : Int)) sl23 zz3 rfl rfl (fun _ => rfl) kx34 h1 (tgpV zt0) Wt.no rfl fun s32 m33 h1 => ?_
   have elx34 : (o26.2.take o26.1.toNat ++ List.replicate (o26.2.length - o26.1.toNat) (0 : Int)).length = o26.2.length := clr_len kx34
   replace m0 := m0.trans (m33.one (.inr rfl))
   refine L.reval (d := 0) rfl elx34 (L.nil (X.seqN (E.seq (E.reg (L.mv Wt.no rfl rfl (L.mv Wt.no rfl rfl ?_))))))
   obtain ⟨x35, ex35, hm⟩ := bindS hm
   refine L.sho (r := (rK .i64)) sl23 h1 Wt.no rfl rfl ex35 rfl fun a36 c36 h36 => L.as Wt.no rfl rfl (L.nil (X.seqN (E.ret ?_)))
   obtain rfl := Option.some.inj hm
   exact X.rt (.inl rfl) Try.results48 (Rs.tmp rfl Rs.nil) rfl ⟨_, (s32).ren N (fun _ => 0), rfl, rfl, m0.ren hNb, ⟨a36, c36, rfl, (h36.renV hN lt0), (h1.renV hN lt0)⟩⟩
  intro K37
  refine E.iter (fun (st26 : Int × Int × List Int) (e : List (Nat × Value)) (w : World) => ∃ (s29 : Sig), Mv (Up N (One t0)) s s29 ∧ RowT (rK .i64) s29 t0 3 a1 c1 st26.2.2 ∧ FV1 Try.prog s29 vp1 (fun (x0 : Int) => [.int .i64 x0]) (fun (r : Bool) => .bool r) p1 ∧ e = [(6, .int .i64 st26.1), (5, .int .i64 st26.2.1), (0, .slice a1 st26.2.2.length c1), (1, vp1)] ∧ w = s29.w) eo26 ⟨s4, m0, h1, hp1, rfl, rfl⟩ (Sub.rf rfl) ?_
  rintro st26 res26 hm ih26 ho26 _ _ ⟨s29, m0, h1, hp1, rfl, rfl⟩
  unfold m_slices_DeleteFunc_int_l1 at hm
  refine E.seq (E.seq (E.reg (L.mv Wt.no rfl rfl (L.mv Wt.no rfl rfl (L.len sl23 Wt.no rfl rfl (L.bi Wt.no rfl rfl rfl rfl (L.nil (X.seqN ?_))))))))
  rcases ifS hm with ⟨hc, hm⟩ | ⟨hc, hm⟩
  ·refine E.cT rfl hc (E.skip (X.seqN (E.seqJ (fun e w => ∃ (s40 : Sig) (n38 : Int) (l39 : List Int), m_slices_DeleteFunc_int_j1 st26 n38 l39 = some res26 ∧ Mv (Up N (One t0)) s s40 ∧ RowT (rK .i64) s40 t0 3 a1 c1 l39 ∧ FV1 Try.prog s40 vp1 (fun (x0 : Int) => [.int .i64 x0]) (fun (r : Bool) => .bool r) p1 ∧ e = [(5, .int .i64 n38), (0, .slice a1 l39.length c1), (6, .int .i64 st26.1), (1, vp1)] ∧ w = s40.w) ?_ ?_)))
   ·rintro _ _ ⟨s40, n38, l39, hm, m0, h1, hp1, rfl, rfl⟩
    unfold m_slices_DeleteFunc_int_j1 at hm
    exact E.reg (L.mv Wt.no rfl rfl (L.bi Wt.no rfl rfl rfl rfl (L.as Wt.no rfl rfl (L.nil (X.sub (ih26 _ (Option.some.inj hm).symm _ _ ⟨s40, m0, h1, hp1, rfl, rfl⟩) (Sub.rf rfl))))))
   ·intro Jj41
    refine E.block (E.seq (E.reg (L.mv Wt.no rfl rfl (L.mv Wt.no rfl rfl ?_))))
    obtain ⟨x42, ex42, hm⟩ := bindS hm
    refine L.ir (r := (rK .i64)) sl23 h1 Wt.no rfl rfl ex42 rfl fun b43 o43 cc43 me43 rd43 sp43 => ?_
    obtain rfl := rd43
    refine L.ld (j := 0) me43 nag3 Wt.no rfl rfl rfl rfl (L.as Wt.no rfl rfl (L.nil (X.seqN (E.seq (E.reg (L.mv Wt.no rfl rfl (L.mv Wt.no rfl rfl ?_)))))))
    obtain ⟨r44, er44, hm⟩ := bindS hm
    refine L.fv1 (y := x42) hp1 rfl rfl Wt.no rfl rfl er44 rfl fun s45 m46 => ?_
    replace m0 := m0.trans m46.no
    replace h1 := h1.mv m46 no_No no_No
    replace hp1 := hp1.mono (m46.le no_No)
    refine L.not Wt.no rfl rfl (L.nil (X.seqN ?_))
    rcases ifS hm with ⟨hc, hm⟩ | ⟨hc, hm⟩
    ·refine E.cT rfl hc (E.seq (E.reg (L.mv Wt.no rfl rfl (L.mv Wt.no rfl rfl (L.mv Wt.no rfl rfl ?_)))))
     obtain ⟨x47, ex47, hm⟩ := bindS hm
     refine L.ir (r := (rK .i64)) sl23 h1 Wt.no rfl rfl ex47 rfl fun b48 o48 cc48 me48 rd48 sp48 => ?_
     obtain rfl := rd48
     obtain ⟨x49, ex49, hm⟩ := bindS hm
     have elx49 := upd_len ex49
     refine L.su (fo := 0) (c := [.int .i64 x42]) (z := x42) h1 sp48 ex47 ex49 (tgpV zt0) nag3.sz Wt.no rfl rfl rfl rfl rfl rfl (fun c0 hc0 => by obtain rfl := hc0; exact rfl) fun s50 m51 h1 => ?_
     replace m0 := m0.trans (m51.one (.inr rfl))
     replace hp1 := hp1.mono (m51.le (tgz zt0))
     exact L.reval (d := 0) rfl elx49 (L.nil (X.seqN (E.reg (L.mv Wt.no rfl rfl (L.bi Wt.no rfl rfl rfl rfl (L.as Wt.no rfl rfl (L.nil (X.blkN (X.sub (Jj41 _ _ ⟨s50, (W (st26.2.1 + 1)), x49, hm, m0, h1, hp1, rfl, rfl⟩) (Sub.rf rfl))))))))))
    ·exact E.cF rfl hc (E.skip (X.blkN (X.sub (Jj41 _ _ ⟨s45, st26.2.1, st26.2.2, hm, m0, h1, hp1, rfl, rfl⟩) (Sub.rf rfl))))
  ·refine E.cF rfl hc (E.exit (X.seqX (X.seqX ?_)))
   have hx := ho26 _ (Option.some.inj hm).symm
   subst hx
   exact X.sub (K37 _ _ ⟨s29, m0, h1, rfl, rfl⟩) (Sub.rf rfl)

theorem ag49 : Ag Try.prog 49 27 := Ag.mk' Try.underlying49 rfl (by kernel_rfl)
theorem cf46 : Cf Try.prog 46 := Cf.mk Try.func46 (by kernel_rfl) (by kernel_rfl)
theorem cf47 : Cf Try.prog 47 := Cf.mk Try.func47 (by kernel_rfl) (by kernel_rfl)
theorem cf48 : Cf Try.prog 48 := Cf.mk Try.func48 (by kernel_rfl) (by kernel_rfl)
theorem cf49 : Cf Try.prog 49 := Cf.mk Try.func49 (by kernel_rfl) (by kernel_rfl)
theorem fa51_0 : FA Try.prog 51 0 0 := FA.mk Try.underlying51 rfl rfl ⟨1, by decide, by kernel_rfl⟩
theorem fa51_1 : FA Try.prog 51 1 1 := FA.mk Try.underlying51 rfl rfl ⟨27, by decide, by kernel_rfl⟩
theorem fa51_2 : FA Try.prog 51 2 28 := FA.mk Try.underlying51 rfl rfl ⟨1, by decide, by kernel_rfl⟩
theorem nag45 : NAg Try.prog 45 := NAg.mk' Try.underlying45 rfl (by kernel_rfl)
/-- What overseerlaw53.Make computes. -/
noncomputable def m_overseerlaw53_Make (p0 : Int × (Int × Int × ((Int × Int × Int × Int × Int) × (Int × Int × Int × Int × Int) × (Int × Int × Int × Int × Int) × (Int × Int × Int × Int × Int) × (Int × Int × Int × Int × Int))) × Int) : Option ((List Int × Int × List Int × (List (Int × Int × Int))) × List Int) :=
  (m_overseerlaw03_Set_Events p0.1).bind fun r16 =>
  (m_overseerlaw03_Make r16 ((p0.2.1.1.tmod 5), p0.2.1.2)).bind fun r23 =>
  (m_overseerlaw03_Set_Events p0.2.2).bind fun r45 =>
  (m_slices_DeleteFunc_int r45 (m_overseerlaw53_Make_1 r23)).bind fun r52 =>
  (lenEq r52.2 r45).bind fun _ =>
  some (r23, r52.1)
set_option maxRecDepth 100000 in
set_option maxHeartbeats 8000000 in
theorem m_overseerlaw53_Make_c {s : Sig} {p0 : Int × (Int × Int × ((Int × Int × Int × Int × Int) × (Int × Int × Int × Int × Int) × (Int × Int × Int × Int × Int) × (Int × Int × Int × Int × Int) × (Int × Int × Int × Int × Int))) × Int} {u3 : Nat} {r : (List Int × Int × List Int × (List (Int × Int × Int))) × List Int} (hm : m_overseerlaw53_Make p0 = some r) :
    Calls Try.prog 16 #[.agg #[.int .u8 p0.1, .int .u8 p0.2.1.1, .int .u8 p0.2.1.2.1, .int .u8 p0.2.1.2.2.1.1, .int .u8 p0.2.1.2.2.1.2.1, .int .u8 p0.2.1.2.2.1.2.2.1, .int .u8 p0.2.1.2.2.1.2.2.2.1, .int .u8 p0.2.1.2.2.1.2.2.2.2, .int .u8 p0.2.1.2.2.2.1.1, .int .u8 p0.2.1.2.2.2.1.2.1, .int .u8 p0.2.1.2.2.2.1.2.2.1, .int .u8 p0.2.1.2.2.2.1.2.2.2.1, .int .u8 p0.2.1.2.2.2.1.2.2.2.2, .int .u8 p0.2.1.2.2.2.2.1.1, .int .u8 p0.2.1.2.2.2.2.1.2.1, .int .u8 p0.2.1.2.2.2.2.1.2.2.1, .int .u8 p0.2.1.2.2.2.2.1.2.2.2.1, .int .u8 p0.2.1.2.2.2.2.1.2.2.2.2, .int .u8 p0.2.1.2.2.2.2.2.1.1, .int .u8 p0.2.1.2.2.2.2.2.1.2.1, .int .u8 p0.2.1.2.2.2.2.2.1.2.2.1, .int .u8 p0.2.1.2.2.2.2.2.1.2.2.2.1, .int .u8 p0.2.1.2.2.2.2.2.1.2.2.2.2, .int .u8 p0.2.1.2.2.2.2.2.2.1, .int .u8 p0.2.1.2.2.2.2.2.2.2.1, .int .u8 p0.2.1.2.2.2.2.2.2.2.2.1, .int .u8 p0.2.1.2.2.2.2.2.2.2.2.2.1, .int .u8 p0.2.1.2.2.2.2.2.2.2.2.2.2, .int .u8 p0.2.2]] s.w (RetS No s fun v s' => ∃ (a1 : Option Addr) (c1 : Nat) (a2 : Option Addr) (c2 : Nat) (a3 : Option Addr) (c3 : Nat) (a4 : Option Addr) (c4 : Nat), v = .tuple #[.agg #[.slice a1 r.1.1.length c1, .int .i64 r.1.2.1, .slice a2 r.1.2.2.1.length c2, .slice a3 r.1.2.2.2.length c3], .slice a4 r.2.length c4] ∧ RdL (rK .i64) s' a1 c1 r.1.1 ∧ RdL (rK .i64) s' a2 c2 r.1.2.2.1 ∧ RdL (rP (rK .i64) (rP (rK .i64) (rK .i64))) s' a3 c3 r.1.2.2.2 ∧ RowT (rK .i64) s' u3 3 a4 c4 r.2) := by
 unfold m_overseerlaw53_Make at hm
 obtain ⟨N, hN, hNb⟩ := s.fresh
 have m0 : Mv (Up N No) s s := Mv.refl _ _
 refine E.entry Try.func16 rfl Try.ntmps16 rfl rfl (E.seq (E.reg (L.box (N + 0) Wt.no rfl rfl rfl fun b5 s6 m7 bx5 => ?_)))
 replace m0 := m0.trans m7.no
 refine L.al (N + 1) zz26 rfl Wt.no rfl fun b8 s9 m10 bx8 => ?_
 replace m0 := m0.trans m10.no
 replace bx5 := bx5.mv m10 no_No
 refine L.as Wt.no rfl rfl (L.nil (X.seqN (E.seq (E.reg (L.fa fa51_1 Wt.no rfl rfl (L.fa fa49_0 Wt.no rfl rfl (L.ld (j := 1) bx5.mem nag5 Wt.no rfl rfl rfl rfl (L.rem Wt.no rfl rfl (by decide) rfl (L.fa fa51_1 Wt.no rfl rfl (L.fa fa49_0 Wt.no rfl rfl (L.st (c := [.int .u8 (p0.2.1.1.tmod 5)]) (cs' := #[.int .u8 p0.1, .int .u8 (p0.2.1.1.tmod 5), .int .u8 p0.2.1.2.1, .int .u8 p0.2.1.2.2.1.1, .int .u8 p0.2.1.2.2.1.2.1, .int .u8 p0.2.1.2.2.1.2.2.1, .int .u8 p0.2.1.2.2.1.2.2.2.1, .int .u8 p0.2.1.2.2.1.2.2.2.2, .int .u8 p0.2.1.2.2.2.1.1, .int .u8 p0.2.1.2.2.2.1.2.1, .int .u8 p0.2.1.2.2.2.1.2.2.1, .int .u8 p0.2.1.2.2.2.1.2.2.2.1, .int .u8 p0.2.1.2.2.2.1.2.2.2.2, .int .u8 p0.2.1.2.2.2.2.1.1, .int .u8 p0.2.1.2.2.2.2.1.2.1, .int .u8 p0.2.1.2.2.2.2.1.2.2.1, .int .u8 p0.2.1.2.2.2.2.1.2.2.2.1, .int .u8 p0.2.1.2.2.2.2.1.2.2.2.2, .int .u8 p0.2.1.2.2.2.2.2.1.1, .int .u8 p0.2.1.2.2.2.2.2.1.2.1, .int .u8 p0.2.1.2.2.2.2.2.1.2.2.1, .int .u8 p0.2.1.2.2.2.2.2.1.2.2.2.1, .int .u8 p0.2.1.2.2.2.2.2.1.2.2.2.2, .int .u8 p0.2.1.2.2.2.2.2.2.1, .int .u8 p0.2.1.2.2.2.2.2.2.2.1, .int .u8 p0.2.1.2.2.2.2.2.2.2.2.1, .int .u8 p0.2.1.2.2.2.2.2.2.2.2.2.1, .int .u8 p0.2.1.2.2.2.2.2.2.2.2.2.2, .int .u8 p0.2.2]) bx5 nag5.sz Wt.no rfl rfl rfl rfl rfl (Nat.le_of_ble_eq_true rfl) rfl fun s11 m12 bx5 => ?_)))))))))))
 replace m0 := m0.trans (m12.one up)
 replace bx8 := bx8.mv m12 (tgN (by decide))
 refine L.nil (X.seqN (E.seq ?_))
 obtain ⟨r16, er16, hm⟩ := bindS hm
 obtain ⟨r23, er23, hm⟩ := bindS hm
 refine E.draw [[], [0], [0, 1], [], [3], [0, 1, 2, 3, 4], [], [0, 1, 2, 3, 4, 5, 6]] (fun D e sx => Mv (One (N + 2)) s11 sx ∧ Sub [(2, .pointer (some ⟨b8, 0, none⟩)), (1, .pointer (some ⟨b5, 0, none⟩))] e ∧ (D 0 = true → (Env.get e 11 = some (.pointer (some ⟨b5, 0, none⟩)))) ∧ (D 1 = true → (Env.get e 12 = some (.int .u8 p0.1))) ∧ (D 2 = true → (∃ (a19 : Option Addr) (c19 : Nat), Env.get e 13 = some (.slice a19 r16.length c19) ∧ RdL (rK .i64) sx a19 c19 r16)) ∧ (D 3 = true → (Env.get e 14 = some (.pointer (some ⟨b5, 1, none⟩)))) ∧ (D 4 = true → (Env.get e 15 = some (.agg #[.int .u8 (p0.2.1.1.tmod 5), .int .u8 p0.2.1.2.1, .int .u8 p0.2.1.2.2.1.1, .int .u8 p0.2.1.2.2.1.2.1, .int .u8 p0.2.1.2.2.1.2.2.1, .int .u8 p0.2.1.2.2.1.2.2.2.1, .int .u8 p0.2.1.2.2.1.2.2.2.2, .int .u8 p0.2.1.2.2.2.1.1, .int .u8 p0.2.1.2.2.2.1.2.1, .int .u8 p0.2.1.2.2.2.1.2.2.1, .int .u8 p0.2.1.2.2.2.1.2.2.2.1, .int .u8 p0.2.1.2.2.2.1.2.2.2.2, .int .u8 p0.2.1.2.2.2.2.1.1, .int .u8 p0.2.1.2.2.2.2.1.2.1, .int .u8 p0.2.1.2.2.2.2.1.2.2.1, .int .u8 p0.2.1.2.2.2.2.1.2.2.2.1, .int .u8 p0.2.1.2.2.2.2.1.2.2.2.2, .int .u8 p0.2.1.2.2.2.2.2.1.1, .int .u8 p0.2.1.2.2.2.2.2.1.2.1, .int .u8 p0.2.1.2.2.2.2.2.1.2.2.1, .int .u8 p0.2.1.2.2.2.2.2.1.2.2.2.1, .int .u8 p0.2.1.2.2.2.2.2.1.2.2.2.2, .int .u8 p0.2.1.2.2.2.2.2.2.1, .int .u8 p0.2.1.2.2.2.2.2.2.2.1, .int .u8 p0.2.1.2.2.2.2.2.2.2.2.1, .int .u8 p0.2.1.2.2.2.2.2.2.2.2.2.1, .int .u8 p0.2.1.2.2.2.2.2.2.2.2.2.2]))) ∧ (D 5 = true → (∃ (a26 : Option Addr) (c26 : Nat) (a27 : Option Addr) (c27 : Nat) (a28 : Option Addr) (c28 : Nat), Env.get e 16 = some (.agg #[.slice a26 r23.1.length c26, .int .i64 r23.2.1, .slice a27 r23.2.2.1.length c27, .slice a28 r23.2.2.2.length c28]) ∧ RowT (rK .i64) sx (N + 4) 3 a26 c26 r23.1 ∧ RowT (rK .i64) sx (N + 5) 3 a27 c27 r23.2.2.1 ∧ RowT (rP (rK .i64) (rP (rK .i64) (rK .i64))) sx (N + 6) 28 a28 c28 r23.2.2.2)) ∧ (D 6 = true → (∃ (b30 : Nat), Env.get e 4 = some (.pointer (some ⟨b30, 0, none⟩)))) ∧ (D 6 = true → D 7 = false → ∀ (b30 : Nat), Env.get e 4 = some (.pointer (some ⟨b30, 0, none⟩)) → Bx sx (N + 2) b30 #[.slice none 0 0, .int .i64 0, .slice none 0 0, .slice none 0 0] 26) ∧ (D 7 = true → ∀ (a26 : Option Addr) (c26 : Nat) (a27 : Option Addr) (c27 : Nat) (a28 : Option Addr) (c28 : Nat) (b30 : Nat), Env.get e 16 = some (.agg #[.slice a26 r23.1.length c26, .int .i64 r23.2.1, .slice a27 r23.2.2.1.length c27, .slice a28 r23.2.2.2.length c28]) → Env.get e 4 = some (.pointer (some ⟨b30, 0, none⟩)) → Bx sx (N + 2) b30 #[.slice a26 r23.1.length c26, .int .i64 r23.2.1, .slice a27 r23.2.2.1.length c27, .slice a28 r23.2.2.2.length c28] 26)) (by kernel_rfl) (by kernel_rfl) (by kernel_rfl) ?_ ?_ ?_
 ·intro sz mz
  exact ⟨mz.no, (Sub.rf rfl), nofun, nofun, nofun, nofun, nofun, nofun, nofun, nofun, nofun⟩
 ·refine ⟨?_, ?_, ?_, ?_, ?_, ?_, ?_, ?_, trivial⟩
  ·rintro D e s13 ⟨im, ib, i0, t_⟩ hk hf ha
   have kn : Kn e [(1, .pointer (some ⟨b5, 0, none⟩))] := ⟨(ib 1 _ rfl), trivial⟩
   exact L.kns _ kn (L.fa fa51_0 Wt.no rfl rfl (L.nil (X.dk kn ⟨im, Sub.fresh ib rfl, fun _ => rfl, t_⟩)))
  ·rintro D e s14 ⟨im, ib, i0, i1, t_⟩ hk hf ha
   obtain ⟨d0, -⟩ := ha
   have g0_ := i0 d0
   have bx5 := bx5.mv im (tgN (by decide))
   have kn : Kn e [(11, .pointer (some ⟨b5, 0, none⟩))] := ⟨g0_, trivial⟩
   exact L.kns _ kn (L.ld (j := 0) bx5.mem nag45 Wt.no rfl rfl rfl rfl (L.nil (X.dk kn ⟨im, Sub.fresh ib rfl, i0, fun _ => rfl, t_⟩)))
  ·rintro D e s15 ⟨im, ib, i0, i1, i2, i3, i4, i5, i6, i7, i8⟩ hk hf ha
   obtain ⟨d0, d1, -⟩ := ha
   have g1_ := i1 d1
   have kn : Kn e [(12, .int .u8 p0.1)] := ⟨g1_, trivial⟩
   refine L.kns _ kn (L.ca cf47 rfl rfl Wt.no rfl (m_overseerlaw03_Set_Events_c (s := s15) (p0 := p0.1) (u0 := 0) er16) rfl ?_)
   rintro _ s17 m18 ⟨a19, c19, rfl, h19⟩
   replace h19 := h19.p
   exact L.nil (X.dk kn ⟨im.trans m18.no, Sub.fresh ib rfl, i0, i1, fun _ => ⟨a19, c19, rfl, h19⟩, i3, i4, fun z => let ⟨a26, c26, a27, c27, a28, c28, q, h26, h27, h28⟩ := i5 z; ⟨a26, c26, a27, c27, a28, c28, q, (h26.mv m18 no_No no_No), (h27.mv m18 no_No no_No), (h28.mv m18 no_No no_No)⟩, i6, fun z z2 b30 q6 => ((i7 z z2 b30 q6).mv m18 no_No), fun z a26 c26 a27 c27 a28 c28 b30 q5 q6 => ((i8 z a26 c26 a27 c27 a28 c28 b30 q5 q6).mv m18 no_No)⟩)
  ·rintro D e s20 ⟨im, ib, i0, i1, i2, i3, t_⟩ hk hf ha
   have kn : Kn e [(1, .pointer (some ⟨b5, 0, none⟩))] := ⟨(ib 1 _ rfl), trivial⟩
   exact L.kns _ kn (L.fa fa51_1 Wt.no rfl rfl (L.nil (X.dk kn ⟨im, Sub.fresh ib rfl, i0, i1, i2, fun _ => rfl, t_⟩)))
  ·rintro D e s21 ⟨im, ib, i0, i1, i2, i3, i4, t_⟩ hk hf ha
   obtain ⟨d3, -⟩ := ha
   have g3_ := i3 d3
   have bx5 := bx5.mv im (tgN (by decide))
   have kn : Kn e [(14, .pointer (some ⟨b5, 1, none⟩))] := ⟨g3_, trivial⟩
   exact L.kns _ kn (L.lg (j := 1) (cs := [.int .u8 (p0.2.1.1.tmod 5), .int .u8 p0.2.1.2.1, .int .u8 p0.2.1.2.2.1.1, .int .u8 p0.2.1.2.2.1.2.1, .int .u8 p0.2.1.2.2.1.2.2.1, .int .u8 p0.2.1.2.2.1.2.2.2.1, .int .u8 p0.2.1.2.2.1.2.2.2.2, .int .u8 p0.2.1.2.2.2.1.1, .int .u8 p0.2.1.2.2.2.1.2.1, .int .u8 p0.2.1.2.2.2.1.2.2.1, .int .u8 p0.2.1.2.2.2.1.2.2.2.1, .int .u8 p0.2.1.2.2.2.1.2.2.2.2, .int .u8 p0.2.1.2.2.2.2.1.1, .int .u8 p0.2.1.2.2.2.2.1.2.1, .int .u8 p0.2.1.2.2.2.2.1.2.2.1, .int .u8 p0.2.1.2.2.2.2.1.2.2.2.1, .int .u8 p0.2.1.2.2.2.2.1.2.2.2.2, .int .u8 p0.2.1.2.2.2.2.2.1.1, .int .u8 p0.2.1.2.2.2.2.2.1.2.1, .int .u8 p0.2.1.2.2.2.2.2.1.2.2.1, .int .u8 p0.2.1.2.2.2.2.2.1.2.2.2.1, .int .u8 p0.2.1.2.2.2.2.2.1.2.2.2.2, .int .u8 p0.2.1.2.2.2.2.2.2.1, .int .u8 p0.2.1.2.2.2.2.2.2.2.1, .int .u8 p0.2.1.2.2.2.2.2.2.2.2.1, .int .u8 p0.2.1.2.2.2.2.2.2.2.2.2.1, .int .u8 p0.2.1.2.2.2.2.2.2.2.2.2.2]) bx5.mem ag49 Wt.no rfl rfl rfl rfl rfl (L.nil (X.dk kn ⟨im, Sub.fresh ib rfl, i0, i1, i2, i3, fun _ => rfl, t_⟩)))
  ·rintro D e s22 ⟨im, ib, i0, i1, i2, i3, i4, i5, i6, i7, i8⟩ hk hf ha
   obtain ⟨d0, d1, d2, d3, d4, -⟩ := ha
   obtain ⟨a19, c19, g2_, h19⟩ := i2 d2
   have g4_ := i4 d4
   have kn : Kn e [(13, .slice a19 r16.length c19), (15, .agg #[.int .u8 (p0.2.1.1.tmod 5), .int .u8 p0.2.1.2.1, .int .u8 p0.2.1.2.2.1.1, .int .u8 p0.2.1.2.2.1.2.1, .int .u8 p0.2.1.2.2.1.2.2.1, .int .u8 p0.2.1.2.2.1.2.2.2.1, .int .u8 p0.2.1.2.2.1.2.2.2.2, .int .u8 p0.2.1.2.2.2.1.1, .int .u8 p0.2.1.2.2.2.1.2.1, .int .u8 p0.2.1.2.2.2.1.2.2.1, .int .u8 p0.2.1.2.2.2.1.2.2.2.1, .int .u8 p0.2.1.2.2.2.1.2.2.2.2, .int .u8 p0.2.1.2.2.2.2.1.1, .int .u8 p0.2.1.2.2.2.2.1.2.1, .int .u8 p0.2.1.2.2.2.2.1.2.2.1, .int .u8 p0.2.1.2.2.2.2.1.2.2.2.1, .int .u8 p0.2.1.2.2.2.2.1.2.2.2.2, .int .u8 p0.2.1.2.2.2.2.2.1.1, .int .u8 p0.2.1.2.2.2.2.2.1.2.1, .int .u8 p0.2.1.2.2.2.2.2.1.2.2.1, .int .u8 p0.2.1.2.2.2.2.2.1.2.2.2.1, .int .u8 p0.2.1.2.2.2.2.2.1.2.2.2.2, .int .u8 p0.2.1.2.2.2.2.2.2.1, .int .u8 p0.2.1.2.2.2.2.2.2.2.1, .int .u8 p0.2.1.2.2.2.2.2.2.2.2.1, .int .u8 p0.2.1.2.2.2.2.2.2.2.2.2.1, .int .u8 p0.2.1.2.2.2.2.2.2.2.2.2.2])] := ⟨g2_, g4_, trivial⟩
   refine L.kns _ kn (L.ca cf46 rfl rfl Wt.no rfl (m_overseerlaw03_Make_c (s := s22) (p0 := r16) (p1 := ((p0.2.1.1.tmod 5), p0.2.1.2)) (u0 := (N + 4)) (u1 := (N + 5)) (u2 := (N + 6)) h19 er23) rfl ?_)
   rintro _ s24 m25 ⟨a26, c26, a27, c27, a28, c28, rfl, h26, h27, h28⟩
   exact L.nil (X.dk kn ⟨im.trans m25.no, Sub.fresh ib rfl, i0, i1, fun z => let ⟨a19, c19, q, h19⟩ := i2 z; ⟨a19, c19, q, (h19.mono (m25.le no_No))⟩, i3, i4, fun _ => ⟨a26, c26, a27, c27, a28, c28, rfl, h26, h27, h28⟩, i6, fun z z2 b30 q6 => ((i7 z z2 b30 q6).mv m25 no_No), fun z => Bool.noConfusion ((hf 7 (Nat.le_of_ble_eq_true rfl) rfl).symm.trans z)⟩)
  ·rintro D e s29 ⟨im, ib, i0, i1, i2, i3, i4, i5, i6, i7, i8⟩ hk hf ha
   exact L.al (N + 2) zz26 rfl Wt.no rfl fun b30 s31 m32 bx30 => L.nil (X.dr (s := s31) (e' := (4, .pointer (some ⟨b30, 0, none⟩)) :: e) (Sub.both (Sub.refl)) ⟨im.trans m32.no, Sub.fresh ib rfl, i0, i1, fun z => let ⟨a19, c19, q, h19⟩ := i2 z; ⟨a19, c19, q, (h19.mono (m32.le no_No))⟩, i3, i4, fun z => let ⟨a26, c26, a27, c27, a28, c28, q, h26, h27, h28⟩ := i5 z; ⟨a26, c26, a27, c27, a28, c28, q, (h26.mv m32 no_No no_No), (h27.mv m32 no_No no_No), (h28.mv m32 no_No no_No)⟩, fun _ => ⟨b30, rfl⟩, fun _ _ _ q6 => by cases (show some (.pointer (some ⟨b30, 0, none⟩) : Value) = some _ from q6); exact bx30, fun z => Bool.noConfusion ((hf 7 (Nat.le_of_ble_eq_true rfl) rfl).symm.trans z)⟩)
  ·rintro D e s33 ⟨im, ib, i0, i1, i2, i3, i4, i5, i6, i7, i8⟩ hk hf ha
   obtain ⟨d0, d1, d2, d3, d4, d5, d6, -⟩ := ha
   obtain ⟨a26, c26, a27, c27, a28, c28, g5_, h26, h27, h28⟩ := i5 d5
   obtain ⟨b30, g6_⟩ := i6 d6
   obtain bx30 := i7 d6 hk b30 g6_
   have kn : Kn e [(4, .pointer (some ⟨b30, 0, none⟩)), (16, .agg #[.slice a26 r23.1.length c26, .int .i64 r23.2.1, .slice a27 r23.2.2.1.length c27, .slice a28 r23.2.2.2.length c28])] := ⟨g6_, g5_, trivial⟩
   exact L.kns _ kn (L.st (c := [.slice a26 r23.1.length c26, .int .i64 r23.2.1, .slice a27 r23.2.2.1.length c27, .slice a28 r23.2.2.2.length c28]) (cs' := #[.slice a26 r23.1.length c26, .int .i64 r23.2.1, .slice a27 r23.2.2.1.length c27, .slice a28 r23.2.2.2.length c28]) bx30 ag26.sz Wt.no rfl rfl rfl rfl rfl (Nat.le_of_ble_eq_true rfl) rfl fun s34 m35 bx30 => L.nil (X.dn kn ⟨im.trans (m35.one rfl), ib, i0, i1, fun z => let ⟨a19, c19, q, h19⟩ := i2 z; ⟨a19, c19, q, (h19.mono (m35.le (tg0 hN)))⟩, i3, i4, fun z => let ⟨a26, c26, a27, c27, a28, c28, q, h26, h27, h28⟩ := i5 z; ⟨a26, c26, a27, c27, a28, c28, q, (h26.mv m35 (tgN (by decide)) (tg0 hN)), (h27.mv m35 (tgN (by decide)) (tg0 hN)), (h28.mv m35 (tgN (by decide)) (tg0 hN))⟩, i6, fun _ z => Bool.noConfusion (show true = false from z), fun _ _ _ _ _ _ _ _ q5 q6 => by cases g5_.symm.trans q5; cases g6_.symm.trans q6; exact bx30⟩))
 ·rintro D e s36 hD ⟨im, ib, i0, i1, i2, i3, i4, i5, i6, i7, i8⟩
  obtain ⟨a26, c26, a27, c27, a28, c28, g5_, h26, h27, h28⟩ := i5 (hD 5 rfl)
  obtain ⟨b30, g6_⟩ := i6 (hD 6 rfl)
  obtain bx30 := i8 (hD 7 rfl) a26 c26 a27 c27 a28 c28 b30 g5_ g6_
  have bx8 := bx8.mv im (tgN (by decide))
  have bx5 := bx5.mv im (tgN (by decide))
  have m0 := m0.trans (im.one up)
  refine X.sub (e' := [(4, .pointer (some ⟨b30, 0, none⟩)), (2, .pointer (some ⟨b8, 0, none⟩)), (1, .pointer (some ⟨b5, 0, none⟩))]) ?_ (Sub.cons g6_ (Sub.cons (ib 2 _ rfl) (Sub.cons (ib 1 _ rfl) Sub.nil)))
  refine X.seqN (E.seq ?_)
  have m37 := Sig.fz_mv (N + 2) s36
  replace bx30 := bx30.fz (tgn hN)
  replace m0 := m0.trans (m37.one up)
  replace h26 := h26.mv m37 (tgN (by decide)) (tg0 hN)
  replace h27 := h27.mv m37 (tgN (by decide)) (tg0 hN)
  replace h28 := h28.mv m37 (tgN (by decide)) (tg0 hN)
  replace bx8 := bx8.mv m37 (tgN (by decide))
  replace bx5 := bx5.mv m37 (tgN (by decide))
  refine E.toR (s' := (Sig.fz (N + 2) s36)) rfl ?_
  have m38 := Sig.fz_mv (N + 4) (Sig.fz (N + 2) s36)
  replace h26 := h26.fz (tgn hN)
  replace m0 := m0.trans (m38.one up)
  replace bx30 := bx30.mv m38 (tg0 hN)
  replace h27 := h27.mv m38 (tgN (by decide)) (tg0 hN)
  replace h28 := h28.mv m38 (tgN (by decide)) (tg0 hN)
  replace bx8 := bx8.mv m38 (tgN (by decide))
  replace bx5 := bx5.mv m38 (tgN (by decide))
  refine E.toR (s' := (Sig.fz (N + 4) (Sig.fz (N + 2) s36))) rfl ?_
  have m39 := Sig.fz_mv (N + 5) (Sig.fz (N + 4) (Sig.fz (N + 2) s36))
  replace h27 := h27.fz (tgn hN)
  replace m0 := m0.trans (m39.one up)
  replace bx30 := bx30.mv m39 (tg0 hN)
  replace h26 := h26.mono (m39.le (tg0 hN))
  replace h28 := h28.mv m39 (tgN (by decide)) (tg0 hN)
  replace bx8 := bx8.mv m39 (tgN (by decide))
  replace bx5 := bx5.mv m39 (tgN (by decide))
  refine E.toR (s' := (Sig.fz (N + 5) (Sig.fz (N + 4) (Sig.fz (N + 2) s36)))) rfl ?_
  have m40 := Sig.fz_mv (N + 6) (Sig.fz (N + 5) (Sig.fz (N + 4) (Sig.fz (N + 2) s36)))
  replace h28 := h28.fz (tgn hN)
  replace m0 := m0.trans (m40.one up)
  replace bx30 := bx30.mv m40 (tg0 hN)
  replace h26 := h26.mono (m40.le (tg0 hN))
  replace h27 := h27.mono (m40.le (tg0 hN))
  replace bx8 := bx8.mv m40 (tgN (by decide))
  replace bx5 := bx5.mv m40 (tgN (by decide))
  refine E.toR (s' := (Sig.fz (N + 6) (Sig.fz (N + 5) (Sig.fz (N + 4) (Sig.fz (N + 2) s36))))) rfl ?_
  obtain ⟨r45, er45, hm⟩ := bindS hm
  obtain ⟨r52, er52, hm⟩ := bindS hm
  obtain ⟨_, qz56, hm⟩ := bindS hm
  have elz56 := len_some qz56
  refine E.draw [[], [], [1], [1, 2], [], [1, 2, 3, 4], [0, 1, 2, 3, 4, 5], [0, 1, 2, 3, 4, 5, 6]] (fun D e sx => Mv (fun t => t = (N + 1) ∨ t = (N + 3)) (Sig.fz (N + 6) (Sig.fz (N + 5) (Sig.fz (N + 4) (Sig.fz (N + 2) s36)))) sx ∧ Sub [(4, .pointer (some ⟨b30, 0, none⟩)), (2, .pointer (some ⟨b8, 0, none⟩)), (1, .pointer (some ⟨b5, 0, none⟩))] e ∧ (D 0 = true → (Env.get e 17 = some (.agg #[.slice a26 r23.1.length c26, .int .i64 r23.2.1, .slice a27 r23.2.2.1.length c27, .slice a28 r23.2.2.2.length c28]))) ∧ (D 1 = true → (Env.get e 18 = some (.pointer (some ⟨b5, 28, none⟩)))) ∧ (D 2 = true → (Env.get e 19 = some (.int .u8 p0.2.2))) ∧ (D 3 = true → (∃ (a48 : Option Addr) (c48 : Nat), Env.get e 20 = some (.slice a48 r45.length c48))) ∧ (D 4 = true → (Env.get e 21 = some (.func (.func 49) #[] #[.pointer (some ⟨b30, 0, none⟩)]) ∧ FV1 Try.prog sx (.func (.func 49) #[] #[.pointer (some ⟨b30, 0, none⟩)]) (fun (x0 : Int) => [.int .i64 x0]) (fun (r : Bool) => .bool r) (m_overseerlaw53_Make_1 r23))) ∧ (D 5 = true → (∃ (a55 : Option Addr) (c55 : Nat), Env.get e 22 = some (.slice a55 r52.1.length c55))) ∧ (D 7 = true → ∀ (a55 : Option Addr) (c55 : Nat), Env.get e 22 = some (.slice a55 r52.1.length c55) → (Env.get e 3 = some (.slice a55 r52.1.length c55))) ∧ (D 6 = false → Bx sx (N + 1) b8 #[.slice none 0 0, .int .i64 0, .slice none 0 0, .slice none 0 0] 26) ∧ (D 6 = true → Bx sx (N + 1) b8 #[.slice a26 r23.1.length c26, .int .i64 r23.2.1, .slice a27 r23.2.2.1.length c27, .slice a28 r23.2.2.2.length c28] 26) ∧ (D 3 = true → D 5 = false → ∀ (a48 : Option Addr) (c48 : Nat), Env.get e 20 = some (.slice a48 r45.length c48) → RowT (rK .i64) sx (N + 3) 3 a48 c48 r45) ∧ (D 5 = true → ∀ (a48 : Option Addr) (c48 : Nat) (a55 : Option Addr) (c55 : Nat), Env.get e 20 = some (.slice a48 r45.length c48) → Env.get e 22 = some (.slice a55 r52.1.length c55) → RowT (rK .i64) sx (N + 3) 3 a55 c55 r52.1 ∧ RowT (rK .i64) sx (N + 3) 3 a48 c48 r52.2)) (by kernel_rfl) (by kernel_rfl) (by kernel_rfl) ?_ ?_ ?_
  ·intro sz mz
   exact ⟨mz.no, (Sub.rf rfl), nofun, nofun, nofun, nofun, nofun, nofun, nofun, fun _ => bx8.mv mz no_No, nofun, nofun, nofun⟩
  ·refine ⟨?_, ?_, ?_, ?_, ?_, ?_, ?_, ?_, trivial⟩
   ·rintro D e s41 ⟨im, ib, i0, t_⟩ hk hf ha
    have bx30 := bx30.mv im (nor (tg0 hN) (tg0 hN))
    have kn : Kn e [(4, .pointer (some ⟨b30, 0, none⟩))] := ⟨(ib 4 _ rfl), trivial⟩
    exact L.kns _ kn (L.lg (j := 0) (cs := [.slice a26 r23.1.length c26, .int .i64 r23.2.1, .slice a27 r23.2.2.1.length c27, .slice a28 r23.2.2.2.length c28]) bx30.mem ag26 Wt.no rfl rfl rfl rfl rfl (L.nil (X.dk kn ⟨im, Sub.fresh ib rfl, fun _ => rfl, t_⟩)))
   ·rintro D e s42 ⟨im, ib, i0, i1, t_⟩ hk hf ha
    have kn : Kn e [(1, .pointer (some ⟨b5, 0, none⟩))] := ⟨(ib 1 _ rfl), trivial⟩
    exact L.kns _ kn (L.fa fa51_2 Wt.no rfl rfl (L.nil (X.dk kn ⟨im, Sub.fresh ib rfl, i0, fun _ => rfl, t_⟩)))
   ·rintro D e s43 ⟨im, ib, i0, i1, i2, t_⟩ hk hf ha
    obtain ⟨d1, -⟩ := ha
    have g1_ := i1 d1
    have bx5 := bx5.mv im (nor (tgN (by decide)) (tgN (by decide)))
    have kn : Kn e [(18, .pointer (some ⟨b5, 28, none⟩))] := ⟨g1_, trivial⟩
    exact L.kns _ kn (L.ld (j := 28) bx5.mem nag45 Wt.no rfl rfl rfl rfl (L.nil (X.dk kn ⟨im, Sub.fresh ib rfl, i0, i1, fun _ => rfl, t_⟩)))
   ·rintro D e s44 ⟨im, ib, i0, i1, i2, i3, i4, i5, i6, i7, i8, i9, i10⟩ hk hf ha
    obtain ⟨d1, d2, -⟩ := ha
    have g2_ := i2 d2
    have kn : Kn e [(19, .int .u8 p0.2.2)] := ⟨g2_, trivial⟩
    refine L.kns _ kn (L.ca cf47 rfl rfl Wt.no rfl (m_overseerlaw03_Set_Events_c (s := s44) (p0 := p0.2.2) (u0 := (N + 3)) er45) rfl ?_)
    rintro _ s46 m47 ⟨a48, c48, rfl, h48⟩
    exact L.nil (X.dk kn ⟨im.trans m47.no, Sub.fresh ib rfl, i0, i1, i2, fun _ => ⟨a48, c48, rfl⟩, fun z => let ⟨q, h50⟩ := i4 z; ⟨q, (h50.mono (m47.le no_No))⟩, i5, i6, fun z2 => ((i7 z2).mv m47 no_No), fun z => ((i8 z).mv m47 no_No), fun _ _ _ _ q3 => by cases (show some (.slice a48 r45.length c48 : Value) = some _ from q3); exact h48, fun z => Bool.noConfusion ((hf 5 (Nat.le_of_ble_eq_true rfl) rfl).symm.trans z)⟩)
   ·rintro D e s49 ⟨im, ib, i0, i1, i2, i3, i4, t_⟩ hk hf ha
    have bx30 := bx30.mv im (nor (tg0 hN) (tg0 hN))
    have h26 := h26.mono (im.le (nor (tg0 hN) (tg0 hN)))
    have h27 := h27.mono (im.le (nor (tg0 hN) (tg0 hN)))
    have h28 := h28.mono (im.le (nor (tg0 hN) (tg0 hN)))
    have kn : Kn e [(4, .pointer (some ⟨b30, 0, none⟩))] := ⟨(ib 4 _ rfl), trivial⟩
    refine L.kns _ kn ?_
    have h50 : FV1 Try.prog s49 (.func (.func 49) #[] #[.pointer (some ⟨b30, 0, none⟩)]) (fun (x0 : Int) => [.int .i64 x0]) (fun (r : Bool) => .bool r) (m_overseerlaw53_Make_1 r23) := ⟨49, #[], #[.pointer (some ⟨b30, 0, none⟩)], rfl, cf49, fun x0 r hm s' hl => by have hh := m_overseerlaw53_Make_1_c (s := s') (h26.mono hl) (h27.mono hl) (h28.mono hl) (bx30.le hl) hm; simpa using hh⟩
    exact L.mf Wt.no rfl rfl rfl (L.nil (X.dk kn ⟨im, Sub.fresh ib rfl, i0, i1, i2, i3, fun _ => ⟨rfl, h50⟩, t_⟩))
   ·rintro D e s51 ⟨im, ib, i0, i1, i2, i3, i4, i5, i6, i7, i8, i9, i10⟩ hk hf ha
    obtain ⟨d1, d2, d3, d4, -⟩ := ha
    obtain ⟨a48, c48, g3_⟩ := i3 d3
    obtain ⟨g4_, h50⟩ := i4 d4
    obtain h48 := i9 d3 hk a48 c48 g3_
    have kn : Kn e [(20, .slice a48 r45.length c48), (21, (.func (.func 49) #[] #[.pointer (some ⟨b30, 0, none⟩)]))] := ⟨g3_, g4_, trivial⟩
    refine L.kns _ kn (L.ca cf48 rfl rfl Wt.no rfl (m_slices_DeleteFunc_int_c (s := s51) (p0 := r45) (p1 := (m_overseerlaw53_Make_1 r23)) (t0 := (N + 3)) (tpos hN) h48 h50 er52) rfl ?_)
    rintro _ s53 m54 ⟨a55, c55, rfl, h55, h48⟩
    exact L.nil (X.dk kn ⟨im.trans (m54.one (.inr rfl)), Sub.fresh ib rfl, i0, i1, i2, i3, fun z => let ⟨q, h50⟩ := i4 z; ⟨q, (h50.mono (m54.le (tg0 hN)))⟩, fun _ => ⟨a55, c55, rfl⟩, fun z => Bool.noConfusion ((hf 7 (Nat.le_of_ble_eq_true rfl) rfl).symm.trans z), fun z2 => ((i7 z2).mv m54 (tgN (by decide))), fun z => ((i8 z).mv m54 (tgN (by decide))), fun _ z => Bool.noConfusion (show true = false from z), fun _ _ _ _ _ q3 q5 => by cases g3_.symm.trans q3; cases (show some (.slice a55 r52.1.length c55 : Value) = some _ from q5); exact ⟨h55, h48⟩⟩)
   ·rintro D e s57 ⟨im, ib, i0, i1, i2, i3, i4, i5, i6, i7, i8, i9, i10⟩ hk hf ha
    obtain ⟨d0, d1, d2, d3, d4, d5, -⟩ := ha
    have g0_ := i0 d0
    obtain bx8 := i7 hk
    have kn : Kn e [(2, .pointer (some ⟨b8, 0, none⟩)), (17, .agg #[.slice a26 r23.1.length c26, .int .i64 r23.2.1, .slice a27 r23.2.2.1.length c27, .slice a28 r23.2.2.2.length c28])] := ⟨(ib 2 _ rfl), g0_, trivial⟩
    exact L.kns _ kn (L.st (c := [.slice a26 r23.1.length c26, .int .i64 r23.2.1, .slice a27 r23.2.2.1.length c27, .slice a28 r23.2.2.2.length c28]) (cs' := #[.slice a26 r23.1.length c26, .int .i64 r23.2.1, .slice a27 r23.2.2.1.length c27, .slice a28 r23.2.2.2.length c28]) bx8 ag26.sz Wt.no rfl rfl rfl rfl rfl (Nat.le_of_ble_eq_true rfl) rfl fun s58 m59 bx8 => L.nil (X.dn kn ⟨im.trans (m59.one (.inl rfl)), ib, i0, i1, i2, i3, fun z => let ⟨q, h50⟩ := i4 z; ⟨q, (h50.mono (m59.le (tg0 hN)))⟩, i5, i6, fun z => Bool.noConfusion (show true = false from z), fun _ => by exact bx8, fun z z2 a48 c48 q3 => ((i9 z z2 a48 c48 q3).mv m59 (tgN (by decide)) (tg0 hN)), fun z a48 c48 a55 c55 q3 q5 => let ⟨h55, h48⟩ := i10 z a48 c48 a55 c55 q3 q5; ⟨(h55.mv m59 (tgN (by decide)) (tg0 hN)), (h48.mv m59 (tgN (by decide)) (tg0 hN))⟩⟩))
   ·rintro D e s60 ⟨im, ib, i0, i1, i2, i3, i4, i5, i6, t_⟩ hk hf ha
    obtain ⟨d0, d1, d2, d3, d4, d5, d6, -⟩ := ha
    obtain ⟨a55, c55, g5_⟩ := i5 d5
    have kn : Kn e [(22, .slice a55 r52.1.length c55)] := ⟨g5_, trivial⟩
    exact L.kns _ kn (L.as Wt.no rfl rfl (L.nil (X.dk kn ⟨im, Sub.fresh ib rfl, i0, i1, i2, i3, i4, i5, fun _ _ _ q5 => by cases g5_.symm.trans q5; exact rfl, t_⟩)))
  ·rintro D e s61 hD ⟨im, ib, i0, i1, i2, i3, i4, i5, i6, i7, i8, i9, i10⟩
   obtain ⟨a55, c55, g5_⟩ := i5 (hD 5 rfl)
   have g7_ := i6 (hD 7 rfl) a55 c55 g5_
   obtain bx8 := i8 (hD 6 rfl)
   obtain ⟨a48, c48, g3_⟩ := i3 (hD 3 rfl)
   obtain ⟨h55, h48⟩ := i10 (hD 5 rfl) a48 c48 a55 c55 g3_ g5_
   have h26 := h26.mono (im.le (nor (tg0 hN) (tg0 hN)))
   have h27 := h27.mono (im.le (nor (tg0 hN) (tg0 hN)))
   have h28 := h28.mono (im.le (nor (tg0 hN) (tg0 hN)))
   have m0 := m0.trans (im.weak fun _ e => by rcases e with e | e; (rw [e]; exact up); (rw [e]; exact up))
   refine X.sub (e' := [(3, .slice a55 r52.1.length c55), (2, .pointer (some ⟨b8, 0, none⟩))]) ?_ (Sub.cons g7_ (Sub.cons (ib 2 _ rfl) Sub.nil))
   refine X.seqN (E.ret ?_)
   obtain rfl := Option.some.inj hm
   exact X.rt (.inl rfl) Try.results16 (Rs.cell rfl bx8 ag26 rfl (Rs.tmp rfl Rs.nil)) rfl ⟨_, (s61).ren N (fun k => cond (Nat.beq k 3) u3 (0)), rfl, rfl, m0.ren hNb, ⟨a26, c26, a27, c27, a28, c28, a55, c55, rfl, (h26.ren hN), (h27.ren hN), (h28.ren hN), (h55.ren hN)⟩⟩

theorem ag51 : Ag Try.prog 51 29 := Ag.mk' Try.underlying51 rfl (by kernel_rfl)
theorem cf16 : Cf Try.prog 16 := Cf.mk Try.func16 (by kernel_rfl) (by kernel_rfl)
noncomputable def m_overseerlaw53_follow_j1 (st23 : Int × Bool × Int) (b29 : Bool) (n30 : Int) : Option ((Int × Bool × Int) ⊕ (Bool × Int)) :=
  some (.inl (W (st23.1 + 1), b29, n30))
noncomputable def m_overseerlaw53_follow_l1 (p0 : List Int × Int × List Int × (List (Int × Int × Int))) (p2 : List Int) (st23 : Int × Bool × Int) : Option ((Int × Bool × Int) ⊕ (Bool × Int)) :=
  if decide (st23.1 < (p2.length : Int)) then
    (idx p2 st23.1).bind fun x33 =>
    (m_overseerlaw53_step p0 st23.2.2 x33).bind fun r35 =>
    if decide (r35 < 0) then
      m_overseerlaw53_follow_j1 st23 true st23.2.2
    else
      m_overseerlaw53_follow_j1 st23 st23.2.1 r35
  else
    some (.inr st23.2)
/-- What overseerlaw53.follow computes. -/
noncomputable def m_overseerlaw53_follow (p0 : List Int × Int × List Int × (List (Int × Int × Int))) (p1 : Int) (p2 : List Int) : Option (Int × Bool) :=
  (iter (m_overseerlaw53_follow_l1 p0 p2) (0, false, p1)).bind fun o23 =>
  some (o23.2, o23.1)
set_option maxRecDepth 100000 in
set_option maxHeartbeats 8000000 in
theorem m_overseerlaw53_follow_c {s : Sig} {p0 : List Int × Int × List Int × (List (Int × Int × Int))} {p1 : Int} {p2 : List Int} {a1 : Option Addr} {c1 : Nat} {a2 : Option Addr} {c2 : Nat} {a3 : Option Addr} {c3 : Nat} {a4 : Option Addr} {c4 : Nat} {r : Int × Bool} (h1 : RdL (rK .i64) s a1 c1 p0.1) (h2 : RdL (rK .i64) s a2 c2 p0.2.2.1) (h3 : RdL (rP (rK .i64) (rP (rK .i64) (rK .i64))) s a3 c3 p0.2.2.2) (h4 : RdL (rK .i64) s a4 c4 p2) (hm : m_overseerlaw53_follow p0 p1 p2 = some r) :
    Calls Try.prog 21 #[.agg #[.slice a1 p0.1.length c1, .int .i64 p0.2.1, .slice a2 p0.2.2.1.length c2, .slice a3 p0.2.2.2.length c3], .int .i64 p1, .slice a4 p2.length c4] s.w (RetS No s fun v s' => v = .tuple #[.int .i64 r.1, .bool r.2]) := by
 unfold m_overseerlaw53_follow at hm
 obtain ⟨N, hN, hNb⟩ := s.fresh
 have m0 : Mv (Up N No) s s := Mv.refl _ _
 refine E.entry Try.func21 rfl Try.ntmps21 rfl rfl (E.seq (E.reg (L.box (N + 0) Wt.no rfl rfl rfl fun b5 s6 m7 bx5 => ?_)))
 replace m0 := m0.trans m7.no
 replace h4 := h4.mono (m7.le no_No)
 replace h1 := h1.mono (m7.le no_No)
 replace h2 := h2.mono (m7.le no_No)
 replace h3 := h3.mono (m7.le no_No)
 refine L.as Wt.no rfl rfl (L.as Wt.no rfl rfl (L.nil (X.seqN (E.seq (E.reg (L.as Wt.no rfl rfl (L.nil (X.seqN (E.seq (E.seq (E.reg (L.mv Wt.no rfl rfl (L.len sl23 Wt.no rfl rfl (L.mv Wt.no rfl rfl (L.nil (X.seqN (E.block ?_)))))))))))))))))
 obtain ⟨o23, eo23, hm⟩ := bindS hm
 refine E.cut (x := .exit 0) (fun e w => ∃ (s27 : Sig), Mv (Up N No) s s27 ∧ e = [(8, .bool o23.1), (1, .int .i64 o23.2)] ∧ w = s27.w) ?_ ?_
 ·rintro _ _ ⟨s27, m0, rfl, rfl⟩
  refine X.blkE (X.seqN (E.seq (E.reg (L.mv Wt.no rfl rfl (L.mv Wt.no rfl rfl (L.as Wt.no rfl rfl (L.as Wt.no rfl rfl (L.nil (X.seqN (E.ret ?_))))))))))
  obtain rfl := Option.some.inj hm
  exact X.rt (.inl rfl) Try.results21 (Rs.tmp rfl (Rs.tmp rfl Rs.nil)) rfl ⟨_, (s27).ren N (fun _ => 0), rfl, rfl, m0.ren hNb, rfl⟩
 intro K28
 refine E.iter (fun (st23 : Int × Bool × Int) (e : List (Nat × Value)) (w : World) => ∃ (s26 : Sig), Mv (Up N No) s s26 ∧ RdL (rK .i64) s26 a4 c4 p2 ∧ RdL (rK .i64) s26 a1 c1 p0.1 ∧ RdL (rK .i64) s26 a2 c2 p0.2.2.1 ∧ RdL (rP (rK .i64) (rP (rK .i64) (rK .i64))) s26 a3 c3 p0.2.2.2 ∧ Bx s26 (N + 0) b5 #[.slice a1 p0.1.length c1, .int .i64 p0.2.1, .slice a2 p0.2.2.1.length c2, .slice a3 p0.2.2.2.length c3] 26 ∧ e = [(14, .int .i64 st23.1), (13, .int .i64 (p2.length : Int)), (12, .slice a4 p2.length c4), (8, .bool st23.2.1), (3, .pointer (some ⟨b5, 0, none⟩)), (1, .int .i64 st23.2.2)] ∧ w = s26.w) eo23 ⟨s6, m0, h4, h1, h2, h3, bx5, rfl, rfl⟩ (Sub.rf rfl) ?_
 rintro st23 res23 hm ih23 ho23 _ _ ⟨s26, m0, h4, h1, h2, h3, bx5, rfl, rfl⟩
 unfold m_overseerlaw53_follow_l1 at hm
 refine E.seq (E.reg (L.bi Wt.no rfl rfl rfl rfl (L.nil (X.seqN (E.seq ?_)))))
 rcases ifS hm with ⟨hc, hm⟩ | ⟨hc, hm⟩
 ·refine E.cT rfl hc (E.skip (X.seqN (E.seqJ (fun e w => ∃ (s31 : Sig) (b29 : Bool) (n30 : Int), m_overseerlaw53_follow_j1 st23 b29 n30 = some res23 ∧ Mv (Up N No) s s31 ∧ RdL (rK .i64) s31 a4 c4 p2 ∧ RdL (rK .i64) s31 a1 c1 p0.1 ∧ RdL (rK .i64) s31 a2 c2 p0.2.2.1 ∧ RdL (rP (rK .i64) (rP (rK .i64) (rK .i64))) s31 a3 c3 p0.2.2.2 ∧ Bx s31 (N + 0) b5 #[.slice a1 p0.1.length c1, .int .i64 p0.2.1, .slice a2 p0.2.2.1.length c2, .slice a3 p0.2.2.2.length c3] 26 ∧ e = [(8, .bool b29), (14, .int .i64 st23.1), (13, .int .i64 (p2.length : Int)), (12, .slice a4 p2.length c4), (3, .pointer (some ⟨b5, 0, none⟩)), (1, .int .i64 n30)] ∧ w = s31.w) ?_ ?_)))
  ·rintro _ _ ⟨s31, b29, n30, hm, m0, h4, h1, h2, h3, bx5, rfl, rfl⟩
   unfold m_overseerlaw53_follow_j1 at hm
   exact E.reg (L.bi Wt.no rfl rfl rfl rfl (L.mv Wt.no rfl rfl (L.nil (X.sub (ih23 _ (Option.some.inj hm).symm _ _ ⟨s31, m0, h4, h1, h2, h3, bx5, rfl, rfl⟩) (Sub.rf rfl)))))
  ·intro Jj32
   refine E.block (E.seq (E.reg ?_))
   obtain ⟨x33, ex33, hm⟩ := bindS hm
   refine L.ix (r := (rK .i64)) sl23 h4 Wt.no rfl rfl ex33 rfl fun b34 o34 cc34 me34 rd34 => ?_
   obtain rfl := rd34
   refine L.ld (j := 0) me34 nag3 Wt.no rfl rfl rfl rfl (L.as Wt.no rfl rfl (L.nil (X.seqN (E.seq (E.reg (L.lg (j := 0) (cs := [.slice a1 p0.1.length c1, .int .i64 p0.2.1, .slice a2 p0.2.2.1.length c2, .slice a3 p0.2.2.2.length c3]) bx5.mem ag26 Wt.no rfl rfl rfl rfl rfl (L.mv Wt.no rfl rfl (L.mv Wt.no rfl rfl ?_))))))))
   obtain ⟨r35, er35, hm⟩ := bindS hm
   refine L.ca cf45 rfl rfl Wt.no rfl (m_overseerlaw53_step_c (s := s26) (p0 := p0) (p1 := st23.2.2) (p2 := x33) h1 h2 h3 er35) rfl ?_
   rintro _ s36 m37 rfl
   replace m0 := m0.trans m37.no
   replace h4 := h4.mono (m37.le no_No)
   replace bx5 := bx5.mv m37 no_No
   replace h1 := h1.mono (m37.le no_No)
   replace h2 := h2.mono (m37.le no_No)
   replace h3 := h3.mono (m37.le no_No)
   refine L.as Wt.no rfl rfl (L.nil (X.seqN (E.seq (E.seq (E.reg (L.mv Wt.no rfl rfl (L.bi Wt.no rfl rfl rfl rfl (L.nil (X.seqN ?_)))))))))
   rcases ifS hm with ⟨hc, hm⟩ | ⟨hc, hm⟩
   ·exact E.cT rfl hc (E.seq (E.reg (L.as Wt.no rfl rfl (L.nil (X.seqN (E.exit (X.seqX (X.blkE (X.sub (Jj32 _ _ ⟨s36, true, st23.2.2, hm, m0, h4, h1, h2, h3, bx5, rfl, rfl⟩) (Sub.rf rfl))))))))))
   ·exact E.cF rfl hc (E.skip (X.seqN (E.reg (L.mv Wt.no rfl rfl (L.as Wt.no rfl rfl (L.nil (X.blkN (X.sub (Jj32 _ _ ⟨s36, st23.2.1, r35, hm, m0, h4, h1, h2, h3, bx5, rfl, rfl⟩) (Sub.rf rfl)))))))))
 ·refine E.cF rfl hc (E.exit (X.seqX (X.seqX ?_)))
  have hx := ho23 _ (Option.some.inj hm).symm
  subst hx
  exact X.sub (K28 _ _ ⟨s26, m0, rfl, rfl⟩) (Sub.rf rfl)

theorem cf21 : Cf Try.prog 21 := Cf.mk Try.func21 (by kernel_rfl) (by kernel_rfl)
end Go.Proofs.Ytkkemchihllklaa

namespace Go.Proofs.Ytkkemchihllklaa
open Go Go.RowKit

theorem getD_at {xs : List Int} {i : Nat} (h : i < xs.length) : xs.getD i 0 = xs[i] := by
  rw [List.getD_eq_getElem?_getD, List.getElem?_eq_getElem h]; rfl
/-- What the walks of chapter 3 ask of an automaton. -/
structure A3 (a : Aut) (n : Nat) : Prop where
  n1 : n ≤ 4096
  es : ∀ x ∈ a.es, 0 ≤ x.t ∧ x.t < (n : Int)
  el : a.es.length ≤ 1000000
  al : a.al.length ≤ 32
  ml : a.ms.length ≤ 1000000
section
variable {a : Aut} {n : Nat}
theorem found_row (h : A3 a n) {i : Nat} {out y : List Int} (hq : QOk n out) (hi : i < out.length) : iter (m_overseerref03_Found_l2 (autP a) ((i : Int), y)) (0, out) = some (a.al.foldl (c3In a.es (out.getD i 0)) out) := by
  have hel := h.el; have hal := h.al; have hn1 := h.n1
  refine (iter_foldl (f := m_overseerref03_Found_l2 (autP a) ((i : Int), y)) (xs := a.al) (fun k s => ((k : Int), s)) (c3In a.es (out.getD i 0)) (fun s => s) (fun _ s => QOk n s ∧ ∃ r, s = out ++ r) (by omega) (fun k hk s hp => ?_) (fun s hp => ?_) ⟨hq, [], (List.append_nil _).symm⟩).1
  · obtain ⟨hs, r, rfl⟩ := hp
    obtain ⟨h1, ⟨r1, h2⟩, -⟩ := c3In_fold h.es (s := out.getD i 0) [a.al[k]] _ hs
    rw [List.foldl_cons, List.foldl_nil] at h1 h2
    refine ⟨?_, h1, r ++ r1, by rw [h2, List.append_assoc]⟩
    have hlen := hs.len
    have hil : i < (out ++ r).length := by rw [List.length_append]; omega
    have hr := hq.rng out[i] (List.getElem_mem hi)
    have hj : ∀ l : List Int, m_overseerref03_Found_j2 ((k : Int), out ++ r) l = some (.inl (((k + 1 : Nat) : Int), l)) := fun l => by
      rw [m_overseerref03_Found_j2]; dsimp only; rw [nxt (by omega)]
    rw [m_overseerref03_Found_l2]
    dsimp only
    rw [if_pos (show decide ((k : Int) < ((autP a).1.length : Int)) = true from ct_lt hk), idx_at hil, Option.bind_some, show idx (autP a).1 (k : Int) = some a.al[k] from idx_at hk, Option.bind_some, List.getElem_append_left hi,
      show out[i] = ((out[i].toNat : Nat) : Int) by omega, rstep_eq (by omega) (fun x hx => (h.es x hx).1), Option.bind_some]
    rw [c3In, getD_at hi, stF]
    cases hst : stepF a.es out[i].toNat a.al[k] with
    | none => exact hj _
    | some t =>
      dsimp only
      rw [if_pos (by simp), rhas_eq (by omega), Option.bind_some, Option.bind_some]
      cases hb : hasB (out ++ r) (t : Int) with
      | true => rw [if_neg (by simp), if_pos rfl, hj]
      | false => rw [if_pos (by simp), if_neg (by simp), app_eq (by rw [List.length_cons, List.length_nil]; omega), Option.bind_some, hj]
  · rw [m_overseerref03_Found_l2]
    dsimp only
    rw [if_neg (show ¬ decide ((a.al.length : Int) < ((autP a).1.length : Int)) = true from ct_ge)]
theorem found_go (h : A3 a n) : ∀ (f i : Nat) (out : List Int), QOk n out → n + 1 ≤ i + f → iterF (m_overseerref03_Found_l1 (autP a)) (f + 1) ((i : Int), out) = some (c3Loop a.es a.al f i out)
  | 0, i, out, hq, hf => by
    have := hq.len
    rw [iterF_succ, m_overseerref03_Found_l1]
    dsimp only
    rw [if_neg (by simp; omega)]
    rfl
  | f + 1, i, out, hq, hf => by
    have hl := hq.len
    have hn1 := h.n1
    rw [iterF_succ, m_overseerref03_Found_l1, c3Loop]
    dsimp only
    by_cases hi : i < out.length
    · rw [if_pos (by simpa using hi), if_pos hi, found_row h hq hi, Option.bind_some, nxt (by omega)]
      exact found_go h f (i + 1) _ (c3In_fold h.es a.al out hq).1 (by omega)
    · rw [if_neg (by simpa using hi), if_neg hi]
theorem found_eq (h : A3 a n) (hn : a.n = n) (h0 : 0 < n) : m_overseerref03_Found (autP a) = some (foundL a) ∧ QOk n (foundL a) := by
  have hn1 := h.n1
  have hq0 : QOk n [0] := ⟨by simp, fun s hs => by rw [List.mem_singleton.1 hs]; omega⟩
  have hg := found_go h (n + 1) 0 [0] hq0 (by omega)
  have hfd : foundL a = c3Loop a.es a.al (n + 1) 0 [0] := by rw [foundL, if_neg (by omega), hn, Int.toNat_natCast]
  refine ⟨?_, ?_⟩
  · rw [m_overseerref03_Found, if_pos (show decide ((autP a).2.1 > 0) = true from decide_eq_true (show a.n > 0 by omega)), app_eq (by simp), Option.bind_some, m_overseerref03_Found_j1, show iter (m_overseerref03_Found_l1 (autP a)) (0, ([] : List Int) ++ [0]) = _ from iter_of (by omega) hg, hfd]
    rfl
  · rw [hfd]
    exact (c3_loop h.es (n + 1) 0 [0] hq0 (fun k hk => absurd hk (Nat.not_lt_zero _)) (by omega)).1
def c3Put (a : Aut) (q : List Int) (i : Nat) (out : List (Int × Int × Int)) (e : Int) : List (Int × Int × Int) := match stepF a.es (q.getD i 0).toNat e with
  | some t => out ++ [((i : Int), e, idxI q (t : Int))]
  | none => out
theorem c3Put_fold (q : List Int) (i : Nat) : ∀ (al : List Int) (out : List (Int × Int × Int)), al.foldl (c3Put a q i) out = out ++ (c3Row ⟨al, a.n, a.ms, a.es⟩ q i).map edP
  | [], out => by simp [c3Row]
  | e :: al, out => by
    rw [List.foldl_cons, c3Put_fold q i al, c3Put, c3Row, c3Row]
    dsimp only
    rw [List.filterMap_cons]
    generalize stepF a.es (q.getD i 0).toNat e = r
    cases r <;> simp [edP]
theorem c3Row_len (q : List Int) (i : Nat) : (c3Row a q i).length ≤ a.al.length := List.length_filterMap_le _ _
theorem rows_len (q : List Int) : ∀ m, ((List.range m).flatMap (c3Row a q)).length ≤ m * a.al.length
  | 0 => by simp
  | m + 1 => by
    have h1 := rows_len q m
    have h2 := c3Row_len (a := a) q m
    rw [List.range_succ, List.flatMap_append, List.length_append, Nat.succ_mul]
    simp only [List.flatMap_cons, List.flatMap_nil, List.append_nil]
    omega
theorem canon_row (h : A3 a n) {q : List Int} (hq : QOk n q) {i : Nat} (hi : i < q.length) {ms : List Int} {x y : List (Int × Int × Int)} (hx : x.length ≤ 4000000) : iter (m_overseerref03_Canonical_l2 (autP a) q ((i : Int), ms, y)) (0, x) = some (x ++ (c3Row a q i).map edP) := by
  have hel := h.el; have hal := h.al; have hn1 := h.n1; have hql := hq.len
  have hr := hq.rng q[i] (List.getElem_mem hi)
  refine ((iter_foldl (f := m_overseerref03_Canonical_l2 (autP a) q ((i : Int), ms, y)) (xs := a.al) (fun k s => ((k : Int), s)) (c3Put a q i) (fun s => s) (fun k s => s.length ≤ x.length + k) (by omega) (fun k hk s hp => ?_) (fun s hp => ?_) (Nat.le_refl _)).1).trans (by rw [c3Put_fold])
  · have hj : ∀ l : List (Int × Int × Int), m_overseerref03_Canonical_j2 ((k : Int), s) l = some (.inl (((k + 1 : Nat) : Int), l)) := fun l => by
      rw [m_overseerref03_Canonical_j2]; dsimp only; rw [nxt (by omega)]
    rw [m_overseerref03_Canonical_l2, c3Put, getD_at hi]
    dsimp only
    rw [if_pos (show decide ((k : Int) < ((autP a).1.length : Int)) = true from ct_lt hk), idx_at hi, Option.bind_some, show idx (autP a).1 (k : Int) = some a.al[k] from idx_at hk, Option.bind_some,
      show q[i] = ((q[i].toNat : Nat) : Int) by omega, rstep_eq (by omega) (fun x hx => (h.es x hx).1), Option.bind_some, stF, Int.toNat_natCast]
    cases hst : stepF a.es q[i].toNat a.al[k] with
    | none => exact ⟨hj _, by dsimp only; omega⟩
    | some t =>
      dsimp only
      rw [if_pos (by simp), Option.bind_some, rindex_eq (by omega), Option.bind_some, app_eq (by rw [List.length_cons, List.length_nil]; omega), Option.bind_some, hj]
      exact ⟨rfl, by rw [List.length_append, List.length_cons, List.length_nil]; omega⟩
  · rw [m_overseerref03_Canonical_l2]
    dsimp only
    rw [if_neg (show ¬ decide ((a.al.length : Int) < ((autP a).1.length : Int)) = true from ct_ge)]
/-- The canonical form. -/
theorem canon_eq (h : A3 a n) (hn : a.n = n) (h0 : 0 < n) : m_overseerref03_Canonical (autP a) = some (autP (canon3 a)) := by
  have hel := h.el; have hal := h.al; have hn1 := h.n1; have hml := h.ml
  obtain ⟨hf, hq⟩ := found_eq h hn h0
  have hql := hq.len
  generalize hqq : foundL a = q at hf hq hql
  have hi := iter_run (f := m_overseerref03_Canonical_l1 (autP a) q) (fun i => ((i : Int), (((List.range i).filter fun i => hasB a.ms (q.getD i 0)).map fun (i : Nat) => (i : Int)), ((List.range i).flatMap (c3Row a q)).map edP)) q.length (by omega) (o := (rrMs a.ms q, ((List.range q.length).flatMap (c3Row a q)).map edP)) (fun i hi => by
    have hrl := rows_len (a := a) q i
    have hmul : i * a.al.length ≤ 4096 * 32 := Nat.mul_le_mul (by omega) hal
    have hfl : ((List.range i).filter fun i => hasB a.ms (q.getD i 0)).length ≤ i := Nat.le_trans (List.length_filter_le ..) (by simp)
    have hr := hq.rng q[i] (List.getElem_mem hi)
    have hj : ∀ (m1 : List Int), m_overseerref03_Canonical_j1 (autP a) q ((i : Int), (((List.range i).filter fun i => hasB a.ms (q.getD i 0)).map fun (i : Nat) => (i : Int)), ((List.range i).flatMap (c3Row a q)).map edP) m1 = some (.inl (((i + 1 : Nat) : Int), m1, ((List.range (i + 1)).flatMap (c3Row a q)).map edP)) := fun m1 => by
      rw [m_overseerref03_Canonical_j1]
      dsimp only
      rw [canon_row h hq hi (by rw [List.length_map]; omega), Option.bind_some, nxt (by omega), List.range_succ, List.flatMap_append, List.map_append]
      simp only [List.flatMap_cons, List.flatMap_nil, List.append_nil]
    rw [m_overseerref03_Canonical_l1]
    dsimp only
    rw [if_pos (ct_lt hi), idx_at hi, Option.bind_some, show m_overseerref03_has (autP a).2.2.1 q[i] = some (hasB a.ms q[i]) from rhas_eq (xs := a.ms) (by omega), Option.bind_some]
    cases hb : hasB a.ms q[i] with
    | true =>
      rw [if_pos rfl, app_eq (by rw [List.length_map, List.length_cons, List.length_nil]; omega), Option.bind_some, hj, List.range_succ, List.filter_append, List.filter_cons_of_pos (by rw [getD_at hi, hb]), List.map_append]
      rfl
    | false =>
      rw [if_neg (by simp), hj, List.range_succ, List.filter_append, List.filter_cons_of_neg (by rw [getD_at hi, hb]; simp), List.filter_nil, List.append_nil]) (by
    rw [m_overseerref03_Canonical_l1]
    dsimp only
    rw [if_neg ct_ge]
    rfl)
  rw [m_overseerref03_Canonical, hf, Option.bind_some, show m_overseerref03_Empty (autP a).1 = some (a.al, 0, [], []) from rempty_eq (xs := a.al) (by omega), Option.bind_some, show iter (m_overseerref03_Canonical_l1 (autP a) q) (0, (a.al, (0 : Int), ([] : List Int), ([] : List (Int × Int × Int))).2.2) = _ from hi, Option.bind_some]
  rw [canon3, autP, hqq]
end
/-- The 25 cells of a graph. -/
def cells25 (g : (Int × Int × Int × Int × Int) × (Int × Int × Int × Int × Int) × (Int × Int × Int × Int × Int) × (Int × Int × Int × Int × Int) × (Int × Int × Int × Int × Int)) : List Int :=
  [g.1.1, g.1.2.1, g.1.2.2.1, g.1.2.2.2.1, g.1.2.2.2.2, g.2.1.1, g.2.1.2.1, g.2.1.2.2.1, g.2.1.2.2.2.1, g.2.1.2.2.2.2, g.2.2.1.1, g.2.2.1.2.1, g.2.2.1.2.2.1, g.2.2.1.2.2.2.1, g.2.2.1.2.2.2.2, g.2.2.2.1.1, g.2.2.2.1.2.1, g.2.2.2.1.2.2.1, g.2.2.2.1.2.2.2.1, g.2.2.2.1.2.2.2.2, g.2.2.2.2.1, g.2.2.2.2.2.1, g.2.2.2.2.2.2.1, g.2.2.2.2.2.2.2.1, g.2.2.2.2.2.2.2.2]
/-- The automaton of a graph is right. -/
theorem make3_ex {ev : List Int} (ie : Inc ev) (he : ∀ x ∈ ev, 0 ≤ x ∧ x < 32) (hel : ev.length ≤ 5) {s m : Int} {g : (Int × Int × Int × Int × Int) × (Int × Int × Int × Int × Int) × (Int × Int × Int × Int × Int) × (Int × Int × Int × Int × Int) × (Int × Int × Int × Int × Int)} (hs : 0 ≤ s ∧ s < 250) (hg : ∀ y ∈ cells25 g, 0 ≤ y ∧ y < 256) :
    ∃ a : Aut, m_overseerlaw03_Make ev (s, m, g) = some (autP a) ∧ a.err = 0 ∧ 1 ≤ a.n ∧ a.n ≤ 5 ∧ Sorted a.es ∧ a.al = ev ∧ a.es.length ≤ 25 ∧ a.ms.length ≤ 5 := by
  obtain ⟨n, hn0, hn5, hn⟩ : ∃ n : Nat, 0 < n ∧ n ≤ 5 ∧ W (1 + W (s.tmod 5)) = (n : Int) := by
    refine ⟨(1 + s % 5).toNat, by omega, by omega, ?_⟩
    rw [Int.tmod_eq_emod_of_nonneg hs.1, W_of (x := s % 5) (by omega) (by omega), W_of (by omega) (by omega)]
    omega
  have hn2 : W ((n : Int) + 2) = ((n + 2 : Nat) : Int) := by rw [show (n : Int) + 2 = ((n + 2 : Nat) : Int) by omega, W_nat (by omega)]
  have key : ∃ o : List Int × List (Int × Int × Int), iter (m_overseerlaw03_Make_l1 ev (s, m, g)) (0, ([] : List Int), ([] : List (Int × Int × Int))) = some o ∧ o.1.length ≤ 5 ∧ ∃ es : List Ed, o.2 = es.map edP ∧ es.length ≤ 25 ∧ ∀ x ∈ es, 0 ≤ x.t ∧ x.t < (n : Int) := by
    refine iter_inv (f := m_overseerlaw03_Make_l1 ev (s, m, g)) (fun i t => t.1 = (i : Int) ∧ t.2.1.length ≤ i ∧ ∃ es : List Ed, t.2.2 = es.map edP ∧ es.length ≤ 5 * i ∧ ∀ x ∈ es, 0 ≤ x.t ∧ x.t < (n : Int)) _ n 0 (by omega) (fun i t hi ⟨e1, e2, es, e3, e4, e5⟩ => ?_) (fun t ⟨e1, e2, es, e3, e4, e5⟩ => ?_) (by omega) _ ⟨rfl, by simp, [], rfl, by simp, fun x hx => by cases hx⟩
    · obtain ⟨t1, t2, t3⟩ := t
      dsimp only at e1 e2 e3 e4
      subst e1; subst e3
      have hj : ∀ l : List Int, l.length ≤ i + 1 → ∃ s', m_overseerlaw03_Make_j1 ev (s, m, g) ((i : Int), t2, es.map edP) l = some (.inl s') ∧ s'.1 = ((i + 1 : Nat) : Int) ∧ s'.2.1.length ≤ i + 1 ∧ ∃ es : List Ed, s'.2.2 = es.map edP ∧ es.length ≤ 5 * (i + 1) ∧ ∀ x ∈ es, 0 ≤ x.t ∧ x.t < (n : Int) := by
        intro l hl
        obtain ⟨o, h1, h2⟩ := iter_inv (f := m_overseerlaw03_Make_l2 ev (s, m, g) ((i : Int), t2, es.map edP)) (fun k t => t.1 = (k : Int) ∧ ∃ es' : List Ed, t.2 = es'.map edP ∧ es'.length ≤ es.length + k ∧ ∀ x ∈ es', 0 ≤ x.t ∧ x.t < (n : Int)) (fun o => ∃ es' : List Ed, o = es'.map edP ∧ es'.length ≤ es.length + 5 ∧ ∀ x ∈ es', 0 ≤ x.t ∧ x.t < (n : Int)) ev.length 0 (by omega) (fun k t hk ⟨g1, es', g3, g4, g5⟩ => by
            obtain ⟨u1, u2⟩ := t
            dsimp only at g1 g3
            subst g1; subst g3
            have hj2 : ∀ l : List (Int × Int × Int), m_overseerlaw03_Make_j2 ((k : Int), es'.map edP) l = some (.inl (((k + 1 : Nat) : Int), l)) := fun l => by
              rw [m_overseerlaw03_Make_j2]; dsimp only; rw [nxt (by omega)]
            left
            have hlt : i * 5 + k * 1 < (cells25 g).length := by show _ < 25; omega
            obtain ⟨v, hcell, hv⟩ : ∃ v, (cells25 g)[i * 5 + k * 1]? = some v ∧ 0 ≤ v ∧ v < 256 := ⟨_, List.getElem?_eq_getElem hlt, hg _ (List.getElem_mem hlt)⟩
            rw [cells25] at hcell
            rw [m_overseerlaw03_Make_l2]
            dsimp only
            rw [if_pos (by simp; omega), show rng (i : Int) 5 = some () from if_pos (by simp; omega), Option.bind_some, show rng (k : Int) 5 = some () from if_pos (by simp; omega), Option.bind_some, Int.toNat_natCast, Int.toNat_natCast, hcell, Option.bind_some, hn, hn2, show nz ((n + 2 : Nat) : Int) = some () from if_neg (by omega), Option.bind_some, W_of (x := v) (by omega) (by omega), Int.tmod_eq_emod_of_nonneg hv.1]
            have hm0 := Int.emod_nonneg v (show ((n + 2 : Nat) : Int) ≠ 0 by omega)
            by_cases hlt2 : v % ((n + 2 : Nat) : Int) < (n : Int)
            · rw [if_pos (decide_eq_true hlt2), idx_at hk, Option.bind_some, app_eq (by rw [List.length_map, List.length_cons, List.length_nil]; omega), Option.bind_some, hj2]
              refine ⟨_, rfl, rfl, es' ++ [⟨(i : Int), ev[k], v % ((n + 2 : Nat) : Int)⟩], by simp [edP], by simp; omega, fun x hx => ?_⟩
              rcases List.mem_append.1 hx with h | h
              · exact g5 x h
              · rw [List.mem_singleton.1 h]; exact ⟨hm0, hlt2⟩
            · rw [if_neg (by simpa using hlt2), hj2]
              exact ⟨_, rfl, rfl, es', rfl, by omega, g5⟩) (fun t ⟨g1, es', g3, g4, g5⟩ => by
            obtain ⟨u1, u2⟩ := t
            dsimp only at g1 g3
            subst g1; subst g3
            rw [m_overseerlaw03_Make_l2]
            dsimp only
            rw [if_neg (by simp)]
            exact ⟨_, rfl, es', rfl, by omega, g5⟩) (by omega) (0, es.map edP) ⟨rfl, es, rfl, by omega, e5⟩
        obtain ⟨es', g1, g2, g3⟩ := h2
        rw [m_overseerlaw03_Make_j1]
        dsimp only
        rw [h1, Option.bind_some, nxt (by omega)]
        exact ⟨_, rfl, rfl, hl, es', g1, by omega, g3⟩
      left
      rw [m_overseerlaw03_Make_l1]
      dsimp only
      rw [hn, if_pos (by simp; omega), show ng (i : Int) = some () from if_neg (by omega), Option.bind_some]
      split
      · rw [app_eq (by simp; omega), Option.bind_some]
        exact hj _ (by simp; omega)
      · exact hj _ (by omega)
    · obtain ⟨t1, t2, t3⟩ := t
      dsimp only at e1 e2 e3 e4
      subst e1; subst e3
      rw [m_overseerlaw03_Make_l1]
      dsimp only
      rw [hn, if_neg (by simp)]
      exact ⟨_, rfl, by dsimp only; omega, es, rfl, by omega, e5⟩
  obtain ⟨o, h1, h2, es, h3, h4, h5⟩ := key
  have hA : A3 ⟨ev, n, o.1, es⟩ n := ⟨by omega, h5, by show es.length ≤ _; omega, by show ev.length ≤ _; omega, by show o.1.length ≤ _; omega⟩
  have hal : setErr 32 none ev = 0 := setErr_ok ie he (fun q hq => by cases hq)
  obtain ⟨r1, r2, r3, r4, r5⟩ := canon3_right (a := ⟨ev, n, o.1, es⟩) (n := n) rfl hn0 h5 ie hal (by omega)
  refine ⟨canon3 ⟨ev, n, o.1, es⟩, ?_, r1, r2, by omega, r4, r5, ?_, ?_⟩
  · rw [m_overseerlaw03_Make]
    dsimp only
    rw [if_neg (by simp; omega), rempty_eq (by omega), Option.bind_some]
    dsimp only
    rw [h1, Option.bind_some, hn]
    obtain ⟨o1, o2⟩ := o
    dsimp only at h3
    subst h3
    rw [show m_overseerref03_Canonical (ev, (n : Int), o1, es.map edP) = _ from canon_eq (a := ⟨ev, n, o1, es⟩) hA rfl hn0]
    rfl
  · have h6 := rows_len (a := ⟨ev, n, o.1, es⟩) (foundL ⟨ev, n, o.1, es⟩) (foundL ⟨ev, n, o.1, es⟩).length
    have h7 : ((foundL ⟨ev, n, o.1, es⟩).length : Int) ≤ n := r3
    have h8 : (foundL ⟨ev, n, o.1, es⟩).length * ev.length ≤ 5 * 5 := Nat.mul_le_mul (by omega) hel
    exact Nat.le_trans h6 h8
  · have h7 : ((foundL ⟨ev, n, o.1, es⟩).length : Int) ≤ n := r3
    show (rrMs _ _).length ≤ 5
    rw [rrMs, List.length_map]
    exact Nat.le_trans (List.length_filter_le ..) (by rw [List.length_range]; omega)
end Go.Proofs.Ytkkemchihllklaa

namespace Go.Proofs.Ytkkemchihllklaa
open Go Go.RowKit

/-- The first place whose element has a property. -/
theorem indexF_eq {xs : List Int} {p : Int → Option Bool} {q : Int → Bool} (hl : xs.length < 4611686018427387904) (hp : ∀ x ∈ xs, p x = some (q x)) : m_slices_IndexFunc_int xs p = some (if xs.any q = true then ((xs.findIdx q : Nat) : Int) else -1) := by
  have h := iter_scan (f := m_slices_IndexFunc_int_l1 xs p) (xs := xs) (fun i (_ : Unit) => (i : Int)) (fun i _ y => if q y then .inr (.inr (i : Int)) else .inl ()) (fun _ => .inl ()) (fun _ _ => True) (by omega) (fun i h _ _ => by
      rw [m_slices_IndexFunc_int_l1, if_pos (ct_lt h), idx_at h, Option.bind_some, hp _ (List.getElem_mem h), Option.bind_some, nxt (by omega)]
      refine ⟨fun s' e => ?_, fun o e => ?_⟩
      · split at e
        · cases e
        · rename_i h1; rw [if_neg h1]; exact ⟨rfl, trivial⟩
      · split at e
        · rename_i h1; rw [if_pos h1]; cases e; rfl
        · cases e) (fun _ _ => by rw [m_slices_IndexFunc_int_l1, if_neg ct_ge]) (s := ()) trivial
  have key : ∀ (ys : List Int) (i : Nat), scanL (O := Unit ⊕ Int) (fun i (_ : Unit) y => if q y then .inr (.inr (i : Int)) else .inl ()) (fun _ => .inl ()) i ys () = if ys.any q = true then .inr ((i + ys.findIdx q : Nat) : Int) else .inl () := by
    intro ys
    induction ys with
    | nil => intro i; rfl
    | cons y ys ih =>
      intro i
      rw [scanL, List.any_cons, List.findIdx_cons]
      cases hy : q y with
      | true => rfl
      | false =>
        rw [if_neg (by simp)]
        dsimp only
        rw [ih, Bool.false_or, cond_false]
        split
        · congr 2; omega
        · rfl
  rw [m_slices_IndexFunc_int, show iter (m_slices_IndexFunc_int_l1 xs p) 0 = _ from h, Option.bind_some, key]
  by_cases hm : xs.any q = true
  · rw [if_pos hm, if_pos hm]; simp
  · rw [if_neg hm, if_neg hm]
theorem set_app {xs ys : List Int} {v : Int} {n : Nat} (h : xs.length = n) (hy : 0 < ys.length) : (xs ++ ys).set n v = xs ++ [v] ++ ys.drop 1 := by
  subst h
  rw [List.set_append_right _ _ (Nat.le_refl _), Nat.sub_self]
  cases ys with
  | nil => cases hy
  | cons y ys => simp
/-- What is left of a list. -/
theorem deleteF_eq {xs : List Int} {p : Int → Option Bool} {q : Int → Bool} (hl : xs.length < 4611686018427387904) (hp : ∀ x ∈ xs, p x = some (q x)) : ∃ ys, m_slices_DeleteFunc_int xs p = some (xs.filter (fun x => !q x), ys) ∧ ys.length = xs.length := by
  rw [m_slices_DeleteFunc_int, indexF_eq hl hp, Option.bind_some]
  by_cases hm : xs.any q = true
  · rw [if_pos hm]
    have hlt : xs.findIdx q < xs.length := List.findIdx_lt_length_of_exists (by simpa [List.any_eq_true] using hm)
    have hpre : (xs.take (xs.findIdx q)).filter (fun x => !q x) = xs.take (xs.findIdx q) := by
      refine List.filter_eq_self.2 fun x hx => ?_
      obtain ⟨k, hk, rfl⟩ := List.mem_iff_getElem.1 hx
      rw [List.length_take] at hk
      rw [List.getElem_take]
      have := List.not_of_lt_findIdx (p := q) (xs := xs) (i := k) (by omega)
      simpa using this
    generalize hj0 : xs.findIdx q = j0 at hlt hpre
    have hq0 : q xs[j0] = true := by
      have := List.findIdx_getElem (xs := xs) (p := q) (w := by rw [hj0]; exact hlt)
      simpa [hj0] using this
    rw [if_neg (by simp), show W ((j0 : Int) + 1) = ((j0 + 1 : Nat) : Int) from nxt (by omega)]
    have hi := iter_inv (f := m_slices_DeleteFunc_int_l1 p) (fun j t => j0 + 1 + j ≤ xs.length ∧ t.1 = ((j0 + 1 + j : Nat) : Int) ∧ ∃ r : List Int, t.2.1 = ((((xs.take (j0 + 1 + j)).filter fun x => !q x).length : Nat) : Int) ∧ t.2.2 = (xs.take (j0 + 1 + j)).filter (fun x => !q x) ++ r ++ xs.drop (j0 + 1 + j) ∧ ((xs.take (j0 + 1 + j)).filter fun x => !q x).length + r.length = j0 + 1 + j ∧ 0 < r.length)
        (fun o => ∃ r : List Int, o.1 = (((xs.filter fun x => !q x).length : Nat) : Int) ∧ o.2 = xs.filter (fun x => !q x) ++ r ∧ (xs.filter fun x => !q x).length + r.length = xs.length)
        (xs.length - (j0 + 1)) 0 (by omega) (fun j t hj ⟨e0, e1, r, e2, e3, e4, e5⟩ => by
          obtain ⟨t1, t2, t3⟩ := t
          dsimp only at e1 e2 e3
          subst e1; subst e2; subst e3
          left
          have hlt2 : j0 + 1 + j < xs.length := by omega
          generalize hF : (xs.take (j0 + 1 + j)).filter (fun x => !q x) = F at e4
          have hlen : (F ++ r ++ xs.drop (j0 + 1 + j)).length = xs.length := by rw [List.length_append, List.length_append, List.length_drop]; omega
          have hat : (F ++ r ++ xs.drop (j0 + 1 + j))[j0 + 1 + j]'(by omega) = xs[j0 + 1 + j] := by
            rw [List.getElem_append_right (by rw [List.length_append]; omega), List.getElem_drop]
            congr 1; rw [List.length_append, e4, Nat.sub_self]; rfl
          have htk : (xs.take (j0 + 1 + (j + 1))).filter (fun x => !q x) = F ++ (if q xs[j0 + 1 + j] then [] else [xs[j0 + 1 + j]]) := by
            rw [show j0 + 1 + (j + 1) = j0 + 1 + j + 1 by omega, List.take_succ_eq_append_getElem hlt2, List.filter_append, hF]
            cases h : q xs[j0 + 1 + j] <;> simp [h]
          have hdr : xs.drop (j0 + 1 + j) = xs[j0 + 1 + j] :: xs.drop (j0 + 1 + (j + 1)) := by rw [List.drop_eq_getElem_cons hlt2]; rfl
          rw [m_slices_DeleteFunc_int_l1]
          dsimp only
          rw [if_pos (by rw [hlen]; exact ct_lt hlt2), idx_at (by omega), Option.bind_some, hat, hp _ (List.getElem_mem hlt2), Option.bind_some]
          cases hc : q xs[j0 + 1 + j] with
          | true =>
            rw [if_neg (by simp), m_slices_DeleteFunc_int_j1]
            dsimp only
            rw [nxt (by omega)]
            rw [hc, if_pos rfl, List.append_nil] at htk
            refine ⟨_, rfl, by omega, rfl, r ++ [xs[j0 + 1 + j]], ?_, ?_, ?_, ?_⟩
            · rw [htk]
            · rw [htk, hdr]; simp
            · rw [htk, List.length_append, List.length_cons, List.length_nil]; omega
            · rw [List.length_append]; omega
          | false =>
            rw [if_pos (by simp), idx_at (show F.length < _ by omega), Option.bind_some, upd, if_pos ⟨by omega, by omega⟩, Option.bind_some, m_slices_DeleteFunc_int_j1]
            dsimp only
            rw [nxt (by omega), nxt (by omega), Int.toNat_natCast]
            rw [hc, if_neg (by simp)] at htk
            refine ⟨_, rfl, by omega, rfl, r.drop 1 ++ [xs[j0 + 1 + j]], ?_, ?_, ?_, ?_⟩
            · rw [htk, List.length_append]; rfl
            · rw [htk]
              dsimp only
              rw [List.append_assoc F r, set_app rfl (by rw [List.length_append]; omega), hdr, List.drop_append_of_le_length (by omega)]
              simp
            · rw [htk, List.length_append, List.length_append, List.length_drop, List.length_cons, List.length_nil]; omega
            · rw [List.length_append, List.length_cons]; omega) (fun t ⟨e0, e1, r, e2, e3, e4, e5⟩ => by
          obtain ⟨t1, t2, t3⟩ := t
          dsimp only at e1 e2 e3
          subst e1; subst e2; subst e3
          have he : j0 + 1 + (xs.length - (j0 + 1)) = xs.length := by omega
          rw [he] at e4 ⊢
          rw [List.take_length] at e4 ⊢
          rw [List.drop_length, List.append_nil, m_slices_DeleteFunc_int_l1]
          dsimp only
          rw [if_neg (by rw [List.length_append, e4]; exact ct_ge)]
          exact ⟨_, rfl, r, rfl, rfl, e4⟩) (by omega) (((j0 + 1 : Nat) : Int), (j0 : Int), xs) ⟨by omega, rfl, [xs[j0]], by
            rw [show j0 + 1 + 0 = j0 + 1 by omega, List.take_succ_eq_append_getElem hlt, List.filter_append, hpre, List.filter_cons_of_neg (by simpa using hq0), List.filter_nil, List.append_nil, List.length_take]
            dsimp only; omega, by
            rw [show j0 + 1 + 0 = j0 + 1 by omega, List.take_succ_eq_append_getElem hlt, List.filter_append, hpre, List.filter_cons_of_neg (by simpa using hq0), List.filter_nil, List.append_nil, ← List.take_succ_eq_append_getElem hlt, List.take_append_drop], by
            rw [show j0 + 1 + 0 = j0 + 1 by omega, List.take_succ_eq_append_getElem hlt, List.filter_append, hpre, List.filter_cons_of_neg (by simpa using hq0), List.filter_nil, List.append_nil, List.length_take, List.length_cons, List.length_nil]
            omega, by simp⟩
    obtain ⟨o, h1, r, h2, h3, h4⟩ := hi
    obtain ⟨o1, o2⟩ := o
    dsimp only at h2 h3
    subst h2; subst h3
    generalize xs.filter (fun x => !q x) = F at h1 h4
    rw [h1, Option.bind_some]
    dsimp only
    rw [slc, if_pos ⟨by omega, by rw [List.length_append]; omega, by omega⟩, Option.bind_some, clrG, if_pos (by rw [List.length_append]; omega), Option.bind_some, Int.toNat_natCast, List.take_left' rfl, slc, if_pos ⟨by omega, by omega, by rw [List.length_append]; omega⟩, Option.bind_some]
    refine ⟨F ++ List.replicate ((F ++ r).length - F.length) 0, ?_, ?_⟩
    · rw [Int.toNat_natCast, List.take_left' rfl]; rfl
    · rw [List.length_append, List.length_replicate, List.length_append]; omega
  · rw [if_neg hm, if_pos (by simp)]
    have hn : xs.filter (fun x => !q x) = xs := by
      refine List.filter_eq_self.2 fun x hx => ?_
      have h2 : xs.any q = false := by simpa using hm
      have := List.any_eq_false.1 h2 x hx
      simpa using this
    rw [hn]
    exact ⟨_, rfl, rfl⟩
theorem subB_of {xs ys : List Int} (h : ∀ x ∈ xs, x ∈ ys) : subB xs ys = true := List.all_eq_true.2 fun x hx => hasB_true.2 (h x hx)
/-- A sketch's cells are bytes. -/
abbrev Sketch : Type := Int × (Int × Int × ((Int × Int × Int × Int × Int) × (Int × Int × Int × Int × Int) × (Int × Int × Int × Int × Int) × (Int × Int × Int × Int × Int) × (Int × Int × Int × Int × Int))) × Int
structure SkOk (x : Sketch) : Prop where
  s : 0 ≤ x.2.1.1 ∧ x.2.1.1 < 256
  g : ∀ y ∈ cells25 x.2.1.2.2, 0 ≤ y ∧ y < 256
/-- What a sketch is. -/
structure SkIn (a : Aut) (l : List Int) (n : Nat) : Prop where
  gen : GenIn a l n
  ia : Inc a.al
  ic : Inc l
  al : ∀ x ∈ a.al, 0 ≤ x ∧ x < 5
  sub : ∀ x ∈ l, x ∈ a.al
  err : a.err = 0
  so : Sorted a.es
  ms : a.ms.length ≤ 5
  n5 : n ≤ 5
theorem err_ed {a : Aut} (h : a.err = 0) : ∀ x ∈ a.es, 0 ≤ x.f ∧ x.f < a.n ∧ 0 ≤ x.t ∧ x.t < a.n ∧ x.e ∈ a.al := by
  have he : edErr a.al a.n none a.es = 0 := by
    unfold Aut.err at h
    split at h
    · rename_i h1; rw [h] at h1; exact absurd h1 (by decide)
    · split at h
      · cases h
      · split at h
        · cases h
        · split at h
          · rename_i h1; rw [h] at h1; exact absurd h1 (by decide)
          · exact h
  have key : ∀ (es : List Ed) (p : Option Ed), edErr a.al a.n p es = 0 → ∀ x ∈ es, 0 ≤ x.f ∧ x.f < a.n ∧ 0 ≤ x.t ∧ x.t < a.n ∧ x.e ∈ a.al := by
    intro es
    induction es with
    | nil => intro p _ x hx; cases hx
    | cons y es ih =>
      intro p h x hx
      rw [edErr] at h
      split at h
      · cases h
      · rename_i h1
        split at h
        · cases h
        · rename_i h2
          split at h
          · cases h
          · rcases List.mem_cons.1 hx with rfl | hx
            · have h3 : hasB a.al x.e = true := by simpa using h2
              have h4 := hasB_true.1 h3
              exact ⟨by omega, by omega, by omega, by omega, h4⟩
            · exact ih _ h x hx
  exact key a.es none he
theorem make53_ex {x : Sketch} (h : SkOk x) : ∃ (a : Aut) (l : List Int) (n : Nat), m_overseerlaw53_Make x = some (autP a, l) ∧ SkIn a l n := by
  obtain ⟨ev, h1, h2, h3, h4⟩ := events_ex x.1
  have hs : 0 ≤ x.2.1.1.tmod 5 ∧ x.2.1.1.tmod 5 < 250 := by
    rw [Int.tmod_eq_emod_of_nonneg h.s.1]; omega
  obtain ⟨a, g1, g2, g3, g4, g5, g6, g7, g8⟩ := make3_ex h2 (fun y hy => by have := h3 y hy; omega) h4 (s := x.2.1.1.tmod 5) (m := x.2.1.2.1) (g := x.2.1.2.2) hs h.g
  obtain ⟨ev2, k1, k2, k3, k4⟩ := events_ex x.2.2
  obtain ⟨ys, d1, d2⟩ := deleteF_eq (xs := ev2) (p := m_overseerlaw53_Make_1 (autP a)) (q := fun y => !hasB a.al y) (by omega) (fun y hy => by
    rw [m_overseerlaw53_Make_1, show m_slices_Contains_int (autP a).1 y = some (hasB a.al y) from contains_eq (xs := a.al) (by rw [g6]; omega)]; rfl)
  refine ⟨a, ev2.filter (fun y => !!hasB a.al y), a.n.toNat, ?_, ⟨⟨by omega, by omega, by omega, by omega, by rw [g6]; omega, ?_, ?_⟩, by rw [g6]; exact h2, ?_, by rw [g6]; exact h3, ?_, g2, g5, g8, by omega⟩⟩
  · rw [m_overseerlaw53_Make, h1, Option.bind_some, show m_overseerlaw03_Make ev ((x.2.1.1.tmod 5), x.2.1.2) = _ from g1, Option.bind_some, k1, Option.bind_some, d1, Option.bind_some, lenEq, if_pos d2]
    rfl
  · exact Nat.le_trans (List.length_filter_le ..) (by omega)
  · intro y hy
    have := err_ed g2 y hy
    omega
  · exact List.Pairwise.filter _ k2
  · intro y hy
    have := (List.mem_filter.1 hy).2
    rw [Bool.not_not] at this
    exact hasB_true.1 this
section
variable {a : Aut} {l : List Int} {n : Nat}
theorem SkIn.set32 (h : SkIn a l n) {xs : List Int} (ix : Inc xs) (hx : ∀ x ∈ xs, x ∈ a.al) : setErr 32 none xs = 0 := setErr_ok ix (fun x hm => by have := h.al x (hx x hm); omega) (fun q hq => by cases hq)
theorem SkIn.code (h : SkIn a l n) : m_generate_Generate (autP a) l = some (codeP a l n, 0) :=
  generate_eq h.gen (by have := h.ms; omega) h.err (h.set32 h.ic h.sub) (by rw [subset_eq (by have := h.gen.ct; omega) (by have := h.gen.al; omega) h.ic h.ia, subB_of h.sub])
theorem SkIn.start (h : SkIn a l n) : m_instruction_Start (codeP a l n).1 = some ((List.replicate (l.length + 1) false, true :: List.replicate n false), 0) := gstart_eq h.gen h.ia h.ic
theorem Shows.alarm (h : SkIn a l n) {st : List Bool × List Bool} {s : Nat} {al : Bool} (hv : Shows a l n s al st) : m_generate_Alarmed (codeP a l n) st = some (al, 0) := by
  rw [alarmed_eq (out := st.1) (mem := st.2) h.gen hv.ho hv.hm, hv.ha]
end
end Go.Proofs.Ytkkemchihllklaa

namespace Go.Proofs.Ytkkemchihllklaa
open Go Go.RowKit Go.ChangeShapes Go.WideShapes Go.ChangeAt Go.Deep

theorem op_i64 : Op Try.prog (rK .i64) (fun n => -9223372036854775808 ≤ n ∧ n < 9223372036854775808) 3 := by
  intro H enc w fuel cs x h
  obtain ⟨y, h1, h2⟩ := (Op.int (P := Try.prog) (k := .i64) Try.underlying3) H enc w fuel cs x h
  refine ⟨y, h1, ?_⟩
  simp [IntKind.min, IntKind.max, IntKind.signed, IntKind.bits] at h2
  omega
section
variable {H : Type} {enc : TypeId × Value → H} {w : World} {base : Nat} {v : Value} {d : DataW H} {ps : List MemPlace}
set_option maxRecDepth 100000 in
/-- A list of ints. -/
theorem arg_ints (hok : Value.okWide Try.prog w .any base 23 v) (h : DataW.Trod enc Try.prog w 0 (fun _ => true) true 23 v d ps) : ∃ a c xs, v = .slice a xs.length c ∧ RdL (rK .i64) ⟨w, fun _ => 0⟩ a c xs ∧ ∀ y ∈ xs, -9223372036854775808 ≤ y ∧ y < 9223372036854775808 := by
  obtain ⟨fuel, hf⟩ := h
  simp only [Value.okWide, Try.underlying23] at hok
  have hv : v.cells.toList = [v] := by
    simp only [Cell.okWide, Try.underlying23] at hok
    cases v <;> simp_all [Cell.ok, Value.cells]
  rw [hv] at hf
  exact op_slice Try.underlying23 (by kernel_rfl) op_i64 hok hf
/-- The types of a sketch's cells. -/
def skT : List TypeId := [45] ++ List.replicate 27 5 ++ [45]
theorem sk_types : Try.prog.cellTypes Try.prog.depth 51 = some skT := by kernel_rfl
theorem sk_cells : Try.prog.cellsOf 51 = skT.length := by kernel_rfl
set_option maxRecDepth 100000 in
/-- A sketch. -/
theorem arg_sketch (hok : Value.okWide Try.prog w .any base 51 v) : ∃ p0 : Sketch, SkOk p0 ∧ v = .agg #[.int .u8 p0.1, .int .u8 p0.2.1.1, .int .u8 p0.2.1.2.1, .int .u8 p0.2.1.2.2.1.1, .int .u8 p0.2.1.2.2.1.2.1, .int .u8 p0.2.1.2.2.1.2.2.1, .int .u8 p0.2.1.2.2.1.2.2.2.1, .int .u8 p0.2.1.2.2.1.2.2.2.2, .int .u8 p0.2.1.2.2.2.1.1, .int .u8 p0.2.1.2.2.2.1.2.1, .int .u8 p0.2.1.2.2.2.1.2.2.1, .int .u8 p0.2.1.2.2.2.1.2.2.2.1, .int .u8 p0.2.1.2.2.2.1.2.2.2.2, .int .u8 p0.2.1.2.2.2.2.1.1, .int .u8 p0.2.1.2.2.2.2.1.2.1, .int .u8 p0.2.1.2.2.2.2.1.2.2.1, .int .u8 p0.2.1.2.2.2.2.1.2.2.2.1, .int .u8 p0.2.1.2.2.2.2.1.2.2.2.2, .int .u8 p0.2.1.2.2.2.2.2.1.1, .int .u8 p0.2.1.2.2.2.2.2.1.2.1, .int .u8 p0.2.1.2.2.2.2.2.1.2.2.1, .int .u8 p0.2.1.2.2.2.2.2.1.2.2.2.1, .int .u8 p0.2.1.2.2.2.2.2.1.2.2.2.2, .int .u8 p0.2.1.2.2.2.2.2.2.1, .int .u8 p0.2.1.2.2.2.2.2.2.2.1, .int .u8 p0.2.1.2.2.2.2.2.2.2.2.1, .int .u8 p0.2.1.2.2.2.2.2.2.2.2.2.1, .int .u8 p0.2.1.2.2.2.2.2.2.2.2.2.2, .int .u8 p0.2.2] := by
  obtain ⟨cs, rfl, h1, h2⟩ := op_agg Try.underlying51 sk_types sk_cells hok
  have h1' : cs.size = 29 := h1
  obtain ⟨f, hf⟩ := choose_lt (α := Int) (n := 29) (p := fun i n => cs[i]? = some (.int .u8 n) ∧ 0 ≤ n ∧ n < 256) (fun i hi => by
    obtain ⟨u, hu, hu2⟩ : ∃ u, skT[i]? = some u ∧ (u = 45 ∨ u = 5) := by
      refine ⟨skT[i]'hi, List.getElem?_eq_getElem (l := skT) hi, ?_⟩
      have := List.getElem_mem (l := skT) hi
      generalize skT[i]'hi = u at this
      simp only [skT, List.mem_append, List.mem_singleton, List.mem_replicate] at this
      rcases this with (h | h) | h
      · exact .inl h
      · exact .inr h.2
      · exact .inl h
    obtain ⟨c, g1, g2⟩ := h2 i u hu
    have g2' : Cell.okWide Try.prog w .any base 5 c := by
      rcases hu2 with rfl | rfl
      · simp only [Cell.okWide, Cell.ok, Try.underlying45, Try.underlying5] at g2 ⊢
        exact g2
      · exact g2
    obtain ⟨n, rfl, g3⟩ := cell_u8 g2'
    exact ⟨n, g1, g3⟩)
  have hcs : cs = ((List.range 29).map fun i => Value.int .u8 (f i)).toArray := by
    apply Array.ext_getElem?
    intro i
    by_cases hi : i < 29
    · rw [(hf i hi).1]; simp [hi]
    · rw [Array.getElem?_eq_none (by omega), Array.getElem?_eq_none (by simp; omega)]
  refine ⟨(f 0, (f 1, f 2, ((f 3, f 4, f 5, f 6, f 7), (f 8, f 9, f 10, f 11, f 12), (f 13, f 14, f 15, f 16, f 17), (f 18, f 19, f 20, f 21, f 22), (f 23, f 24, f 25, f 26, f 27))), f 28), ⟨(hf 1 (by omega)).2, fun y hy => ?_⟩, by rw [hcs]; rfl⟩
  have hy2 : y ∈ (List.range 25).map fun i => f (i + 3) := hy
  obtain ⟨i, hi, rfl⟩ := List.mem_map.1 hy2
  have := List.mem_range.1 hi
  exact (hf (i + 3) (by omega)).2
end
end Go.Proofs.Ytkkemchihllklaa

namespace Go.Proofs.Ytkkemchihllklaa
open Go Go.RowKit
/-- What slices.ContainsFunc<<>int,int> computes. -/
noncomputable def m_slices_ContainsFunc_int (p0 : List Int) (p1 : Int → Option Bool) : Option Bool :=
  (m_slices_IndexFunc_int p0 p1).bind fun r2 =>
  some (decide (r2 ≥ 0))
set_option maxRecDepth 100000 in
set_option maxHeartbeats 8000000 in
theorem m_slices_ContainsFunc_int_c {s : Sig} {p0 : List Int} {p1 : Int → Option Bool} {a1 : Option Addr} {c1 : Nat} {vp1 : Value} {r : Bool} (h1 : RdL (rK .i64) s a1 c1 p0) (hp1 : FV1 Try.prog s vp1 (fun (x0 : Int) => [.int .i64 x0]) (fun (r : Bool) => .bool r) p1) (hm : m_slices_ContainsFunc_int p0 p1 = some r) :
    Calls Try.prog 29 #[.slice a1 p0.length c1, vp1] s.w (RetS No s fun v s' => v = .bool r) := by
 unfold m_slices_ContainsFunc_int at hm
 obtain ⟨N, hN, hNb⟩ := s.fresh
 have m0 : Mv (Up N No) s s := Mv.refl _ _
 refine E.entry Try.func29 rfl Try.ntmps29 rfl rfl (E.seq (E.reg (L.as Wt.no rfl rfl (L.nil (X.seqN (E.seq (E.reg (L.mv Wt.no rfl rfl (L.mv Wt.no rfl rfl ?_)))))))))
 obtain ⟨r2, er2, hm⟩ := bindS hm
 refine L.ca cf60 rfl rfl Wt.no rfl (m_slices_IndexFunc_int_c (s := s) (p0 := p0) (p1 := p1) h1 hp1 er2) rfl ?_
 rintro _ s3 m4 rfl
 replace m0 := m0.trans m4.no
 refine L.bi Wt.no rfl rfl rfl rfl (L.as Wt.no rfl rfl (L.nil (X.seqN (E.ret ?_))))
 obtain rfl := Option.some.inj hm
 exact X.rt (.inl rfl) Try.results29 (Rs.tmp rfl Rs.nil) rfl ⟨_, (s3).ren N (fun _ => 0), rfl, rfl, m0.ren hNb, rfl⟩

theorem cf29 : Cf Try.prog 29 := Cf.mk Try.func29 (by kernel_rfl) (by kernel_rfl)
end Go.Proofs.Ytkkemchihllklaa

namespace Go.Proofs.Ytkkemchihllklaa
open Go Go.RowKit

/-- The law's own walk of a set. -/
theorem follow_eq {a : Aut} (hl : a.es.length < 4611686018427387904) (ht : ∀ x ∈ a.es, 0 ≤ x.t) {ev : List Int} (he : ev.length < 4611686018427387904) (s : Nat) : m_overseerlaw53_follow (autP a) (s : Int) ev = some (((ev.foldl (folStep a.es) (s, false)).1 : Int), (ev.foldl (folStep a.es) (s, false)).2) := by
  have h := (iter_foldl (f := m_overseerlaw53_follow_l1 (autP a) ev) (xs := ev) (fun k (S : Nat × Bool) => ((k : Int), S.2, (S.1 : Int))) (folStep a.es) (fun S => (S.2, (S.1 : Int))) (fun _ _ => True) (by omega) (fun k hk S _ => by
    refine ⟨?_, trivial⟩
    rw [m_overseerlaw53_follow_l1]
    dsimp only
    rw [if_pos (ct_lt hk), idx_at hk, Option.bind_some, step_eq hl ht, Option.bind_some, stF, folStep]
    cases stepF a.es S.1 ev[k] with
    | none =>
      dsimp only
      rw [if_pos (by simp), m_overseerlaw53_follow_j1]
      dsimp only
      rw [nxt (by omega)]
    | some t =>
      dsimp only
      rw [if_neg (by simp), m_overseerlaw53_follow_j1]
      dsimp only
      rw [nxt (by omega)]) (fun S _ => by
    rw [m_overseerlaw53_follow_l1]
    dsimp only
    rw [if_neg ct_ge]) (s := (s, false)) trivial).1
  rw [m_overseerlaw53_follow, show iter (m_overseerlaw53_follow_l1 (autP a) ev) (0, false, (s : Int)) = _ from h]
  rfl
theorem containsF_eq {xs : List Int} {p : Int → Option Bool} {q : Int → Bool} (hl : xs.length < 4611686018427387904) (hp : ∀ x ∈ xs, p x = some (q x)) : m_slices_ContainsFunc_int xs p = some (xs.any q) := by
  rw [m_slices_ContainsFunc_int, indexF_eq hl hp, Option.bind_some]
  by_cases hm : xs.any q = true
  · rw [if_pos hm, hm]; simp
  · rw [if_neg hm, show xs.any q = false by simpa using hm]; rfl
/-- The error of a set of events that must be among some. -/
def amErr (us al : List Int) : Int := if setErr 32 none us ≠ 0 then setErr 32 none us else if subB us al = true then 0 else 9
theorem setErr_inc {n : Int} {xs : List Int} (h : setErr n none xs = 0) : Inc xs ∧ ∀ x ∈ xs, 0 ≤ x ∧ x < n := by
  have key : ∀ (xs : List Int) (p : Option Int), setErr n p xs = 0 → Inc xs ∧ (∀ x ∈ xs, 0 ≤ x ∧ x < n) ∧ ∀ q, p = some q → ∀ x ∈ xs, q < x := by
    intro xs
    induction xs with
    | nil => intro p _; exact ⟨List.Pairwise.nil, fun x hx => (by cases hx), fun q _ x hx => (by cases hx)⟩
    | cons y xs ih =>
      intro p h
      rw [setErr] at h
      split at h
      · cases h
      · rename_i h1
        split at h
        · cases h
        · rename_i h2
          obtain ⟨g1, g2, g3⟩ := ih _ h
          have g4 := g3 y rfl
          refine ⟨List.pairwise_cons.2 ⟨g4, g1⟩, fun x hx => ?_, fun q hq x hx => ?_⟩
          · rcases List.mem_cons.1 hx with rfl | hx
            · omega
            · exact g2 x hx
          · have hqy : q < y := by
              have := h2
              exact Int.not_le.1 (fun hle => this ⟨q, hq, hle⟩)
            rcases List.mem_cons.1 hx with rfl | hx
            · exact hqy
            · have := g4 x hx; omega
  exact ⟨(key xs none h).1, (key xs none h).2.1⟩
theorem among2_eq {us al : List Int} (hu : us.length < 4294967296) (ha : al.length < 4294967296) (ia : Inc al) : m_generate_among us al = some (amErr us al) := by
  rw [m_generate_among, checkSet2_eq (by omega), Option.bind_some, amErr]
  by_cases h0 : setErr 32 none us = 0
  · rw [if_neg (show ¬ (setErr 32 none us ≠ 0) from fun h => h h0), h0, if_neg (by simp), subset_eq (by omega) (by omega) (setErr_inc h0).1 ia, Option.bind_some]
    cases subB us al <;> rfl
  · rw [if_pos (by simpa using h0), if_pos h0]
theorem amErr_0 {us al : List Int} (h : amErr us al = 0) : Inc us ∧ ∀ x ∈ us, x ∈ al := by
  unfold amErr at h
  by_cases h0 : setErr 32 none us = 0
  · rw [if_neg (fun h => h h0)] at h
    refine ⟨(setErr_inc h0).1, ?_⟩
    split at h
    · rename_i h1; exact subB_mem h1
    · cases h
  · rw [if_pos h0] at h; exact absurd h h0
theorem any_subB (us al : List Int) : us.any (fun y => !hasB al y) = !subB us al := by
  unfold subB
  rw [Bool.eq_iff_iff]
  simp
/-- What the laws say of the error. -/
theorem law_err {us al : List Int} : (if setErr 32 none us = 0 then (if (us.any fun y => !hasB al y) = true then (9 : Int) else setErr 32 none us) else setErr 32 none us) = amErr us al := by
  unfold amErr
  by_cases h0 : setErr 32 none us = 0
  · rw [if_pos h0, if_neg (show ¬ (setErr 32 none us ≠ 0) from fun h => h h0), any_subB, h0]
    cases subB us al <;> rfl
  · rw [if_neg h0, if_pos h0]
end Go.Proofs.Ytkkemchihllklaa

namespace Go.Proofs.Ytkkemchihllklaa
open Go Go.RowKit
/-- What automaton.checkState computes. -/
noncomputable def m_automaton_checkState (p0 : List Int × Int × List Int × (List (Int × Int × Int))) (p1 : Int) : Option Int :=
  (m_automaton_Check p0).bind fun r7 =>
  if (r7 != 0) then
    some r7
  else
    if ((decide (p1 < 0)) || (decide (p1 ≥ p0.2.1))) then
      some 2
    else
      some 0
set_option maxRecDepth 100000 in
set_option maxHeartbeats 8000000 in
theorem m_automaton_checkState_c {s : Sig} {p0 : List Int × Int × List Int × (List (Int × Int × Int))} {p1 : Int} {a1 : Option Addr} {c1 : Nat} {a2 : Option Addr} {c2 : Nat} {a3 : Option Addr} {c3 : Nat} {r : Int} (h1 : RdL (rK .i64) s a1 c1 p0.1) (h2 : RdL (rK .i64) s a2 c2 p0.2.2.1) (h3 : RdL (rP (rK .i64) (rP (rK .i64) (rK .i64))) s a3 c3 p0.2.2.2) (hm : m_automaton_checkState p0 p1 = some r) :
    Calls Try.prog 65 #[.agg #[.slice a1 p0.1.length c1, .int .i64 p0.2.1, .slice a2 p0.2.2.1.length c2, .slice a3 p0.2.2.2.length c3], .int .i64 p1] s.w (RetS No s fun v s' => v = .int .i64 r) := by
 unfold m_automaton_checkState at hm
 obtain ⟨N, hN, hNb⟩ := s.fresh
 have m0 : Mv (Up N No) s s := Mv.refl _ _
 refine E.entry Try.func65 rfl Try.ntmps65 rfl rfl (E.seq (E.reg (L.box (N + 0) Wt.no rfl rfl rfl fun b4 s5 m6 bx4 => ?_)))
 replace m0 := m0.trans m6.no
 replace h1 := h1.mono (m6.le no_No)
 replace h2 := h2.mono (m6.le no_No)
 replace h3 := h3.mono (m6.le no_No)
 refine L.as Wt.no rfl rfl (L.nil (X.seqN (E.seq (E.seq (E.reg (L.lg (j := 0) (cs := [.slice a1 p0.1.length c1, .int .i64 p0.2.1, .slice a2 p0.2.2.1.length c2, .slice a3 p0.2.2.2.length c3]) bx4.mem ag26 Wt.no rfl rfl rfl rfl rfl ?_))))))
 obtain ⟨r7, er7, hm⟩ := bindS hm
 refine L.ca cf33 rfl rfl Wt.no rfl (m_automaton_Check_c (s := s5) (p0 := p0) h1 h2 h3 er7) rfl ?_
 rintro _ s8 m9 rfl
 replace m0 := m0.trans m9.no
 replace bx4 := bx4.mv m9 no_No
 refine L.as Wt.no rfl rfl (L.nil (X.seqN (E.seq (E.reg (L.mv Wt.no rfl rfl (L.bi Wt.no rfl rfl rfl rfl (L.nil (X.seqN ?_))))))))
 rcases ifS hm with ⟨hc, hm⟩ | ⟨hc, hm⟩
 ·refine E.cT rfl hc (E.seq (E.reg (L.mv Wt.no rfl rfl (L.as Wt.no rfl rfl (L.nil (X.seqN (E.ret (X.seqR ?_))))))))
  obtain rfl := Option.some.inj hm
  exact X.rt (.inl rfl) Try.results65 (Rs.tmp rfl Rs.nil) rfl ⟨_, (s8).ren N (fun _ => 0), rfl, rfl, m0.ren hNb, rfl⟩
 ·refine E.cF rfl hc (E.skip (X.seqN (E.seq (E.seq (E.reg (L.mv Wt.no rfl rfl (L.bi Wt.no rfl rfl rfl rfl (L.mv Wt.no rfl rfl (L.cut 5 (fun e w => ∃ (v10 : Bool), ((decide (p1 < 0)) || (decide (p1 ≥ p0.2.1))) = v10 ∧ e = (18, .bool v10) :: [] ∧ w = s8.w) ?_ ?_)))))))))
  ·rintro _ _ ⟨v10, rfl, rfl, rfl⟩
   refine L.nil (X.seqN ?_)
   rcases ifS hm with ⟨hc, hm⟩ | ⟨hc, hm⟩
   ·refine E.cT rfl hc (E.seq (E.reg (L.as Wt.no rfl rfl (L.nil (X.seqN (E.ret (X.seqR ?_)))))))
    obtain rfl := Option.some.inj hm
    exact X.rt (.inl rfl) Try.results65 (Rs.tmp rfl Rs.nil) rfl ⟨_, (s8).ren N (fun _ => 0), rfl, rfl, m0.ren hNb, rfl⟩
   ·refine E.cF rfl hc (E.skip (X.seqN (E.seq (E.reg (L.as Wt.no rfl rfl (L.nil (X.seqN (E.ret ?_))))))))
    obtain rfl := Option.some.inj hm
    exact X.rt (.inl rfl) Try.results65 (Rs.tmp rfl Rs.nil) rfl ⟨_, (s8).ren N (fun _ => 0), rfl, rfl, m0.ren hNb, rfl⟩
  ·intro J11
   rcases Bool.eq_false_or_eq_true (decide (p1 < 0)) with hc | hc
   ·exact L.know (d := 13) rfl hc (L.skip rfl rfl rfl rfl (L.skip rfl rfl rfl rfl (L.skip rfl rfl rfl rfl (L.skip rfl rfl rfl rfl (L.pkT Wt.no rfl rfl rfl rfl (L.sb (J11 _ _ ⟨true, (orT hc).symm, rfl, rfl⟩) rfl))))))
   ·exact L.know (d := 13) rfl hc (L.mv (Wt.mk rfl rfl) rfl rfl (L.fa fa26_1 (Wt.mk rfl rfl) rfl rfl (L.ld (j := 1) bx4.mem nag3 (Wt.mk rfl rfl) rfl rfl rfl rfl (L.bi (Wt.mk rfl rfl) rfl rfl rfl rfl (L.pkF Wt.no rfl rfl rfl rfl (L.sb (J11 _ _ ⟨(decide (p1 ≥ p0.2.1)), (orF hc).symm, rfl, rfl⟩) rfl))))))

noncomputable def m_slices_BinarySearchFunc_api_Edge_api_Edge_int_l1 (p0 : List (Int × Int × Int)) (p1 : Int) (p2 : (Int × Int × Int) → Int → Option Int) (st11 : Int × Int) : Option ((Int × Int) ⊕ Int) :=
  if decide (st11.2 < st11.1) then
    (idx p0 (W ((IntKind.u64.wrap (W (st11.2 + st11.1))).fdiv (2 ^ (min (1 : Int).toNat 64))))).bind fun x25 =>
    (p2 x25 p1).bind fun r27 =>
    if decide (r27 < 0) then
      some (.inl (st11.1, W ((W ((IntKind.u64.wrap (W (st11.2 + st11.1))).fdiv (2 ^ (min (1 : Int).toNat 64)))) + 1)))
    else
      some (.inl (W ((IntKind.u64.wrap (W (st11.2 + st11.1))).fdiv (2 ^ (min (1 : Int).toNat 64))), st11.2))
  else
    some (.inr st11.2)
/-- What api.Edge,int> computes. -/
noncomputable def m_slices_BinarySearchFunc_api_Edge_api_Edge_int (p0 : List (Int × Int × Int)) (p1 : Int) (p2 : (Int × Int × Int) → Int → Option Int) : Option (Int × Bool) :=
  (iter (m_slices_BinarySearchFunc_api_Edge_api_Edge_int_l1 p0 p1 p2) ((p0.length : Int), 0)).bind fun o11 =>
  (if decide (o11 < (p0.length : Int)) then
    (idx p0 o11).bind fun x19 =>
    (p2 x19 p1).bind fun r21 =>
    some (r21 == 0)
  else
    some false).bind fun b15 =>
  some (o11, b15)
set_option maxRecDepth 100000 in
set_option maxHeartbeats 8000000 in
theorem m_slices_BinarySearchFunc_api_Edge_api_Edge_int_c {s : Sig} {p0 : List (Int × Int × Int)} {p1 : Int} {p2 : (Int × Int × Int) → Int → Option Int} {a1 : Option Addr} {c1 : Nat} {vp2 : Value} {r : Int × Bool} (h1 : RdL (rP (rK .i64) (rP (rK .i64) (rK .i64))) s a1 c1 p0) (hp2 : FV2 Try.prog s vp2 (fun (x0 : Int × Int × Int) (x1 : Int) => [.agg #[.int .i64 x0.1, .int .i64 x0.2.1, .int .i64 x0.2.2], .int .i64 x1]) (fun (r : Int) => .int .i64 r) p2) (hm : m_slices_BinarySearchFunc_api_Edge_api_Edge_int p0 p1 p2 = some r) :
    Calls Try.prog 100 #[.slice a1 p0.length c1, .int .i64 p1, vp2] s.w (RetS No s fun v s' => v = .tuple #[.int .i64 r.1, .bool r.2]) := by
 unfold m_slices_BinarySearchFunc_api_Edge_api_Edge_int at hm
 obtain ⟨N, hN, hNb⟩ := s.fresh
 have m0 : Mv (Up N No) s s := Mv.refl _ _
 refine E.entry Try.func100 rfl Try.ntmps100 rfl rfl (E.seq (E.reg (L.as Wt.no rfl rfl (L.as Wt.no rfl rfl (L.nil (X.seqN (E.seq (E.reg (L.mv Wt.no rfl rfl (L.len sl24 Wt.no rfl rfl (L.as Wt.no rfl rfl (L.nil (X.seqN (E.seq (E.reg (L.mv Wt.no rfl rfl (L.as Wt.no rfl rfl (L.as Wt.no rfl rfl (L.nil (X.seqN (E.seq (E.block ?_))))))))))))))))))))))
 obtain ⟨o11, eo11, hm⟩ := bindS hm
 refine E.cut (x := .exit 0) (fun e w => ∃ (s14 : Sig), Mv (Up N No) s s14 ∧ RdL (rP (rK .i64) (rP (rK .i64) (rK .i64))) s14 a1 c1 p0 ∧ FV2 Try.prog s14 vp2 (fun (x0 : Int × Int × Int) (x1 : Int) => [.agg #[.int .i64 x0.1, .int .i64 x0.2.1, .int .i64 x0.2.2], .int .i64 x1]) (fun (r : Int) => .int .i64 r) p2 ∧ e = [(9, .int .i64 o11), (8, .int .i64 (p0.length : Int)), (0, .slice a1 p0.length c1), (1, .int .i64 p1), (2, vp2)] ∧ w = s14.w) ?_ ?_
 ·rintro _ _ ⟨s14, m0, h1, hp2, rfl, rfl⟩
  refine X.blkE (X.seqN (E.seq (E.reg (L.mv Wt.no rfl rfl (L.mv Wt.no rfl rfl (L.mv Wt.no rfl rfl (L.bi Wt.no rfl rfl rfl rfl (L.mv Wt.no rfl rfl ?_))))))))
  obtain ⟨b15, eb15, hm⟩ := bindS hm
  refine L.cut 9 (fun e w => ∃ (s17 : Sig) (v16 : Bool), b15 = v16 ∧ Mv (Up N No) s s17 ∧ e = (48, .bool v16) :: [(35, .int .i64 o11)] ∧ w = s17.w) ?_ ?_
  ·rintro _ _ ⟨s17, v16, rfl, m0, rfl, rfl⟩
   refine L.as Wt.no rfl rfl (L.as Wt.no rfl rfl (L.nil (X.seqN (E.ret ?_))))
   obtain rfl := Option.some.inj hm
   exact X.rt (.inl rfl) Try.results100 (Rs.tmp rfl (Rs.tmp rfl Rs.nil)) rfl ⟨_, (s17).ren N (fun _ => 0), rfl, rfl, m0.ren hNb, rfl⟩
  ·intro J18
   rcases ifS eb15 with ⟨hc, hm⟩ | ⟨hc, hm⟩
   ·refine L.know (d := 39) rfl hc (L.mv (Wt.mk rfl rfl) rfl rfl (L.mv (Wt.mk rfl rfl) rfl rfl (L.mv (Wt.mk rfl rfl) rfl rfl ?_)))
    obtain ⟨x19, ex19, hm⟩ := bindS hm
    refine L.ix (r := (rP (rK .i64) (rP (rK .i64) (rK .i64)))) sl24 h1 (Wt.mk rfl rfl) rfl rfl ex19 rfl fun b20 o20 cc20 me20 rd20 => ?_
    obtain ⟨_, _, rfl, rfl, ⟨_, _, rfl, rfl, rfl⟩⟩ := rd20
    refine L.lg (j := 0) (cs := [.int .i64 x19.1, .int .i64 x19.2.1, .int .i64 x19.2.2]) me20 ag28 (Wt.mk rfl rfl) rfl rfl rfl rfl rfl (L.mv (Wt.mk rfl rfl) rfl rfl ?_)
    obtain ⟨r21, er21, hm⟩ := bindS hm
    refine L.fv2 (y := x19) (z := p1) hp2 rfl rfl (Wt.mk rfl rfl) rfl rfl er21 rfl fun s22 m23 => ?_
    replace m0 := m0.trans m23.no
    exact L.bi (Wt.mk rfl rfl) rfl rfl rfl rfl (L.pkT Wt.no rfl rfl rfl rfl (L.sb (J18 _ _ ⟨s22, (r21 == 0), (Option.some.inj hm).symm, m0, rfl, rfl⟩) rfl))
   ·exact L.know (d := 39) rfl hc (L.skip rfl rfl rfl rfl (L.skip rfl rfl rfl rfl (L.skip rfl rfl rfl rfl (L.skip rfl rfl rfl rfl (L.skip rfl rfl rfl rfl (L.skip rfl rfl rfl rfl (L.skip rfl rfl rfl rfl (L.skip rfl rfl rfl rfl (L.pkF Wt.no rfl rfl rfl rfl (L.sb (J18 _ _ ⟨s14, false, (Option.some.inj hm).symm, m0, rfl, rfl⟩) rfl))))))))))
 intro K24
 refine E.iter (fun (st11 : Int × Int) (e : List (Nat × Value)) (w : World) => ∃ (s13 : Sig), Mv (Up N No) s s13 ∧ RdL (rP (rK .i64) (rP (rK .i64) (rK .i64))) s13 a1 c1 p0 ∧ FV2 Try.prog s13 vp2 (fun (x0 : Int × Int × Int) (x1 : Int) => [.agg #[.int .i64 x0.1, .int .i64 x0.2.1, .int .i64 x0.2.2], .int .i64 x1]) (fun (r : Int) => .int .i64 r) p2 ∧ e = [(10, .int .i64 st11.1), (9, .int .i64 st11.2), (8, .int .i64 (p0.length : Int)), (0, .slice a1 p0.length c1), (1, .int .i64 p1), (2, vp2)] ∧ w = s13.w) eo11 ⟨s, m0, h1, hp2, rfl, rfl⟩ (Sub.rf rfl) ?_
 rintro st11 res11 hm ih11 ho11 _ _ ⟨s13, m0, h1, hp2, rfl, rfl⟩
 unfold m_slices_BinarySearchFunc_api_Edge_api_Edge_int_l1 at hm
 refine E.seq (E.seq (E.reg (L.mv Wt.no rfl rfl (L.mv Wt.no rfl rfl (L.bi Wt.no rfl rfl rfl rfl (L.nil (X.seqN ?_)))))))
 rcases ifS hm with ⟨hc, hm⟩ | ⟨hc, hm⟩
 ·refine E.cT rfl hc (E.skip (X.seqN (E.block (E.seq (E.reg (L.mv Wt.no rfl rfl (L.mv Wt.no rfl rfl (L.bi Wt.no rfl rfl rfl rfl (L.cv Try.underlying3 Try.underlying136 Wt.no rfl rfl (L.shr Wt.no rfl rfl (by decide) rfl (L.cv Try.underlying136 Try.underlying3 Wt.no rfl rfl (L.as Wt.no rfl rfl (L.nil (X.seqN (E.seq (E.reg (L.mv Wt.no rfl rfl (L.mv Wt.no rfl rfl (L.mv Wt.no rfl rfl ?_)))))))))))))))))))
  obtain ⟨x25, ex25, hm⟩ := bindS hm
  refine L.ix (r := (rP (rK .i64) (rP (rK .i64) (rK .i64)))) sl24 h1 Wt.no rfl rfl ex25 rfl fun b26 o26 cc26 me26 rd26 => ?_
  obtain ⟨_, _, rfl, rfl, ⟨_, _, rfl, rfl, rfl⟩⟩ := rd26
  refine L.lg (j := 0) (cs := [.int .i64 x25.1, .int .i64 x25.2.1, .int .i64 x25.2.2]) me26 ag28 Wt.no rfl rfl rfl rfl rfl (L.mv Wt.no rfl rfl ?_)
  obtain ⟨r27, er27, hm⟩ := bindS hm
  refine L.fv2 (y := x25) (z := p1) hp2 rfl rfl Wt.no rfl rfl er27 rfl fun s28 m29 => ?_
  replace m0 := m0.trans m29.no
  replace h1 := h1.mono (m29.le no_No)
  replace hp2 := hp2.mono (m29.le no_No)
  refine L.bi Wt.no rfl rfl rfl rfl (L.nil (X.seqN ?_))
  rcases ifS hm with ⟨hc, hm⟩ | ⟨hc, hm⟩
  ·exact E.cT rfl hc (E.reg (L.mv Wt.no rfl rfl (L.bi Wt.no rfl rfl rfl rfl (L.as Wt.no rfl rfl (L.nil (X.blkN (X.sub (ih11 _ (Option.some.inj hm).symm _ _ ⟨s28, m0, h1, hp2, rfl, rfl⟩) (Sub.rf rfl))))))))
  ·exact E.cF rfl hc (E.reg (L.mv Wt.no rfl rfl (L.as Wt.no rfl rfl (L.nil (X.blkN (X.sub (ih11 _ (Option.some.inj hm).symm _ _ ⟨s28, m0, h1, hp2, rfl, rfl⟩) (Sub.rf rfl)))))))
 ·refine E.cF rfl hc (E.exit (X.seqX (X.seqX ?_)))
  have hx := ho11 _ (Option.some.inj hm).symm
  subst hx
  exact X.sub (K24 _ _ ⟨s13, m0, h1, hp2, rfl, rfl⟩) (Sub.rf rfl)

/-- What automaton.out$1 computes. -/
noncomputable def m_automaton_out_1 (p0 : Int × Int × Int) (p1 : Int) : Option Int :=
  some (W (p0.1 - p1))
set_option maxRecDepth 100000 in
set_option maxHeartbeats 8000000 in
theorem m_automaton_out_1_c {s : Sig} {p0 : Int × Int × Int} {p1 : Int} {r : Int} (hm : m_automaton_out_1 p0 p1 = some r) :
    Calls Try.prog 101 #[.agg #[.int .i64 p0.1, .int .i64 p0.2.1, .int .i64 p0.2.2], .int .i64 p1] s.w (RetS No s fun v s' => v = .int .i64 r) := by
 unfold m_automaton_out_1 at hm
 obtain ⟨N, hN, hNb⟩ := s.fresh
 have m0 : Mv (Up N No) s s := Mv.refl _ _
 refine E.entry Try.func101 rfl Try.ntmps101 rfl rfl (E.seq (E.reg (L.box (N + 0) Wt.no rfl rfl rfl fun b1 s2 m3 bx1 => ?_)))
 replace m0 := m0.trans m3.no
 refine L.as Wt.no rfl rfl (L.nil (X.seqN (E.seq (E.reg (L.fa fa28_0 Wt.no rfl rfl (L.ld (j := 0) bx1.mem nag3 Wt.no rfl rfl rfl rfl (L.mv Wt.no rfl rfl (L.bi Wt.no rfl rfl rfl rfl (L.as Wt.no rfl rfl (L.nil (X.seqN (E.ret ?_))))))))))))
 obtain rfl := Option.some.inj hm
 exact X.rt (.inl rfl) Try.results101 (Rs.tmp rfl Rs.nil) rfl ⟨_, (s2).ren N (fun _ => 0), rfl, rfl, m0.ren hNb, rfl⟩

/-- What automaton.out$2 computes. -/
noncomputable def m_automaton_out_2 (p0 : Int × Int × Int) (p1 : Int) : Option Int :=
  some (W (p0.1 - p1))
set_option maxRecDepth 100000 in
set_option maxHeartbeats 8000000 in
theorem m_automaton_out_2_c {s : Sig} {p0 : Int × Int × Int} {p1 : Int} {r : Int} (hm : m_automaton_out_2 p0 p1 = some r) :
    Calls Try.prog 102 #[.agg #[.int .i64 p0.1, .int .i64 p0.2.1, .int .i64 p0.2.2], .int .i64 p1] s.w (RetS No s fun v s' => v = .int .i64 r) := by
 unfold m_automaton_out_2 at hm
 obtain ⟨N, hN, hNb⟩ := s.fresh
 have m0 : Mv (Up N No) s s := Mv.refl _ _
 refine E.entry Try.func102 rfl Try.ntmps102 rfl rfl (E.seq (E.reg (L.box (N + 0) Wt.no rfl rfl rfl fun b1 s2 m3 bx1 => ?_)))
 replace m0 := m0.trans m3.no
 refine L.as Wt.no rfl rfl (L.nil (X.seqN (E.seq (E.reg (L.fa fa28_0 Wt.no rfl rfl (L.ld (j := 0) bx1.mem nag3 Wt.no rfl rfl rfl rfl (L.mv Wt.no rfl rfl (L.bi Wt.no rfl rfl rfl rfl (L.as Wt.no rfl rfl (L.nil (X.seqN (E.ret ?_))))))))))))
 obtain rfl := Option.some.inj hm
 exact X.rt (.inl rfl) Try.results102 (Rs.tmp rfl Rs.nil) rfl ⟨_, (s2).ren N (fun _ => 0), rfl, rfl, m0.ren hNb, rfl⟩

theorem cf100 : Cf Try.prog 100 := Cf.mk Try.func100 (by kernel_rfl) (by kernel_rfl)
theorem cf101 : Cf Try.prog 101 := Cf.mk Try.func101 (by kernel_rfl) (by kernel_rfl)
theorem cf102 : Cf Try.prog 102 := Cf.mk Try.func102 (by kernel_rfl) (by kernel_rfl)
theorem fv101 {s : Sig} : FV2 Try.prog s (.func (.func 101) #[] #[]) (fun (x0 : Int × Int × Int) (x1 : Int) => [.agg #[.int .i64 x0.1, .int .i64 x0.2.1, .int .i64 x0.2.2], .int .i64 x1]) (fun r => .int .i64 r) m_automaton_out_1 := ⟨101, #[], #[], rfl, cf101, fun x0 x1 r hm s' hl => by have hh := m_automaton_out_1_c (s := s') hm; simpa using hh⟩
theorem fv102 {s : Sig} : FV2 Try.prog s (.func (.func 102) #[] #[]) (fun (x0 : Int × Int × Int) (x1 : Int) => [.agg #[.int .i64 x0.1, .int .i64 x0.2.1, .int .i64 x0.2.2], .int .i64 x1]) (fun r => .int .i64 r) m_automaton_out_2 := ⟨102, #[], #[], rfl, cf102, fun x0 x1 r hm s' hl => by have hh := m_automaton_out_2_c (s := s') hm; simpa using hh⟩
/-- What automaton.out computes. -/
noncomputable def m_automaton_out (p0 : List Int × Int × List Int × (List (Int × Int × Int))) (p1 : Int) : Option (List (Int × Int × Int)) :=
  (m_slices_BinarySearchFunc_api_Edge_api_Edge_int p0.2.2.2 p1 m_automaton_out_1).bind fun r8 =>
  (m_slices_BinarySearchFunc_api_Edge_api_Edge_int p0.2.2.2 (W (p1 + 1)) m_automaton_out_2).bind fun r11 =>
  (slc p0.2.2.2 r8.1 r11.1).bind fun x14 =>
  some x14
set_option maxRecDepth 100000 in
set_option maxHeartbeats 8000000 in
theorem m_automaton_out_c {s : Sig} {p0 : List Int × Int × List Int × (List (Int × Int × Int))} {p1 : Int} {a1 : Option Addr} {c1 : Nat} {a2 : Option Addr} {c2 : Nat} {a3 : Option Addr} {c3 : Nat} {r : (List (Int × Int × Int))} (h1 : RdL (rK .i64) s a1 c1 p0.1) (h2 : RdL (rK .i64) s a2 c2 p0.2.2.1) (h3 : RdL (rP (rK .i64) (rP (rK .i64) (rK .i64))) s a3 c3 p0.2.2.2) (hm : m_automaton_out p0 p1 = some r) :
    Calls Try.prog 76 #[.agg #[.slice a1 p0.1.length c1, .int .i64 p0.2.1, .slice a2 p0.2.2.1.length c2, .slice a3 p0.2.2.2.length c3], .int .i64 p1] s.w (RetS No s fun v s' => ∃ (a4 : Option Addr) (c4 : Nat), v = .slice a4 r.length c4 ∧ RdL (rP (rK .i64) (rP (rK .i64) (rK .i64))) s' a4 c4 r) := by
 unfold m_automaton_out at hm
 obtain ⟨N, hN, hNb⟩ := s.fresh
 have m0 : Mv (Up N No) s s := Mv.refl _ _
 refine E.entry Try.func76 rfl Try.ntmps76 rfl rfl (E.seq (E.reg (L.box (N + 0) Wt.no rfl rfl rfl fun b5 s6 m7 bx5 => ?_)))
 replace m0 := m0.trans m7.no
 replace h3 := h3.mono (m7.le no_No)
 refine L.as Wt.no rfl rfl (L.nil (X.seqN (E.seq (E.reg (L.fa fa26_3 Wt.no rfl rfl (L.ld (j := 3) bx5.mem nag24 Wt.no rfl rfl rfl rfl (L.mv Wt.no rfl rfl ?_)))))))
 obtain ⟨r8, er8, hm⟩ := bindS hm
 refine L.ca cf100 rfl rfl Wt.no rfl (m_slices_BinarySearchFunc_api_Edge_api_Edge_int_c (s := s6) (p0 := p0.2.2.2) (p1 := p1) (p2 := m_automaton_out_1) h3 fv101 er8) rfl ?_
 rintro _ s9 m10 rfl
 replace m0 := m0.trans m10.no
 replace bx5 := bx5.mv m10 no_No
 replace h3 := h3.mono (m10.le no_No)
 refine L.mv Wt.no rfl rfl (L.ex Wt.no rfl rfl rfl (L.ex Wt.no rfl rfl rfl (L.as Wt.no rfl rfl (L.as Wt.no rfl rfl (L.nil (X.seqN (E.seq (E.reg (L.fa fa26_3 Wt.no rfl rfl (L.ld (j := 3) bx5.mem nag24 Wt.no rfl rfl rfl rfl (L.mv Wt.no rfl rfl (L.bi Wt.no rfl rfl rfl rfl ?_))))))))))))
 obtain ⟨r11, er11, hm⟩ := bindS hm
 refine L.ca cf100 rfl rfl Wt.no rfl (m_slices_BinarySearchFunc_api_Edge_api_Edge_int_c (s := s9) (p0 := p0.2.2.2) (p1 := (W (p1 + 1))) (p2 := m_automaton_out_2) h3 fv102 er11) rfl ?_
 rintro _ s12 m13 rfl
 replace m0 := m0.trans m13.no
 replace bx5 := bx5.mv m13 no_No
 replace h3 := h3.mono (m13.le no_No)
 refine L.mv Wt.no rfl rfl (L.ex Wt.no rfl rfl rfl (L.ex Wt.no rfl rfl rfl (L.as Wt.no rfl rfl (L.as Wt.no rfl rfl (L.nil (X.seqN (E.seq (E.reg (L.fa fa26_3 Wt.no rfl rfl (L.ld (j := 3) bx5.mem nag24 Wt.no rfl rfl rfl rfl (L.mv Wt.no rfl rfl (L.mv Wt.no rfl rfl ?_))))))))))))
 obtain ⟨x14, ex14, hm⟩ := bindS hm
 refine L.sl (r := (rP (rK .i64) (rP (rK .i64) (rK .i64)))) sl24 h3 Wt.no rfl rfl rfl ex14 rfl fun a15 c15 h15 => L.as Wt.no rfl rfl (L.nil (X.seqN (E.ret ?_)))
 obtain rfl := Option.some.inj hm
 exact X.rt (.inl rfl) Try.results76 (Rs.tmp rfl Rs.nil) rfl ⟨_, (s12).ren N (fun _ => 0), rfl, rfl, m0.ren hNb, ⟨a15, c15, rfl, (h15.ren hN)⟩⟩

theorem cf65 : Cf Try.prog 65 := Cf.mk Try.func65 (by kernel_rfl) (by kernel_rfl)
theorem cf76 : Cf Try.prog 76 := Cf.mk Try.func76 (by kernel_rfl) (by kernel_rfl)
noncomputable def m_automaton_Enabled_l1 (r11 : (List (Int × Int × Int))) (st35 : Int × List Int) : Option ((Int × List Int) ⊕ (List Int)) :=
  if decide (st35.1 < (r11.length : Int)) then
    (idx r11 st35.1).bind fun x41 =>
    (app st35.2 ([x41.2.1] : List Int)).bind fun x51 =>
    some (.inl (W (st35.1 + 1), x51))
  else
    some (.inr st35.2)
/-- What automaton.Enabled computes. -/
noncomputable def m_automaton_Enabled (p0 : List Int × Int × List Int × (List (Int × Int × Int))) (p1 : Int) : Option (List Int × Int) :=
  (m_automaton_checkState p0 p1).bind fun r8 =>
  if (r8 != 0) then
    some (([] : List Int), r8)
  else
    (m_automaton_out p0 p1).bind fun r11 =>
    (iter (m_automaton_Enabled_l1 r11) (0, ([] : List Int))).bind fun o35 =>
    some (o35, 0)
set_option maxRecDepth 100000 in
set_option maxHeartbeats 8000000 in
theorem m_automaton_Enabled_c {s : Sig} {p0 : List Int × Int × List Int × (List (Int × Int × Int))} {p1 : Int} {a1 : Option Addr} {c1 : Nat} {a2 : Option Addr} {c2 : Nat} {a3 : Option Addr} {c3 : Nat} {u0 : Nat} {r : List Int × Int} (h1 : RdL (rK .i64) s a1 c1 p0.1) (h2 : RdL (rK .i64) s a2 c2 p0.2.2.1) (h3 : RdL (rP (rK .i64) (rP (rK .i64) (rK .i64))) s a3 c3 p0.2.2.2) (hm : m_automaton_Enabled p0 p1 = some r) :
    Calls Try.prog 63 #[.agg #[.slice a1 p0.1.length c1, .int .i64 p0.2.1, .slice a2 p0.2.2.1.length c2, .slice a3 p0.2.2.2.length c3], .int .i64 p1] s.w (RetS No s fun v s' => ∃ (a4 : Option Addr) (c4 : Nat), v = .tuple #[.slice a4 r.1.length c4, .int .i64 r.2] ∧ RowT (rK .i64) s' u0 3 a4 c4 r.1) := by
 unfold m_automaton_Enabled at hm
 obtain ⟨N, hN, hNb⟩ := s.fresh
 have m0 : Mv (Up N No) s s := Mv.refl _ _
 refine E.entry Try.func63 rfl Try.ntmps63 rfl rfl (E.seq (E.reg (L.box (N + 0) Wt.no rfl rfl rfl fun b5 s6 m7 bx5 => ?_)))
 replace m0 := m0.trans m7.no
 replace h1 := h1.mono (m7.le no_No)
 replace h2 := h2.mono (m7.le no_No)
 replace h3 := h3.mono (m7.le no_No)
 refine L.as Wt.no rfl rfl (L.as Wt.no rfl rfl (L.nil (X.seqN (E.seq (E.seq (E.reg (L.lg (j := 0) (cs := [.slice a1 p0.1.length c1, .int .i64 p0.2.1, .slice a2 p0.2.2.1.length c2, .slice a3 p0.2.2.2.length c3]) bx5.mem ag26 Wt.no rfl rfl rfl rfl rfl (L.mv Wt.no rfl rfl ?_))))))))
 obtain ⟨r8, er8, hm⟩ := bindS hm
 refine L.ca cf65 rfl rfl Wt.no rfl (m_automaton_checkState_c (s := s6) (p0 := p0) (p1 := p1) h1 h2 h3 er8) rfl ?_
 rintro _ s9 m10 rfl
 replace m0 := m0.trans m10.no
 replace bx5 := bx5.mv m10 no_No
 replace h1 := h1.mono (m10.le no_No)
 replace h2 := h2.mono (m10.le no_No)
 replace h3 := h3.mono (m10.le no_No)
 refine L.as Wt.no rfl rfl (L.nil (X.seqN (E.seq (E.reg (L.mv Wt.no rfl rfl (L.bi Wt.no rfl rfl rfl rfl (L.nil (X.seqN ?_))))))))
 rcases ifS hm with ⟨hc, hm⟩ | ⟨hc, hm⟩
 ·refine E.cT rfl hc (E.seq (E.reg (L.mv Wt.no rfl rfl (L.as Wt.no rfl rfl (L.as Wt.no rfl rfl (L.nil (X.seqN (E.ret (X.seqR ?_)))))))))
  obtain rfl := Option.some.inj hm
  exact X.rt (.inl rfl) Try.results63 (Rs.tmp rfl (Rs.tmp rfl Rs.nil)) rfl ⟨_, (s9).ren N (fun _ => 0), rfl, rfl, m0.ren hNb, ⟨none, 0, rfl, RowT.nil⟩⟩
 ·refine E.cF rfl hc (E.skip (X.seqN (E.seq (E.reg (L.as Wt.no rfl rfl (L.nil (X.seqN (E.seq (E.seq (E.reg (L.lg (j := 0) (cs := [.slice a1 p0.1.length c1, .int .i64 p0.2.1, .slice a2 p0.2.2.1.length c2, .slice a3 p0.2.2.2.length c3]) bx5.mem ag26 Wt.no rfl rfl rfl rfl rfl (L.mv Wt.no rfl rfl ?_))))))))))))
  obtain ⟨r11, er11, hm⟩ := bindS hm
  refine L.ca cf76 rfl rfl Wt.no rfl (m_automaton_out_c (s := s9) (p0 := p0) (p1 := p1) h1 h2 h3 er11) rfl ?_
  rintro _ s12 m13 ⟨a14, c14, rfl, h14⟩
  replace m0 := m0.trans m13.no
  refine L.len sl24 Wt.no rfl rfl (L.mv Wt.no rfl rfl (L.nil (X.seqN (E.block ?_))))
  obtain ⟨o35, eo35, hm⟩ := bindS hm
  refine E.cut (x := .exit 0) (fun e w => ∃ (s39 : Sig) (a37 : Option Addr) (c37 : Nat), Mv (Up N No) s s39 ∧ RowT (rK .i64) s39 (N + 2) 3 a37 c37 o35 ∧ e = [(7, .slice a37 o35.length c37)] ∧ w = s39.w) ?_ ?_
  ·rintro _ _ ⟨s39, a37, c37, m0, h37, rfl, rfl⟩
   refine X.blkE (X.seqN (E.seq (E.reg (L.mv Wt.no rfl rfl (L.as Wt.no rfl rfl (L.as Wt.no rfl rfl (L.nil (X.seqN (E.ret ?_)))))))))
   obtain rfl := Option.some.inj hm
   exact X.rt (.inl rfl) Try.results63 (Rs.tmp rfl (Rs.tmp rfl Rs.nil)) rfl ⟨_, (s39).ren N (fun k => cond (Nat.beq k 2) u0 (0)), rfl, rfl, m0.ren hNb, ⟨a37, c37, rfl, (h37.ren hN)⟩⟩
  intro K40
  refine E.iter (fun (st35 : Int × List Int) (e : List (Nat × Value)) (w : World) => ∃ (s38 : Sig) (a17 : Option Addr) (c17 : Nat), Mv (Up N No) s s38 ∧ RdL (rP (rK .i64) (rP (rK .i64) (rK .i64))) s38 a14 c14 r11 ∧ RowT (rK .i64) s38 (N + 2) 3 a17 c17 st35.2 ∧ e = [(20, .int .i64 st35.1), (19, .int .i64 (r11.length : Int)), (18, .slice a14 r11.length c14), (7, .slice a17 st35.2.length c17)] ∧ w = s38.w) eo35 ⟨s12, none, 0, m0, h14, RowT.nil, rfl, rfl⟩ (Sub.rf rfl) ?_
  rintro st35 res35 hm ih35 ho35 _ _ ⟨s38, a17, c17, m0, h14, h17, rfl, rfl⟩
  unfold m_automaton_Enabled_l1 at hm
  refine E.seq (E.reg (L.bi Wt.no rfl rfl rfl rfl (L.nil (X.seqN (E.seq ?_)))))
  rcases ifS hm with ⟨hc, hm⟩ | ⟨hc, hm⟩
  ·refine E.cT rfl hc (E.skip (X.seqN (E.seq (E.block (E.seq (E.reg ?_))))))
   obtain ⟨x41, ex41, hm⟩ := bindS hm
   refine L.ix (r := (rP (rK .i64) (rP (rK .i64) (rK .i64)))) sl24 h14 Wt.no rfl rfl ex41 rfl fun b42 o42 cc42 me42 rd42 => ?_
   obtain ⟨_, _, rfl, rfl, ⟨_, _, rfl, rfl, rfl⟩⟩ := rd42
   refine L.lg (j := 0) (cs := [.int .i64 x41.1, .int .i64 x41.2.1, .int .i64 x41.2.2]) me42 ag28 Wt.no rfl rfl rfl rfl rfl (L.al (N + 1) zz28 rfl Wt.no rfl fun b43 s44 m45 bx43 => ?_)
   replace m0 := m0.trans m45.no
   replace h14 := h14.mono (m45.le no_No)
   replace h17 := h17.mv m45 no_No no_No
   refine L.st (c := [.int .i64 x41.1, .int .i64 x41.2.1, .int .i64 x41.2.2]) (cs' := #[.int .i64 x41.1, .int .i64 x41.2.1, .int .i64 x41.2.2]) bx43 ag28.sz Wt.no rfl rfl rfl rfl rfl (Nat.le_of_ble_eq_true rfl) rfl fun s46 m47 bx43 => ?_
   replace m0 := m0.trans (m47.one up)
   replace h14 := h14.mono (m47.le (tg0 hN))
   replace h17 := h17.mv m47 (tgN (by decide)) (tg0 hN)
   refine L.nil (X.seqN (E.reg (L.mv Wt.no rfl rfl (L.fa fa28_1 Wt.no rfl rfl (L.ld (j := 1) bx43.mem nag3 Wt.no rfl rfl rfl rfl (L.bsE (k := 1) (cs := [.int .i64 x41.2.1]) 0 bs23 (Nat.le_of_ble_eq_true rfl) Wt.no rfl rfl rfl rfl fun b48 s49 m50 bx48 => ?_))))))
   replace m0 := m0.trans m50.no
   replace h14 := h14.mono (m50.le no_No)
   replace h17 := h17.mv m50 no_No no_No
   have h48 := Bx.rdL (r := (rK .i64)) (xs := ([x41.2.1] : List Int)) bx48 ⟨[.int .i64 x41.2.1], _, rfl, rfl, rfl⟩ (Nat.le_of_ble_eq_true rfl)
   obtain ⟨x51, ex51, hm⟩ := bindS hm
   refine L.ap (r := (rK .i64)) Try.underlying23 el3 rfl (tgp hN) h17 h48.wk Wt.no rfl rfl ex51 rfl fun a52 c52 s53 m54 h52 => ?_
   replace m0 := m0.trans (m54.one up)
   replace h14 := h14.mono (m54.le (tg0 hN))
   exact L.as Wt.no rfl rfl (L.nil (X.blkN (X.seqN (E.reg (L.bi Wt.no rfl rfl rfl rfl (L.mv Wt.no rfl rfl (L.nil (X.sub (ih35 _ (Option.some.inj hm).symm _ _ ⟨s53, a52, c52, m0, h14, h52, rfl, rfl⟩) (Sub.rf rfl)))))))))
  ·refine E.cF rfl hc (E.exit (X.seqX (X.seqX ?_)))
   have hx := ho35 _ (Option.some.inj hm).symm
   subst hx
   exact X.sub (K40 _ _ ⟨s38, a17, c17, m0, h17, rfl, rfl⟩) (Sub.rf rfl)

/-- What automaton.next$1 computes. -/
noncomputable def m_automaton_next_1 (q0 : Int) (p0 : Int × Int × Int) : Option Bool :=
  some (p0.2.1 == q0)
set_option maxRecDepth 100000 in
set_option maxHeartbeats 8000000 in
theorem m_automaton_next_1_c {s : Sig} {q0 : Int} {p0 : Int × Int × Int} {b1 : Nat} {r : Bool} (bx1 : Bx s 0 b1 #[.int .i64 q0] 3) (hm : m_automaton_next_1 q0 p0 = some r) :
    Calls Try.prog 104 #[.agg #[.int .i64 p0.1, .int .i64 p0.2.1, .int .i64 p0.2.2], .pointer (some ⟨b1, 0, none⟩)] s.w (RetS No s fun v s' => v = .bool r) := by
 unfold m_automaton_next_1 at hm
 obtain ⟨N, hN, hNb⟩ := s.fresh
 have m0 : Mv (Up N No) s s := Mv.refl _ _
 refine E.entry Try.func104 rfl Try.ntmps104 rfl rfl (E.seq (E.reg (L.box (N + 0) Wt.no rfl rfl rfl fun b2 s3 m4 bx2 => ?_)))
 replace m0 := m0.trans m4.no
 replace bx1 := bx1.mv m4 no_No
 refine L.as Wt.no rfl rfl (L.nil (X.seqN (E.seq (E.reg (L.fa fa28_1 Wt.no rfl rfl (L.ld (j := 1) bx2.mem nag3 Wt.no rfl rfl rfl rfl (L.ld (j := 0) bx1.mem nag3 Wt.no rfl rfl rfl rfl (L.bi Wt.no rfl rfl rfl rfl (L.as Wt.no rfl rfl (L.nil (X.seqN (E.ret ?_))))))))))))
 obtain rfl := Option.some.inj hm
 exact X.rt (.inl rfl) Try.results104 (Rs.tmp rfl Rs.nil) rfl ⟨_, (s3).ren N (fun _ => 0), rfl, rfl, m0.ren hNb, rfl⟩

end Go.Proofs.Ytkkemchihllklaa

namespace Go.Proofs.Ytkkemchihllklaa
open Go Go.RowKit
noncomputable def m_slices_IndexFunc_Edge_l1 (p0 : List (Int × Int × Int)) (p1 : (Int × Int × Int) → Option Bool) (st9 : Int) : Option (Int ⊕ (Unit ⊕ Int)) :=
  if decide (st9 < (p0.length : Int)) then
    (idx p0 st9).bind fun x18 =>
    (p1 x18).bind fun r20 =>
    if r20 then
      some (.inr (.inr (st9)))
    else
      some (.inl (W (st9 + 1)))
  else
    some (.inr (.inl ()))
/-- What api.Edge> computes. -/
noncomputable def m_slices_IndexFunc_Edge (p0 : List (Int × Int × Int)) (p1 : (Int × Int × Int) → Option Bool) : Option Int :=
  (iter (m_slices_IndexFunc_Edge_l1 p0 p1) 0).bind fun o9 =>
  match o9 with
  | .inl u12 =>
    some (-1)
  | .inr (u15) =>
    some u15
set_option maxRecDepth 100000 in
set_option maxHeartbeats 8000000 in
theorem m_slices_IndexFunc_Edge_c {s : Sig} {p0 : List (Int × Int × Int)} {p1 : (Int × Int × Int) → Option Bool} {a1 : Option Addr} {c1 : Nat} {vp1 : Value} {r : Int} (h1 : RdL (rP (rK .i64) (rP (rK .i64) (rK .i64))) s a1 c1 p0) (hp1 : FV1 Try.prog s vp1 (fun (x0 : Int × Int × Int) => [.agg #[.int .i64 x0.1, .int .i64 x0.2.1, .int .i64 x0.2.2]]) (fun (r : Bool) => .bool r) p1) (hm : m_slices_IndexFunc_Edge p0 p1 = some r) :
    Calls Try.prog 103 #[.slice a1 p0.length c1, vp1] s.w (RetS No s fun v s' => v = .int .i64 r) := by
 unfold m_slices_IndexFunc_Edge at hm
 obtain ⟨N, hN, hNb⟩ := s.fresh
 have m0 : Mv (Up N No) s s := Mv.refl _ _
 refine E.entry Try.func103 rfl Try.ntmps103 rfl rfl (E.seq (E.reg (L.as Wt.no rfl rfl (L.nil (X.seqN (E.seq (E.seq (E.reg (L.mv Wt.no rfl rfl (L.len sl24 Wt.no rfl rfl (L.mv Wt.no rfl rfl (L.nil (X.seqN (E.block ?_))))))))))))))
 obtain ⟨o9, eo9, hm⟩ := bindS hm
 refine E.cut (x := .exit 0) (fun e w => ∃ (s13 : Sig) (u12 : Unit), o9 = .inl u12 ∧ Mv (Up N No) s s13 ∧ e = [] ∧ w = s13.w) ?_ ?_
 ·rintro _ _ ⟨s13, u12, rfl, m0, rfl, rfl⟩
  dsimp only at hm
  refine X.blkE (X.seqN (E.seq (E.reg (L.as Wt.no rfl rfl (L.nil (X.seqN (E.ret ?_)))))))
  obtain rfl := Option.some.inj hm
  exact X.rt (.inl rfl) Try.results103 (Rs.tmp rfl Rs.nil) rfl ⟨_, (s13).ren N (fun _ => 0), rfl, rfl, m0.ren hNb, rfl⟩
 intro K14
 refine E.cut (x := .ret) (fun e w => ∃ (s16 : Sig) (u15 : Int), o9 = .inr (u15) ∧ Mv (Up N No) s s16 ∧ e = [(4, .int .i64 u15)] ∧ w = s16.w) ?_ ?_
 ·rintro _ _ ⟨s16, u15, rfl, m0, rfl, rfl⟩
  dsimp only at hm
  refine X.blkR (X.seqR ?_)
  obtain rfl := Option.some.inj hm
  exact X.rt (.inl rfl) Try.results103 (Rs.tmp rfl Rs.nil) rfl ⟨_, (s16).ren N (fun _ => 0), rfl, rfl, m0.ren hNb, rfl⟩
 intro K17
 refine E.iter (fun (st9 : Int) (e : List (Nat × Value)) (w : World) => ∃ (s11 : Sig), Mv (Up N No) s s11 ∧ RdL (rP (rK .i64) (rP (rK .i64) (rK .i64))) s11 a1 c1 p0 ∧ FV1 Try.prog s11 vp1 (fun (x0 : Int × Int × Int) => [.agg #[.int .i64 x0.1, .int .i64 x0.2.1, .int .i64 x0.2.2]]) (fun (r : Bool) => .bool r) p1 ∧ e = [(8, .int .i64 st9), (7, .int .i64 (p0.length : Int)), (0, .slice a1 p0.length c1), (1, vp1)] ∧ w = s11.w) eo9 ⟨s, m0, h1, hp1, rfl, rfl⟩ (Sub.rf rfl) ?_
 rintro st9 res9 hm ih9 ho9 _ _ ⟨s11, m0, h1, hp1, rfl, rfl⟩
 unfold m_slices_IndexFunc_Edge_l1 at hm
 refine E.seq (E.reg (L.bi Wt.no rfl rfl rfl rfl (L.nil (X.seqN (E.seq ?_)))))
 rcases ifS hm with ⟨hc, hm⟩ | ⟨hc, hm⟩
 ·refine E.cT rfl hc (E.skip (X.seqN (E.seq (E.block (E.seq (E.reg (L.mv Wt.no rfl rfl (L.as Wt.no rfl rfl (L.nil (X.seqN (E.seq (E.reg (L.mv Wt.no rfl rfl (L.mv Wt.no rfl rfl (L.mv Wt.no rfl rfl ?_)))))))))))))))
  obtain ⟨x18, ex18, hm⟩ := bindS hm
  refine L.ix (r := (rP (rK .i64) (rP (rK .i64) (rK .i64)))) sl24 h1 Wt.no rfl rfl ex18 rfl fun b19 o19 cc19 me19 rd19 => ?_
  obtain ⟨_, _, rfl, rfl, ⟨_, _, rfl, rfl, rfl⟩⟩ := rd19
  refine L.lg (j := 0) (cs := [.int .i64 x18.1, .int .i64 x18.2.1, .int .i64 x18.2.2]) me19 ag28 Wt.no rfl rfl rfl rfl rfl ?_
  obtain ⟨r20, er20, hm⟩ := bindS hm
  refine L.fv1 (y := x18) hp1 rfl rfl Wt.no rfl rfl er20 rfl fun s21 m22 => ?_
  replace m0 := m0.trans m22.no
  replace h1 := h1.mono (m22.le no_No)
  replace hp1 := hp1.mono (m22.le no_No)
  refine L.nil (X.seqN ?_)
  rcases ifS hm with ⟨hc, hm⟩ | ⟨hc, hm⟩
  ·refine E.cT rfl hc (E.seq (E.reg (L.mv Wt.no rfl rfl (L.as Wt.no rfl rfl (L.nil (X.seqN (E.ret (X.blkR (X.seqR (X.seqR ?_))))))))))
   have hx := ho9 _ (Option.some.inj hm).symm
   exact X.sub (K17 _ _ ⟨s21, st9, hx.symm, m0, rfl, rfl⟩) (Sub.rf rfl)
  ·exact E.cF rfl hc (E.skip (X.blkN (X.seqN (E.reg (L.bi Wt.no rfl rfl rfl rfl (L.mv Wt.no rfl rfl (L.nil (X.sub (ih9 _ (Option.some.inj hm).symm _ _ ⟨s21, m0, h1, hp1, rfl, rfl⟩) (Sub.rf rfl)))))))))
 ·refine E.cF rfl hc (E.exit (X.seqX (X.seqX ?_)))
  have hx := ho9 _ (Option.some.inj hm).symm
  exact X.sub (K14 _ _ ⟨s11, (), hx.symm, m0, rfl, rfl⟩) Sub.nil

theorem cf103 : Cf Try.prog 103 := Cf.mk Try.func103 (by kernel_rfl) (by kernel_rfl)
theorem cf104 : Cf Try.prog 104 := Cf.mk Try.func104 (by kernel_rfl) (by kernel_rfl)
/-- What automaton.next computes. -/
noncomputable def m_automaton_next (p0 : List Int × Int × List Int × (List (Int × Int × Int))) (p1 : Int) (p2 : Int) : Option Int :=
  (m_automaton_out p0 p1).bind fun r10 =>
  (m_slices_IndexFunc_Edge r10 (m_automaton_next_1 p2)).bind fun r16 =>
  if decide (r16 < 0) then
    some (-1)
  else
    (idx r10 r16).bind fun x19 =>
    some x19.2.2
set_option maxRecDepth 100000 in
set_option maxHeartbeats 8000000 in
theorem m_automaton_next_c {s : Sig} {p0 : List Int × Int × List Int × (List (Int × Int × Int))} {p1 : Int} {p2 : Int} {a1 : Option Addr} {c1 : Nat} {a2 : Option Addr} {c2 : Nat} {a3 : Option Addr} {c3 : Nat} {r : Int} (h1 : RdL (rK .i64) s a1 c1 p0.1) (h2 : RdL (rK .i64) s a2 c2 p0.2.2.1) (h3 : RdL (rP (rK .i64) (rP (rK .i64) (rK .i64))) s a3 c3 p0.2.2.2) (hm : m_automaton_next p0 p1 p2 = some r) :
    Calls Try.prog 77 #[.agg #[.slice a1 p0.1.length c1, .int .i64 p0.2.1, .slice a2 p0.2.2.1.length c2, .slice a3 p0.2.2.2.length c3], .int .i64 p1, .int .i64 p2] s.w (RetS No s fun v s' => v = .int .i64 r) := by
 unfold m_automaton_next at hm
 obtain ⟨N, hN, hNb⟩ := s.fresh
 have m0 : Mv (Up N No) s s := Mv.refl _ _
 refine E.entry Try.func77 rfl Try.ntmps77 rfl rfl (E.seq (E.reg (L.box (N + 0) Wt.no rfl rfl rfl fun b4 s5 m6 bx4 => ?_)))
 replace m0 := m0.trans m6.no
 replace h1 := h1.mono (m6.le no_No)
 replace h2 := h2.mono (m6.le no_No)
 replace h3 := h3.mono (m6.le no_No)
 refine L.box (N + 1) Wt.no rfl rfl rfl fun b7 s8 m9 bx7 => ?_
 replace m0 := m0.trans m9.no
 replace bx4 := bx4.mv m9 no_No
 replace h1 := h1.mono (m9.le no_No)
 replace h2 := h2.mono (m9.le no_No)
 replace h3 := h3.mono (m9.le no_No)
 refine L.as Wt.no rfl rfl (L.nil (X.seqN (E.seq (E.reg (L.lg (j := 0) (cs := [.slice a1 p0.1.length c1, .int .i64 p0.2.1, .slice a2 p0.2.2.1.length c2, .slice a3 p0.2.2.2.length c3]) bx4.mem ag26 Wt.no rfl rfl rfl rfl rfl (L.mv Wt.no rfl rfl ?_))))))
 obtain ⟨r10, er10, hm⟩ := bindS hm
 refine L.ca cf76 rfl rfl Wt.no rfl (m_automaton_out_c (s := s8) (p0 := p0) (p1 := p1) h1 h2 h3 er10) rfl ?_
 rintro _ s11 m12 ⟨a13, c13, rfl, h13⟩
 replace m0 := m0.trans m12.no
 replace bx7 := bx7.mv m12 no_No
 refine L.as Wt.no rfl rfl (L.nil (X.seqN (E.seq (E.reg (L.mv Wt.no rfl rfl ?_)))))
 have m14 := Sig.fz_mv (N + 1) s11
 replace bx7 := bx7.fz (tgn hN)
 replace m0 := m0.trans (m14.one up)
 replace h13 := h13.mono (m14.le (tg0 hN))
 refine L.toR (s' := (Sig.fz (N + 1) s11)) rfl ?_
 have h15 : FV1 Try.prog (Sig.fz (N + 1) s11) (.func (.func 104) #[] #[.pointer (some ⟨b7, 0, none⟩)]) (fun (x0 : Int × Int × Int) => [.agg #[.int .i64 x0.1, .int .i64 x0.2.1, .int .i64 x0.2.2]]) (fun (r : Bool) => .bool r) (m_automaton_next_1 p2) := ⟨104, #[], #[.pointer (some ⟨b7, 0, none⟩)], rfl, cf104, fun x0 r hm s' hl => by have hh := m_automaton_next_1_c (s := s') (bx7.le hl) hm; simpa using hh⟩
 refine L.mf Wt.no rfl rfl rfl ?_
 obtain ⟨r16, er16, hm⟩ := bindS hm
 refine L.ca cf103 rfl rfl Wt.no rfl (m_slices_IndexFunc_Edge_c (s := (Sig.fz (N + 1) s11)) (p0 := r10) (p1 := (m_automaton_next_1 p2)) h13 h15 er16) rfl ?_
 rintro _ s17 m18 rfl
 replace m0 := m0.trans m18.no
 replace h13 := h13.mono (m18.le no_No)
 refine L.as Wt.no rfl rfl (L.nil (X.seqN (E.seq (E.seq (E.reg (L.mv Wt.no rfl rfl (L.bi Wt.no rfl rfl rfl rfl (L.nil (X.seqN ?_)))))))))
 rcases ifS hm with ⟨hc, hm⟩ | ⟨hc, hm⟩
 ·refine E.cT rfl hc (E.seq (E.reg (L.as Wt.no rfl rfl (L.nil (X.seqN (E.ret (X.seqR ?_)))))))
  obtain rfl := Option.some.inj hm
  exact X.rt (.inl rfl) Try.results77 (Rs.tmp rfl Rs.nil) rfl ⟨_, (s17).ren N (fun _ => 0), rfl, rfl, m0.ren hNb, rfl⟩
 ·refine E.cF rfl hc (E.skip (X.seqN (E.seq (E.reg (L.mv Wt.no rfl rfl (L.mv Wt.no rfl rfl ?_))))))
  obtain ⟨x19, ex19, hm⟩ := bindS hm
  refine L.ix (r := (rP (rK .i64) (rP (rK .i64) (rK .i64)))) sl24 h13 Wt.no rfl rfl ex19 rfl fun b20 o20 cc20 me20 rd20 => ?_
  obtain ⟨_, _, rfl, rfl, ⟨_, _, rfl, rfl, rfl⟩⟩ := rd20
  refine L.fa fa28_2 Wt.no rfl rfl (L.ld (j := 2) me20 nag3 Wt.no rfl rfl rfl rfl (L.as Wt.no rfl rfl (L.nil (X.seqN (E.ret ?_)))))
  obtain rfl := Option.some.inj hm
  exact X.rt (.inl rfl) Try.results77 (Rs.tmp rfl Rs.nil) rfl ⟨_, (s17).ren N (fun _ => 0), rfl, rfl, m0.ren hNb, rfl⟩

theorem cf77 : Cf Try.prog 77 := Cf.mk Try.func77 (by kernel_rfl) (by kernel_rfl)
/-- What automaton.Step computes. -/
noncomputable def m_automaton_Step (p0 : List Int × Int × List Int × (List (Int × Int × Int))) (p1 : Int) (p2 : Int) : Option (Int × Bool × Int) :=
  (m_automaton_checkState p0 p1).bind fun r7 =>
  if (r7 != 0) then
    some (0, false, r7)
  else
    (m_slices_Contains_int p0.1 p2).bind fun r10 =>
    if (!r10) then
      some (0, false, 9)
    else
      (m_automaton_next p0 p1 p2).bind fun r13 =>
      if decide (r13 ≥ 0) then
        some (r13, true, 0)
      else
        some (0, false, 0)
set_option maxRecDepth 100000 in
set_option maxHeartbeats 8000000 in
theorem m_automaton_Step_c {s : Sig} {p0 : List Int × Int × List Int × (List (Int × Int × Int))} {p1 : Int} {p2 : Int} {a1 : Option Addr} {c1 : Nat} {a2 : Option Addr} {c2 : Nat} {a3 : Option Addr} {c3 : Nat} {r : Int × Bool × Int} (h1 : RdL (rK .i64) s a1 c1 p0.1) (h2 : RdL (rK .i64) s a2 c2 p0.2.2.1) (h3 : RdL (rP (rK .i64) (rP (rK .i64) (rK .i64))) s a3 c3 p0.2.2.2) (hm : m_automaton_Step p0 p1 p2 = some r) :
    Calls Try.prog 64 #[.agg #[.slice a1 p0.1.length c1, .int .i64 p0.2.1, .slice a2 p0.2.2.1.length c2, .slice a3 p0.2.2.2.length c3], .int .i64 p1, .int .i64 p2] s.w (RetS No s fun v s' => v = .tuple #[.int .i64 r.1, .bool r.2.1, .int .i64 r.2.2]) := by
 unfold m_automaton_Step at hm
 obtain ⟨N, hN, hNb⟩ := s.fresh
 have m0 : Mv (Up N No) s s := Mv.refl _ _
 refine E.entry Try.func64 rfl Try.ntmps64 rfl rfl (E.seq (E.reg (L.box (N + 0) Wt.no rfl rfl rfl fun b4 s5 m6 bx4 => ?_)))
 replace m0 := m0.trans m6.no
 replace h1 := h1.mono (m6.le no_No)
 replace h2 := h2.mono (m6.le no_No)
 replace h3 := h3.mono (m6.le no_No)
 refine L.as Wt.no rfl rfl (L.as Wt.no rfl rfl (L.as Wt.no rfl rfl (L.nil (X.seqN (E.seq (E.seq (E.reg (L.lg (j := 0) (cs := [.slice a1 p0.1.length c1, .int .i64 p0.2.1, .slice a2 p0.2.2.1.length c2, .slice a3 p0.2.2.2.length c3]) bx4.mem ag26 Wt.no rfl rfl rfl rfl rfl (L.mv Wt.no rfl rfl ?_)))))))))
 obtain ⟨r7, er7, hm⟩ := bindS hm
 refine L.ca cf65 rfl rfl Wt.no rfl (m_automaton_checkState_c (s := s5) (p0 := p0) (p1 := p1) h1 h2 h3 er7) rfl ?_
 rintro _ s8 m9 rfl
 replace m0 := m0.trans m9.no
 replace bx4 := bx4.mv m9 no_No
 replace h1 := h1.mono (m9.le no_No)
 replace h2 := h2.mono (m9.le no_No)
 replace h3 := h3.mono (m9.le no_No)
 refine L.as Wt.no rfl rfl (L.nil (X.seqN (E.seq (E.reg (L.mv Wt.no rfl rfl (L.bi Wt.no rfl rfl rfl rfl (L.nil (X.seqN ?_))))))))
 rcases ifS hm with ⟨hc, hm⟩ | ⟨hc, hm⟩
 ·refine E.cT rfl hc (E.seq (E.reg (L.mv Wt.no rfl rfl (L.as Wt.no rfl rfl (L.as Wt.no rfl rfl (L.as Wt.no rfl rfl (L.nil (X.seqN (E.ret (X.seqR ?_))))))))))
  obtain rfl := Option.some.inj hm
  exact X.rt (.inl rfl) Try.results64 (Rs.tmp rfl (Rs.tmp rfl (Rs.tmp rfl Rs.nil))) rfl ⟨_, (s8).ren N (fun _ => 0), rfl, rfl, m0.ren hNb, rfl⟩
 ·refine E.cF rfl hc (E.skip (X.seqN (E.seq (E.seq (E.reg (L.fa fa26_0 Wt.no rfl rfl (L.ld (j := 0) bx4.mem nag23 Wt.no rfl rfl rfl rfl (L.mv Wt.no rfl rfl ?_))))))))
  obtain ⟨r10, er10, hm⟩ := bindS hm
  refine L.ca cf23 rfl rfl Wt.no rfl (m_slices_Contains_int_c (s := s8) (p0 := p0.1) (p1 := p2) h1 er10) rfl ?_
  rintro _ s11 m12 rfl
  replace m0 := m0.trans m12.no
  replace bx4 := bx4.mv m12 no_No
  replace h1 := h1.mono (m12.le no_No)
  replace h2 := h2.mono (m12.le no_No)
  replace h3 := h3.mono (m12.le no_No)
  refine L.not Wt.no rfl rfl (L.nil (X.seqN ?_))
  rcases ifS hm with ⟨hc, hm⟩ | ⟨hc, hm⟩
  ·refine E.cT rfl hc (E.seq (E.reg (L.as Wt.no rfl rfl (L.as Wt.no rfl rfl (L.as Wt.no rfl rfl (L.nil (X.seqN (E.ret (X.seqR ?_)))))))))
   obtain rfl := Option.some.inj hm
   exact X.rt (.inl rfl) Try.results64 (Rs.tmp rfl (Rs.tmp rfl (Rs.tmp rfl Rs.nil))) rfl ⟨_, (s11).ren N (fun _ => 0), rfl, rfl, m0.ren hNb, rfl⟩
  ·refine E.cF rfl hc (E.skip (X.seqN (E.seq (E.seq (E.reg (L.lg (j := 0) (cs := [.slice a1 p0.1.length c1, .int .i64 p0.2.1, .slice a2 p0.2.2.1.length c2, .slice a3 p0.2.2.2.length c3]) bx4.mem ag26 Wt.no rfl rfl rfl rfl rfl (L.mv Wt.no rfl rfl (L.mv Wt.no rfl rfl ?_))))))))
   obtain ⟨r13, er13, hm⟩ := bindS hm
   refine L.ca cf77 rfl rfl Wt.no rfl (m_automaton_next_c (s := s11) (p0 := p0) (p1 := p1) (p2 := p2) h1 h2 h3 er13) rfl ?_
   rintro _ s14 m15 rfl
   replace m0 := m0.trans m15.no
   refine L.as Wt.no rfl rfl (L.nil (X.seqN (E.seq (E.reg (L.mv Wt.no rfl rfl (L.bi Wt.no rfl rfl rfl rfl (L.nil (X.seqN ?_))))))))
   rcases ifS hm with ⟨hc, hm⟩ | ⟨hc, hm⟩
   ·refine E.cT rfl hc (E.seq (E.reg (L.mv Wt.no rfl rfl (L.as Wt.no rfl rfl (L.as Wt.no rfl rfl (L.as Wt.no rfl rfl (L.nil (X.seqN (E.ret (X.seqR ?_))))))))))
    obtain rfl := Option.some.inj hm
    exact X.rt (.inl rfl) Try.results64 (Rs.tmp rfl (Rs.tmp rfl (Rs.tmp rfl Rs.nil))) rfl ⟨_, (s14).ren N (fun _ => 0), rfl, rfl, m0.ren hNb, rfl⟩
   ·refine E.cF rfl hc (E.skip (X.seqN (E.seq (E.reg (L.as Wt.no rfl rfl (L.as Wt.no rfl rfl (L.as Wt.no rfl rfl (L.nil (X.seqN (E.ret ?_))))))))))
    obtain rfl := Option.some.inj hm
    exact X.rt (.inl rfl) Try.results64 (Rs.tmp rfl (Rs.tmp rfl (Rs.tmp rfl Rs.nil))) rfl ⟨_, (s14).ren N (fun _ => 0), rfl, rfl, m0.ren hNb, rfl⟩

theorem cf63 : Cf Try.prog 63 := Cf.mk Try.func63 (by kernel_rfl) (by kernel_rfl)
theorem cf64 : Cf Try.prog 64 := Cf.mk Try.func64 (by kernel_rfl) (by kernel_rfl)
noncomputable def m_generate_Follow_j1 (st31 : Int × Bool × Int) (r39 : Int × Bool × Int) (n42 : Int) : Option ((Int × Bool × Int) ⊕ (Bool × Int)) :=
  some (.inl (W (st31.1 + 1), (st31.2.1 || (!r39.2.1)), n42))
noncomputable def m_generate_Follow_l1 (p0 : List Int × Int × List Int × (List (Int × Int × Int))) (p2 : List Int) (st31 : Int × Bool × Int) : Option ((Int × Bool × Int) ⊕ (Bool × Int)) :=
  if decide (st31.1 < (p2.length : Int)) then
    (idx p2 st31.1).bind fun x37 =>
    (m_automaton_Step p0 st31.2.2 x37).bind fun r39 =>
    if r39.2.1 then
      m_generate_Follow_j1 st31 r39 r39.1
    else
      m_generate_Follow_j1 st31 r39 st31.2.2
  else
    some (.inr st31.2)
/-- What generate.Follow computes. -/
noncomputable def m_generate_Follow (p0 : List Int × Int × List Int × (List (Int × Int × Int))) (p1 : Int) (p2 : List Int) : Option (Int × Bool × Int) :=
  (m_automaton_Enabled p0 p1).bind fun r8 =>
  if (r8.2 != 0) then
    some (0, false, r8.2)
  else
    (m_generate_among p2 p0.1).bind fun r12 =>
    if (r12 != 0) then
      some (0, false, r12)
    else
      (iter (m_generate_Follow_l1 p0 p2) (0, false, p1)).bind fun o31 =>
      some (o31.2, o31.1, 0)
set_option maxRecDepth 100000 in
set_option maxHeartbeats 8000000 in
theorem m_generate_Follow_c {s : Sig} {p0 : List Int × Int × List Int × (List (Int × Int × Int))} {p1 : Int} {p2 : List Int} {a1 : Option Addr} {c1 : Nat} {a2 : Option Addr} {c2 : Nat} {a3 : Option Addr} {c3 : Nat} {a4 : Option Addr} {c4 : Nat} {r : Int × Bool × Int} (h1 : RdL (rK .i64) s a1 c1 p0.1) (h2 : RdL (rK .i64) s a2 c2 p0.2.2.1) (h3 : RdL (rP (rK .i64) (rP (rK .i64) (rK .i64))) s a3 c3 p0.2.2.2) (h4 : RdL (rK .i64) s a4 c4 p2) (hm : m_generate_Follow p0 p1 p2 = some r) :
    Calls Try.prog 34 #[.agg #[.slice a1 p0.1.length c1, .int .i64 p0.2.1, .slice a2 p0.2.2.1.length c2, .slice a3 p0.2.2.2.length c3], .int .i64 p1, .slice a4 p2.length c4] s.w (RetS No s fun v s' => v = .tuple #[.int .i64 r.1, .bool r.2.1, .int .i64 r.2.2]) := by
 unfold m_generate_Follow at hm
 obtain ⟨N, hN, hNb⟩ := s.fresh
 have m0 : Mv (Up N No) s s := Mv.refl _ _
 refine E.entry Try.func34 rfl Try.ntmps34 rfl rfl (E.seq (E.reg (L.box (N + 0) Wt.no rfl rfl rfl fun b5 s6 m7 bx5 => ?_)))
 replace m0 := m0.trans m7.no
 replace h4 := h4.mono (m7.le no_No)
 replace h1 := h1.mono (m7.le no_No)
 replace h2 := h2.mono (m7.le no_No)
 replace h3 := h3.mono (m7.le no_No)
 refine L.as Wt.no rfl rfl (L.as Wt.no rfl rfl (L.as Wt.no rfl rfl (L.nil (X.seqN (E.seq (E.seq (E.reg (L.lg (j := 0) (cs := [.slice a1 p0.1.length c1, .int .i64 p0.2.1, .slice a2 p0.2.2.1.length c2, .slice a3 p0.2.2.2.length c3]) bx5.mem ag26 Wt.no rfl rfl rfl rfl rfl (L.mv Wt.no rfl rfl ?_)))))))))
 obtain ⟨r8, er8, hm⟩ := bindS hm
 refine L.ca cf63 rfl rfl Wt.no rfl (m_automaton_Enabled_c (s := s6) (p0 := p0) (p1 := p1) (u0 := 0) h1 h2 h3 er8) rfl ?_
 rintro _ s9 m10 ⟨a11, c11, rfl, h11⟩
 replace h11 := h11.p
 replace m0 := m0.trans m10.no
 replace h4 := h4.mono (m10.le no_No)
 replace bx5 := bx5.mv m10 no_No
 replace h1 := h1.mono (m10.le no_No)
 replace h2 := h2.mono (m10.le no_No)
 replace h3 := h3.mono (m10.le no_No)
 refine L.mv Wt.no rfl rfl (L.ex Wt.no rfl rfl rfl (L.ex Wt.no rfl rfl rfl (L.as Wt.no rfl rfl (L.as Wt.no rfl rfl (L.nil (X.seqN (E.seq (E.reg (L.mv Wt.no rfl rfl (L.bi Wt.no rfl rfl rfl rfl (L.nil (X.seqN ?_))))))))))))
 rcases ifS hm with ⟨hc, hm⟩ | ⟨hc, hm⟩
 ·refine E.cT rfl hc (E.seq (E.reg (L.mv Wt.no rfl rfl (L.as Wt.no rfl rfl (L.as Wt.no rfl rfl (L.as Wt.no rfl rfl (L.nil (X.seqN (E.ret (X.seqR ?_))))))))))
  obtain rfl := Option.some.inj hm
  exact X.rt (.inl rfl) Try.results34 (Rs.tmp rfl (Rs.tmp rfl (Rs.tmp rfl Rs.nil))) rfl ⟨_, (s9).ren N (fun _ => 0), rfl, rfl, m0.ren hNb, rfl⟩
 ·refine E.cF rfl hc (E.skip (X.seqN (E.seq (E.seq (E.reg (L.mv Wt.no rfl rfl (L.fa fa26_0 Wt.no rfl rfl (L.ld (j := 0) bx5.mem nag23 Wt.no rfl rfl rfl rfl ?_))))))))
  obtain ⟨r12, er12, hm⟩ := bindS hm
  refine L.ca cf51 rfl rfl Wt.no rfl (m_generate_among_c (s := s9) (p0 := p2) (p1 := p0.1) h4 h1 er12) rfl ?_
  rintro _ s13 m14 rfl
  replace m0 := m0.trans m14.no
  replace h4 := h4.mono (m14.le no_No)
  replace bx5 := bx5.mv m14 no_No
  replace h1 := h1.mono (m14.le no_No)
  replace h2 := h2.mono (m14.le no_No)
  replace h3 := h3.mono (m14.le no_No)
  refine L.as Wt.no rfl rfl (L.nil (X.seqN (E.seq (E.reg (L.mv Wt.no rfl rfl (L.bi Wt.no rfl rfl rfl rfl (L.nil (X.seqN ?_))))))))
  rcases ifS hm with ⟨hc, hm⟩ | ⟨hc, hm⟩
  ·refine E.cT rfl hc (E.seq (E.reg (L.mv Wt.no rfl rfl (L.as Wt.no rfl rfl (L.as Wt.no rfl rfl (L.as Wt.no rfl rfl (L.nil (X.seqN (E.ret (X.seqR ?_))))))))))
   obtain rfl := Option.some.inj hm
   exact X.rt (.inl rfl) Try.results34 (Rs.tmp rfl (Rs.tmp rfl (Rs.tmp rfl Rs.nil))) rfl ⟨_, (s13).ren N (fun _ => 0), rfl, rfl, m0.ren hNb, rfl⟩
  ·refine E.cF rfl hc (E.skip (X.seqN (E.seq (E.seq (E.reg (L.mv Wt.no rfl rfl (L.len sl23 Wt.no rfl rfl (L.mv Wt.no rfl rfl (L.nil (X.seqN (E.block ?_)))))))))))
   obtain ⟨o31, eo31, hm⟩ := bindS hm
   refine E.cut (x := .exit 0) (fun e w => ∃ (s35 : Sig), Mv (Up N No) s s35 ∧ e = [(7, .bool o31.1), (1, .int .i64 o31.2)] ∧ w = s35.w) ?_ ?_
   ·rintro _ _ ⟨s35, m0, rfl, rfl⟩
    refine X.blkE (X.seqN (E.seq (E.reg (L.mv Wt.no rfl rfl (L.mv Wt.no rfl rfl (L.as Wt.no rfl rfl (L.as Wt.no rfl rfl (L.as Wt.no rfl rfl (L.nil (X.seqN (E.ret ?_)))))))))))
    obtain rfl := Option.some.inj hm
    exact X.rt (.inl rfl) Try.results34 (Rs.tmp rfl (Rs.tmp rfl (Rs.tmp rfl Rs.nil))) rfl ⟨_, (s35).ren N (fun _ => 0), rfl, rfl, m0.ren hNb, rfl⟩
   intro K36
   refine E.iter (fun (st31 : Int × Bool × Int) (e : List (Nat × Value)) (w : World) => ∃ (s34 : Sig), Mv (Up N No) s s34 ∧ RdL (rK .i64) s34 a4 c4 p2 ∧ RdL (rK .i64) s34 a1 c1 p0.1 ∧ RdL (rK .i64) s34 a2 c2 p0.2.2.1 ∧ RdL (rP (rK .i64) (rP (rK .i64) (rK .i64))) s34 a3 c3 p0.2.2.2 ∧ Bx s34 (N + 0) b5 #[.slice a1 p0.1.length c1, .int .i64 p0.2.1, .slice a2 p0.2.2.1.length c2, .slice a3 p0.2.2.2.length c3] 26 ∧ e = [(35, .int .i64 st31.1), (34, .int .i64 (p2.length : Int)), (33, .slice a4 p2.length c4), (7, .bool st31.2.1), (3, .pointer (some ⟨b5, 0, none⟩)), (1, .int .i64 st31.2.2)] ∧ w = s34.w) eo31 ⟨s13, m0, h4, h1, h2, h3, bx5, rfl, rfl⟩ (Sub.rf rfl) ?_
   rintro st31 res31 hm ih31 ho31 _ _ ⟨s34, m0, h4, h1, h2, h3, bx5, rfl, rfl⟩
   unfold m_generate_Follow_l1 at hm
   refine E.seq (E.reg (L.bi Wt.no rfl rfl rfl rfl (L.nil (X.seqN (E.seq ?_)))))
   rcases ifS hm with ⟨hc, hm⟩ | ⟨hc, hm⟩
   ·refine E.cT rfl hc (E.skip (X.seqN (E.seq (E.block (E.seq (E.reg ?_))))))
    obtain ⟨x37, ex37, hm⟩ := bindS hm
    refine L.ix (r := (rK .i64)) sl23 h4 Wt.no rfl rfl ex37 rfl fun b38 o38 cc38 me38 rd38 => ?_
    obtain rfl := rd38
    refine L.ld (j := 0) me38 nag3 Wt.no rfl rfl rfl rfl (L.as Wt.no rfl rfl (L.nil (X.seqN (E.seq (E.reg (L.lg (j := 0) (cs := [.slice a1 p0.1.length c1, .int .i64 p0.2.1, .slice a2 p0.2.2.1.length c2, .slice a3 p0.2.2.2.length c3]) bx5.mem ag26 Wt.no rfl rfl rfl rfl rfl (L.mv Wt.no rfl rfl (L.mv Wt.no rfl rfl ?_))))))))
    obtain ⟨r39, er39, hm⟩ := bindS hm
    refine L.ca cf64 rfl rfl Wt.no rfl (m_automaton_Step_c (s := s34) (p0 := p0) (p1 := st31.2.2) (p2 := x37) h1 h2 h3 er39) rfl ?_
    rintro _ s40 m41 rfl
    replace m0 := m0.trans m41.no
    replace h4 := h4.mono (m41.le no_No)
    replace bx5 := bx5.mv m41 no_No
    replace h1 := h1.mono (m41.le no_No)
    replace h2 := h2.mono (m41.le no_No)
    replace h3 := h3.mono (m41.le no_No)
    refine L.mv Wt.no rfl rfl (L.ex Wt.no rfl rfl rfl (L.ex Wt.no rfl rfl rfl (L.ex Wt.no rfl rfl rfl (L.as Wt.no rfl rfl (L.as Wt.no rfl rfl (L.as Wt.no rfl rfl (L.nil (X.seqN (E.seqJ (fun e w => ∃ (s43 : Sig) (n42 : Int), m_generate_Follow_j1 st31 r39 n42 = some res31 ∧ Mv (Up N No) s s43 ∧ RdL (rK .i64) s43 a4 c4 p2 ∧ RdL (rK .i64) s43 a1 c1 p0.1 ∧ RdL (rK .i64) s43 a2 c2 p0.2.2.1 ∧ RdL (rP (rK .i64) (rP (rK .i64) (rK .i64))) s43 a3 c3 p0.2.2.2 ∧ Bx s43 (N + 0) b5 #[.slice a1 p0.1.length c1, .int .i64 p0.2.1, .slice a2 p0.2.2.1.length c2, .slice a3 p0.2.2.2.length c3] 26 ∧ e = [(1, .int .i64 n42), (15, .bool r39.2.1), (35, .int .i64 st31.1), (34, .int .i64 (p2.length : Int)), (33, .slice a4 p2.length c4), (7, .bool st31.2.1), (3, .pointer (some ⟨b5, 0, none⟩))] ∧ w = s43.w) ?_ ?_)))))))))
    ·rintro _ _ ⟨s43, n42, hm, m0, h4, h1, h2, h3, bx5, rfl, rfl⟩
     unfold m_generate_Follow_j1 at hm
     refine E.reg (L.mv Wt.no rfl rfl (L.mv Wt.no rfl rfl (L.cut 3 (fun e w => ∃ (v45 : Bool), (st31.2.1 || (!r39.2.1)) = v45 ∧ e = (53, .bool v45) :: [(1, .int .i64 n42), (35, .int .i64 st31.1), (34, .int .i64 (p2.length : Int)), (33, .slice a4 p2.length c4), (3, .pointer (some ⟨b5, 0, none⟩))] ∧ w = s43.w) ?_ ?_)))
     ·rintro _ _ ⟨v45, rfl, rfl, rfl⟩
      exact L.as Wt.no rfl rfl (L.nil (X.blkN (X.seqN (E.reg (L.bi Wt.no rfl rfl rfl rfl (L.mv Wt.no rfl rfl (L.nil (X.sub (ih31 _ (Option.some.inj hm).symm _ _ ⟨s43, m0, h4, h1, h2, h3, bx5, rfl, rfl⟩) (Sub.rf rfl)))))))))
     ·intro J46
      rcases Bool.eq_false_or_eq_true st31.2.1 with hc | hc
      ·exact L.know (d := 50) rfl hc (L.skip rfl rfl rfl rfl (L.skip rfl rfl rfl rfl (L.pkT Wt.no rfl rfl rfl rfl (L.sb (J46 _ _ ⟨true, (orT hc).symm, rfl, rfl⟩) rfl))))
      ·exact L.know (d := 50) rfl hc (L.mv (Wt.mk rfl rfl) rfl rfl (L.not (Wt.mk rfl rfl) rfl rfl (L.pkF Wt.no rfl rfl rfl rfl (L.sb (J46 _ _ ⟨(!r39.2.1), (orF hc).symm, rfl, rfl⟩) rfl))))
    ·intro Jj44
     refine E.seq (E.reg (L.mv Wt.no rfl rfl (L.nil (X.seqN ?_))))
     rcases ifS hm with ⟨hc, hm⟩ | ⟨hc, hm⟩
     ·exact E.cT rfl hc (E.reg (L.mv Wt.no rfl rfl (L.as Wt.no rfl rfl (L.nil (X.sub (Jj44 _ _ ⟨s40, r39.1, hm, m0, h4, h1, h2, h3, bx5, rfl, rfl⟩) (Sub.rf rfl))))))
     ·exact E.cF rfl hc (E.skip (X.sub (Jj44 _ _ ⟨s40, st31.2.2, hm, m0, h4, h1, h2, h3, bx5, rfl, rfl⟩) (Sub.rf rfl)))
   ·refine E.cF rfl hc (E.exit (X.seqX (X.seqX ?_)))
    have hx := ho31 _ (Option.some.inj hm).symm
    subst hx
    exact X.sub (K36 _ _ ⟨s34, m0, rfl, rfl⟩) (Sub.rf rfl)

theorem cf34 : Cf Try.prog 34 := Cf.mk Try.func34 (by kernel_rfl) (by kernel_rfl)
end Go.Proofs.Ytkkemchihllklaa

namespace Go.Proofs.Ytkkemchihllklaa
open Go Go.RowKit
/-- What overseerlaw53.GenerateFollows$1 computes. -/
noncomputable def m_overseerlaw53_GenerateFollows_1 (q0 : List Int × Int × List Int × (List (Int × Int × Int))) (p0 : Int) : Option Bool :=
  (m_slices_Contains_int q0.1 p0).bind fun r5 =>
  some (!r5)
set_option maxRecDepth 100000 in
set_option maxHeartbeats 8000000 in
theorem m_overseerlaw53_GenerateFollows_1_c {s : Sig} {q0 : List Int × Int × List Int × (List (Int × Int × Int))} {p0 : Int} {a1 : Option Addr} {c1 : Nat} {a2 : Option Addr} {c2 : Nat} {a3 : Option Addr} {c3 : Nat} {b4 : Nat} {r : Bool} (h1 : RdL (rK .i64) s a1 c1 q0.1) (h2 : RdL (rK .i64) s a2 c2 q0.2.2.1) (h3 : RdL (rP (rK .i64) (rP (rK .i64) (rK .i64))) s a3 c3 q0.2.2.2) (bx4 : Bx s 0 b4 #[.slice a1 q0.1.length c1, .int .i64 q0.2.1, .slice a2 q0.2.2.1.length c2, .slice a3 q0.2.2.2.length c3] 26) (hm : m_overseerlaw53_GenerateFollows_1 q0 p0 = some r) :
    Calls Try.prog 37 #[.int .i64 p0, .pointer (some ⟨b4, 0, none⟩)] s.w (RetS No s fun v s' => v = .bool r) := by
 unfold m_overseerlaw53_GenerateFollows_1 at hm
 obtain ⟨N, hN, hNb⟩ := s.fresh
 have m0 : Mv (Up N No) s s := Mv.refl _ _
 refine E.entry Try.func37 rfl Try.ntmps37 rfl rfl (E.seq (E.reg (L.as Wt.no rfl rfl (L.nil (X.seqN (E.seq (E.reg (L.fa fa26_0 Wt.no rfl rfl (L.ld (j := 0) bx4.mem nag23 Wt.no rfl rfl rfl rfl (L.mv Wt.no rfl rfl ?_))))))))))
 obtain ⟨r5, er5, hm⟩ := bindS hm
 refine L.ca cf23 rfl rfl Wt.no rfl (m_slices_Contains_int_c (s := s) (p0 := q0.1) (p1 := p0) h1 er5) rfl ?_
 rintro _ s6 m7 rfl
 replace m0 := m0.trans m7.no
 refine L.not Wt.no rfl rfl (L.as Wt.no rfl rfl (L.nil (X.seqN (E.ret ?_))))
 obtain rfl := Option.some.inj hm
 exact X.rt (.inl rfl) Try.results37 (Rs.tmp rfl Rs.nil) rfl ⟨_, (s6).ren N (fun _ => 0), rfl, rfl, m0.ren hNb, rfl⟩

theorem cf37 : Cf Try.prog 37 := Cf.mk Try.func37 (by kernel_rfl) (by kernel_rfl)
noncomputable def m_overseerlaw53_GenerateFollows_j3 (p1 : Int) (p2 : List Int) (r12 : (List Int × Int × List Int × (List (Int × Int × Int))) × List Int) (r24 : Int × Bool × Int) (n33 : Int) : Option Bool :=
  if (n33 != 0) then
    some (((r24.2.2 == n33) && (r24.1 == 0)) && (!r24.2.1))
  else
    (m_overseerlaw53_follow r12.1 p1 p2).bind fun r40 =>
    some (((r24.2.2 == 0) && (r24.1 == r40.1)) && (r24.2.1 == r40.2))
noncomputable def m_overseerlaw53_GenerateFollows_j2 (p1 : Int) (p2 : List Int) (r12 : (List Int × Int × List Int × (List (Int × Int × Int))) × List Int) (r24 : Int × Bool × Int) (n30 : Int) : Option Bool :=
  (if (n30 == 0) then
    (m_slices_ContainsFunc_int p2 (m_overseerlaw53_GenerateFollows_1 r12.1)).bind fun r53 =>
    some r53
  else
    some false).bind fun b47 =>
  if b47 then
    m_overseerlaw53_GenerateFollows_j3 p1 p2 r12 r24 9
  else
    m_overseerlaw53_GenerateFollows_j3 p1 p2 r12 r24 n30
noncomputable def m_overseerlaw53_GenerateFollows_j1 (p1 : Int) (p2 : List Int) (r12 : (List Int × Int × List Int × (List (Int × Int × Int))) × List Int) (r24 : Int × Bool × Int) (n27 : Int) : Option Bool :=
  if (n27 == 0) then
    (m_alphabet_CheckSet p2 32).bind fun r57 =>
    m_overseerlaw53_GenerateFollows_j2 p1 p2 r12 r24 r57
  else
    m_overseerlaw53_GenerateFollows_j2 p1 p2 r12 r24 n27
/-- What overseerlaw53.GenerateFollows computes. -/
noncomputable def m_overseerlaw53_GenerateFollows (p0 : Int × (Int × Int × ((Int × Int × Int × Int × Int) × (Int × Int × Int × Int × Int) × (Int × Int × Int × Int × Int) × (Int × Int × Int × Int × Int) × (Int × Int × Int × Int × Int))) × Int) (p1 : Int) (p2 : List Int) : Option Bool :=
  (m_overseerlaw53_known).bind fun r5 =>
  if ((!r5) || (decide ((p2.length : Int) > 8))) then
    (m_overseerlaw53_known).bind fun r9 =>
    some r9
  else
    (m_overseerlaw53_Make p0).bind fun r12 =>
    (m_generate_Follow r12.1 p1 p2).bind fun r24 =>
    if ((decide (p1 < 0)) || (decide (p1 ≥ r12.1.2.1))) then
      m_overseerlaw53_GenerateFollows_j1 p1 p2 r12 r24 2
    else
      m_overseerlaw53_GenerateFollows_j1 p1 p2 r12 r24 0
set_option maxRecDepth 100000 in
set_option maxHeartbeats 8000000 in
theorem m_overseerlaw53_GenerateFollows_c {s : Sig} {p0 : Int × (Int × Int × ((Int × Int × Int × Int × Int) × (Int × Int × Int × Int × Int) × (Int × Int × Int × Int × Int) × (Int × Int × Int × Int × Int) × (Int × Int × Int × Int × Int))) × Int} {p1 : Int} {p2 : List Int} {a1 : Option Addr} {c1 : Nat} {r : Bool} (h1 : RdL (rK .i64) s a1 c1 p2) (hm : m_overseerlaw53_GenerateFollows p0 p1 p2 = some r) :
    Calls Try.prog 10 #[.agg #[.int .u8 p0.1, .int .u8 p0.2.1.1, .int .u8 p0.2.1.2.1, .int .u8 p0.2.1.2.2.1.1, .int .u8 p0.2.1.2.2.1.2.1, .int .u8 p0.2.1.2.2.1.2.2.1, .int .u8 p0.2.1.2.2.1.2.2.2.1, .int .u8 p0.2.1.2.2.1.2.2.2.2, .int .u8 p0.2.1.2.2.2.1.1, .int .u8 p0.2.1.2.2.2.1.2.1, .int .u8 p0.2.1.2.2.2.1.2.2.1, .int .u8 p0.2.1.2.2.2.1.2.2.2.1, .int .u8 p0.2.1.2.2.2.1.2.2.2.2, .int .u8 p0.2.1.2.2.2.2.1.1, .int .u8 p0.2.1.2.2.2.2.1.2.1, .int .u8 p0.2.1.2.2.2.2.1.2.2.1, .int .u8 p0.2.1.2.2.2.2.1.2.2.2.1, .int .u8 p0.2.1.2.2.2.2.1.2.2.2.2, .int .u8 p0.2.1.2.2.2.2.2.1.1, .int .u8 p0.2.1.2.2.2.2.2.1.2.1, .int .u8 p0.2.1.2.2.2.2.2.1.2.2.1, .int .u8 p0.2.1.2.2.2.2.2.1.2.2.2.1, .int .u8 p0.2.1.2.2.2.2.2.1.2.2.2.2, .int .u8 p0.2.1.2.2.2.2.2.2.1, .int .u8 p0.2.1.2.2.2.2.2.2.2.1, .int .u8 p0.2.1.2.2.2.2.2.2.2.2.1, .int .u8 p0.2.1.2.2.2.2.2.2.2.2.2.1, .int .u8 p0.2.1.2.2.2.2.2.2.2.2.2.2, .int .u8 p0.2.2], .int .i64 p1, .slice a1 p2.length c1] s.w (RetS No s fun v s' => v = .bool r) := by
 unfold m_overseerlaw53_GenerateFollows at hm
 obtain ⟨N, hN, hNb⟩ := s.fresh
 have m0 : Mv (Up N No) s s := Mv.refl _ _
 refine E.entry Try.func10 rfl Try.ntmps10 rfl rfl (E.seq (E.reg (L.box (N + 0) Wt.no rfl rfl rfl fun b2 s3 m4 bx2 => ?_)))
 replace m0 := m0.trans m4.no
 replace h1 := h1.mono (m4.le no_No)
 refine L.as Wt.no rfl rfl (L.nil (X.seqN (E.seq (E.seq (E.reg ?_)))))
 obtain ⟨r5, er5, hm⟩ := bindS hm
 refine L.ca cf11 rfl rfl Wt.no rfl (m_overseerlaw53_known_c (s := s3) er5) rfl ?_
 rintro _ s6 m7 rfl
 replace m0 := m0.trans m7.no
 replace h1 := h1.mono (m7.le no_No)
 replace bx2 := bx2.mv m7 no_No
 refine L.not Wt.no rfl rfl (L.mv Wt.no rfl rfl (L.cut 4 (fun e w => ∃ (v8 : Bool), ((!r5) || (decide ((p2.length : Int) > 8))) = v8 ∧ e = (21, .bool v8) :: [(3, .pointer (some ⟨b2, 0, none⟩)), (1, .int .i64 p1), (2, .slice a1 p2.length c1)] ∧ w = s6.w) ?_ ?_))
 ·rintro _ _ ⟨v8, rfl, rfl, rfl⟩
  refine L.nil (X.seqN ?_)
  rcases ifS hm with ⟨hc, hm⟩ | ⟨hc, hm⟩
  ·refine E.cT rfl hc (E.seq (E.reg ?_))
   obtain ⟨r9, er9, hm⟩ := bindS hm
   refine L.ca cf11 rfl rfl Wt.no rfl (m_overseerlaw53_known_c (s := s6) er9) rfl ?_
   rintro _ s10 m11 rfl
   replace m0 := m0.trans m11.no
   refine L.as Wt.no rfl rfl (L.nil (X.seqN (E.ret (X.seqR ?_))))
   obtain rfl := Option.some.inj hm
   exact X.rt (.inl rfl) Try.results10 (Rs.tmp rfl Rs.nil) rfl ⟨_, (s10).ren N (fun _ => 0), rfl, rfl, m0.ren hNb, rfl⟩
  ·refine E.cF rfl hc (E.skip (X.seqN (E.seq (E.reg (L.lg (j := 0) (cs := [.int .u8 p0.1, .int .u8 p0.2.1.1, .int .u8 p0.2.1.2.1, .int .u8 p0.2.1.2.2.1.1, .int .u8 p0.2.1.2.2.1.2.1, .int .u8 p0.2.1.2.2.1.2.2.1, .int .u8 p0.2.1.2.2.1.2.2.2.1, .int .u8 p0.2.1.2.2.1.2.2.2.2, .int .u8 p0.2.1.2.2.2.1.1, .int .u8 p0.2.1.2.2.2.1.2.1, .int .u8 p0.2.1.2.2.2.1.2.2.1, .int .u8 p0.2.1.2.2.2.1.2.2.2.1, .int .u8 p0.2.1.2.2.2.1.2.2.2.2, .int .u8 p0.2.1.2.2.2.2.1.1, .int .u8 p0.2.1.2.2.2.2.1.2.1, .int .u8 p0.2.1.2.2.2.2.1.2.2.1, .int .u8 p0.2.1.2.2.2.2.1.2.2.2.1, .int .u8 p0.2.1.2.2.2.2.1.2.2.2.2, .int .u8 p0.2.1.2.2.2.2.2.1.1, .int .u8 p0.2.1.2.2.2.2.2.1.2.1, .int .u8 p0.2.1.2.2.2.2.2.1.2.2.1, .int .u8 p0.2.1.2.2.2.2.2.1.2.2.2.1, .int .u8 p0.2.1.2.2.2.2.2.1.2.2.2.2, .int .u8 p0.2.1.2.2.2.2.2.2.1, .int .u8 p0.2.1.2.2.2.2.2.2.2.1, .int .u8 p0.2.1.2.2.2.2.2.2.2.2.1, .int .u8 p0.2.1.2.2.2.2.2.2.2.2.2.1, .int .u8 p0.2.1.2.2.2.2.2.2.2.2.2.2, .int .u8 p0.2.2]) bx2.mem ag51 Wt.no rfl rfl rfl rfl rfl ?_)))))
   obtain ⟨r12, er12, hm⟩ := bindS hm
   refine L.ca cf16 rfl rfl Wt.no rfl (m_overseerlaw53_Make_c (s := s6) (p0 := p0) (u3 := 0) er12) rfl ?_
   rintro _ s13 m14 ⟨a15, c15, a16, c16, a17, c17, a18, c18, rfl, h15, h16, h17, h18⟩
   replace h18 := h18.p
   replace m0 := m0.trans m14.no
   replace h1 := h1.mono (m14.le no_No)
   refine L.mv Wt.no rfl rfl (L.ex Wt.no rfl rfl rfl (L.ex Wt.no rfl rfl rfl (L.al (N + 1) zz26 rfl Wt.no rfl fun b19 s20 m21 bx19 => ?_)))
   replace m0 := m0.trans m21.no
   replace h1 := h1.mono (m21.le no_No)
   replace h15 := h15.mono (m21.le no_No)
   replace h16 := h16.mono (m21.le no_No)
   replace h17 := h17.mono (m21.le no_No)
   refine L.st (c := [.slice a15 r12.1.1.length c15, .int .i64 r12.1.2.1, .slice a16 r12.1.2.2.1.length c16, .slice a17 r12.1.2.2.2.length c17]) (cs' := #[.slice a15 r12.1.1.length c15, .int .i64 r12.1.2.1, .slice a16 r12.1.2.2.1.length c16, .slice a17 r12.1.2.2.2.length c17]) bx19 ag26.sz Wt.no rfl rfl rfl rfl rfl (Nat.le_of_ble_eq_true rfl) rfl fun s22 m23 bx19 => ?_
   replace m0 := m0.trans (m23.one up)
   replace h1 := h1.mono (m23.le (tg0 hN))
   replace h15 := h15.mono (m23.le (tg0 hN))
   replace h16 := h16.mono (m23.le (tg0 hN))
   replace h17 := h17.mono (m23.le (tg0 hN))
   refine L.as Wt.no rfl rfl (L.nil (X.seqN (E.seq (E.reg (L.lg (j := 0) (cs := [.slice a15 r12.1.1.length c15, .int .i64 r12.1.2.1, .slice a16 r12.1.2.2.1.length c16, .slice a17 r12.1.2.2.2.length c17]) bx19.mem ag26 Wt.no rfl rfl rfl rfl rfl (L.mv Wt.no rfl rfl (L.mv Wt.no rfl rfl ?_)))))))
   obtain ⟨r24, er24, hm⟩ := bindS hm
   refine L.ca cf34 rfl rfl Wt.no rfl (m_generate_Follow_c (s := s22) (p0 := r12.1) (p1 := p1) (p2 := p2) h15 h16 h17 h1 er24) rfl ?_
   rintro _ s25 m26 rfl
   replace m0 := m0.trans m26.no
   replace h1 := h1.mono (m26.le no_No)
   replace bx19 := bx19.mv m26 no_No
   replace h15 := h15.mono (m26.le no_No)
   replace h16 := h16.mono (m26.le no_No)
   replace h17 := h17.mono (m26.le no_No)
   refine L.mv Wt.no rfl rfl (L.ex Wt.no rfl rfl rfl (L.ex Wt.no rfl rfl rfl (L.ex Wt.no rfl rfl rfl (L.as Wt.no rfl rfl (L.as Wt.no rfl rfl (L.as Wt.no rfl rfl (L.nil (X.seqN (E.seq (E.reg (L.as Wt.no rfl rfl (L.nil (X.seqN (E.seqJ (fun e w => ∃ (s28 : Sig) (n27 : Int), m_overseerlaw53_GenerateFollows_j1 p1 p2 r12 r24 n27 = some r ∧ Mv (Up N No) s s28 ∧ RdL (rK .i64) s28 a1 c1 p2 ∧ RdL (rK .i64) s28 a15 c15 r12.1.1 ∧ RdL (rK .i64) s28 a16 c16 r12.1.2.2.1 ∧ RdL (rP (rK .i64) (rP (rK .i64) (rK .i64))) s28 a17 c17 r12.1.2.2.2 ∧ Bx s28 (N + 1) b19 #[.slice a15 r12.1.1.length c15, .int .i64 r12.1.2.1, .slice a16 r12.1.2.2.1.length c16, .slice a17 r12.1.2.2.2.length c17] 26 ∧ e = [(12, .int .i64 n27), (11, .int .i64 r24.2.2), (10, .bool r24.2.1), (9, .int .i64 r24.1), (7, .pointer (some ⟨b19, 0, none⟩)), (1, .int .i64 p1), (2, .slice a1 p2.length c1)] ∧ w = s28.w) ?_ ?_))))))))))))))
   ·rintro _ _ ⟨s28, n27, hm, m0, h1, h15, h16, h17, bx19, rfl, rfl⟩
    unfold m_overseerlaw53_GenerateFollows_j1 at hm
    refine E.seqJ (fun e w => ∃ (s31 : Sig) (n30 : Int), m_overseerlaw53_GenerateFollows_j2 p1 p2 r12 r24 n30 = some r ∧ Mv (Up N No) s s31 ∧ RdL (rK .i64) s31 a1 c1 p2 ∧ RdL (rK .i64) s31 a15 c15 r12.1.1 ∧ RdL (rK .i64) s31 a16 c16 r12.1.2.2.1 ∧ RdL (rP (rK .i64) (rP (rK .i64) (rK .i64))) s31 a17 c17 r12.1.2.2.2 ∧ Bx s31 (N + 1) b19 #[.slice a15 r12.1.1.length c15, .int .i64 r12.1.2.1, .slice a16 r12.1.2.2.1.length c16, .slice a17 r12.1.2.2.2.length c17] 26 ∧ e = [(12, .int .i64 n30), (11, .int .i64 r24.2.2), (10, .bool r24.2.1), (9, .int .i64 r24.1), (7, .pointer (some ⟨b19, 0, none⟩)), (1, .int .i64 p1), (2, .slice a1 p2.length c1)] ∧ w = s31.w) ?_ ?_
    ·rintro _ _ ⟨s31, n30, hm, m0, h1, h15, h16, h17, bx19, rfl, rfl⟩
     unfold m_overseerlaw53_GenerateFollows_j2 at hm
     refine E.seqJ (fun e w => ∃ (s34 : Sig) (n33 : Int), m_overseerlaw53_GenerateFollows_j3 p1 p2 r12 r24 n33 = some r ∧ Mv (Up N No) s s34 ∧ RdL (rK .i64) s34 a1 c1 p2 ∧ RdL (rK .i64) s34 a15 c15 r12.1.1 ∧ RdL (rK .i64) s34 a16 c16 r12.1.2.2.1 ∧ RdL (rP (rK .i64) (rP (rK .i64) (rK .i64))) s34 a17 c17 r12.1.2.2.2 ∧ Bx s34 0 b19 #[.slice a15 r12.1.1.length c15, .int .i64 r12.1.2.1, .slice a16 r12.1.2.2.1.length c16, .slice a17 r12.1.2.2.2.length c17] 26 ∧ e = [(12, .int .i64 n33), (11, .int .i64 r24.2.2), (10, .bool r24.2.1), (9, .int .i64 r24.1), (7, .pointer (some ⟨b19, 0, none⟩)), (1, .int .i64 p1), (2, .slice a1 p2.length c1)] ∧ w = s34.w) ?_ ?_
     ·rintro _ _ ⟨s34, n33, hm, m0, h1, h15, h16, h17, bx19, rfl, rfl⟩
      unfold m_overseerlaw53_GenerateFollows_j3 at hm
      refine E.seq (E.seq (E.reg (L.mv Wt.no rfl rfl (L.bi Wt.no rfl rfl rfl rfl (L.nil (X.seqN ?_))))))
      rcases ifS hm with ⟨hc, hm⟩ | ⟨hc, hm⟩
      ·refine E.cT rfl hc (E.seq (E.reg (L.mv Wt.no rfl rfl (L.mv Wt.no rfl rfl (L.bi Wt.no rfl rfl rfl rfl (L.mv Wt.no rfl rfl (L.cut 3 (fun e w => ∃ (v36 : Bool), ((r24.2.2 == n33) && (r24.1 == 0)) = v36 ∧ e = (63, .bool v36) :: [(10, .bool r24.2.1)] ∧ w = s34.w) ?_ ?_)))))))
       ·rintro _ _ ⟨v36, rfl, rfl, rfl⟩
        refine L.mv Wt.no rfl rfl (L.cut 3 (fun e w => ∃ (v37 : Bool), (((r24.2.2 == n33) && (r24.1 == 0)) && (!r24.2.1)) = v37 ∧ e = (67, .bool v37) :: [] ∧ w = s34.w) ?_ ?_)
        ·rintro _ _ ⟨v37, rfl, rfl, rfl⟩
         refine L.as Wt.no rfl rfl (L.nil (X.seqN (E.ret (X.seqR ?_))))
         obtain rfl := Option.some.inj hm
         exact X.rt (.inl rfl) Try.results10 (Rs.tmp rfl Rs.nil) rfl ⟨_, (s34).ren N (fun _ => 0), rfl, rfl, m0.ren hNb, rfl⟩
        ·intro J38
         rcases Bool.eq_false_or_eq_true ((r24.2.2 == n33) && (r24.1 == 0)) with hc | hc
         ·exact L.know (d := 64) rfl hc (L.mv (Wt.mk rfl rfl) rfl rfl (L.not (Wt.mk rfl rfl) rfl rfl (L.pkT Wt.no rfl rfl rfl rfl (L.sb (J38 _ _ ⟨(!r24.2.1), (andT hc).symm, rfl, rfl⟩) rfl))))
         ·exact L.know (d := 64) rfl hc (L.skip rfl rfl rfl rfl (L.skip rfl rfl rfl rfl (L.pkF Wt.no rfl rfl rfl rfl (L.sb (J38 _ _ ⟨false, (andF hc).symm, rfl, rfl⟩) rfl))))
       ·intro J39
        rcases Bool.eq_false_or_eq_true (r24.2.2 == n33) with hc | hc
        ·exact L.know (d := 60) rfl hc (L.mv (Wt.mk rfl rfl) rfl rfl (L.bi (Wt.mk rfl rfl) rfl rfl rfl rfl (L.pkT Wt.no rfl rfl rfl rfl (L.sb (J39 _ _ ⟨(r24.1 == 0), (andT hc).symm, rfl, rfl⟩) rfl))))
        ·exact L.know (d := 60) rfl hc (L.skip rfl rfl rfl rfl (L.skip rfl rfl rfl rfl (L.pkF Wt.no rfl rfl rfl rfl (L.sb (J39 _ _ ⟨false, (andF hc).symm, rfl, rfl⟩) rfl))))
      ·refine E.cF rfl hc (E.skip (X.seqN (E.seq (E.reg (L.lg (j := 0) (cs := [.slice a15 r12.1.1.length c15, .int .i64 r12.1.2.1, .slice a16 r12.1.2.2.1.length c16, .slice a17 r12.1.2.2.2.length c17]) bx19.mem ag26 Wt.no rfl rfl rfl rfl rfl (L.mv Wt.no rfl rfl (L.mv Wt.no rfl rfl ?_)))))))
       obtain ⟨r40, er40, hm⟩ := bindS hm
       refine L.ca cf21 rfl rfl Wt.no rfl (m_overseerlaw53_follow_c (s := s34) (p0 := r12.1) (p1 := p1) (p2 := p2) h15 h16 h17 h1 er40) rfl ?_
       rintro _ s41 m42 rfl
       replace m0 := m0.trans m42.no
       refine L.mv Wt.no rfl rfl (L.ex Wt.no rfl rfl rfl (L.ex Wt.no rfl rfl rfl (L.as Wt.no rfl rfl (L.as Wt.no rfl rfl (L.nil (X.seqN (E.seq (E.reg (L.mv Wt.no rfl rfl (L.bi Wt.no rfl rfl rfl rfl (L.mv Wt.no rfl rfl (L.cut 4 (fun e w => ∃ (v43 : Bool), ((r24.2.2 == 0) && (r24.1 == r40.1)) = v43 ∧ e = (81, .bool v43) :: [(14, .bool r40.2), (10, .bool r24.2.1)] ∧ w = s41.w) ?_ ?_))))))))))))
       ·rintro _ _ ⟨v43, rfl, rfl, rfl⟩
        refine L.mv Wt.no rfl rfl (L.cut 4 (fun e w => ∃ (v44 : Bool), (((r24.2.2 == 0) && (r24.1 == r40.1)) && (r24.2.1 == r40.2)) = v44 ∧ e = (86, .bool v44) :: [] ∧ w = s41.w) ?_ ?_)
        ·rintro _ _ ⟨v44, rfl, rfl, rfl⟩
         refine L.as Wt.no rfl rfl (L.nil (X.seqN (E.ret ?_)))
         obtain rfl := Option.some.inj hm
         exact X.rt (.inl rfl) Try.results10 (Rs.tmp rfl Rs.nil) rfl ⟨_, (s41).ren N (fun _ => 0), rfl, rfl, m0.ren hNb, rfl⟩
        ·intro J45
         rcases Bool.eq_false_or_eq_true ((r24.2.2 == 0) && (r24.1 == r40.1)) with hc | hc
         ·exact L.know (d := 82) rfl hc (L.mv (Wt.mk rfl rfl) rfl rfl (L.mv (Wt.mk rfl rfl) rfl rfl (L.beq Try.underlying4 (Wt.mk rfl rfl) rfl rfl rfl (L.pkT Wt.no rfl rfl rfl rfl (L.sb (J45 _ _ ⟨(r24.2.1 == r40.2), (andT hc).symm, rfl, rfl⟩) rfl)))))
         ·exact L.know (d := 82) rfl hc (L.skip rfl rfl rfl rfl (L.skip rfl rfl rfl rfl (L.skip rfl rfl rfl rfl (L.pkF Wt.no rfl rfl rfl rfl (L.sb (J45 _ _ ⟨false, (andF hc).symm, rfl, rfl⟩) rfl)))))
       ·intro J46
        rcases Bool.eq_false_or_eq_true (r24.2.2 == 0) with hc | hc
        ·exact L.know (d := 77) rfl hc (L.mv (Wt.mk rfl rfl) rfl rfl (L.mv (Wt.mk rfl rfl) rfl rfl (L.bi (Wt.mk rfl rfl) rfl rfl rfl rfl (L.pkT Wt.no rfl rfl rfl rfl (L.sb (J46 _ _ ⟨(r24.1 == r40.1), (andT hc).symm, rfl, rfl⟩) rfl)))))
        ·exact L.know (d := 77) rfl hc (L.skip rfl rfl rfl rfl (L.skip rfl rfl rfl rfl (L.skip rfl rfl rfl rfl (L.pkF Wt.no rfl rfl rfl rfl (L.sb (J46 _ _ ⟨false, (andF hc).symm, rfl, rfl⟩) rfl)))))
     ·intro Jj35
      refine E.seq (E.reg (L.mv Wt.no rfl rfl (L.bi Wt.no rfl rfl rfl rfl (L.mv Wt.no rfl rfl ?_))))
      obtain ⟨b47, eb47, hm⟩ := bindS hm
      refine L.cut 4 (fun e w => ∃ (s49 : Sig) (v48 : Bool), b47 = v48 ∧ Mv (Up N No) s s49 ∧ RdL (rK .i64) s49 a1 c1 p2 ∧ RdL (rK .i64) s49 a15 c15 r12.1.1 ∧ RdL (rK .i64) s49 a16 c16 r12.1.2.2.1 ∧ RdL (rP (rK .i64) (rP (rK .i64) (rK .i64))) s49 a17 c17 r12.1.2.2.2 ∧ Bx s49 0 b19 #[.slice a15 r12.1.1.length c15, .int .i64 r12.1.2.1, .slice a16 r12.1.2.2.1.length c16, .slice a17 r12.1.2.2.2.length c17] 26 ∧ e = (54, .bool v48) :: [(12, .int .i64 n30), (11, .int .i64 r24.2.2), (10, .bool r24.2.1), (9, .int .i64 r24.1), (7, .pointer (some ⟨b19, 0, none⟩)), (1, .int .i64 p1), (2, .slice a1 p2.length c1)] ∧ w = s49.w) ?_ ?_
      ·rintro _ _ ⟨s49, v48, rfl, m0, h1, h15, h16, h17, bx19, rfl, rfl⟩
       refine L.nil (X.seqN ?_)
       rcases ifS hm with ⟨hc, hm⟩ | ⟨hc, hm⟩
       ·exact E.cT rfl hc (E.reg (L.as Wt.no rfl rfl (L.nil (X.sub (Jj35 _ _ ⟨s49, 9, hm, m0, h1, h15, h16, h17, bx19, rfl, rfl⟩) (Sub.rf rfl)))))
       ·exact E.cF rfl hc (E.skip (X.sub (Jj35 _ _ ⟨s49, n30, hm, m0, h1, h15, h16, h17, bx19, rfl, rfl⟩) (Sub.rf rfl)))
      ·intro J50
       rcases ifS eb47 with ⟨hc, hm⟩ | ⟨hc, hm⟩
       ·refine L.know (d := 50) rfl hc (L.mv (Wt.mk rfl rfl) rfl rfl ?_)
        have m51 := Sig.fz_mv (N + 1) s31
        replace bx19 := bx19.fz (tgn hN)
        replace m0 := m0.trans (m51.one up)
        replace h1 := h1.mono (m51.le (tg0 hN))
        replace h15 := h15.mono (m51.le (tg0 hN))
        replace h16 := h16.mono (m51.le (tg0 hN))
        replace h17 := h17.mono (m51.le (tg0 hN))
        refine L.toR (s' := (Sig.fz (N + 1) s31)) rfl ?_
        have h52 : FV1 Try.prog (Sig.fz (N + 1) s31) (.func (.func 37) #[] #[.pointer (some ⟨b19, 0, none⟩)]) (fun (x0 : Int) => [.int .i64 x0]) (fun (r : Bool) => .bool r) (m_overseerlaw53_GenerateFollows_1 r12.1) := ⟨37, #[], #[.pointer (some ⟨b19, 0, none⟩)], rfl, cf37, fun x0 r hm s' hl => by have hh := m_overseerlaw53_GenerateFollows_1_c (s := s') (h15.mono hl) (h16.mono hl) (h17.mono hl) (bx19.le hl) hm; simpa using hh⟩
        refine L.mf (Wt.mk rfl rfl) rfl rfl rfl ?_
        obtain ⟨r53, er53, hm⟩ := bindS hm
        refine L.ca cf29 rfl rfl (Wt.mk rfl rfl) rfl (m_slices_ContainsFunc_int_c (s := (Sig.fz (N + 1) s31)) (p0 := p2) (p1 := (m_overseerlaw53_GenerateFollows_1 r12.1)) h1 h52 er53) rfl ?_
        rintro _ s54 m55 rfl
        replace m0 := m0.trans m55.no
        replace h1 := h1.mono (m55.le no_No)
        replace bx19 := bx19.mv m55 no_No
        replace h15 := h15.mono (m55.le no_No)
        replace h16 := h16.mono (m55.le no_No)
        replace h17 := h17.mono (m55.le no_No)
        exact L.pkT Wt.no rfl rfl rfl rfl (L.sb (J50 _ _ ⟨s54, r53, (Option.some.inj hm).symm, m0, h1, h15, h16, h17, bx19, rfl, rfl⟩) rfl)
       ·refine L.know (d := 50) rfl hc (L.skip rfl rfl rfl rfl (L.skip rfl rfl rfl rfl (L.skip rfl rfl rfl rfl (L.pkF Wt.no rfl rfl rfl rfl ?_))))
        have m56 := Sig.fz_mv (N + 1) s31
        replace bx19 := bx19.fz (tgn hN)
        replace m0 := m0.trans (m56.one up)
        replace h1 := h1.mono (m56.le (tg0 hN))
        replace h15 := h15.mono (m56.le (tg0 hN))
        replace h16 := h16.mono (m56.le (tg0 hN))
        replace h17 := h17.mono (m56.le (tg0 hN))
        exact L.sb (J50 _ _ ⟨(Sig.fz (N + 1) s31), false, (Option.some.inj hm).symm, m0, h1, h15, h16, h17, bx19, rfl, rfl⟩) rfl
    ·intro Jj32
     refine E.seq (E.reg (L.mv Wt.no rfl rfl (L.bi Wt.no rfl rfl rfl rfl (L.nil (X.seqN ?_)))))
     rcases ifS hm with ⟨hc, hm⟩ | ⟨hc, hm⟩
     ·refine E.cT rfl hc (E.reg (L.mv Wt.no rfl rfl ?_))
      obtain ⟨r57, er57, hm⟩ := bindS hm
      refine L.ca cf28 rfl rfl Wt.no rfl (m_alphabet_CheckSet_c (s := s28) (p0 := p2) (p1 := 32) h1 er57) rfl ?_
      rintro _ s58 m59 rfl
      replace m0 := m0.trans m59.no
      replace h1 := h1.mono (m59.le no_No)
      replace bx19 := bx19.mv m59 no_No
      replace h15 := h15.mono (m59.le no_No)
      replace h16 := h16.mono (m59.le no_No)
      replace h17 := h17.mono (m59.le no_No)
      exact L.as Wt.no rfl rfl (L.nil (X.sub (Jj32 _ _ ⟨s58, r57, hm, m0, h1, h15, h16, h17, bx19, rfl, rfl⟩) (Sub.rf rfl)))
     ·exact E.cF rfl hc (E.skip (X.sub (Jj32 _ _ ⟨s28, n27, hm, m0, h1, h15, h16, h17, bx19, rfl, rfl⟩) (Sub.rf rfl)))
   ·intro Jj29
    refine E.seq (E.reg (L.mv Wt.no rfl rfl (L.bi Wt.no rfl rfl rfl rfl (L.mv Wt.no rfl rfl (L.cut 5 (fun e w => ∃ (v60 : Bool), ((decide (p1 < 0)) || (decide (p1 ≥ r12.1.2.1))) = v60 ∧ e = (43, .bool v60) :: [(12, .int .i64 0), (11, .int .i64 r24.2.2), (10, .bool r24.2.1), (9, .int .i64 r24.1), (7, .pointer (some ⟨b19, 0, none⟩)), (1, .int .i64 p1), (2, .slice a1 p2.length c1)] ∧ w = s25.w) ?_ ?_)))))
    ·rintro _ _ ⟨v60, rfl, rfl, rfl⟩
     refine L.nil (X.seqN ?_)
     rcases ifS hm with ⟨hc, hm⟩ | ⟨hc, hm⟩
     ·exact E.cT rfl hc (E.reg (L.as Wt.no rfl rfl (L.nil (X.sub (Jj29 _ _ ⟨s25, 2, hm, m0, h1, h15, h16, h17, bx19, rfl, rfl⟩) (Sub.rf rfl)))))
     ·exact E.cF rfl hc (E.skip (X.sub (Jj29 _ _ ⟨s25, 0, hm, m0, h1, h15, h16, h17, bx19, rfl, rfl⟩) (Sub.rf rfl)))
    ·intro J61
     rcases Bool.eq_false_or_eq_true (decide (p1 < 0)) with hc | hc
     ·exact L.know (d := 38) rfl hc (L.skip rfl rfl rfl rfl (L.skip rfl rfl rfl rfl (L.skip rfl rfl rfl rfl (L.skip rfl rfl rfl rfl (L.pkT Wt.no rfl rfl rfl rfl (L.sb (J61 _ _ ⟨true, (orT hc).symm, rfl, rfl⟩) rfl))))))
     ·exact L.know (d := 38) rfl hc (L.mv (Wt.mk rfl rfl) rfl rfl (L.fa fa26_1 (Wt.mk rfl rfl) rfl rfl (L.ld (j := 1) bx19.mem nag3 (Wt.mk rfl rfl) rfl rfl rfl rfl (L.bi (Wt.mk rfl rfl) rfl rfl rfl rfl (L.pkF Wt.no rfl rfl rfl rfl (L.sb (J61 _ _ ⟨(decide (p1 ≥ r12.1.2.1)), (orF hc).symm, rfl, rfl⟩) rfl))))))
 ·intro J62
  rcases Bool.eq_false_or_eq_true (!r5) with hc | hc
  ·exact L.know (d := 17) rfl hc (L.skip rfl rfl rfl rfl (L.skip rfl rfl rfl rfl (L.skip rfl rfl rfl rfl (L.pkT Wt.no rfl rfl rfl rfl (L.sb (J62 _ _ ⟨true, (orT hc).symm, rfl, rfl⟩) rfl)))))
  ·exact L.know (d := 17) rfl hc (L.mv (Wt.mk rfl rfl) rfl rfl (L.len sl23 (Wt.mk rfl rfl) rfl rfl (L.bi (Wt.mk rfl rfl) rfl rfl rfl rfl (L.pkF Wt.no rfl rfl rfl rfl (L.sb (J62 _ _ ⟨(decide ((p2.length : Int) > 8)), (orF hc).symm, rfl, rfl⟩) rfl)))))

end Go.Proofs.Ytkkemchihllklaa

namespace Go.Proofs.Ytkkemchihllklaa
open Go Go.RowKit

/-- A search by halves among edges. -/
theorem binE_go {xs : List (Int × Int × Int)} {p : (Int × Int × Int) → Int → Option Int} {c : (Int × Int × Int) → Int} {t : Int} (hp : ∀ x ∈ xs, p x t = some (c x)) (hl : xs.length < 4294967296) (hs : ∀ i j (hi : i < xs.length) (hj : j < xs.length), i < j → c xs[j] < 0 → c xs[i] < 0) :
    ∀ (f i j : Nat), j ≤ i + f → i ≤ j → j ≤ xs.length → (∀ k (h : k < xs.length), k < i → c xs[k] < 0) → (∀ k (h : k < xs.length), j ≤ k → 0 ≤ c xs[k]) →
    ∃ q : Nat, iterF (m_slices_BinarySearchFunc_api_Edge_api_Edge_int_l1 xs t p) (f + 1) ((j : Int), (i : Int)) = some (q : Int) ∧ q ≤ xs.length ∧ (∀ k (h : k < xs.length), k < q → c xs[k] < 0) ∧ (∀ k (h : k < xs.length), q ≤ k → 0 ≤ c xs[k])
  | 0, i, j, h1, h2, h3, h4, h5 => by
    obtain rfl : i = j := by omega
    refine ⟨i, ?_, h3, h4, h5⟩
    rw [iterF_succ, m_slices_BinarySearchFunc_api_Edge_api_Edge_int_l1]
    dsimp only
    rw [if_neg ct_ge]
  | f + 1, i, j, h1, h2, h3, h4, h5 => by
    by_cases hlt : i < j
    · have hm : (i + j) / 2 < xs.length := by omega
      rw [iterF_succ, m_slices_BinarySearchFunc_api_Edge_api_Edge_int_l1]
      dsimp only
      rw [if_pos (ct_lt hlt), half_eq (by omega), idx_at hm, Option.bind_some, hp _ (List.getElem_mem hm), Option.bind_some]
      by_cases hc : c xs[(i + j) / 2] < 0
      · rw [if_pos (decide_eq_true hc), nxt (by omega)]
        dsimp only
        refine binE_go hp hl hs f ((i + j) / 2 + 1) j (by omega) (by omega) h3 (fun k hk hlt2 => ?_) h5
        by_cases hk2 : k = (i + j) / 2
        · subst hk2; exact hc
        · exact hs k ((i + j) / 2) hk hm (by omega) hc
      · rw [if_neg (by simpa using hc)]
        dsimp only
        refine binE_go hp hl hs f i ((i + j) / 2) (by omega) (by omega) (by omega) h4 (fun k hk hle => ?_)
        by_cases hk2 : k = (i + j) / 2
        · subst hk2; omega
        · have := mt (hs ((i + j) / 2) k hm hk (by omega)) hc
          omega
    · obtain rfl : i = j := by omega
      refine ⟨i, ?_, h3, h4, h5⟩
      rw [iterF_succ, m_slices_BinarySearchFunc_api_Edge_api_Edge_int_l1]
      dsimp only
      rw [if_neg ct_ge]
/-- What the walks of the package automaton ask. -/
structure AOk (a : Aut) : Prop where
  n0 : 0 ≤ a.n
  n1 : a.n ≤ 4096
  ed : ∀ x ∈ a.es, 0 ≤ x.f ∧ x.f < a.n ∧ 0 ≤ x.t ∧ x.t < a.n
  so : Sorted a.es
  el : a.es.length ≤ 1000000
  al : a.al.length ≤ 1000000
  ml : a.ms.length ≤ 1000000
theorem bin_edges {a : Aut} (h : AOk a) {p : (Int × Int × Int) → Int → Option Int} (hp : ∀ x t, p x t = some (W (x.1 - t))) {t : Nat} (ht : t ≤ 10000) :
    ∃ (q : Nat) (b : Bool), m_slices_BinarySearchFunc_api_Edge_api_Edge_int (a.es.map edP) (t : Int) p = some ((q : Int), b) ∧ q ≤ a.es.length ∧ (∀ k (hk : k < a.es.length), k < q → a.es[k].f < t) ∧ (∀ k (hk : k < a.es.length), q ≤ k → (t : Int) ≤ a.es[k].f) := by
  have hel := h.el; have hn1 := h.n1
  have hlm : (a.es.map edP).length = a.es.length := List.length_map ..
  have hat : ∀ k (hk : k < (a.es.map edP).length), (a.es.map edP)[k].1 = (a.es[k]'(by omega)).f := fun k hk => by rw [List.getElem_map]; rfl
  obtain ⟨q, h1, h2, h3, h4⟩ := binE_go (xs := a.es.map edP) (p := p) (c := fun x => x.1 - t) (t := t) (fun x hx => by
      obtain ⟨y, hy, rfl⟩ := List.mem_map.1 hx
      have := h.ed y hy
      rw [hp, W_of (by show _ ≤ y.f - _; omega) (by show y.f - _ < _; omega)]) (by omega) (fun i j hi hj hij hc => by
      rw [hat] at hc ⊢
      have hs := List.pairwise_iff_getElem.1 h.so i j (by omega) (by omega) hij
      have : (a.es[i]'(by omega)).f ≤ (a.es[j]'(by omega)).f := by rcases hs with hs | ⟨hs, _⟩ <;> omega
      omega) a.es.length 0 a.es.length (by omega) (by omega) (by omega) (fun k hk h0 => absurd h0 (Nat.not_lt_zero _)) (fun k hk h0 => by omega)
  have hr : ∃ b : Bool, (if decide ((q : Int) < ((a.es.map edP).length : Int)) then (idx (a.es.map edP) (q : Int)).bind fun x19 => (p x19 (t : Int)).bind fun r21 => some (r21 == 0) else some false) = some b := by
    by_cases hq : q < (a.es.map edP).length
    · rw [if_pos (ct_lt hq), idx_at hq, Option.bind_some, hp, Option.bind_some]; exact ⟨_, rfl⟩
    · rw [if_neg (by simp at hq ⊢; omega)]; exact ⟨_, rfl⟩
  obtain ⟨b, hb⟩ := hr
  refine ⟨q, b, ?_, by omega, fun k hk hlt => ?_, fun k hk hle => ?_⟩
  · rw [m_slices_BinarySearchFunc_api_Edge_api_Edge_int, hlm, show iter (m_slices_BinarySearchFunc_api_Edge_api_Edge_int_l1 (a.es.map edP) (t : Int) p) ((a.es.length : Int), 0) = some (q : Int) from iter_of (by omega) h1, Option.bind_some]
    rw [hlm] at hb
    rw [hb]
    rfl
  · have := h3 k (by omega) hlt
    rw [hat] at this
    omega
  · have := h4 k (by omega) hle
    rw [hat] at this
    omega
/-- A part of a list between two places. -/
theorem mid_filter {α : Type} (q : α → Bool) : ∀ (xs : List α) (i j : Nat), i ≤ j → j ≤ xs.length → (∀ k (h : k < xs.length), q xs[k] = decide (i ≤ k ∧ k < j)) → (xs.take j).drop i = xs.filter q := by
  intro xs i j hij hj h
  have e1 : xs = xs.take i ++ ((xs.take j).drop i ++ xs.drop j) := by
    have h1 : (xs.take j).take i = xs.take i := by rw [List.take_take, Nat.min_eq_left hij]
    rw [← List.append_assoc, ← h1, List.take_append_drop, List.take_append_drop]
  have f1 : (xs.take i).filter q = [] := by
    refine List.filter_eq_nil_iff.2 fun x hx => ?_
    obtain ⟨k, hk, rfl⟩ := List.mem_iff_getElem.1 hx
    rw [List.length_take] at hk
    rw [List.getElem_take, h k (by omega)]
    simp; omega
  have f2 : ((xs.take j).drop i).filter q = (xs.take j).drop i := by
    refine List.filter_eq_self.2 fun x hx => ?_
    obtain ⟨k, hk, rfl⟩ := List.mem_iff_getElem.1 hx
    rw [List.length_drop, List.length_take] at hk
    rw [List.getElem_drop, List.getElem_take, h (i + k) (by omega)]
    simp; omega
  have f3 : (xs.drop j).filter q = [] := by
    refine List.filter_eq_nil_iff.2 fun x hx => ?_
    obtain ⟨k, hk, rfl⟩ := List.mem_iff_getElem.1 hx
    rw [List.length_drop] at hk
    rw [List.getElem_drop, h (j + k) (by omega)]
    simp
  conv => rhs; rw [e1]
  rw [List.filter_append, List.filter_append, f1, f2, f3]
  simp
def outL (a : Aut) (s : Nat) : List Ed := a.es.filter fun x => x.f == (s : Int)
theorem out_eq {a : Aut} (h : AOk a) {s : Nat} (hs : s ≤ 4096) : m_automaton_out (autP a) (s : Int) = some ((outL a s).map edP) := by
  have hel := h.el
  obtain ⟨q1, b1, h1, h2, h3, h4⟩ := bin_edges h (p := m_automaton_out_1) (fun x t => rfl) (t := s) (by omega)
  obtain ⟨q2, b2, g1, g2, g3, g4⟩ := bin_edges h (p := m_automaton_out_2) (fun x t => rfl) (t := s + 1) (by omega)
  have hle : q1 ≤ q2 := by
    by_cases hc : q1 ≤ q2
    · exact hc
    · have k1 := h3 q2 (by omega) (by omega)
      have k2 := g4 q2 (by omega) (Nat.le_refl _)
      omega
  rw [m_automaton_out, show m_slices_BinarySearchFunc_api_Edge_api_Edge_int (autP a).2.2.2 (s : Int) m_automaton_out_1 = _ from h1, Option.bind_some, nxt (by omega), show m_slices_BinarySearchFunc_api_Edge_api_Edge_int (autP a).2.2.2 ((s + 1 : Nat) : Int) m_automaton_out_2 = _ from g1, Option.bind_some]
  dsimp only
  rw [show (autP a).2.2.2 = a.es.map edP from rfl, slc, if_pos ⟨by omega, by omega, by rw [List.length_map]; omega⟩, Option.bind_some, Int.toNat_natCast, Int.toNat_natCast, ← List.map_take, ← List.map_drop]
  rw [mid_filter (fun x : Ed => x.f == (s : Int)) a.es q1 q2 hle g2 (fun k hk => ?_)]
  · rfl
  · rw [Bool.eq_iff_iff, beq_iff_eq, decide_eq_true_eq]
    constructor
    · intro he
      refine ⟨?_, ?_⟩
      · by_cases hc : q1 ≤ k
        · exact hc
        · have := h3 k hk (by omega); omega
      · by_cases hc : k < q2
        · exact hc
        · have := g4 k hk (by omega); omega
    · rintro ⟨k1, k2⟩
      have := h4 k hk k1
      have := g3 k hk k2
      omega
theorem find_filter2 {es : List Ed} (s e : Int) : (es.filter fun x => x.f == s).find? (fun x => x.e == e) = es.find? fun x => x.f == s && x.e == e := by
  induction es with
  | nil => rfl
  | cons x es ih =>
    cases h1 : x.f == s with
    | false => rw [List.filter_cons_of_neg (by simp [h1]), List.find?_cons_of_neg (by simp [h1]), ih]
    | true =>
      rw [List.filter_cons_of_pos (by simp [h1])]
      cases h2 : x.e == e with
      | true => rw [List.find?_cons_of_pos (by simp [h2]), List.find?_cons_of_pos (by simp [h1, h2])]
      | false => rw [List.find?_cons_of_neg (by simp [h2]), List.find?_cons_of_neg (by simp [h1, h2]), ih]
theorem indexE_eq {xs : List Ed} {e : Int} (hl : xs.length < 4611686018427387904) : m_slices_IndexFunc_Edge (xs.map edP) (m_automaton_next_1 e) = some (if xs.any (fun x => x.e == e) = true then ((xs.findIdx (fun x => x.e == e) : Nat) : Int) else -1) := by
  have hlm : (xs.map edP).length = xs.length := List.length_map ..
  have h := iter_scan (f := m_slices_IndexFunc_Edge_l1 (xs.map edP) (m_automaton_next_1 e)) (xs := xs) (fun i (_ : Unit) => (i : Int)) (fun i _ y => if y.e == e then .inr (.inr (i : Int)) else .inl ()) (fun _ => .inl ()) (fun _ _ => True) (by omega) (fun i h _ _ => by
      rw [m_slices_IndexFunc_Edge_l1, if_pos (show decide ((i : Int) < ((xs.map edP).length : Int)) = true from by rw [hlm]; exact ct_lt h), idx_at (by omega), Option.bind_some, List.getElem_map, show m_automaton_next_1 e (edP xs[i]) = some (xs[i].e == e) from rfl, Option.bind_some, nxt (by omega)]
      refine ⟨fun s' g => ?_, fun o g => ?_⟩
      · split at g
        · cases g
        · rename_i h1; rw [if_neg h1]; exact ⟨rfl, trivial⟩
      · split at g
        · rename_i h1; rw [if_pos h1]; cases g; rfl
        · cases g) (fun _ _ => by rw [m_slices_IndexFunc_Edge_l1, if_neg (by rw [hlm]; exact ct_ge)]) (s := ()) trivial
  have key : ∀ (ys : List Ed) (i : Nat), scanL (O := Unit ⊕ Int) (fun i (_ : Unit) y => if y.e == e then .inr (.inr (i : Int)) else .inl ()) (fun _ => .inl ()) i ys () = if ys.any (fun x => x.e == e) = true then .inr ((i + ys.findIdx (fun x => x.e == e) : Nat) : Int) else .inl () := by
    intro ys
    induction ys with
    | nil => intro i; rfl
    | cons y ys ih =>
      intro i
      rw [scanL, List.any_cons, List.findIdx_cons]
      cases hy : y.e == e with
      | true => rfl
      | false =>
        rw [if_neg (by simp)]
        dsimp only
        rw [ih, Bool.false_or, cond_false]
        split
        · congr 2; omega
        · rfl
  rw [m_slices_IndexFunc_Edge, show iter (m_slices_IndexFunc_Edge_l1 (xs.map edP) (m_automaton_next_1 e)) 0 = _ from h, Option.bind_some, key]
  by_cases hm : xs.any (fun x => x.e == e) = true
  · rw [if_pos hm, if_pos hm]; simp
  · rw [if_neg hm, if_neg hm]
theorem next_eq {a : Aut} (h : AOk a) {s : Nat} (hs : s ≤ 4096) {e : Int} : m_automaton_next (autP a) (s : Int) e = some (stF a.es s e) := by
  have hel := h.el
  have hol : (outL a s).length ≤ a.es.length := List.length_filter_le ..
  rw [m_automaton_next, out_eq h hs, Option.bind_some, indexE_eq (by omega), Option.bind_some, stF, stepF, ← find_filter2, show a.es.filter (fun x => x.f == (s : Int)) = outL a s from rfl]
  by_cases hm : (outL a s).any (fun x => x.e == e) = true
  · have hlt : (outL a s).findIdx (fun x => x.e == e) < (outL a s).length := List.findIdx_lt_length_of_exists (by simpa [List.any_eq_true] using hm)
    rw [if_pos hm, if_neg (by simp), idx_at (by rw [List.length_map]; exact hlt), Option.bind_some, List.getElem_map]
    have hf : (outL a s).find? (fun x => x.e == e) = some ((outL a s)[(outL a s).findIdx (fun x => x.e == e)]) := by
      rw [← List.getElem?_eq_getElem hlt]
      exact (List.find?_eq_getElem?_findIdx).symm ▸ rfl
    rw [hf]
    have hmem := List.getElem_mem hlt
    have hed := h.ed _ (List.mem_filter.1 hmem).1
    show some ((outL a s)[(outL a s).findIdx (fun x => x.e == e)]).t = some ((((outL a s)[(outL a s).findIdx (fun x => x.e == e)]).t.toNat : Nat) : Int)
    rw [Int.toNat_of_nonneg hed.2.2.1]
  · have hf : (outL a s).find? (fun x => x.e == e) = none := by
      refine List.find?_eq_none.2 fun x hx hc => hm (List.any_eq_true.2 ⟨x, hx, hc⟩)
    rw [if_neg hm, if_pos (by simp), hf]
    rfl
theorem stepF_lt {a : Aut} (h : AOk a) {s t : Nat} {e : Int} (hs : stepF a.es s e = some t) : (t : Int) < a.n := by
  obtain ⟨x, hx, _, _, rfl⟩ := stepF_in hs
  have := h.ed x hx
  omega
theorem checkS_eq {a : Aut} (h : AOk a) (he : a.err = 0) (s : Int) : m_automaton_checkState (autP a) s = some (if s < 0 ∨ a.n ≤ s then 2 else 0) := by
  have h1 := h.el; have h2 := h.al; have h3 := h.ml
  rw [m_automaton_checkState, check_eq (by omega) (by omega) (by omega), Option.bind_some, he, if_neg (by simp)]
  by_cases hc : s < 0 ∨ a.n ≤ s
  · rw [if_pos hc, if_pos (by show (decide (s < 0) || decide (s ≥ a.n)) = true; simp; omega)]
  · rw [if_neg hc, if_neg (by show ¬ (decide (s < 0) || decide (s ≥ a.n)) = true; simp; omega)]
theorem enabledA_eq {a : Aut} (h : AOk a) (he : a.err = 0) (s : Int) : m_automaton_Enabled (autP a) s = some (if s < 0 ∨ a.n ≤ s then ([], 2) else ((outL a s.toNat).map (·.e), 0)) := by
  have hn1 := h.n1; have hel := h.el
  rw [m_automaton_Enabled, checkS_eq h he, Option.bind_some]
  by_cases hc : s < 0 ∨ a.n ≤ s
  · rw [if_pos hc, if_pos hc, if_pos (by simp)]
  · rw [if_neg hc, if_neg hc, if_neg (by simp), show s = ((s.toNat : Nat) : Int) by omega, out_eq h (by omega), Option.bind_some, Int.toNat_natCast]
    have hol : (outL a s.toNat).length ≤ a.es.length := List.length_filter_le ..
    have hlm : ((outL a s.toNat).map edP).length = (outL a s.toNat).length := List.length_map ..
    rw [show iter (m_automaton_Enabled_l1 ((outL a s.toNat).map edP)) (0, ([] : List Int)) = some ((outL a s.toNat).map (·.e)) from iter_run (f := m_automaton_Enabled_l1 ((outL a s.toNat).map edP)) (fun k : Nat => ((k : Int), ((outL a s.toNat).take k).map (·.e))) (outL a s.toNat).length (by omega) (fun k hk => by
      rw [m_automaton_Enabled_l1]
      dsimp only
      rw [if_pos (by rw [hlm]; exact ct_lt hk), idx_at (by omega), Option.bind_some, app_eq (by simp; omega), Option.bind_some, nxt (by omega), List.take_succ_eq_append_getElem hk, List.map_append, List.getElem_map]
      rfl) (by
      rw [m_automaton_Enabled_l1]
      dsimp only
      rw [if_neg (by rw [hlm]; exact ct_ge), List.take_length])]
    rfl
theorem stepA_eq {a : Aut} (h : AOk a) (he : a.err = 0) {s : Nat} (hs : (s : Int) < a.n) {e : Int} (hm : e ∈ a.al) : m_automaton_Step (autP a) (s : Int) e = some (match stepF a.es s e with | some t => ((t : Int), true, 0) | none => (0, false, 0)) := by
  have hn1 := h.n1; have hal := h.al
  rw [m_automaton_Step, checkS_eq h he, Option.bind_some, if_neg (show ¬ ((s : Int) < 0 ∨ a.n ≤ (s : Int)) by omega), if_neg (by simp), show m_slices_Contains_int (autP a).1 e = some (hasB a.al e) from contains_eq (xs := a.al) (by omega), Option.bind_some, hasB_true.2 hm, if_neg (by simp), next_eq h (by omega), Option.bind_some, stF]
  cases stepF a.es s e with
  | none => rfl
  | some t => dsimp only; rw [if_pos (by simp)]
theorem fol_lt {a : Aut} (h : AOk a) : ∀ (w : List Int) (s : Nat) (b : Bool), (s : Int) < a.n → (((w.foldl (folStep a.es) (s, b)).1 : Nat) : Int) < a.n
  | [], _, _, hs => hs
  | e :: w, s, b, hs => by
    rw [List.foldl_cons]
    cases hst : stepF a.es s e with
    | none =>
      have : folStep a.es (s, b) e = (s, true) := by unfold folStep; dsimp only; rw [hst]
      rw [this]; exact fol_lt h w s true hs
    | some t =>
      have : folStep a.es (s, b) e = (t, b) := by unfold folStep; dsimp only; rw [hst]
      rw [this]; exact fol_lt h w t b (stepF_lt h hst)
/-- What a scan does by definition. -/
theorem gfollow_eq {a : Aut} (h : AOk a) (he : a.err = 0) (ia : Inc a.al) {s : Int} {ev : List Int} (hl : ev.length ≤ 100) :
    m_generate_Follow (autP a) s ev = some (if s < 0 ∨ a.n ≤ s then (0, false, 2) else if amErr ev a.al ≠ 0 then (0, false, amErr ev a.al) else (((ev.foldl (folStep a.es) (s.toNat, false)).1 : Int), (ev.foldl (folStep a.es) (s.toNat, false)).2, 0)) := by
  have hal := h.al
  rw [m_generate_Follow, enabledA_eq h he, Option.bind_some]
  by_cases hc : s < 0 ∨ a.n ≤ s
  · rw [if_pos hc, if_pos hc, if_pos (by simp)]
  · rw [if_neg hc, if_neg hc, if_neg (by simp), show m_generate_among ev (autP a).1 = some (amErr ev a.al) from among2_eq (al := a.al) (by omega) (by omega) ia, Option.bind_some]
    by_cases h0 : amErr ev a.al ≠ 0
    · rw [if_pos (by simpa using h0), if_pos h0]
    · rw [if_neg (by simpa using h0), if_neg h0]
      have hsub := (amErr_0 (show amErr ev a.al = 0 by omega)).2
      obtain ⟨k0, rfl⟩ : ∃ k : Nat, s = (k : Int) := ⟨s.toNat, by omega⟩
      rw [Int.toNat_natCast]
      have hst := iter_run (f := m_generate_Follow_l1 (autP a) ev) (fun k : Nat => ((k : Int), ((ev.take k).foldl (folStep a.es) (k0, false)).2, (((ev.take k).foldl (folStep a.es) (k0, false)).1 : Int))) ev.length (by omega) (o := ((ev.foldl (folStep a.es) (k0, false)).2, ((ev.foldl (folStep a.es) (k0, false)).1 : Int))) (fun k hk => by
        have hlt := fol_lt h (ev.take k) k0 false (by omega)
        rw [List.take_succ_eq_append_getElem hk, List.foldl_append]
        generalize (ev.take k).foldl (folStep a.es) (k0, false) = S at hlt
        obtain ⟨S1, S2⟩ := S
        rw [m_generate_Follow_l1]
        dsimp only at hlt ⊢
        rw [if_pos (ct_lt hk), idx_at hk, Option.bind_some, stepA_eq h he hlt (hsub _ (List.getElem_mem hk)), Option.bind_some, List.foldl_cons, List.foldl_nil, folStep]
        dsimp only
        cases stepF a.es S1 ev[k] with
        | none =>
          dsimp only
          rw [if_neg (by simp), m_generate_Follow_j1]
          dsimp only
          rw [nxt (by omega)]
          simp
        | some t =>
          dsimp only
          rw [if_pos rfl, m_generate_Follow_j1]
          dsimp only
          rw [nxt (by omega)]
          simp) (by
        rw [m_generate_Follow_l1]
        dsimp only
        rw [if_neg ct_ge, List.take_length])
      rw [show iter (m_generate_Follow_l1 (autP a) ev) (0, false, (k0 : Int)) = _ from hst, Option.bind_some]
theorem SkIn.aok {a : Aut} {l : List Int} {n : Nat} (h : SkIn a l n) : AOk a := by
  have h1 := h.gen.hn; have h2 := h.gen.n1; have h3 := h.gen.es; have h4 := h.gen.al; have h5 := h.ms
  exact ⟨by omega, by omega, fun x hx => by have := h.gen.ed x hx; omega, h.so, by omega, by omega, by omega⟩
theorem follows_eq {x : Sketch} (hx : SkOk x) {s : Int} {ev : List Int} : m_overseerlaw53_GenerateFollows x s ev = some true := by
  rw [m_overseerlaw53_GenerateFollows, known53, Option.bind_some, Option.bind_some]
  by_cases hl : ev.length > 8
  · rw [if_pos (by simp; omega)]
  · obtain ⟨a, l, n, h1, h⟩ := make53_ex hx
    have hal := h.gen.al
    have hes := h.gen.es
    have hn : (autP a).2.1 = (n : Int) := h.gen.hn
    have hn2 := h.gen.hn
    have hf := gfollow_eq h.aok h.err h.ia (s := s) (ev := ev) (by omega)
    rw [if_neg (by simp; omega), h1, Option.bind_some]
    dsimp only
    rw [hf, Option.bind_some, hn]
    have hany := containsF_eq (xs := ev) (p := m_overseerlaw53_GenerateFollows_1 (autP a)) (q := fun y => !hasB a.al y) (by omega) (fun y hy => by
      rw [m_overseerlaw53_GenerateFollows_1, show m_slices_Contains_int (autP a).1 y = some (hasB a.al y) from contains_eq (xs := a.al) (by omega)]; rfl)
    by_cases hc : s < 0 ∨ a.n ≤ s
    · rw [if_pos hc, if_pos (by simp; omega), m_overseerlaw53_GenerateFollows_j1, if_neg (by simp), m_overseerlaw53_GenerateFollows_j2, if_neg (by simp), Option.bind_some, if_neg (by simp), m_overseerlaw53_GenerateFollows_j3, if_pos (by simp)]
      rfl
    · rw [if_neg hc, if_neg (by simp; omega)]
      have key : ∀ e, e = amErr ev a.al → m_overseerlaw53_GenerateFollows_j3 s ev (autP a, l) (if amErr ev a.al ≠ 0 then (0, false, amErr ev a.al) else (((ev.foldl (folStep a.es) (s.toNat, false)).1 : Int), (ev.foldl (folStep a.es) (s.toNat, false)).2, 0)) e = some true := by
        rintro e rfl
        rw [m_overseerlaw53_GenerateFollows_j3]
        by_cases h0 : amErr ev a.al ≠ 0
        · rw [if_pos h0, if_pos (by simpa using h0)]; simp
        · rw [if_neg h0, if_neg (by simpa using h0)]
          have hfo := follow_eq (a := a) (by omega) (fun x hx => (h.gen.ed x hx).2.2.1) (ev := ev) (by omega) s.toNat
          rw [show ((s.toNat : Nat) : Int) = s by omega] at hfo
          rw [hfo, Option.bind_some]; simp
      rw [m_overseerlaw53_GenerateFollows_j1, if_pos (by simp), checkSet2_eq (by omega), Option.bind_some, m_overseerlaw53_GenerateFollows_j2]
      have hle := law_err (us := ev) (al := a.al)
      by_cases h0 : setErr 32 none ev = 0
      · rw [if_pos h0] at hle
        rw [if_pos (by simpa using h0)]
        dsimp only
        rw [hany, Option.bind_some, Option.bind_some]
        split
        · rename_i h2; rw [if_pos h2] at hle; exact key _ hle
        · rename_i h2; rw [if_neg h2] at hle; exact key _ hle
      · rw [if_neg h0] at hle
        rw [if_neg (by simpa using h0), Option.bind_some, if_neg (by simp)]
        exact key _ hle
end Go.Proofs.Ytkkemchihllklaa

namespace Go.Proofs.Ytkkemchihllklaa
open Go Go.ChangeShapes Go.WideShapes Go.ChangeAt Go.RowKit

set_option maxRecDepth 100000 in
theorem generateFollows_lifted (os : Os) (started : os.Started) (H : Type) (enc : TypeId × Value → H) :
    ReturnsInHanded {} Try.checked os 10 .any (Rows.generateFollowsSpec.pre6 enc Try.prog Try.f10 Rows.generateFollowsRow.domain false) (Rows.generateFollowsSpec.post enc Try.prog Try.f10 false true false false) := by
  refine returnsInHanded_of_change (C := Try.checked) Try.own started (by kernel_rfl) Try.func10
    (ChangeSpec.witness6 (enc := enc) (C := Try.checked) false ⟨#[], #[.agg #[.int .u8 0, .int .u8 0, .int .u8 0, .int .u8 0, .int .u8 0, .int .u8 0, .int .u8 0, .int .u8 0, .int .u8 0, .int .u8 0, .int .u8 0, .int .u8 0, .int .u8 0, .int .u8 0, .int .u8 0, .int .u8 0, .int .u8 0, .int .u8 0, .int .u8 0, .int .u8 0, .int .u8 0, .int .u8 0, .int .u8 0, .int .u8 0, .int .u8 0, .int .u8 0, .int .u8 0, .int .u8 0, .int .u8 0], .int .i64 0, .slice none 0 0], []⟩ 8 (by kernel_rfl) (by kernel_rfl) (by kernel_rfl) (by kernel_rfl)) ?_
  intro W base args ds gs before hval0 hW hcnd _
  have hval : ∀ (j : Nat) t v, Try.f10.params[j]? = some t → args[j]? = some v → Value.okWide Try.prog W .any base t v := hval0
  have hW' := hW
  obtain ⟨p, q, hA0, hV, rfl, hfz, hnd⟩ := hW
  have hA : DataW.TrodAll enc Try.prog W 0 (fun _ => true) true Try.f10.params.toList args.toList ds p := hA0
  rw [Try.params10] at hA hval
  obtain ⟨v0, v1, v2, d0, d1, d2, p0, p1, p2, rfl, rfl, rfl, h0, h1, h2⟩ := trodAll_three hA
  obtain ⟨x, hx, rfl⟩ := arg_sketch (hval 0 51 v0 rfl rfl)
  obtain ⟨n1, rfl, rfl, rfl, wn1⟩ := open_int Try.underlying3 (hval 1 3 v1 rfl rfl) h1
  obtain ⟨a2, c2, xs2, rfl, r2, k2⟩ := arg_ints (hval 2 23 v2 rfl rfl) h2
  obtain ⟨rfl, rfl⟩ := trodVars_none hV
  clear hA0 hval0
  refine (m_overseerlaw53_GenerateFollows_c (s := ⟨W, fun _ => 0⟩) r2 (follows_eq hx)).mono fun e W' ⟨v, s', hw, he, hm, hv⟩ => ?_
  subst hw
  subst he
  subst hv
  have hbl := hm.below
  exact ⟨_, rfl, law_post Try.laidOut hW' rfl (by kernel_rfl) (by kernel_rfl) Try.underlying4 rfl rfl rfl hbl⟩

/-- The statement. -/
theorem generateFollows_holds : Rows.GenerateFollowsSaid :=
  OpenClaim.holds_of_wide 10 Try.f10 rfl rfl rfl rfl rfl rfl rfl ⟨rfl, rfl, rfl, rfl, rfl⟩ rfl rfl rfl rfl rfl (by kernel_rfl) Try.func10 (by kernel_rfl)
    (of_decide_eq_true (by kernel_rfl)) (by unfold Func.isWrapper; first | (rw [if_pos (by decide +kernel)]; kernel_rfl) | (rw [if_neg (by decide +kernel)]; exact ⟨rfl, rfl⟩))
    (fun os started H enc _ => generateFollows_lifted os started H enc)
end Go.Proofs.Ytkkemchihllklaa
