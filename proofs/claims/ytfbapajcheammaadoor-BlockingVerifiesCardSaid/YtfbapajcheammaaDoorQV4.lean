/- Parts of the proof, without what nothing here names. -/
import Derived.Test.YtfbapajcheammaaDoorProg
import Derived.Test.YtfbapajcheammaaDoorQV3
namespace Go.Proofs.YtfbapajcheammaaDoor
open Go Go.RowKit
theorem cf76 : Cf Tryd.prog 76 := Cf.mk Tryd.func76 (by kernel_rfl) (by kernel_rfl)
noncomputable def m_product_events_l1 (p0 : List (List Int × Int × List Int × (List (Int × Int × Int)))) (st24 : Int × List Int) : Option ((Int × List Int) ⊕ (List Int)) :=
  if decide (st24.1 < (p0.length : Int)) then
    (idx p0 st24.1).bind fun x30 =>
    (m_alphabet_Union st24.2 x30.1).bind fun r41 =>
    some (.inl (W (st24.1 + 1), r41))
  else
    some (.inr st24.2)
/-- What product.events computes. -/
noncomputable def m_product_events (p0 : List (List Int × Int × List Int × (List (Int × Int × Int)))) : Option (List Int) :=
  (iter (m_product_events_l1 p0) (0, ([] : List Int))).bind fun o24 =>
  some o24
set_option maxRecDepth 100000 in
set_option maxHeartbeats 8000000 in
theorem m_product_events_c {s : Sig} {p0 : List (List Int × Int × List Int × (List (Int × Int × Int)))} {a1 : Option Addr} {c1 : Nat} {u0 : Nat} {r : List Int} (h1 : RdL (rP (rL (rK .i64)) (rP (rK .i64) (rP (rL (rK .i64)) (rL (rP (rK .i64) (rP (rK .i64) (rK .i64))))))) s a1 c1 p0) (hm : m_product_events p0 = some r) :
    Calls Tryd.prog 44 #[.slice a1 p0.length c1] s.w (RetS No s fun v s' => ∃ (a2 : Option Addr) (c2 : Nat), v = .slice a2 r.length c2 ∧ RowT (rK .i64) s' u0 3 a2 c2 r) := by
 unfold m_product_events at hm
 obtain ⟨N, hN, hNb⟩ := s.fresh
 have m0 : Mv (Up N No) s s := Mv.refl _ _
 refine E.entry Tryd.func44 rfl Tryd.ntmps44 rfl rfl (E.seq (E.reg (L.as Wt.no rfl rfl (L.nil (X.seqN (E.seq (E.reg (L.as Wt.no rfl rfl (L.nil (X.seqN (E.seq (E.seq (E.reg (L.mv Wt.no rfl rfl (L.len sl29 Wt.no rfl rfl (L.mv Wt.no rfl rfl (L.nil (X.seqN (E.block ?_)))))))))))))))))))
 obtain ⟨o24, eo24, hm⟩ := bindS hm
 refine E.cut (x := .exit 0) (fun e w => ∃ (s28 : Sig) (a26 : Option Addr) (c26 : Nat), Mv (Up N No) s s28 ∧ RowT (rK .i64) s28 (N + 1) 3 a26 c26 o24 ∧ e = [(3, .slice a26 o24.length c26)] ∧ w = s28.w) ?_ ?_
 ·rintro _ _ ⟨s28, a26, c26, m0, h26, rfl, rfl⟩
  refine X.blkE (X.seqN (E.seq (E.reg (L.mv Wt.no rfl rfl (L.as Wt.no rfl rfl (L.nil (X.seqN (E.ret ?_))))))))
  obtain rfl := Option.some.inj hm
  exact X.rt (.inl rfl) Tryd.results44 (Rs.tmp rfl Rs.nil) rfl ⟨_, (s28).ren N (fun k => cond (Nat.beq k 1) u0 (0)), rfl, rfl, m0.ren hNb, ⟨a26, c26, rfl, (h26.ren hN)⟩⟩
 intro K29
 refine E.iter (fun (st24 : Int × List Int) (e : List (Nat × Value)) (w : World) => ∃ (s27 : Sig) (a5 : Option Addr) (c5 : Nat), Mv (Up N No) s s27 ∧ RdL (rP (rL (rK .i64)) (rP (rK .i64) (rP (rL (rK .i64)) (rL (rP (rK .i64) (rP (rK .i64) (rK .i64))))))) s27 a1 c1 p0 ∧ RowT (rK .i64) s27 (N + 1) 3 a5 c5 st24.2 ∧ e = [(8, .int .i64 st24.1), (7, .int .i64 (p0.length : Int)), (6, .slice a1 p0.length c1), (3, .slice a5 st24.2.length c5)] ∧ w = s27.w) eo24 ⟨s, none, 0, m0, h1, RowT.nil, rfl, rfl⟩ (Sub.rf rfl) ?_
 rintro st24 res24 hm ih24 ho24 _ _ ⟨s27, a5, c5, m0, h1, h5, rfl, rfl⟩
 unfold m_product_events_l1 at hm
 refine E.seq (E.reg (L.bi Wt.no rfl rfl rfl rfl (L.nil (X.seqN (E.seq ?_)))))
 rcases ifS hm with ⟨hc, hm⟩ | ⟨hc, hm⟩
 ·refine E.cT rfl hc (E.skip (X.seqN (E.seq (E.block (E.seq (E.reg ?_))))))
  obtain ⟨x30, ex30, hm⟩ := bindS hm
  refine L.ix (r := (rP (rL (rK .i64)) (rP (rK .i64) (rP (rL (rK .i64)) (rL (rP (rK .i64) (rP (rK .i64) (rK .i64)))))))) sl29 h1 Wt.no rfl rfl ex30 rfl fun b31 o31 cc31 me31 rd31 => ?_
  obtain ⟨_, _, rfl, ⟨a32, c32, rfl, h32⟩, ⟨_, _, rfl, rfl, ⟨_, _, rfl, ⟨a33, c33, rfl, h33⟩, ⟨a34, c34, rfl, h34⟩⟩⟩⟩ := rd31
  refine L.lg (j := 0) (cs := [.slice a32 x30.1.length c32, .int .i64 x30.2.1, .slice a33 x30.2.2.1.length c33, .slice a34 x30.2.2.2.length c34]) me31 ag34 Wt.no rfl rfl rfl rfl rfl (L.al (N + 0) zz34 rfl Wt.no rfl fun b35 s36 m37 bx35 => ?_)
  replace m0 := m0.trans m37.no
  replace h5 := h5.mv m37 no_No no_No
  replace h1 := h1.mono (m37.le no_No)
  replace h32 := h32.mono (m37.le no_No)
  refine L.st (c := [.slice a32 x30.1.length c32, .int .i64 x30.2.1, .slice a33 x30.2.2.1.length c33, .slice a34 x30.2.2.2.length c34]) (cs' := #[.slice a32 x30.1.length c32, .int .i64 x30.2.1, .slice a33 x30.2.2.1.length c33, .slice a34 x30.2.2.2.length c34]) bx35 ag34.sz Wt.no rfl rfl rfl rfl rfl (Nat.le_of_ble_eq_true rfl) rfl fun s38 m39 bx35 => ?_
  replace m0 := m0.trans (m39.one up)
  replace h5 := h5.mv m39 (tgN (by decide)) (tg0 hN)
  replace h1 := h1.mono (m39.le (tg0 hN))
  replace h32 := h32.mono (m39.le (tg0 hN))
  refine L.nil (X.seqN (E.reg (L.mv Wt.no rfl rfl (L.fa fa34_0 Wt.no rfl rfl (L.ld (j := 0) bx35.mem nag31 Wt.no rfl rfl rfl rfl ?_)))))
  have m40 := Sig.fz_mv (N + 1) s38
  replace h5 := h5.fz (tgn hN)
  replace m0 := m0.trans (m40.one up)
  replace h1 := h1.mono (m40.le (tg0 hN))
  replace h32 := h32.mono (m40.le (tg0 hN))
  refine L.toR (s' := (Sig.fz (N + 1) s38)) rfl ?_
  obtain ⟨r41, er41, hm⟩ := bindS hm
  refine L.ca cf76 rfl rfl Wt.no rfl (m_alphabet_Union_c (s := (Sig.fz (N + 1) s38)) (p0 := st24.2) (p1 := x30.1) (u0 := (N + 1)) h5 h32 er41) rfl ?_
  rintro _ s42 m43 ⟨a44, c44, rfl, h44⟩
  replace m0 := m0.trans m43.no
  replace h1 := h1.mono (m43.le no_No)
  exact L.as Wt.no rfl rfl (L.nil (X.blkN (X.seqN (E.reg (L.bi Wt.no rfl rfl rfl rfl (L.mv Wt.no rfl rfl (L.nil (X.sub (ih24 _ (Option.some.inj hm).symm _ _ ⟨s42, a44, c44, m0, h1, h44, rfl, rfl⟩) (Sub.rf rfl)))))))))
 refine E.cF rfl hc (E.exit (X.seqX (X.seqX ?_)))
 have hx := ho24 _ (Option.some.inj hm).symm
 subst hx
 exact X.sub (K29 _ _ ⟨s27, a5, c5, m0, h5, rfl, rfl⟩) (Sub.rf rfl)

theorem ag63 : Ag Tryd.prog 63 3 := Ag.mk' Tryd.underlying63 rfl (by kernel_rfl)
theorem bs61 : Bs Tryd.prog 61 81 1 [.map none] := Bs.mk' Tryd.underlying61 (by kernel_rfl) (by kernel_rfl) rfl
theorem cf44 : Cf Tryd.prog 44 := Cf.mk Tryd.func44 (by kernel_rfl) (by kernel_rfl)
theorem el81 : El Tryd.prog 81 1 8 := El.mk' (z := .map none) (by kernel_rfl) (by kernel_rfl) (by kernel_rfl) rfl
theorem fa63_2 : FA Tryd.prog 63 2 2 := FA.mk Tryd.underlying63 rfl rfl ⟨1, by decide, by kernel_rfl⟩
theorem md81 : Md Tryd.prog 81 82 3 kvP (rK .i64) 0 (.int .i64 0) := Md.mk' Tryd.underlying81 (KE.pair' Tryd.underlying82 (by kernel_rfl) Tryd.underlying3 (by kernel_rfl) (NAg.mk' Tryd.underlying3 rfl (by kernel_rfl)).agg) (by kernel_rfl) (fun _ => rfl)
theorem nag61 : NAg Tryd.prog 61 := NAg.mk' Tryd.underlying61 rfl (by kernel_rfl)
theorem pl63 : Pl Tryd.prog 63 [(0, 1), (1, 1), (2, 1)] [.slice none 0 0, .slice none 0 0, .slice none 0 0] := Pl.str Tryd.underlying63 (by kernel_rfl) (by kernel_rfl)
theorem pl82 : Pl Tryd.prog 82 (plK 1 2 0) [.int .i64 0, .int .i64 0] := Pl.arr Tryd.underlying82 (by kernel_rfl) (by kernel_rfl)
theorem zz63 : (Tryd.prog.info? 63).bind (·.zero) = some (.agg #[.slice none 0 0, .slice none 0 0, .slice none 0 0]) := by kernel_rfl
noncomputable def m_product_open_l2 (x81 : List Int × Int × List Int × (List (Int × Int × Int))) (st107 : Int × (List ((Int × Int) × Int))) : Option ((Int × (List ((Int × Int) × Int))) ⊕ (List ((Int × Int) × Int))) :=
  if decide (st107.1 < (x81.2.2.2.length : Int)) then
    (idx x81.2.2.2 st107.1).bind fun x122 =>
    some (.inl (W (st107.1 + 1), (kput st107.2 (x122.1, x122.2.1) x122.2.2)))
  else
    some (.inr st107.2)
noncomputable def m_product_open_l1 (p0 : List (List Int × Int × List Int × (List (Int × Int × Int)))) (st73 : Int × (List (List ((Int × Int) × Int)))) : Option ((Int × (List (List ((Int × Int) × Int)))) ⊕ (List (List ((Int × Int) × Int)))) :=
  if decide (st73.1 < (p0.length : Int)) then
    (idx p0 st73.1).bind fun x81 =>
    (iter (m_product_open_l2 x81) (0, ([] : List ((Int × Int) × Int)))).bind fun o107 =>
    (app st73.2 ([o107] : List (List ((Int × Int) × Int)))).bind fun x115 =>
    some (.inl (W (st73.1 + 1), x115))
  else
    some (.inr st73.2)
/-- What product.open computes. -/
noncomputable def m_product_open (p0 : List (List Int × Int × List Int × (List (Int × Int × Int)))) : Option ((List (List Int × Int × List Int × (List (Int × Int × Int)))) × List Int × (List (List ((Int × Int) × Int)))) :=
  (m_product_events p0).bind fun r8 =>
  (iter (m_product_open_l1 p0) (0, ([] : List (List ((Int × Int) × Int))))).bind fun o73 =>
  some (p0, r8, o73)
set_option maxRecDepth 100000 in
set_option maxHeartbeats 8000000 in
theorem m_product_open_c {s : Sig} {p0 : List (List Int × Int × List Int × (List (Int × Int × Int)))} {a1 : Option Addr} {c1 : Nat} {u1 : Nat} {u2 : Nat} {r : ((List (List Int × Int × List Int × (List (Int × Int × Int)))) × List Int × (List (List ((Int × Int) × Int))))} (h1 : RdL (rP (rL (rK .i64)) (rP (rK .i64) (rP (rL (rK .i64)) (rL (rP (rK .i64) (rP (rK .i64) (rK .i64))))))) s a1 c1 p0) (hm : m_product_open p0 = some r) :
    Calls Tryd.prog 28 #[.slice a1 p0.length c1] s.w (RetS No s fun v s' => ∃ (a2 : Option Addr) (c2 : Nat) (a3 : Option Addr) (c3 : Nat) (a4 : Option Addr) (c4 : Nat), v = .agg #[.slice a2 r.1.length c2, .slice a3 r.2.1.length c3, .slice a4 r.2.2.length c4] ∧ RdL (rP (rL (rK .i64)) (rP (rK .i64) (rP (rL (rK .i64)) (rL (rP (rK .i64) (rP (rK .i64) (rK .i64))))))) s' a2 c2 r.1 ∧ RowT (rK .i64) s' u1 3 a3 c3 r.2.1 ∧ RowT (rM kvP (rK .i64)) s' u2 81 a4 c4 r.2.2) := by
 unfold m_product_open at hm
 obtain ⟨N, hN, hNb⟩ := s.fresh
 have m0 : Mv (Up N No) s s := Mv.refl _ _
 refine E.entry Tryd.func28 rfl Tryd.ntmps28 rfl rfl (E.seq (E.reg (L.al (N + 0) zz63 rfl Wt.no rfl fun b5 s6 m7 bx5 => ?_)))
 replace m0 := m0.trans m7.no
 replace h1 := h1.mono (m7.le no_No)
 refine L.nil (X.seqN (E.seq (E.reg (L.mv Wt.no rfl rfl (L.mv Wt.no rfl rfl ?_)))))
 obtain ⟨r8, er8, hm⟩ := bindS hm
 refine L.ca cf44 rfl rfl Wt.no rfl (m_product_events_c (s := s6) (p0 := p0) (u0 := (N + 6)) h1 er8) rfl ?_
 rintro _ s9 m10 ⟨a11, c11, rfl, h11⟩
 replace m0 := m0.trans m10.no
 replace h1 := h1.mono (m10.le no_No)
 replace bx5 := bx5.mv m10 no_No
 refine L.bu (cs := [.slice a1 p0.length c1, .slice a11 r8.length c11, .slice none 0 0]) pl63 Wt.no rfl rfl rfl (L.al (N + 1) zz63 rfl Wt.no rfl fun b12 s13 m14 bx12 => ?_)
 replace m0 := m0.trans m14.no
 replace h1 := h1.mono (m14.le no_No)
 replace h11 := h11.mv m14 no_No no_No
 replace bx5 := bx5.mv m14 no_No
 refine L.st (c := [.slice a1 p0.length c1, .slice a11 r8.length c11, .slice none 0 0]) (cs' := #[.slice a1 p0.length c1, .slice a11 r8.length c11, .slice none 0 0]) bx12 ag63.sz Wt.no rfl rfl rfl rfl rfl (Nat.le_of_ble_eq_true rfl) rfl fun s15 m16 bx12 => ?_
 replace m0 := m0.trans (m16.one up)
 replace h1 := h1.mono (m16.le (tg0 hN))
 replace bx5 := bx5.mv m16 (tgN (by decide))
 replace h11 := h11.mv m16 (tgN (by decide)) (tg0 hN)
 refine L.nil (X.seqN (E.seq (E.seq (E.reg (L.mv Wt.no rfl rfl (L.len sl29 Wt.no rfl rfl (L.mv Wt.no rfl rfl (L.nil (X.seqN (E.block ?_))))))))))
 obtain ⟨o73, eo73, hm⟩ := bindS hm
 refine E.cut (x := .exit 0) (fun e w => ∃ (s77 : Sig) (a75 : Option Addr) (c75 : Nat), Mv (Up N No) s s77 ∧ RdL (rP (rL (rK .i64)) (rP (rK .i64) (rP (rL (rK .i64)) (rL (rP (rK .i64) (rP (rK .i64) (rK .i64))))))) s77 a1 c1 p0 ∧ RowT (rK .i64) s77 (N + 6) 3 a11 c11 r8 ∧ RowT (rM kvP (rK .i64)) s77 (N + 5) 81 a75 c75 o73 ∧ Bx s77 (N + 0) b5 #[.slice none 0 0, .slice none 0 0, .slice none 0 0] 63 ∧ Bx s77 (N + 1) b12 #[.slice a1 p0.length c1, .slice a11 r8.length c11, .slice a75 o73.length c75] 63 ∧ e = [(3, .pointer (some ⟨b12, 0, none⟩)), (2, .pointer (some ⟨b5, 0, none⟩))] ∧ w = s77.w) ?_ ?_
 ·rintro _ _ ⟨s77, a75, c75, m0, h1, h11, h75, bx5, bx12, rfl, rfl⟩
  refine X.blkE (X.seqN (E.seq (E.reg (L.lg (j := 0) (cs := [.slice a1 p0.length c1, .slice a11 r8.length c11, .slice a75 o73.length c75]) bx12.mem ag63 Wt.no rfl rfl rfl rfl rfl (L.st (c := [.slice a1 p0.length c1, .slice a11 r8.length c11, .slice a75 o73.length c75]) (cs' := #[.slice a1 p0.length c1, .slice a11 r8.length c11, .slice a75 o73.length c75]) bx5 ag63.sz Wt.no rfl rfl rfl rfl rfl (Nat.le_of_ble_eq_true rfl) rfl fun s78 m79 bx5 => ?_)))))
  replace m0 := m0.trans (m79.one up)
  replace h1 := h1.mono (m79.le (tg0 hN))
  replace h11 := h11.mv m79 (tgN (by decide)) (tg0 hN)
  replace h75 := h75.mv m79 (tgN (by decide)) (tg0 hN)
  refine L.nil (X.seqN (E.ret ?_))
  obtain rfl := Option.some.inj hm
  exact X.rt (.inl rfl) Tryd.results28 (Rs.cell rfl bx5 ag63 rfl Rs.nil) rfl ⟨_, (s78).ren N (fun k => cond (Nat.beq k 6) u1 (cond (Nat.beq k 5) u2 (0))), rfl, rfl, m0.ren hNb, ⟨a1, c1, a11, c11, a75, c75, rfl, (h1.ren hN), (h11.ren hN), (h75.ren hN)⟩⟩
 intro K80
 refine E.iter (fun (st73 : Int × (List (List ((Int × Int) × Int)))) (e : List (Nat × Value)) (w : World) => ∃ (s76 : Sig) (a19 : Option Addr) (c19 : Nat), Mv (Up N No) s s76 ∧ RdL (rP (rL (rK .i64)) (rP (rK .i64) (rP (rL (rK .i64)) (rL (rP (rK .i64) (rP (rK .i64) (rK .i64))))))) s76 a1 c1 p0 ∧ RowT (rK .i64) s76 (N + 6) 3 a11 c11 r8 ∧ RowT (rM kvP (rK .i64)) s76 (N + 5) 81 a19 c19 st73.2 ∧ Bx s76 (N + 0) b5 #[.slice none 0 0, .slice none 0 0, .slice none 0 0] 63 ∧ Bx s76 (N + 1) b12 #[.slice a1 p0.length c1, .slice a11 r8.length c11, .slice a19 st73.2.length c19] 63 ∧ e = [(15, .int .i64 st73.1), (14, .int .i64 (p0.length : Int)), (13, .slice a1 p0.length c1), (3, .pointer (some ⟨b12, 0, none⟩)), (2, .pointer (some ⟨b5, 0, none⟩))] ∧ w = s76.w) eo73 ⟨s15, none, 0, m0, h1, h11, RowT.nil, bx5, bx12, rfl, rfl⟩ (Sub.rf rfl) ?_
 rintro st73 res73 hm ih73 ho73 _ _ ⟨s76, a19, c19, m0, h1, h11, h19, bx5, bx12, rfl, rfl⟩
 unfold m_product_open_l1 at hm
 refine E.seq (E.reg (L.bi Wt.no rfl rfl rfl rfl (L.nil (X.seqN (E.seq ?_)))))
 rcases ifS hm with ⟨hc, hm⟩ | ⟨hc, hm⟩
 ·refine E.cT rfl hc (E.skip (X.seqN (E.seq (E.block (E.seq (E.reg ?_))))))
  obtain ⟨x81, ex81, hm⟩ := bindS hm
  refine L.ix (r := (rP (rL (rK .i64)) (rP (rK .i64) (rP (rL (rK .i64)) (rL (rP (rK .i64) (rP (rK .i64) (rK .i64)))))))) sl29 h1 Wt.no rfl rfl ex81 rfl fun b82 o82 cc82 me82 rd82 => ?_
  obtain ⟨_, _, rfl, ⟨a83, c83, rfl, h83⟩, ⟨_, _, rfl, rfl, ⟨_, _, rfl, ⟨a84, c84, rfl, h84⟩, ⟨a85, c85, rfl, h85⟩⟩⟩⟩ := rd82
  refine L.lg (j := 0) (cs := [.slice a83 x81.1.length c83, .int .i64 x81.2.1, .slice a84 x81.2.2.1.length c84, .slice a85 x81.2.2.2.length c85]) me82 ag34 Wt.no rfl rfl rfl rfl rfl (L.al (N + 2) zz34 rfl Wt.no rfl fun b86 s87 m88 bx86 => ?_)
  replace m0 := m0.trans m88.no
  replace h85 := h85.mono (m88.le no_No)
  replace h1 := h1.mono (m88.le no_No)
  replace bx5 := bx5.mv m88 no_No
  replace bx12 := bx12.mv m88 no_No
  replace h11 := h11.mv m88 no_No no_No
  replace h19 := h19.mv m88 no_No no_No
  refine L.st (c := [.slice a83 x81.1.length c83, .int .i64 x81.2.1, .slice a84 x81.2.2.1.length c84, .slice a85 x81.2.2.2.length c85]) (cs' := #[.slice a83 x81.1.length c83, .int .i64 x81.2.1, .slice a84 x81.2.2.1.length c84, .slice a85 x81.2.2.2.length c85]) bx86 ag34.sz Wt.no rfl rfl rfl rfl rfl (Nat.le_of_ble_eq_true rfl) rfl fun s89 m90 bx86 => ?_
  replace m0 := m0.trans (m90.one up)
  replace h1 := h1.mono (m90.le (tg0 hN))
  replace bx5 := bx5.mv m90 (tgN (by decide))
  replace bx12 := bx12.mv m90 (tgN (by decide))
  replace h11 := h11.mv m90 (tgN (by decide)) (tg0 hN)
  replace h19 := h19.mv m90 (tgN (by decide)) (tg0 hN)
  replace h85 := h85.mono (m90.le (tg0 hN))
  refine L.nil (X.seqN (E.seq (E.reg (L.mk2 (kv := kvP) (r := (rK .i64)) (T := 81) (N + 3) rfl Wt.no fun y91 c91 s92 m93 h91 => ?_))))
  replace h91 := h91.as (T' := 0) (Le.refl _) rfl (fun _ e => e)
  replace m0 := m0.trans m93.no
  replace h1 := h1.mono (m93.le no_No)
  replace bx5 := bx5.mv m93 no_No
  replace bx12 := bx12.mv m93 no_No
  replace h11 := h11.mv m93 no_No no_No
  replace h19 := h19.mv m93 no_No no_No
  replace bx86 := bx86.mv m93 no_No
  replace h85 := h85.mono (m93.le no_No)
  refine L.as Wt.no rfl rfl (L.nil (X.seqN (E.seq (E.seq (E.reg (L.fa fa34_3 Wt.no rfl rfl (L.ld (j := 3) bx86.mem nag32 Wt.no rfl rfl rfl rfl (L.len sl32 Wt.no rfl rfl (L.mv Wt.no rfl rfl (L.nil (X.seqN (E.block ?_))))))))))))
  obtain ⟨o107, eo107, hm⟩ := bindS hm
  refine E.cut (x := .exit 2) (fun e w => ∃ (s110 : Sig), Mv (Up N No) s s110 ∧ MapO kvP (rK .i64) s110 (N + 3) 0 y91 c91 o107 ∧ RdL (rP (rL (rK .i64)) (rP (rK .i64) (rP (rL (rK .i64)) (rL (rP (rK .i64) (rP (rK .i64) (rK .i64))))))) s110 a1 c1 p0 ∧ RowT (rK .i64) s110 (N + 6) 3 a11 c11 r8 ∧ RowT (rM kvP (rK .i64)) s110 (N + 5) 81 a19 c19 st73.2 ∧ Bx s110 (N + 0) b5 #[.slice none 0 0, .slice none 0 0, .slice none 0 0] 63 ∧ Bx s110 (N + 1) b12 #[.slice a1 p0.length c1, .slice a11 r8.length c11, .slice a19 st73.2.length c19] 63 ∧ e = [(6, .map y91), (15, .int .i64 st73.1), (14, .int .i64 (p0.length : Int)), (13, .slice a1 p0.length c1), (3, .pointer (some ⟨b12, 0, none⟩)), (2, .pointer (some ⟨b5, 0, none⟩))] ∧ w = s110.w) ?_ ?_
  ·rintro _ _ ⟨s110, m0, h91, h1, h11, h19, bx5, bx12, rfl, rfl⟩
   refine X.blkE (X.seqN (E.reg (L.fa fa63_2 Wt.no rfl rfl (L.ld (j := 2) bx12.mem nag61 Wt.no rfl rfl rfl rfl (L.mv Wt.no rfl rfl ?_)))))
   have m111 := Sig.fz_mv (N + 3) s110
   replace h91 := h91.fz (tgn hN)
   replace m0 := m0.trans (m111.one up)
   replace h19 := h19.mv m111 (tgN (by decide)) (tg0 hN)
   replace h1 := h1.mono (m111.le (tg0 hN))
   replace bx5 := bx5.mv m111 (tgN (by decide))
   replace bx12 := bx12.mv m111 (tgN (by decide))
   replace h11 := h11.mv m111 (tgN (by decide)) (tg0 hN)
   refine L.toR (s' := (Sig.fz (N + 3) s110)) rfl (L.bsE (k := 1) (cs := [.map y91]) 0 bs61 (Nat.le_of_ble_eq_true rfl) Wt.no rfl rfl rfl rfl fun b112 s113 m114 bx112 => ?_)
   replace m0 := m0.trans m114.no
   replace h19 := h19.mv m114 no_No no_No
   replace h1 := h1.mono (m114.le no_No)
   replace bx5 := bx5.mv m114 no_No
   replace bx12 := bx12.mv m114 no_No
   replace h11 := h11.mv m114 no_No no_No
   replace h91 := h91.mono (m114.le no_No)
   have h112 := Bx.rdL (r := (rM kvP (rK .i64))) (xs := ([o107] : List (List ((Int × Int) × Int)))) bx112 ⟨[.map y91], _, rfl, ⟨_, _, rfl, h91⟩, rfl⟩ (Nat.le_of_ble_eq_true rfl)
   obtain ⟨x115, ex115, hm⟩ := bindS hm
   refine L.ap (r := (rM kvP (rK .i64))) Tryd.underlying61 el81 rfl (tgp hN) h19 h112.wk Wt.no rfl rfl ex115 rfl fun a116 c116 s117 m118 h116 => ?_
   replace m0 := m0.trans (m118.one up)
   replace h1 := h1.mono (m118.le (tg0 hN))
   replace bx5 := bx5.mv m118 (tgN (by decide))
   replace bx12 := bx12.mv m118 (tgN (by decide))
   replace h11 := h11.mv m118 (tgN (by decide)) (tg0 hN)
   refine L.fa fa63_2 Wt.no rfl rfl (L.st (c := [.slice a116 x115.length c116]) (cs' := #[.slice a1 p0.length c1, .slice a11 r8.length c11, .slice a116 x115.length c116]) bx12 nag61.sz Wt.no rfl rfl rfl rfl rfl (Nat.le_of_ble_eq_true rfl) rfl fun s119 m120 bx12 => ?_)
   replace m0 := m0.trans (m120.one up)
   replace h1 := h1.mono (m120.le (tg0 hN))
   replace bx5 := bx5.mv m120 (tgN (by decide))
   replace h11 := h11.mv m120 (tgN (by decide)) (tg0 hN)
   replace h116 := h116.mv m120 (tgN (by decide)) (tg0 hN)
   exact L.nil (X.blkN (X.seqN (E.reg (L.bi Wt.no rfl rfl rfl rfl (L.mv Wt.no rfl rfl (L.nil (X.sub (ih73 _ (Option.some.inj hm).symm _ _ ⟨s119, a116, c116, m0, h1, h11, h116, bx5, bx12, rfl, rfl⟩) (Sub.rf rfl))))))))
  intro K121
  refine E.iter (fun (st107 : Int × (List ((Int × Int) × Int))) (e : List (Nat × Value)) (w : World) => ∃ (s109 : Sig), Mv (Up N No) s s109 ∧ RdL (rP (rK .i64) (rP (rK .i64) (rK .i64))) s109 a85 c85 x81.2.2.2 ∧ MapO kvP (rK .i64) s109 (N + 3) 0 y91 c91 st107.2 ∧ RdL (rP (rL (rK .i64)) (rP (rK .i64) (rP (rL (rK .i64)) (rL (rP (rK .i64) (rP (rK .i64) (rK .i64))))))) s109 a1 c1 p0 ∧ RowT (rK .i64) s109 (N + 6) 3 a11 c11 r8 ∧ RowT (rM kvP (rK .i64)) s109 (N + 5) 81 a19 c19 st73.2 ∧ Bx s109 (N + 0) b5 #[.slice none 0 0, .slice none 0 0, .slice none 0 0] 63 ∧ Bx s109 (N + 1) b12 #[.slice a1 p0.length c1, .slice a11 r8.length c11, .slice a19 st73.2.length c19] 63 ∧ e = [(23, .int .i64 st107.1), (22, .int .i64 (x81.2.2.2.length : Int)), (21, .slice a85 x81.2.2.2.length c85), (6, .map y91), (15, .int .i64 st73.1), (14, .int .i64 (p0.length : Int)), (13, .slice a1 p0.length c1), (3, .pointer (some ⟨b12, 0, none⟩)), (2, .pointer (some ⟨b5, 0, none⟩))] ∧ w = s109.w) eo107 ⟨s92, m0, h85, h91, h1, h11, h19, bx5, bx12, rfl, rfl⟩ (Sub.rf rfl) ?_
  rintro st107 res107 hm ih107 ho107 _ _ ⟨s109, m0, h85, h91, h1, h11, h19, bx5, bx12, rfl, rfl⟩
  unfold m_product_open_l2 at hm
  refine E.seq (E.reg (L.bi Wt.no rfl rfl rfl rfl (L.nil (X.seqN (E.seq ?_)))))
  rcases ifS hm with ⟨hc, hm⟩ | ⟨hc, hm⟩
  ·refine E.cT rfl hc (E.skip (X.seqN (E.seq (E.block (E.seq (E.reg ?_))))))
   obtain ⟨x122, ex122, hm⟩ := bindS hm
   refine L.ix (r := (rP (rK .i64) (rP (rK .i64) (rK .i64)))) sl32 h85 Wt.no rfl rfl ex122 rfl fun b123 o123 cc123 me123 rd123 => ?_
   obtain ⟨_, _, rfl, rfl, ⟨_, _, rfl, rfl, rfl⟩⟩ := rd123
   refine L.lg (j := 0) (cs := [.int .i64 x122.1, .int .i64 x122.2.1, .int .i64 x122.2.2]) me123 ag58 Wt.no rfl rfl rfl rfl rfl (L.al (N + 4) zz58 rfl Wt.no rfl fun b124 s125 m126 bx124 => ?_)
   replace m0 := m0.trans m126.no
   replace h91 := h91.mv m126 no_No no_No
   replace h1 := h1.mono (m126.le no_No)
   replace h85 := h85.mono (m126.le no_No)
   replace bx5 := bx5.mv m126 no_No
   replace bx12 := bx12.mv m126 no_No
   replace h11 := h11.mv m126 no_No no_No
   replace h19 := h19.mv m126 no_No no_No
   refine L.st (c := [.int .i64 x122.1, .int .i64 x122.2.1, .int .i64 x122.2.2]) (cs' := #[.int .i64 x122.1, .int .i64 x122.2.1, .int .i64 x122.2.2]) bx124 ag58.sz Wt.no rfl rfl rfl rfl rfl (Nat.le_of_ble_eq_true rfl) rfl fun s127 m128 bx124 => ?_
   replace m0 := m0.trans (m128.one up)
   replace h91 := h91.mv m128 (tgN (by decide)) (tg0 hN)
   replace h1 := h1.mono (m128.le (tg0 hN))
   replace h85 := h85.mono (m128.le (tg0 hN))
   replace bx5 := bx5.mv m128 (tgN (by decide))
   replace bx12 := bx12.mv m128 (tgN (by decide))
   replace h11 := h11.mv m128 (tgN (by decide)) (tg0 hN)
   replace h19 := h19.mv m128 (tgN (by decide)) (tg0 hN)
   refine L.nil (X.seqN (E.reg (L.mv Wt.no rfl rfl (L.fa fa58_0 Wt.no rfl rfl (L.ld (j := 0) bx124.mem nag3 Wt.no rfl rfl rfl rfl (L.fa fa58_1 Wt.no rfl rfl (L.ld (j := 1) bx124.mem nag3 Wt.no rfl rfl rfl rfl (L.bu (cs := [.int .i64 x122.1, .int .i64 x122.2.1]) pl82 Wt.no rfl rfl rfl (L.fa fa58_2 Wt.no rfl rfl (L.ld (j := 2) bx124.mem nag3 Wt.no rfl rfl rfl rfl (L.mu (k := (x122.1, x122.2.1)) (v := x122.2.2) md81 h91 rfl (tpos hN) (fun _ _ => eqP) Wt.no rfl rfl rfl fun s129 m130 h91 => ?_)))))))))))
   replace m0 := m0.trans (m130.one up)
   replace h1 := h1.mono (m130.le (tg0 hN))
   replace h85 := h85.mono (m130.le (tg0 hN))
   replace bx5 := bx5.mv m130 (tgN (by decide))
   replace bx12 := bx12.mv m130 (tgN (by decide))
   replace h11 := h11.mv m130 (tgN (by decide)) (tg0 hN)
   replace h19 := h19.mv m130 (tgN (by decide)) (tg0 hN)
   exact L.nil (X.blkN (X.seqN (E.reg (L.bi Wt.no rfl rfl rfl rfl (L.mv Wt.no rfl rfl (L.nil (X.sub (ih107 _ (Option.some.inj hm).symm _ _ ⟨s129, m0, h85, h91, h1, h11, h19, bx5, bx12, rfl, rfl⟩) (Sub.rf rfl))))))))
  refine E.cF rfl hc (E.exit (X.seqX (X.seqX ?_)))
  have hx := ho107 _ (Option.some.inj hm).symm
  subst hx
  exact X.sub (K121 _ _ ⟨s109, m0, h91, h1, h11, h19, bx5, bx12, rfl, rfl⟩) (Sub.rf rfl)
 refine E.cF rfl hc (E.exit (X.seqX (X.seqX ?_)))
 have hx := ho73 _ (Option.some.inj hm).symm
 subst hx
 exact X.sub (K80 _ _ ⟨s76, a19, c19, m0, h1, h11, h19, bx5, bx12, rfl, rfl⟩) (Sub.rf rfl)

theorem fa63_0 : FA Tryd.prog 63 0 0 := FA.mk Tryd.underlying63 rfl rfl ⟨1, by decide, by kernel_rfl⟩
theorem nag29 : NAg Tryd.prog 29 := NAg.mk' Tryd.underlying29 rfl (by kernel_rfl)
noncomputable def m_product_machine_initial_l1 (p0 : (List (List Int × Int × List Int × (List (Int × Int × Int)))) × List Int × (List (List ((Int × Int) × Int)))) (st20 : Int) : Option (Int ⊕ (Unit ⊕ Unit)) :=
  if decide (st20 < (p0.1.length : Int)) then
    (idx p0.1 st20).bind fun x32 =>
    if (x32.2.1 == 0) then
      some (.inr (.inr (())))
    else
      some (.inl (W (st20 + 1)))
  else
    some (.inr (.inl ()))
/-- What product.machine).initial computes. -/
noncomputable def m_product_machine_initial (p0 : (List (List Int × Int × List Int × (List (Int × Int × Int)))) × List Int × (List (List ((Int × Int) × Int)))) : Option (List Int × Bool) :=
  (iter (m_product_machine_initial_l1 p0) 0).bind fun o20 =>
  match o20 with
  | .inl u22 =>
    (mkL (p0.1.length : Int) (0 : Int)).bind fun x24 =>
    some (x24, true)
  | .inr (u29) =>
    some (([] : List Int), false)
set_option maxRecDepth 100000 in
set_option maxHeartbeats 8000000 in
theorem m_product_machine_initial_c {s : Sig} {p0 : (List (List Int × Int × List Int × (List (Int × Int × Int)))) × List Int × (List (List ((Int × Int) × Int)))} {a1 : Option Addr} {c1 : Nat} {a2 : Option Addr} {c2 : Nat} {a3 : Option Addr} {c3 : Nat} {u0 : Nat} {r : List Int × Bool} (h1 : RdL (rP (rL (rK .i64)) (rP (rK .i64) (rP (rL (rK .i64)) (rL (rP (rK .i64) (rP (rK .i64) (rK .i64))))))) s a1 c1 p0.1) (h2 : RdL (rK .i64) s a2 c2 p0.2.1) (h3 : RdL (rM kvP (rK .i64)) s a3 c3 p0.2.2) (hm : m_product_machine_initial p0 = some r) :
    Calls Tryd.prog 29 #[.agg #[.slice a1 p0.1.length c1, .slice a2 p0.2.1.length c2, .slice a3 p0.2.2.length c3]] s.w (RetS No s fun v s' => ∃ (a4 : Option Addr) (c4 : Nat), v = .tuple #[.slice a4 r.1.length c4, .bool r.2] ∧ RowT (rK .i64) s' u0 3 a4 c4 r.1) := by
 unfold m_product_machine_initial at hm
 obtain ⟨N, hN, hNb⟩ := s.fresh
 have m0 : Mv (Up N No) s s := Mv.refl _ _
 refine E.entry Tryd.func29 rfl Tryd.ntmps29 rfl rfl (E.seq (E.reg (L.box (N + 0) Wt.no rfl rfl rfl fun b5 s6 m7 bx5 => ?_)))
 replace m0 := m0.trans m7.no
 replace h1 := h1.mono (m7.le no_No)
 replace h2 := h2.mono (m7.le no_No)
 replace h3 := h3.mono (m7.le no_No)
 refine L.as Wt.no rfl rfl (L.as Wt.no rfl rfl (L.nil (X.seqN (E.seq (E.seq (E.reg (L.fa fa63_0 Wt.no rfl rfl (L.ld (j := 0) bx5.mem nag29 Wt.no rfl rfl rfl rfl (L.len sl29 Wt.no rfl rfl (L.mv Wt.no rfl rfl (L.nil (X.seqN (E.block ?_)))))))))))))
 obtain ⟨o20, eo20, hm⟩ := bindS hm
 refine E.cut (x := .exit 0) (fun e w => ∃ (s23 : Sig) (u22 : Unit), o20 = .inl u22 ∧ Mv (Up N No) s s23 ∧ RdL (rP (rL (rK .i64)) (rP (rK .i64) (rP (rL (rK .i64)) (rL (rP (rK .i64) (rP (rK .i64) (rK .i64))))))) s23 a1 c1 p0.1 ∧ RdL (rK .i64) s23 a2 c2 p0.2.1 ∧ RdL (rM kvP (rK .i64)) s23 a3 c3 p0.2.2 ∧ Bx s23 (N + 0) b5 #[.slice a1 p0.1.length c1, .slice a2 p0.2.1.length c2, .slice a3 p0.2.2.length c3] 63 ∧ e = [(1, .pointer (some ⟨b5, 0, none⟩))] ∧ w = s23.w) ?_ ?_
 ·rintro _ _ ⟨s23, u22, rfl, m0, h1, h2, h3, bx5, rfl, rfl⟩
  dsimp only at hm
  refine X.blkE (X.seqN (E.seq (E.reg (L.fa fa63_0 Wt.no rfl rfl (L.ld (j := 0) bx5.mem nag29 Wt.no rfl rfl rfl rfl (L.len sl29 Wt.no rfl rfl ?_))))))
  obtain ⟨x24, ex24, hm⟩ := bindS hm
  refine L.mk (z := (0 : Int)) (N + 2) Tryd.underlying31 zr3 rfl Wt.no rfl rfl ex24 rfl fun b25 s26 m27 h25 => ?_
  replace m0 := m0.trans m27.no
  refine L.as Wt.no rfl rfl (L.as Wt.no rfl rfl (L.nil (X.seqN (E.ret ?_))))
  obtain rfl := Option.some.inj hm
  exact X.rt (.inl rfl) Tryd.results29 (Rs.tmp rfl (Rs.tmp rfl Rs.nil)) rfl ⟨_, (s26).ren N (fun k => cond (Nat.beq k 2) u0 (0)), rfl, rfl, m0.ren hNb, ⟨(some ⟨b25, 0, none⟩), x24.length, rfl, (h25.ren hN)⟩⟩
 intro K28
 refine E.cut (x := .ret) (fun e w => ∃ (s30 : Sig) (u29 : Unit), o20 = .inr (u29) ∧ Mv (Up N No) s s30 ∧ e = [(3, .bool false), (2, .slice none 0 0)] ∧ w = s30.w) ?_ ?_
 ·rintro _ _ ⟨s30, u29, rfl, m0, rfl, rfl⟩
  dsimp only at hm
  refine X.blkR (X.seqR ?_)
  obtain rfl := Option.some.inj hm
  exact X.rt (.inl rfl) Tryd.results29 (Rs.tmp rfl (Rs.tmp rfl Rs.nil)) rfl ⟨_, (s30).ren N (fun _ => 0), rfl, rfl, m0.ren hNb, ⟨none, 0, rfl, RowT.nil⟩⟩
 intro K31
 refine E.iter (fun (st20 : Int) (e : List (Nat × Value)) (w : World) => ∃ (s21 : Sig), Mv (Up N No) s s21 ∧ RdL (rP (rL (rK .i64)) (rP (rK .i64) (rP (rL (rK .i64)) (rL (rP (rK .i64) (rP (rK .i64) (rK .i64))))))) s21 a1 c1 p0.1 ∧ RdL (rK .i64) s21 a2 c2 p0.2.1 ∧ RdL (rM kvP (rK .i64)) s21 a3 c3 p0.2.2 ∧ Bx s21 (N + 0) b5 #[.slice a1 p0.1.length c1, .slice a2 p0.2.1.length c2, .slice a3 p0.2.2.length c3] 63 ∧ e = [(9, .int .i64 st20), (8, .int .i64 (p0.1.length : Int)), (7, .slice a1 p0.1.length c1), (1, .pointer (some ⟨b5, 0, none⟩))] ∧ w = s21.w) eo20 ⟨s6, m0, h1, h2, h3, bx5, rfl, rfl⟩ (Sub.rf rfl) ?_
 rintro st20 res20 hm ih20 ho20 _ _ ⟨s21, m0, h1, h2, h3, bx5, rfl, rfl⟩
 unfold m_product_machine_initial_l1 at hm
 refine E.seq (E.reg (L.bi Wt.no rfl rfl rfl rfl (L.nil (X.seqN (E.seq ?_)))))
 rcases ifS hm with ⟨hc, hm⟩ | ⟨hc, hm⟩
 ·refine E.cT rfl hc (E.skip (X.seqN (E.seq (E.block (E.seq (E.reg ?_))))))
  obtain ⟨x32, ex32, hm⟩ := bindS hm
  refine L.ix (r := (rP (rL (rK .i64)) (rP (rK .i64) (rP (rL (rK .i64)) (rL (rP (rK .i64) (rP (rK .i64) (rK .i64)))))))) sl29 h1 Wt.no rfl rfl ex32 rfl fun b33 o33 cc33 me33 rd33 => ?_
  obtain ⟨_, _, rfl, ⟨a34, c34, rfl, h34⟩, ⟨_, _, rfl, rfl, ⟨_, _, rfl, ⟨a35, c35, rfl, h35⟩, ⟨a36, c36, rfl, h36⟩⟩⟩⟩ := rd33
  refine L.lg (j := 0) (cs := [.slice a34 x32.1.length c34, .int .i64 x32.2.1, .slice a35 x32.2.2.1.length c35, .slice a36 x32.2.2.2.length c36]) me33 ag34 Wt.no rfl rfl rfl rfl rfl (L.al (N + 1) zz34 rfl Wt.no rfl fun b37 s38 m39 bx37 => ?_)
  replace m0 := m0.trans m39.no
  replace h1 := h1.mono (m39.le no_No)
  replace bx5 := bx5.mv m39 no_No
  replace h2 := h2.mono (m39.le no_No)
  replace h3 := h3.mono (m39.le no_No)
  refine L.st (c := [.slice a34 x32.1.length c34, .int .i64 x32.2.1, .slice a35 x32.2.2.1.length c35, .slice a36 x32.2.2.2.length c36]) (cs' := #[.slice a34 x32.1.length c34, .int .i64 x32.2.1, .slice a35 x32.2.2.1.length c35, .slice a36 x32.2.2.2.length c36]) bx37 ag34.sz Wt.no rfl rfl rfl rfl rfl (Nat.le_of_ble_eq_true rfl) rfl fun s40 m41 bx37 => ?_
  replace m0 := m0.trans (m41.one up)
  replace h1 := h1.mono (m41.le (tg0 hN))
  replace bx5 := bx5.mv m41 (tgN (by decide))
  replace h2 := h2.mono (m41.le (tg0 hN))
  replace h3 := h3.mono (m41.le (tg0 hN))
  refine L.nil (X.seqN (E.seq (E.reg (L.fa fa34_1 Wt.no rfl rfl (L.ld (j := 1) bx37.mem nag3 Wt.no rfl rfl rfl rfl (L.bi Wt.no rfl rfl rfl rfl (L.nil (X.seqN ?_))))))))
  rcases ifS hm with ⟨hc, hm⟩ | ⟨hc, hm⟩
  ·refine E.cT rfl hc (E.seq (E.reg (L.as Wt.no rfl rfl (L.as Wt.no rfl rfl (L.nil (X.seqN (E.ret (X.blkR (X.seqR (X.seqR ?_))))))))))
   have hx := ho20 _ (Option.some.inj hm).symm
   exact X.sub (K31 _ _ ⟨s40, (), hx.symm, m0, rfl, rfl⟩) (Sub.rf rfl)
  exact E.cF rfl hc (E.skip (X.blkN (X.seqN (E.reg (L.bi Wt.no rfl rfl rfl rfl (L.mv Wt.no rfl rfl (L.nil (X.sub (ih20 _ (Option.some.inj hm).symm _ _ ⟨s40, m0, h1, h2, h3, bx5, rfl, rfl⟩) (Sub.rf rfl)))))))))
 refine E.cF rfl hc (E.exit (X.seqX (X.seqX ?_)))
 have hx := ho20 _ (Option.some.inj hm).symm
 exact X.sub (K28 _ _ ⟨s21, (), hx.symm, m0, h1, h2, h3, bx5, rfl, rfl⟩) (Sub.rf rfl)

/-- What cmp.isNaN<int> computes. -/
noncomputable def m_cmp_isNaN_int (p0 : Int) : Option Bool :=
  some (p0 != p0)
set_option maxRecDepth 100000 in
set_option maxHeartbeats 8000000 in
theorem m_cmp_isNaN_int_c {s : Sig} {p0 : Int} {r : Bool} (hm : m_cmp_isNaN_int p0 = some r) :
    Calls Tryd.prog 99 #[.int .i64 p0] s.w (RetS No s fun v s' => v = .bool r) := by
 unfold m_cmp_isNaN_int at hm
 obtain ⟨N, hN, hNb⟩ := s.fresh
 have m0 : Mv (Up N No) s s := Mv.refl _ _
 refine E.entry Tryd.func99 rfl Tryd.ntmps99 rfl rfl (E.seq (E.reg (L.as Wt.no rfl rfl (L.nil (X.seqN (E.seq (E.reg (L.mv Wt.no rfl rfl (L.mv Wt.no rfl rfl (L.bi Wt.no rfl rfl rfl rfl (L.as Wt.no rfl rfl (L.nil (X.seqN (E.ret ?_))))))))))))))
 obtain rfl := Option.some.inj hm
 exact X.rt (.inl rfl) Tryd.results99 (Rs.tmp rfl Rs.nil) rfl ⟨_, (s).ren N (fun _ => 0), rfl, rfl, m0.ren hNb, rfl⟩

end Go.Proofs.YtfbapajcheammaaDoor

namespace Go.Proofs.YtfbapajcheammaaDoor
open Go Go.RowKit
theorem cf99 : Cf Tryd.prog 99 := Cf.mk Tryd.func99 (by kernel_rfl) (by kernel_rfl)
/-- What cmp.Less<int> computes. -/
noncomputable def m_cmp_Less_int (p0 : Int) (p1 : Int) : Option Bool :=
  (m_cmp_isNaN_int p0).bind fun r1 =>
  (if r1 then
    (m_cmp_isNaN_int p1).bind fun r10 =>
    some (!r10)
  else
    some false).bind fun b4 =>
  some (b4 || (decide (p0 < p1)))
set_option maxRecDepth 100000 in
set_option maxHeartbeats 8000000 in
theorem m_cmp_Less_int_c {s : Sig} {p0 : Int} {p1 : Int} {r : Bool} (hm : m_cmp_Less_int p0 p1 = some r) :
    Calls Tryd.prog 91 #[.int .i64 p0, .int .i64 p1] s.w (RetS No s fun v s' => v = .bool r) := by
 unfold m_cmp_Less_int at hm
 obtain ⟨N, hN, hNb⟩ := s.fresh
 have m0 : Mv (Up N No) s s := Mv.refl _ _
 refine E.entry Tryd.func91 rfl Tryd.ntmps91 rfl rfl (E.seq (E.reg (L.as Wt.no rfl rfl (L.nil (X.seqN (E.seq (E.reg (L.mv Wt.no rfl rfl ?_))))))))
 obtain ⟨r1, er1, hm⟩ := bindS hm
 refine L.ca cf99 rfl rfl Wt.no rfl (m_cmp_isNaN_int_c (s := s) (p0 := p0) er1) rfl ?_
 rintro _ s2 m3 rfl
 replace m0 := m0.trans m3.no
 refine L.mv Wt.no rfl rfl ?_
 obtain ⟨b4, eb4, hm⟩ := bindS hm
 refine L.cut 4 (fun e w => ∃ (s6 : Sig) (v5 : Bool), b4 = v5 ∧ Mv (Up N No) s s6 ∧ e = (11, .bool v5) :: [(0, .int .i64 p0), (1, .int .i64 p1)] ∧ w = s6.w) ?_ ?_
 ·rintro _ _ ⟨s6, v5, rfl, m0, rfl, rfl⟩
  refine L.mv Wt.no rfl rfl (L.cut 4 (fun e w => ∃ (v7 : Bool), (b4 || (decide (p0 < p1))) = v7 ∧ e = (16, .bool v7) :: [] ∧ w = s6.w) ?_ ?_)
  ·rintro _ _ ⟨v7, rfl, rfl, rfl⟩
   refine L.as Wt.no rfl rfl (L.nil (X.seqN (E.ret ?_)))
   obtain rfl := Option.some.inj hm
   exact X.rt (.inl rfl) Tryd.results91 (Rs.tmp rfl Rs.nil) rfl ⟨_, (s6).ren N (fun _ => 0), rfl, rfl, m0.ren hNb, rfl⟩
  intro J8
  rcases Bool.eq_false_or_eq_true b4 with hc | hc
  ·exact L.know (d := 12) rfl hc (L.skip rfl rfl rfl rfl (L.skip rfl rfl rfl rfl (L.skip rfl rfl rfl rfl (L.pkT Wt.no rfl rfl rfl rfl (L.sb (J8 _ _ ⟨true, (orT hc).symm, rfl, rfl⟩) rfl)))))
  exact L.know (d := 12) rfl hc (L.mv (Wt.mk rfl rfl) rfl rfl (L.mv (Wt.mk rfl rfl) rfl rfl (L.bi (Wt.mk rfl rfl) rfl rfl rfl rfl (L.pkF Wt.no rfl rfl rfl rfl (L.sb (J8 _ _ ⟨(decide (p0 < p1)), (orF hc).symm, rfl, rfl⟩) rfl)))))
 intro J9
 rcases ifS eb4 with ⟨hc, hm⟩ | ⟨hc, hm⟩
 ·refine L.know (d := 7) rfl hc (L.mv (Wt.mk rfl rfl) rfl rfl ?_)
  obtain ⟨r10, er10, hm⟩ := bindS hm
  refine L.ca cf99 rfl rfl (Wt.mk rfl rfl) rfl (m_cmp_isNaN_int_c (s := s2) (p0 := p1) er10) rfl ?_
  rintro _ s11 m12 rfl
  replace m0 := m0.trans m12.no
  exact L.not (Wt.mk rfl rfl) rfl rfl (L.pkT Wt.no rfl rfl rfl rfl (L.sb (J9 _ _ ⟨s11, (!r10), (Option.some.inj hm).symm, m0, rfl, rfl⟩) rfl))
 exact L.know (d := 7) rfl hc (L.skip rfl rfl rfl rfl (L.skip rfl rfl rfl rfl (L.skip rfl rfl rfl rfl (L.pkF Wt.no rfl rfl rfl rfl (L.sb (J9 _ _ ⟨s2, false, (Option.some.inj hm).symm, m0, rfl, rfl⟩) rfl)))))

/-- What slices.isNaN<int> computes. -/
noncomputable def m_slices_isNaN_int (p0 : Int) : Option Bool :=
  some (p0 != p0)
set_option maxRecDepth 100000 in
set_option maxHeartbeats 8000000 in
theorem m_slices_isNaN_int_c {s : Sig} {p0 : Int} {r : Bool} (hm : m_slices_isNaN_int p0 = some r) :
    Calls Tryd.prog 92 #[.int .i64 p0] s.w (RetS No s fun v s' => v = .bool r) := by
 unfold m_slices_isNaN_int at hm
 obtain ⟨N, hN, hNb⟩ := s.fresh
 have m0 : Mv (Up N No) s s := Mv.refl _ _
 refine E.entry Tryd.func92 rfl Tryd.ntmps92 rfl rfl (E.seq (E.reg (L.as Wt.no rfl rfl (L.nil (X.seqN (E.seq (E.reg (L.mv Wt.no rfl rfl (L.mv Wt.no rfl rfl (L.bi Wt.no rfl rfl rfl rfl (L.as Wt.no rfl rfl (L.nil (X.seqN (E.ret ?_))))))))))))))
 obtain rfl := Option.some.inj hm
 exact X.rt (.inl rfl) Tryd.results92 (Rs.tmp rfl Rs.nil) rfl ⟨_, (s).ren N (fun _ => 0), rfl, rfl, m0.ren hNb, rfl⟩

theorem cf91 : Cf Tryd.prog 91 := Cf.mk Tryd.func91 (by kernel_rfl) (by kernel_rfl)
theorem cf92 : Cf Tryd.prog 92 := Cf.mk Tryd.func92 (by kernel_rfl) (by kernel_rfl)
noncomputable def m_slices_BinarySearch_int_l1 (p0 : List Int) (p1 : Int) (st11 : Int × Int) : Option ((Int × Int) ⊕ Int) :=
  if decide (st11.2 < st11.1) then
    (idx p0 (W ((IntKind.u64.wrap (W (st11.2 + st11.1))).fdiv (2 ^ (min (1 : Int).toNat 64))))).bind fun x38 =>
    (m_cmp_Less_int x38 p1).bind fun r40 =>
    if r40 then
      some (.inl (st11.1, W ((W ((IntKind.u64.wrap (W (st11.2 + st11.1))).fdiv (2 ^ (min (1 : Int).toNat 64)))) + 1)))
    else
      some (.inl (W ((IntKind.u64.wrap (W (st11.2 + st11.1))).fdiv (2 ^ (min (1 : Int).toNat 64))), st11.2))
  else
    some (.inr st11.2)
/-- What slices.BinarySearch<<>int,int> computes. -/
noncomputable def m_slices_BinarySearch_int (p0 : List Int) (p1 : Int) : Option (Int × Bool) :=
  (iter (m_slices_BinarySearch_int_l1 p0 p1) ((p0.length : Int), 0)).bind fun o11 =>
  (if decide (o11 < (p0.length : Int)) then
    (idx p0 o11).bind fun x19 =>
    (if (x19 == p1) then
      some true
    else
      (idx p0 o11).bind fun x25 =>
      (m_slices_isNaN_int x25).bind fun r27 =>
      (if r27 then
        (m_slices_isNaN_int p1).bind fun r34 =>
        some r34
      else
        some false).bind fun b30 =>
      some b30).bind fun b21 =>
    some b21
  else
    some false).bind fun b15 =>
  some (o11, b15)
set_option maxRecDepth 100000 in
set_option maxHeartbeats 8000000 in
theorem m_slices_BinarySearch_int_c {s : Sig} {p0 : List Int} {p1 : Int} {a1 : Option Addr} {c1 : Nat} {r : Int × Bool} (h1 : RdL (rK .i64) s a1 c1 p0) (hm : m_slices_BinarySearch_int p0 p1 = some r) :
    Calls Tryd.prog 79 #[.slice a1 p0.length c1, .int .i64 p1] s.w (RetS No s fun v s' => v = .tuple #[.int .i64 r.1, .bool r.2]) := by
 unfold m_slices_BinarySearch_int at hm
 obtain ⟨N, hN, hNb⟩ := s.fresh
 have m0 : Mv (Up N No) s s := Mv.refl _ _
 refine E.entry Tryd.func79 rfl Tryd.ntmps79 rfl rfl (E.seq (E.reg (L.as Wt.no rfl rfl (L.as Wt.no rfl rfl (L.nil (X.seqN (E.seq (E.reg (L.mv Wt.no rfl rfl (L.len sl31 Wt.no rfl rfl (L.as Wt.no rfl rfl (L.nil (X.seqN (E.seq (E.reg (L.mv Wt.no rfl rfl (L.as Wt.no rfl rfl (L.as Wt.no rfl rfl (L.nil (X.seqN (E.seq (E.block ?_))))))))))))))))))))))
 obtain ⟨o11, eo11, hm⟩ := bindS hm
 refine E.cut (x := .exit 0) (fun e w => ∃ (s14 : Sig), Mv (Up N No) s s14 ∧ RdL (rK .i64) s14 a1 c1 p0 ∧ e = [(7, .int .i64 o11), (6, .int .i64 (p0.length : Int)), (0, .slice a1 p0.length c1), (1, .int .i64 p1)] ∧ w = s14.w) ?_ ?_
 ·rintro _ _ ⟨s14, m0, h1, rfl, rfl⟩
  refine X.blkE (X.seqN (E.seq (E.reg (L.mv Wt.no rfl rfl (L.mv Wt.no rfl rfl (L.mv Wt.no rfl rfl (L.bi Wt.no rfl rfl rfl rfl (L.mv Wt.no rfl rfl ?_))))))))
  obtain ⟨b15, eb15, hm⟩ := bindS hm
  refine L.cut 18 (fun e w => ∃ (s17 : Sig) (v16 : Bool), b15 = v16 ∧ Mv (Up N No) s s17 ∧ e = (53, .bool v16) :: [(31, .int .i64 o11)] ∧ w = s17.w) ?_ ?_
  ·rintro _ _ ⟨s17, v16, rfl, m0, rfl, rfl⟩
   refine L.as Wt.no rfl rfl (L.as Wt.no rfl rfl (L.nil (X.seqN (E.ret ?_))))
   obtain rfl := Option.some.inj hm
   exact X.rt (.inl rfl) Tryd.results79 (Rs.tmp rfl (Rs.tmp rfl Rs.nil)) rfl ⟨_, (s17).ren N (fun _ => 0), rfl, rfl, m0.ren hNb, rfl⟩
  intro J18
  rcases ifS eb15 with ⟨hc, hm⟩ | ⟨hc, hm⟩
  ·refine L.know (d := 35) rfl hc (L.mv (Wt.mk rfl rfl) rfl rfl (L.mv (Wt.mk rfl rfl) rfl rfl ?_))
   obtain ⟨x19, ex19, hm⟩ := bindS hm
   refine L.ix (r := (rK .i64)) sl31 h1 (Wt.mk rfl rfl) rfl rfl ex19 rfl fun b20 o20 cc20 me20 rd20 => ?_
   obtain rfl := rd20
   refine L.ld (j := 0) me20 nag3 (Wt.mk rfl rfl) rfl rfl rfl rfl (L.mv (Wt.mk rfl rfl) rfl rfl (L.bi (Wt.mk rfl rfl) rfl rfl rfl rfl (L.mv (Wt.mk rfl rfl) rfl rfl ?_)))
   obtain ⟨b21, eb21, hm⟩ := bindS hm
   refine L.cut 10 (fun e w => ∃ (s23 : Sig) (v22 : Bool), b21 = v22 ∧ Mv (Up N No) s s23 ∧ e = (52, .bool v22) :: [(35, .bool true), (31, .int .i64 o11)] ∧ w = s23.w) ?_ ?_
   ·rintro _ _ ⟨s23, v22, rfl, m0, rfl, rfl⟩
    exact L.pkT Wt.no rfl rfl rfl rfl (L.sb (J18 _ _ ⟨s23, b21, (Option.some.inj hm).symm, m0, rfl, rfl⟩) rfl)
   intro J24
   rcases ifS eb21 with ⟨hc, hm⟩ | ⟨hc, hm⟩
   ·exact L.know (d := 42) rfl hc (L.skip rfl rfl rfl rfl (L.skip rfl rfl rfl rfl (L.skip rfl rfl rfl rfl (L.skip rfl rfl rfl rfl (L.skip rfl rfl rfl rfl (L.skip rfl rfl rfl rfl (L.skipU rfl rfl rfl (L.skipU rfl rfl rfl (L.skip rfl rfl rfl rfl (L.pkT (Wt.mk rfl rfl) rfl rfl rfl rfl (L.sb (J24 _ _ ⟨s14, true, (Option.some.inj hm).symm, m0, rfl, rfl⟩) rfl)))))))))))
   refine L.know (d := 42) rfl hc (L.mv (Wt.mk rfl rfl) rfl rfl (L.mv (Wt.mk rfl rfl) rfl rfl ?_))
   obtain ⟨x25, ex25, hm⟩ := bindS hm
   refine L.ix (r := (rK .i64)) sl31 h1 (Wt.mk rfl rfl) rfl rfl ex25 rfl fun b26 o26 cc26 me26 rd26 => ?_
   obtain rfl := rd26
   refine L.ld (j := 0) me26 nag3 (Wt.mk rfl rfl) rfl rfl rfl rfl ?_
   obtain ⟨r27, er27, hm⟩ := bindS hm
   refine L.ca cf92 rfl rfl (Wt.mk rfl rfl) rfl (m_slices_isNaN_int_c (s := s14) (p0 := x25) er27) rfl ?_
   rintro _ s28 m29 rfl
   replace m0 := m0.trans m29.no
   refine L.mv (Wt.mk rfl rfl) rfl rfl ?_
   obtain ⟨b30, eb30, hm⟩ := bindS hm
   refine L.cut 3 (fun e w => ∃ (s32 : Sig) (v31 : Bool), b30 = v31 ∧ Mv (Up N No) s s32 ∧ e = (51, .bool v31) :: [(42, .bool false), (35, .bool true), (31, .int .i64 o11)] ∧ w = s32.w) ?_ ?_
   ·rintro _ _ ⟨s32, v31, rfl, m0, rfl, rfl⟩
    exact L.pkF (Wt.mk rfl rfl) rfl rfl rfl rfl (L.sb (J24 _ _ ⟨s32, b30, (Option.some.inj hm).symm, m0, rfl, rfl⟩) rfl)
   intro J33
   rcases ifS eb30 with ⟨hc, hm⟩ | ⟨hc, hm⟩
   ·refine L.know (d := 48) rfl hc (L.mv (Wt.mk rfl rfl) rfl rfl ?_)
    obtain ⟨r34, er34, hm⟩ := bindS hm
    refine L.ca cf92 rfl rfl (Wt.mk rfl rfl) rfl (m_slices_isNaN_int_c (s := s28) (p0 := p1) er34) rfl ?_
    rintro _ s35 m36 rfl
    replace m0 := m0.trans m36.no
    exact L.pkT (Wt.mk rfl rfl) rfl rfl rfl rfl (L.sb (J33 _ _ ⟨s35, r34, (Option.some.inj hm).symm, m0, rfl, rfl⟩) rfl)
   exact L.know (d := 48) rfl hc (L.skip rfl rfl rfl rfl (L.skip rfl rfl rfl rfl (L.pkF (Wt.mk rfl rfl) rfl rfl rfl rfl (L.sb (J33 _ _ ⟨s28, false, (Option.some.inj hm).symm, m0, rfl, rfl⟩) rfl))))
  exact L.know (d := 35) rfl hc (L.skip rfl rfl rfl rfl (L.skip rfl rfl rfl rfl (L.skip rfl rfl rfl rfl (L.skip rfl rfl rfl rfl (L.skip rfl rfl rfl rfl (L.skip rfl rfl rfl rfl (L.skip rfl rfl rfl rfl (L.skipU rfl rfl rfl (L.skipU rfl rfl rfl (L.skipU rfl rfl rfl (L.skipU rfl rfl rfl (L.skipU rfl rfl rfl (L.skipU rfl rfl rfl (L.skipU rfl rfl rfl (L.skipU rfl rfl rfl (L.skipU rfl rfl rfl (L.skip rfl rfl rfl rfl (L.pkF Wt.no rfl rfl rfl rfl (L.sb (J18 _ _ ⟨s14, false, (Option.some.inj hm).symm, m0, rfl, rfl⟩) rfl)))))))))))))))))))
 intro K37
 refine E.iter (fun (st11 : Int × Int) (e : List (Nat × Value)) (w : World) => ∃ (s13 : Sig), Mv (Up N No) s s13 ∧ RdL (rK .i64) s13 a1 c1 p0 ∧ e = [(8, .int .i64 st11.1), (7, .int .i64 st11.2), (6, .int .i64 (p0.length : Int)), (0, .slice a1 p0.length c1), (1, .int .i64 p1)] ∧ w = s13.w) eo11 ⟨s, m0, h1, rfl, rfl⟩ (Sub.rf rfl) ?_
 rintro st11 res11 hm ih11 ho11 _ _ ⟨s13, m0, h1, rfl, rfl⟩
 unfold m_slices_BinarySearch_int_l1 at hm
 refine E.seq (E.seq (E.reg (L.mv Wt.no rfl rfl (L.mv Wt.no rfl rfl (L.bi Wt.no rfl rfl rfl rfl (L.nil (X.seqN ?_)))))))
 rcases ifS hm with ⟨hc, hm⟩ | ⟨hc, hm⟩
 ·refine E.cT rfl hc (E.skip (X.seqN (E.block (E.seq (E.reg (L.mv Wt.no rfl rfl (L.mv Wt.no rfl rfl (L.bi Wt.no rfl rfl rfl rfl (L.cv Tryd.underlying3 Tryd.underlying132 Wt.no rfl rfl (L.shr Wt.no rfl rfl (by decide) rfl (L.cv Tryd.underlying132 Tryd.underlying3 Wt.no rfl rfl (L.as Wt.no rfl rfl (L.nil (X.seqN (E.seq (E.reg (L.mv Wt.no rfl rfl (L.mv Wt.no rfl rfl ?_))))))))))))))))))
  obtain ⟨x38, ex38, hm⟩ := bindS hm
  refine L.ix (r := (rK .i64)) sl31 h1 Wt.no rfl rfl ex38 rfl fun b39 o39 cc39 me39 rd39 => ?_
  obtain rfl := rd39
  refine L.ld (j := 0) me39 nag3 Wt.no rfl rfl rfl rfl (L.mv Wt.no rfl rfl ?_)
  obtain ⟨r40, er40, hm⟩ := bindS hm
  refine L.ca cf91 rfl rfl Wt.no rfl (m_cmp_Less_int_c (s := s13) (p0 := x38) (p1 := p1) er40) rfl ?_
  rintro _ s41 m42 rfl
  replace m0 := m0.trans m42.no
  replace h1 := h1.mono (m42.le no_No)
  refine L.nil (X.seqN ?_)
  rcases ifS hm with ⟨hc, hm⟩ | ⟨hc, hm⟩
  ·exact E.cT rfl hc (E.reg (L.mv Wt.no rfl rfl (L.bi Wt.no rfl rfl rfl rfl (L.as Wt.no rfl rfl (L.nil (X.blkN (X.sub (ih11 _ (Option.some.inj hm).symm _ _ ⟨s41, m0, h1, rfl, rfl⟩) (Sub.rf rfl))))))))
  exact E.cF rfl hc (E.reg (L.mv Wt.no rfl rfl (L.as Wt.no rfl rfl (L.nil (X.blkN (X.sub (ih11 _ (Option.some.inj hm).symm _ _ ⟨s41, m0, h1, rfl, rfl⟩) (Sub.rf rfl)))))))
 refine E.cF rfl hc (E.exit (X.seqX (X.seqX ?_)))
 have hx := ho11 _ (Option.some.inj hm).symm
 subst hx
 exact X.sub (K37 _ _ ⟨s13, m0, h1, rfl, rfl⟩) (Sub.rf rfl)

theorem cf79 : Cf Tryd.prog 79 := Cf.mk Tryd.func79 (by kernel_rfl) (by kernel_rfl)
/-- What alphabet.Contains computes. -/
noncomputable def m_alphabet_Contains (p0 : List Int) (p1 : Int) : Option Bool :=
  (m_slices_BinarySearch_int p0 p1).bind fun r2 =>
  some r2.2
set_option maxRecDepth 100000 in
set_option maxHeartbeats 8000000 in
theorem m_alphabet_Contains_c {s : Sig} {p0 : List Int} {p1 : Int} {a1 : Option Addr} {c1 : Nat} {r : Bool} (h1 : RdL (rK .i64) s a1 c1 p0) (hm : m_alphabet_Contains p0 p1 = some r) :
    Calls Tryd.prog 49 #[.slice a1 p0.length c1, .int .i64 p1] s.w (RetS No s fun v s' => v = .bool r) := by
 unfold m_alphabet_Contains at hm
 obtain ⟨N, hN, hNb⟩ := s.fresh
 have m0 : Mv (Up N No) s s := Mv.refl _ _
 refine E.entry Tryd.func49 rfl Tryd.ntmps49 rfl rfl (E.seq (E.reg (L.as Wt.no rfl rfl (L.nil (X.seqN (E.seq (E.reg (L.mv Wt.no rfl rfl (L.mv Wt.no rfl rfl ?_)))))))))
 obtain ⟨r2, er2, hm⟩ := bindS hm
 refine L.ca cf79 rfl rfl Wt.no rfl (m_slices_BinarySearch_int_c (s := s) (p0 := p0) (p1 := p1) h1 er2) rfl ?_
 rintro _ s3 m4 rfl
 replace m0 := m0.trans m4.no
 refine L.mv Wt.no rfl rfl (L.ex Wt.no rfl rfl rfl (L.ex Wt.no rfl rfl rfl (L.as Wt.no rfl rfl (L.as Wt.no rfl rfl (L.nil (X.seqN (E.seq (E.reg (L.mv Wt.no rfl rfl (L.as Wt.no rfl rfl (L.nil (X.seqN (E.ret ?_)))))))))))))
 obtain rfl := Option.some.inj hm
 exact X.rt (.inl rfl) Tryd.results49 (Rs.tmp rfl Rs.nil) rfl ⟨_, (s3).ren N (fun _ => 0), rfl, rfl, m0.ren hNb, rfl⟩

theorem cf49 : Cf Tryd.prog 49 := Cf.mk Tryd.func49 (by kernel_rfl) (by kernel_rfl)
noncomputable def m_product_machine_marked_l1 (p0 : (List (List Int × Int × List Int × (List (Int × Int × Int)))) × List Int × (List (List ((Int × Int) × Int)))) (p1 : List Int) (st34 : Int) : Option (Int ⊕ (Unit ⊕ Unit)) :=
  if decide (st34 < (p0.1.length : Int)) then
    (idx p0.1 st34).bind fun x42 =>
    (idx p1 st34).bind fun x57 =>
    (m_alphabet_Contains x42.2.2.1 x57).bind fun r61 =>
    if (!r61) then
      some (.inr (.inr (())))
    else
      some (.inl (W (st34 + 1)))
  else
    some (.inr (.inl ()))
/-- What product.machine).marked computes. -/
noncomputable def m_product_machine_marked (p0 : (List (List Int × Int × List Int × (List (Int × Int × Int)))) × List Int × (List (List ((Int × Int) × Int)))) (p1 : List Int) : Option Bool :=
  (iter (m_product_machine_marked_l1 p0 p1) 0).bind fun o34 =>
  match o34 with
  | .inl u36 =>
    some true
  | .inr (u39) =>
    some false
set_option maxRecDepth 100000 in
set_option maxHeartbeats 8000000 in
theorem m_product_machine_marked_c {s : Sig} {p0 : (List (List Int × Int × List Int × (List (Int × Int × Int)))) × List Int × (List (List ((Int × Int) × Int)))} {p1 : List Int} {a1 : Option Addr} {c1 : Nat} {a2 : Option Addr} {c2 : Nat} {a3 : Option Addr} {c3 : Nat} {a4 : Option Addr} {c4 : Nat} {r : Bool} (h1 : RdL (rP (rL (rK .i64)) (rP (rK .i64) (rP (rL (rK .i64)) (rL (rP (rK .i64) (rP (rK .i64) (rK .i64))))))) s a1 c1 p0.1) (h2 : RdL (rK .i64) s a2 c2 p0.2.1) (h3 : RdL (rM kvP (rK .i64)) s a3 c3 p0.2.2) (h4 : RdL (rK .i64) s a4 c4 p1) (hm : m_product_machine_marked p0 p1 = some r) :
    Calls Tryd.prog 31 #[.agg #[.slice a1 p0.1.length c1, .slice a2 p0.2.1.length c2, .slice a3 p0.2.2.length c3], .slice a4 p1.length c4] s.w (RetS No s fun v s' => v = .bool r) := by
 unfold m_product_machine_marked at hm
 obtain ⟨N, hN, hNb⟩ := s.fresh
 have m0 : Mv (Up N No) s s := Mv.refl _ _
 refine E.entry Tryd.func31 rfl Tryd.ntmps31 rfl rfl (E.seq (E.reg (L.box (N + 0) Wt.no rfl rfl rfl fun b5 s6 m7 bx5 => ?_)))
 replace m0 := m0.trans m7.no
 replace h4 := h4.mono (m7.le no_No)
 replace h1 := h1.mono (m7.le no_No)
 refine L.as Wt.no rfl rfl (L.nil (X.seqN (E.seq (E.seq (E.reg (L.fa fa63_0 Wt.no rfl rfl (L.ld (j := 0) bx5.mem nag29 Wt.no rfl rfl rfl rfl (L.len sl29 Wt.no rfl rfl (L.mv Wt.no rfl rfl (L.nil (X.seqN (E.block ?_))))))))))))
 obtain ⟨o34, eo34, hm⟩ := bindS hm
 refine E.cut (x := .exit 0) (fun e w => ∃ (s37 : Sig) (u36 : Unit), o34 = .inl u36 ∧ Mv (Up N No) s s37 ∧ e = [] ∧ w = s37.w) ?_ ?_
 ·rintro _ _ ⟨s37, u36, rfl, m0, rfl, rfl⟩
  dsimp only at hm
  refine X.blkE (X.seqN (E.seq (E.reg (L.as Wt.no rfl rfl (L.nil (X.seqN (E.ret ?_)))))))
  obtain rfl := Option.some.inj hm
  exact X.rt (.inl rfl) Tryd.results31 (Rs.tmp rfl Rs.nil) rfl ⟨_, (s37).ren N (fun _ => 0), rfl, rfl, m0.ren hNb, rfl⟩
 intro K38
 refine E.cut (x := .ret) (fun e w => ∃ (s40 : Sig) (u39 : Unit), o34 = .inr (u39) ∧ Mv (Up N No) s s40 ∧ e = [(4, .bool false)] ∧ w = s40.w) ?_ ?_
 ·rintro _ _ ⟨s40, u39, rfl, m0, rfl, rfl⟩
  dsimp only at hm
  refine X.blkR (X.seqR ?_)
  obtain rfl := Option.some.inj hm
  exact X.rt (.inl rfl) Tryd.results31 (Rs.tmp rfl Rs.nil) rfl ⟨_, (s40).ren N (fun _ => 0), rfl, rfl, m0.ren hNb, rfl⟩
 intro K41
 refine E.iter (fun (st34 : Int) (e : List (Nat × Value)) (w : World) => ∃ (s35 : Sig), Mv (Up N No) s s35 ∧ RdL (rP (rL (rK .i64)) (rP (rK .i64) (rP (rL (rK .i64)) (rL (rP (rK .i64) (rP (rK .i64) (rK .i64))))))) s35 a1 c1 p0.1 ∧ RdL (rK .i64) s35 a4 c4 p1 ∧ e = [(10, .int .i64 st34), (9, .int .i64 (p0.1.length : Int)), (8, .slice a1 p0.1.length c1), (1, .slice a4 p1.length c4)] ∧ w = s35.w) eo34 ⟨s6, m0, h1, h4, rfl, rfl⟩ (Sub.rf rfl) ?_
 rintro st34 res34 hm ih34 ho34 _ _ ⟨s35, m0, h1, h4, rfl, rfl⟩
 unfold m_product_machine_marked_l1 at hm
 refine E.seq (E.reg (L.bi Wt.no rfl rfl rfl rfl (L.nil (X.seqN (E.seq ?_)))))
 rcases ifS hm with ⟨hc, hm⟩ | ⟨hc, hm⟩
 ·refine E.cT rfl hc (E.skip (X.seqN (E.seq (E.block (E.seq (E.reg (L.mv Wt.no rfl rfl ?_)))))))
  obtain ⟨x42, ex42, hm⟩ := bindS hm
  refine L.ix (r := (rP (rL (rK .i64)) (rP (rK .i64) (rP (rL (rK .i64)) (rL (rP (rK .i64) (rP (rK .i64) (rK .i64)))))))) sl29 h1 Wt.no rfl rfl ex42 rfl fun b43 o43 cc43 me43 rd43 => ?_
  obtain ⟨_, _, rfl, ⟨a44, c44, rfl, h44⟩, ⟨_, _, rfl, rfl, ⟨_, _, rfl, ⟨a45, c45, rfl, h45⟩, ⟨a46, c46, rfl, h46⟩⟩⟩⟩ := rd43
  refine L.lg (j := 0) (cs := [.slice a44 x42.1.length c44, .int .i64 x42.2.1, .slice a45 x42.2.2.1.length c45, .slice a46 x42.2.2.2.length c46]) me43 ag34 Wt.no rfl rfl rfl rfl rfl (L.al (N + 1) zz34 rfl Wt.no rfl fun b47 s48 m49 bx47 => ?_)
  replace m0 := m0.trans m49.no
  replace h4 := h4.mono (m49.le no_No)
  replace h1 := h1.mono (m49.le no_No)
  replace h45 := h45.mono (m49.le no_No)
  refine L.as Wt.no rfl rfl (L.st (c := [.slice a44 x42.1.length c44, .int .i64 x42.2.1, .slice a45 x42.2.2.1.length c45, .slice a46 x42.2.2.2.length c46]) (cs' := #[.slice a44 x42.1.length c44, .int .i64 x42.2.1, .slice a45 x42.2.2.1.length c45, .slice a46 x42.2.2.2.length c46]) bx47 ag34.sz Wt.no rfl rfl rfl rfl rfl (Nat.le_of_ble_eq_true rfl) rfl fun s50 m51 bx47 => ?_)
  replace m0 := m0.trans (m51.one up)
  replace h4 := h4.mono (m51.le (tg0 hN))
  replace h1 := h1.mono (m51.le (tg0 hN))
  replace h45 := h45.mono (m51.le (tg0 hN))
  refine L.nil (X.seqN (E.seq ?_))
  obtain ⟨x57, ex57, hm⟩ := bindS hm
  obtain ⟨r61, er61, hm⟩ := bindS hm
  refine E.draw [[], [0], [], [], [2, 3], [2, 3, 4], [0, 1, 2, 3, 4, 5], [0, 1, 2, 3, 4, 5, 6]] (fun D e sx => Mv No s50 sx ∧ Sub [(5, .int .i64 st34), (6, .pointer (some ⟨b47, 0, none⟩)), (10, .int .i64 st34), (9, .int .i64 (p0.1.length : Int)), (8, .slice a1 p0.1.length c1), (1, .slice a4 p1.length c4)] e ∧ AllP [G D e 0 15 (.pointer (some ⟨b47, 2, none⟩)), G D e 1 16 (.slice a45 x42.2.2.1.length c45), G D e 2 17 (.slice a4 p1.length c4), G D e 3 18 (.int .i64 st34), D 4 = true → (∃ (b58 : Nat) (o58 : Nat), Env.get e 19 = some (.pointer (some ⟨b58, o58, none⟩)) ∧ Mem sx 0 b58 o58 [.int .i64 x57]), G D e 5 20 (.int .i64 x57), G D e 6 21 (.bool r61), G D e 7 22 (.bool (!r61))]) (by kernel_rfl) (by kernel_rfl) (by kernel_rfl) ?_ ?_ ?_
  ·intro sz mz
   exact ⟨mz, (Sub.rf rfl), nofun, nofun, nofun, nofun, nofun, nofun, nofun, nofun, trivial⟩
  ·refine ⟨?_, ?_, ?_, ?_, ?_, ?_, ?_, ?_, trivial⟩
   ·rintro D e s52 ⟨im, ib, i⟩ hk hf ha
    have kn := K1 (ib 6 _ rfl)
    exact L.kns _ kn (L.fa fa34_2 Wt.no rfl rfl (L.nil (X.dk kn ⟨im, Sub.fresh ib rfl, i.u 0 (fun _ => rfl)⟩)))
   ·rintro D e s53 ⟨im, ib, i⟩ hk hf ha
    have bx47 := bx47.mv im no_No
    have kn := K1 ((i.p 0) (ha.at 0 rfl))
    exact L.kns _ kn (L.ld (j := 2) bx47.mem nag31 Wt.no rfl rfl rfl rfl (L.nil (X.dk kn ⟨im, Sub.fresh ib rfl, i.u 1 (fun _ => rfl)⟩)))
   ·rintro D e s54 ⟨im, ib, i⟩ hk hf ha
    have kn := K1 (ib 1 _ rfl)
    exact L.kns _ kn (L.mv Wt.no rfl rfl (L.nil (X.dk kn ⟨im, Sub.fresh ib rfl, i.u 2 (fun _ => rfl)⟩)))
   ·rintro D e s55 ⟨im, ib, i⟩ hk hf ha
    have kn := K1 (ib 5 _ rfl)
    exact L.kns _ kn (L.mv Wt.no rfl rfl (L.nil (X.dk kn ⟨im, Sub.fresh ib rfl, i.u 3 (fun _ => rfl)⟩)))
   ·rintro D e s56 ⟨im, ib, i⟩ hk hf ha
    have h4 := h4.mono (im.le no_No)
    have kn := K2 ((i.p 2) (ha.at 2 rfl)) ((i.p 3) (ha.at 3 rfl))
    refine L.kns _ kn (L.ix (r := (rK .i64)) sl31 h4 Wt.no rfl rfl ex57 rfl fun b58 o58 cc58 me58 rd58 => ?_)
    obtain rfl := rd58
    exact L.nil (X.dk kn ⟨im, Sub.fresh ib rfl, i.u 4 (fun _ => ⟨b58, o58, rfl, me58⟩)⟩)
   ·rintro D e s59 ⟨im, ib, i⟩ hk hf ha
    obtain ⟨b58, o58, g4_, me58⟩ := (i.p 4) (ha.at 4 rfl)
    have kn := K1 g4_
    exact L.kns _ kn (L.ld (j := 0) me58 nag3 Wt.no rfl rfl rfl rfl (L.nil (X.dk kn ⟨im, Sub.fresh ib rfl, i.u 5 (fun _ => rfl)⟩)))
   ·rintro D e s60 ⟨im, ib, i⟩ hk hf ha
    have h45 := h45.mono (im.le no_No)
    have kn := K2 ((i.p 1) (ha.at 1 rfl)) ((i.p 5) (ha.at 5 rfl))
    refine L.kns _ kn (L.ca cf49 rfl rfl Wt.no rfl (m_alphabet_Contains_c (s := s60) (p0 := x42.2.2.1) (p1 := x57) h45 er61) rfl ?_)
    rintro _ s62 m63 rfl
    exact L.nil (X.dk kn ⟨im.trans m63.no, Sub.fresh ib rfl, (i.u 4 (fun z => let ⟨b58, o58, q, me58⟩ := (i.p 4) z; ⟨b58, o58, q, (me58.mv m63 no_No)⟩)).u 6 (fun _ => rfl)⟩)
   rintro D e s64 ⟨im, ib, i⟩ hk hf ha
   have kn := K1 ((i.p 6) (ha.at 6 rfl))
   exact L.kns _ kn (L.not Wt.no rfl rfl (L.nil (X.dk kn ⟨im, Sub.fresh ib rfl, i.u 7 (fun _ => rfl)⟩)))
  rintro D e s65 hD ⟨im, ib, i⟩
  have g7_ := (i.p 7) (hD 7 rfl)
  have h1 := h1.mono (im.le no_No)
  have h4 := h4.mono (im.le no_No)
  have m0 := m0.trans im.no
  refine X.sub (e' := [(22, .bool (!r61)), (10, .int .i64 st34), (9, .int .i64 (p0.1.length : Int)), (8, .slice a1 p0.1.length c1), (1, .slice a4 p1.length c4)]) ?_ (Sub.cons g7_ (Sub.cons (ib 10 _ rfl) (Sub.cons (ib 9 _ rfl) (Sub.cons (ib 8 _ rfl) (Sub.cons (ib 1 _ rfl) Sub.nil)))))
  refine X.seqN ?_
  rcases ifS hm with ⟨hc, hm⟩ | ⟨hc, hm⟩
  ·refine E.cT rfl hc (E.seq (E.reg (L.as Wt.no rfl rfl (L.nil (X.seqN (E.ret (X.blkR (X.seqR (X.seqR ?_)))))))))
   have hx := ho34 _ (Option.some.inj hm).symm
   exact X.sub (K41 _ _ ⟨s65, (), hx.symm, m0, rfl, rfl⟩) (Sub.rf rfl)
  exact E.cF rfl hc (E.skip (X.blkN (X.seqN (E.reg (L.bi Wt.no rfl rfl rfl rfl (L.mv Wt.no rfl rfl (L.nil (X.sub (ih34 _ (Option.some.inj hm).symm _ _ ⟨s65, m0, h1, h4, rfl, rfl⟩) (Sub.rf rfl)))))))))
 refine E.cF rfl hc (E.exit (X.seqX (X.seqX ?_)))
 have hx := ho34 _ (Option.some.inj hm).symm
 exact X.sub (K38 _ _ ⟨s35, (), hx.symm, m0, rfl, rfl⟩) Sub.nil

theorem nag81 : NAg Tryd.prog 81 := NAg.mk' Tryd.underlying81 rfl (by kernel_rfl)
theorem sl61 : Sl Tryd.prog 61 81 1 := Sl.mk' Tryd.underlying61 (by kernel_rfl)
noncomputable def m_product_machine_step_j1 (st62 : Int × List Int) (l71 : List Int) : Option ((Int × List Int) ⊕ ((List Int) ⊕ Unit)) :=
  some (.inl (W (st62.1 + 1), l71))
noncomputable def m_product_machine_step_l1 (p0 : (List (List Int × Int × List Int × (List (Int × Int × Int)))) × List Int × (List (List ((Int × Int) × Int)))) (p1 : List Int) (p2 : Int) (st62 : Int × List Int) : Option ((Int × List Int) ⊕ ((List Int) ⊕ Unit)) :=
  if decide (st62.1 < (p0.1.length : Int)) then
    (idx p0.1 st62.1).bind fun x74 =>
    (m_alphabet_Contains x74.1 p2).bind fun r84 =>
    if (!r84) then
      m_product_machine_step_j1 st62 st62.2
    else
      (idx p0.2.2 st62.1).bind fun x91 =>
      (idx p1 st62.1).bind fun x99 =>
      if (!((kget x91 (x99, p2)).isSome)) then
        some (.inr (.inr (())))
      else
        (idx st62.2 st62.1).bind fun x111 =>
        (upd st62.2 st62.1 ((kget x91 (x99, p2)).getD 0)).bind fun x113 =>
        m_product_machine_step_j1 st62 x113
  else
    some (.inr (.inl st62.2))
/-- What product.machine).step computes. -/
noncomputable def m_product_machine_step (p0 : (List (List Int × Int × List Int × (List (Int × Int × Int)))) × List Int × (List (List ((Int × Int) × Int)))) (p1 : List Int) (p2 : Int) : Option (List Int × Bool) :=
  (m_slices_Clone_int p1).bind fun r9 =>
  (iter (m_product_machine_step_l1 p0 p1 p2) (0, r9)).bind fun o62 =>
  match o62 with
  | .inl u65 =>
    some (u65, true)
  | .inr (u68) =>
    some (([] : List Int), false)
set_option maxRecDepth 100000 in
set_option maxHeartbeats 8000000 in
theorem m_product_machine_step_c {s : Sig} {p0 : (List (List Int × Int × List Int × (List (Int × Int × Int)))) × List Int × (List (List ((Int × Int) × Int)))} {p1 : List Int} {p2 : Int} {a1 : Option Addr} {c1 : Nat} {a2 : Option Addr} {c2 : Nat} {a3 : Option Addr} {c3 : Nat} {a4 : Option Addr} {c4 : Nat} {u0 : Nat} {r : List Int × Bool} (h1 : RdL (rP (rL (rK .i64)) (rP (rK .i64) (rP (rL (rK .i64)) (rL (rP (rK .i64) (rP (rK .i64) (rK .i64))))))) s a1 c1 p0.1) (h2 : RdL (rK .i64) s a2 c2 p0.2.1) (h3 : RdL (rM kvP (rK .i64)) s a3 c3 p0.2.2) (h4 : RdL (rK .i64) s a4 c4 p1) (hm : m_product_machine_step p0 p1 p2 = some r) :
    Calls Tryd.prog 32 #[.agg #[.slice a1 p0.1.length c1, .slice a2 p0.2.1.length c2, .slice a3 p0.2.2.length c3], .slice a4 p1.length c4, .int .i64 p2] s.w (RetS No s fun v s' => ∃ (a5 : Option Addr) (c5 : Nat), v = .tuple #[.slice a5 r.1.length c5, .bool r.2] ∧ RowT (rK .i64) s' u0 3 a5 c5 r.1) := by
 unfold m_product_machine_step at hm
 obtain ⟨N, hN, hNb⟩ := s.fresh
 have m0 : Mv (Up N No) s s := Mv.refl _ _
 refine E.entry Tryd.func32 rfl Tryd.ntmps32 rfl rfl (E.seq (E.reg (L.box (N + 0) Wt.no rfl rfl rfl fun b6 s7 m8 bx6 => ?_)))
 replace m0 := m0.trans m8.no
 replace h4 := h4.mono (m8.le no_No)
 replace h1 := h1.mono (m8.le no_No)
 replace h2 := h2.mono (m8.le no_No)
 replace h3 := h3.mono (m8.le no_No)
 refine L.as Wt.no rfl rfl (L.as Wt.no rfl rfl (L.nil (X.seqN (E.seq (E.reg (L.mv Wt.no rfl rfl ?_))))))
 obtain ⟨r9, er9, hm⟩ := bindS hm
 refine L.ca cf50 rfl rfl Wt.no rfl (m_slices_Clone_int_c (s := s7) (p0 := p1) (u0 := (N + 2)) h4 er9) rfl ?_
 rintro _ s10 m11 ⟨a12, c12, rfl, h12⟩
 replace m0 := m0.trans m11.no
 replace h4 := h4.mono (m11.le no_No)
 replace bx6 := bx6.mv m11 no_No
 replace h1 := h1.mono (m11.le no_No)
 replace h2 := h2.mono (m11.le no_No)
 replace h3 := h3.mono (m11.le no_No)
 refine L.as Wt.no rfl rfl (L.nil (X.seqN (E.seq (E.seq (E.reg (L.fa fa63_0 Wt.no rfl rfl (L.ld (j := 0) bx6.mem nag29 Wt.no rfl rfl rfl rfl (L.len sl29 Wt.no rfl rfl (L.mv Wt.no rfl rfl (L.nil (X.seqN (E.block ?_))))))))))))
 obtain ⟨o62, eo62, hm⟩ := bindS hm
 refine E.cut (x := .exit 0) (fun e w => ∃ (s66 : Sig) (u65 : List Int), o62 = .inl u65 ∧ Mv (Up N No) s s66 ∧ RowT (rK .i64) s66 (N + 2) 3 a12 c12 u65 ∧ e = [(8, .slice a12 u65.length c12)] ∧ w = s66.w) ?_ ?_
 ·rintro _ _ ⟨s66, u65, rfl, m0, h12, rfl, rfl⟩
  dsimp only at hm
  refine X.blkE (X.seqN (E.seq (E.reg (L.mv Wt.no rfl rfl (L.as Wt.no rfl rfl (L.as Wt.no rfl rfl (L.nil (X.seqN (E.ret ?_)))))))))
  obtain rfl := Option.some.inj hm
  exact X.rt (.inl rfl) Tryd.results32 (Rs.tmp rfl (Rs.tmp rfl Rs.nil)) rfl ⟨_, (s66).ren N (fun k => cond (Nat.beq k 2) u0 (0)), rfl, rfl, m0.ren hNb, ⟨a12, c12, rfl, (h12.ren hN)⟩⟩
 intro K67
 refine E.cut (x := .ret) (fun e w => ∃ (s69 : Sig) (u68 : Unit), o62 = .inr (u68) ∧ Mv (Up N No) s s69 ∧ e = [(7, .bool false), (6, .slice none 0 0)] ∧ w = s69.w) ?_ ?_
 ·rintro _ _ ⟨s69, u68, rfl, m0, rfl, rfl⟩
  dsimp only at hm
  refine X.blkR (X.seqR ?_)
  obtain rfl := Option.some.inj hm
  exact X.rt (.inl rfl) Tryd.results32 (Rs.tmp rfl (Rs.tmp rfl Rs.nil)) rfl ⟨_, (s69).ren N (fun _ => 0), rfl, rfl, m0.ren hNb, ⟨none, 0, rfl, RowT.nil⟩⟩
 intro K70
 refine E.iter (fun (st62 : Int × List Int) (e : List (Nat × Value)) (w : World) => ∃ (s64 : Sig), Mv (Up N No) s s64 ∧ RdL (rP (rL (rK .i64)) (rP (rK .i64) (rP (rL (rK .i64)) (rL (rP (rK .i64) (rP (rK .i64) (rK .i64))))))) s64 a1 c1 p0.1 ∧ RowT (rK .i64) s64 (N + 2) 3 a12 c12 st62.2 ∧ RdL (rK .i64) s64 a4 c4 p1 ∧ RdL (rK .i64) s64 a2 c2 p0.2.1 ∧ RdL (rM kvP (rK .i64)) s64 a3 c3 p0.2.2 ∧ Bx s64 (N + 0) b6 #[.slice a1 p0.1.length c1, .slice a2 p0.2.1.length c2, .slice a3 p0.2.2.length c3] 63 ∧ e = [(18, .int .i64 st62.1), (17, .int .i64 (p0.1.length : Int)), (16, .slice a1 p0.1.length c1), (8, .slice a12 st62.2.length c12), (3, .pointer (some ⟨b6, 0, none⟩)), (1, .slice a4 p1.length c4), (2, .int .i64 p2)] ∧ w = s64.w) eo62 ⟨s10, m0, h1, h12, h4, h2, h3, bx6, rfl, rfl⟩ (Sub.rf rfl) ?_
 rintro st62 res62 hm ih62 ho62 _ _ ⟨s64, m0, h1, h12, h4, h2, h3, bx6, rfl, rfl⟩
 unfold m_product_machine_step_l1 at hm
 refine E.seq (E.reg (L.bi Wt.no rfl rfl rfl rfl (L.nil (X.seqN (E.seq ?_)))))
 rcases ifS hm with ⟨hc, hm⟩ | ⟨hc, hm⟩
 ·refine E.cT rfl hc (E.skip (X.seqN (E.seqJ (fun e w => ∃ (s72 : Sig) (l71 : List Int), m_product_machine_step_j1 st62 l71 = some res62 ∧ Mv (Up N No) s s72 ∧ RdL (rP (rL (rK .i64)) (rP (rK .i64) (rP (rL (rK .i64)) (rL (rP (rK .i64) (rP (rK .i64) (rK .i64))))))) s72 a1 c1 p0.1 ∧ RowT (rK .i64) s72 (N + 2) 3 a12 c12 l71 ∧ RdL (rK .i64) s72 a4 c4 p1 ∧ RdL (rK .i64) s72 a2 c2 p0.2.1 ∧ RdL (rM kvP (rK .i64)) s72 a3 c3 p0.2.2 ∧ Bx s72 (N + 0) b6 #[.slice a1 p0.1.length c1, .slice a2 p0.2.1.length c2, .slice a3 p0.2.2.length c3] 63 ∧ e = [(18, .int .i64 st62.1), (17, .int .i64 (p0.1.length : Int)), (16, .slice a1 p0.1.length c1), (8, .slice a12 l71.length c12), (3, .pointer (some ⟨b6, 0, none⟩)), (1, .slice a4 p1.length c4), (2, .int .i64 p2)] ∧ w = s72.w) ?_ ?_)))
  ·rintro _ _ ⟨s72, l71, hm, m0, h1, h12, h4, h2, h3, bx6, rfl, rfl⟩
   unfold m_product_machine_step_j1 at hm
   exact E.reg (L.bi Wt.no rfl rfl rfl rfl (L.mv Wt.no rfl rfl (L.nil (X.sub (ih62 _ (Option.some.inj hm).symm _ _ ⟨s72, m0, h1, h12, h4, h2, h3, bx6, rfl, rfl⟩) (Sub.rf rfl)))))
  intro Jj73
  refine E.block (E.seq (E.reg (L.mv Wt.no rfl rfl ?_)))
  obtain ⟨x74, ex74, hm⟩ := bindS hm
  refine L.ix (r := (rP (rL (rK .i64)) (rP (rK .i64) (rP (rL (rK .i64)) (rL (rP (rK .i64) (rP (rK .i64) (rK .i64)))))))) sl29 h1 Wt.no rfl rfl ex74 rfl fun b75 o75 cc75 me75 rd75 => ?_
  obtain ⟨_, _, rfl, ⟨a76, c76, rfl, h76⟩, ⟨_, _, rfl, rfl, ⟨_, _, rfl, ⟨a77, c77, rfl, h77⟩, ⟨a78, c78, rfl, h78⟩⟩⟩⟩ := rd75
  refine L.lg (j := 0) (cs := [.slice a76 x74.1.length c76, .int .i64 x74.2.1, .slice a77 x74.2.2.1.length c77, .slice a78 x74.2.2.2.length c78]) me75 ag34 Wt.no rfl rfl rfl rfl rfl (L.al (N + 1) zz34 rfl Wt.no rfl fun b79 s80 m81 bx79 => ?_)
  replace m0 := m0.trans m81.no
  replace h4 := h4.mono (m81.le no_No)
  replace h12 := h12.mv m81 no_No no_No
  replace h1 := h1.mono (m81.le no_No)
  replace h76 := h76.mono (m81.le no_No)
  replace bx6 := bx6.mv m81 no_No
  replace h2 := h2.mono (m81.le no_No)
  replace h3 := h3.mono (m81.le no_No)
  refine L.as Wt.no rfl rfl (L.st (c := [.slice a76 x74.1.length c76, .int .i64 x74.2.1, .slice a77 x74.2.2.1.length c77, .slice a78 x74.2.2.2.length c78]) (cs' := #[.slice a76 x74.1.length c76, .int .i64 x74.2.1, .slice a77 x74.2.2.1.length c77, .slice a78 x74.2.2.2.length c78]) bx79 ag34.sz Wt.no rfl rfl rfl rfl rfl (Nat.le_of_ble_eq_true rfl) rfl fun s82 m83 bx79 => ?_)
  replace m0 := m0.trans (m83.one up)
  replace h4 := h4.mono (m83.le (tg0 hN))
  replace h12 := h12.mv m83 (tgN (by decide)) (tg0 hN)
  replace h1 := h1.mono (m83.le (tg0 hN))
  replace bx6 := bx6.mv m83 (tgN (by decide))
  replace h2 := h2.mono (m83.le (tg0 hN))
  replace h3 := h3.mono (m83.le (tg0 hN))
  replace h76 := h76.mono (m83.le (tg0 hN))
  refine L.nil (X.seqN (E.seq (E.seq (E.reg (L.fa fa34_0 Wt.no rfl rfl (L.ld (j := 0) bx79.mem nag31 Wt.no rfl rfl rfl rfl (L.mv Wt.no rfl rfl ?_)))))))
  obtain ⟨r84, er84, hm⟩ := bindS hm
  refine L.ca cf49 rfl rfl Wt.no rfl (m_alphabet_Contains_c (s := s82) (p0 := x74.1) (p1 := p2) h76 er84) rfl ?_
  rintro _ s85 m86 rfl
  replace m0 := m0.trans m86.no
  replace h4 := h4.mono (m86.le no_No)
  replace h12 := h12.mv m86 no_No no_No
  replace h1 := h1.mono (m86.le no_No)
  replace bx6 := bx6.mv m86 no_No
  replace h2 := h2.mono (m86.le no_No)
  replace h3 := h3.mono (m86.le no_No)
  refine L.not Wt.no rfl rfl (L.nil (X.seqN ?_))
  rcases ifS hm with ⟨hc, hm⟩ | ⟨hc, hm⟩
  ·exact E.cT rfl hc (E.exit (X.seqX (X.blkE (X.sub (Jj73 _ _ ⟨s85, st62.2, hm, m0, h1, h12, h4, h2, h3, bx6, rfl, rfl⟩) (Sub.rf rfl)))))
  refine E.cF rfl hc (E.skip (X.seqN (E.seq ?_)))
  obtain ⟨x91, ex91, hm⟩ := bindS hm
  obtain ⟨x99, ex99, hm⟩ := bindS hm
  refine E.draw [[], [0], [], [0, 1, 2], [0, 1, 2, 3], [], [], [5, 6], [5, 6, 7], [], [5, 6, 7, 8, 9], [0, 1, 2, 3, 4, 5, 6, 7, 8, 9, 10], [0, 1, 2, 3, 4, 5, 6, 7, 8, 9, 10, 11], [0, 1, 2, 3, 4, 5, 6, 7, 8, 9, 10, 11, 12], [0, 1, 2, 3, 4, 5, 6, 7, 8, 9, 10, 11, 12], [0, 1, 2, 3, 4, 5, 6, 7, 8, 9, 10, 11, 12, 13], [0, 1, 2, 3, 4, 5, 6, 7, 8, 9, 10, 11, 12, 13, 14, 15]] (fun D e sx => Mv No s85 sx ∧ Sub [(9, .int .i64 st62.1), (18, .int .i64 st62.1), (17, .int .i64 (p0.1.length : Int)), (16, .slice a1 p0.1.length c1), (8, .slice a12 st62.2.length c12), (3, .pointer (some ⟨b6, 0, none⟩)), (1, .slice a4 p1.length c4), (2, .int .i64 p2)] e ∧ AllP [G D e 0 29 (.pointer (some ⟨b6, 2, none⟩)), G D e 1 30 (.slice a3 p0.2.2.length c3), G D e 2 31 (.int .i64 st62.1), D 3 = true → (∃ (b92 : Nat) (o92 : Nat) (y93 : Option Nat) (c93 : Nat), Env.get e 32 = some (.pointer (some ⟨b92, o92, none⟩)) ∧ Mem sx 0 b92 o92 [.map y93] ∧ MapD kvP (rK .i64) sx y93 c93 x91), D 4 = true → (∃ (y95 : Option Nat) (c95 : Nat), Env.get e 33 = some (.map y95) ∧ MapD kvP (rK .i64) sx y95 c95 x91), G D e 5 34 (.slice a4 p1.length c4), G D e 6 35 (.int .i64 st62.1), D 7 = true → (∃ (b100 : Nat) (o100 : Nat), Env.get e 36 = some (.pointer (some ⟨b100, o100, none⟩)) ∧ Mem sx 0 b100 o100 [.int .i64 x99]), G D e 8 37 (.int .i64 x99), G D e 9 38 (.int .i64 p2), G D e 10 39 (.agg #[.int .i64 x99, .int .i64 p2]), G D e 11 40 (.tuple #[.int .i64 ((kget x91 (x99, p2)).getD 0), .bool ((kget x91 (x99, p2)).isSome)]), G D e 12 28 (.tuple #[.int .i64 ((kget x91 (x99, p2)).getD 0), .bool ((kget x91 (x99, p2)).isSome)]), G D e 13 41 (.int .i64 ((kget x91 (x99, p2)).getD 0)), G D e 14 42 (.bool ((kget x91 (x99, p2)).isSome)), G D e 15 11 (.int .i64 ((kget x91 (x99, p2)).getD 0)), G D e 16 12 (.bool ((kget x91 (x99, p2)).isSome))]) (by kernel_rfl) (by kernel_rfl) (by kernel_rfl) ?_ ?_ ?_
  ·intro sz mz
   exact ⟨mz, (Sub.rf rfl), nofun, nofun, nofun, nofun, nofun, nofun, nofun, nofun, nofun, nofun, nofun, nofun, nofun, nofun, nofun, nofun, nofun, trivial⟩
  ·refine ⟨?_, ?_, ?_, ?_, ?_, ?_, ?_, ?_, ?_, ?_, ?_, ?_, ?_, ?_, ?_, ?_, ?_, trivial⟩
   ·rintro D e s87 ⟨im, ib, i⟩ hk hf ha
    have kn := K1 (ib 3 _ rfl)
    exact L.kns _ kn (L.fa fa63_2 Wt.no rfl rfl (L.nil (X.dk kn ⟨im, Sub.fresh ib rfl, i.u 0 (fun _ => rfl)⟩)))
   ·rintro D e s88 ⟨im, ib, i⟩ hk hf ha
    have bx6 := bx6.mv im no_No
    have kn := K1 ((i.p 0) (ha.at 0 rfl))
    exact L.kns _ kn (L.ld (j := 2) bx6.mem nag61 Wt.no rfl rfl rfl rfl (L.nil (X.dk kn ⟨im, Sub.fresh ib rfl, i.u 1 (fun _ => rfl)⟩)))
   ·rintro D e s89 ⟨im, ib, i⟩ hk hf ha
    have kn := K1 (ib 9 _ rfl)
    exact L.kns _ kn (L.mv Wt.no rfl rfl (L.nil (X.dk kn ⟨im, Sub.fresh ib rfl, i.u 2 (fun _ => rfl)⟩)))
   ·rintro D e s90 ⟨im, ib, i⟩ hk hf ha
    have h3 := h3.mono (im.le no_No)
    have kn := K2 ((i.p 1) (ha.at 1 rfl)) ((i.p 2) (ha.at 2 rfl))
    refine L.kns _ kn (L.ix (r := (rM kvP (rK .i64))) sl61 h3 Wt.no rfl rfl ex91 rfl fun b92 o92 cc92 me92 rd92 => ?_)
    obtain ⟨y93, c93, rfl, h93⟩ := rd92
    exact L.nil (X.dk kn ⟨im, Sub.fresh ib rfl, i.u 3 (fun _ => ⟨b92, o92, y93, c93, rfl, me92, h93⟩)⟩)
   ·rintro D e s94 ⟨im, ib, i⟩ hk hf ha
    obtain ⟨b92, o92, y93, c93, g3_, me92, h93⟩ := (i.p 3) (ha.at 3 rfl)
    have kn := K1 g3_
    refine L.kns _ kn (L.ld (j := 0) me92 nag81 Wt.no rfl rfl rfl rfl ?_)
    obtain ⟨y95, c95, ea95, ec95, h95⟩ : ∃ a c, a = y93 ∧ c = c93 ∧ MapD kvP (rK .i64) s94 a c x91 := ⟨_, _, rfl, rfl, h93⟩
    subst ea95 ec95
    exact L.nil (X.dk kn ⟨im, Sub.fresh ib rfl, i.u 4 (fun _ => ⟨y95, c95, rfl, h95⟩)⟩)
   ·rintro D e s96 ⟨im, ib, i⟩ hk hf ha
    have kn := K1 (ib 1 _ rfl)
    exact L.kns _ kn (L.mv Wt.no rfl rfl (L.nil (X.dk kn ⟨im, Sub.fresh ib rfl, i.u 5 (fun _ => rfl)⟩)))
   ·rintro D e s97 ⟨im, ib, i⟩ hk hf ha
    have kn := K1 (ib 9 _ rfl)
    exact L.kns _ kn (L.mv Wt.no rfl rfl (L.nil (X.dk kn ⟨im, Sub.fresh ib rfl, i.u 6 (fun _ => rfl)⟩)))
   ·rintro D e s98 ⟨im, ib, i⟩ hk hf ha
    have h4 := h4.mono (im.le no_No)
    have kn := K2 ((i.p 5) (ha.at 5 rfl)) ((i.p 6) (ha.at 6 rfl))
    refine L.kns _ kn (L.ix (r := (rK .i64)) sl31 h4 Wt.no rfl rfl ex99 rfl fun b100 o100 cc100 me100 rd100 => ?_)
    obtain rfl := rd100
    exact L.nil (X.dk kn ⟨im, Sub.fresh ib rfl, i.u 7 (fun _ => ⟨b100, o100, rfl, me100⟩)⟩)
   ·rintro D e s101 ⟨im, ib, i⟩ hk hf ha
    obtain ⟨b100, o100, g7_, me100⟩ := (i.p 7) (ha.at 7 rfl)
    have kn := K1 g7_
    exact L.kns _ kn (L.ld (j := 0) me100 nag3 Wt.no rfl rfl rfl rfl (L.nil (X.dk kn ⟨im, Sub.fresh ib rfl, i.u 8 (fun _ => rfl)⟩)))
   ·rintro D e s102 ⟨im, ib, i⟩ hk hf ha
    have kn := K1 (ib 2 _ rfl)
    exact L.kns _ kn (L.mv Wt.no rfl rfl (L.nil (X.dk kn ⟨im, Sub.fresh ib rfl, i.u 9 (fun _ => rfl)⟩)))
   ·rintro D e s103 ⟨im, ib, i⟩ hk hf ha
    have kn := K2 ((i.p 8) (ha.at 8 rfl)) ((i.p 9) (ha.at 9 rfl))
    exact L.kns _ kn (L.bu (cs := [.int .i64 x99, .int .i64 p2]) pl82 Wt.no rfl rfl rfl (L.nil (X.dk kn ⟨im, Sub.fresh ib rfl, i.u 10 (fun _ => rfl)⟩)))
   ·rintro D e s104 ⟨im, ib, i⟩ hk hf ha
    obtain ⟨y95, c95, g4_, h95⟩ := (i.p 4) (ha.at 4 rfl)
    have kn := K2 g4_ ((i.p 10) (ha.at 10 rfl))
    exact L.kns _ kn (L.mi2 (k := (x99, p2)) md81 h95.any Wt.no rfl rfl rfl (L.nil (X.dk kn ⟨im, Sub.fresh ib rfl, i.u 11 (fun _ => rfl)⟩)))
   ·rintro D e s105 ⟨im, ib, i⟩ hk hf ha
    have kn := K1 ((i.p 11) (ha.at 11 rfl))
    exact L.kns _ kn (L.mv Wt.no rfl rfl (L.nil (X.dk kn ⟨im, Sub.fresh ib rfl, i.u 12 (fun _ => rfl)⟩)))
   ·rintro D e s106 ⟨im, ib, i⟩ hk hf ha
    have kn := K1 ((i.p 12) (ha.at 12 rfl))
    exact L.kns _ kn (L.ex Wt.no rfl rfl rfl (L.nil (X.dk kn ⟨im, Sub.fresh ib rfl, i.u 13 (fun _ => rfl)⟩)))
   ·rintro D e s107 ⟨im, ib, i⟩ hk hf ha
    have kn := K1 ((i.p 12) (ha.at 12 rfl))
    exact L.kns _ kn (L.ex Wt.no rfl rfl rfl (L.nil (X.dk kn ⟨im, Sub.fresh ib rfl, i.u 14 (fun _ => rfl)⟩)))
   ·rintro D e s108 ⟨im, ib, i⟩ hk hf ha
    have kn := K1 ((i.p 13) (ha.at 13 rfl))
    exact L.kns _ kn (L.as Wt.no rfl rfl (L.nil (X.dk kn ⟨im, Sub.fresh ib rfl, i.u 15 (fun _ => rfl)⟩)))
   rintro D e s109 ⟨im, ib, i⟩ hk hf ha
   have kn := K1 ((i.p 14) (ha.at 14 rfl))
   exact L.kns _ kn (L.as Wt.no rfl rfl (L.nil (X.dk kn ⟨im, Sub.fresh ib rfl, i.u 16 (fun _ => rfl)⟩)))
  rintro D e s110 hD ⟨im, ib, i⟩
  have g15_ := (i.p 15) (hD 15 rfl)
  have g16_ := (i.p 16) (hD 16 rfl)
  have h1 := h1.mono (im.le no_No)
  have h12 := h12.mv im no_No no_No
  have bx6 := bx6.mv im no_No
  have h2 := h2.mono (im.le no_No)
  have h3 := h3.mono (im.le no_No)
  have h4 := h4.mono (im.le no_No)
  have m0 := m0.trans im.no
  refine X.sub (e' := [(12, .bool ((kget x91 (x99, p2)).isSome)), (11, .int .i64 ((kget x91 (x99, p2)).getD 0)), (9, .int .i64 st62.1), (18, .int .i64 st62.1), (17, .int .i64 (p0.1.length : Int)), (16, .slice a1 p0.1.length c1), (8, .slice a12 st62.2.length c12), (3, .pointer (some ⟨b6, 0, none⟩)), (1, .slice a4 p1.length c4), (2, .int .i64 p2)]) ?_ (Sub.cons g16_ (Sub.cons g15_ (Sub.cons (ib 9 _ rfl) (Sub.cons (ib 18 _ rfl) (Sub.cons (ib 17 _ rfl) (Sub.cons (ib 16 _ rfl) (Sub.cons (ib 8 _ rfl) (Sub.cons (ib 3 _ rfl) (Sub.cons (ib 1 _ rfl) (Sub.cons (ib 2 _ rfl) Sub.nil))))))))))
  refine X.seqN (E.seq (E.seq (E.reg (L.mv Wt.no rfl rfl (L.not Wt.no rfl rfl (L.nil (X.seqN ?_)))))))
  rcases ifS hm with ⟨hc, hm⟩ | ⟨hc, hm⟩
  ·refine E.cT rfl hc (E.seq (E.reg (L.as Wt.no rfl rfl (L.as Wt.no rfl rfl (L.nil (X.seqN (E.ret (X.seqR (X.blkR (X.seqR (X.seqR ?_)))))))))))
   have hx := ho62 _ (Option.some.inj hm).symm
   exact X.sub (K70 _ _ ⟨s110, (), hx.symm, m0, rfl, rfl⟩) (Sub.rf rfl)
  refine E.cF rfl hc (E.skip (X.seqN (E.reg (L.mv Wt.no rfl rfl (L.mv Wt.no rfl rfl (L.mv Wt.no rfl rfl ?_))))))
  obtain ⟨x111, ex111, hm⟩ := bindS hm
  refine L.ir (r := (rK .i64)) sl31 h12 Wt.no rfl rfl ex111 rfl fun b112 o112 cc112 me112 rd112 sp112 => ?_
  obtain rfl := rd112
  obtain ⟨x113, ex113, hm⟩ := bindS hm
  have elx113 := upd_len ex113
  refine L.su (fo := 0) (c := [.int .i64 ((kget x91 (x99, p2)).getD 0)]) (z := ((kget x91 (x99, p2)).getD 0)) h12 sp112 ex111 ex113 (tgp hN) nag3.sz Wt.no rfl rfl rfl rfl rfl rfl (fun c0 hc0 => by obtain rfl := hc0; exact rfl) fun s114 m115 h12 => ?_
  replace m0 := m0.trans (m115.one up)
  replace h1 := h1.mono (m115.le (tg0 hN))
  replace h4 := h4.mono (m115.le (tg0 hN))
  replace bx6 := bx6.mv m115 (tgN (by decide))
  replace h2 := h2.mono (m115.le (tg0 hN))
  replace h3 := h3.mono (m115.le (tg0 hN))
  exact L.reval (d := 8) rfl elx113 (L.nil (X.blkN (X.sub (Jj73 _ _ ⟨s114, x113, hm, m0, h1, h12, h4, h2, h3, bx6, rfl, rfl⟩) (Sub.rf rfl))))
 refine E.cF rfl hc (E.exit (X.seqX (X.seqX ?_)))
 have hx := ho62 _ (Option.some.inj hm).symm
 exact X.sub (K67 _ _ ⟨s64, st62.2, hx.symm, m0, h12, rfl, rfl⟩) (Sub.rf rfl)

theorem bs35 : Bs Tryd.prog 35 31 1 [.slice none 0 0] := Bs.mk' Tryd.underlying35 (by kernel_rfl) (by kernel_rfl) rfl
theorem cf27 : Cf Tryd.prog 27 := Cf.mk Tryd.func27 (by kernel_rfl) (by kernel_rfl)
theorem cf28 : Cf Tryd.prog 28 := Cf.mk Tryd.func28 (by kernel_rfl) (by kernel_rfl)
theorem cf29 : Cf Tryd.prog 29 := Cf.mk Tryd.func29 (by kernel_rfl) (by kernel_rfl)
theorem cf30 : Cf Tryd.prog 30 := Cf.mk Tryd.func30 (by kernel_rfl) (by kernel_rfl)
theorem cf31 : Cf Tryd.prog 31 := Cf.mk Tryd.func31 (by kernel_rfl) (by kernel_rfl)
theorem cf32 : Cf Tryd.prog 32 := Cf.mk Tryd.func32 (by kernel_rfl) (by kernel_rfl)
theorem el31 : El Tryd.prog 31 1 24 := El.mk' (z := .slice none 0 0) (by kernel_rfl) (by kernel_rfl) (by kernel_rfl) rfl
theorem fa63_1 : FA Tryd.prog 63 1 1 := FA.mk Tryd.underlying63 rfl rfl ⟨1, by decide, by kernel_rfl⟩
theorem md67 : Md Tryd.prog 67 9 3 kvS (rK .i64) 0 (.int .i64 0) := Md.mk' Tryd.underlying67 (KE.string Tryd.underlying9) (by kernel_rfl) (fun _ => rfl)
noncomputable def m_product_Synchronous_j2 (st333 : Int × (List (ByteArray × Int)) × List (List Int) × (List (Int × Int × Int))) (l346 : List (ByteArray × Int)) (l347 : List (List Int)) (l349 : List (Int × Int × Int)) : Option ((Int × (List (ByteArray × Int)) × List (List Int) × (List (Int × Int × Int))) ⊕ (((List (ByteArray × Int)) × List (List Int) × (List (Int × Int × Int))) ⊕ Unit)) :=
  some (.inl (W (st333.1 + 1), l346, l347, l349))
noncomputable def m_product_Synchronous_j3 (st237 : Int × (List (ByteArray × Int)) × List (List Int) × List Int × (List (Int × Int × Int))) (st333 : Int × (List (ByteArray × Int)) × List (List Int) × (List (Int × Int × Int))) (x353 : Int) (l379 : List (List Int)) (n381 : Int) (l382 : List (ByteArray × Int)) : Option ((Int × (List (ByteArray × Int)) × List (List Int) × (List (Int × Int × Int))) ⊕ (((List (ByteArray × Int)) × List (List Int) × (List (Int × Int × Int))) ⊕ Unit)) :=
  (app st333.2.2.2 ([(st237.1, x353, n381)] : List (Int × Int × Int))).bind fun x388 =>
  m_product_Synchronous_j2 st333 l382 l379 x388
noncomputable def m_product_Synchronous_l2 (r14 : ((List (List Int × Int × List Int × (List (Int × Int × Int)))) × List Int × (List (List ((Int × Int) × Int))))) (st237 : Int × (List (ByteArray × Int)) × List (List Int) × List Int × (List (Int × Int × Int))) (st333 : Int × (List (ByteArray × Int)) × List (List Int) × (List (Int × Int × Int))) : Option ((Int × (List (ByteArray × Int)) × List (List Int) × (List (Int × Int × Int))) ⊕ (((List (ByteArray × Int)) × List (List Int) × (List (Int × Int × Int))) ⊕ Unit)) :=
  if decide (st333.1 < (r14.2.1.length : Int)) then
    (idx r14.2.1 st333.1).bind fun x353 =>
    (idx st333.2.2.1 st237.1).bind fun x359 =>
    (m_product_machine_step r14 x359 x353).bind fun r366 =>
    if (!r366.2) then
      m_product_Synchronous_j2 st333 st333.2.1 st333.2.2.1 st333.2.2.2
    else
      (m_product_key r366.1).bind fun r376 =>
      if (!((kget st333.2.1 r376).isSome)) then
        if ((st333.2.2.1.length : Int) == 4096) then
          some (.inr (.inr (())))
        else
          (m_product_key r366.1).bind fun r396 =>
          (app st333.2.2.1 ([r366.1] : List (List Int))).bind fun x404 =>
          m_product_Synchronous_j3 st237 st333 x353 x404 (st333.2.2.1.length : Int) (kput st333.2.1 r396 (st333.2.2.1.length : Int))
      else
        m_product_Synchronous_j3 st237 st333 x353 st333.2.2.1 ((kget st333.2.1 r376).getD 0) st333.2.1
  else
    some (.inr (.inl st333.2))
noncomputable def m_product_Synchronous_j1 (r14 : ((List (List Int × Int × List Int × (List (Int × Int × Int)))) × List Int × (List (List ((Int × Int) × Int))))) (st237 : Int × (List (ByteArray × Int)) × List (List Int) × List Int × (List (Int × Int × Int))) (l255 : List Int) : Option ((Int × (List (ByteArray × Int)) × List (List Int) × List Int × (List (Int × Int × Int))) ⊕ ((List (List Int) × List Int × (List (Int × Int × Int))) ⊕ Unit)) :=
  (iter (m_product_Synchronous_l2 r14 st237) (0, st237.2.1, st237.2.2.1, st237.2.2.2.2)).bind fun o333 =>
  match o333 with
  | .inl u340 =>
    some (.inl (W (st237.1 + 1), u340.1, u340.2.1, l255, u340.2.2))
  | .inr (u343) =>
    some (.inr (.inr (())))
noncomputable def m_product_Synchronous_l1 (r14 : ((List (List Int × Int × List Int × (List (Int × Int × Int)))) × List Int × (List (List ((Int × Int) × Int))))) (st237 : Int × (List (ByteArray × Int)) × List (List Int) × List Int × (List (Int × Int × Int))) : Option ((Int × (List (ByteArray × Int)) × List (List Int) × List Int × (List (Int × Int × Int))) ⊕ ((List (List Int) × List Int × (List (Int × Int × Int))) ⊕ Unit)) :=
  if decide (st237.1 < (st237.2.2.1.length : Int)) then
    (idx st237.2.2.1 st237.1).bind fun x412 =>
    (m_product_machine_marked r14 x412).bind fun r418 =>
    if r418 then
      (app st237.2.2.2.1 ([st237.1] : List Int)).bind fun x425 =>
      m_product_Synchronous_j1 r14 st237 x425
    else
      m_product_Synchronous_j1 r14 st237 st237.2.2.2.1
  else
    some (.inr (.inl st237.2.2))
/-- What product.Synchronous computes. -/
noncomputable def m_product_Synchronous (p0 : List (List Int × Int × List Int × (List (Int × Int × Int)))) : Option ((List Int × Int × List Int × (List (Int × Int × Int))) × List (List Int) × Int) :=
  (m_product_Check p0).bind fun r9 =>
  if (r9 != 0) then
    some ((([] : List Int), 0, ([] : List Int), ([] : List (Int × Int × Int))), ([] : List (List Int)), r9)
  else
    (m_product_open p0).bind fun r14 =>
    (m_product_machine_initial r14).bind fun r28 =>
    if (!r28.2) then
      some ((r14.2.1, 0, ([] : List Int), ([] : List (Int × Int × Int))), ([] : List (List Int)), 0)
    else
      (m_product_key r28.1).bind fun r40 =>
      (iter (m_product_Synchronous_l1 r14) (0, (kput ([] : List (ByteArray × Int)) r40 0), ([r28.1] : List (List Int)), ([] : List Int), ([] : List (Int × Int × Int)))).bind fun o237 =>
      match o237 with
      | .inl u245 =>
        some ((r14.2.1, (u245.1.length : Int), u245.2), u245.1, 0)
      | .inr (u252) =>
        some ((([] : List Int), 0, ([] : List Int), ([] : List (Int × Int × Int))), ([] : List (List Int)), 3)
set_option maxRecDepth 100000 in
set_option maxHeartbeats 8000000 in
theorem m_product_Synchronous_c {s : Sig} {p0 : List (List Int × Int × List Int × (List (Int × Int × Int)))} {a1 : Option Addr} {c1 : Nat} {u1 : Nat} {u2 : Nat} {u3 : Nat} {r : (List Int × Int × List Int × (List (Int × Int × Int))) × List (List Int) × Int} (h1 : RdL (rP (rL (rK .i64)) (rP (rK .i64) (rP (rL (rK .i64)) (rL (rP (rK .i64) (rP (rK .i64) (rK .i64))))))) s a1 c1 p0) (hm : m_product_Synchronous p0 = some r) :
    Calls Tryd.prog 10 #[.slice a1 p0.length c1] s.w (RetS No s fun v s' => ∃ (a2 : Option Addr) (c2 : Nat) (a3 : Option Addr) (c3 : Nat) (a4 : Option Addr) (c4 : Nat) (a5 : Option Addr) (c5 : Nat), v = .tuple #[.agg #[.slice a2 r.1.1.length c2, .int .i64 r.1.2.1, .slice a3 r.1.2.2.1.length c3, .slice a4 r.1.2.2.2.length c4], .slice a5 r.2.1.length c5, .int .i64 r.2.2] ∧ RdL (rK .i64) s' a2 c2 r.1.1 ∧ RowT (rK .i64) s' u1 3 a3 c3 r.1.2.2.1 ∧ RowT (rP (rK .i64) (rP (rK .i64) (rK .i64))) s' u2 58 a4 c4 r.1.2.2.2 ∧ RowT (rL (rK .i64)) s' u3 31 a5 c5 r.2.1) := by
 unfold m_product_Synchronous at hm
 obtain ⟨N, hN, hNb⟩ := s.fresh
 have m0 : Mv (Up N No) s s := Mv.refl _ _
 refine E.entry Tryd.func10 rfl Tryd.ntmps10 rfl rfl (E.seq (E.reg (L.al (N + 0) zz34 rfl Wt.no rfl fun b6 s7 m8 bx6 => ?_)))
 replace m0 := m0.trans m8.no
 replace h1 := h1.mono (m8.le no_No)
 refine L.as Wt.no rfl rfl (L.as Wt.no rfl rfl (L.nil (X.seqN (E.seq (E.seq (E.reg (L.mv Wt.no rfl rfl ?_)))))))
 obtain ⟨r9, er9, hm⟩ := bindS hm
 refine L.ca cf27 rfl rfl Wt.no rfl (m_product_Check_c (s := s7) (p0 := p0) h1 er9) rfl ?_
 rintro _ s10 m11 rfl
 replace m0 := m0.trans m11.no
 replace h1 := h1.mono (m11.le no_No)
 replace bx6 := bx6.mv m11 no_No
 refine L.as Wt.no rfl rfl (L.nil (X.seqN (E.seq (E.reg (L.mv Wt.no rfl rfl (L.bi Wt.no rfl rfl rfl rfl (L.nil (X.seqN ?_))))))))
 rcases ifS hm with ⟨hc, hm⟩ | ⟨hc, hm⟩
 ·refine E.cT rfl hc (E.seq (E.reg (L.bu (cs := [.slice none 0 0, .int .i64 0, .slice none 0 0, .slice none 0 0]) pl34 Wt.no rfl rfl rfl (L.mv Wt.no rfl rfl (L.st (c := [.slice none 0 0, .int .i64 0, .slice none 0 0, .slice none 0 0]) (cs' := #[.slice none 0 0, .int .i64 0, .slice none 0 0, .slice none 0 0]) bx6 ag34.sz Wt.no rfl rfl rfl rfl rfl (Nat.le_of_ble_eq_true rfl) rfl fun s12 m13 bx6 => ?_)))))
  replace m0 := m0.trans (m13.one up)
  refine L.as Wt.no rfl rfl (L.as Wt.no rfl rfl (L.nil (X.seqN (E.ret (X.seqR ?_)))))
  obtain rfl := Option.some.inj hm
  exact X.rt (.inl rfl) Tryd.results10 (Rs.cell rfl bx6 ag34 rfl (Rs.tmp rfl (Rs.tmp rfl Rs.nil))) rfl ⟨_, (s12).ren N (fun _ => 0), rfl, rfl, m0.ren hNb, ⟨none, 0, none, 0, none, 0, none, 0, rfl, RdL.nil, RowT.nil, RowT.nil, RowT.nil⟩⟩
 refine E.cF rfl hc (E.skip (X.seqN (E.seq (E.reg (L.mv Wt.no rfl rfl ?_)))))
 obtain ⟨r14, er14, hm⟩ := bindS hm
 refine L.ca cf28 rfl rfl Wt.no rfl (m_product_open_c (s := s10) (p0 := p0) (u1 := (N + 2)) (u2 := 0) h1 er14) rfl ?_
 rintro _ s15 m16 ⟨a17, c17, a18, c18, a19, c19, rfl, h17, h18, h19⟩
 replace h19 := h19.p
 replace m0 := m0.trans m16.no
 replace bx6 := bx6.mv m16 no_No
 refine L.al (N + 1) zz63 rfl Wt.no rfl fun b20 s21 m22 bx20 => ?_
 replace m0 := m0.trans m22.no
 replace h17 := h17.mono (m22.le no_No)
 replace h18 := h18.mv m22 no_No no_No
 replace h19 := h19.mono (m22.le no_No)
 replace bx6 := bx6.mv m22 no_No
 refine L.st (c := [.slice a17 r14.1.length c17, .slice a18 r14.2.1.length c18, .slice a19 r14.2.2.length c19]) (cs' := #[.slice a17 r14.1.length c17, .slice a18 r14.2.1.length c18, .slice a19 r14.2.2.length c19]) bx20 ag63.sz Wt.no rfl rfl rfl rfl rfl (Nat.le_of_ble_eq_true rfl) rfl fun s23 m24 bx20 => ?_
 replace m0 := m0.trans (m24.one up)
 replace bx6 := bx6.mv m24 (tgN (by decide))
 replace h17 := h17.mono (m24.le (tg0 hN))
 replace h18 := h18.mv m24 (tgN (by decide)) (tg0 hN)
 replace h19 := h19.mono (m24.le (tg0 hN))
 refine L.nil (X.seqN (E.seq (E.reg (L.fa fa63_1 Wt.no rfl rfl (L.ld (j := 1) bx20.mem nag31 Wt.no rfl rfl rfl rfl (L.fa fa34_0 Wt.no rfl rfl (L.st (c := [.slice a18 r14.2.1.length c18]) (cs' := #[.slice a18 r14.2.1.length c18, .int .i64 0, .slice none 0 0, .slice none 0 0]) bx6 nag31.sz Wt.no rfl rfl rfl rfl rfl (Nat.le_of_ble_eq_true rfl) rfl fun s25 m26 bx6 => ?_)))))))
 replace m0 := m0.trans (m26.one up)
 replace h18 := h18.mv m26 (tgN (by decide)) (tg0 hN)
 replace bx20 := bx20.mv m26 (tgN (by decide))
 replace h17 := h17.mono (m26.le (tg0 hN))
 replace h19 := h19.mono (m26.le (tg0 hN))
 refine L.nil (X.seqN (E.seq (E.reg (L.lg (j := 0) (cs := [.slice a17 r14.1.length c17, .slice a18 r14.2.1.length c18, .slice a19 r14.2.2.length c19]) bx20.mem ag63 Wt.no rfl rfl rfl rfl rfl ?_))))
 have m27 := Sig.fz_mv (N + 2) s25
 replace h18 := h18.fz (tgn hN)
 replace m0 := m0.trans (m27.one up)
 replace h17 := h17.mono (m27.le (tg0 hN))
 replace h19 := h19.mono (m27.le (tg0 hN))
 replace bx6 := bx6.mv m27 (tgN (by decide))
 replace bx20 := bx20.mv m27 (tgN (by decide))
 refine L.toR (s' := (Sig.fz (N + 2) s25)) rfl ?_
 obtain ⟨r28, er28, hm⟩ := bindS hm
 refine L.ca cf29 rfl rfl Wt.no rfl (m_product_machine_initial_c (s := (Sig.fz (N + 2) s25)) (p0 := r14) (u0 := 0) h17 h18 h19 er28) rfl ?_
 rintro _ s29 m30 ⟨a31, c31, rfl, h31⟩
 replace h31 := h31.p
 replace m0 := m0.trans m30.no
 replace bx6 := bx6.mv m30 no_No
 replace h18 := h18.mono (m30.le no_No)
 replace bx20 := bx20.mv m30 no_No
 replace h17 := h17.mono (m30.le no_No)
 replace h19 := h19.mono (m30.le no_No)
 refine L.mv Wt.no rfl rfl (L.ex Wt.no rfl rfl rfl (L.ex Wt.no rfl rfl rfl (L.as Wt.no rfl rfl (L.as Wt.no rfl rfl (L.nil (X.seqN (E.seq (E.seq (E.reg (L.mv Wt.no rfl rfl (L.not Wt.no rfl rfl (L.nil (X.seqN ?_)))))))))))))
 rcases ifS hm with ⟨hc, hm⟩ | ⟨hc, hm⟩
 ·refine E.cT rfl hc (E.seq (E.reg (L.lg (j := 0) (cs := [.slice a18 r14.2.1.length c18, .int .i64 0, .slice none 0 0, .slice none 0 0]) bx6.mem ag34 Wt.no rfl rfl rfl rfl rfl (L.st (c := [.slice a18 r14.2.1.length c18, .int .i64 0, .slice none 0 0, .slice none 0 0]) (cs' := #[.slice a18 r14.2.1.length c18, .int .i64 0, .slice none 0 0, .slice none 0 0]) bx6 ag34.sz Wt.no rfl rfl rfl rfl rfl (Nat.le_of_ble_eq_true rfl) rfl fun s32 m33 bx6 => ?_))))
  replace m0 := m0.trans (m33.one up)
  replace h18 := h18.mono (m33.le (tg0 hN))
  refine L.as Wt.no rfl rfl (L.as Wt.no rfl rfl (L.nil (X.seqN (E.ret (X.seqR ?_)))))
  obtain rfl := Option.some.inj hm
  exact X.rt (.inl rfl) Tryd.results10 (Rs.cell rfl bx6 ag34 rfl (Rs.tmp rfl (Rs.tmp rfl Rs.nil))) rfl ⟨_, (s32).ren N (fun _ => 0), rfl, rfl, m0.ren hNb, ⟨a18, c18, none, 0, none, 0, none, 0, rfl, (h18.ren hN), RowT.nil, RowT.nil, RowT.nil⟩⟩
 refine E.cF rfl hc (E.skip (X.seqN (E.seq (E.reg (L.mv Wt.no rfl rfl (L.bsE (k := 1) (cs := [.slice a31 r28.1.length c31]) (N + 5) bs35 (Nat.le_of_ble_eq_true rfl) Wt.no rfl rfl rfl rfl fun b34 s35 m36 bx34 => ?_))))))
 replace m0 := m0.trans m36.no
 replace h31 := h31.mono (m36.le no_No)
 replace bx6 := bx6.mv m36 no_No
 replace h18 := h18.mono (m36.le no_No)
 replace bx20 := bx20.mv m36 no_No
 replace h17 := h17.mono (m36.le no_No)
 replace h19 := h19.mono (m36.le no_No)
 have h34 := Bx.row (r := (rL (rK .i64))) (xs := ([r28.1] : List (List Int))) bx34 ⟨[.slice a31 r28.1.length c31], _, rfl, ⟨_, _, rfl, h31⟩, rfl⟩ (Nat.le_of_ble_eq_true rfl)
 refine L.as Wt.no rfl rfl (L.nil (X.seqN (E.seq (E.reg (L.mk2 (kv := kvS) (r := (rK .i64)) (T := 67) (N + 3) rfl Wt.no fun y37 c37 s38 m39 h37 => ?_)))))
 replace h37 := h37.as (T' := 0) (Le.refl _) rfl (fun _ e => e)
 replace m0 := m0.trans m39.no
 replace h34 := h34.mv m39 no_No no_No
 replace h31 := h31.mono (m39.le no_No)
 replace bx6 := bx6.mv m39 no_No
 replace h18 := h18.mono (m39.le no_No)
 replace bx20 := bx20.mv m39 no_No
 replace h17 := h17.mono (m39.le no_No)
 replace h19 := h19.mono (m39.le no_No)
 refine L.mv Wt.no rfl rfl ?_
 obtain ⟨r40, er40, hm⟩ := bindS hm
 refine L.ca cf30 rfl rfl Wt.no rfl (m_product_key_c (s := s38) (p0 := r28.1) h31 er40) rfl ?_
 rintro _ s41 m42 rfl
 replace m0 := m0.trans m42.no
 replace h34 := h34.mv m42 no_No no_No
 replace h37 := h37.mv m42 no_No no_No
 replace bx6 := bx6.mv m42 no_No
 replace h18 := h18.mono (m42.le no_No)
 replace bx20 := bx20.mv m42 no_No
 replace h17 := h17.mono (m42.le no_No)
 replace h19 := h19.mono (m42.le no_No)
 refine L.ins (k := r40) (v := 0) md67 h37 rfl (tpos hN) (fun _ _ => eqS) Wt.no rfl rfl rfl fun s43 m44 h37 => ?_
 replace m0 := m0.trans (m44.one up)
 replace h34 := h34.mv m44 (tgN (by decide)) (tg0 hN)
 replace bx6 := bx6.mv m44 (tgN (by decide))
 replace h18 := h18.mono (m44.le (tg0 hN))
 replace bx20 := bx20.mv m44 (tgN (by decide))
 replace h17 := h17.mono (m44.le (tg0 hN))
 replace h19 := h19.mono (m44.le (tg0 hN))
 refine L.mv Wt.no rfl rfl (L.as Wt.no rfl rfl (L.nil (X.seqN (E.seq (E.seq (E.reg (L.as Wt.no rfl rfl (L.nil (X.seqN (E.block ?_))))))))))
 obtain ⟨o237, eo237, hm⟩ := bindS hm
 refine E.cut (x := .exit 0) (fun e w => ∃ (s246 : Sig) (u245 : List (List Int) × List Int × (List (Int × Int × Int))) (a239 : Option Addr) (c239 : Nat) (a241 : Option Addr) (c241 : Nat) (a243 : Option Addr) (c243 : Nat), o237 = .inl u245 ∧ Mv (Up N No) s s246 ∧ RowT (rL (rK .i64)) s246 (N + 5) 31 a239 c239 u245.1 ∧ RdL (rK .i64) s246 a18 c18 r14.2.1 ∧ RowT (rK .i64) s246 (N + 4) 3 a241 c241 u245.2.1 ∧ RowT (rP (rK .i64) (rP (rK .i64) (rK .i64))) s246 (N + 6) 58 a243 c243 u245.2.2 ∧ Bx s246 (N + 0) b6 #[.slice a18 r14.2.1.length c18, .int .i64 0, .slice a241 u245.2.1.length c241, .slice a243 u245.2.2.length c243] 34 ∧ e = [(3, .slice a239 u245.1.length c239), (2, .pointer (some ⟨b6, 0, none⟩))] ∧ w = s246.w) ?_ ?_
 ·rintro _ _ ⟨s246, u245, a239, c239, a241, c241, a243, c243, rfl, m0, h239, h18, h241, h243, bx6, rfl, rfl⟩
  dsimp only at hm
  refine X.blkE (X.seqN (E.seq (E.reg (L.mv Wt.no rfl rfl (L.len sl35 Wt.no rfl rfl (L.fa fa34_1 Wt.no rfl rfl (L.st (c := [.int .i64 (u245.1.length : Int)]) (cs' := #[.slice a18 r14.2.1.length c18, .int .i64 (u245.1.length : Int), .slice a241 u245.2.1.length c241, .slice a243 u245.2.2.length c243]) bx6 nag3.sz Wt.no rfl rfl rfl rfl rfl (Nat.le_of_ble_eq_true rfl) rfl fun s247 m248 bx6 => ?_)))))))
  replace m0 := m0.trans (m248.one up)
  replace h239 := h239.mv m248 (tgN (by decide)) (tg0 hN)
  replace h18 := h18.mono (m248.le (tg0 hN))
  replace h241 := h241.mv m248 (tgN (by decide)) (tg0 hN)
  replace h243 := h243.mv m248 (tgN (by decide)) (tg0 hN)
  refine L.nil (X.seqN (E.seq (E.reg (L.lg (j := 0) (cs := [.slice a18 r14.2.1.length c18, .int .i64 (u245.1.length : Int), .slice a241 u245.2.1.length c241, .slice a243 u245.2.2.length c243]) bx6.mem ag34 Wt.no rfl rfl rfl rfl rfl (L.mv Wt.no rfl rfl (L.st (c := [.slice a18 r14.2.1.length c18, .int .i64 (u245.1.length : Int), .slice a241 u245.2.1.length c241, .slice a243 u245.2.2.length c243]) (cs' := #[.slice a18 r14.2.1.length c18, .int .i64 (u245.1.length : Int), .slice a241 u245.2.1.length c241, .slice a243 u245.2.2.length c243]) bx6 ag34.sz Wt.no rfl rfl rfl rfl rfl (Nat.le_of_ble_eq_true rfl) rfl fun s249 m250 bx6 => ?_))))))
  replace m0 := m0.trans (m250.one up)
  replace h239 := h239.mv m250 (tgN (by decide)) (tg0 hN)
  replace h18 := h18.mono (m250.le (tg0 hN))
  replace h241 := h241.mv m250 (tgN (by decide)) (tg0 hN)
  replace h243 := h243.mv m250 (tgN (by decide)) (tg0 hN)
  refine L.as Wt.no rfl rfl (L.as Wt.no rfl rfl (L.nil (X.seqN (E.ret ?_))))
  obtain rfl := Option.some.inj hm
  exact X.rt (.inl rfl) Tryd.results10 (Rs.cell rfl bx6 ag34 rfl (Rs.tmp rfl (Rs.tmp rfl Rs.nil))) rfl ⟨_, (s249).ren N (fun k => cond (Nat.beq k 6) u2 (cond (Nat.beq k 5) u3 (cond (Nat.beq k 4) u1 (0)))), rfl, rfl, m0.ren hNb, ⟨a18, c18, a241, c241, a243, c243, a239, c239, rfl, (h18.ren hN), (h241.ren hN), (h243.ren hN), (h239.ren hN)⟩⟩
 intro K251
 refine E.cut (x := .ret) (fun e w => ∃ (s253 : Sig) (u252 : Unit), o237 = .inr (u252) ∧ Mv (Up N No) s s253 ∧ Bx s253 (N + 0) b6 #[.slice none 0 0, .int .i64 0, .slice none 0 0, .slice none 0 0] 34 ∧ e = [(4, .int .i64 3), (3, .slice none 0 0), (2, .pointer (some ⟨b6, 0, none⟩))] ∧ w = s253.w) ?_ ?_
 ·rintro _ _ ⟨s253, u252, rfl, m0, bx6, rfl, rfl⟩
  dsimp only at hm
  refine X.blkR (X.seqR ?_)
  obtain rfl := Option.some.inj hm
  exact X.rt (.inl rfl) Tryd.results10 (Rs.cell rfl bx6 ag34 rfl (Rs.tmp rfl (Rs.tmp rfl Rs.nil))) rfl ⟨_, (s253).ren N (fun _ => 0), rfl, rfl, m0.ren hNb, ⟨none, 0, none, 0, none, 0, none, 0, rfl, RdL.nil, RowT.nil, RowT.nil, RowT.nil⟩⟩
 intro K254
 refine E.iter (fun (st237 : Int × (List (ByteArray × Int)) × List (List Int) × List Int × (List (Int × Int × Int))) (e : List (Nat × Value)) (w : World) => ∃ (s244 : Sig) (a48 : Option Addr) (c48 : Nat) (a50 : Option Addr) (c50 : Nat) (a52 : Option Addr) (c52 : Nat), Mv (Up N No) s s244 ∧ MapO kvS (rK .i64) s244 (N + 3) 0 y37 c37 st237.2.1 ∧ RowT (rL (rK .i64)) s244 (N + 5) 31 a48 c48 st237.2.2.1 ∧ RdL (rK .i64) s244 a18 c18 r14.2.1 ∧ RowT (rK .i64) s244 (N + 4) 3 a50 c50 st237.2.2.2.1 ∧ RowT (rP (rK .i64) (rP (rK .i64) (rK .i64))) s244 (N + 6) 58 a52 c52 st237.2.2.2.2 ∧ RdL (rP (rL (rK .i64)) (rP (rK .i64) (rP (rL (rK .i64)) (rL (rP (rK .i64) (rP (rK .i64) (rK .i64))))))) s244 a17 c17 r14.1 ∧ RdL (rM kvP (rK .i64)) s244 a19 c19 r14.2.2 ∧ Bx s244 (N + 0) b6 #[.slice a18 r14.2.1.length c18, .int .i64 0, .slice a50 st237.2.2.2.1.length c50, .slice a52 st237.2.2.2.2.length c52] 34 ∧ Bx s244 (N + 1) b20 #[.slice a17 r14.1.length c17, .slice a18 r14.2.1.length c18, .slice a19 r14.2.2.length c19] 63 ∧ e = [(10, .int .i64 st237.1), (9, .map y37), (3, .slice a48 st237.2.2.1.length c48), (6, .pointer (some ⟨b20, 0, none⟩)), (2, .pointer (some ⟨b6, 0, none⟩))] ∧ w = s244.w) eo237 ⟨s43, (some ⟨b34, 0, none⟩), ([r28.1] : List (List Int)).length, none, 0, none, 0, m0, h37, h34, h18, RowT.nil, RowT.nil, h17, h19, bx6, bx20, rfl, rfl⟩ (Sub.rf rfl) ?_
 rintro st237 res237 hm ih237 ho237 _ _ ⟨s244, a48, c48, a50, c50, a52, c52, m0, h37, h48, h18, h50, h52, h17, h19, bx6, bx20, rfl, rfl⟩
 unfold m_product_Synchronous_l1 at hm
 refine E.seq (E.seq (E.reg (L.mv Wt.no rfl rfl (L.mv Wt.no rfl rfl (L.len sl35 Wt.no rfl rfl (L.bi Wt.no rfl rfl rfl rfl (L.nil (X.seqN ?_))))))))
 rcases ifS hm with ⟨hc, hm⟩ | ⟨hc, hm⟩
 ·refine E.cT rfl hc (E.skip (X.seqN (E.seq (E.block (E.seqJ (fun e w => ∃ (s257 : Sig) (l255 : List Int) (a256 : Option Addr) (c256 : Nat), m_product_Synchronous_j1 r14 st237 l255 = some res237 ∧ Mv (Up N No) s s257 ∧ MapO kvS (rK .i64) s257 (N + 3) 0 y37 c37 st237.2.1 ∧ RowT (rL (rK .i64)) s257 (N + 5) 31 a48 c48 st237.2.2.1 ∧ RdL (rK .i64) s257 a18 c18 r14.2.1 ∧ RowT (rK .i64) s257 (N + 4) 3 a256 c256 l255 ∧ RowT (rP (rK .i64) (rP (rK .i64) (rK .i64))) s257 (N + 6) 58 a52 c52 st237.2.2.2.2 ∧ RdL (rP (rL (rK .i64)) (rP (rK .i64) (rP (rL (rK .i64)) (rL (rP (rK .i64) (rP (rK .i64) (rK .i64))))))) s257 a17 c17 r14.1 ∧ RdL (rM kvP (rK .i64)) s257 a19 c19 r14.2.2 ∧ Bx s257 (N + 0) b6 #[.slice a18 r14.2.1.length c18, .int .i64 0, .slice a256 l255.length c256, .slice a52 st237.2.2.2.2.length c52] 34 ∧ Bx s257 (N + 1) b20 #[.slice a17 r14.1.length c17, .slice a18 r14.2.1.length c18, .slice a19 r14.2.2.length c19] 63 ∧ e = [(10, .int .i64 st237.1), (9, .map y37), (3, .slice a48 st237.2.2.1.length c48), (6, .pointer (some ⟨b20, 0, none⟩)), (2, .pointer (some ⟨b6, 0, none⟩))] ∧ w = s257.w) ?_ ?_)))))
  ·rintro _ _ ⟨s257, l255, a256, c256, hm, m0, h37, h48, h18, h256, h52, h17, h19, bx6, bx20, rfl, rfl⟩
   unfold m_product_Synchronous_j1 at hm
   refine E.seq (E.reg (L.fa fa63_1 Wt.no rfl rfl (L.ld (j := 1) bx20.mem nag31 Wt.no rfl rfl rfl rfl (L.len sl31 Wt.no rfl rfl (L.mv Wt.no rfl rfl (L.nil (X.seqN (E.block ?_))))))))
   obtain ⟨o333, eo333, hm⟩ := bindS hm
   refine E.cut (x := .exit 2) (fun e w => ∃ (s341 : Sig) (u340 : (List (ByteArray × Int)) × List (List Int) × (List (Int × Int × Int))) (a336 : Option Addr) (c336 : Nat) (a338 : Option Addr) (c338 : Nat), o333 = .inl u340 ∧ Mv (Up N No) s s341 ∧ MapO kvS (rK .i64) s341 (N + 3) 0 y37 c37 u340.1 ∧ RowT (rL (rK .i64)) s341 (N + 5) 31 a336 c336 u340.2.1 ∧ RdL (rK .i64) s341 a18 c18 r14.2.1 ∧ RowT (rK .i64) s341 (N + 4) 3 a256 c256 l255 ∧ RowT (rP (rK .i64) (rP (rK .i64) (rK .i64))) s341 (N + 6) 58 a338 c338 u340.2.2 ∧ RdL (rP (rL (rK .i64)) (rP (rK .i64) (rP (rL (rK .i64)) (rL (rP (rK .i64) (rP (rK .i64) (rK .i64))))))) s341 a17 c17 r14.1 ∧ RdL (rM kvP (rK .i64)) s341 a19 c19 r14.2.2 ∧ Bx s341 (N + 0) b6 #[.slice a18 r14.2.1.length c18, .int .i64 0, .slice a256 l255.length c256, .slice a338 u340.2.2.length c338] 34 ∧ Bx s341 (N + 1) b20 #[.slice a17 r14.1.length c17, .slice a18 r14.2.1.length c18, .slice a19 r14.2.2.length c19] 63 ∧ e = [(10, .int .i64 st237.1), (9, .map y37), (3, .slice a336 u340.2.1.length c336), (6, .pointer (some ⟨b20, 0, none⟩)), (2, .pointer (some ⟨b6, 0, none⟩))] ∧ w = s341.w) ?_ ?_
   ·rintro _ _ ⟨s341, u340, a336, c336, a338, c338, rfl, m0, h37, h336, h18, h256, h338, h17, h19, bx6, bx20, rfl, rfl⟩
    dsimp only at hm
    exact X.blkE (X.blkN (X.seqN (E.reg (L.mv Wt.no rfl rfl (L.bi Wt.no rfl rfl rfl rfl (L.as Wt.no rfl rfl (L.nil (X.sub (ih237 _ (Option.some.inj hm).symm _ _ ⟨s341, a336, c336, a256, c256, a338, c338, m0, h37, h336, h18, h256, h338, h17, h19, bx6, bx20, rfl, rfl⟩) (Sub.rf rfl)))))))))
   intro K342
   refine E.cut (x := .ret) (fun e w => ∃ (s344 : Sig) (u343 : Unit), o333 = .inr (u343) ∧ Mv (Up N No) s s344 ∧ Bx s344 (N + 0) b6 #[.slice none 0 0, .int .i64 0, .slice none 0 0, .slice none 0 0] 34 ∧ e = [(4, .int .i64 3), (3, .slice none 0 0), (2, .pointer (some ⟨b6, 0, none⟩))] ∧ w = s344.w) ?_ ?_
   ·rintro _ _ ⟨s344, u343, rfl, m0, bx6, rfl, rfl⟩
    dsimp only at hm
    refine X.blkR (X.blkR (X.seqR (X.seqR ?_)))
    have hx := ho237 _ (Option.some.inj hm).symm
    exact X.sub (K254 _ _ ⟨s344, (), hx.symm, m0, bx6, rfl, rfl⟩) (Sub.rf rfl)
   intro K345
   refine E.iter (fun (st333 : Int × (List (ByteArray × Int)) × List (List Int) × (List (Int × Int × Int))) (e : List (Nat × Value)) (w : World) => ∃ (s339 : Sig) (a262 : Option Addr) (c262 : Nat) (a264 : Option Addr) (c264 : Nat), Mv (Up N No) s s339 ∧ RdL (rK .i64) s339 a18 c18 r14.2.1 ∧ MapO kvS (rK .i64) s339 (N + 3) 0 y37 c37 st333.2.1 ∧ RowT (rL (rK .i64)) s339 (N + 5) 31 a262 c262 st333.2.2.1 ∧ RowT (rK .i64) s339 (N + 4) 3 a256 c256 l255 ∧ RowT (rP (rK .i64) (rP (rK .i64) (rK .i64))) s339 (N + 6) 58 a264 c264 st333.2.2.2 ∧ RdL (rP (rL (rK .i64)) (rP (rK .i64) (rP (rL (rK .i64)) (rL (rP (rK .i64) (rP (rK .i64) (rK .i64))))))) s339 a17 c17 r14.1 ∧ RdL (rM kvP (rK .i64)) s339 a19 c19 r14.2.2 ∧ Bx s339 (N + 0) b6 #[.slice a18 r14.2.1.length c18, .int .i64 0, .slice a256 l255.length c256, .slice a264 st333.2.2.2.length c264] 34 ∧ Bx s339 (N + 1) b20 #[.slice a17 r14.1.length c17, .slice a18 r14.2.1.length c18, .slice a19 r14.2.2.length c19] 63 ∧ e = [(63, .int .i64 st333.1), (62, .int .i64 (r14.2.1.length : Int)), (61, .slice a18 r14.2.1.length c18), (10, .int .i64 st237.1), (9, .map y37), (3, .slice a262 st333.2.2.1.length c262), (6, .pointer (some ⟨b20, 0, none⟩)), (2, .pointer (some ⟨b6, 0, none⟩))] ∧ w = s339.w) eo333 ⟨s257, a48, c48, a52, c52, m0, h18, h37, h48, h256, h52, h17, h19, bx6, bx20, rfl, rfl⟩ (Sub.rf rfl) ?_
   rintro st333 res333 hm ih333 ho333 _ _ ⟨s339, a262, c262, a264, c264, m0, h18, h37, h262, h256, h264, h17, h19, bx6, bx20, rfl, rfl⟩
   unfold m_product_Synchronous_l2 at hm
   refine E.seq (E.reg (L.bi Wt.no rfl rfl rfl rfl (L.nil (X.seqN (E.seq ?_)))))
   rcases ifS hm with ⟨hc, hm⟩ | ⟨hc, hm⟩
   ·refine E.cT rfl hc (E.skip (X.seqN (E.seqJ (fun e w => ∃ (s351 : Sig) (l346 : List (ByteArray × Int)) (l347 : List (List Int)) (l349 : List (Int × Int × Int)) (a348 : Option Addr) (c348 : Nat) (a350 : Option Addr) (c350 : Nat), m_product_Synchronous_j2 st333 l346 l347 l349 = some res333 ∧ Mv (Up N No) s s351 ∧ RdL (rK .i64) s351 a18 c18 r14.2.1 ∧ MapO kvS (rK .i64) s351 (N + 3) 0 y37 c37 l346 ∧ RowT (rL (rK .i64)) s351 (N + 5) 31 a348 c348 l347 ∧ RowT (rK .i64) s351 (N + 4) 3 a256 c256 l255 ∧ RowT (rP (rK .i64) (rP (rK .i64) (rK .i64))) s351 (N + 6) 58 a350 c350 l349 ∧ RdL (rP (rL (rK .i64)) (rP (rK .i64) (rP (rL (rK .i64)) (rL (rP (rK .i64) (rP (rK .i64) (rK .i64))))))) s351 a17 c17 r14.1 ∧ RdL (rM kvP (rK .i64)) s351 a19 c19 r14.2.2 ∧ Bx s351 (N + 0) b6 #[.slice a18 r14.2.1.length c18, .int .i64 0, .slice a256 l255.length c256, .slice a350 l349.length c350] 34 ∧ Bx s351 (N + 1) b20 #[.slice a17 r14.1.length c17, .slice a18 r14.2.1.length c18, .slice a19 r14.2.2.length c19] 63 ∧ e = [(63, .int .i64 st333.1), (62, .int .i64 (r14.2.1.length : Int)), (61, .slice a18 r14.2.1.length c18), (10, .int .i64 st237.1), (9, .map y37), (3, .slice a348 l347.length c348), (6, .pointer (some ⟨b20, 0, none⟩)), (2, .pointer (some ⟨b6, 0, none⟩))] ∧ w = s351.w) ?_ ?_)))
    ·rintro _ _ ⟨s351, l346, l347, l349, a348, c348, a350, c350, hm, m0, h18, h37, h348, h256, h350, h17, h19, bx6, bx20, rfl, rfl⟩
     unfold m_product_Synchronous_j2 at hm
     exact E.reg (L.bi Wt.no rfl rfl rfl rfl (L.mv Wt.no rfl rfl (L.nil (X.sub (ih333 _ (Option.some.inj hm).symm _ _ ⟨s351, a348, c348, a350, c350, m0, h18, h37, h348, h256, h350, h17, h19, bx6, bx20, rfl, rfl⟩) (Sub.rf rfl)))))
    intro Jj352
    refine E.block (E.seq (E.reg ?_))
    obtain ⟨x353, ex353, hm⟩ := bindS hm
    refine L.ix (r := (rK .i64)) sl31 h18 Wt.no rfl rfl ex353 rfl fun b354 o354 cc354 me354 rd354 => ?_
    obtain rfl := rd354
    refine L.ld (j := 0) me354 nag3 Wt.no rfl rfl rfl rfl (L.as Wt.no rfl rfl (L.nil (X.seqN (E.seq ?_))))
    obtain ⟨x359, ex359, hm⟩ := bindS hm
    obtain ⟨r366, er366, hm⟩ := bindS hm
    refine E.draw [[], [], [], [1, 2], [1, 2, 3], [], [0, 1, 2, 3, 4, 5], [0, 1, 2, 3, 4, 5, 6], [0, 1, 2, 3, 4, 5, 6, 7], [0, 1, 2, 3, 4, 5, 6, 7], [0, 1, 2, 3, 4, 5, 6, 7, 8], [0, 1, 2, 3, 4, 5, 6, 7, 8, 9, 10]] (fun D e sx => Mv No s339 sx ∧ Sub [(12, .int .i64 x353), (63, .int .i64 st333.1), (62, .int .i64 (r14.2.1.length : Int)), (61, .slice a18 r14.2.1.length c18), (10, .int .i64 st237.1), (9, .map y37), (3, .slice a262 st333.2.2.1.length c262), (6, .pointer (some ⟨b20, 0, none⟩)), (2, .pointer (some ⟨b6, 0, none⟩))] e ∧ AllP [G D e 0 68 (.agg #[.slice a17 r14.1.length c17, .slice a18 r14.2.1.length c18, .slice a19 r14.2.2.length c19]), G D e 1 69 (.slice a262 st333.2.2.1.length c262), G D e 2 70 (.int .i64 st237.1), D 3 = true → (∃ (b360 : Nat) (o360 : Nat) (a361 : Option Addr) (c361 : Nat), Env.get e 71 = some (.pointer (some ⟨b360, o360, none⟩)) ∧ Mem sx (N + 5) b360 o360 [.slice a361 x359.length c361] ∧ RdL (rK .i64) sx a361 c361 x359 ∧ Spot a262 (rL (rK .i64)).sz (st237.1).toNat b360 o360), D 4 = true → (∃ (a363 : Option Addr) (c363 : Nat), Env.get e 72 = some (.slice a363 x359.length c363) ∧ RdL (rK .i64) sx a363 c363 x359), G D e 5 73 (.int .i64 x353), D 6 = true → (∃ (a369 : Option Addr) (c369 : Nat), Env.get e 74 = some (.tuple #[.slice a369 r366.1.length c369, .bool r366.2]) ∧ RdL (rK .i64) sx a369 c369 r366.1), D 7 = true → ∀ (a369 : Option Addr) (c369 : Nat), Env.get e 74 = some (.tuple #[.slice a369 r366.1.length c369, .bool r366.2]) → (Env.get e 67 = some (.tuple #[.slice a369 r366.1.length c369, .bool r366.2])), D 8 = true → ∀ (a369 : Option Addr) (c369 : Nat), Env.get e 74 = some (.tuple #[.slice a369 r366.1.length c369, .bool r366.2]) → (Env.get e 75 = some (.slice a369 r366.1.length c369)), G D e 9 76 (.bool r366.2), D 10 = true → ∀ (a369 : Option Addr) (c369 : Nat), Env.get e 74 = some (.tuple #[.slice a369 r366.1.length c369, .bool r366.2]) → (Env.get e 13 = some (.slice a369 r366.1.length c369)), G D e 11 14 (.bool r366.2)]) (by kernel_rfl) (by kernel_rfl) (by kernel_rfl) ?_ ?_ ?_
    ·intro sz mz
     exact ⟨mz, (Sub.rf rfl), nofun, nofun, nofun, nofun, nofun, nofun, nofun, nofun, nofun, nofun, nofun, nofun, trivial⟩
    ·refine ⟨?_, ?_, ?_, ?_, ?_, ?_, ?_, ?_, ?_, ?_, ?_, ?_, trivial⟩
     ·rintro D e s355 ⟨im, ib, i⟩ hk hf ha
      have bx20 := bx20.mv im no_No
      have kn := K1 (ib 6 _ rfl)
      exact L.kns _ kn (L.lg (j := 0) (cs := [.slice a17 r14.1.length c17, .slice a18 r14.2.1.length c18, .slice a19 r14.2.2.length c19]) bx20.mem ag63 Wt.no rfl rfl rfl rfl rfl (L.nil (X.dk kn ⟨im, Sub.fresh ib rfl, i.u 0 (fun _ => rfl)⟩)))
     ·rintro D e s356 ⟨im, ib, i⟩ hk hf ha
      have kn := K1 (ib 3 _ rfl)
      exact L.kns _ kn (L.mv Wt.no rfl rfl (L.nil (X.dk kn ⟨im, Sub.fresh ib rfl, i.u 1 (fun _ => rfl)⟩)))
     ·rintro D e s357 ⟨im, ib, i⟩ hk hf ha
      have kn := K1 (ib 10 _ rfl)
      exact L.kns _ kn (L.mv Wt.no rfl rfl (L.nil (X.dk kn ⟨im, Sub.fresh ib rfl, i.u 2 (fun _ => rfl)⟩)))
     ·rintro D e s358 ⟨im, ib, i⟩ hk hf ha
      have h262 := h262.mv im no_No no_No
      have kn := K2 ((i.p 1) (ha.at 1 rfl)) ((i.p 2) (ha.at 2 rfl))
      refine L.kns _ kn (L.ir (r := (rL (rK .i64))) sl35 h262 Wt.no rfl rfl ex359 rfl fun b360 o360 cc360 me360 rd360 sp360 => ?_)
      obtain ⟨a361, c361, rfl, h361⟩ := rd360
      exact L.nil (X.dk kn ⟨im, Sub.fresh ib rfl, i.u 3 (fun _ => ⟨b360, o360, a361, c361, rfl, me360, h361, sp360⟩)⟩)
     ·rintro D e s362 ⟨im, ib, i⟩ hk hf ha
      obtain ⟨b360, o360, a361, c361, g3_, me360, h361, sp360⟩ := (i.p 3) (ha.at 3 rfl)
      have kn := K1 g3_
      refine L.kns _ kn (L.ld (j := 0) me360 nag31 Wt.no rfl rfl rfl rfl ?_)
      obtain ⟨a363, c363, ea363, ec363, h363⟩ : ∃ a c, a = a361 ∧ c = c361 ∧ RdL (rK .i64) s362 a c x359 := ⟨_, _, rfl, rfl, h361⟩
      subst ea363 ec363
      exact L.nil (X.dk kn ⟨im, Sub.fresh ib rfl, i.u 4 (fun _ => ⟨a363, c363, rfl, h363⟩)⟩)
     ·rintro D e s364 ⟨im, ib, i⟩ hk hf ha
      have kn := K1 (ib 12 _ rfl)
      exact L.kns _ kn (L.mv Wt.no rfl rfl (L.nil (X.dk kn ⟨im, Sub.fresh ib rfl, i.u 5 (fun _ => rfl)⟩)))
     ·rintro D e s365 ⟨im, ib, i⟩ hk hf ha
      obtain ⟨a363, c363, g4_, h363⟩ := (i.p 4) (ha.at 4 rfl)
      have h18 := h18.mono (im.le no_No)
      have h17 := h17.mono (im.le no_No)
      have h19 := h19.mono (im.le no_No)
      have kn := K3 ((i.p 0) (ha.at 0 rfl)) g4_ ((i.p 5) (ha.at 5 rfl))
      refine L.kns _ kn (L.ca cf32 rfl rfl Wt.no rfl (m_product_machine_step_c (s := s365) (p0 := r14) (p1 := x359) (p2 := x353) (u0 := 0) h17 h18 h19 h363 er366) rfl ?_)
      rintro _ s367 m368 ⟨a369, c369, rfl, h369⟩
      replace h369 := h369.p
      exact L.nil (X.dk kn ⟨im.trans m368.no, Sub.fresh ib rfl, (((((i.u 3 (fun z => let ⟨b360, o360, a361, c361, q, me360, h361, sp360⟩ := (i.p 3) z; ⟨b360, o360, a361, c361, q, (me360.mv m368 no_No), (h361.mono (m368.le no_No)), sp360⟩)).u 4 (fun z => let ⟨a363, c363, q, h363⟩ := (i.p 4) z; ⟨a363, c363, q, (h363.mono (m368.le no_No))⟩)).u 6 (fun _ => ⟨a369, c369, rfl, h369⟩)).u 7 (fun z => Bool.noConfusion ((hf 7 (Nat.le_of_ble_eq_true rfl) rfl).symm.trans z))).u 8 (fun z => Bool.noConfusion ((hf 8 (Nat.le_of_ble_eq_true rfl) rfl).symm.trans z))).u 10 (fun z => Bool.noConfusion ((hf 10 (Nat.le_of_ble_eq_true rfl) rfl).symm.trans z))⟩)
     ·rintro D e s370 ⟨im, ib, i⟩ hk hf ha
      obtain ⟨a369, c369, g6_, h369⟩ := (i.p 6) (ha.at 6 rfl)
      have kn := K1 g6_
      exact L.kns _ kn (L.mv Wt.no rfl rfl (L.nil (X.dk kn ⟨im, Sub.fresh ib rfl, i.u 7 (fun _ _ _ q6 => by cases g6_.symm.trans q6; exact rfl)⟩)))
     ·rintro D e s371 ⟨im, ib, i⟩ hk hf ha
      obtain ⟨a369, c369, g6_, h369⟩ := (i.p 6) (ha.at 6 rfl)
      have g7_ := (i.p 7) (ha.at 7 rfl) a369 c369 g6_
      have kn := K1 g7_
      exact L.kns _ kn (L.ex Wt.no rfl rfl rfl (L.nil (X.dk kn ⟨im, Sub.fresh ib rfl, i.u 8 (fun _ _ _ q6 => by cases g6_.symm.trans q6; exact rfl)⟩)))
     ·rintro D e s372 ⟨im, ib, i⟩ hk hf ha
      obtain ⟨a369, c369, g6_, h369⟩ := (i.p 6) (ha.at 6 rfl)
      have g7_ := (i.p 7) (ha.at 7 rfl) a369 c369 g6_
      have kn := K1 g7_
      exact L.kns _ kn (L.ex Wt.no rfl rfl rfl (L.nil (X.dk kn ⟨im, Sub.fresh ib rfl, i.u 9 (fun _ => rfl)⟩)))
     ·rintro D e s373 ⟨im, ib, i⟩ hk hf ha
      obtain ⟨a369, c369, g6_, h369⟩ := (i.p 6) (ha.at 6 rfl)
      have g8_ := (i.p 8) (ha.at 8 rfl) a369 c369 g6_
      have kn := K1 g8_
      exact L.kns _ kn (L.as Wt.no rfl rfl (L.nil (X.dk kn ⟨im, Sub.fresh ib rfl, i.u 10 (fun _ _ _ q6 => by cases g6_.symm.trans q6; exact rfl)⟩)))
     rintro D e s374 ⟨im, ib, i⟩ hk hf ha
     have kn := K1 ((i.p 9) (ha.at 9 rfl))
     exact L.kns _ kn (L.as Wt.no rfl rfl (L.nil (X.dk kn ⟨im, Sub.fresh ib rfl, i.u 11 (fun _ => rfl)⟩)))
    rintro D e s375 hD ⟨im, ib, i⟩
    obtain ⟨a369, c369, g6_, h369⟩ := (i.p 6) (hD 6 rfl)
    have g10_ := (i.p 10) (hD 10 rfl) a369 c369 g6_
    have g11_ := (i.p 11) (hD 11 rfl)
    have h18 := h18.mono (im.le no_No)
    have h37 := h37.mv im no_No no_No
    have h262 := h262.mv im no_No no_No
    have bx20 := bx20.mv im no_No
    have h17 := h17.mono (im.le no_No)
    have h19 := h19.mono (im.le no_No)
    have bx6 := bx6.mv im no_No
    have h256 := h256.mv im no_No no_No
    have h264 := h264.mv im no_No no_No
    have m0 := m0.trans im.no
    refine X.sub (e' := [(14, .bool r366.2), (13, .slice a369 r366.1.length c369), (12, .int .i64 x353), (63, .int .i64 st333.1), (62, .int .i64 (r14.2.1.length : Int)), (61, .slice a18 r14.2.1.length c18), (10, .int .i64 st237.1), (9, .map y37), (3, .slice a262 st333.2.2.1.length c262), (6, .pointer (some ⟨b20, 0, none⟩)), (2, .pointer (some ⟨b6, 0, none⟩))]) ?_ (Sub.cons g11_ (Sub.cons g10_ (Sub.cons (ib 12 _ rfl) (Sub.cons (ib 63 _ rfl) (Sub.cons (ib 62 _ rfl) (Sub.cons (ib 61 _ rfl) (Sub.cons (ib 10 _ rfl) (Sub.cons (ib 9 _ rfl) (Sub.cons (ib 3 _ rfl) (Sub.cons (ib 6 _ rfl) (Sub.cons (ib 2 _ rfl) Sub.nil)))))))))))
    refine X.seqN (E.seq (E.seq (E.reg (L.mv Wt.no rfl rfl (L.not Wt.no rfl rfl (L.nil (X.seqN ?_)))))))
    rcases ifS hm with ⟨hc, hm⟩ | ⟨hc, hm⟩
    ·exact E.cT rfl hc (E.exit (X.seqX (X.blkE (X.sub (Jj352 _ _ ⟨s375, st333.2.1, st333.2.2.1, st333.2.2.2, a262, c262, a264, c264, hm, m0, h18, h37, h262, h256, h264, h17, h19, bx6, bx20, rfl, rfl⟩) (Sub.rf rfl)))))
    refine E.cF rfl hc (E.skip (X.seqN (E.seq (E.reg (L.mv Wt.no rfl rfl (L.mv Wt.no rfl rfl ?_))))))
    obtain ⟨r376, er376, hm⟩ := bindS hm
    refine L.ca cf30 rfl rfl Wt.no rfl (m_product_key_c (s := s375) (p0 := r366.1) h369 er376) rfl ?_
    rintro _ s377 m378 rfl
    replace m0 := m0.trans m378.no
    replace h262 := h262.mv m378 no_No no_No
    replace h37 := h37.mv m378 no_No no_No
    replace h369 := h369.mono (m378.le no_No)
    replace h18 := h18.mono (m378.le no_No)
    replace bx6 := bx6.mv m378 no_No
    replace h256 := h256.mv m378 no_No no_No
    replace h264 := h264.mv m378 no_No no_No
    replace bx20 := bx20.mv m378 no_No
    replace h17 := h17.mono (m378.le no_No)
    replace h19 := h19.mono (m378.le no_No)
    refine L.mi2 (k := r376) md67 h37.any Wt.no rfl rfl rfl (L.mv Wt.no rfl rfl (L.ex Wt.no rfl rfl rfl (L.ex Wt.no rfl rfl rfl (L.as Wt.no rfl rfl (L.as Wt.no rfl rfl (L.nil (X.seqN (E.seqJ (fun e w => ∃ (s383 : Sig) (l379 : List (List Int)) (n381 : Int) (l382 : List (ByteArray × Int)) (a380 : Option Addr) (c380 : Nat), m_product_Synchronous_j3 st237 st333 x353 l379 n381 l382 = some res333 ∧ Mv (Up N No) s s383 ∧ RowT (rL (rK .i64)) s383 (N + 5) 31 a380 c380 l379 ∧ RdL (rK .i64) s383 a18 c18 r14.2.1 ∧ MapO kvS (rK .i64) s383 (N + 3) 0 y37 c37 l382 ∧ RowT (rK .i64) s383 (N + 4) 3 a256 c256 l255 ∧ RowT (rP (rK .i64) (rP (rK .i64) (rK .i64))) s383 (N + 6) 58 a264 c264 st333.2.2.2 ∧ RdL (rP (rL (rK .i64)) (rP (rK .i64) (rP (rL (rK .i64)) (rL (rP (rK .i64) (rP (rK .i64) (rK .i64))))))) s383 a17 c17 r14.1 ∧ RdL (rM kvP (rK .i64)) s383 a19 c19 r14.2.2 ∧ Bx s383 (N + 0) b6 #[.slice a18 r14.2.1.length c18, .int .i64 0, .slice a256 l255.length c256, .slice a264 st333.2.2.2.length c264] 34 ∧ Bx s383 (N + 1) b20 #[.slice a17 r14.1.length c17, .slice a18 r14.2.1.length c18, .slice a19 r14.2.2.length c19] 63 ∧ e = [(3, .slice a380 l379.length c380), (15, .int .i64 n381), (12, .int .i64 x353), (63, .int .i64 st333.1), (62, .int .i64 (r14.2.1.length : Int)), (61, .slice a18 r14.2.1.length c18), (10, .int .i64 st237.1), (9, .map y37), (6, .pointer (some ⟨b20, 0, none⟩)), (2, .pointer (some ⟨b6, 0, none⟩))] ∧ w = s383.w) ?_ ?_))))))))
    ·rintro _ _ ⟨s383, l379, n381, l382, a380, c380, hm, m0, h380, h18, h37, h256, h264, h17, h19, bx6, bx20, rfl, rfl⟩
     unfold m_product_Synchronous_j3 at hm
     refine E.reg (L.fa fa34_3 Wt.no rfl rfl (L.ld (j := 3) bx6.mem nag32 Wt.no rfl rfl rfl rfl (L.mv Wt.no rfl rfl (L.mv Wt.no rfl rfl (L.mv Wt.no rfl rfl (L.bu (cs := [.int .i64 st237.1, .int .i64 x353, .int .i64 n381]) pl58 Wt.no rfl rfl rfl (L.bsE (k := 1) (cs := [.int .i64 st237.1, .int .i64 x353, .int .i64 n381]) 0 bs32 (Nat.le_of_ble_eq_true rfl) Wt.no rfl rfl rfl rfl fun b385 s386 m387 bx385 => ?_)))))))
     replace m0 := m0.trans m387.no
     replace h380 := h380.mv m387 no_No no_No
     replace h264 := h264.mv m387 no_No no_No
     replace h37 := h37.mv m387 no_No no_No
     replace h18 := h18.mono (m387.le no_No)
     replace bx6 := bx6.mv m387 no_No
     replace h256 := h256.mv m387 no_No no_No
     replace bx20 := bx20.mv m387 no_No
     replace h17 := h17.mono (m387.le no_No)
     replace h19 := h19.mono (m387.le no_No)
     have h385 := Bx.rdL (r := (rP (rK .i64) (rP (rK .i64) (rK .i64)))) (xs := ([(st237.1, x353, n381)] : List (Int × Int × Int))) bx385 ⟨[.int .i64 st237.1, .int .i64 x353, .int .i64 n381], _, rfl, ⟨[.int .i64 st237.1], [.int .i64 x353, .int .i64 n381], rfl, rfl, ⟨[.int .i64 x353], [.int .i64 n381], rfl, rfl, rfl⟩⟩, rfl⟩ (Nat.le_of_ble_eq_true rfl)
     obtain ⟨x388, ex388, hm⟩ := bindS hm
     refine L.ap (r := (rP (rK .i64) (rP (rK .i64) (rK .i64)))) Tryd.underlying32 el58 rfl (tgp hN) h264 h385.wk Wt.no rfl rfl ex388 rfl fun a389 c389 s390 m391 h389 => ?_
     replace m0 := m0.trans (m391.one up)
     replace h380 := h380.mv m391 (tgN (by decide)) (tg0 hN)
     replace h37 := h37.mv m391 (tgN (by decide)) (tg0 hN)
     replace h18 := h18.mono (m391.le (tg0 hN))
     replace bx6 := bx6.mv m391 (tgN (by decide))
     replace h256 := h256.mv m391 (tgN (by decide)) (tg0 hN)
     replace bx20 := bx20.mv m391 (tgN (by decide))
     replace h17 := h17.mono (m391.le (tg0 hN))
     replace h19 := h19.mono (m391.le (tg0 hN))
     refine L.fa fa34_3 Wt.no rfl rfl (L.st (c := [.slice a389 x388.length c389]) (cs' := #[.slice a18 r14.2.1.length c18, .int .i64 0, .slice a256 l255.length c256, .slice a389 x388.length c389]) bx6 nag32.sz Wt.no rfl rfl rfl rfl rfl (Nat.le_of_ble_eq_true rfl) rfl fun s392 m393 bx6 => ?_)
     replace m0 := m0.trans (m393.one up)
     replace h380 := h380.mv m393 (tgN (by decide)) (tg0 hN)
     replace h37 := h37.mv m393 (tgN (by decide)) (tg0 hN)
     replace h18 := h18.mono (m393.le (tg0 hN))
     replace h256 := h256.mv m393 (tgN (by decide)) (tg0 hN)
     replace h389 := h389.mv m393 (tgN (by decide)) (tg0 hN)
     replace bx20 := bx20.mv m393 (tgN (by decide))
     replace h17 := h17.mono (m393.le (tg0 hN))
     replace h19 := h19.mono (m393.le (tg0 hN))
     exact L.nil (X.blkN (X.sub (Jj352 _ _ ⟨s392, l382, l379, x388, a380, c380, a389, c389, hm, m0, h18, h37, h380, h256, h389, h17, h19, bx6, bx20, rfl, rfl⟩) (Sub.rf rfl)))
    intro Jj384
    refine E.seq (E.reg (L.mv Wt.no rfl rfl (L.not Wt.no rfl rfl (L.nil (X.seqN ?_)))))
    rcases ifS hm with ⟨hc, hm⟩ | ⟨hc, hm⟩
    ·refine E.cT rfl hc (E.seq (E.seq (E.reg (L.mv Wt.no rfl rfl (L.len sl35 Wt.no rfl rfl (L.bi Wt.no rfl rfl rfl rfl (L.nil (X.seqN ?_))))))))
     rcases ifS hm with ⟨hc, hm⟩ | ⟨hc, hm⟩
     ·refine E.cT rfl hc (E.seq (E.reg (L.bu (cs := [.slice none 0 0, .int .i64 0, .slice none 0 0, .slice none 0 0]) pl34 Wt.no rfl rfl rfl (L.st (c := [.slice none 0 0, .int .i64 0, .slice none 0 0, .slice none 0 0]) (cs' := #[.slice none 0 0, .int .i64 0, .slice none 0 0, .slice none 0 0]) bx6 ag34.sz Wt.no rfl rfl rfl rfl rfl (Nat.le_of_ble_eq_true rfl) rfl fun s394 m395 bx6 => ?_))))
      replace m0 := m0.trans (m395.one up)
      refine L.as Wt.no rfl rfl (L.as Wt.no rfl rfl (L.nil (X.seqN (E.ret (X.seqR (X.seqR (X.blkR (X.seqR (X.seqR ?_)))))))))
      have hx := ho333 _ (Option.some.inj hm).symm
      exact X.sub (K345 _ _ ⟨s394, (), hx.symm, m0, bx6, rfl, rfl⟩) (Sub.rf rfl)
     refine E.cF rfl hc (E.skip (X.seqN (E.seq (E.reg (L.mv Wt.no rfl rfl (L.len sl35 Wt.no rfl rfl (L.as Wt.no rfl rfl (L.nil (X.seqN (E.seq (E.reg (L.mv Wt.no rfl rfl (L.mv Wt.no rfl rfl ?_)))))))))))))
     obtain ⟨r396, er396, hm⟩ := bindS hm
     refine L.ca cf30 rfl rfl Wt.no rfl (m_product_key_c (s := s377) (p0 := r366.1) h369 er396) rfl ?_
     rintro _ s397 m398 rfl
     replace m0 := m0.trans m398.no
     replace h262 := h262.mv m398 no_No no_No
     replace h37 := h37.mv m398 no_No no_No
     replace h369 := h369.mono (m398.le no_No)
     replace h18 := h18.mono (m398.le no_No)
     replace bx6 := bx6.mv m398 no_No
     replace h256 := h256.mv m398 no_No no_No
     replace h264 := h264.mv m398 no_No no_No
     replace bx20 := bx20.mv m398 no_No
     replace h17 := h17.mono (m398.le no_No)
     replace h19 := h19.mono (m398.le no_No)
     refine L.mv Wt.no rfl rfl (L.mu (k := r396) (v := (st333.2.2.1.length : Int)) md67 h37 rfl (tpos hN) (fun _ _ => eqS) Wt.no rfl rfl rfl fun s399 m400 h37 => ?_)
     replace m0 := m0.trans (m400.one up)
     replace h262 := h262.mv m400 (tgN (by decide)) (tg0 hN)
     replace h369 := h369.mono (m400.le (tg0 hN))
     replace h18 := h18.mono (m400.le (tg0 hN))
     replace bx6 := bx6.mv m400 (tgN (by decide))
     replace h256 := h256.mv m400 (tgN (by decide)) (tg0 hN)
     replace h264 := h264.mv m400 (tgN (by decide)) (tg0 hN)
     replace bx20 := bx20.mv m400 (tgN (by decide))
     replace h17 := h17.mono (m400.le (tg0 hN))
     replace h19 := h19.mono (m400.le (tg0 hN))
     refine L.nil (X.seqN (E.reg (L.mv Wt.no rfl rfl (L.mv Wt.no rfl rfl (L.bsE (k := 1) (cs := [.slice a369 r366.1.length c369]) 0 bs35 (Nat.le_of_ble_eq_true rfl) Wt.no rfl rfl rfl rfl fun b401 s402 m403 bx401 => ?_)))))
     replace m0 := m0.trans m403.no
     replace h262 := h262.mv m403 no_No no_No
     replace h37 := h37.mv m403 no_No no_No
     replace h18 := h18.mono (m403.le no_No)
     replace bx6 := bx6.mv m403 no_No
     replace h256 := h256.mv m403 no_No no_No
     replace h264 := h264.mv m403 no_No no_No
     replace bx20 := bx20.mv m403 no_No
     replace h17 := h17.mono (m403.le no_No)
     replace h19 := h19.mono (m403.le no_No)
     replace h369 := h369.mono (m403.le no_No)
     have h401 := Bx.rdL (r := (rL (rK .i64))) (xs := ([r366.1] : List (List Int))) bx401 ⟨[.slice a369 r366.1.length c369], _, rfl, ⟨_, _, rfl, h369⟩, rfl⟩ (Nat.le_of_ble_eq_true rfl)
     obtain ⟨x404, ex404, hm⟩ := bindS hm
     refine L.ap (r := (rL (rK .i64))) Tryd.underlying35 el31 rfl (tgp hN) h262 h401.wk Wt.no rfl rfl ex404 rfl fun a405 c405 s406 m407 h405 => ?_
     replace m0 := m0.trans (m407.one up)
     replace h37 := h37.mv m407 (tgN (by decide)) (tg0 hN)
     replace h18 := h18.mono (m407.le (tg0 hN))
     replace bx6 := bx6.mv m407 (tgN (by decide))
     replace h256 := h256.mv m407 (tgN (by decide)) (tg0 hN)
     replace h264 := h264.mv m407 (tgN (by decide)) (tg0 hN)
     replace bx20 := bx20.mv m407 (tgN (by decide))
     replace h17 := h17.mono (m407.le (tg0 hN))
     replace h19 := h19.mono (m407.le (tg0 hN))
     exact L.as Wt.no rfl rfl (L.nil (X.sub (Jj384 _ _ ⟨s406, x404, (st333.2.2.1.length : Int), (kput st333.2.1 r396 (st333.2.2.1.length : Int)), a405, c405, hm, m0, h405, h18, h37, h256, h264, h17, h19, bx6, bx20, rfl, rfl⟩) (Sub.rf rfl)))
    exact E.cF rfl hc (E.skip (X.sub (Jj384 _ _ ⟨s377, st333.2.2.1, ((kget st333.2.1 r376).getD 0), st333.2.1, a262, c262, hm, m0, h262, h18, h37, h256, h264, h17, h19, bx6, bx20, rfl, rfl⟩) (Sub.rf rfl)))
   refine E.cF rfl hc (E.exit (X.seqX (X.seqX ?_)))
   have hx := ho333 _ (Option.some.inj hm).symm
   exact X.sub (K342 _ _ ⟨s339, st333.2, a262, c262, a264, c264, hx.symm, m0, h37, h262, h18, h256, h264, h17, h19, bx6, bx20, rfl, rfl⟩) (Sub.rf rfl)
  intro Jj258
  refine E.seq ?_
  obtain ⟨x412, ex412, hm⟩ := bindS hm
  obtain ⟨r418, er418, hm⟩ := bindS hm
  refine E.draw [[], [], [], [1, 2], [1, 2, 3], [0, 1, 2, 3, 4]] (fun D e sx => Mv No s244 sx ∧ Sub [(10, .int .i64 st237.1), (9, .map y37), (3, .slice a48 st237.2.2.1.length c48), (6, .pointer (some ⟨b20, 0, none⟩)), (2, .pointer (some ⟨b6, 0, none⟩))] e ∧ AllP [G D e 0 48 (.agg #[.slice a17 r14.1.length c17, .slice a18 r14.2.1.length c18, .slice a19 r14.2.2.length c19]), G D e 1 49 (.slice a48 st237.2.2.1.length c48), G D e 2 50 (.int .i64 st237.1), D 3 = true → (∃ (b413 : Nat) (o413 : Nat) (a414 : Option Addr) (c414 : Nat), Env.get e 51 = some (.pointer (some ⟨b413, o413, none⟩)) ∧ Mem sx (N + 5) b413 o413 [.slice a414 x412.length c414] ∧ RdL (rK .i64) sx a414 c414 x412 ∧ Spot a48 (rL (rK .i64)).sz (st237.1).toNat b413 o413), D 4 = true → (∃ (a416 : Option Addr) (c416 : Nat), Env.get e 52 = some (.slice a416 x412.length c416) ∧ RdL (rK .i64) sx a416 c416 x412), G D e 5 53 (.bool r418)]) (by kernel_rfl) (by kernel_rfl) (by kernel_rfl) ?_ ?_ ?_
  ·intro sz mz
   exact ⟨mz, (Sub.rf rfl), nofun, nofun, nofun, nofun, nofun, nofun, trivial⟩
  ·refine ⟨?_, ?_, ?_, ?_, ?_, ?_, trivial⟩
   ·rintro D e s408 ⟨im, ib, i⟩ hk hf ha
    have bx20 := bx20.mv im no_No
    have kn := K1 (ib 6 _ rfl)
    exact L.kns _ kn (L.lg (j := 0) (cs := [.slice a17 r14.1.length c17, .slice a18 r14.2.1.length c18, .slice a19 r14.2.2.length c19]) bx20.mem ag63 Wt.no rfl rfl rfl rfl rfl (L.nil (X.dk kn ⟨im, Sub.fresh ib rfl, i.u 0 (fun _ => rfl)⟩)))
   ·rintro D e s409 ⟨im, ib, i⟩ hk hf ha
    have kn := K1 (ib 3 _ rfl)
    exact L.kns _ kn (L.mv Wt.no rfl rfl (L.nil (X.dk kn ⟨im, Sub.fresh ib rfl, i.u 1 (fun _ => rfl)⟩)))
   ·rintro D e s410 ⟨im, ib, i⟩ hk hf ha
    have kn := K1 (ib 10 _ rfl)
    exact L.kns _ kn (L.mv Wt.no rfl rfl (L.nil (X.dk kn ⟨im, Sub.fresh ib rfl, i.u 2 (fun _ => rfl)⟩)))
   ·rintro D e s411 ⟨im, ib, i⟩ hk hf ha
    have h48 := h48.mv im no_No no_No
    have kn := K2 ((i.p 1) (ha.at 1 rfl)) ((i.p 2) (ha.at 2 rfl))
    refine L.kns _ kn (L.ir (r := (rL (rK .i64))) sl35 h48 Wt.no rfl rfl ex412 rfl fun b413 o413 cc413 me413 rd413 sp413 => ?_)
    obtain ⟨a414, c414, rfl, h414⟩ := rd413
    exact L.nil (X.dk kn ⟨im, Sub.fresh ib rfl, i.u 3 (fun _ => ⟨b413, o413, a414, c414, rfl, me413, h414, sp413⟩)⟩)
   ·rintro D e s415 ⟨im, ib, i⟩ hk hf ha
    obtain ⟨b413, o413, a414, c414, g3_, me413, h414, sp413⟩ := (i.p 3) (ha.at 3 rfl)
    have kn := K1 g3_
    refine L.kns _ kn (L.ld (j := 0) me413 nag31 Wt.no rfl rfl rfl rfl ?_)
    obtain ⟨a416, c416, ea416, ec416, h416⟩ : ∃ a c, a = a414 ∧ c = c414 ∧ RdL (rK .i64) s415 a c x412 := ⟨_, _, rfl, rfl, h414⟩
    subst ea416 ec416
    exact L.nil (X.dk kn ⟨im, Sub.fresh ib rfl, i.u 4 (fun _ => ⟨a416, c416, rfl, h416⟩)⟩)
   rintro D e s417 ⟨im, ib, i⟩ hk hf ha
   obtain ⟨a416, c416, g4_, h416⟩ := (i.p 4) (ha.at 4 rfl)
   have h17 := h17.mono (im.le no_No)
   have h18 := h18.mono (im.le no_No)
   have h19 := h19.mono (im.le no_No)
   have kn := K2 ((i.p 0) (ha.at 0 rfl)) g4_
   refine L.kns _ kn (L.ca cf31 rfl rfl Wt.no rfl (m_product_machine_marked_c (s := s417) (p0 := r14) (p1 := x412) h17 h18 h19 h416 er418) rfl ?_)
   rintro _ s419 m420 rfl
   exact L.nil (X.dk kn ⟨im.trans m420.no, Sub.fresh ib rfl, ((i.u 3 (fun z => let ⟨b413, o413, a414, c414, q, me413, h414, sp413⟩ := (i.p 3) z; ⟨b413, o413, a414, c414, q, (me413.mv m420 no_No), (h414.mono (m420.le no_No)), sp413⟩)).u 4 (fun z => let ⟨a416, c416, q, h416⟩ := (i.p 4) z; ⟨a416, c416, q, (h416.mono (m420.le no_No))⟩)).u 5 (fun _ => rfl)⟩)
  rintro D e s421 hD ⟨im, ib, i⟩
  have g5_ := (i.p 5) (hD 5 rfl)
  have h37 := h37.mv im no_No no_No
  have h48 := h48.mv im no_No no_No
  have bx20 := bx20.mv im no_No
  have h17 := h17.mono (im.le no_No)
  have h18 := h18.mono (im.le no_No)
  have h19 := h19.mono (im.le no_No)
  have bx6 := bx6.mv im no_No
  have h50 := h50.mv im no_No no_No
  have h52 := h52.mv im no_No no_No
  have m0 := m0.trans im.no
  refine X.sub (e' := [(53, .bool r418), (10, .int .i64 st237.1), (9, .map y37), (3, .slice a48 st237.2.2.1.length c48), (6, .pointer (some ⟨b20, 0, none⟩)), (2, .pointer (some ⟨b6, 0, none⟩))]) ?_ (Sub.cons g5_ (Sub.cons (ib 10 _ rfl) (Sub.cons (ib 9 _ rfl) (Sub.cons (ib 3 _ rfl) (Sub.cons (ib 6 _ rfl) (Sub.cons (ib 2 _ rfl) Sub.nil))))))
  refine X.seqN ?_
  rcases ifS hm with ⟨hc, hm⟩ | ⟨hc, hm⟩
  ·refine E.cT rfl hc (E.reg (L.fa fa34_2 Wt.no rfl rfl (L.ld (j := 2) bx6.mem nag31 Wt.no rfl rfl rfl rfl (L.mv Wt.no rfl rfl (L.bsE (k := 1) (cs := [.int .i64 st237.1]) 0 bs31 (Nat.le_of_ble_eq_true rfl) Wt.no rfl rfl rfl rfl fun b422 s423 m424 bx422 => ?_)))))
   replace m0 := m0.trans m424.no
   replace h48 := h48.mv m424 no_No no_No
   replace h50 := h50.mv m424 no_No no_No
   replace h37 := h37.mv m424 no_No no_No
   replace bx6 := bx6.mv m424 no_No
   replace h18 := h18.mono (m424.le no_No)
   replace h52 := h52.mv m424 no_No no_No
   replace bx20 := bx20.mv m424 no_No
   replace h17 := h17.mono (m424.le no_No)
   replace h19 := h19.mono (m424.le no_No)
   have h422 := Bx.rdL (r := (rK .i64)) (xs := ([st237.1] : List Int)) bx422 ⟨[.int .i64 st237.1], _, rfl, rfl, rfl⟩ (Nat.le_of_ble_eq_true rfl)
   obtain ⟨x425, ex425, hm⟩ := bindS hm
   refine L.ap (r := (rK .i64)) Tryd.underlying31 el3 rfl (tgp hN) h50 h422.wk Wt.no rfl rfl ex425 rfl fun a426 c426 s427 m428 h426 => ?_
   replace m0 := m0.trans (m428.one up)
   replace h48 := h48.mv m428 (tgN (by decide)) (tg0 hN)
   replace h37 := h37.mv m428 (tgN (by decide)) (tg0 hN)
   replace bx6 := bx6.mv m428 (tgN (by decide))
   replace h18 := h18.mono (m428.le (tg0 hN))
   replace h52 := h52.mv m428 (tgN (by decide)) (tg0 hN)
   replace bx20 := bx20.mv m428 (tgN (by decide))
   replace h17 := h17.mono (m428.le (tg0 hN))
   replace h19 := h19.mono (m428.le (tg0 hN))
   refine L.fa fa34_2 Wt.no rfl rfl (L.st (c := [.slice a426 x425.length c426]) (cs' := #[.slice a18 r14.2.1.length c18, .int .i64 0, .slice a426 x425.length c426, .slice a52 st237.2.2.2.2.length c52]) bx6 nag31.sz Wt.no rfl rfl rfl rfl rfl (Nat.le_of_ble_eq_true rfl) rfl fun s429 m430 bx6 => ?_)
   replace m0 := m0.trans (m430.one up)
   replace h48 := h48.mv m430 (tgN (by decide)) (tg0 hN)
   replace h37 := h37.mv m430 (tgN (by decide)) (tg0 hN)
   replace h18 := h18.mono (m430.le (tg0 hN))
   replace h426 := h426.mv m430 (tgN (by decide)) (tg0 hN)
   replace h52 := h52.mv m430 (tgN (by decide)) (tg0 hN)
   replace bx20 := bx20.mv m430 (tgN (by decide))
   replace h17 := h17.mono (m430.le (tg0 hN))
   replace h19 := h19.mono (m430.le (tg0 hN))
   exact L.nil (X.sub (Jj258 _ _ ⟨s429, x425, a426, c426, hm, m0, h37, h48, h18, h426, h52, h17, h19, bx6, bx20, rfl, rfl⟩) (Sub.rf rfl))
  exact E.cF rfl hc (E.skip (X.sub (Jj258 _ _ ⟨s421, st237.2.2.2.1, a50, c50, hm, m0, h37, h48, h18, h50, h52, h17, h19, bx6, bx20, rfl, rfl⟩) (Sub.rf rfl)))
 refine E.cF rfl hc (E.exit (X.seqX (X.seqX ?_)))
 have hx := ho237 _ (Option.some.inj hm).symm
 exact X.sub (K251 _ _ ⟨s244, st237.2.2, a48, c48, a50, c50, a52, c52, hx.symm, m0, h48, h18, h50, h52, bx6, rfl, rfl⟩) (Sub.rf rfl)

end Go.Proofs.YtfbapajcheammaaDoor

namespace Go.Proofs.YtfbapajcheammaaDoor
open Go Go.RowKit
noncomputable def m_blocking_blocked_j1 (st22 : Int × List Int) (l28 : List Int) : Option ((Int × List Int) ⊕ (List Int)) :=
  some (.inl (W (st22.1 + 1), l28))
noncomputable def m_blocking_blocked_l1 (p0 : List Int) (st22 : Int × List Int) : Option ((Int × List Int) ⊕ (List Int)) :=
  if decide (st22.1 < (p0.length : Int)) then
    (idx p0 st22.1).bind fun x32 =>
    if decide (x32 < 0) then
      (app st22.2 ([st22.1] : List Int)).bind fun x37 =>
      m_blocking_blocked_j1 st22 x37
    else
      m_blocking_blocked_j1 st22 st22.2
  else
    some (.inr st22.2)
/-- What blocking.blocked computes. -/
noncomputable def m_blocking_blocked (p0 : List Int) : Option (List Int) :=
  (iter (m_blocking_blocked_l1 p0) (0, ([] : List Int))).bind fun o22 =>
  some o22
set_option maxRecDepth 100000 in
set_option maxHeartbeats 8000000 in
theorem m_blocking_blocked_c {s : Sig} {p0 : List Int} {a1 : Option Addr} {c1 : Nat} {u0 : Nat} {r : List Int} (h1 : RdL (rK .i64) s a1 c1 p0) (hm : m_blocking_blocked p0 = some r) :
    Calls Tryd.prog 34 #[.slice a1 p0.length c1] s.w (RetS No s fun v s' => ∃ (a2 : Option Addr) (c2 : Nat), v = .slice a2 r.length c2 ∧ RowT (rK .i64) s' u0 3 a2 c2 r) := by
 unfold m_blocking_blocked at hm
 obtain ⟨N, hN, hNb⟩ := s.fresh
 have m0 : Mv (Up N No) s s := Mv.refl _ _
 refine E.entry Tryd.func34 rfl Tryd.ntmps34 rfl rfl (E.seq (E.reg (L.as Wt.no rfl rfl (L.nil (X.seqN (E.seq (E.reg (L.as Wt.no rfl rfl (L.nil (X.seqN (E.seq (E.seq (E.reg (L.mv Wt.no rfl rfl (L.len sl31 Wt.no rfl rfl (L.mv Wt.no rfl rfl (L.nil (X.seqN (E.block ?_)))))))))))))))))))
 obtain ⟨o22, eo22, hm⟩ := bindS hm
 refine E.cut (x := .exit 0) (fun e w => ∃ (s26 : Sig) (a24 : Option Addr) (c24 : Nat), Mv (Up N No) s s26 ∧ RowT (rK .i64) s26 (N + 0) 3 a24 c24 o22 ∧ e = [(3, .slice a24 o22.length c24)] ∧ w = s26.w) ?_ ?_
 ·rintro _ _ ⟨s26, a24, c24, m0, h24, rfl, rfl⟩
  refine X.blkE (X.seqN (E.seq (E.reg (L.mv Wt.no rfl rfl (L.as Wt.no rfl rfl (L.nil (X.seqN (E.ret ?_))))))))
  obtain rfl := Option.some.inj hm
  exact X.rt (.inl rfl) Tryd.results34 (Rs.tmp rfl Rs.nil) rfl ⟨_, (s26).ren N (fun k => cond (Nat.beq k 0) u0 (0)), rfl, rfl, m0.ren hNb, ⟨a24, c24, rfl, (h24.ren hN)⟩⟩
 intro K27
 refine E.iter (fun (st22 : Int × List Int) (e : List (Nat × Value)) (w : World) => ∃ (s25 : Sig) (a5 : Option Addr) (c5 : Nat), Mv (Up N No) s s25 ∧ RdL (rK .i64) s25 a1 c1 p0 ∧ RowT (rK .i64) s25 (N + 0) 3 a5 c5 st22.2 ∧ e = [(8, .int .i64 st22.1), (7, .int .i64 (p0.length : Int)), (6, .slice a1 p0.length c1), (3, .slice a5 st22.2.length c5)] ∧ w = s25.w) eo22 ⟨s, none, 0, m0, h1, RowT.nil, rfl, rfl⟩ (Sub.rf rfl) ?_
 rintro st22 res22 hm ih22 ho22 _ _ ⟨s25, a5, c5, m0, h1, h5, rfl, rfl⟩
 unfold m_blocking_blocked_l1 at hm
 refine E.seq (E.reg (L.bi Wt.no rfl rfl rfl rfl (L.nil (X.seqN (E.seq ?_)))))
 rcases ifS hm with ⟨hc, hm⟩ | ⟨hc, hm⟩
 ·refine E.cT rfl hc (E.skip (X.seqN (E.seqJ (fun e w => ∃ (s30 : Sig) (l28 : List Int) (a29 : Option Addr) (c29 : Nat), m_blocking_blocked_j1 st22 l28 = some res22 ∧ Mv (Up N No) s s30 ∧ RowT (rK .i64) s30 (N + 0) 3 a29 c29 l28 ∧ RdL (rK .i64) s30 a1 c1 p0 ∧ e = [(3, .slice a29 l28.length c29), (8, .int .i64 st22.1), (7, .int .i64 (p0.length : Int)), (6, .slice a1 p0.length c1)] ∧ w = s30.w) ?_ ?_)))
  ·rintro _ _ ⟨s30, l28, a29, c29, hm, m0, h29, h1, rfl, rfl⟩
   unfold m_blocking_blocked_j1 at hm
   exact E.reg (L.bi Wt.no rfl rfl rfl rfl (L.mv Wt.no rfl rfl (L.nil (X.sub (ih22 _ (Option.some.inj hm).symm _ _ ⟨s30, a29, c29, m0, h1, h29, rfl, rfl⟩) (Sub.rf rfl)))))
  intro Jj31
  refine E.block (E.seq (E.reg (L.mv Wt.no rfl rfl ?_)))
  obtain ⟨x32, ex32, hm⟩ := bindS hm
  refine L.ix (r := (rK .i64)) sl31 h1 Wt.no rfl rfl ex32 rfl fun b33 o33 cc33 me33 rd33 => ?_
  obtain rfl := rd33
  refine L.ld (j := 0) me33 nag3 Wt.no rfl rfl rfl rfl (L.as Wt.no rfl rfl (L.as Wt.no rfl rfl (L.nil (X.seqN (E.seq (E.reg (L.mv Wt.no rfl rfl (L.bi Wt.no rfl rfl rfl rfl (L.nil (X.seqN ?_))))))))))
  rcases ifS hm with ⟨hc, hm⟩ | ⟨hc, hm⟩
  ·refine E.cT rfl hc (E.reg (L.mv Wt.no rfl rfl (L.mv Wt.no rfl rfl (L.bsE (k := 1) (cs := [.int .i64 st22.1]) 0 bs31 (Nat.le_of_ble_eq_true rfl) Wt.no rfl rfl rfl rfl fun b34 s35 m36 bx34 => ?_))))
   replace m0 := m0.trans m36.no
   replace h1 := h1.mono (m36.le no_No)
   replace h5 := h5.mv m36 no_No no_No
   have h34 := Bx.rdL (r := (rK .i64)) (xs := ([st22.1] : List Int)) bx34 ⟨[.int .i64 st22.1], _, rfl, rfl, rfl⟩ (Nat.le_of_ble_eq_true rfl)
   obtain ⟨x37, ex37, hm⟩ := bindS hm
   refine L.ap (r := (rK .i64)) Tryd.underlying31 el3 rfl (tgp hN) h5 h34.wk Wt.no rfl rfl ex37 rfl fun a38 c38 s39 m40 h38 => ?_
   replace m0 := m0.trans (m40.one up)
   replace h1 := h1.mono (m40.le (tg0 hN))
   exact L.as Wt.no rfl rfl (L.nil (X.blkN (X.sub (Jj31 _ _ ⟨s39, x37, a38, c38, hm, m0, h38, h1, rfl, rfl⟩) (Sub.rf rfl))))
  exact E.cF rfl hc (E.skip (X.blkN (X.sub (Jj31 _ _ ⟨s25, st22.2, a5, c5, hm, m0, h5, h1, rfl, rfl⟩) (Sub.rf rfl))))
 refine E.cF rfl hc (E.exit (X.seqX (X.seqX ?_)))
 have hx := ho22 _ (Option.some.inj hm).symm
 subst hx
 exact X.sub (K27 _ _ ⟨s25, a5, c5, m0, h5, rfl, rfl⟩) (Sub.rf rfl)

noncomputable def m_blocking_all_l1 (x8 : List Int) (st21 : Int × List Int) : Option ((Int × List Int) ⊕ (List Int)) :=
  if decide (st21.1 < (x8.length : Int)) then
    (idx st21.2 st21.1).bind fun x26 =>
    (upd st21.2 st21.1 st21.1).bind fun x28 =>
    some (.inl (W (st21.1 + 1), x28))
  else
    some (.inr st21.2)
/-- What blocking.all computes. -/
noncomputable def m_blocking_all (p0 : List Int × Int × List Int × (List (Int × Int × Int))) : Option (List Int) :=
  (mkL p0.2.1 (0 : Int)).bind fun x8 =>
  (iter (m_blocking_all_l1 x8) (0, x8)).bind fun o21 =>
  some o21
set_option maxRecDepth 100000 in
set_option maxHeartbeats 8000000 in
theorem m_blocking_all_c {s : Sig} {p0 : List Int × Int × List Int × (List (Int × Int × Int))} {a1 : Option Addr} {c1 : Nat} {a2 : Option Addr} {c2 : Nat} {a3 : Option Addr} {c3 : Nat} {u0 : Nat} {r : List Int} (h1 : RdL (rK .i64) s a1 c1 p0.1) (h2 : RdL (rK .i64) s a2 c2 p0.2.2.1) (h3 : RdL (rP (rK .i64) (rP (rK .i64) (rK .i64))) s a3 c3 p0.2.2.2) (hm : m_blocking_all p0 = some r) :
    Calls Tryd.prog 51 #[.agg #[.slice a1 p0.1.length c1, .int .i64 p0.2.1, .slice a2 p0.2.2.1.length c2, .slice a3 p0.2.2.2.length c3]] s.w (RetS No s fun v s' => ∃ (a4 : Option Addr) (c4 : Nat), v = .slice a4 r.length c4 ∧ RowT (rK .i64) s' u0 3 a4 c4 r) := by
 unfold m_blocking_all at hm
 obtain ⟨N, hN, hNb⟩ := s.fresh
 have m0 : Mv (Up N No) s s := Mv.refl _ _
 refine E.entry Tryd.func51 rfl Tryd.ntmps51 rfl rfl (E.seq (E.reg (L.box (N + 0) Wt.no rfl rfl rfl fun b5 s6 m7 bx5 => ?_)))
 replace m0 := m0.trans m7.no
 refine L.as Wt.no rfl rfl (L.nil (X.seqN (E.seq (E.reg (L.fa fa34_1 Wt.no rfl rfl (L.ld (j := 1) bx5.mem nag3 Wt.no rfl rfl rfl rfl ?_))))))
 obtain ⟨x8, ex8, hm⟩ := bindS hm
 refine L.mk (z := (0 : Int)) (N + 1) Tryd.underlying31 zr3 rfl Wt.no rfl rfl ex8 rfl fun b9 s10 m11 h9 => ?_
 replace m0 := m0.trans m11.no
 refine L.as Wt.no rfl rfl (L.nil (X.seqN (E.seq (E.seq (E.reg (L.mv Wt.no rfl rfl (L.len sl31 Wt.no rfl rfl (L.mv Wt.no rfl rfl (L.nil (X.seqN (E.block ?_)))))))))))
 obtain ⟨o21, eo21, hm⟩ := bindS hm
 refine E.cut (x := .exit 0) (fun e w => ∃ (s24 : Sig), Mv (Up N No) s s24 ∧ RowT (rK .i64) s24 (N + 1) 3 (some ⟨b9, 0, none⟩) x8.length o21 ∧ e = [(3, .slice (some ⟨b9, 0, none⟩) o21.length x8.length)] ∧ w = s24.w) ?_ ?_
 ·rintro _ _ ⟨s24, m0, h9, rfl, rfl⟩
  refine X.blkE (X.seqN (E.seq (E.reg (L.mv Wt.no rfl rfl (L.as Wt.no rfl rfl (L.nil (X.seqN (E.ret ?_))))))))
  obtain rfl := Option.some.inj hm
  exact X.rt (.inl rfl) Tryd.results51 (Rs.tmp rfl Rs.nil) rfl ⟨_, (s24).ren N (fun k => cond (Nat.beq k 1) u0 (0)), rfl, rfl, m0.ren hNb, ⟨(some ⟨b9, 0, none⟩), x8.length, rfl, (h9.ren hN)⟩⟩
 intro K25
 refine E.iter (fun (st21 : Int × List Int) (e : List (Nat × Value)) (w : World) => ∃ (s23 : Sig), Mv (Up N No) s s23 ∧ RowT (rK .i64) s23 (N + 1) 3 (some ⟨b9, 0, none⟩) x8.length st21.2 ∧ e = [(10, .int .i64 st21.1), (9, .int .i64 (x8.length : Int)), (3, .slice (some ⟨b9, 0, none⟩) st21.2.length x8.length)] ∧ w = s23.w) eo21 ⟨s10, m0, h9, rfl, rfl⟩ (Sub.rf rfl) ?_
 rintro st21 res21 hm ih21 ho21 _ _ ⟨s23, m0, h9, rfl, rfl⟩
 unfold m_blocking_all_l1 at hm
 refine E.seq (E.reg (L.bi Wt.no rfl rfl rfl rfl (L.nil (X.seqN (E.seq ?_)))))
 rcases ifS hm with ⟨hc, hm⟩ | ⟨hc, hm⟩
 ·refine E.cT rfl hc (E.skip (X.seqN (E.seq (E.block (E.seq (E.reg (L.mv Wt.no rfl rfl (L.as Wt.no rfl rfl (L.nil (X.seqN (E.reg (L.mv Wt.no rfl rfl (L.mv Wt.no rfl rfl (L.mv Wt.no rfl rfl ?_))))))))))))))
  obtain ⟨x26, ex26, hm⟩ := bindS hm
  refine L.ir (r := (rK .i64)) sl31 h9 Wt.no rfl rfl ex26 rfl fun b27 o27 cc27 me27 rd27 sp27 => ?_
  obtain rfl := rd27
  obtain ⟨x28, ex28, hm⟩ := bindS hm
  have elx28 := upd_len ex28
  refine L.su (fo := 0) (c := [.int .i64 st21.1]) (z := st21.1) h9 sp27 ex26 ex28 (tgp hN) nag3.sz Wt.no rfl rfl rfl rfl rfl rfl (fun c0 hc0 => by obtain rfl := hc0; exact rfl) fun s29 m30 h9 => ?_
  replace m0 := m0.trans (m30.one up)
  exact L.reval (d := 3) rfl elx28 (L.nil (X.blkN (X.seqN (E.reg (L.bi Wt.no rfl rfl rfl rfl (L.mv Wt.no rfl rfl (L.nil (X.sub (ih21 _ (Option.some.inj hm).symm _ _ ⟨s29, m0, h9, rfl, rfl⟩) (Sub.rf rfl)))))))))
 refine E.cF rfl hc (E.exit (X.seqX (X.seqX ?_)))
 have hx := ho21 _ (Option.some.inj hm).symm
 subst hx
 exact X.sub (K25 _ _ ⟨s23, m0, h9, rfl, rfl⟩) (Sub.rf rfl)

noncomputable def m_reach_checkSet_l1 (p0 : List Int) (p1 : Int) (st13 : Int) : Option (Int ⊕ (Unit ⊕ Int)) :=
  if decide (st13 < (p0.length : Int)) then
    (idx p0 st13).bind fun x22 =>
    if ((decide (x22 < 0)) || (decide (x22 ≥ p1))) then
      some (.inr (.inr (2)))
    else
      (if decide (st13 > 0) then
        (idx p0 (W (st13 - 1))).bind fun x28 =>
        some (decide (x22 ≤ x28))
      else
        some false).bind fun b25 =>
      if b25 then
        some (.inr (.inr (5)))
      else
        some (.inl (W (st13 + 1)))
  else
    some (.inr (.inl ()))
/-- What reach.checkSet computes. -/
noncomputable def m_reach_checkSet (p0 : List Int) (p1 : Int) : Option Int :=
  (iter (m_reach_checkSet_l1 p0 p1) 0).bind fun o13 =>
  match o13 with
  | .inl u16 =>
    some 0
  | .inr (u19) =>
    some u19
set_option maxRecDepth 100000 in
set_option maxHeartbeats 8000000 in
theorem m_reach_checkSet_c {s : Sig} {p0 : List Int} {p1 : Int} {a1 : Option Addr} {c1 : Nat} {r : Int} (h1 : RdL (rK .i64) s a1 c1 p0) (hm : m_reach_checkSet p0 p1 = some r) :
    Calls Tryd.prog 80 #[.slice a1 p0.length c1, .int .i64 p1] s.w (RetS No s fun v s' => v = .int .i64 r) := by
 unfold m_reach_checkSet at hm
 obtain ⟨N, hN, hNb⟩ := s.fresh
 have m0 : Mv (Up N No) s s := Mv.refl _ _
 refine E.entry Tryd.func80 rfl Tryd.ntmps80 rfl rfl (E.seq (E.reg (L.as Wt.no rfl rfl (L.nil (X.seqN (E.seq (E.seq (E.reg (L.mv Wt.no rfl rfl (L.len sl31 Wt.no rfl rfl (L.mv Wt.no rfl rfl (L.nil (X.seqN (E.block ?_))))))))))))))
 obtain ⟨o13, eo13, hm⟩ := bindS hm
 refine E.cut (x := .exit 0) (fun e w => ∃ (s17 : Sig) (u16 : Unit), o13 = .inl u16 ∧ Mv (Up N No) s s17 ∧ e = [] ∧ w = s17.w) ?_ ?_
 ·rintro _ _ ⟨s17, u16, rfl, m0, rfl, rfl⟩
  dsimp only at hm
  refine X.blkE (X.seqN (E.seq (E.reg (L.as Wt.no rfl rfl (L.nil (X.seqN (E.ret ?_)))))))
  obtain rfl := Option.some.inj hm
  exact X.rt (.inl rfl) Tryd.results80 (Rs.tmp rfl Rs.nil) rfl ⟨_, (s17).ren N (fun _ => 0), rfl, rfl, m0.ren hNb, rfl⟩
 intro K18
 refine E.cut (x := .ret) (fun e w => ∃ (s20 : Sig) (u19 : Int), o13 = .inr (u19) ∧ Mv (Up N No) s s20 ∧ e = [(4, .int .i64 u19)] ∧ w = s20.w) ?_ ?_
 ·rintro _ _ ⟨s20, u19, rfl, m0, rfl, rfl⟩
  dsimp only at hm
  refine X.blkR (X.seqR ?_)
  obtain rfl := Option.some.inj hm
  exact X.rt (.inl rfl) Tryd.results80 (Rs.tmp rfl Rs.nil) rfl ⟨_, (s20).ren N (fun _ => 0), rfl, rfl, m0.ren hNb, rfl⟩
 intro K21
 refine E.iter (fun (st13 : Int) (e : List (Nat × Value)) (w : World) => ∃ (s15 : Sig), Mv (Up N No) s s15 ∧ RdL (rK .i64) s15 a1 c1 p0 ∧ e = [(9, .int .i64 st13), (8, .int .i64 (p0.length : Int)), (7, .slice a1 p0.length c1), (0, .slice a1 p0.length c1), (1, .int .i64 p1)] ∧ w = s15.w) eo13 ⟨s, m0, h1, rfl, rfl⟩ (Sub.rf rfl) ?_
 rintro st13 res13 hm ih13 ho13 _ _ ⟨s15, m0, h1, rfl, rfl⟩
 unfold m_reach_checkSet_l1 at hm
 refine E.seq (E.reg (L.bi Wt.no rfl rfl rfl rfl (L.nil (X.seqN (E.seq ?_)))))
 rcases ifS hm with ⟨hc, hm⟩ | ⟨hc, hm⟩
 ·refine E.cT rfl hc (E.skip (X.seqN (E.seq (E.block (E.seq (E.reg (L.mv Wt.no rfl rfl ?_)))))))
  obtain ⟨x22, ex22, hm⟩ := bindS hm
  refine L.ix (r := (rK .i64)) sl31 h1 Wt.no rfl rfl ex22 rfl fun b23 o23 cc23 me23 rd23 => ?_
  obtain rfl := rd23
  refine L.ld (j := 0) me23 nag3 Wt.no rfl rfl rfl rfl (L.as Wt.no rfl rfl (L.as Wt.no rfl rfl (L.nil (X.seqN (E.block (E.seq (E.reg (L.mv Wt.no rfl rfl (L.bi Wt.no rfl rfl rfl rfl (L.mv Wt.no rfl rfl (L.cut 4 (fun e w => ∃ (v24 : Bool), ((decide (x22 < 0)) || (decide (x22 ≥ p1))) = v24 ∧ e = (21, .bool v24) :: [(6, .int .i64 x22), (5, .int .i64 st13), (9, .int .i64 st13), (8, .int .i64 (p0.length : Int)), (7, .slice a1 p0.length c1), (0, .slice a1 p0.length c1), (1, .int .i64 p1)] ∧ w = s15.w) ?_ ?_)))))))))))
  ·rintro _ _ ⟨v24, rfl, rfl, rfl⟩
   refine L.as Wt.no rfl rfl (L.nil (X.seqN ?_))
   rcases ifS hm with ⟨hc, hm⟩ | ⟨hc, hm⟩
   ·refine E.cT rfl hc (E.seq (E.reg (L.as Wt.no rfl rfl (L.nil (X.seqN (E.ret (X.blkR (X.blkR (X.seqR (X.seqR ?_))))))))))
    have hx := ho13 _ (Option.some.inj hm).symm
    exact X.sub (K21 _ _ ⟨s15, 2, hx.symm, m0, rfl, rfl⟩) (Sub.rf rfl)
   refine E.cF rfl hc (E.seq (E.reg (L.mv Wt.no rfl rfl (L.bi Wt.no rfl rfl rfl rfl (L.mv Wt.no rfl rfl ?_)))))
   obtain ⟨b25, eb25, hm⟩ := bindS hm
   refine L.cut 8 (fun e w => ∃ (v26 : Bool), b25 = v26 ∧ e = (33, .bool v26) :: [(9, .int .i64 st13), (8, .int .i64 (p0.length : Int)), (7, .slice a1 p0.length c1), (0, .slice a1 p0.length c1), (1, .int .i64 p1)] ∧ w = s15.w) ?_ ?_
   ·rintro _ _ ⟨v26, rfl, rfl, rfl⟩
    refine L.as Wt.no rfl rfl (L.nil (X.seqN ?_))
    rcases ifS hm with ⟨hc, hm⟩ | ⟨hc, hm⟩
    ·refine E.cT rfl hc (E.seq (E.reg (L.as Wt.no rfl rfl (L.nil (X.seqN (E.ret (X.blkR (X.blkR (X.seqR (X.seqR ?_))))))))))
     have hx := ho13 _ (Option.some.inj hm).symm
     exact X.sub (K21 _ _ ⟨s15, 5, hx.symm, m0, rfl, rfl⟩) (Sub.rf rfl)
    exact E.cF rfl hc (E.skip (X.blkN (X.blkN (X.seqN (E.reg (L.bi Wt.no rfl rfl rfl rfl (L.mv Wt.no rfl rfl (L.nil (X.sub (ih13 _ (Option.some.inj hm).symm _ _ ⟨s15, m0, h1, rfl, rfl⟩) (Sub.rf rfl))))))))))
   intro J27
   rcases ifS eb25 with ⟨hc, hm⟩ | ⟨hc, hm⟩
   ·refine L.know (d := 25) rfl hc (L.mv (Wt.mk rfl rfl) rfl rfl (L.mv (Wt.mk rfl rfl) rfl rfl (L.mv (Wt.mk rfl rfl) rfl rfl (L.bi (Wt.mk rfl rfl) rfl rfl rfl rfl ?_))))
    obtain ⟨x28, ex28, hm⟩ := bindS hm
    refine L.ix (r := (rK .i64)) sl31 h1 (Wt.mk rfl rfl) rfl rfl ex28 rfl fun b29 o29 cc29 me29 rd29 => ?_
    obtain rfl := rd29
    exact L.ld (j := 0) me29 nag3 (Wt.mk rfl rfl) rfl rfl rfl rfl (L.bi (Wt.mk rfl rfl) rfl rfl rfl rfl (L.pkT Wt.no rfl rfl rfl rfl (L.sb (J27 _ _ ⟨(decide (x22 ≤ x28)), (Option.some.inj hm).symm, rfl, rfl⟩) rfl)))
   exact L.know (d := 25) rfl hc (L.skip rfl rfl rfl rfl (L.skip rfl rfl rfl rfl (L.skip rfl rfl rfl rfl (L.skip rfl rfl rfl rfl (L.skip rfl rfl rfl rfl (L.skip rfl rfl rfl rfl (L.skip rfl rfl rfl rfl (L.pkF Wt.no rfl rfl rfl rfl (L.sb (J27 _ _ ⟨false, (Option.some.inj hm).symm, rfl, rfl⟩) rfl)))))))))
  intro J30
  rcases Bool.eq_false_or_eq_true (decide (x22 < 0)) with hc | hc
  ·exact L.know (d := 17) rfl hc (L.skip rfl rfl rfl rfl (L.skip rfl rfl rfl rfl (L.skip rfl rfl rfl rfl (L.pkT Wt.no rfl rfl rfl rfl (L.sb (J30 _ _ ⟨true, (orT hc).symm, rfl, rfl⟩) rfl)))))
  exact L.know (d := 17) rfl hc (L.mv (Wt.mk rfl rfl) rfl rfl (L.mv (Wt.mk rfl rfl) rfl rfl (L.bi (Wt.mk rfl rfl) rfl rfl rfl rfl (L.pkF Wt.no rfl rfl rfl rfl (L.sb (J30 _ _ ⟨(decide (x22 ≥ p1)), (orF hc).symm, rfl, rfl⟩) rfl)))))
 refine E.cF rfl hc (E.exit (X.seqX (X.seqX ?_)))
 have hx := ho13 _ (Option.some.inj hm).symm
 exact X.sub (K18 _ _ ⟨s15, (), hx.symm, m0, rfl, rfl⟩) Sub.nil

theorem cf80 : Cf Tryd.prog 80 := Cf.mk Tryd.func80 (by kernel_rfl) (by kernel_rfl)
/-- What reach.checkStates computes. -/
noncomputable def m_reach_checkStates (p0 : List Int × Int × List Int × (List (Int × Int × Int))) (p1 : List Int) : Option Int :=
  (m_reach_checkSet p1 p0.2.1).bind fun r8 =>
  some r8
set_option maxRecDepth 100000 in
set_option maxHeartbeats 8000000 in
theorem m_reach_checkStates_c {s : Sig} {p0 : List Int × Int × List Int × (List (Int × Int × Int))} {p1 : List Int} {a1 : Option Addr} {c1 : Nat} {a2 : Option Addr} {c2 : Nat} {a3 : Option Addr} {c3 : Nat} {a4 : Option Addr} {c4 : Nat} {r : Int} (h1 : RdL (rK .i64) s a1 c1 p0.1) (h2 : RdL (rK .i64) s a2 c2 p0.2.2.1) (h3 : RdL (rP (rK .i64) (rP (rK .i64) (rK .i64))) s a3 c3 p0.2.2.2) (h4 : RdL (rK .i64) s a4 c4 p1) (hm : m_reach_checkStates p0 p1 = some r) :
    Calls Tryd.prog 53 #[.agg #[.slice a1 p0.1.length c1, .int .i64 p0.2.1, .slice a2 p0.2.2.1.length c2, .slice a3 p0.2.2.2.length c3], .slice a4 p1.length c4] s.w (RetS No s fun v s' => v = .int .i64 r) := by
 unfold m_reach_checkStates at hm
 obtain ⟨N, hN, hNb⟩ := s.fresh
 have m0 : Mv (Up N No) s s := Mv.refl _ _
 refine E.entry Tryd.func53 rfl Tryd.ntmps53 rfl rfl (E.seq (E.reg (L.box (N + 0) Wt.no rfl rfl rfl fun b5 s6 m7 bx5 => ?_)))
 replace m0 := m0.trans m7.no
 replace h4 := h4.mono (m7.le no_No)
 refine L.as Wt.no rfl rfl (L.nil (X.seqN (E.seq (E.reg (L.mv Wt.no rfl rfl (L.fa fa34_1 Wt.no rfl rfl (L.ld (j := 1) bx5.mem nag3 Wt.no rfl rfl rfl rfl ?_)))))))
 obtain ⟨r8, er8, hm⟩ := bindS hm
 refine L.ca cf80 rfl rfl Wt.no rfl (m_reach_checkSet_c (s := s6) (p0 := p1) (p1 := p0.2.1) h4 er8) rfl ?_
 rintro _ s9 m10 rfl
 replace m0 := m0.trans m10.no
 refine L.as Wt.no rfl rfl (L.nil (X.seqN (E.ret ?_)))
 obtain rfl := Option.some.inj hm
 exact X.rt (.inl rfl) Tryd.results53 (Rs.tmp rfl Rs.nil) rfl ⟨_, (s9).ren N (fun _ => 0), rfl, rfl, m0.ren hNb, rfl⟩

noncomputable def m_reach_flags_l1 (p1 : List Int) (st24 : Int × List Bool) : Option ((Int × List Bool) ⊕ (List Bool)) :=
  if decide (st24.1 < (p1.length : Int)) then
    (idx p1 st24.1).bind fun x29 =>
    (idx st24.2 x29).bind fun x31 =>
    (upd st24.2 x29 true).bind fun x33 =>
    some (.inl (W (st24.1 + 1), x33))
  else
    some (.inr st24.2)
/-- What reach.flags computes. -/
noncomputable def m_reach_flags (p0 : List Int × Int × List Int × (List (Int × Int × Int))) (p1 : List Int) : Option (List Bool) :=
  (mkL p0.2.1 false).bind fun x9 =>
  (iter (m_reach_flags_l1 p1) (0, x9)).bind fun o24 =>
  some o24
set_option maxRecDepth 100000 in
set_option maxHeartbeats 8000000 in
theorem m_reach_flags_c {s : Sig} {p0 : List Int × Int × List Int × (List (Int × Int × Int))} {p1 : List Int} {a1 : Option Addr} {c1 : Nat} {a2 : Option Addr} {c2 : Nat} {a3 : Option Addr} {c3 : Nat} {a4 : Option Addr} {c4 : Nat} {u0 : Nat} {r : List Bool} (h1 : RdL (rK .i64) s a1 c1 p0.1) (h2 : RdL (rK .i64) s a2 c2 p0.2.2.1) (h3 : RdL (rP (rK .i64) (rP (rK .i64) (rK .i64))) s a3 c3 p0.2.2.2) (h4 : RdL (rK .i64) s a4 c4 p1) (hm : m_reach_flags p0 p1 = some r) :
    Calls Tryd.prog 54 #[.agg #[.slice a1 p0.1.length c1, .int .i64 p0.2.1, .slice a2 p0.2.2.1.length c2, .slice a3 p0.2.2.2.length c3], .slice a4 p1.length c4] s.w (RetS No s fun v s' => ∃ (a5 : Option Addr) (c5 : Nat), v = .slice a5 r.length c5 ∧ RowT rB s' u0 4 a5 c5 r) := by
 unfold m_reach_flags at hm
 obtain ⟨N, hN, hNb⟩ := s.fresh
 have m0 : Mv (Up N No) s s := Mv.refl _ _
 refine E.entry Tryd.func54 rfl Tryd.ntmps54 rfl rfl (E.seq (E.reg (L.box (N + 0) Wt.no rfl rfl rfl fun b6 s7 m8 bx6 => ?_)))
 replace m0 := m0.trans m8.no
 replace h4 := h4.mono (m8.le no_No)
 refine L.as Wt.no rfl rfl (L.nil (X.seqN (E.seq (E.reg (L.fa fa34_1 Wt.no rfl rfl (L.ld (j := 1) bx6.mem nag3 Wt.no rfl rfl rfl rfl ?_))))))
 obtain ⟨x9, ex9, hm⟩ := bindS hm
 refine L.mk (z := false) (N + 1) Tryd.underlying77 zr4 rfl Wt.no rfl rfl ex9 rfl fun b10 s11 m12 h10 => ?_
 replace m0 := m0.trans m12.no
 replace h4 := h4.mono (m12.le no_No)
 refine L.as Wt.no rfl rfl (L.nil (X.seqN (E.seq (E.seq (E.reg (L.mv Wt.no rfl rfl (L.len sl31 Wt.no rfl rfl (L.mv Wt.no rfl rfl (L.nil (X.seqN (E.block ?_)))))))))))
 obtain ⟨o24, eo24, hm⟩ := bindS hm
 refine E.cut (x := .exit 0) (fun e w => ∃ (s27 : Sig), Mv (Up N No) s s27 ∧ RowT rB s27 (N + 1) 4 (some ⟨b10, 0, none⟩) x9.length o24 ∧ e = [(5, .slice (some ⟨b10, 0, none⟩) o24.length x9.length)] ∧ w = s27.w) ?_ ?_
 ·rintro _ _ ⟨s27, m0, h10, rfl, rfl⟩
  refine X.blkE (X.seqN (E.seq (E.reg (L.mv Wt.no rfl rfl (L.as Wt.no rfl rfl (L.nil (X.seqN (E.ret ?_))))))))
  obtain rfl := Option.some.inj hm
  exact X.rt (.inl rfl) Tryd.results54 (Rs.tmp rfl Rs.nil) rfl ⟨_, (s27).ren N (fun k => cond (Nat.beq k 1) u0 (0)), rfl, rfl, m0.ren hNb, ⟨(some ⟨b10, 0, none⟩), x9.length, rfl, (h10.ren hN)⟩⟩
 intro K28
 refine E.iter (fun (st24 : Int × List Bool) (e : List (Nat × Value)) (w : World) => ∃ (s26 : Sig), Mv (Up N No) s s26 ∧ RdL (rK .i64) s26 a4 c4 p1 ∧ RowT rB s26 (N + 1) 4 (some ⟨b10, 0, none⟩) x9.length st24.2 ∧ e = [(13, .int .i64 st24.1), (12, .int .i64 (p1.length : Int)), (11, .slice a4 p1.length c4), (5, .slice (some ⟨b10, 0, none⟩) st24.2.length x9.length)] ∧ w = s26.w) eo24 ⟨s11, m0, h4, h10, rfl, rfl⟩ (Sub.rf rfl) ?_
 rintro st24 res24 hm ih24 ho24 _ _ ⟨s26, m0, h4, h10, rfl, rfl⟩
 unfold m_reach_flags_l1 at hm
 refine E.seq (E.reg (L.bi Wt.no rfl rfl rfl rfl (L.nil (X.seqN (E.seq ?_)))))
 rcases ifS hm with ⟨hc, hm⟩ | ⟨hc, hm⟩
 ·refine E.cT rfl hc (E.skip (X.seqN (E.seq (E.block (E.seq (E.reg ?_))))))
  obtain ⟨x29, ex29, hm⟩ := bindS hm
  refine L.ix (r := (rK .i64)) sl31 h4 Wt.no rfl rfl ex29 rfl fun b30 o30 cc30 me30 rd30 => ?_
  obtain rfl := rd30
  refine L.ld (j := 0) me30 nag3 Wt.no rfl rfl rfl rfl (L.as Wt.no rfl rfl (L.nil (X.seqN (E.reg (L.mv Wt.no rfl rfl (L.mv Wt.no rfl rfl ?_))))))
  obtain ⟨x31, ex31, hm⟩ := bindS hm
  refine L.ir (r := rB) sl77 h10 Wt.no rfl rfl ex31 rfl fun b32 o32 cc32 me32 rd32 sp32 => ?_
  obtain rfl := rd32
  obtain ⟨x33, ex33, hm⟩ := bindS hm
  have elx33 := upd_len ex33
  refine L.su (fo := 0) (c := [.bool true]) (z := true) h10 sp32 ex31 ex33 (tgp hN) nag4.sz Wt.no rfl rfl rfl rfl rfl rfl (fun c0 hc0 => by obtain rfl := hc0; exact rfl) fun s34 m35 h10 => ?_
  replace m0 := m0.trans (m35.one up)
  replace h4 := h4.mono (m35.le (tg0 hN))
  exact L.reval (d := 5) rfl elx33 (L.nil (X.blkN (X.seqN (E.reg (L.bi Wt.no rfl rfl rfl rfl (L.mv Wt.no rfl rfl (L.nil (X.sub (ih24 _ (Option.some.inj hm).symm _ _ ⟨s34, m0, h4, h10, rfl, rfl⟩) (Sub.rf rfl)))))))))
 refine E.cF rfl hc (E.exit (X.seqX (X.seqX ?_)))
 have hx := ho24 _ (Option.some.inj hm).symm
 subst hx
 exact X.sub (K28 _ _ ⟨s26, m0, h10, rfl, rfl⟩) (Sub.rf rfl)

theorem ag99 : Ag Tryd.prog 99 5 := Ag.mk' Tryd.underlying99 rfl (by kernel_rfl)
theorem fa99_1 : FA Tryd.prog 99 1 4 := FA.mk Tryd.underlying99 rfl rfl ⟨1, by decide, by kernel_rfl⟩
theorem pl99 : Pl Tryd.prog 99 [(0, 4), (4, 1)] [.slice none 0 0, .int .i64 0, .slice none 0 0, .slice none 0 0, .slice none 0 0] := Pl.str Tryd.underlying99 (by kernel_rfl) (by kernel_rfl)
theorem zz99 : (Tryd.prog.info? 99).bind (·.zero) = some (.agg #[.slice none 0 0, .int .i64 0, .slice none 0 0, .slice none 0 0, .slice none 0 0]) := by kernel_rfl
noncomputable def m_reach_newGraph_l2 (p0 : List Int × Int × List Int × (List (Int × Int × Int))) (st82 : Int × List Int) : Option ((Int × List Int) ⊕ (List Int)) :=
  if decide (st82.1 < p0.2.1) then
    (idx st82.2 (W (st82.1 + 1))).bind fun x94 =>
    (idx st82.2 st82.1).bind fun x101 =>
    (idx st82.2 (W (st82.1 + 1))).bind fun x106 =>
    (upd st82.2 (W (st82.1 + 1)) (W (x94 + x101))).bind fun x109 =>
    some (.inl (W (st82.1 + 1), x109))
  else
    some (.inr st82.2)
noncomputable def m_reach_newGraph_l1 (p0 : List Int × Int × List Int × (List (Int × Int × Int))) (st50 : Int × List Int) : Option ((Int × List Int) ⊕ (List Int)) :=
  if decide (st50.1 < (p0.2.2.2.length : Int)) then
    (idx p0.2.2.2 st50.1).bind fun x114 =>
    (idx st50.2 (W (x114.1 + 1))).bind fun x121 =>
    (idx st50.2 (W (x114.1 + 1))).bind fun x123 =>
    (upd st50.2 (W (x114.1 + 1)) (W (x121 + 1))).bind fun x125 =>
    some (.inl (W (st50.1 + 1), x125))
  else
    some (.inr st50.2)
/-- What reach.newGraph computes. -/
noncomputable def m_reach_newGraph (p0 : List Int × Int × List Int × (List (Int × Int × Int))) : Option ((List Int × Int × List Int × (List (Int × Int × Int))) × List Int) :=
  (mkL (W (p0.2.1 + 1)) (0 : Int)).bind fun x19 =>
  (iter (m_reach_newGraph_l1 p0) (0, x19)).bind fun o50 =>
  (iter (m_reach_newGraph_l2 p0) (0, o50)).bind fun o82 =>
  some (p0, o82)
set_option maxRecDepth 100000 in
set_option maxHeartbeats 8000000 in
theorem m_reach_newGraph_c {s : Sig} {p0 : List Int × Int × List Int × (List (Int × Int × Int))} {a1 : Option Addr} {c1 : Nat} {a2 : Option Addr} {c2 : Nat} {a3 : Option Addr} {c3 : Nat} {u3 : Nat} {r : ((List Int × Int × List Int × (List (Int × Int × Int))) × List Int)} (h1 : RdL (rK .i64) s a1 c1 p0.1) (h2 : RdL (rK .i64) s a2 c2 p0.2.2.1) (h3 : RdL (rP (rK .i64) (rP (rK .i64) (rK .i64))) s a3 c3 p0.2.2.2) (hm : m_reach_newGraph p0 = some r) :
    Calls Tryd.prog 55 #[.agg #[.slice a1 p0.1.length c1, .int .i64 p0.2.1, .slice a2 p0.2.2.1.length c2, .slice a3 p0.2.2.2.length c3]] s.w (RetS No s fun v s' => ∃ (a4 : Option Addr) (c4 : Nat) (a5 : Option Addr) (c5 : Nat) (a6 : Option Addr) (c6 : Nat) (a7 : Option Addr) (c7 : Nat), v = .agg #[.slice a4 r.1.1.length c4, .int .i64 r.1.2.1, .slice a5 r.1.2.2.1.length c5, .slice a6 r.1.2.2.2.length c6, .slice a7 r.2.length c7] ∧ RdL (rK .i64) s' a4 c4 r.1.1 ∧ RdL (rK .i64) s' a5 c5 r.1.2.2.1 ∧ RdL (rP (rK .i64) (rP (rK .i64) (rK .i64))) s' a6 c6 r.1.2.2.2 ∧ RowT (rK .i64) s' u3 3 a7 c7 r.2) := by
 unfold m_reach_newGraph at hm
 obtain ⟨N, hN, hNb⟩ := s.fresh
 have m0 : Mv (Up N No) s s := Mv.refl _ _
 refine E.entry Tryd.func55 rfl Tryd.ntmps55 rfl rfl (E.seq (E.reg (L.box (N + 0) Wt.no rfl rfl rfl fun b8 s9 m10 bx8 => ?_)))
 replace m0 := m0.trans m10.no
 replace h1 := h1.mono (m10.le no_No)
 replace h2 := h2.mono (m10.le no_No)
 replace h3 := h3.mono (m10.le no_No)
 refine L.al (N + 1) zz99 rfl Wt.no rfl fun b11 s12 m13 bx11 => ?_
 replace m0 := m0.trans m13.no
 replace bx8 := bx8.mv m13 no_No
 replace h1 := h1.mono (m13.le no_No)
 replace h2 := h2.mono (m13.le no_No)
 replace h3 := h3.mono (m13.le no_No)
 refine L.nil (X.seqN (E.seq ?_))
 obtain ⟨x19, ex19, hm⟩ := bindS hm
 refine E.draw [[], [], [1], [1, 2], [1, 2, 3], [0, 1, 2, 3, 4], [], [0, 1, 2, 3, 4, 5, 6]] (fun D e sx => Mv (One (N + 3)) s12 sx ∧ Sub [(2, .pointer (some ⟨b11, 0, none⟩)), (1, .pointer (some ⟨b8, 0, none⟩))] e ∧ AllP [G D e 0 7 (.agg #[.slice a1 p0.1.length c1, .int .i64 p0.2.1, .slice a2 p0.2.2.1.length c2, .slice a3 p0.2.2.2.length c3]), G D e 1 8 (.pointer (some ⟨b8, 1, none⟩)), G D e 2 9 (.int .i64 p0.2.1), G D e 3 10 (.int .i64 (W (p0.2.1 + 1))), D 4 = true → (∃ (b20 : Nat), Env.get e 11 = some (.slice (some ⟨b20, 0, none⟩) x19.length x19.length) ∧ RowT (rK .i64) sx (N + 2) 3 (some ⟨b20, 0, none⟩) x19.length x19), D 5 = true → ∀ (b20 : Nat), Env.get e 11 = some (.slice (some ⟨b20, 0, none⟩) x19.length x19.length) → (Env.get e 12 = some (.agg #[.slice a1 p0.1.length c1, .int .i64 p0.2.1, .slice a2 p0.2.2.1.length c2, .slice a3 p0.2.2.2.length c3, .slice (some ⟨b20, 0, none⟩) x19.length x19.length])), D 6 = true → (∃ (b25 : Nat), Env.get e 3 = some (.pointer (some ⟨b25, 0, none⟩))), D 6 = true → D 7 = false → ∀ (b25 : Nat), Env.get e 3 = some (.pointer (some ⟨b25, 0, none⟩)) → Bx sx (N + 3) b25 #[.slice none 0 0, .int .i64 0, .slice none 0 0, .slice none 0 0, .slice none 0 0] 99, D 7 = true → ∀ (b20 : Nat) (b25 : Nat), Env.get e 11 = some (.slice (some ⟨b20, 0, none⟩) x19.length x19.length) → Env.get e 3 = some (.pointer (some ⟨b25, 0, none⟩)) → Bx sx (N + 3) b25 #[.slice a1 p0.1.length c1, .int .i64 p0.2.1, .slice a2 p0.2.2.1.length c2, .slice a3 p0.2.2.2.length c3, .slice (some ⟨b20, 0, none⟩) x19.length x19.length] 99]) (by kernel_rfl) (by kernel_rfl) (by kernel_rfl) ?_ ?_ ?_
 ·intro sz mz
  exact ⟨mz.no, (Sub.rf rfl), nofun, nofun, nofun, nofun, nofun, nofun, nofun, nofun, nofun, trivial⟩
 ·refine ⟨?_, ?_, ?_, ?_, ?_, ?_, ?_, ?_, trivial⟩
  ·rintro D e s14 ⟨im, ib, i⟩ hk hf ha
   have bx8 := bx8.mv im (tgN (by decide))
   have kn := K1 (ib 1 _ rfl)
   exact L.kns _ kn (L.lg (j := 0) (cs := [.slice a1 p0.1.length c1, .int .i64 p0.2.1, .slice a2 p0.2.2.1.length c2, .slice a3 p0.2.2.2.length c3]) bx8.mem ag34 Wt.no rfl rfl rfl rfl rfl (L.nil (X.dk kn ⟨im, Sub.fresh ib rfl, i.u 0 (fun _ => rfl)⟩)))
  ·rintro D e s15 ⟨im, ib, i⟩ hk hf ha
   have kn := K1 (ib 1 _ rfl)
   exact L.kns _ kn (L.fa fa34_1 Wt.no rfl rfl (L.nil (X.dk kn ⟨im, Sub.fresh ib rfl, i.u 1 (fun _ => rfl)⟩)))
  ·rintro D e s16 ⟨im, ib, i⟩ hk hf ha
   have bx8 := bx8.mv im (tgN (by decide))
   have kn := K1 ((i.p 1) (ha.at 1 rfl))
   exact L.kns _ kn (L.ld (j := 1) bx8.mem nag3 Wt.no rfl rfl rfl rfl (L.nil (X.dk kn ⟨im, Sub.fresh ib rfl, i.u 2 (fun _ => rfl)⟩)))
  ·rintro D e s17 ⟨im, ib, i⟩ hk hf ha
   have kn := K1 ((i.p 2) (ha.at 2 rfl))
   exact L.kns _ kn (L.bi Wt.no rfl rfl rfl rfl (L.nil (X.dk kn ⟨im, Sub.fresh ib rfl, i.u 3 (fun _ => rfl)⟩)))
  ·rintro D e s18 ⟨im, ib, i⟩ hk hf ha
   have kn := K1 ((i.p 3) (ha.at 3 rfl))
   exact L.kns _ kn (L.mk (z := (0 : Int)) (N + 2) Tryd.underlying31 zr3 rfl Wt.no rfl rfl ex19 rfl fun b20 s21 m22 h20 => L.nil (X.dk kn ⟨im.trans m22.no, Sub.fresh ib rfl, (((i.u 4 (fun _ => ⟨b20, rfl, h20⟩)).u 5 (fun z => Bool.noConfusion ((hf 5 (Nat.le_of_ble_eq_true rfl) rfl).symm.trans z))).u 7 (fun z z2 b25 q6 => (((i.p 7) z z2 b25 q6).mv m22 no_No))).u 8 (fun z => Bool.noConfusion ((hf 7 (Nat.le_of_ble_eq_true rfl) rfl).symm.trans z))⟩))
  ·rintro D e s23 ⟨im, ib, i⟩ hk hf ha
   obtain ⟨b20, g4_, h20⟩ := (i.p 4) (ha.at 4 rfl)
   have kn := K2 ((i.p 0) (ha.at 0 rfl)) g4_
   exact L.kns _ kn (L.bu (cs := [.slice a1 p0.1.length c1, .int .i64 p0.2.1, .slice a2 p0.2.2.1.length c2, .slice a3 p0.2.2.2.length c3, .slice (some ⟨b20, 0, none⟩) x19.length x19.length]) pl99 Wt.no rfl rfl rfl (L.nil (X.dk kn ⟨im, Sub.fresh ib rfl, i.u 5 (fun _ _ q4 => by cases g4_.symm.trans q4; exact rfl)⟩)))
  ·rintro D e s24 ⟨im, ib, i⟩ hk hf ha
   exact L.al (N + 3) zz99 rfl Wt.no rfl fun b25 s26 m27 bx25 => L.nil (X.dr (s := s26) (e' := (3, .pointer (some ⟨b25, 0, none⟩)) :: e) (Sub.both (Sub.refl)) ⟨im.trans m27.no, Sub.fresh ib rfl, (((i.u 4 (fun z => let ⟨b20, q, h20⟩ := (i.p 4) z; ⟨b20, q, (h20.mv m27 no_No no_No)⟩)).u 6 (fun _ => ⟨b25, rfl⟩)).u 7 (fun _ _ _ q6 => by cases (show some (.pointer (some ⟨b25, 0, none⟩) : Value) = some _ from q6); exact bx25)).u 8 (fun z => Bool.noConfusion ((hf 7 (Nat.le_of_ble_eq_true rfl) rfl).symm.trans z))⟩)
  rintro D e s28 ⟨im, ib, i⟩ hk hf ha
  obtain ⟨b20, g4_, h20⟩ := (i.p 4) (ha.at 4 rfl)
  have g5_ := (i.p 5) (ha.at 5 rfl) b20 g4_
  obtain ⟨b25, g6_⟩ := (i.p 6) (ha.at 6 rfl)
  obtain bx25 := (i.p 7) (ha.at 6 rfl) hk b25 g6_
  have kn := K2 g6_ g5_
  exact L.kns _ kn (L.st (c := [.slice a1 p0.1.length c1, .int .i64 p0.2.1, .slice a2 p0.2.2.1.length c2, .slice a3 p0.2.2.2.length c3, .slice (some ⟨b20, 0, none⟩) x19.length x19.length]) (cs' := #[.slice a1 p0.1.length c1, .int .i64 p0.2.1, .slice a2 p0.2.2.1.length c2, .slice a3 p0.2.2.2.length c3, .slice (some ⟨b20, 0, none⟩) x19.length x19.length]) bx25 ag99.sz Wt.no rfl rfl rfl rfl rfl (Nat.le_of_ble_eq_true rfl) rfl fun s29 m30 bx25 => L.nil (X.dn kn ⟨im.trans (m30.one rfl), ib, ((i.u 4 (fun z => let ⟨b20, q, h20⟩ := (i.p 4) z; ⟨b20, q, (h20.mv m30 (tgN (by decide)) (tg0 hN))⟩)).u 7 (fun _ z => Bool.noConfusion (show true = false from z))).u 8 (fun _ _ _ q4 q6 => by cases g4_.symm.trans q4; cases g6_.symm.trans q6; exact bx25)⟩))
 rintro D e s31 hD ⟨im, ib, i⟩
 obtain ⟨b20, g4_, h20⟩ := (i.p 4) (hD 4 rfl)
 obtain ⟨b25, g6_⟩ := (i.p 6) (hD 6 rfl)
 obtain bx25 := (i.p 8) (hD 7 rfl) b20 b25 g4_ g6_
 have h1 := h1.mono (im.le (tg0 hN))
 have h2 := h2.mono (im.le (tg0 hN))
 have h3 := h3.mono (im.le (tg0 hN))
 have bx11 := bx11.mv im (tgN (by decide))
 have bx8 := bx8.mv im (tgN (by decide))
 have m0 := m0.trans (im.one up)
 refine X.sub (e' := [(3, .pointer (some ⟨b25, 0, none⟩)), (2, .pointer (some ⟨b11, 0, none⟩)), (1, .pointer (some ⟨b8, 0, none⟩))]) ?_ (Sub.cons g6_ (Sub.cons (ib 2 _ rfl) (Sub.cons (ib 1 _ rfl) Sub.nil)))
 refine X.seqN (E.seq (E.seq (E.reg (L.fa fa34_3 Wt.no rfl rfl (L.ld (j := 3) bx8.mem nag32 Wt.no rfl rfl rfl rfl (L.len sl32 Wt.no rfl rfl (L.mv Wt.no rfl rfl (L.nil (X.seqN (E.block ?_))))))))))
 obtain ⟨o50, eo50, hm⟩ := bindS hm
 refine E.cut (x := .exit 0) (fun e w => ∃ (s53 : Sig), Mv (Up N No) s s53 ∧ RdL (rK .i64) s53 a1 c1 p0.1 ∧ RdL (rK .i64) s53 a2 c2 p0.2.2.1 ∧ RdL (rP (rK .i64) (rP (rK .i64) (rK .i64))) s53 a3 c3 p0.2.2.2 ∧ RowT (rK .i64) s53 (N + 2) 3 (some ⟨b20, 0, none⟩) x19.length o50 ∧ Bx s53 (N + 0) b8 #[.slice a1 p0.1.length c1, .int .i64 p0.2.1, .slice a2 p0.2.2.1.length c2, .slice a3 p0.2.2.2.length c3] 34 ∧ Bx s53 (N + 1) b11 #[.slice none 0 0, .int .i64 0, .slice none 0 0, .slice none 0 0, .slice none 0 0] 99 ∧ Bx s53 (N + 3) b25 #[.slice a1 p0.1.length c1, .int .i64 p0.2.1, .slice a2 p0.2.2.1.length c2, .slice a3 p0.2.2.2.length c3, .slice (some ⟨b20, 0, none⟩) o50.length x19.length] 99 ∧ e = [(3, .pointer (some ⟨b25, 0, none⟩)), (2, .pointer (some ⟨b11, 0, none⟩)), (1, .pointer (some ⟨b8, 0, none⟩))] ∧ w = s53.w) ?_ ?_
 ·rintro _ _ ⟨s53, m0, h1, h2, h3, h20, bx8, bx11, bx25, rfl, rfl⟩
  refine X.blkE (X.seqN (E.seq (E.seq (E.reg (L.fa fa34_1 Wt.no rfl rfl (L.ld (j := 1) bx8.mem nag3 Wt.no rfl rfl rfl rfl (L.mv Wt.no rfl rfl (L.nil (X.seqN (E.block ?_))))))))))
  obtain ⟨o82, eo82, hm⟩ := bindS hm
  refine E.cut (x := .exit 2) (fun e w => ∃ (s85 : Sig), Mv (Up N No) s s85 ∧ RdL (rK .i64) s85 a1 c1 p0.1 ∧ RdL (rK .i64) s85 a2 c2 p0.2.2.1 ∧ RdL (rP (rK .i64) (rP (rK .i64) (rK .i64))) s85 a3 c3 p0.2.2.2 ∧ RowT (rK .i64) s85 (N + 2) 3 (some ⟨b20, 0, none⟩) x19.length o82 ∧ Bx s85 (N + 1) b11 #[.slice none 0 0, .int .i64 0, .slice none 0 0, .slice none 0 0, .slice none 0 0] 99 ∧ Bx s85 (N + 3) b25 #[.slice a1 p0.1.length c1, .int .i64 p0.2.1, .slice a2 p0.2.2.1.length c2, .slice a3 p0.2.2.2.length c3, .slice (some ⟨b20, 0, none⟩) o82.length x19.length] 99 ∧ e = [(3, .pointer (some ⟨b25, 0, none⟩)), (2, .pointer (some ⟨b11, 0, none⟩))] ∧ w = s85.w) ?_ ?_
  ·rintro _ _ ⟨s85, m0, h1, h2, h3, h20, bx11, bx25, rfl, rfl⟩
   refine X.blkE (X.seqN (E.seq (E.reg (L.lg (j := 0) (cs := [.slice a1 p0.1.length c1, .int .i64 p0.2.1, .slice a2 p0.2.2.1.length c2, .slice a3 p0.2.2.2.length c3, .slice (some ⟨b20, 0, none⟩) o82.length x19.length]) bx25.mem ag99 Wt.no rfl rfl rfl rfl rfl (L.st (c := [.slice a1 p0.1.length c1, .int .i64 p0.2.1, .slice a2 p0.2.2.1.length c2, .slice a3 p0.2.2.2.length c3, .slice (some ⟨b20, 0, none⟩) o82.length x19.length]) (cs' := #[.slice a1 p0.1.length c1, .int .i64 p0.2.1, .slice a2 p0.2.2.1.length c2, .slice a3 p0.2.2.2.length c3, .slice (some ⟨b20, 0, none⟩) o82.length x19.length]) bx11 ag99.sz Wt.no rfl rfl rfl rfl rfl (Nat.le_of_ble_eq_true rfl) rfl fun s86 m87 bx11 => ?_)))))
   replace m0 := m0.trans (m87.one up)
   replace h1 := h1.mono (m87.le (tg0 hN))
   replace h2 := h2.mono (m87.le (tg0 hN))
   replace h3 := h3.mono (m87.le (tg0 hN))
   replace h20 := h20.mv m87 (tgN (by decide)) (tg0 hN)
   refine L.nil (X.seqN (E.ret ?_))
   obtain rfl := Option.some.inj hm
   exact X.rt (.inl rfl) Tryd.results55 (Rs.cell rfl bx11 ag99 rfl Rs.nil) rfl ⟨_, (s86).ren N (fun k => cond (Nat.beq k 2) u3 (0)), rfl, rfl, m0.ren hNb, ⟨a1, c1, a2, c2, a3, c3, (some ⟨b20, 0, none⟩), x19.length, rfl, (h1.ren hN), (h2.ren hN), (h3.ren hN), (h20.ren hN)⟩⟩
  intro K88
  refine E.iter (fun (st82 : Int × List Int) (e : List (Nat × Value)) (w : World) => ∃ (s84 : Sig), Mv (Up N No) s s84 ∧ RdL (rK .i64) s84 a1 c1 p0.1 ∧ RdL (rK .i64) s84 a2 c2 p0.2.2.1 ∧ RdL (rP (rK .i64) (rP (rK .i64) (rK .i64))) s84 a3 c3 p0.2.2.2 ∧ RowT (rK .i64) s84 (N + 2) 3 (some ⟨b20, 0, none⟩) x19.length st82.2 ∧ Bx s84 (N + 1) b11 #[.slice none 0 0, .int .i64 0, .slice none 0 0, .slice none 0 0, .slice none 0 0] 99 ∧ Bx s84 (N + 3) b25 #[.slice a1 p0.1.length c1, .int .i64 p0.2.1, .slice a2 p0.2.2.1.length c2, .slice a3 p0.2.2.2.length c3, .slice (some ⟨b20, 0, none⟩) st82.2.length x19.length] 99 ∧ e = [(32, .int .i64 st82.1), (31, .int .i64 p0.2.1), (3, .pointer (some ⟨b25, 0, none⟩)), (2, .pointer (some ⟨b11, 0, none⟩))] ∧ w = s84.w) eo82 ⟨s53, m0, h1, h2, h3, h20, bx11, bx25, rfl, rfl⟩ (Sub.rf rfl) ?_
  rintro st82 res82 hm ih82 ho82 _ _ ⟨s84, m0, h1, h2, h3, h20, bx11, bx25, rfl, rfl⟩
  unfold m_reach_newGraph_l2 at hm
  refine E.seq (E.reg (L.bi Wt.no rfl rfl rfl rfl (L.nil (X.seqN (E.seq ?_)))))
  rcases ifS hm with ⟨hc, hm⟩ | ⟨hc, hm⟩
  ·refine E.cT rfl hc (E.skip (X.seqN (E.seq (E.block (E.seq (E.reg (L.mv Wt.no rfl rfl (L.as Wt.no rfl rfl (L.nil (X.seqN ?_))))))))))
   obtain ⟨x94, ex94, hm⟩ := bindS hm
   obtain ⟨x101, ex101, hm⟩ := bindS hm
   obtain ⟨x106, ex106, hm⟩ := bindS hm
   obtain ⟨x109, ex109, hm⟩ := bindS hm
   have elx109 := upd_len ex109
   refine E.draw [[], [0], [], [2], [0, 1, 2, 3], [0, 1, 2, 3, 4], [], [6], [], [6, 7, 8], [6, 7, 8, 9], [0, 1, 2, 3, 4, 5, 6, 7, 8, 9, 10], [0, 1, 2, 3, 4, 5, 6, 7, 8, 9, 10, 11], [0, 1, 2, 3, 4, 5, 6, 7, 8, 9, 10, 11, 12]] (fun D e sx => Mv (One (N + 2)) s84 sx ∧ Sub [(6, .int .i64 st82.1), (32, .int .i64 st82.1), (31, .int .i64 p0.2.1), (3, .pointer (some ⟨b25, 0, none⟩)), (2, .pointer (some ⟨b11, 0, none⟩))] e ∧ AllP [G D e 0 35 (.pointer (some ⟨b25, 4, none⟩)), G D e 1 36 (.slice (some ⟨b20, 0, none⟩) st82.2.length x19.length), G D e 2 37 (.int .i64 st82.1), G D e 3 38 (.int .i64 (W (st82.1 + 1))), D 4 = true → (∃ (b95 : Nat) (o95 : Nat), Env.get e 39 = some (.pointer (some ⟨b95, o95, none⟩)) ∧ Spot (some ⟨b20, 0, none⟩) (rK .i64).sz (W (st82.1 + 1)).toNat b95 o95), G D e 5 40 (.int .i64 x94), G D e 6 41 (.pointer (some ⟨b25, 4, none⟩)), G D e 7 42 (.slice (some ⟨b20, 0, none⟩) st82.2.length x19.length), G D e 8 43 (.int .i64 st82.1), D 9 = true → (∃ (b102 : Nat) (o102 : Nat), Env.get e 44 = some (.pointer (some ⟨b102, o102, none⟩)) ∧ Spot (some ⟨b20, 0, none⟩) (rK .i64).sz (st82.1).toNat b102 o102), G D e 10 45 (.int .i64 x101), G D e 11 46 (.int .i64 (W (x94 + x101))), D 12 = true → (∃ (b107 : Nat) (o107 : Nat), Env.get e 47 = some (.pointer (some ⟨b107, o107, none⟩)) ∧ Spot (some ⟨b20, 0, none⟩) (rK .i64).sz (W (st82.1 + 1)).toNat b107 o107), D 13 = false → RowT (rK .i64) sx (N + 2) 3 (some ⟨b20, 0, none⟩) x19.length st82.2, D 13 = true → RowT (rK .i64) sx (N + 2) 3 (some ⟨b20, 0, none⟩) x19.length x109, D 4 = true → D 13 = false → ∀ (b95 : Nat) (o95 : Nat), Env.get e 39 = some (.pointer (some ⟨b95, o95, none⟩)) → Mem sx (N + 2) b95 o95 [.int .i64 x94], D 9 = true → D 13 = false → ∀ (b102 : Nat) (o102 : Nat), Env.get e 44 = some (.pointer (some ⟨b102, o102, none⟩)) → Mem sx (N + 2) b102 o102 [.int .i64 x101], D 12 = true → D 13 = false → ∀ (b107 : Nat) (o107 : Nat), Env.get e 47 = some (.pointer (some ⟨b107, o107, none⟩)) → Mem sx (N + 2) b107 o107 [.int .i64 x106]]) (by kernel_rfl) (by kernel_rfl) (by kernel_rfl) ?_ ?_ ?_
   ·intro sz mz
    exact ⟨mz.no, (Sub.rf rfl), nofun, nofun, nofun, nofun, nofun, nofun, nofun, nofun, nofun, nofun, nofun, nofun, nofun, fun _ => h20.mv mz no_No no_No, nofun, nofun, nofun, nofun, trivial⟩
   ·refine ⟨?_, ?_, ?_, ?_, ?_, ?_, ?_, ?_, ?_, ?_, ?_, ?_, ?_, ?_, trivial⟩
    ·rintro D e s89 ⟨im, ib, i⟩ hk hf ha
     have kn := K1 (ib 3 _ rfl)
     exact L.kns _ kn (L.fa fa99_1 Wt.no rfl rfl (L.nil (X.dk kn ⟨im, Sub.fresh ib rfl, i.u 0 (fun _ => rfl)⟩)))
    ·rintro D e s90 ⟨im, ib, i⟩ hk hf ha
     have bx25 := bx25.mv im (tgN (by decide))
     have kn := K1 ((i.p 0) (ha.at 0 rfl))
     exact L.kns _ kn (L.ld (j := 4) bx25.mem nag31 Wt.no rfl rfl rfl rfl (L.nil (X.dk kn ⟨im, Sub.fresh ib rfl, i.u 1 (fun _ => rfl)⟩)))
    ·rintro D e s91 ⟨im, ib, i⟩ hk hf ha
     have kn := K1 (ib 6 _ rfl)
     exact L.kns _ kn (L.mv Wt.no rfl rfl (L.nil (X.dk kn ⟨im, Sub.fresh ib rfl, i.u 2 (fun _ => rfl)⟩)))
    ·rintro D e s92 ⟨im, ib, i⟩ hk hf ha
     have kn := K1 ((i.p 2) (ha.at 2 rfl))
     exact L.kns _ kn (L.bi Wt.no rfl rfl rfl rfl (L.nil (X.dk kn ⟨im, Sub.fresh ib rfl, i.u 3 (fun _ => rfl)⟩)))
    ·rintro D e s93 ⟨im, ib, i⟩ hk hf ha
     obtain h20 := (i.p 13) (hf 13 (Nat.le_of_ble_eq_true rfl) rfl)
     have kn := K2 ((i.p 1) (ha.at 1 rfl)) ((i.p 3) (ha.at 3 rfl))
     refine L.kns _ kn (L.ir (r := (rK .i64)) sl31 h20 Wt.no rfl rfl ex94 rfl fun b95 o95 cc95 me95 rd95 sp95 => ?_)
     obtain rfl := rd95
     exact L.nil (X.dk kn ⟨im, Sub.fresh ib rfl, (i.u 4 (fun _ => ⟨b95, o95, rfl, sp95⟩)).u 15 (fun _ _ _ _ q4 => by cases (show some (.pointer (some ⟨b95, o95, none⟩) : Value) = some _ from q4); exact me95)⟩)
    ·rintro D e s96 ⟨im, ib, i⟩ hk hf ha
     obtain ⟨b95, o95, g4_, sp95⟩ := (i.p 4) (ha.at 4 rfl)
     have me95 := (i.p 15) (ha.at 4 rfl) (hf 13 (Nat.le_of_ble_eq_true rfl) rfl) b95 o95 g4_
     have kn := K1 g4_
     exact L.kns _ kn (L.ld (j := 0) me95 nag3 Wt.no rfl rfl rfl rfl (L.nil (X.dk kn ⟨im, Sub.fresh ib rfl, i.u 5 (fun _ => rfl)⟩)))
    ·rintro D e s97 ⟨im, ib, i⟩ hk hf ha
     have kn := K1 (ib 3 _ rfl)
     exact L.kns _ kn (L.fa fa99_1 Wt.no rfl rfl (L.nil (X.dk kn ⟨im, Sub.fresh ib rfl, i.u 6 (fun _ => rfl)⟩)))
    ·rintro D e s98 ⟨im, ib, i⟩ hk hf ha
     have bx25 := bx25.mv im (tgN (by decide))
     have kn := K1 ((i.p 6) (ha.at 6 rfl))
     exact L.kns _ kn (L.ld (j := 4) bx25.mem nag31 Wt.no rfl rfl rfl rfl (L.nil (X.dk kn ⟨im, Sub.fresh ib rfl, i.u 7 (fun _ => rfl)⟩)))
    ·rintro D e s99 ⟨im, ib, i⟩ hk hf ha
     have kn := K1 (ib 6 _ rfl)
     exact L.kns _ kn (L.mv Wt.no rfl rfl (L.nil (X.dk kn ⟨im, Sub.fresh ib rfl, i.u 8 (fun _ => rfl)⟩)))
    ·rintro D e s100 ⟨im, ib, i⟩ hk hf ha
     obtain h20 := (i.p 13) (hf 13 (Nat.le_of_ble_eq_true rfl) rfl)
     have kn := K2 ((i.p 7) (ha.at 7 rfl)) ((i.p 8) (ha.at 8 rfl))
     refine L.kns _ kn (L.ir (r := (rK .i64)) sl31 h20 Wt.no rfl rfl ex101 rfl fun b102 o102 cc102 me102 rd102 sp102 => ?_)
     obtain rfl := rd102
     exact L.nil (X.dk kn ⟨im, Sub.fresh ib rfl, (i.u 9 (fun _ => ⟨b102, o102, rfl, sp102⟩)).u 16 (fun _ _ _ _ q9 => by cases (show some (.pointer (some ⟨b102, o102, none⟩) : Value) = some _ from q9); exact me102)⟩)
    ·rintro D e s103 ⟨im, ib, i⟩ hk hf ha
     obtain ⟨b102, o102, g9_, sp102⟩ := (i.p 9) (ha.at 9 rfl)
     have me102 := (i.p 16) (ha.at 9 rfl) (hf 13 (Nat.le_of_ble_eq_true rfl) rfl) b102 o102 g9_
     have kn := K1 g9_
     exact L.kns _ kn (L.ld (j := 0) me102 nag3 Wt.no rfl rfl rfl rfl (L.nil (X.dk kn ⟨im, Sub.fresh ib rfl, i.u 10 (fun _ => rfl)⟩)))
    ·rintro D e s104 ⟨im, ib, i⟩ hk hf ha
     have kn := K2 ((i.p 5) (ha.at 5 rfl)) ((i.p 10) (ha.at 10 rfl))
     exact L.kns _ kn (L.bi Wt.no rfl rfl rfl rfl (L.nil (X.dk kn ⟨im, Sub.fresh ib rfl, i.u 11 (fun _ => rfl)⟩)))
    ·rintro D e s105 ⟨im, ib, i⟩ hk hf ha
     obtain h20 := (i.p 13) (hf 13 (Nat.le_of_ble_eq_true rfl) rfl)
     have kn := K2 ((i.p 1) (ha.at 1 rfl)) ((i.p 3) (ha.at 3 rfl))
     refine L.kns _ kn (L.ir (r := (rK .i64)) sl31 h20 Wt.no rfl rfl ex106 rfl fun b107 o107 cc107 me107 rd107 sp107 => ?_)
     obtain rfl := rd107
     exact L.nil (X.dk kn ⟨im, Sub.fresh ib rfl, (i.u 12 (fun _ => ⟨b107, o107, rfl, sp107⟩)).u 17 (fun _ _ _ _ q12 => by cases (show some (.pointer (some ⟨b107, o107, none⟩) : Value) = some _ from q12); exact me107)⟩)
    rintro D e s108 ⟨im, ib, i⟩ hk hf ha
    obtain ⟨b107, o107, g12_, sp107⟩ := (i.p 12) (ha.at 12 rfl)
    obtain h20 := (i.p 13) hk
    have kn := K2 g12_ ((i.p 11) (ha.at 11 rfl))
    exact L.kns _ kn (L.su (fo := 0) (c := [.int .i64 (W (x94 + x101))]) (z := W (x94 + x101)) h20 sp107 ex106 ex109 (tgp hN) nag3.sz Wt.no rfl rfl rfl rfl rfl rfl (fun c0 hc0 => by obtain rfl := hc0; exact rfl) fun s110 m111 h20 => L.nil (X.dn kn ⟨im.trans (m111.one rfl), ib, (((((((i.u 4 (fun z => let ⟨b95, o95, q, sp95⟩ := (i.p 4) z; ⟨b95, o95, q, sp95⟩)).u 9 (fun z => let ⟨b102, o102, q, sp102⟩ := (i.p 9) z; ⟨b102, o102, q, sp102⟩)).u 12 (fun z => let ⟨b107, o107, q, sp107⟩ := (i.p 12) z; ⟨b107, o107, q, sp107⟩)).u 13 (fun z => Bool.noConfusion (show true = false from z))).u 14 (fun _ => by exact h20)).u 15 (fun _ y13 => Bool.noConfusion (show true = false from y13))).u 16 (fun _ y13 => Bool.noConfusion (show true = false from y13))).u 17 (fun _ y13 => Bool.noConfusion (show true = false from y13))⟩))
   rintro D e s112 hD ⟨im, ib, i⟩
   obtain h20 := (i.p 14) (hD 13 rfl)
   have bx25 := bx25.mv im (tgN (by decide))
   have h1 := h1.mono (im.le (tg0 hN))
   have h2 := h2.mono (im.le (tg0 hN))
   have h3 := h3.mono (im.le (tg0 hN))
   have bx11 := bx11.mv im (tgN (by decide))
   have m0 := m0.trans (im.one up)
   refine X.sub (e' := [(32, .int .i64 st82.1), (31, .int .i64 p0.2.1), (3, .pointer (some ⟨b25, 0, none⟩)), (2, .pointer (some ⟨b11, 0, none⟩))]) ?_ (Sub.cons (ib 32 _ rfl) (Sub.cons (ib 31 _ rfl) (Sub.cons (ib 3 _ rfl) (Sub.cons (ib 2 _ rfl) Sub.nil))))
   rw [← elx109] at bx25
   exact X.blkN (X.seqN (E.reg (L.bi Wt.no rfl rfl rfl rfl (L.mv Wt.no rfl rfl (L.nil (X.sub (ih82 _ (Option.some.inj hm).symm _ _ ⟨s112, m0, h1, h2, h3, h20, bx11, bx25, rfl, rfl⟩) (Sub.rf rfl)))))))
  refine E.cF rfl hc (E.exit (X.seqX (X.seqX ?_)))
  have hx := ho82 _ (Option.some.inj hm).symm
  subst hx
  exact X.sub (K88 _ _ ⟨s84, m0, h1, h2, h3, h20, bx11, bx25, rfl, rfl⟩) (Sub.rf rfl)
 intro K113
 refine E.iter (fun (st50 : Int × List Int) (e : List (Nat × Value)) (w : World) => ∃ (s52 : Sig), Mv (Up N No) s s52 ∧ RdL (rP (rK .i64) (rP (rK .i64) (rK .i64))) s52 a3 c3 p0.2.2.2 ∧ RdL (rK .i64) s52 a1 c1 p0.1 ∧ RdL (rK .i64) s52 a2 c2 p0.2.2.1 ∧ RowT (rK .i64) s52 (N + 2) 3 (some ⟨b20, 0, none⟩) x19.length st50.2 ∧ Bx s52 (N + 0) b8 #[.slice a1 p0.1.length c1, .int .i64 p0.2.1, .slice a2 p0.2.2.1.length c2, .slice a3 p0.2.2.2.length c3] 34 ∧ Bx s52 (N + 1) b11 #[.slice none 0 0, .int .i64 0, .slice none 0 0, .slice none 0 0, .slice none 0 0] 99 ∧ Bx s52 (N + 3) b25 #[.slice a1 p0.1.length c1, .int .i64 p0.2.1, .slice a2 p0.2.2.1.length c2, .slice a3 p0.2.2.2.length c3, .slice (some ⟨b20, 0, none⟩) st50.2.length x19.length] 99 ∧ e = [(16, .int .i64 st50.1), (15, .int .i64 (p0.2.2.2.length : Int)), (14, .slice a3 p0.2.2.2.length c3), (3, .pointer (some ⟨b25, 0, none⟩)), (2, .pointer (some ⟨b11, 0, none⟩)), (1, .pointer (some ⟨b8, 0, none⟩))] ∧ w = s52.w) eo50 ⟨s31, m0, h3, h1, h2, h20, bx8, bx11, bx25, rfl, rfl⟩ (Sub.rf rfl) ?_
 rintro st50 res50 hm ih50 ho50 _ _ ⟨s52, m0, h3, h1, h2, h20, bx8, bx11, bx25, rfl, rfl⟩
 unfold m_reach_newGraph_l1 at hm
 refine E.seq (E.reg (L.bi Wt.no rfl rfl rfl rfl (L.nil (X.seqN (E.seq ?_)))))
 rcases ifS hm with ⟨hc, hm⟩ | ⟨hc, hm⟩
 ·refine E.cT rfl hc (E.skip (X.seqN (E.seq (E.block (E.seq (E.reg ?_))))))
  obtain ⟨x114, ex114, hm⟩ := bindS hm
  refine L.ix (r := (rP (rK .i64) (rP (rK .i64) (rK .i64)))) sl32 h3 Wt.no rfl rfl ex114 rfl fun b115 o115 cc115 me115 rd115 => ?_
  obtain ⟨_, _, rfl, rfl, ⟨_, _, rfl, rfl, rfl⟩⟩ := rd115
  refine L.lg (j := 0) (cs := [.int .i64 x114.1, .int .i64 x114.2.1, .int .i64 x114.2.2]) me115 ag58 Wt.no rfl rfl rfl rfl rfl (L.al (N + 4) zz58 rfl Wt.no rfl fun b116 s117 m118 bx116 => ?_)
  replace m0 := m0.trans m118.no
  replace h3 := h3.mono (m118.le no_No)
  replace bx8 := bx8.mv m118 no_No
  replace h1 := h1.mono (m118.le no_No)
  replace h2 := h2.mono (m118.le no_No)
  replace bx11 := bx11.mv m118 no_No
  replace bx25 := bx25.mv m118 no_No
  replace h20 := h20.mv m118 no_No no_No
  refine L.st (c := [.int .i64 x114.1, .int .i64 x114.2.1, .int .i64 x114.2.2]) (cs' := #[.int .i64 x114.1, .int .i64 x114.2.1, .int .i64 x114.2.2]) bx116 ag58.sz Wt.no rfl rfl rfl rfl rfl (Nat.le_of_ble_eq_true rfl) rfl fun s119 m120 bx116 => ?_
  replace m0 := m0.trans (m120.one up)
  replace h3 := h3.mono (m120.le (tg0 hN))
  replace bx8 := bx8.mv m120 (tgN (by decide))
  replace h1 := h1.mono (m120.le (tg0 hN))
  replace h2 := h2.mono (m120.le (tg0 hN))
  replace bx11 := bx11.mv m120 (tgN (by decide))
  replace bx25 := bx25.mv m120 (tgN (by decide))
  replace h20 := h20.mv m120 (tgN (by decide)) (tg0 hN)
  refine L.nil (X.seqN (E.reg (L.fa fa99_1 Wt.no rfl rfl (L.ld (j := 4) bx25.mem nag31 Wt.no rfl rfl rfl rfl (L.fa fa58_0 Wt.no rfl rfl (L.ld (j := 0) bx116.mem nag3 Wt.no rfl rfl rfl rfl (L.bi Wt.no rfl rfl rfl rfl ?_)))))))
  obtain ⟨x121, ex121, hm⟩ := bindS hm
  refine L.ir (r := (rK .i64)) sl31 h20 Wt.no rfl rfl ex121 rfl fun b122 o122 cc122 me122 rd122 sp122 => ?_
  obtain rfl := rd122
  refine L.ld (j := 0) me122 nag3 Wt.no rfl rfl rfl rfl (L.bi Wt.no rfl rfl rfl rfl ?_)
  obtain ⟨x123, ex123, hm⟩ := bindS hm
  refine L.ir (r := (rK .i64)) sl31 h20 Wt.no rfl rfl ex123 rfl fun b124 o124 cc124 me124 rd124 sp124 => ?_
  obtain rfl := rd124
  obtain ⟨x125, ex125, hm⟩ := bindS hm
  have elx125 := upd_len ex125
  refine L.su (fo := 0) (c := [.int .i64 (W (x121 + 1))]) (z := W (x121 + 1)) h20 sp124 ex123 ex125 (tgp hN) nag3.sz Wt.no rfl rfl rfl rfl rfl rfl (fun c0 hc0 => by obtain rfl := hc0; exact rfl) fun s126 m127 h20 => ?_
  replace m0 := m0.trans (m127.one up)
  replace h3 := h3.mono (m127.le (tg0 hN))
  replace bx8 := bx8.mv m127 (tgN (by decide))
  replace h1 := h1.mono (m127.le (tg0 hN))
  replace h2 := h2.mono (m127.le (tg0 hN))
  replace bx11 := bx11.mv m127 (tgN (by decide))
  replace bx25 := bx25.mv m127 (tgN (by decide))
  rw [← elx125] at bx25
  exact L.nil (X.blkN (X.seqN (E.reg (L.bi Wt.no rfl rfl rfl rfl (L.mv Wt.no rfl rfl (L.nil (X.sub (ih50 _ (Option.some.inj hm).symm _ _ ⟨s126, m0, h3, h1, h2, h20, bx8, bx11, bx25, rfl, rfl⟩) (Sub.rf rfl))))))))
 refine E.cF rfl hc (E.exit (X.seqX (X.seqX ?_)))
 have hx := ho50 _ (Option.some.inj hm).symm
 subst hx
 exact X.sub (K113 _ _ ⟨s52, m0, h1, h2, h3, h20, bx8, bx11, bx25, rfl, rfl⟩) (Sub.rf rfl)

theorem cf36 : Cf Tryd.prog 36 := Cf.mk Tryd.func36 (by kernel_rfl) (by kernel_rfl)
theorem cf51 : Cf Tryd.prog 51 := Cf.mk Tryd.func51 (by kernel_rfl) (by kernel_rfl)
/-- What blocking.path computes. -/
noncomputable def m_blocking_path (p0 : List Int × Int × List Int × (List (Int × Int × Int))) (p1 : Int) (p2 : List Int) : Option (List Int × Bool) :=
  if decide (p1 ≥ p0.2.1) then
    some (([] : List Int), false)
  else
    (m_blocking_all p0).bind fun r14 =>
    (m_reach_Path p0 p1 p2 r14).bind fun r19 =>
    some (r19.1, r19.2.1)
set_option maxRecDepth 100000 in
set_option maxHeartbeats 8000000 in
theorem m_blocking_path_c {s : Sig} {p0 : List Int × Int × List Int × (List (Int × Int × Int))} {p1 : Int} {p2 : List Int} {a1 : Option Addr} {c1 : Nat} {a2 : Option Addr} {c2 : Nat} {a3 : Option Addr} {c3 : Nat} {a4 : Option Addr} {c4 : Nat} {r : List Int × Bool} (h1 : RdL (rK .i64) s a1 c1 p0.1) (h2 : RdL (rK .i64) s a2 c2 p0.2.2.1) (h3 : RdL (rP (rK .i64) (rP (rK .i64) (rK .i64))) s a3 c3 p0.2.2.2) (h4 : RdL (rK .i64) s a4 c4 p2) (hm : m_blocking_path p0 p1 p2 = some r) :
    Calls Tryd.prog 33 #[.agg #[.slice a1 p0.1.length c1, .int .i64 p0.2.1, .slice a2 p0.2.2.1.length c2, .slice a3 p0.2.2.2.length c3], .int .i64 p1, .slice a4 p2.length c4] s.w (RetS No s fun v s' => ∃ (a5 : Option Addr) (c5 : Nat), v = .tuple #[.slice a5 r.1.length c5, .bool r.2] ∧ RdL (rK .i64) s' a5 c5 r.1) := by
 unfold m_blocking_path at hm
 obtain ⟨N, hN, hNb⟩ := s.fresh
 have m0 : Mv (Up N No) s s := Mv.refl _ _
 refine E.entry Tryd.func33 rfl Tryd.ntmps33 rfl rfl (E.seq (E.reg (L.box (N + 0) Wt.no rfl rfl rfl fun b6 s7 m8 bx6 => ?_)))
 replace m0 := m0.trans m8.no
 replace h4 := h4.mono (m8.le no_No)
 replace h1 := h1.mono (m8.le no_No)
 replace h2 := h2.mono (m8.le no_No)
 replace h3 := h3.mono (m8.le no_No)
 refine L.as Wt.no rfl rfl (L.as Wt.no rfl rfl (L.nil (X.seqN (E.seq (E.seq (E.reg (L.mv Wt.no rfl rfl (L.fa fa34_1 Wt.no rfl rfl (L.ld (j := 1) bx6.mem nag3 Wt.no rfl rfl rfl rfl (L.bi Wt.no rfl rfl rfl rfl (L.nil (X.seqN ?_))))))))))))
 rcases ifS hm with ⟨hc, hm⟩ | ⟨hc, hm⟩
 ·refine E.cT rfl hc (E.seq (E.reg (L.as Wt.no rfl rfl (L.as Wt.no rfl rfl (L.nil (X.seqN (E.ret (X.seqR ?_))))))))
  obtain rfl := Option.some.inj hm
  exact X.rt (.inl rfl) Tryd.results33 (Rs.tmp rfl (Rs.tmp rfl Rs.nil)) rfl ⟨_, (s7).ren N (fun _ => 0), rfl, rfl, m0.ren hNb, ⟨none, 0, rfl, RdL.nil⟩⟩
 refine E.cF rfl hc (E.skip (X.seqN (E.seq ?_)))
 obtain ⟨r14, er14, hm⟩ := bindS hm
 obtain ⟨r19, er19, hm⟩ := bindS hm
 refine E.draw [[], [], [], [], [3], [0, 1, 2, 3, 4], [0, 1, 2, 3, 4, 5], [0, 1, 2, 3, 4, 5, 6], [0, 1, 2, 3, 4, 5, 6], [0, 1, 2, 3, 4, 5, 6], [0, 1, 2, 3, 4, 5, 6, 7], [0, 1, 2, 3, 4, 5, 6, 7, 8, 10], [0, 1, 2, 3, 4, 5, 6, 7, 8, 9, 10, 11]] (fun D e sx => Mv No s7 sx ∧ Sub [(3, .pointer (some ⟨b6, 0, none⟩)), (1, .int .i64 p1), (2, .slice a4 p2.length c4)] e ∧ AllP [G D e 0 16 (.agg #[.slice a1 p0.1.length c1, .int .i64 p0.2.1, .slice a2 p0.2.2.1.length c2, .slice a3 p0.2.2.2.length c3]), G D e 1 17 (.int .i64 p1), G D e 2 18 (.slice a4 p2.length c4), G D e 3 19 (.agg #[.slice a1 p0.1.length c1, .int .i64 p0.2.1, .slice a2 p0.2.2.1.length c2, .slice a3 p0.2.2.2.length c3]), D 4 = true → (∃ (a17 : Option Addr) (c17 : Nat), Env.get e 20 = some (.slice a17 r14.length c17) ∧ RdL (rK .i64) sx a17 c17 r14), D 5 = true → (∃ (a22 : Option Addr) (c22 : Nat), Env.get e 21 = some (.tuple #[.slice a22 r19.1.length c22, .bool r19.2.1, .int .i64 r19.2.2]) ∧ RdL (rK .i64) sx a22 c22 r19.1), D 6 = true → ∀ (a22 : Option Addr) (c22 : Nat), Env.get e 21 = some (.tuple #[.slice a22 r19.1.length c22, .bool r19.2.1, .int .i64 r19.2.2]) → (Env.get e 15 = some (.tuple #[.slice a22 r19.1.length c22, .bool r19.2.1, .int .i64 r19.2.2])), D 7 = true → ∀ (a22 : Option Addr) (c22 : Nat), Env.get e 21 = some (.tuple #[.slice a22 r19.1.length c22, .bool r19.2.1, .int .i64 r19.2.2]) → (Env.get e 22 = some (.slice a22 r19.1.length c22)), G D e 8 23 (.bool r19.2.1), G D e 9 24 (.int .i64 r19.2.2), D 10 = true → ∀ (a22 : Option Addr) (c22 : Nat), Env.get e 21 = some (.tuple #[.slice a22 r19.1.length c22, .bool r19.2.1, .int .i64 r19.2.2]) → (Env.get e 8 = some (.slice a22 r19.1.length c22)), G D e 11 9 (.bool r19.2.1), G D e 12 10 (.int .i64 r19.2.2)]) (by kernel_rfl) (by kernel_rfl) (by kernel_rfl) ?_ ?_ ?_
 ·intro sz mz
  exact ⟨mz, (Sub.rf rfl), nofun, nofun, nofun, nofun, nofun, nofun, nofun, nofun, nofun, nofun, nofun, nofun, nofun, trivial⟩
 ·refine ⟨?_, ?_, ?_, ?_, ?_, ?_, ?_, ?_, ?_, ?_, ?_, ?_, ?_, trivial⟩
  ·rintro D e s9 ⟨im, ib, i⟩ hk hf ha
   have bx6 := bx6.mv im no_No
   have kn := K1 (ib 3 _ rfl)
   exact L.kns _ kn (L.lg (j := 0) (cs := [.slice a1 p0.1.length c1, .int .i64 p0.2.1, .slice a2 p0.2.2.1.length c2, .slice a3 p0.2.2.2.length c3]) bx6.mem ag34 Wt.no rfl rfl rfl rfl rfl (L.nil (X.dk kn ⟨im, Sub.fresh ib rfl, i.u 0 (fun _ => rfl)⟩)))
  ·rintro D e s10 ⟨im, ib, i⟩ hk hf ha
   have kn := K1 (ib 1 _ rfl)
   exact L.kns _ kn (L.mv Wt.no rfl rfl (L.nil (X.dk kn ⟨im, Sub.fresh ib rfl, i.u 1 (fun _ => rfl)⟩)))
  ·rintro D e s11 ⟨im, ib, i⟩ hk hf ha
   have kn := K1 (ib 2 _ rfl)
   exact L.kns _ kn (L.mv Wt.no rfl rfl (L.nil (X.dk kn ⟨im, Sub.fresh ib rfl, i.u 2 (fun _ => rfl)⟩)))
  ·rintro D e s12 ⟨im, ib, i⟩ hk hf ha
   have bx6 := bx6.mv im no_No
   have kn := K1 (ib 3 _ rfl)
   exact L.kns _ kn (L.lg (j := 0) (cs := [.slice a1 p0.1.length c1, .int .i64 p0.2.1, .slice a2 p0.2.2.1.length c2, .slice a3 p0.2.2.2.length c3]) bx6.mem ag34 Wt.no rfl rfl rfl rfl rfl (L.nil (X.dk kn ⟨im, Sub.fresh ib rfl, i.u 3 (fun _ => rfl)⟩)))
  ·rintro D e s13 ⟨im, ib, i⟩ hk hf ha
   have h1 := h1.mono (im.le no_No)
   have h2 := h2.mono (im.le no_No)
   have h3 := h3.mono (im.le no_No)
   have kn := K1 ((i.p 3) (ha.at 3 rfl))
   refine L.kns _ kn (L.ca cf51 rfl rfl Wt.no rfl (m_blocking_all_c (s := s13) (p0 := p0) (u0 := 0) h1 h2 h3 er14) rfl ?_)
   rintro _ s15 m16 ⟨a17, c17, rfl, h17⟩
   replace h17 := h17.p
   exact L.nil (X.dk kn ⟨im.trans m16.no, Sub.fresh ib rfl, (i.u 4 (fun _ => ⟨a17, c17, rfl, h17⟩)).u 5 (fun z => let ⟨a22, c22, q, h22⟩ := (i.p 5) z; ⟨a22, c22, q, (h22.mono (m16.le no_No))⟩)⟩)
  ·rintro D e s18 ⟨im, ib, i⟩ hk hf ha
   obtain ⟨a17, c17, g4_, h17⟩ := (i.p 4) (ha.at 4 rfl)
   have h1 := h1.mono (im.le no_No)
   have h2 := h2.mono (im.le no_No)
   have h3 := h3.mono (im.le no_No)
   have h4 := h4.mono (im.le no_No)
   have kn := K4 ((i.p 0) (ha.at 0 rfl)) ((i.p 1) (ha.at 1 rfl)) ((i.p 2) (ha.at 2 rfl)) g4_
   refine L.kns _ kn (L.ca cf36 rfl rfl Wt.no rfl (m_reach_Path_c (s := s18) (p0 := p0) (p1 := p1) (p2 := p2) (p3 := r14) h1 h2 h3 h4 h17 er19) rfl ?_)
   rintro _ s20 m21 ⟨a22, c22, rfl, h22⟩
   exact L.nil (X.dk kn ⟨im.trans m21.no, Sub.fresh ib rfl, ((((i.u 4 (fun z => let ⟨a17, c17, q, h17⟩ := (i.p 4) z; ⟨a17, c17, q, (h17.mono (m21.le no_No))⟩)).u 5 (fun _ => ⟨a22, c22, rfl, h22⟩)).u 6 (fun z => Bool.noConfusion ((hf 6 (Nat.le_of_ble_eq_true rfl) rfl).symm.trans z))).u 7 (fun z => Bool.noConfusion ((hf 7 (Nat.le_of_ble_eq_true rfl) rfl).symm.trans z))).u 10 (fun z => Bool.noConfusion ((hf 10 (Nat.le_of_ble_eq_true rfl) rfl).symm.trans z))⟩)
  ·rintro D e s23 ⟨im, ib, i⟩ hk hf ha
   obtain ⟨a22, c22, g5_, h22⟩ := (i.p 5) (ha.at 5 rfl)
   have kn := K1 g5_
   exact L.kns _ kn (L.mv Wt.no rfl rfl (L.nil (X.dk kn ⟨im, Sub.fresh ib rfl, i.u 6 (fun _ _ _ q5 => by cases g5_.symm.trans q5; exact rfl)⟩)))
  ·rintro D e s24 ⟨im, ib, i⟩ hk hf ha
   obtain ⟨a22, c22, g5_, h22⟩ := (i.p 5) (ha.at 5 rfl)
   have g6_ := (i.p 6) (ha.at 6 rfl) a22 c22 g5_
   have kn := K1 g6_
   exact L.kns _ kn (L.ex Wt.no rfl rfl rfl (L.nil (X.dk kn ⟨im, Sub.fresh ib rfl, i.u 7 (fun _ _ _ q5 => by cases g5_.symm.trans q5; exact rfl)⟩)))
  ·rintro D e s25 ⟨im, ib, i⟩ hk hf ha
   obtain ⟨a22, c22, g5_, h22⟩ := (i.p 5) (ha.at 5 rfl)
   have g6_ := (i.p 6) (ha.at 6 rfl) a22 c22 g5_
   have kn := K1 g6_
   exact L.kns _ kn (L.ex Wt.no rfl rfl rfl (L.nil (X.dk kn ⟨im, Sub.fresh ib rfl, i.u 8 (fun _ => rfl)⟩)))
  ·rintro D e s26 ⟨im, ib, i⟩ hk hf ha
   obtain ⟨a22, c22, g5_, h22⟩ := (i.p 5) (ha.at 5 rfl)
   have g6_ := (i.p 6) (ha.at 6 rfl) a22 c22 g5_
   have kn := K1 g6_
   exact L.kns _ kn (L.ex Wt.no rfl rfl rfl (L.nil (X.dk kn ⟨im, Sub.fresh ib rfl, i.u 9 (fun _ => rfl)⟩)))
  ·rintro D e s27 ⟨im, ib, i⟩ hk hf ha
   obtain ⟨a22, c22, g5_, h22⟩ := (i.p 5) (ha.at 5 rfl)
   have g7_ := (i.p 7) (ha.at 7 rfl) a22 c22 g5_
   have kn := K1 g7_
   exact L.kns _ kn (L.as Wt.no rfl rfl (L.nil (X.dk kn ⟨im, Sub.fresh ib rfl, i.u 10 (fun _ _ _ q5 => by cases g5_.symm.trans q5; exact rfl)⟩)))
  ·rintro D e s28 ⟨im, ib, i⟩ hk hf ha
   have kn := K1 ((i.p 8) (ha.at 8 rfl))
   exact L.kns _ kn (L.as Wt.no rfl rfl (L.nil (X.dk kn ⟨im, Sub.fresh ib rfl, i.u 11 (fun _ => rfl)⟩)))
  rintro D e s29 ⟨im, ib, i⟩ hk hf ha
  have kn := K1 ((i.p 9) (ha.at 9 rfl))
  exact L.kns _ kn (L.as Wt.no rfl rfl (L.nil (X.dk kn ⟨im, Sub.fresh ib rfl, i.u 12 (fun _ => rfl)⟩)))
 rintro D e s30 hD ⟨im, ib, i⟩
 obtain ⟨a22, c22, g5_, h22⟩ := (i.p 5) (hD 5 rfl)
 have g10_ := (i.p 10) (hD 10 rfl) a22 c22 g5_
 have g11_ := (i.p 11) (hD 11 rfl)
 have m0 := m0.trans im.no
 refine X.sub (e' := [(9, .bool r19.2.1), (8, .slice a22 r19.1.length c22)]) ?_ (Sub.cons g11_ (Sub.cons g10_ Sub.nil))
 refine X.seqN (E.seq (E.reg (L.mv Wt.no rfl rfl (L.mv Wt.no rfl rfl (L.as Wt.no rfl rfl (L.as Wt.no rfl rfl (L.nil (X.seqN (E.ret ?_)))))))))
 obtain rfl := Option.some.inj hm
 exact X.rt (.inl rfl) Tryd.results33 (Rs.tmp rfl (Rs.tmp rfl Rs.nil)) rfl ⟨_, (s30).ren N (fun _ => 0), rfl, rfl, m0.ren hNb, ⟨a22, c22, rfl, (h22.ren hN)⟩⟩

end Go.Proofs.YtfbapajcheammaaDoor

namespace Go.Proofs.YtfbapajcheammaaDoor
open Go Go.RowKit
/-- The states below k whose rank is negative. -/
def negL (p : List Int) (k : Nat) : List Int := ((List.range k).filter fun i => decide (p.getD i 0 < 0)).map fun (i : Nat) => (i : Int)
theorem negL_succ (p : List Int) (k : Nat) : negL p (k + 1) = if p.getD k 0 < 0 then negL p k ++ [(k : Int)] else negL p k := by
  unfold negL
  rw [List.range_succ, List.filter_append, List.map_append]
  by_cases h : p.getD k 0 < 0
  · rw [if_pos h, List.filter_cons_of_pos (by simpa using h)]; rfl
  · rw [if_neg h, List.filter_cons_of_neg (by simpa using h)]; simp
theorem negL_len (p : List Int) (k : Nat) : (negL p k).length ≤ k := by
  unfold negL
  rw [List.length_map]
  exact Nat.le_trans (List.length_filter_le _ _) (by simp)
theorem blocked_eq {p : List Int} (hl : p.length ≤ 1000000) : m_blocking_blocked p = some (negL p p.length) := by
  have h := iter_inv (f := m_blocking_blocked_l1 p) (fun i s => i ≤ p.length ∧ s = ((i : Int), negL p i)) (fun o => o = negL p p.length) p.length 0 (by omega) ?_ ?_ (Nat.zero_le _) (0, []) ⟨Nat.zero_le _, rfl⟩
  · obtain ⟨o, h1, rfl⟩ := h
    simp [m_blocking_blocked, h1]
  · rintro i s hi ⟨_, rfl⟩
    refine .inl ⟨_, ?_, by omega, rfl⟩
    have hn := negL_len p i
    rw [m_blocking_blocked_l1]
    simp only [if_pos (show decide ((i : Int) < (p.length : Int)) = true by simp; omega), idx_at hi, Option.bind_some]
    have hg : p.getD i 0 = p[i] := by rw [List.getD_eq_getElem?_getD, List.getElem?_eq_getElem hi]; rfl
    rw [negL_succ, hg]
    by_cases hx : p[i] < 0
    · rw [if_pos (by simpa using hx), if_pos hx, app_eq (by simp; omega), Option.bind_some, m_blocking_blocked_j1, nxt (by omega)]
    · rw [if_neg (by simpa using hx), if_neg hx, m_blocking_blocked_j1, nxt (by omega)]
  · rintro s ⟨_, rfl⟩
    refine ⟨_, ?_, rfl⟩
    rw [m_blocking_blocked_l1]
    simp only [ct_ge, if_false]
    simp
end Go.Proofs.YtfbapajcheammaaDoor

