/- Parts of the proof, without what nothing here names. -/
import Derived.Test.YtkkemchihllklaaProg
import Derived.IntWalk
import Derived.Test.YtkkemchihllklaaQFlw2
namespace Go.Proofs.Ytkkemchihllklaa
open Go Go.RowKit
theorem bs134 : Bs Try.prog 134 117 2 [.int .i64 0, .int .i64 0] := Bs.mk' Try.underlying134 (by kernel_rfl) (by kernel_rfl) rfl
theorem cf41 : Cf Try.prog 41 := Cf.mk Try.func41 (by kernel_rfl) (by kernel_rfl)
theorem cf69 : Cf Try.prog 69 := Cf.mk Try.func69 (by kernel_rfl) (by kernel_rfl)
theorem fa119_1 : FA Try.prog 119 1 1 := FA.mk Try.underlying119 rfl rfl ⟨1, by decide, by kernel_rfl⟩
theorem pl117 : Pl Try.prog 117 (plK 1 2 0) [.int .i64 0, .int .i64 0] := Pl.arr Try.underlying117 (by kernel_rfl) (by kernel_rfl)
theorem sl30 : Sl Try.prog 30 119 2 := Sl.mk' Try.underlying30 (by kernel_rfl)
noncomputable def m_generate_assembler_event_l1 (p2 : Int) (p4 : List (Int × Int × Int)) (st63 : Int × (List (Int × Int)) × Int × Int) : Option ((Int × (List (Int × Int)) × Int × Int) ⊕ ((List (Int × Int)) × Int × Int)) :=
  if decide (st63.1 < (p4.length : Int)) then
    (idx p4 st63.1).bind fun x98 =>
    (m_generate_assembler_memory st63.2 x98.1).bind fun r109 =>
    (m_generate_assembler_memory st63.2 x98.2.2).bind fun r116 =>
    (m_generate_assembler_put st63.2 ([(1, r109), (4, p2), (10, r109), (9, r116), (9, p2)] : List (Int × Int))).bind fun r125 =>
    some (.inl (W (st63.1 + 1), r125))
  else
    some (.inr st63.2)
/-- What generate.assembler).event computes. -/
noncomputable def m_generate_assembler_event (p0 : (List (Int × Int)) × Int × Int) (p1 : Int) (p2 : Int) (p3 : Int) (p4 : List (Int × Int × Int)) : Option ((List (Int × Int)) × Int × Int) :=
  (m_generate_assembler_put p0 ([(2, p1), (12, 0)] : List (Int × Int))).bind fun r8 =>
  (m_generate_assembler_put r8 ([(1, p1), (10, p2)] : List (Int × Int))).bind fun r16 =>
  (iter (m_generate_assembler_event_l1 p2 p4) (0, r16)).bind fun o63 =>
  (m_generate_assembler_put o63 ([(2, p2), (9, p3)] : List (Int × Int))).bind fun r73 =>
  (idx r73.1 (W ((r8.1.length : Int) - 1))).bind fun x89 =>
  (upd r73.1 (W ((r8.1.length : Int) - 1)) (x89.1, (r73.1.length : Int))).bind fun x93 =>
  some (x93, r73.2)
set_option maxRecDepth 100000 in
set_option maxHeartbeats 8000000 in
theorem m_generate_assembler_event_c {s : Sig} {p0 : (List (Int × Int)) × Int × Int} {p1 : Int} {p2 : Int} {p3 : Int} {p4 : List (Int × Int × Int)} {t0 : Nat} {t0_0 : Nat} {a1 : Option Addr} {c1 : Nat} {b2 : Nat} {a3 : Option Addr} {c3 : Nat} {r : ((List (Int × Int)) × Int × Int)} (nt0_t0_0 : t0 ≠ t0_0) (nt0_0_t0 : t0_0 ≠ t0) (zt0 : 0 < t0) (zt0_0 : 0 < t0_0) (h1 : RowT (rP (rK .i64) (rK .i64)) s t0_0 119 a1 c1 p0.1) (bx2 : Bx s t0 b2 #[.slice a1 p0.1.length c1, .int .i64 p0.2.1, .int .i64 p0.2.2] 90) (h3 : RdL (rP (rK .i64) (rP (rK .i64) (rK .i64))) s a3 c3 p4) (hm : m_generate_assembler_event p0 p1 p2 p3 p4 = some r) :
    Calls Try.prog 40 #[.pointer (some ⟨b2, 0, none⟩), .int .i64 p1, .int .i64 p2, .int .i64 p3, .slice a3 p4.length c3] s.w (RetS (fun t => t = t0 ∨ t = t0_0) s fun v s' => ∃ (a4 : Option Addr) (c4 : Nat), v = .tuple #[] ∧ Bx s' t0 b2 #[.slice a4 r.1.length c4, .int .i64 r.2.1, .int .i64 r.2.2] 90 ∧ RowT (rP (rK .i64) (rK .i64)) s' t0_0 119 a4 c4 r.1) := by
 unfold m_generate_assembler_event at hm
 obtain ⟨N, hN, hNb, lt0, lt0_0, -⟩ := s.freshL [t0, t0_0]
 have m0 : Mv (Up N (fun t => t = t0 ∨ t = t0_0)) s s := Mv.refl _ _
 refine E.entry Try.func40 rfl Try.ntmps40 rfl rfl (E.seq (E.reg (L.mv Wt.no rfl rfl (L.mv Wt.no rfl rfl (L.bu (cs := [.int .i64 2, .int .i64 p1]) pl117 Wt.no rfl rfl rfl (L.bu (cs := [.int .i64 12, .int .i64 0]) pl117 Wt.no rfl rfl rfl (L.bsE (k := 2) (cs := [.int .i64 2, .int .i64 p1, .int .i64 12, .int .i64 0]) 0 bs134 (Nat.le_of_ble_eq_true rfl) Wt.no rfl rfl rfl rfl fun b5 s6 m7 bx5 => ?_)))))))
 replace m0 := m0.trans m7.no
 replace h3 := h3.mono (m7.le no_No)
 replace bx2 := bx2.mv m7 no_No
 replace h1 := h1.mv m7 no_No no_No
 have h5 := Bx.rdL (r := (rP (rK .i64) (rK .i64))) (xs := ([(2, p1), (12, 0)] : List (Int × Int))) bx5 ⟨[.int .i64 2, .int .i64 p1], _, rfl, ⟨[.int .i64 2], [.int .i64 p1], rfl, rfl, rfl⟩, ⟨[.int .i64 12, .int .i64 0], _, rfl, ⟨[.int .i64 12], [.int .i64 0], rfl, rfl, rfl⟩, rfl⟩⟩ (Nat.le_of_ble_eq_true rfl)
 obtain ⟨r8, er8, hm⟩ := bindS hm
 refine L.ca cf69 rfl rfl Wt.no rfl (m_generate_assembler_put_c (s := s6) (p0 := p0) (p1 := ([(2, p1), (12, 0)] : List (Int × Int))) (t0 := t0) (t0_0 := t0_0) nt0_t0_0 nt0_0_t0 zt0 zt0_0 h1 bx2 h5 er8) rfl ?_
 rintro _ s9 m10 ⟨a11, c11, rfl, bx2, h11⟩
 replace m0 := m0.trans (m10.weak fun _ e => by rcases e with e | e; (rw [e]; exact (.inr (.inl rfl))); (rw [e]; exact (.inr (.inr rfl))))
 replace h3 := h3.mono (m10.le (nor (tgz zt0) (tgz zt0_0)))
 refine L.nil (X.seqN (E.seq (E.reg (L.mv Wt.no rfl rfl (L.nc Wt.no rfl rfl (L.fa fa90_0 Wt.no rfl rfl (L.ld (j := 0) bx2.mem nag30 Wt.no rfl rfl rfl rfl (L.len sl30 Wt.no rfl rfl (L.bi Wt.no rfl rfl rfl rfl (L.as Wt.no rfl rfl (L.nil (X.seqN (E.seq (E.reg (L.mv Wt.no rfl rfl (L.mv Wt.no rfl rfl (L.bu (cs := [.int .i64 1, .int .i64 p1]) pl117 Wt.no rfl rfl rfl (L.mv Wt.no rfl rfl (L.bu (cs := [.int .i64 10, .int .i64 p2]) pl117 Wt.no rfl rfl rfl (L.bsE (k := 2) (cs := [.int .i64 1, .int .i64 p1, .int .i64 10, .int .i64 p2]) 0 bs134 (Nat.le_of_ble_eq_true rfl) Wt.no rfl rfl rfl rfl fun b13 s14 m15 bx13 => ?_))))))))))))))))))))
 replace m0 := m0.trans m15.no
 replace h3 := h3.mono (m15.le no_No)
 replace bx2 := bx2.mv m15 no_No
 replace h11 := h11.mv m15 no_No no_No
 have h13 := Bx.rdL (r := (rP (rK .i64) (rK .i64))) (xs := ([(1, p1), (10, p2)] : List (Int × Int))) bx13 ⟨[.int .i64 1, .int .i64 p1], _, rfl, ⟨[.int .i64 1], [.int .i64 p1], rfl, rfl, rfl⟩, ⟨[.int .i64 10, .int .i64 p2], _, rfl, ⟨[.int .i64 10], [.int .i64 p2], rfl, rfl, rfl⟩, rfl⟩⟩ (Nat.le_of_ble_eq_true rfl)
 obtain ⟨r16, er16, hm⟩ := bindS hm
 refine L.ca cf69 rfl rfl Wt.no rfl (m_generate_assembler_put_c (s := s14) (p0 := r8) (p1 := ([(1, p1), (10, p2)] : List (Int × Int))) (t0 := t0) (t0_0 := t0_0) nt0_t0_0 nt0_0_t0 zt0 zt0_0 h11 bx2 h13 er16) rfl ?_
 rintro _ s17 m18 ⟨a19, c19, rfl, bx2, h19⟩
 replace m0 := m0.trans (m18.weak fun _ e => by rcases e with e | e; (rw [e]; exact (.inr (.inl rfl))); (rw [e]; exact (.inr (.inr rfl))))
 replace h3 := h3.mono (m18.le (nor (tgz zt0) (tgz zt0_0)))
 refine L.nil (X.seqN (E.seq (E.seq (E.reg (L.mv Wt.no rfl rfl (L.len sl24 Wt.no rfl rfl (L.mv Wt.no rfl rfl (L.nil (X.seqN (E.block ?_))))))))))
 obtain ⟨o63, eo63, hm⟩ := bindS hm
 refine E.cut (x := .exit 0) (fun e w => ∃ (s69 : Sig) (a65 : Option Addr) (c65 : Nat), Mv (Up N (fun t => t = t0 ∨ t = t0_0)) s s69 ∧ RowT (rP (rK .i64) (rK .i64)) s69 t0_0 119 a65 c65 o63.1 ∧ Bx s69 t0 b2 #[.slice a65 o63.1.length c65, .int .i64 o63.2.1, .int .i64 o63.2.2] 90 ∧ e = [(10, .int .i64 (W ((r8.1.length : Int) - 1))), (0, .pointer (some ⟨b2, 0, none⟩)), (2, .int .i64 p2), (3, .int .i64 p3)] ∧ w = s69.w) ?_ ?_
 ·rintro _ _ ⟨s69, a65, c65, m0, h65, bx2, rfl, rfl⟩
  refine X.blkE (X.seqN (E.seq (E.reg (L.mv Wt.no rfl rfl (L.mv Wt.no rfl rfl (L.bu (cs := [.int .i64 2, .int .i64 p2]) pl117 Wt.no rfl rfl rfl (L.mv Wt.no rfl rfl (L.bu (cs := [.int .i64 9, .int .i64 p3]) pl117 Wt.no rfl rfl rfl (L.bsE (k := 2) (cs := [.int .i64 2, .int .i64 p2, .int .i64 9, .int .i64 p3]) 0 bs134 (Nat.le_of_ble_eq_true rfl) Wt.no rfl rfl rfl rfl fun b70 s71 m72 bx70 => ?_)))))))))
  replace m0 := m0.trans m72.no
  replace bx2 := bx2.mv m72 no_No
  replace h65 := h65.mv m72 no_No no_No
  have h70 := Bx.rdL (r := (rP (rK .i64) (rK .i64))) (xs := ([(2, p2), (9, p3)] : List (Int × Int))) bx70 ⟨[.int .i64 2, .int .i64 p2], _, rfl, ⟨[.int .i64 2], [.int .i64 p2], rfl, rfl, rfl⟩, ⟨[.int .i64 9, .int .i64 p3], _, rfl, ⟨[.int .i64 9], [.int .i64 p3], rfl, rfl, rfl⟩, rfl⟩⟩ (Nat.le_of_ble_eq_true rfl)
  obtain ⟨r73, er73, hm⟩ := bindS hm
  refine L.ca cf69 rfl rfl Wt.no rfl (m_generate_assembler_put_c (s := s71) (p0 := o63) (p1 := ([(2, p2), (9, p3)] : List (Int × Int))) (t0 := t0) (t0_0 := t0_0) nt0_t0_0 nt0_0_t0 zt0 zt0_0 h65 bx2 h70 er73) rfl ?_
  rintro _ s74 m75 ⟨a76, c76, rfl, bx2, h76⟩
  replace m0 := m0.trans (m75.weak fun _ e => by rcases e with e | e; (rw [e]; exact (.inr (.inl rfl))); (rw [e]; exact (.inr (.inr rfl))))
  refine L.nil (X.seqN ?_)
  obtain ⟨x89, ex89, hm⟩ := bindS hm
  obtain ⟨x93, ex93, hm⟩ := bindS hm
  have elx93 := upd_len ex93
  refine E.draw [[], [0], [0, 1], [0, 1, 2], [], [], [5], [5, 6], [5, 6, 7], [5, 6, 7, 8], [0, 1, 2, 3, 4, 5, 6, 7, 8, 9], [0, 1, 2, 3, 4, 5, 6, 7, 8, 9, 10], [0, 1, 2, 3, 4, 5, 6, 7, 8, 9, 10, 11]] (fun D e sx => Mv (One t0_0) s74 sx ∧ Sub [(10, .int .i64 (W ((r8.1.length : Int) - 1))), (0, .pointer (some ⟨b2, 0, none⟩))] e ∧ (D 0 = true → (Env.get e 69 = some (.pointer (some ⟨b2, 0, none⟩)))) ∧ (D 1 = true → (Env.get e 70 = some (.pointer (some ⟨b2, 0, none⟩)))) ∧ (D 2 = true → (Env.get e 71 = some (.pointer (some ⟨b2, 0, none⟩)))) ∧ (D 3 = true → (Env.get e 72 = some (.slice a76 r73.1.length c76))) ∧ (D 4 = true → (Env.get e 73 = some (.int .i64 (W ((r8.1.length : Int) - 1))))) ∧ (D 5 = true → (Env.get e 74 = some (.pointer (some ⟨b2, 0, none⟩)))) ∧ (D 6 = true → (Env.get e 75 = some (.pointer (some ⟨b2, 0, none⟩)))) ∧ (D 7 = true → (Env.get e 76 = some (.pointer (some ⟨b2, 0, none⟩)))) ∧ (D 8 = true → (Env.get e 77 = some (.slice a76 r73.1.length c76))) ∧ (D 9 = true → (Env.get e 78 = some (.int .i64 (r73.1.length : Int)))) ∧ (D 10 = true → (∃ (b90 : Nat) (o90 : Nat), Env.get e 79 = some (.pointer (some ⟨b90, o90, none⟩)) ∧ Spot a76 (rP (rK .i64) (rK .i64)).sz (W ((r8.1.length : Int) - 1)).toNat b90 o90)) ∧ (D 11 = true → ∀ (b90 : Nat) (o90 : Nat), Env.get e 79 = some (.pointer (some ⟨b90, o90, none⟩)) → (Env.get e 80 = some (.pointer (some ⟨b90, o90 + 1, none⟩)))) ∧ (D 12 = false → RowT (rP (rK .i64) (rK .i64)) sx t0_0 119 a76 c76 r73.1) ∧ (D 12 = true → RowT (rP (rK .i64) (rK .i64)) sx t0_0 119 a76 c76 x93) ∧ (D 10 = true → D 12 = false → ∀ (b90 : Nat) (o90 : Nat), Env.get e 79 = some (.pointer (some ⟨b90, o90, none⟩)) → Mem sx t0_0 b90 o90 [.int .i64 x89.1, .int .i64 x89.2])) (by kernel_rfl) (by kernel_rfl) (by kernel_rfl) ?_ ?_ ?_
  ·intro sz mz
   exact ⟨mz.no, (Sub.rf rfl), nofun, nofun, nofun, nofun, nofun, nofun, nofun, nofun, nofun, nofun, nofun, nofun, fun _ => h76.mv mz no_No no_No, nofun, nofun⟩
  ·refine ⟨?_, ?_, ?_, ?_, ?_, ?_, ?_, ?_, ?_, ?_, ?_, ?_, ?_, trivial⟩
   ·rintro D e s78 ⟨im, ib, i0, t_⟩ hk hf ha
    have kn : Kn e [(0, .pointer (some ⟨b2, 0, none⟩))] := ⟨(ib 0 _ rfl), trivial⟩
    exact L.kns _ kn (L.mv Wt.no rfl rfl (L.nil (X.dk kn ⟨im, Sub.fresh ib rfl, fun _ => rfl, t_⟩)))
   ·rintro D e s79 ⟨im, ib, i0, i1, t_⟩ hk hf ha
    obtain ⟨d0, -⟩ := ha
    have g0_ := i0 d0
    have kn : Kn e [(69, .pointer (some ⟨b2, 0, none⟩))] := ⟨g0_, trivial⟩
    exact L.kns _ kn (L.nc Wt.no rfl rfl (L.nil (X.dk kn ⟨im, Sub.fresh ib rfl, i0, fun _ => rfl, t_⟩)))
   ·rintro D e s80 ⟨im, ib, i0, i1, i2, t_⟩ hk hf ha
    obtain ⟨d0, d1, -⟩ := ha
    have g1_ := i1 d1
    have kn : Kn e [(70, .pointer (some ⟨b2, 0, none⟩))] := ⟨g1_, trivial⟩
    exact L.kns _ kn (L.fa fa90_0 Wt.no rfl rfl (L.nil (X.dk kn ⟨im, Sub.fresh ib rfl, i0, i1, fun _ => rfl, t_⟩)))
   ·rintro D e s81 ⟨im, ib, i0, i1, i2, i3, t_⟩ hk hf ha
    obtain ⟨d0, d1, d2, -⟩ := ha
    have g2_ := i2 d2
    have bx2 := bx2.mv im nt0_t0_0
    have kn : Kn e [(71, .pointer (some ⟨b2, 0, none⟩))] := ⟨g2_, trivial⟩
    exact L.kns _ kn (L.ld (j := 0) bx2.mem nag30 Wt.no rfl rfl rfl rfl (L.nil (X.dk kn ⟨im, Sub.fresh ib rfl, i0, i1, i2, fun _ => rfl, t_⟩)))
   ·rintro D e s82 ⟨im, ib, i0, i1, i2, i3, i4, t_⟩ hk hf ha
    have kn : Kn e [(10, .int .i64 (W ((r8.1.length : Int) - 1)))] := ⟨(ib 10 _ rfl), trivial⟩
    exact L.kns _ kn (L.mv Wt.no rfl rfl (L.nil (X.dk kn ⟨im, Sub.fresh ib rfl, i0, i1, i2, i3, fun _ => rfl, t_⟩)))
   ·rintro D e s83 ⟨im, ib, i0, i1, i2, i3, i4, i5, t_⟩ hk hf ha
    have kn : Kn e [(0, .pointer (some ⟨b2, 0, none⟩))] := ⟨(ib 0 _ rfl), trivial⟩
    exact L.kns _ kn (L.mv Wt.no rfl rfl (L.nil (X.dk kn ⟨im, Sub.fresh ib rfl, i0, i1, i2, i3, i4, fun _ => rfl, t_⟩)))
   ·rintro D e s84 ⟨im, ib, i0, i1, i2, i3, i4, i5, i6, t_⟩ hk hf ha
    obtain ⟨d5, -⟩ := ha
    have g5_ := i5 d5
    have kn : Kn e [(74, .pointer (some ⟨b2, 0, none⟩))] := ⟨g5_, trivial⟩
    exact L.kns _ kn (L.nc Wt.no rfl rfl (L.nil (X.dk kn ⟨im, Sub.fresh ib rfl, i0, i1, i2, i3, i4, i5, fun _ => rfl, t_⟩)))
   ·rintro D e s85 ⟨im, ib, i0, i1, i2, i3, i4, i5, i6, i7, t_⟩ hk hf ha
    obtain ⟨d5, d6, -⟩ := ha
    have g6_ := i6 d6
    have kn : Kn e [(75, .pointer (some ⟨b2, 0, none⟩))] := ⟨g6_, trivial⟩
    exact L.kns _ kn (L.fa fa90_0 Wt.no rfl rfl (L.nil (X.dk kn ⟨im, Sub.fresh ib rfl, i0, i1, i2, i3, i4, i5, i6, fun _ => rfl, t_⟩)))
   ·rintro D e s86 ⟨im, ib, i0, i1, i2, i3, i4, i5, i6, i7, i8, t_⟩ hk hf ha
    obtain ⟨d5, d6, d7, -⟩ := ha
    have g7_ := i7 d7
    have bx2 := bx2.mv im nt0_t0_0
    have kn : Kn e [(76, .pointer (some ⟨b2, 0, none⟩))] := ⟨g7_, trivial⟩
    exact L.kns _ kn (L.ld (j := 0) bx2.mem nag30 Wt.no rfl rfl rfl rfl (L.nil (X.dk kn ⟨im, Sub.fresh ib rfl, i0, i1, i2, i3, i4, i5, i6, i7, fun _ => rfl, t_⟩)))
   ·rintro D e s87 ⟨im, ib, i0, i1, i2, i3, i4, i5, i6, i7, i8, i9, t_⟩ hk hf ha
    obtain ⟨d5, d6, d7, d8, -⟩ := ha
    have g8_ := i8 d8
    have kn : Kn e [(77, .slice a76 r73.1.length c76)] := ⟨g8_, trivial⟩
    exact L.kns _ kn (L.len sl30 Wt.no rfl rfl (L.nil (X.dk kn ⟨im, Sub.fresh ib rfl, i0, i1, i2, i3, i4, i5, i6, i7, i8, fun _ => rfl, t_⟩)))
   ·rintro D e s88 ⟨im, ib, i0, i1, i2, i3, i4, i5, i6, i7, i8, i9, i10, i11, i12, i13, i14⟩ hk hf ha
    obtain ⟨d0, d1, d2, d3, d4, d5, d6, d7, d8, d9, -⟩ := ha
    have g3_ := i3 d3
    have g4_ := i4 d4
    obtain h76 := i12 (hf 12 (Nat.le_of_ble_eq_true rfl) rfl)
    have kn : Kn e [(72, .slice a76 r73.1.length c76), (73, .int .i64 (W ((r8.1.length : Int) - 1)))] := ⟨g3_, g4_, trivial⟩
    refine L.kns _ kn (L.ir (r := (rP (rK .i64) (rK .i64))) sl30 h76 Wt.no rfl rfl ex89 rfl fun b90 o90 cc90 me90 rd90 sp90 => ?_)
    obtain ⟨_, _, rfl, rfl, rfl⟩ := rd90
    exact L.nil (X.dk kn ⟨im, Sub.fresh ib rfl, i0, i1, i2, i3, i4, i5, i6, i7, i8, i9, fun _ => ⟨b90, o90, rfl, sp90⟩, fun z => Bool.noConfusion ((hf 11 (Nat.le_of_ble_eq_true rfl) rfl).symm.trans z), i12, i13, fun _ _ _ _ q10 => by cases (show some (.pointer (some ⟨b90, o90, none⟩) : Value) = some _ from q10); exact me90⟩)
   ·rintro D e s91 ⟨im, ib, i0, i1, i2, i3, i4, i5, i6, i7, i8, i9, i10, i11, t_⟩ hk hf ha
    obtain ⟨d0, d1, d2, d3, d4, d5, d6, d7, d8, d9, d10, -⟩ := ha
    obtain ⟨b90, o90, g10_, sp90⟩ := i10 d10
    have kn : Kn e [(79, .pointer (some ⟨b90, o90, none⟩))] := ⟨g10_, trivial⟩
    exact L.kns _ kn (L.fa fa119_1 Wt.no rfl rfl (L.nil (X.dk kn ⟨im, Sub.fresh ib rfl, i0, i1, i2, i3, i4, i5, i6, i7, i8, i9, i10, fun _ _ _ q10 => by cases g10_.symm.trans q10; exact rfl, t_⟩)))
   ·rintro D e s92 ⟨im, ib, i0, i1, i2, i3, i4, i5, i6, i7, i8, i9, i10, i11, i12, i13, i14⟩ hk hf ha
    obtain ⟨d0, d1, d2, d3, d4, d5, d6, d7, d8, d9, d10, d11, -⟩ := ha
    have g9_ := i9 d9
    obtain ⟨b90, o90, g10_, sp90⟩ := i10 d10
    have g11_ := i11 d11 b90 o90 g10_
    obtain h76 := i12 hk
    have kn : Kn e [(80, .pointer (some ⟨b90, o90 + 1, none⟩)), (78, .int .i64 (r73.1.length : Int))] := ⟨g11_, g9_, trivial⟩
    exact L.kns _ kn (L.su (fo := 1) (c := [.int .i64 (r73.1.length : Int)]) (z := (x89.1, (r73.1.length : Int))) h76 sp90 ex89 ex93 (tgpV zt0_0) nag3.sz Wt.no rfl rfl rfl rfl rfl rfl (fun c0 hc0 => by obtain ⟨_, _, rfl, rfl, rfl⟩ := hc0; exact ⟨[.int .i64 x89.1], [.int .i64 (r73.1.length : Int)], rfl, rfl, rfl⟩) fun s94 m95 h76 => L.nil (X.dn kn ⟨im.trans (m95.one rfl), ib, i0, i1, i2, i3, i4, i5, i6, i7, i8, i9, fun z => let ⟨b90, o90, q, sp90⟩ := i10 z; ⟨b90, o90, q, sp90⟩, i11, fun z => Bool.noConfusion (show true = false from z), fun _ => by exact h76, fun _ y12 => Bool.noConfusion (show true = false from y12)⟩))
  ·rintro D e s96 hD ⟨im, ib, i0, i1, i2, i3, i4, i5, i6, i7, i8, i9, i10, i11, i12, i13, i14⟩
   obtain h76 := i13 (hD 12 rfl)
   have bx2 := bx2.mv im nt0_t0_0
   have m0 := m0.trans (im.one (.inr (.inr rfl)))
   refine X.sub (e' := []) ?_ Sub.nil
   rw [← elx93] at bx2
   obtain rfl := Option.some.inj hm
   exact X.rt (.inr rfl) Try.results40 Rs.nil rfl ⟨_, (s96).ren N (fun _ => 0), rfl, rfl, m0.ren hNb, ⟨a76, c76, rfl, (bx2.renV lt0), (h76.renV hN lt0_0)⟩⟩
 intro K97
 refine E.iter (fun (st63 : Int × (List (Int × Int)) × Int × Int) (e : List (Nat × Value)) (w : World) => ∃ (s68 : Sig) (a23 : Option Addr) (c23 : Nat), Mv (Up N (fun t => t = t0 ∨ t = t0_0)) s s68 ∧ RdL (rP (rK .i64) (rP (rK .i64) (rK .i64))) s68 a3 c3 p4 ∧ RowT (rP (rK .i64) (rK .i64)) s68 t0_0 119 a23 c23 st63.2.1 ∧ Bx s68 t0 b2 #[.slice a23 st63.2.1.length c23, .int .i64 st63.2.2.1, .int .i64 st63.2.2.2] 90 ∧ e = [(36, .int .i64 st63.1), (35, .int .i64 (p4.length : Int)), (34, .slice a3 p4.length c3), (10, .int .i64 (W ((r8.1.length : Int) - 1))), (0, .pointer (some ⟨b2, 0, none⟩)), (2, .int .i64 p2), (3, .int .i64 p3)] ∧ w = s68.w) eo63 ⟨s17, a19, c19, m0, h3, h19, bx2, rfl, rfl⟩ (Sub.rf rfl) ?_
 rintro st63 res63 hm ih63 ho63 _ _ ⟨s68, a23, c23, m0, h3, h23, bx2, rfl, rfl⟩
 unfold m_generate_assembler_event_l1 at hm
 refine E.seq (E.reg (L.bi Wt.no rfl rfl rfl rfl (L.nil (X.seqN (E.seq ?_)))))
 rcases ifS hm with ⟨hc, hm⟩ | ⟨hc, hm⟩
 ·refine E.cT rfl hc (E.skip (X.seqN (E.seq (E.block (E.seq (E.reg ?_))))))
  obtain ⟨x98, ex98, hm⟩ := bindS hm
  refine L.ix (r := (rP (rK .i64) (rP (rK .i64) (rK .i64)))) sl24 h3 Wt.no rfl rfl ex98 rfl fun b99 o99 cc99 me99 rd99 => ?_
  obtain ⟨_, _, rfl, rfl, ⟨_, _, rfl, rfl, rfl⟩⟩ := rd99
  refine L.lg (j := 0) (cs := [.int .i64 x98.1, .int .i64 x98.2.1, .int .i64 x98.2.2]) me99 ag28 Wt.no rfl rfl rfl rfl rfl (L.al (N + 0) zz28 rfl Wt.no rfl fun b100 s101 m102 bx100 => ?_)
  replace m0 := m0.trans m102.no
  replace h3 := h3.mono (m102.le no_No)
  replace bx2 := bx2.mv m102 no_No
  replace h23 := h23.mv m102 no_No no_No
  refine L.st (c := [.int .i64 x98.1, .int .i64 x98.2.1, .int .i64 x98.2.2]) (cs' := #[.int .i64 x98.1, .int .i64 x98.2.1, .int .i64 x98.2.2]) bx100 ag28.sz Wt.no rfl rfl rfl rfl rfl (Nat.le_of_ble_eq_true rfl) rfl fun s103 m104 bx100 => ?_
  replace m0 := m0.trans (m104.one up)
  replace h3 := h3.mono (m104.le (tg0 hN))
  replace bx2 := bx2.mv m104 (tgV lt0)
  replace h23 := h23.mv m104 (tgV lt0_0) (tg0 hN)
  refine L.nil (X.seqN (E.seq ?_))
  obtain ⟨r109, er109, hm⟩ := bindS hm
  obtain ⟨r116, er116, hm⟩ := bindS hm
  refine E.draw [[], [], [1], [0, 1, 2], [], [], [5], [0, 1, 2, 3, 4, 5, 6], [0, 1, 2, 3, 4, 5, 6, 7], [0, 1, 2, 3, 4, 5, 6, 7, 8]] (fun D e sx => Mv No s103 sx ∧ Sub [(12, .pointer (some ⟨b100, 0, none⟩)), (36, .int .i64 st63.1), (35, .int .i64 (p4.length : Int)), (34, .slice a3 p4.length c3), (10, .int .i64 (W ((r8.1.length : Int) - 1))), (0, .pointer (some ⟨b2, 0, none⟩)), (2, .int .i64 p2), (3, .int .i64 p3)] e ∧ (D 0 = true → (Env.get e 40 = some (.pointer (some ⟨b2, 0, none⟩)))) ∧ (D 1 = true → (Env.get e 41 = some (.pointer (some ⟨b100, 0, none⟩)))) ∧ (D 2 = true → (Env.get e 42 = some (.int .i64 x98.1))) ∧ (D 3 = true → (Env.get e 43 = some (.int .i64 r109))) ∧ (D 4 = true → (Env.get e 44 = some (.pointer (some ⟨b2, 0, none⟩)))) ∧ (D 5 = true → (Env.get e 45 = some (.pointer (some ⟨b100, 2, none⟩)))) ∧ (D 6 = true → (Env.get e 46 = some (.int .i64 x98.2.2))) ∧ (D 7 = true → (Env.get e 47 = some (.int .i64 r116))) ∧ (D 8 = true → (Env.get e 13 = some (.int .i64 r109))) ∧ (D 9 = true → (Env.get e 14 = some (.int .i64 r116)))) (by kernel_rfl) (by kernel_rfl) (by kernel_rfl) ?_ ?_ ?_
  ·intro sz mz
   exact ⟨mz, (Sub.rf rfl), nofun, nofun, nofun, nofun, nofun, nofun, nofun, nofun, nofun, nofun⟩
  ·refine ⟨?_, ?_, ?_, ?_, ?_, ?_, ?_, ?_, ?_, ?_, trivial⟩
   ·rintro D e s105 ⟨im, ib, i0, t_⟩ hk hf ha
    have kn : Kn e [(0, .pointer (some ⟨b2, 0, none⟩))] := ⟨(ib 0 _ rfl), trivial⟩
    exact L.kns _ kn (L.mv Wt.no rfl rfl (L.nil (X.dk kn ⟨im, Sub.fresh ib rfl, fun _ => rfl, t_⟩)))
   ·rintro D e s106 ⟨im, ib, i0, i1, t_⟩ hk hf ha
    have kn : Kn e [(12, .pointer (some ⟨b100, 0, none⟩))] := ⟨(ib 12 _ rfl), trivial⟩
    exact L.kns _ kn (L.fa fa28_0 Wt.no rfl rfl (L.nil (X.dk kn ⟨im, Sub.fresh ib rfl, i0, fun _ => rfl, t_⟩)))
   ·rintro D e s107 ⟨im, ib, i0, i1, i2, t_⟩ hk hf ha
    obtain ⟨d1, -⟩ := ha
    have g1_ := i1 d1
    have bx100 := bx100.mv im no_No
    have kn : Kn e [(41, .pointer (some ⟨b100, 0, none⟩))] := ⟨g1_, trivial⟩
    exact L.kns _ kn (L.ld (j := 0) bx100.mem nag3 Wt.no rfl rfl rfl rfl (L.nil (X.dk kn ⟨im, Sub.fresh ib rfl, i0, i1, fun _ => rfl, t_⟩)))
   ·rintro D e s108 ⟨im, ib, i0, i1, i2, i3, t_⟩ hk hf ha
    obtain ⟨d0, d1, d2, -⟩ := ha
    have g0_ := i0 d0
    have g2_ := i2 d2
    have bx2 := bx2.mv im no_No
    have h23 := h23.mv im no_No no_No
    have kn : Kn e [(40, .pointer (some ⟨b2, 0, none⟩)), (42, .int .i64 x98.1)] := ⟨g0_, g2_, trivial⟩
    refine L.kns _ kn (L.ca cf41 rfl rfl Wt.no rfl (Calls.lendG (s0 := (Sig.fz t0_0 (Sig.drop N s108))) (s := s108) rfl (m_generate_assembler_memory_c (s := (Sig.fz t0_0 (Sig.drop N s108))) (p0 := st63.2) (p1 := x98.1) (t0 := t0) ((h23.dropV lt0_0).fz (Ne.symm (tne0V zt0_0))) ((bx2.dropV lt0).mv (Sig.fz_mv t0_0 _) nt0_t0_0) er109) (fun v s' h => h)) rfl ?_)
    rintro _ s110 m111 rfl
    exact L.nil (X.dk kn ⟨im.trans m111.no, Sub.fresh ib rfl, i0, i1, i2, fun _ => rfl, t_⟩)
   ·rintro D e s112 ⟨im, ib, i0, i1, i2, i3, i4, t_⟩ hk hf ha
    have kn : Kn e [(0, .pointer (some ⟨b2, 0, none⟩))] := ⟨(ib 0 _ rfl), trivial⟩
    exact L.kns _ kn (L.mv Wt.no rfl rfl (L.nil (X.dk kn ⟨im, Sub.fresh ib rfl, i0, i1, i2, i3, fun _ => rfl, t_⟩)))
   ·rintro D e s113 ⟨im, ib, i0, i1, i2, i3, i4, i5, t_⟩ hk hf ha
    have kn : Kn e [(12, .pointer (some ⟨b100, 0, none⟩))] := ⟨(ib 12 _ rfl), trivial⟩
    exact L.kns _ kn (L.fa fa28_2 Wt.no rfl rfl (L.nil (X.dk kn ⟨im, Sub.fresh ib rfl, i0, i1, i2, i3, i4, fun _ => rfl, t_⟩)))
   ·rintro D e s114 ⟨im, ib, i0, i1, i2, i3, i4, i5, i6, t_⟩ hk hf ha
    obtain ⟨d5, -⟩ := ha
    have g5_ := i5 d5
    have bx100 := bx100.mv im no_No
    have kn : Kn e [(45, .pointer (some ⟨b100, 2, none⟩))] := ⟨g5_, trivial⟩
    exact L.kns _ kn (L.ld (j := 2) bx100.mem nag3 Wt.no rfl rfl rfl rfl (L.nil (X.dk kn ⟨im, Sub.fresh ib rfl, i0, i1, i2, i3, i4, i5, fun _ => rfl, t_⟩)))
   ·rintro D e s115 ⟨im, ib, i0, i1, i2, i3, i4, i5, i6, i7, t_⟩ hk hf ha
    obtain ⟨d0, d1, d2, d3, d4, d5, d6, -⟩ := ha
    have g4_ := i4 d4
    have g6_ := i6 d6
    have bx2 := bx2.mv im no_No
    have h23 := h23.mv im no_No no_No
    have kn : Kn e [(44, .pointer (some ⟨b2, 0, none⟩)), (46, .int .i64 x98.2.2)] := ⟨g4_, g6_, trivial⟩
    refine L.kns _ kn (L.ca cf41 rfl rfl Wt.no rfl (Calls.lendG (s0 := (Sig.fz t0_0 (Sig.drop N s115))) (s := s115) rfl (m_generate_assembler_memory_c (s := (Sig.fz t0_0 (Sig.drop N s115))) (p0 := st63.2) (p1 := x98.2.2) (t0 := t0) ((h23.dropV lt0_0).fz (Ne.symm (tne0V zt0_0))) ((bx2.dropV lt0).mv (Sig.fz_mv t0_0 _) nt0_t0_0) er116) (fun v s' h => h)) rfl ?_)
    rintro _ s117 m118 rfl
    exact L.nil (X.dk kn ⟨im.trans m118.no, Sub.fresh ib rfl, i0, i1, i2, i3, i4, i5, i6, fun _ => rfl, t_⟩)
   ·rintro D e s119 ⟨im, ib, i0, i1, i2, i3, i4, i5, i6, i7, i8, i9⟩ hk hf ha
    obtain ⟨d0, d1, d2, d3, d4, d5, d6, d7, -⟩ := ha
    have g3_ := i3 d3
    have kn : Kn e [(43, .int .i64 r109)] := ⟨g3_, trivial⟩
    exact L.kns _ kn (L.as Wt.no rfl rfl (L.nil (X.dk kn ⟨im, Sub.fresh ib rfl, i0, i1, i2, i3, i4, i5, i6, i7, fun _ => rfl, i9⟩)))
   ·rintro D e s120 ⟨im, ib, i0, i1, i2, i3, i4, i5, i6, i7, i8, i9⟩ hk hf ha
    obtain ⟨d0, d1, d2, d3, d4, d5, d6, d7, d8, -⟩ := ha
    have g7_ := i7 d7
    have kn : Kn e [(47, .int .i64 r116)] := ⟨g7_, trivial⟩
    exact L.kns _ kn (L.as Wt.no rfl rfl (L.nil (X.dk kn ⟨im, Sub.fresh ib rfl, i0, i1, i2, i3, i4, i5, i6, i7, i8, fun _ => rfl⟩)))
  ·rintro D e s121 hD ⟨im, ib, i0, i1, i2, i3, i4, i5, i6, i7, i8, i9⟩
   have g8_ := i8 (hD 8 rfl)
   have g9_ := i9 (hD 9 rfl)
   have h3 := h3.mono (im.le no_No)
   have bx2 := bx2.mv im no_No
   have h23 := h23.mv im no_No no_No
   have m0 := m0.trans im.no
   refine X.sub (e' := [(14, .int .i64 r116), (13, .int .i64 r109), (36, .int .i64 st63.1), (35, .int .i64 (p4.length : Int)), (34, .slice a3 p4.length c3), (10, .int .i64 (W ((r8.1.length : Int) - 1))), (0, .pointer (some ⟨b2, 0, none⟩)), (2, .int .i64 p2), (3, .int .i64 p3)]) ?_ (Sub.cons g9_ (Sub.cons g8_ (Sub.cons (ib 36 _ rfl) (Sub.cons (ib 35 _ rfl) (Sub.cons (ib 34 _ rfl) (Sub.cons (ib 10 _ rfl) (Sub.cons (ib 0 _ rfl) (Sub.cons (ib 2 _ rfl) (Sub.cons (ib 3 _ rfl) Sub.nil)))))))))
   refine X.seqN (E.reg (L.mv Wt.no rfl rfl (L.mv Wt.no rfl rfl (L.bu (cs := [.int .i64 1, .int .i64 r109]) pl117 Wt.no rfl rfl rfl (L.mv Wt.no rfl rfl (L.bu (cs := [.int .i64 4, .int .i64 p2]) pl117 Wt.no rfl rfl rfl (L.mv Wt.no rfl rfl (L.bu (cs := [.int .i64 10, .int .i64 r109]) pl117 Wt.no rfl rfl rfl (L.mv Wt.no rfl rfl (L.bu (cs := [.int .i64 9, .int .i64 r116]) pl117 Wt.no rfl rfl rfl (L.mv Wt.no rfl rfl (L.bu (cs := [.int .i64 9, .int .i64 p2]) pl117 Wt.no rfl rfl rfl (L.bsE (k := 5) (cs := [.int .i64 1, .int .i64 r109, .int .i64 4, .int .i64 p2, .int .i64 10, .int .i64 r109, .int .i64 9, .int .i64 r116, .int .i64 9, .int .i64 p2]) 0 bs134 (Nat.le_of_ble_eq_true rfl) Wt.no rfl rfl rfl rfl fun b122 s123 m124 bx122 => ?_)))))))))))))
   replace m0 := m0.trans m124.no
   replace h3 := h3.mono (m124.le no_No)
   replace bx2 := bx2.mv m124 no_No
   replace h23 := h23.mv m124 no_No no_No
   have h122 := Bx.rdL (r := (rP (rK .i64) (rK .i64))) (xs := ([(1, r109), (4, p2), (10, r109), (9, r116), (9, p2)] : List (Int × Int))) bx122 ⟨[.int .i64 1, .int .i64 r109], _, rfl, ⟨[.int .i64 1], [.int .i64 r109], rfl, rfl, rfl⟩, ⟨[.int .i64 4, .int .i64 p2], _, rfl, ⟨[.int .i64 4], [.int .i64 p2], rfl, rfl, rfl⟩, ⟨[.int .i64 10, .int .i64 r109], _, rfl, ⟨[.int .i64 10], [.int .i64 r109], rfl, rfl, rfl⟩, ⟨[.int .i64 9, .int .i64 r116], _, rfl, ⟨[.int .i64 9], [.int .i64 r116], rfl, rfl, rfl⟩, ⟨[.int .i64 9, .int .i64 p2], _, rfl, ⟨[.int .i64 9], [.int .i64 p2], rfl, rfl, rfl⟩, rfl⟩⟩⟩⟩⟩ (Nat.le_of_ble_eq_true rfl)
   obtain ⟨r125, er125, hm⟩ := bindS hm
   refine L.ca cf69 rfl rfl Wt.no rfl (m_generate_assembler_put_c (s := s123) (p0 := st63.2) (p1 := ([(1, r109), (4, p2), (10, r109), (9, r116), (9, p2)] : List (Int × Int))) (t0 := t0) (t0_0 := t0_0) nt0_t0_0 nt0_0_t0 zt0 zt0_0 h23 bx2 h122 er125) rfl ?_
   rintro _ s126 m127 ⟨a128, c128, rfl, bx2, h128⟩
   replace m0 := m0.trans (m127.weak fun _ e => by rcases e with e | e; (rw [e]; exact (.inr (.inl rfl))); (rw [e]; exact (.inr (.inr rfl))))
   replace h3 := h3.mono (m127.le (nor (tgz zt0) (tgz zt0_0)))
   exact L.nil (X.blkN (X.seqN (E.reg (L.bi Wt.no rfl rfl rfl rfl (L.mv Wt.no rfl rfl (L.nil (X.sub (ih63 _ (Option.some.inj hm).symm _ _ ⟨s126, a128, c128, m0, h3, h128, bx2, rfl, rfl⟩) (Sub.rf rfl))))))))
 ·refine E.cF rfl hc (E.exit (X.seqX (X.seqX ?_)))
  have hx := ho63 _ (Option.some.inj hm).symm
  subst hx
  exact X.sub (K97 _ _ ⟨s68, a23, c23, m0, h23, bx2, rfl, rfl⟩) (Sub.rf rfl)

noncomputable def m_generate_assembler_command_l1 (p2 : List Int) (st49 : Int × (List (Int × Int)) × Int × Int) : Option ((Int × (List (Int × Int)) × Int × Int) ⊕ ((List (Int × Int)) × Int × Int)) :=
  if decide (st49.1 < (p2.length : Int)) then
    (idx p2 st49.1).bind fun x65 =>
    (idx ([1, 5] : List Int) (if 1 < st49.1 then 1 else st49.1)).bind fun x72 =>
    (m_generate_assembler_memory st49.2 x65).bind fun r76 =>
    (m_generate_assembler_put st49.2 ([(x72, r76)] : List (Int × Int))).bind fun r85 =>
    some (.inl (W (st49.1 + 1), r85))
  else
    some (.inr st49.2)
/-- What generate.assembler).command computes. -/
noncomputable def m_generate_assembler_command (p0 : (List (Int × Int)) × Int × Int) (p1 : Int) (p2 : List Int) : Option ((List (Int × Int)) × Int × Int) :=
  if ((p2.length : Int) == 0) then
    (m_generate_assembler_put p0 ([(1, p1), (4, p1), (7, p1)] : List (Int × Int))).bind fun r8 =>
    some r8
  else
    (iter (m_generate_assembler_command_l1 p2) (0, p0)).bind fun o49 =>
    (m_generate_assembler_put o49 ([(7, p1)] : List (Int × Int))).bind fun r59 =>
    some r59
set_option maxRecDepth 100000 in
set_option maxHeartbeats 8000000 in
theorem m_generate_assembler_command_c {s : Sig} {p0 : (List (Int × Int)) × Int × Int} {p1 : Int} {p2 : List Int} {t0 : Nat} {t0_0 : Nat} {a1 : Option Addr} {c1 : Nat} {b2 : Nat} {a3 : Option Addr} {c3 : Nat} {r : ((List (Int × Int)) × Int × Int)} (nt0_t0_0 : t0 ≠ t0_0) (nt0_0_t0 : t0_0 ≠ t0) (zt0 : 0 < t0) (zt0_0 : 0 < t0_0) (h1 : RowT (rP (rK .i64) (rK .i64)) s t0_0 119 a1 c1 p0.1) (bx2 : Bx s t0 b2 #[.slice a1 p0.1.length c1, .int .i64 p0.2.1, .int .i64 p0.2.2] 90) (h3 : RdL (rK .i64) s a3 c3 p2) (hm : m_generate_assembler_command p0 p1 p2 = some r) :
    Calls Try.prog 43 #[.pointer (some ⟨b2, 0, none⟩), .int .i64 p1, .slice a3 p2.length c3] s.w (RetS (fun t => t = t0 ∨ t = t0_0) s fun v s' => ∃ (a4 : Option Addr) (c4 : Nat), v = .tuple #[] ∧ Bx s' t0 b2 #[.slice a4 r.1.length c4, .int .i64 r.2.1, .int .i64 r.2.2] 90 ∧ RowT (rP (rK .i64) (rK .i64)) s' t0_0 119 a4 c4 r.1) := by
 unfold m_generate_assembler_command at hm
 obtain ⟨N, hN, hNb, lt0, lt0_0, -⟩ := s.freshL [t0, t0_0]
 have m0 : Mv (Up N (fun t => t = t0 ∨ t = t0_0)) s s := Mv.refl _ _
 refine E.entry Try.func43 rfl Try.ntmps43 rfl rfl (E.seq (E.seq (E.reg (L.mv Wt.no rfl rfl (L.len sl23 Wt.no rfl rfl (L.bi Wt.no rfl rfl rfl rfl (L.nil (X.seqN ?_))))))))
 rcases ifS hm with ⟨hc, hm⟩ | ⟨hc, hm⟩
 ·refine E.cT rfl hc (E.seq (E.reg (L.mv Wt.no rfl rfl (L.mv Wt.no rfl rfl (L.bu (cs := [.int .i64 1, .int .i64 p1]) pl117 Wt.no rfl rfl rfl (L.mv Wt.no rfl rfl (L.bu (cs := [.int .i64 4, .int .i64 p1]) pl117 Wt.no rfl rfl rfl (L.mv Wt.no rfl rfl (L.bu (cs := [.int .i64 7, .int .i64 p1]) pl117 Wt.no rfl rfl rfl (L.bsE (k := 3) (cs := [.int .i64 1, .int .i64 p1, .int .i64 4, .int .i64 p1, .int .i64 7, .int .i64 p1]) 0 bs134 (Nat.le_of_ble_eq_true rfl) Wt.no rfl rfl rfl rfl fun b5 s6 m7 bx5 => ?_))))))))))
  replace m0 := m0.trans m7.no
  replace bx2 := bx2.mv m7 no_No
  replace h1 := h1.mv m7 no_No no_No
  have h5 := Bx.rdL (r := (rP (rK .i64) (rK .i64))) (xs := ([(1, p1), (4, p1), (7, p1)] : List (Int × Int))) bx5 ⟨[.int .i64 1, .int .i64 p1], _, rfl, ⟨[.int .i64 1], [.int .i64 p1], rfl, rfl, rfl⟩, ⟨[.int .i64 4, .int .i64 p1], _, rfl, ⟨[.int .i64 4], [.int .i64 p1], rfl, rfl, rfl⟩, ⟨[.int .i64 7, .int .i64 p1], _, rfl, ⟨[.int .i64 7], [.int .i64 p1], rfl, rfl, rfl⟩, rfl⟩⟩⟩ (Nat.le_of_ble_eq_true rfl)
  obtain ⟨r8, er8, hm⟩ := bindS hm
  refine L.ca cf69 rfl rfl Wt.no rfl (m_generate_assembler_put_c (s := s6) (p0 := p0) (p1 := ([(1, p1), (4, p1), (7, p1)] : List (Int × Int))) (t0 := t0) (t0_0 := t0_0) nt0_t0_0 nt0_0_t0 zt0 zt0_0 h1 bx2 h5 er8) rfl ?_
  rintro _ s9 m10 ⟨a11, c11, rfl, bx2, h11⟩
  replace m0 := m0.trans (m10.weak fun _ e => by rcases e with e | e; (rw [e]; exact (.inr (.inl rfl))); (rw [e]; exact (.inr (.inr rfl))))
  refine L.nil (X.seqN (E.ret (X.seqR ?_)))
  obtain rfl := Option.some.inj hm
  exact X.rt (.inl rfl) Try.results43 Rs.nil rfl ⟨_, (s9).ren N (fun _ => 0), rfl, rfl, m0.ren hNb, ⟨a11, c11, rfl, (bx2.renV lt0), (h11.renV hN lt0_0)⟩⟩
 ·refine E.cF rfl hc (E.skip (X.seqN (E.seq (E.seq (E.reg (L.mv Wt.no rfl rfl (L.len sl23 Wt.no rfl rfl (L.mv Wt.no rfl rfl (L.nil (X.seqN (E.block ?_)))))))))))
  obtain ⟨o49, eo49, hm⟩ := bindS hm
  refine E.cut (x := .exit 0) (fun e w => ∃ (s55 : Sig) (a51 : Option Addr) (c51 : Nat), Mv (Up N (fun t => t = t0 ∨ t = t0_0)) s s55 ∧ RowT (rP (rK .i64) (rK .i64)) s55 t0_0 119 a51 c51 o49.1 ∧ Bx s55 t0 b2 #[.slice a51 o49.1.length c51, .int .i64 o49.2.1, .int .i64 o49.2.2] 90 ∧ e = [(0, .pointer (some ⟨b2, 0, none⟩)), (1, .int .i64 p1)] ∧ w = s55.w) ?_ ?_
  ·rintro _ _ ⟨s55, a51, c51, m0, h51, bx2, rfl, rfl⟩
   refine X.blkE (X.seqN (E.reg (L.mv Wt.no rfl rfl (L.mv Wt.no rfl rfl (L.bu (cs := [.int .i64 7, .int .i64 p1]) pl117 Wt.no rfl rfl rfl (L.bsE (k := 1) (cs := [.int .i64 7, .int .i64 p1]) 0 bs134 (Nat.le_of_ble_eq_true rfl) Wt.no rfl rfl rfl rfl fun b56 s57 m58 bx56 => ?_))))))
   replace m0 := m0.trans m58.no
   replace bx2 := bx2.mv m58 no_No
   replace h51 := h51.mv m58 no_No no_No
   have h56 := Bx.rdL (r := (rP (rK .i64) (rK .i64))) (xs := ([(7, p1)] : List (Int × Int))) bx56 ⟨[.int .i64 7, .int .i64 p1], _, rfl, ⟨[.int .i64 7], [.int .i64 p1], rfl, rfl, rfl⟩, rfl⟩ (Nat.le_of_ble_eq_true rfl)
   obtain ⟨r59, er59, hm⟩ := bindS hm
   refine L.ca cf69 rfl rfl Wt.no rfl (m_generate_assembler_put_c (s := s57) (p0 := o49) (p1 := ([(7, p1)] : List (Int × Int))) (t0 := t0) (t0_0 := t0_0) nt0_t0_0 nt0_0_t0 zt0 zt0_0 h51 bx2 h56 er59) rfl ?_
   rintro _ s60 m61 ⟨a62, c62, rfl, bx2, h62⟩
   replace m0 := m0.trans (m61.weak fun _ e => by rcases e with e | e; (rw [e]; exact (.inr (.inl rfl))); (rw [e]; exact (.inr (.inr rfl))))
   refine L.nil ?_
   obtain rfl := Option.some.inj hm
   exact X.rt (.inr rfl) Try.results43 Rs.nil rfl ⟨_, (s60).ren N (fun _ => 0), rfl, rfl, m0.ren hNb, ⟨a62, c62, rfl, (bx2.renV lt0), (h62.renV hN lt0_0)⟩⟩
  intro K64
  refine E.iter (fun (st49 : Int × (List (Int × Int)) × Int × Int) (e : List (Nat × Value)) (w : World) => ∃ (s54 : Sig) (a15 : Option Addr) (c15 : Nat), Mv (Up N (fun t => t = t0 ∨ t = t0_0)) s s54 ∧ RdL (rK .i64) s54 a3 c3 p2 ∧ RowT (rP (rK .i64) (rK .i64)) s54 t0_0 119 a15 c15 st49.2.1 ∧ Bx s54 t0 b2 #[.slice a15 st49.2.1.length c15, .int .i64 st49.2.2.1, .int .i64 st49.2.2.2] 90 ∧ e = [(22, .int .i64 st49.1), (21, .int .i64 (p2.length : Int)), (20, .slice a3 p2.length c3), (0, .pointer (some ⟨b2, 0, none⟩)), (1, .int .i64 p1)] ∧ w = s54.w) eo49 ⟨s, a1, c1, m0, h3, h1, bx2, rfl, rfl⟩ (Sub.rf rfl) ?_
  rintro st49 res49 hm ih49 ho49 _ _ ⟨s54, a15, c15, m0, h3, h15, bx2, rfl, rfl⟩
  unfold m_generate_assembler_command_l1 at hm
  refine E.seq (E.reg (L.bi Wt.no rfl rfl rfl rfl (L.nil (X.seqN (E.seq ?_)))))
  rcases ifS hm with ⟨hc, hm⟩ | ⟨hc, hm⟩
  ·refine E.cT rfl hc (E.skip (X.seqN (E.seq (E.block (E.seq (E.reg (L.mv Wt.no rfl rfl ?_)))))))
   obtain ⟨x65, ex65, hm⟩ := bindS hm
   refine L.ix (r := (rK .i64)) sl23 h3 Wt.no rfl rfl ex65 rfl fun b66 o66 cc66 me66 rd66 => ?_
   obtain rfl := rd66
   refine L.ld (j := 0) me66 nag3 Wt.no rfl rfl rfl rfl (L.as Wt.no rfl rfl (L.as Wt.no rfl rfl (L.nil (X.seqN ?_))))
   obtain ⟨x72, ex72, hm⟩ := bindS hm
   obtain ⟨r76, er76, hm⟩ := bindS hm
   obtain ⟨r85, er85, hm⟩ := bindS hm
   refine E.draw [[], [], [], [2], [1, 2, 3], [], [], [5, 6], [1, 2, 3, 4, 5, 6, 7], [1, 2, 3, 4, 5, 6, 7, 8], [0, 1, 2, 3, 4, 5, 6, 7, 8, 9]] (fun D e sx => Mv (fun t => t = t0 ∨ t = t0_0) s54 sx ∧ Sub [(7, .int .i64 x65), (6, .int .i64 st49.1), (22, .int .i64 st49.1), (21, .int .i64 (p2.length : Int)), (20, .slice a3 p2.length c3), (0, .pointer (some ⟨b2, 0, none⟩)), (1, .int .i64 p1)] e ∧ (D 0 = true → (Env.get e 27 = some (.pointer (some ⟨b2, 0, none⟩)))) ∧ (D 1 = true → (Env.get e 28 = some (.agg #[.int .i64 1, .int .i64 5]))) ∧ (D 2 = true → (Env.get e 29 = some (.int .i64 st49.1))) ∧ (D 3 = true → (Env.get e 30 = some (.int .i64 (if 1 < st49.1 then 1 else st49.1)))) ∧ (D 4 = true → (Env.get e 31 = some (.int .i64 x72))) ∧ (D 5 = true → (Env.get e 32 = some (.pointer (some ⟨b2, 0, none⟩)))) ∧ (D 6 = true → (Env.get e 33 = some (.int .i64 x65))) ∧ (D 7 = true → (Env.get e 34 = some (.int .i64 r76))) ∧ (D 8 = true → (Env.get e 35 = some (.agg #[.int .i64 x72, .int .i64 r76]))) ∧ (D 9 = true → (∃ (b81 : Nat), Env.get e 36 = some (.slice (some ⟨b81, 0, none⟩) ([(x72, r76)] : List (Int × Int)).length (([(x72, r76)] : List (Int × Int)).length)) ∧ RdL (rP (rK .i64) (rK .i64)) sx (some ⟨b81, 0, none⟩) (([(x72, r76)] : List (Int × Int)).length) ([(x72, r76)] : List (Int × Int)))) ∧ (D 10 = true → (Env.get e 37 = some (.tuple #[]))) ∧ (D 10 = false → Bx sx t0 b2 #[.slice a15 st49.2.1.length c15, .int .i64 st49.2.2.1, .int .i64 st49.2.2.2] 90 ∧ RowT (rP (rK .i64) (rK .i64)) sx t0_0 119 a15 c15 st49.2.1) ∧ (D 10 = true → (∃ (a88 : Option Addr) (c88 : Nat), Bx sx t0 b2 #[.slice a88 r85.1.length c88, .int .i64 r85.2.1, .int .i64 r85.2.2] 90 ∧ RowT (rP (rK .i64) (rK .i64)) sx t0_0 119 a88 c88 r85.1))) (by kernel_rfl) (by kernel_rfl) (by kernel_rfl) ?_ ?_ ?_
   ·intro sz mz
    exact ⟨mz.no, (Sub.rf rfl), nofun, nofun, nofun, nofun, nofun, nofun, nofun, nofun, nofun, nofun, nofun, fun _ => ⟨bx2.mv mz no_No, h15.mv mz no_No no_No⟩, nofun⟩
   ·refine ⟨?_, ?_, ?_, ?_, ?_, ?_, ?_, ?_, ?_, ?_, ?_, trivial⟩
    ·rintro D e s67 ⟨im, ib, i0, t_⟩ hk hf ha
     have kn : Kn e [(0, .pointer (some ⟨b2, 0, none⟩))] := ⟨(ib 0 _ rfl), trivial⟩
     exact L.kns _ kn (L.mv Wt.no rfl rfl (L.nil (X.dk kn ⟨im, Sub.fresh ib rfl, fun _ => rfl, t_⟩)))
    ·rintro D e s68 ⟨im, ib, i0, i1, t_⟩ hk hf ha
     exact L.bu (cs := [.int .i64 1, .int .i64 5]) pl117 Wt.no rfl rfl rfl (L.nil (X.dr (s := s68) (e' := (28, .agg #[.int .i64 1, .int .i64 5]) :: e) (Sub.both (Sub.refl)) ⟨im, Sub.fresh ib rfl, i0, fun _ => rfl, t_⟩))
    ·rintro D e s69 ⟨im, ib, i0, i1, i2, t_⟩ hk hf ha
     have kn : Kn e [(6, .int .i64 st49.1)] := ⟨(ib 6 _ rfl), trivial⟩
     exact L.kns _ kn (L.mv Wt.no rfl rfl (L.nil (X.dk kn ⟨im, Sub.fresh ib rfl, i0, i1, fun _ => rfl, t_⟩)))
    ·rintro D e s70 ⟨im, ib, i0, i1, i2, i3, t_⟩ hk hf ha
     obtain ⟨d2, -⟩ := ha
     have g2_ := i2 d2
     have kn : Kn e [(29, .int .i64 st49.1)] := ⟨g2_, trivial⟩
     exact L.kns _ kn (L.min Wt.no rfl rfl rfl (L.nil (X.dk kn ⟨im, Sub.fresh ib rfl, i0, i1, i2, fun _ => rfl, t_⟩)))
    ·rintro D e s71 ⟨im, ib, i0, i1, i2, i3, i4, t_⟩ hk hf ha
     obtain ⟨d1, d2, d3, -⟩ := ha
     have g1_ := i1 d1
     have g3_ := i3 d3
     have kn : Kn e [(28, .agg #[.int .i64 1, .int .i64 5]), (30, .int .i64 (if 1 < st49.1 then 1 else st49.1))] := ⟨g1_, g3_, trivial⟩
     exact L.kns _ kn (L.in1 (v := Value.int .i64 x72) (vs := [.int .i64 1, .int .i64 5]) nag3.sz nag3.agg Try.underlying117 Wt.no rfl rfl rfl (show idx [Value.int .i64 1, Value.int .i64 5] (if 1 < st49.1 then 1 else st49.1) = some (Value.int .i64 x72) from idx_map (f := fun z => Value.int .i64 z) ex72) rfl (L.nil (X.dk kn ⟨im, Sub.fresh ib rfl, i0, i1, i2, i3, fun _ => rfl, t_⟩)))
    ·rintro D e s73 ⟨im, ib, i0, i1, i2, i3, i4, i5, t_⟩ hk hf ha
     have kn : Kn e [(0, .pointer (some ⟨b2, 0, none⟩))] := ⟨(ib 0 _ rfl), trivial⟩
     exact L.kns _ kn (L.mv Wt.no rfl rfl (L.nil (X.dk kn ⟨im, Sub.fresh ib rfl, i0, i1, i2, i3, i4, fun _ => rfl, t_⟩)))
    ·rintro D e s74 ⟨im, ib, i0, i1, i2, i3, i4, i5, i6, t_⟩ hk hf ha
     have kn : Kn e [(7, .int .i64 x65)] := ⟨(ib 7 _ rfl), trivial⟩
     exact L.kns _ kn (L.mv Wt.no rfl rfl (L.nil (X.dk kn ⟨im, Sub.fresh ib rfl, i0, i1, i2, i3, i4, i5, fun _ => rfl, t_⟩)))
    ·rintro D e s75 ⟨im, ib, i0, i1, i2, i3, i4, i5, i6, i7, i8, i9, i10, i11, i12⟩ hk hf ha
     obtain ⟨d5, d6, -⟩ := ha
     have g5_ := i5 d5
     have g6_ := i6 d6
     obtain ⟨bx2, h15⟩ := i11 (hf 10 (Nat.le_of_ble_eq_true rfl) rfl)
     have kn : Kn e [(32, .pointer (some ⟨b2, 0, none⟩)), (33, .int .i64 x65)] := ⟨g5_, g6_, trivial⟩
     refine L.kns _ kn (L.ca cf41 rfl rfl Wt.no rfl (Calls.lendG (s0 := (Sig.fz t0_0 (Sig.drop N s75))) (s := s75) rfl (m_generate_assembler_memory_c (s := (Sig.fz t0_0 (Sig.drop N s75))) (p0 := st49.2) (p1 := x65) (t0 := t0) ((h15.dropV lt0_0).fz (Ne.symm (tne0V zt0_0))) ((bx2.dropV lt0).mv (Sig.fz_mv t0_0 _) nt0_t0_0) er76) (fun v s' h => h)) rfl ?_)
     rintro _ s77 m78 rfl
     exact L.nil (X.dk kn ⟨im.trans m78.no, Sub.fresh ib rfl, i0, i1, i2, i3, i4, i5, i6, fun _ => rfl, i8, fun z => let ⟨b81, q, h81⟩ := i9 z; ⟨b81, q, (h81.mono (m78.le no_No))⟩, i10, fun z2 => let ⟨bx2, h15⟩ := i11 z2; ⟨(bx2.mv m78 no_No), (h15.mv m78 no_No no_No)⟩, fun z => let ⟨a88, c88, bx2, h88⟩ := i12 z; ⟨a88, c88, (bx2.mv m78 no_No), (h88.mv m78 no_No no_No)⟩⟩)
    ·rintro D e s79 ⟨im, ib, i0, i1, i2, i3, i4, i5, i6, i7, i8, t_⟩ hk hf ha
     obtain ⟨d1, d2, d3, d4, d5, d6, d7, -⟩ := ha
     have g4_ := i4 d4
     have g7_ := i7 d7
     have kn : Kn e [(31, .int .i64 x72), (34, .int .i64 r76)] := ⟨g4_, g7_, trivial⟩
     exact L.kns _ kn (L.bu (cs := [.int .i64 x72, .int .i64 r76]) pl117 Wt.no rfl rfl rfl (L.nil (X.dk kn ⟨im, Sub.fresh ib rfl, i0, i1, i2, i3, i4, i5, i6, i7, fun _ => rfl, t_⟩)))
    ·rintro D e s80 ⟨im, ib, i0, i1, i2, i3, i4, i5, i6, i7, i8, i9, i10, i11, i12⟩ hk hf ha
     obtain ⟨d1, d2, d3, d4, d5, d6, d7, d8, -⟩ := ha
     have g8_ := i8 d8
     have kn : Kn e [(35, .agg #[.int .i64 x72, .int .i64 r76])] := ⟨g8_, trivial⟩
     refine L.kns _ kn (L.bsE (k := 1) (cs := [.int .i64 x72, .int .i64 r76]) 0 bs134 (Nat.le_of_ble_eq_true rfl) Wt.no rfl rfl rfl rfl fun b81 s82 m83 bx81 => ?_)
     have h81 := Bx.rdL (r := (rP (rK .i64) (rK .i64))) (xs := ([(x72, r76)] : List (Int × Int))) bx81 ⟨[.int .i64 x72, .int .i64 r76], _, rfl, ⟨[.int .i64 x72], [.int .i64 r76], rfl, rfl, rfl⟩, rfl⟩ (Nat.le_of_ble_eq_true rfl)
     exact L.nil (X.dk kn ⟨im.trans m83.no, Sub.fresh ib rfl, i0, i1, i2, i3, i4, i5, i6, i7, i8, fun _ => ⟨b81, rfl, h81⟩, i10, fun z2 => let ⟨bx2, h15⟩ := i11 z2; ⟨(bx2.mv m83 no_No), (h15.mv m83 no_No no_No)⟩, fun z => let ⟨a88, c88, bx2, h88⟩ := i12 z; ⟨a88, c88, (bx2.mv m83 no_No), (h88.mv m83 no_No no_No)⟩⟩)
    ·rintro D e s84 ⟨im, ib, i0, i1, i2, i3, i4, i5, i6, i7, i8, i9, i10, i11, i12⟩ hk hf ha
     obtain ⟨d0, d1, d2, d3, d4, d5, d6, d7, d8, d9, -⟩ := ha
     have g0_ := i0 d0
     obtain ⟨b81, g9_, h81⟩ := i9 d9
     obtain ⟨bx2, h15⟩ := i11 hk
     have kn : Kn e [(27, .pointer (some ⟨b2, 0, none⟩)), (36, .slice (some ⟨b81, 0, none⟩) ([(x72, r76)] : List (Int × Int)).length (([(x72, r76)] : List (Int × Int)).length))] := ⟨g0_, g9_, trivial⟩
     refine L.kns _ kn (L.ca cf69 rfl rfl Wt.no rfl (m_generate_assembler_put_c (s := s84) (p0 := st49.2) (p1 := ([(x72, r76)] : List (Int × Int))) (t0 := t0) (t0_0 := t0_0) nt0_t0_0 nt0_0_t0 zt0 zt0_0 h15 bx2 h81 er85) rfl ?_)
     rintro _ s86 m87 ⟨a88, c88, rfl, bx2, h88⟩
     exact L.nil (X.dk kn ⟨im.trans (m87.weak fun _ e => by rcases e with e | e; (rw [e]; exact (.inl rfl)); (rw [e]; exact (.inr rfl))), Sub.fresh ib rfl, i0, i1, i2, i3, i4, i5, i6, i7, i8, fun z => let ⟨b81, q, h81⟩ := i9 z; ⟨b81, q, (h81.mono (m87.le (nor (tgz zt0) (tgz zt0_0))))⟩, fun _ => rfl, fun z => Bool.noConfusion (show true = false from z), fun _ => by exact ⟨a88, c88, bx2, h88⟩⟩)
   ·rintro D e s90 hD ⟨im, ib, i0, i1, i2, i3, i4, i5, i6, i7, i8, i9, i10, i11, i12⟩
    obtain ⟨a88, c88, bx2, h88⟩ := i12 (hD 10 rfl)
    have h3 := h3.mono (im.le (nor (tgz zt0) (tgz zt0_0)))
    have m0 := m0.trans (im.weak fun _ e => by rcases e with e | e; (rw [e]; exact (.inr (.inl rfl))); (rw [e]; exact (.inr (.inr rfl))))
    refine X.sub (e' := [(22, .int .i64 st49.1), (21, .int .i64 (p2.length : Int)), (20, .slice a3 p2.length c3), (0, .pointer (some ⟨b2, 0, none⟩)), (1, .int .i64 p1)]) ?_ (Sub.cons (ib 22 _ rfl) (Sub.cons (ib 21 _ rfl) (Sub.cons (ib 20 _ rfl) (Sub.cons (ib 0 _ rfl) (Sub.cons (ib 1 _ rfl) Sub.nil)))))
    exact X.blkN (X.seqN (E.reg (L.bi Wt.no rfl rfl rfl rfl (L.mv Wt.no rfl rfl (L.nil (X.sub (ih49 _ (Option.some.inj hm).symm _ _ ⟨s90, a88, c88, m0, h3, h88, bx2, rfl, rfl⟩) (Sub.rf rfl)))))))
  ·refine E.cF rfl hc (E.exit (X.seqX (X.seqX ?_)))
   have hx := ho49 _ (Option.some.inj hm).symm
   subst hx
   exact X.sub (K64 _ _ ⟨s54, a15, c15, m0, h15, bx2, rfl, rfl⟩) (Sub.rf rfl)

/-- What slices.Clone<<>int,int> computes. -/
noncomputable def m_slices_Clone_int (p0 : List Int) : Option (List Int) :=
  (app ([] : List Int) p0).bind fun x6 =>
  some x6
set_option maxRecDepth 100000 in
set_option maxHeartbeats 8000000 in
theorem m_slices_Clone_int_c {s : Sig} {p0 : List Int} {a1 : Option Addr} {c1 : Nat} {u0 : Nat} {r : List Int} (h1 : RdL (rK .i64) s a1 c1 p0) (hm : m_slices_Clone_int p0 = some r) :
    Calls Try.prog 44 #[.slice a1 p0.length c1] s.w (RetS No s fun v s' => ∃ (a2 : Option Addr) (c2 : Nat), v = .slice a2 r.length c2 ∧ RowT (rK .i64) s' u0 3 a2 c2 r) := by
 unfold m_slices_Clone_int at hm
 obtain ⟨N, hN, hNb⟩ := s.fresh
 have m0 : Mv (Up N No) s s := Mv.refl _ _
 refine E.entry Try.func44 rfl Try.ntmps44 rfl rfl (E.seq (E.reg (L.as Wt.no rfl rfl (L.nil (X.seqN (E.seq (E.seq (E.reg (L.mv Wt.no rfl rfl (L.nil? Try.underlying23 Wt.no rfl rfl rfl (L.nil (X.seqN ?_))))))))))))
 rcases isNoneS a1 with hc | hc
 ·refine E.cT rfl hc ?_
  obtain rfl := h1.eq_nil hc
  replace hm : some ([] : List Int) = some r := by simpa [app, slc] using hm
  refine E.seq (E.reg (L.as Wt.no rfl rfl (L.nil (X.seqN (E.ret (X.seqR ?_))))))
  obtain rfl := Option.some.inj hm
  exact X.rt (.inl rfl) Try.results44 (Rs.tmp rfl Rs.nil) rfl ⟨_, (s).ren N (fun _ => 0), rfl, rfl, m0.ren hNb, ⟨none, 0, rfl, RowT.nil⟩⟩
 ·refine E.cF rfl hc (E.skip (X.seqN (E.seq (E.reg (L.bs0 (N + 0) bs23 (Nat.le_of_ble_eq_true rfl) Wt.no rfl fun b3 s4 m5 bx3 => ?_)))))
  replace m0 := m0.trans m5.no
  replace h1 := h1.mono (m5.le no_No)
  have h3 := Bx.row (r := (rK .i64)) (xs := ([] : List Int)) bx3 rfl (Nat.le_of_ble_eq_true rfl)
  refine L.mv Wt.no rfl rfl ?_
  obtain ⟨x6, ex6, hm⟩ := bindS hm
  refine L.ap (r := (rK .i64)) Try.underlying23 el3 rfl (tgp hN) h3 h1.wk Wt.no rfl rfl ex6 rfl fun a7 c7 s8 m9 h7 => ?_
  replace m0 := m0.trans (m9.one up)
  refine L.as Wt.no rfl rfl (L.nil (X.seqN (E.ret ?_)))
  obtain rfl := Option.some.inj hm
  exact X.rt (.inl rfl) Try.results44 (Rs.tmp rfl Rs.nil) rfl ⟨_, (s8).ren N (fun k => cond (Nat.beq k 0) u0 (0)), rfl, rfl, m0.ren hNb, ⟨a7, c7, rfl, (h7.ren hN)⟩⟩

theorem ag34 : Ag Try.prog 34 8 := Ag.mk' Try.underlying34 rfl (by kernel_rfl)
theorem cf28 : Cf Try.prog 28 := Cf.mk Try.func28 (by kernel_rfl) (by kernel_rfl)
theorem cf33 : Cf Try.prog 33 := Cf.mk Try.func33 (by kernel_rfl) (by kernel_rfl)
theorem cf39 : Cf Try.prog 39 := Cf.mk Try.func39 (by kernel_rfl) (by kernel_rfl)
theorem cf40 : Cf Try.prog 40 := Cf.mk Try.func40 (by kernel_rfl) (by kernel_rfl)
theorem cf42 : Cf Try.prog 42 := Cf.mk Try.func42 (by kernel_rfl) (by kernel_rfl)
theorem cf43 : Cf Try.prog 43 := Cf.mk Try.func43 (by kernel_rfl) (by kernel_rfl)
theorem cf44 : Cf Try.prog 44 := Cf.mk Try.func44 (by kernel_rfl) (by kernel_rfl)
theorem mpt91 : Mp Try.prog 91 3 24 .i64 (.slice none 0 0) := Mp.mk' Try.underlying91 Try.underlying3 (by kernel_rfl)
theorem mpt92 : Mp Try.prog 92 3 23 .i64 (.slice none 0 0) := Mp.mk' Try.underlying92 Try.underlying3 (by kernel_rfl)
theorem nag4 : NAg Try.prog 4 := NAg.mk' Try.underlying4 rfl (by kernel_rfl)
theorem pl32 : Pl Try.prog 32 [(0, 1), (1, 1), (2, 1), (3, 1), (4, 1)] [.int .i64 0, .int .i64 0, .int .i64 0, .slice none 0 0, .slice none 0 0] := Pl.str Try.underlying32 (by kernel_rfl) (by kernel_rfl)
theorem pl34 : Pl Try.prog 34 [(0, 5), (5, 1), (6, 1), (7, 1)] [.int .i64 0, .int .i64 0, .int .i64 0, .slice none 0 0, .slice none 0 0, .slice none 0 0, .slice none 0 0, .int .i64 0] := Pl.str Try.underlying34 (by kernel_rfl) (by kernel_rfl)
theorem pl90 : Pl Try.prog 90 [(0, 1), (1, 1), (2, 1)] [.slice none 0 0, .int .i64 0, .int .i64 0] := Pl.str Try.underlying90 (by kernel_rfl) (by kernel_rfl)
theorem sl29 : Sl Try.prog 29 4 1 := Sl.mk' Try.underlying29 (by kernel_rfl)
theorem zr4 : Zr Try.prog rB 4 1 false := Zr.mk' (v := .bool false) (by kernel_rfl) (by kernel_rfl) (by kernel_rfl) (fun _ => rfl)
theorem zz34 : (Try.prog.info? 34).bind (·.zero) = some (.agg #[.int .i64 0, .int .i64 0, .int .i64 0, .slice none 0 0, .slice none 0 0, .slice none 0 0, .slice none 0 0, .int .i64 0]) := by kernel_rfl
noncomputable def m_generate_Generate_l3 (p1 : List Int) (o106 : (List (Int × List Int)) × (List (Int × List (Int × Int × Int)))) (st187 : Int × (List (Int × Int)) × Int × Int) : Option ((Int × (List (Int × Int)) × Int × Int) ⊕ ((List (Int × Int)) × Int × Int)) :=
  if decide (st187.1 < (p1.length : Int)) then
    (idx p1 st187.1).bind fun x241 =>
    (m_generate_assembler_output st187.2 st187.1).bind fun r247 =>
    (m_generate_assembler_command st187.2 r247 (mgetD [] o106.1 x241)).bind fun r255 =>
    some (.inl (W (st187.1 + 1), r255))
  else
    some (.inr st187.2)
noncomputable def m_generate_Generate_l2 (p0 : List Int × Int × List Int × (List (Int × Int × Int))) (p1 : List Int) (o106 : (List (Int × List Int)) × (List (Int × List (Int × Int × Int)))) (st150 : Int × (List (Int × Int)) × Int × Int) : Option ((Int × (List (Int × Int)) × Int × Int) ⊕ ((List (Int × Int)) × Int × Int)) :=
  if decide (st150.1 < (p0.1.length : Int)) then
    (idx p0.1 st150.1).bind fun x262 =>
    (m_generate_assembler_memory st150.2 p0.2.1).bind fun r270 =>
    (m_generate_assembler_output st150.2 (p1.length : Int)).bind fun r277 =>
    (m_generate_assembler_event st150.2 st150.1 r270 r277 (mgetD [] o106.2 x262)).bind fun r285 =>
    some (.inl (W (st150.1 + 1), r285))
  else
    some (.inr st150.2)
noncomputable def m_generate_Generate_l1 (p0 : List Int × Int × List Int × (List (Int × Int × Int))) (st106 : Int × (List (Int × List Int)) × (List (Int × List (Int × Int × Int)))) : Option ((Int × (List (Int × List Int)) × (List (Int × List (Int × Int × Int)))) ⊕ ((List (Int × List Int)) × (List (Int × List (Int × Int × Int))))) :=
  if decide (st106.1 < (p0.2.2.2.length : Int)) then
    (idx p0.2.2.2 st106.1).bind fun x293 =>
    (app (mgetD [] st106.2.2 x293.2.1) ([x293] : List (Int × Int × Int))).bind fun x317 =>
    (app (mgetD [] st106.2.1 x293.2.1) ([x293.1] : List Int)).bind fun x333 =>
    some (.inl (W (st106.1 + 1), (mput st106.2.1 x293.2.1 x333), (mput st106.2.2 x293.2.1 x317)))
  else
    some (.inr st106.2)
/-- What generate.Generate computes. -/
noncomputable def m_generate_Generate (p0 : List Int × Int × List Int × (List (Int × Int × Int))) (p1 : List Int) : Option (((Int × Int × Int × List Bool × (List (Int × Int))) × List Int × List Int × Int) × Int) :=
  (m_automaton_Check p0).bind fun r15 =>
  if (r15 != 0) then
    some (((0, 0, 0, ([] : List Bool), ([] : List (Int × Int))), ([] : List Int), ([] : List Int), 0), r15)
  else
    (m_alphabet_CheckSet p1 32).bind fun r20 =>
    if (r20 != 0) then
      some (((0, 0, 0, ([] : List Bool), ([] : List (Int × Int))), ([] : List Int), ([] : List Int), 0), r20)
    else
      (m_alphabet_Subset p1 p0.1).bind fun r25 =>
      if (!r25) then
        some (((0, 0, 0, ([] : List Bool), ([] : List (Int × Int))), ([] : List Int), ([] : List Int), 0), 9)
      else
        if (p0.2.1 == 0) then
          some (((0, 0, 0, ([] : List Bool), ([] : List (Int × Int))), ([] : List Int), ([] : List Int), 0), 21)
        else
          if ((decide (p0.2.1 > 64)) || (decide ((p0.2.2.2.length : Int) > 256))) then
            some (((0, 0, 0, ([] : List Bool), ([] : List (Int × Int))), ([] : List Int), ([] : List Int), 0), 3)
          else
            (iter (m_generate_Generate_l1 p0) (0, ([] : List (Int × List Int)), ([] : List (Int × List (Int × Int × Int))))).bind fun o106 =>
            (iter (m_generate_Generate_l2 p0 p1 o106) (0, ([] : List (Int × Int)), (p0.1.length : Int), (W ((p1.length : Int) + 1)))).bind fun o150 =>
            (iter (m_generate_Generate_l3 p1 o106) (0, o150)).bind fun o187 =>
            (mkL (W (p0.2.1 + 1)) false).bind fun x194 =>
            (idx x194 0).bind fun x198 =>
            (upd x194 0 true).bind fun x200 =>
            (m_slices_Clone_int p0.1).bind fun r222 =>
            (m_slices_Clone_int p1).bind fun r228 =>
            some (((o187.2.1, o187.2.2, (x200.length : Int), x200, o187.1), r222, r228, p0.2.1), 0)
set_option maxRecDepth 100000 in
set_option maxHeartbeats 8000000 in
theorem m_generate_Generate_c {s : Sig} {p0 : List Int × Int × List Int × (List (Int × Int × Int))} {p1 : List Int} {a1 : Option Addr} {c1 : Nat} {a2 : Option Addr} {c2 : Nat} {a3 : Option Addr} {c3 : Nat} {a4 : Option Addr} {c4 : Nat} {u0 : Nat} {u1 : Nat} {u2 : Nat} {u3 : Nat} {r : ((Int × Int × Int × List Bool × (List (Int × Int))) × List Int × List Int × Int) × Int} (h1 : RdL (rK .i64) s a1 c1 p0.1) (h2 : RdL (rK .i64) s a2 c2 p0.2.2.1) (h3 : RdL (rP (rK .i64) (rP (rK .i64) (rK .i64))) s a3 c3 p0.2.2.2) (h4 : RdL (rK .i64) s a4 c4 p1) (hm : m_generate_Generate p0 p1 = some r) :
    Calls Try.prog 12 #[.agg #[.slice a1 p0.1.length c1, .int .i64 p0.2.1, .slice a2 p0.2.2.1.length c2, .slice a3 p0.2.2.2.length c3], .slice a4 p1.length c4] s.w (RetS No s fun v s' => ∃ (a5 : Option Addr) (c5 : Nat) (a6 : Option Addr) (c6 : Nat) (a7 : Option Addr) (c7 : Nat) (a8 : Option Addr) (c8 : Nat), v = .tuple #[.agg #[.int .i64 r.1.1.1, .int .i64 r.1.1.2.1, .int .i64 r.1.1.2.2.1, .slice a5 r.1.1.2.2.2.1.length c5, .slice a6 r.1.1.2.2.2.2.length c6, .slice a7 r.1.2.1.length c7, .slice a8 r.1.2.2.1.length c8, .int .i64 r.1.2.2.2], .int .i64 r.2] ∧ RowT rB s' u0 4 a5 c5 r.1.1.2.2.2.1 ∧ RowT (rP (rK .i64) (rK .i64)) s' u1 119 a6 c6 r.1.1.2.2.2.2 ∧ RowT (rK .i64) s' u2 3 a7 c7 r.1.2.1 ∧ RowT (rK .i64) s' u3 3 a8 c8 r.1.2.2.1) := by
 unfold m_generate_Generate at hm
 obtain ⟨N, hN, hNb⟩ := s.fresh
 have m0 : Mv (Up N No) s s := Mv.refl _ _
 refine E.entry Try.func12 rfl Try.ntmps12 rfl rfl (E.seq (E.reg (L.box (N + 0) Wt.no rfl rfl rfl fun b9 s10 m11 bx9 => ?_)))
 replace m0 := m0.trans m11.no
 replace h4 := h4.mono (m11.le no_No)
 replace h1 := h1.mono (m11.le no_No)
 replace h2 := h2.mono (m11.le no_No)
 replace h3 := h3.mono (m11.le no_No)
 refine L.al (N + 1) zz34 rfl Wt.no rfl fun b12 s13 m14 bx12 => ?_
 replace m0 := m0.trans m14.no
 replace h4 := h4.mono (m14.le no_No)
 replace bx9 := bx9.mv m14 no_No
 replace h1 := h1.mono (m14.le no_No)
 replace h2 := h2.mono (m14.le no_No)
 replace h3 := h3.mono (m14.le no_No)
 refine L.as Wt.no rfl rfl (L.nil (X.seqN (E.seq (E.seq (E.reg (L.lg (j := 0) (cs := [.slice a1 p0.1.length c1, .int .i64 p0.2.1, .slice a2 p0.2.2.1.length c2, .slice a3 p0.2.2.2.length c3]) bx9.mem ag26 Wt.no rfl rfl rfl rfl rfl ?_))))))
 obtain ⟨r15, er15, hm⟩ := bindS hm
 refine L.ca cf33 rfl rfl Wt.no rfl (m_automaton_Check_c (s := s13) (p0 := p0) h1 h2 h3 er15) rfl ?_
 rintro _ s16 m17 rfl
 replace m0 := m0.trans m17.no
 replace h4 := h4.mono (m17.le no_No)
 replace bx9 := bx9.mv m17 no_No
 replace h1 := h1.mono (m17.le no_No)
 replace h2 := h2.mono (m17.le no_No)
 replace h3 := h3.mono (m17.le no_No)
 replace bx12 := bx12.mv m17 no_No
 refine L.as Wt.no rfl rfl (L.nil (X.seqN (E.seq (E.reg (L.mv Wt.no rfl rfl (L.bi Wt.no rfl rfl rfl rfl (L.nil (X.seqN ?_))))))))
 rcases ifS hm with ⟨hc, hm⟩ | ⟨hc, hm⟩
 ·refine E.cT rfl hc (E.seq (E.reg (L.bu (cs := [.int .i64 0, .int .i64 0, .int .i64 0, .slice none 0 0, .slice none 0 0, .slice none 0 0, .slice none 0 0, .int .i64 0]) pl34 Wt.no rfl rfl rfl (L.mv Wt.no rfl rfl (L.st (c := [.int .i64 0, .int .i64 0, .int .i64 0, .slice none 0 0, .slice none 0 0, .slice none 0 0, .slice none 0 0, .int .i64 0]) (cs' := #[.int .i64 0, .int .i64 0, .int .i64 0, .slice none 0 0, .slice none 0 0, .slice none 0 0, .slice none 0 0, .int .i64 0]) bx12 ag34.sz Wt.no rfl rfl rfl rfl rfl (Nat.le_of_ble_eq_true rfl) rfl fun s18 m19 bx12 => ?_)))))
  replace m0 := m0.trans (m19.one up)
  refine L.as Wt.no rfl rfl (L.nil (X.seqN (E.ret (X.seqR ?_))))
  obtain rfl := Option.some.inj hm
  exact X.rt (.inl rfl) Try.results12 (Rs.cell rfl bx12 ag34 rfl (Rs.tmp rfl Rs.nil)) rfl ⟨_, (s18).ren N (fun _ => 0), rfl, rfl, m0.ren hNb, ⟨none, 0, none, 0, none, 0, none, 0, rfl, RowT.nil, RowT.nil, RowT.nil, RowT.nil⟩⟩
 ·refine E.cF rfl hc (E.skip (X.seqN (E.seq (E.seq (E.reg (L.mv Wt.no rfl rfl ?_))))))
  obtain ⟨r20, er20, hm⟩ := bindS hm
  refine L.ca cf28 rfl rfl Wt.no rfl (m_alphabet_CheckSet_c (s := s16) (p0 := p1) (p1 := 32) h4 er20) rfl ?_
  rintro _ s21 m22 rfl
  replace m0 := m0.trans m22.no
  replace h4 := h4.mono (m22.le no_No)
  replace bx9 := bx9.mv m22 no_No
  replace h1 := h1.mono (m22.le no_No)
  replace h2 := h2.mono (m22.le no_No)
  replace h3 := h3.mono (m22.le no_No)
  replace bx12 := bx12.mv m22 no_No
  refine L.as Wt.no rfl rfl (L.nil (X.seqN (E.seq (E.reg (L.mv Wt.no rfl rfl (L.bi Wt.no rfl rfl rfl rfl (L.nil (X.seqN ?_))))))))
  rcases ifS hm with ⟨hc, hm⟩ | ⟨hc, hm⟩
  ·refine E.cT rfl hc (E.seq (E.reg (L.bu (cs := [.int .i64 0, .int .i64 0, .int .i64 0, .slice none 0 0, .slice none 0 0, .slice none 0 0, .slice none 0 0, .int .i64 0]) pl34 Wt.no rfl rfl rfl (L.mv Wt.no rfl rfl (L.st (c := [.int .i64 0, .int .i64 0, .int .i64 0, .slice none 0 0, .slice none 0 0, .slice none 0 0, .slice none 0 0, .int .i64 0]) (cs' := #[.int .i64 0, .int .i64 0, .int .i64 0, .slice none 0 0, .slice none 0 0, .slice none 0 0, .slice none 0 0, .int .i64 0]) bx12 ag34.sz Wt.no rfl rfl rfl rfl rfl (Nat.le_of_ble_eq_true rfl) rfl fun s23 m24 bx12 => ?_)))))
   replace m0 := m0.trans (m24.one up)
   refine L.as Wt.no rfl rfl (L.nil (X.seqN (E.ret (X.seqR ?_))))
   obtain rfl := Option.some.inj hm
   exact X.rt (.inl rfl) Try.results12 (Rs.cell rfl bx12 ag34 rfl (Rs.tmp rfl Rs.nil)) rfl ⟨_, (s23).ren N (fun _ => 0), rfl, rfl, m0.ren hNb, ⟨none, 0, none, 0, none, 0, none, 0, rfl, RowT.nil, RowT.nil, RowT.nil, RowT.nil⟩⟩
  ·refine E.cF rfl hc (E.skip (X.seqN (E.seq (E.block (E.seq (E.reg (L.mv Wt.no rfl rfl (L.fa fa26_0 Wt.no rfl rfl (L.ld (j := 0) bx9.mem nag23 Wt.no rfl rfl rfl rfl ?_)))))))))
   obtain ⟨r25, er25, hm⟩ := bindS hm
   refine L.ca cf39 rfl rfl Wt.no rfl (m_alphabet_Subset_c (s := s21) (p0 := p1) (p1 := p0.1) h4 h1 er25) rfl ?_
   rintro _ s26 m27 rfl
   replace m0 := m0.trans m27.no
   replace h4 := h4.mono (m27.le no_No)
   replace bx9 := bx9.mv m27 no_No
   replace h1 := h1.mono (m27.le no_No)
   replace h2 := h2.mono (m27.le no_No)
   replace h3 := h3.mono (m27.le no_No)
   replace bx12 := bx12.mv m27 no_No
   refine L.not Wt.no rfl rfl (L.as Wt.no rfl rfl (L.nil (X.seqN ?_)))
   rcases ifS hm with ⟨hc, hm⟩ | ⟨hc, hm⟩
   ·refine E.cT rfl hc (E.seq (E.reg (L.bu (cs := [.int .i64 0, .int .i64 0, .int .i64 0, .slice none 0 0, .slice none 0 0, .slice none 0 0, .slice none 0 0, .int .i64 0]) pl34 Wt.no rfl rfl rfl (L.st (c := [.int .i64 0, .int .i64 0, .int .i64 0, .slice none 0 0, .slice none 0 0, .slice none 0 0, .slice none 0 0, .int .i64 0]) (cs' := #[.int .i64 0, .int .i64 0, .int .i64 0, .slice none 0 0, .slice none 0 0, .slice none 0 0, .slice none 0 0, .int .i64 0]) bx12 ag34.sz Wt.no rfl rfl rfl rfl rfl (Nat.le_of_ble_eq_true rfl) rfl fun s28 m29 bx12 => ?_))))
    replace m0 := m0.trans (m29.one up)
    refine L.as Wt.no rfl rfl (L.nil (X.seqN (E.ret (X.blkR (X.seqR ?_)))))
    obtain rfl := Option.some.inj hm
    exact X.rt (.inl rfl) Try.results12 (Rs.cell rfl bx12 ag34 rfl (Rs.tmp rfl Rs.nil)) rfl ⟨_, (s28).ren N (fun _ => 0), rfl, rfl, m0.ren hNb, ⟨none, 0, none, 0, none, 0, none, 0, rfl, RowT.nil, RowT.nil, RowT.nil, RowT.nil⟩⟩
   ·refine E.cF rfl hc (E.seq (E.reg (L.fa fa26_1 Wt.no rfl rfl (L.ld (j := 1) bx9.mem nag3 Wt.no rfl rfl rfl rfl (L.bi Wt.no rfl rfl rfl rfl (L.as Wt.no rfl rfl (L.nil (X.seqN ?_))))))))
    rcases ifS hm with ⟨hc, hm⟩ | ⟨hc, hm⟩
    ·refine E.cT rfl hc (E.seq (E.reg (L.bu (cs := [.int .i64 0, .int .i64 0, .int .i64 0, .slice none 0 0, .slice none 0 0, .slice none 0 0, .slice none 0 0, .int .i64 0]) pl34 Wt.no rfl rfl rfl (L.st (c := [.int .i64 0, .int .i64 0, .int .i64 0, .slice none 0 0, .slice none 0 0, .slice none 0 0, .slice none 0 0, .int .i64 0]) (cs' := #[.int .i64 0, .int .i64 0, .int .i64 0, .slice none 0 0, .slice none 0 0, .slice none 0 0, .slice none 0 0, .int .i64 0]) bx12 ag34.sz Wt.no rfl rfl rfl rfl rfl (Nat.le_of_ble_eq_true rfl) rfl fun s30 m31 bx12 => ?_))))
     replace m0 := m0.trans (m31.one up)
     refine L.as Wt.no rfl rfl (L.nil (X.seqN (E.ret (X.blkR (X.seqR ?_)))))
     obtain rfl := Option.some.inj hm
     exact X.rt (.inl rfl) Try.results12 (Rs.cell rfl bx12 ag34 rfl (Rs.tmp rfl Rs.nil)) rfl ⟨_, (s30).ren N (fun _ => 0), rfl, rfl, m0.ren hNb, ⟨none, 0, none, 0, none, 0, none, 0, rfl, RowT.nil, RowT.nil, RowT.nil, RowT.nil⟩⟩
    ·refine E.cF rfl hc (E.seq (E.reg (L.fa fa26_1 Wt.no rfl rfl (L.ld (j := 1) bx9.mem nag3 Wt.no rfl rfl rfl rfl (L.bi Wt.no rfl rfl rfl rfl (L.mv Wt.no rfl rfl (L.cut 5 (fun e w => ∃ (v32 : Bool), ((decide (p0.2.1 > 64)) || (decide ((p0.2.2.2.length : Int) > 256))) = v32 ∧ e = (51, .bool v32) :: [(4, .pointer (some ⟨b12, 0, none⟩)), (2, .pointer (some ⟨b9, 0, none⟩)), (1, .slice a4 p1.length c4)] ∧ w = s26.w) ?_ ?_)))))))
     ·rintro _ _ ⟨v32, rfl, rfl, rfl⟩
      refine L.as Wt.no rfl rfl (L.nil (X.seqN ?_))
      rcases ifS hm with ⟨hc, hm⟩ | ⟨hc, hm⟩
      ·refine E.cT rfl hc (E.seq (E.reg (L.bu (cs := [.int .i64 0, .int .i64 0, .int .i64 0, .slice none 0 0, .slice none 0 0, .slice none 0 0, .slice none 0 0, .int .i64 0]) pl34 Wt.no rfl rfl rfl (L.st (c := [.int .i64 0, .int .i64 0, .int .i64 0, .slice none 0 0, .slice none 0 0, .slice none 0 0, .slice none 0 0, .int .i64 0]) (cs' := #[.int .i64 0, .int .i64 0, .int .i64 0, .slice none 0 0, .slice none 0 0, .slice none 0 0, .slice none 0 0, .int .i64 0]) bx12 ag34.sz Wt.no rfl rfl rfl rfl rfl (Nat.le_of_ble_eq_true rfl) rfl fun s33 m34 bx12 => ?_))))
       replace m0 := m0.trans (m34.one up)
       refine L.as Wt.no rfl rfl (L.nil (X.seqN (E.ret (X.blkR (X.seqR ?_)))))
       obtain rfl := Option.some.inj hm
       exact X.rt (.inl rfl) Try.results12 (Rs.cell rfl bx12 ag34 rfl (Rs.tmp rfl Rs.nil)) rfl ⟨_, (s33).ren N (fun _ => 0), rfl, rfl, m0.ren hNb, ⟨none, 0, none, 0, none, 0, none, 0, rfl, RowT.nil, RowT.nil, RowT.nil, RowT.nil⟩⟩
      ·refine E.cF rfl hc (E.skip (X.blkN (X.seqN (E.seq (E.reg (L.fa fa26_0 Wt.no rfl rfl (L.ld (j := 0) bx9.mem nag23 Wt.no rfl rfl rfl rfl (L.len sl23 Wt.no rfl rfl (L.mv Wt.no rfl rfl (L.len sl23 Wt.no rfl rfl (L.bi Wt.no rfl rfl rfl rfl (L.bu (cs := [.slice none 0 0, .int .i64 (p0.1.length : Int), .int .i64 (W ((p1.length : Int) + 1))]) pl90 Wt.no rfl rfl rfl (L.box (N + 2) Wt.no rfl rfl rfl fun b35 s36 m37 bx35 => ?_)))))))))))))
       replace m0 := m0.trans m37.no
       replace h4 := h4.mono (m37.le no_No)
       replace bx9 := bx9.mv m37 no_No
       replace h1 := h1.mono (m37.le no_No)
       replace h2 := h2.mono (m37.le no_No)
       replace h3 := h3.mono (m37.le no_No)
       replace bx12 := bx12.mv m37 no_No
       refine L.as Wt.no rfl rfl (L.nil (X.seqN (E.seq (E.reg (L.mm (r := (rP (rK .i64) (rP (rK .i64) (rK .i64)))) (N := N) (q := 0) (U := 28) (N + 3) rfl Wt.no fun b38 s39 m40 mp38 => ?_)))))
       replace m0 := m0.trans m40.no
       replace h4 := h4.mono (m40.le no_No)
       replace bx9 := bx9.mv m40 no_No
       replace h1 := h1.mono (m40.le no_No)
       replace h2 := h2.mono (m40.le no_No)
       replace h3 := h3.mono (m40.le no_No)
       replace bx12 := bx12.mv m40 no_No
       replace bx35 := bx35.mv m40 no_No
       refine L.mm (r := (rK .i64)) (N := N) (q := 1) (U := 3) (N + 4) rfl Wt.no fun b41 s42 m43 mp41 => ?_
       replace m0 := m0.trans m43.no
       replace h4 := h4.mono (m43.le no_No)
       replace mp38 := mp38.mv m43 no_No no_No (fun _ _ => no_No)
       replace bx9 := bx9.mv m43 no_No
       replace h1 := h1.mono (m43.le no_No)
       replace h2 := h2.mono (m43.le no_No)
       replace h3 := h3.mono (m43.le no_No)
       replace bx12 := bx12.mv m43 no_No
       replace bx35 := bx35.mv m43 no_No
       refine L.as Wt.no rfl rfl (L.as Wt.no rfl rfl (L.nil (X.seqN (E.seq (E.seq (E.reg (L.fa fa26_3 Wt.no rfl rfl (L.ld (j := 3) bx9.mem nag24 Wt.no rfl rfl rfl rfl (L.len sl24 Wt.no rfl rfl (L.mv Wt.no rfl rfl (L.nil (X.seqN (E.block ?_)))))))))))))
       obtain ⟨o106, eo106, hm⟩ := bindS hm
       refine E.cut (x := .exit 1) (fun e w => ∃ (s110 : Sig), Mv (Up N No) s s110 ∧ MapW (rK .i64) s110 N 1 (N + 4) 3 b41 o106.1 none ∧ MapW (rP (rK .i64) (rP (rK .i64) (rK .i64))) s110 N 0 (N + 3) 28 b38 o106.2 none ∧ RdL (rK .i64) s110 a4 c4 p1 ∧ RdL (rK .i64) s110 a1 c1 p0.1 ∧ RdL (rK .i64) s110 a2 c2 p0.2.2.1 ∧ RdL (rP (rK .i64) (rP (rK .i64) (rK .i64))) s110 a3 c3 p0.2.2.2 ∧ Bx s110 (N + 0) b9 #[.slice a1 p0.1.length c1, .int .i64 p0.2.1, .slice a2 p0.2.2.1.length c2, .slice a3 p0.2.2.2.length c3] 26 ∧ Bx s110 (N + 1) b12 #[.int .i64 0, .int .i64 0, .int .i64 0, .slice none 0 0, .slice none 0 0, .slice none 0 0, .slice none 0 0, .int .i64 0] 34 ∧ Bx s110 (N + 2) b35 #[.slice none 0 0, .int .i64 (p0.1.length : Int), .int .i64 (W ((p1.length : Int) + 1))] 90 ∧ e = [(10, .map (some b41)), (9, .map (some b38)), (8, .pointer (some ⟨b35, 0, none⟩)), (4, .pointer (some ⟨b12, 0, none⟩)), (2, .pointer (some ⟨b9, 0, none⟩)), (1, .slice a4 p1.length c4)] ∧ w = s110.w) ?_ ?_
       ·rintro _ _ ⟨s110, m0, mp41, mp38, h4, h1, h2, h3, bx9, bx12, bx35, rfl, rfl⟩
        refine X.blkE (X.seqN (E.seq (E.seq (E.reg (L.fa fa26_0 Wt.no rfl rfl (L.ld (j := 0) bx9.mem nag23 Wt.no rfl rfl rfl rfl (L.len sl23 Wt.no rfl rfl (L.mv Wt.no rfl rfl (L.nil (X.seqN (E.block ?_)))))))))))
        obtain ⟨o150, eo150, hm⟩ := bindS hm
        refine E.cut (x := .exit 3) (fun e w => ∃ (s156 : Sig) (a152 : Option Addr) (c152 : Nat), Mv (Up N No) s s156 ∧ MapR (rL (rK .i64)) s156 b41 o106.1 ∧ RdL (rK .i64) s156 a4 c4 p1 ∧ RdL (rK .i64) s156 a1 c1 p0.1 ∧ RdL (rK .i64) s156 a2 c2 p0.2.2.1 ∧ RdL (rP (rK .i64) (rP (rK .i64) (rK .i64))) s156 a3 c3 p0.2.2.2 ∧ RowT (rP (rK .i64) (rK .i64)) s156 (N + 6) 119 a152 c152 o150.1 ∧ Bx s156 (N + 0) b9 #[.slice a1 p0.1.length c1, .int .i64 p0.2.1, .slice a2 p0.2.2.1.length c2, .slice a3 p0.2.2.2.length c3] 26 ∧ Bx s156 (N + 1) b12 #[.int .i64 0, .int .i64 0, .int .i64 0, .slice none 0 0, .slice none 0 0, .slice none 0 0, .slice none 0 0, .int .i64 0] 34 ∧ Bx s156 (N + 2) b35 #[.slice a152 o150.1.length c152, .int .i64 o150.2.1, .int .i64 o150.2.2] 90 ∧ e = [(10, .map (some b41)), (8, .pointer (some ⟨b35, 0, none⟩)), (4, .pointer (some ⟨b12, 0, none⟩)), (2, .pointer (some ⟨b9, 0, none⟩)), (1, .slice a4 p1.length c4)] ∧ w = s156.w) ?_ ?_
        ·rintro _ _ ⟨s156, a152, c152, m0, mp41, h4, h1, h2, h3, h152, bx9, bx12, bx35, rfl, rfl⟩
         refine X.blkE (X.seqN (E.seq (E.seq (E.reg (L.mv Wt.no rfl rfl (L.len sl23 Wt.no rfl rfl (L.mv Wt.no rfl rfl (L.nil (X.seqN (E.block ?_))))))))))
         obtain ⟨o187, eo187, hm⟩ := bindS hm
         refine E.cut (x := .exit 5) (fun e w => ∃ (s193 : Sig) (a189 : Option Addr) (c189 : Nat), Mv (Up N No) s s193 ∧ RdL (rK .i64) s193 a4 c4 p1 ∧ RdL (rK .i64) s193 a1 c1 p0.1 ∧ RdL (rK .i64) s193 a2 c2 p0.2.2.1 ∧ RdL (rP (rK .i64) (rP (rK .i64) (rK .i64))) s193 a3 c3 p0.2.2.2 ∧ RowT (rP (rK .i64) (rK .i64)) s193 (N + 6) 119 a189 c189 o187.1 ∧ Bx s193 (N + 0) b9 #[.slice a1 p0.1.length c1, .int .i64 p0.2.1, .slice a2 p0.2.2.1.length c2, .slice a3 p0.2.2.2.length c3] 26 ∧ Bx s193 (N + 1) b12 #[.int .i64 0, .int .i64 0, .int .i64 0, .slice none 0 0, .slice none 0 0, .slice none 0 0, .slice none 0 0, .int .i64 0] 34 ∧ Bx s193 (N + 2) b35 #[.slice a189 o187.1.length c189, .int .i64 o187.2.1, .int .i64 o187.2.2] 90 ∧ e = [(8, .pointer (some ⟨b35, 0, none⟩)), (4, .pointer (some ⟨b12, 0, none⟩)), (2, .pointer (some ⟨b9, 0, none⟩)), (1, .slice a4 p1.length c4)] ∧ w = s193.w) ?_ ?_
         ·rintro _ _ ⟨s193, a189, c189, m0, h4, h1, h2, h3, h189, bx9, bx12, bx35, rfl, rfl⟩
          refine X.blkE (X.seqN (E.seq (E.reg (L.fa fa26_1 Wt.no rfl rfl (L.ld (j := 1) bx9.mem nag3 Wt.no rfl rfl rfl rfl (L.bi Wt.no rfl rfl rfl rfl ?_))))))
          obtain ⟨x194, ex194, hm⟩ := bindS hm
          refine L.mk (z := false) (N + 7) Try.underlying29 zr4 rfl Wt.no rfl rfl ex194 rfl fun b195 s196 m197 h195 => ?_
          replace m0 := m0.trans m197.no
          replace h4 := h4.mono (m197.le no_No)
          replace bx9 := bx9.mv m197 no_No
          replace h1 := h1.mono (m197.le no_No)
          replace bx12 := bx12.mv m197 no_No
          replace bx35 := bx35.mv m197 no_No
          replace h189 := h189.mv m197 no_No no_No
          refine L.as Wt.no rfl rfl (L.nil (X.seqN (E.seq (E.reg (L.mv Wt.no rfl rfl ?_)))))
          obtain ⟨x198, ex198, hm⟩ := bindS hm
          refine L.ir (r := rB) sl29 h195 Wt.no rfl rfl ex198 rfl fun b199 o199 cc199 me199 rd199 sp199 => ?_
          obtain rfl := rd199
          obtain ⟨x200, ex200, hm⟩ := bindS hm
          have elx200 := upd_len ex200
          refine L.su (fo := 0) (c := [.bool true]) (z := true) h195 sp199 ex198 ex200 (tgp hN) nag4.sz Wt.no rfl rfl rfl rfl rfl rfl (fun c0 hc0 => by obtain rfl := hc0; exact rfl) fun s201 m202 h195 => ?_
          replace m0 := m0.trans (m202.one up)
          replace h4 := h4.mono (m202.le (tg0 hN))
          replace bx9 := bx9.mv m202 (tgN (by decide))
          replace h1 := h1.mono (m202.le (tg0 hN))
          replace bx12 := bx12.mv m202 (tgN (by decide))
          replace bx35 := bx35.mv m202 (tgN (by decide))
          replace h189 := h189.mv m202 (tgN (by decide)) (tg0 hN)
          refine L.reval (d := 17) rfl elx200 (L.nil (X.seqN (E.seq ?_)))
          obtain ⟨r222, er222, hm⟩ := bindS hm
          obtain ⟨r228, er228, hm⟩ := bindS hm
          refine E.draw [[], [0], [0, 1], [0, 1, 2], [], [4], [4, 5], [4, 5, 6], [], [8], [], [], [11], [11, 12], [11, 12, 13], [0, 1, 2, 3, 4, 5, 6, 7, 8, 9, 10, 11, 12, 13, 14], [], [16], [16, 17], [], [16, 17, 18, 19], [], [21], [0, 1, 2, 3, 4, 5, 6, 7, 8, 9, 10, 11, 12, 13, 14, 15, 16, 17, 18, 19, 20, 21, 22], [0, 1, 2, 3, 4, 5, 6, 7, 8, 9, 10, 11, 12, 13, 14, 15, 16, 17, 18, 19, 20, 21, 22, 23], [0, 1, 2, 3, 4, 5, 6, 7, 8, 9, 10, 11, 12, 13, 14, 15, 16, 17, 18, 19, 20, 21, 22, 23, 24]] (fun D e sx => Mv (One (N + 1)) s201 sx ∧ Sub [(17, .slice (some ⟨b195, 0, none⟩) x200.length x194.length), (8, .pointer (some ⟨b35, 0, none⟩)), (4, .pointer (some ⟨b12, 0, none⟩)), (2, .pointer (some ⟨b9, 0, none⟩)), (1, .slice a4 p1.length c4)] e ∧ (D 0 = true → (Env.get e 139 = some (.pointer (some ⟨b35, 0, none⟩)))) ∧ (D 1 = true → (Env.get e 140 = some (.pointer (some ⟨b35, 0, none⟩)))) ∧ (D 2 = true → (Env.get e 141 = some (.pointer (some ⟨b35, 1, none⟩)))) ∧ (D 3 = true → (Env.get e 142 = some (.int .i64 o187.2.1))) ∧ (D 4 = true → (Env.get e 143 = some (.pointer (some ⟨b35, 0, none⟩)))) ∧ (D 5 = true → (Env.get e 144 = some (.pointer (some ⟨b35, 0, none⟩)))) ∧ (D 6 = true → (Env.get e 145 = some (.pointer (some ⟨b35, 2, none⟩)))) ∧ (D 7 = true → (Env.get e 146 = some (.int .i64 o187.2.2))) ∧ (D 8 = true → (Env.get e 147 = some (.slice (some ⟨b195, 0, none⟩) x200.length x194.length))) ∧ (D 9 = true → (Env.get e 148 = some (.int .i64 (x200.length : Int)))) ∧ (D 10 = true → (Env.get e 149 = some (.slice (some ⟨b195, 0, none⟩) x200.length x194.length))) ∧ (D 11 = true → (Env.get e 150 = some (.pointer (some ⟨b35, 0, none⟩)))) ∧ (D 12 = true → (Env.get e 151 = some (.pointer (some ⟨b35, 0, none⟩)))) ∧ (D 13 = true → (Env.get e 152 = some (.pointer (some ⟨b35, 0, none⟩)))) ∧ (D 14 = true → (Env.get e 153 = some (.slice a189 o187.1.length c189))) ∧ (D 15 = true → (Env.get e 154 = some (.agg #[.int .i64 o187.2.1, .int .i64 o187.2.2, .int .i64 (x200.length : Int), .slice (some ⟨b195, 0, none⟩) x200.length x194.length, .slice a189 o187.1.length c189]))) ∧ (D 16 = true → (Env.get e 155 = some (.pointer (some ⟨b9, 0, none⟩)))) ∧ (D 17 = true → (Env.get e 156 = some (.slice a1 p0.1.length c1))) ∧ (D 18 = true → (∃ (a225 : Option Addr) (c225 : Nat), Env.get e 157 = some (.slice a225 r222.length c225) ∧ RowT (rK .i64) sx (N + 8) 3 a225 c225 r222)) ∧ (D 19 = true → (Env.get e 158 = some (.slice a4 p1.length c4))) ∧ (D 20 = true → (∃ (a231 : Option Addr) (c231 : Nat), Env.get e 159 = some (.slice a231 r228.length c231) ∧ RowT (rK .i64) sx (N + 9) 3 a231 c231 r228)) ∧ (D 21 = true → (Env.get e 160 = some (.pointer (some ⟨b9, 1, none⟩)))) ∧ (D 22 = true → (Env.get e 161 = some (.int .i64 p0.2.1))) ∧ (D 23 = true → ∀ (a225 : Option Addr) (c225 : Nat) (a231 : Option Addr) (c231 : Nat), Env.get e 157 = some (.slice a225 r222.length c225) → Env.get e 159 = some (.slice a231 r228.length c231) → (Env.get e 162 = some (.agg #[.int .i64 o187.2.1, .int .i64 o187.2.2, .int .i64 (x200.length : Int), .slice (some ⟨b195, 0, none⟩) x200.length x194.length, .slice a189 o187.1.length c189, .slice a225 r222.length c225, .slice a231 r228.length c231, .int .i64 p0.2.1]))) ∧ (D 25 = true → (Env.get e 5 = some (.int .i64 0))) ∧ (D 24 = false → Bx sx (N + 1) b12 #[.int .i64 0, .int .i64 0, .int .i64 0, .slice none 0 0, .slice none 0 0, .slice none 0 0, .slice none 0 0, .int .i64 0] 34) ∧ (D 24 = true → ∀ (a225 : Option Addr) (c225 : Nat) (a231 : Option Addr) (c231 : Nat), Env.get e 157 = some (.slice a225 r222.length c225) → Env.get e 159 = some (.slice a231 r228.length c231) → Bx sx (N + 1) b12 #[.int .i64 o187.2.1, .int .i64 o187.2.2, .int .i64 (x200.length : Int), .slice (some ⟨b195, 0, none⟩) x200.length x194.length, .slice a189 o187.1.length c189, .slice a225 r222.length c225, .slice a231 r228.length c231, .int .i64 p0.2.1] 34)) (by kernel_rfl) (by kernel_rfl) (by kernel_rfl) ?_ ?_ ?_
          ·intro sz mz
           exact ⟨mz.no, (Sub.rf rfl), nofun, nofun, nofun, nofun, nofun, nofun, nofun, nofun, nofun, nofun, nofun, nofun, nofun, nofun, nofun, nofun, nofun, nofun, nofun, nofun, nofun, nofun, nofun, nofun, nofun, fun _ => bx12.mv mz no_No, nofun⟩
          ·refine ⟨?_, ?_, ?_, ?_, ?_, ?_, ?_, ?_, ?_, ?_, ?_, ?_, ?_, ?_, ?_, ?_, ?_, ?_, ?_, ?_, ?_, ?_, ?_, ?_, ?_, ?_, trivial⟩
           ·rintro D e s203 ⟨im, ib, i0, t_⟩ hk hf ha
            have kn : Kn e [(8, .pointer (some ⟨b35, 0, none⟩))] := ⟨(ib 8 _ rfl), trivial⟩
            exact L.kns _ kn (L.mv Wt.no rfl rfl (L.nil (X.dk kn ⟨im, Sub.fresh ib rfl, fun _ => rfl, t_⟩)))
           ·rintro D e s204 ⟨im, ib, i0, i1, t_⟩ hk hf ha
            obtain ⟨d0, -⟩ := ha
            have g0_ := i0 d0
            have kn : Kn e [(139, .pointer (some ⟨b35, 0, none⟩))] := ⟨g0_, trivial⟩
            exact L.kns _ kn (L.nc Wt.no rfl rfl (L.nil (X.dk kn ⟨im, Sub.fresh ib rfl, i0, fun _ => rfl, t_⟩)))
           ·rintro D e s205 ⟨im, ib, i0, i1, i2, t_⟩ hk hf ha
            obtain ⟨d0, d1, -⟩ := ha
            have g1_ := i1 d1
            have kn : Kn e [(140, .pointer (some ⟨b35, 0, none⟩))] := ⟨g1_, trivial⟩
            exact L.kns _ kn (L.fa fa90_1 Wt.no rfl rfl (L.nil (X.dk kn ⟨im, Sub.fresh ib rfl, i0, i1, fun _ => rfl, t_⟩)))
           ·rintro D e s206 ⟨im, ib, i0, i1, i2, i3, t_⟩ hk hf ha
            obtain ⟨d0, d1, d2, -⟩ := ha
            have g2_ := i2 d2
            have bx35 := bx35.mv im (tgN (by decide))
            have kn : Kn e [(141, .pointer (some ⟨b35, 1, none⟩))] := ⟨g2_, trivial⟩
            exact L.kns _ kn (L.ld (j := 1) bx35.mem nag3 Wt.no rfl rfl rfl rfl (L.nil (X.dk kn ⟨im, Sub.fresh ib rfl, i0, i1, i2, fun _ => rfl, t_⟩)))
           ·rintro D e s207 ⟨im, ib, i0, i1, i2, i3, i4, t_⟩ hk hf ha
            have kn : Kn e [(8, .pointer (some ⟨b35, 0, none⟩))] := ⟨(ib 8 _ rfl), trivial⟩
            exact L.kns _ kn (L.mv Wt.no rfl rfl (L.nil (X.dk kn ⟨im, Sub.fresh ib rfl, i0, i1, i2, i3, fun _ => rfl, t_⟩)))
           ·rintro D e s208 ⟨im, ib, i0, i1, i2, i3, i4, i5, t_⟩ hk hf ha
            obtain ⟨d4, -⟩ := ha
            have g4_ := i4 d4
            have kn : Kn e [(143, .pointer (some ⟨b35, 0, none⟩))] := ⟨g4_, trivial⟩
            exact L.kns _ kn (L.nc Wt.no rfl rfl (L.nil (X.dk kn ⟨im, Sub.fresh ib rfl, i0, i1, i2, i3, i4, fun _ => rfl, t_⟩)))
           ·rintro D e s209 ⟨im, ib, i0, i1, i2, i3, i4, i5, i6, t_⟩ hk hf ha
            obtain ⟨d4, d5, -⟩ := ha
            have g5_ := i5 d5
            have kn : Kn e [(144, .pointer (some ⟨b35, 0, none⟩))] := ⟨g5_, trivial⟩
            exact L.kns _ kn (L.fa fa90_2 Wt.no rfl rfl (L.nil (X.dk kn ⟨im, Sub.fresh ib rfl, i0, i1, i2, i3, i4, i5, fun _ => rfl, t_⟩)))
           ·rintro D e s210 ⟨im, ib, i0, i1, i2, i3, i4, i5, i6, i7, t_⟩ hk hf ha
            obtain ⟨d4, d5, d6, -⟩ := ha
            have g6_ := i6 d6
            have bx35 := bx35.mv im (tgN (by decide))
            have kn : Kn e [(145, .pointer (some ⟨b35, 2, none⟩))] := ⟨g6_, trivial⟩
            exact L.kns _ kn (L.ld (j := 2) bx35.mem nag3 Wt.no rfl rfl rfl rfl (L.nil (X.dk kn ⟨im, Sub.fresh ib rfl, i0, i1, i2, i3, i4, i5, i6, fun _ => rfl, t_⟩)))
           ·rintro D e s211 ⟨im, ib, i0, i1, i2, i3, i4, i5, i6, i7, i8, t_⟩ hk hf ha
            have kn : Kn e [(17, .slice (some ⟨b195, 0, none⟩) x200.length x194.length)] := ⟨(ib 17 _ rfl), trivial⟩
            exact L.kns _ kn (L.mv Wt.no rfl rfl (L.nil (X.dk kn ⟨im, Sub.fresh ib rfl, i0, i1, i2, i3, i4, i5, i6, i7, fun _ => rfl, t_⟩)))
           ·rintro D e s212 ⟨im, ib, i0, i1, i2, i3, i4, i5, i6, i7, i8, i9, t_⟩ hk hf ha
            obtain ⟨d8, -⟩ := ha
            have g8_ := i8 d8
            have kn : Kn e [(147, .slice (some ⟨b195, 0, none⟩) x200.length x194.length)] := ⟨g8_, trivial⟩
            exact L.kns _ kn (L.len sl29 Wt.no rfl rfl (L.nil (X.dk kn ⟨im, Sub.fresh ib rfl, i0, i1, i2, i3, i4, i5, i6, i7, i8, fun _ => rfl, t_⟩)))
           ·rintro D e s213 ⟨im, ib, i0, i1, i2, i3, i4, i5, i6, i7, i8, i9, i10, t_⟩ hk hf ha
            have kn : Kn e [(17, .slice (some ⟨b195, 0, none⟩) x200.length x194.length)] := ⟨(ib 17 _ rfl), trivial⟩
            exact L.kns _ kn (L.mv Wt.no rfl rfl (L.nil (X.dk kn ⟨im, Sub.fresh ib rfl, i0, i1, i2, i3, i4, i5, i6, i7, i8, i9, fun _ => rfl, t_⟩)))
           ·rintro D e s214 ⟨im, ib, i0, i1, i2, i3, i4, i5, i6, i7, i8, i9, i10, i11, t_⟩ hk hf ha
            have kn : Kn e [(8, .pointer (some ⟨b35, 0, none⟩))] := ⟨(ib 8 _ rfl), trivial⟩
            exact L.kns _ kn (L.mv Wt.no rfl rfl (L.nil (X.dk kn ⟨im, Sub.fresh ib rfl, i0, i1, i2, i3, i4, i5, i6, i7, i8, i9, i10, fun _ => rfl, t_⟩)))
           ·rintro D e s215 ⟨im, ib, i0, i1, i2, i3, i4, i5, i6, i7, i8, i9, i10, i11, i12, t_⟩ hk hf ha
            obtain ⟨d11, -⟩ := ha
            have g11_ := i11 d11
            have kn : Kn e [(150, .pointer (some ⟨b35, 0, none⟩))] := ⟨g11_, trivial⟩
            exact L.kns _ kn (L.nc Wt.no rfl rfl (L.nil (X.dk kn ⟨im, Sub.fresh ib rfl, i0, i1, i2, i3, i4, i5, i6, i7, i8, i9, i10, i11, fun _ => rfl, t_⟩)))
           ·rintro D e s216 ⟨im, ib, i0, i1, i2, i3, i4, i5, i6, i7, i8, i9, i10, i11, i12, i13, t_⟩ hk hf ha
            obtain ⟨d11, d12, -⟩ := ha
            have g12_ := i12 d12
            have kn : Kn e [(151, .pointer (some ⟨b35, 0, none⟩))] := ⟨g12_, trivial⟩
            exact L.kns _ kn (L.fa fa90_0 Wt.no rfl rfl (L.nil (X.dk kn ⟨im, Sub.fresh ib rfl, i0, i1, i2, i3, i4, i5, i6, i7, i8, i9, i10, i11, i12, fun _ => rfl, t_⟩)))
           ·rintro D e s217 ⟨im, ib, i0, i1, i2, i3, i4, i5, i6, i7, i8, i9, i10, i11, i12, i13, i14, t_⟩ hk hf ha
            obtain ⟨d11, d12, d13, -⟩ := ha
            have g13_ := i13 d13
            have bx35 := bx35.mv im (tgN (by decide))
            have kn : Kn e [(152, .pointer (some ⟨b35, 0, none⟩))] := ⟨g13_, trivial⟩
            exact L.kns _ kn (L.ld (j := 0) bx35.mem nag30 Wt.no rfl rfl rfl rfl (L.nil (X.dk kn ⟨im, Sub.fresh ib rfl, i0, i1, i2, i3, i4, i5, i6, i7, i8, i9, i10, i11, i12, i13, fun _ => rfl, t_⟩)))
           ·rintro D e s218 ⟨im, ib, i0, i1, i2, i3, i4, i5, i6, i7, i8, i9, i10, i11, i12, i13, i14, i15, t_⟩ hk hf ha
            obtain ⟨d0, d1, d2, d3, d4, d5, d6, d7, d8, d9, d10, d11, d12, d13, d14, -⟩ := ha
            have g3_ := i3 d3
            have g7_ := i7 d7
            have g9_ := i9 d9
            have g10_ := i10 d10
            have g14_ := i14 d14
            have kn : Kn e [(142, .int .i64 o187.2.1), (146, .int .i64 o187.2.2), (148, .int .i64 (x200.length : Int)), (149, .slice (some ⟨b195, 0, none⟩) x200.length x194.length), (153, .slice a189 o187.1.length c189)] := ⟨g3_, g7_, g9_, g10_, g14_, trivial⟩
            exact L.kns _ kn (L.bu (cs := [.int .i64 o187.2.1, .int .i64 o187.2.2, .int .i64 (x200.length : Int), .slice (some ⟨b195, 0, none⟩) x200.length x194.length, .slice a189 o187.1.length c189]) pl32 Wt.no rfl rfl rfl (L.nil (X.dk kn ⟨im, Sub.fresh ib rfl, i0, i1, i2, i3, i4, i5, i6, i7, i8, i9, i10, i11, i12, i13, i14, fun _ => rfl, t_⟩)))
           ·rintro D e s219 ⟨im, ib, i0, i1, i2, i3, i4, i5, i6, i7, i8, i9, i10, i11, i12, i13, i14, i15, i16, t_⟩ hk hf ha
            have kn : Kn e [(2, .pointer (some ⟨b9, 0, none⟩))] := ⟨(ib 2 _ rfl), trivial⟩
            exact L.kns _ kn (L.fa fa26_0 Wt.no rfl rfl (L.nil (X.dk kn ⟨im, Sub.fresh ib rfl, i0, i1, i2, i3, i4, i5, i6, i7, i8, i9, i10, i11, i12, i13, i14, i15, fun _ => rfl, t_⟩)))
           ·rintro D e s220 ⟨im, ib, i0, i1, i2, i3, i4, i5, i6, i7, i8, i9, i10, i11, i12, i13, i14, i15, i16, i17, t_⟩ hk hf ha
            obtain ⟨d16, -⟩ := ha
            have g16_ := i16 d16
            have bx9 := bx9.mv im (tgN (by decide))
            have kn : Kn e [(155, .pointer (some ⟨b9, 0, none⟩))] := ⟨g16_, trivial⟩
            exact L.kns _ kn (L.ld (j := 0) bx9.mem nag23 Wt.no rfl rfl rfl rfl (L.nil (X.dk kn ⟨im, Sub.fresh ib rfl, i0, i1, i2, i3, i4, i5, i6, i7, i8, i9, i10, i11, i12, i13, i14, i15, i16, fun _ => rfl, t_⟩)))
           ·rintro D e s221 ⟨im, ib, i0, i1, i2, i3, i4, i5, i6, i7, i8, i9, i10, i11, i12, i13, i14, i15, i16, i17, i18, i19, i20, i21, i22, i23, i24, i25, i26⟩ hk hf ha
            obtain ⟨d16, d17, -⟩ := ha
            have g17_ := i17 d17
            have h1 := h1.mono (im.le (tg0 hN))
            have kn : Kn e [(156, .slice a1 p0.1.length c1)] := ⟨g17_, trivial⟩
            refine L.kns _ kn (L.ca cf44 rfl rfl Wt.no rfl (m_slices_Clone_int_c (s := s221) (p0 := p0.1) (u0 := (N + 8)) h1 er222) rfl ?_)
            rintro _ s223 m224 ⟨a225, c225, rfl, h225⟩
            exact L.nil (X.dk kn ⟨im.trans m224.no, Sub.fresh ib rfl, i0, i1, i2, i3, i4, i5, i6, i7, i8, i9, i10, i11, i12, i13, i14, i15, i16, i17, fun _ => ⟨a225, c225, rfl, h225⟩, i19, fun z => let ⟨a231, c231, q, h231⟩ := i20 z; ⟨a231, c231, q, (h231.mv m224 no_No no_No)⟩, i21, i22, fun z => Bool.noConfusion ((hf 23 (Nat.le_of_ble_eq_true rfl) rfl).symm.trans z), i24, fun z2 => ((i25 z2).mv m224 no_No), fun z => Bool.noConfusion ((hf 24 (Nat.le_of_ble_eq_true rfl) rfl).symm.trans z)⟩)
           ·rintro D e s226 ⟨im, ib, i0, i1, i2, i3, i4, i5, i6, i7, i8, i9, i10, i11, i12, i13, i14, i15, i16, i17, i18, i19, t_⟩ hk hf ha
            have kn : Kn e [(1, .slice a4 p1.length c4)] := ⟨(ib 1 _ rfl), trivial⟩
            exact L.kns _ kn (L.mv Wt.no rfl rfl (L.nil (X.dk kn ⟨im, Sub.fresh ib rfl, i0, i1, i2, i3, i4, i5, i6, i7, i8, i9, i10, i11, i12, i13, i14, i15, i16, i17, i18, fun _ => rfl, t_⟩)))
           ·rintro D e s227 ⟨im, ib, i0, i1, i2, i3, i4, i5, i6, i7, i8, i9, i10, i11, i12, i13, i14, i15, i16, i17, i18, i19, i20, i21, i22, i23, i24, i25, i26⟩ hk hf ha
            obtain ⟨d16, d17, d18, d19, -⟩ := ha
            have g19_ := i19 d19
            have h4 := h4.mono (im.le (tg0 hN))
            have kn : Kn e [(158, .slice a4 p1.length c4)] := ⟨g19_, trivial⟩
            refine L.kns _ kn (L.ca cf44 rfl rfl Wt.no rfl (m_slices_Clone_int_c (s := s227) (p0 := p1) (u0 := (N + 9)) h4 er228) rfl ?_)
            rintro _ s229 m230 ⟨a231, c231, rfl, h231⟩
            exact L.nil (X.dk kn ⟨im.trans m230.no, Sub.fresh ib rfl, i0, i1, i2, i3, i4, i5, i6, i7, i8, i9, i10, i11, i12, i13, i14, i15, i16, i17, fun z => let ⟨a225, c225, q, h225⟩ := i18 z; ⟨a225, c225, q, (h225.mv m230 no_No no_No)⟩, i19, fun _ => ⟨a231, c231, rfl, h231⟩, i21, i22, fun z => Bool.noConfusion ((hf 23 (Nat.le_of_ble_eq_true rfl) rfl).symm.trans z), i24, fun z2 => ((i25 z2).mv m230 no_No), fun z => Bool.noConfusion ((hf 24 (Nat.le_of_ble_eq_true rfl) rfl).symm.trans z)⟩)
           ·rintro D e s232 ⟨im, ib, i0, i1, i2, i3, i4, i5, i6, i7, i8, i9, i10, i11, i12, i13, i14, i15, i16, i17, i18, i19, i20, i21, t_⟩ hk hf ha
            have kn : Kn e [(2, .pointer (some ⟨b9, 0, none⟩))] := ⟨(ib 2 _ rfl), trivial⟩
            exact L.kns _ kn (L.fa fa26_1 Wt.no rfl rfl (L.nil (X.dk kn ⟨im, Sub.fresh ib rfl, i0, i1, i2, i3, i4, i5, i6, i7, i8, i9, i10, i11, i12, i13, i14, i15, i16, i17, i18, i19, i20, fun _ => rfl, t_⟩)))
           ·rintro D e s233 ⟨im, ib, i0, i1, i2, i3, i4, i5, i6, i7, i8, i9, i10, i11, i12, i13, i14, i15, i16, i17, i18, i19, i20, i21, i22, t_⟩ hk hf ha
            obtain ⟨d21, -⟩ := ha
            have g21_ := i21 d21
            have bx9 := bx9.mv im (tgN (by decide))
            have kn : Kn e [(160, .pointer (some ⟨b9, 1, none⟩))] := ⟨g21_, trivial⟩
            exact L.kns _ kn (L.ld (j := 1) bx9.mem nag3 Wt.no rfl rfl rfl rfl (L.nil (X.dk kn ⟨im, Sub.fresh ib rfl, i0, i1, i2, i3, i4, i5, i6, i7, i8, i9, i10, i11, i12, i13, i14, i15, i16, i17, i18, i19, i20, i21, fun _ => rfl, t_⟩)))
           ·rintro D e s234 ⟨im, ib, i0, i1, i2, i3, i4, i5, i6, i7, i8, i9, i10, i11, i12, i13, i14, i15, i16, i17, i18, i19, i20, i21, i22, i23, t_⟩ hk hf ha
            obtain ⟨d0, d1, d2, d3, d4, d5, d6, d7, d8, d9, d10, d11, d12, d13, d14, d15, d16, d17, d18, d19, d20, d21, d22, -⟩ := ha
            have g15_ := i15 d15
            obtain ⟨a225, c225, g18_, h225⟩ := i18 d18
            obtain ⟨a231, c231, g20_, h231⟩ := i20 d20
            have g22_ := i22 d22
            have kn : Kn e [(154, .agg #[.int .i64 o187.2.1, .int .i64 o187.2.2, .int .i64 (x200.length : Int), .slice (some ⟨b195, 0, none⟩) x200.length x194.length, .slice a189 o187.1.length c189]), (157, .slice a225 r222.length c225), (159, .slice a231 r228.length c231), (161, .int .i64 p0.2.1)] := ⟨g15_, g18_, g20_, g22_, trivial⟩
            exact L.kns _ kn (L.bu (cs := [.int .i64 o187.2.1, .int .i64 o187.2.2, .int .i64 (x200.length : Int), .slice (some ⟨b195, 0, none⟩) x200.length x194.length, .slice a189 o187.1.length c189, .slice a225 r222.length c225, .slice a231 r228.length c231, .int .i64 p0.2.1]) pl34 Wt.no rfl rfl rfl (L.nil (X.dk kn ⟨im, Sub.fresh ib rfl, i0, i1, i2, i3, i4, i5, i6, i7, i8, i9, i10, i11, i12, i13, i14, i15, i16, i17, i18, i19, i20, i21, i22, fun _ _ _ _ _ q18 q20 => by cases g18_.symm.trans q18; cases g20_.symm.trans q20; exact rfl, t_⟩)))
           ·rintro D e s235 ⟨im, ib, i0, i1, i2, i3, i4, i5, i6, i7, i8, i9, i10, i11, i12, i13, i14, i15, i16, i17, i18, i19, i20, i21, i22, i23, i24, i25, i26⟩ hk hf ha
            obtain ⟨d0, d1, d2, d3, d4, d5, d6, d7, d8, d9, d10, d11, d12, d13, d14, d15, d16, d17, d18, d19, d20, d21, d22, d23, -⟩ := ha
            obtain ⟨a225, c225, g18_, h225⟩ := i18 d18
            obtain ⟨a231, c231, g20_, h231⟩ := i20 d20
            have g23_ := i23 d23 a225 c225 a231 c231 g18_ g20_
            obtain bx12 := i25 hk
            have kn : Kn e [(4, .pointer (some ⟨b12, 0, none⟩)), (162, .agg #[.int .i64 o187.2.1, .int .i64 o187.2.2, .int .i64 (x200.length : Int), .slice (some ⟨b195, 0, none⟩) x200.length x194.length, .slice a189 o187.1.length c189, .slice a225 r222.length c225, .slice a231 r228.length c231, .int .i64 p0.2.1])] := ⟨(ib 4 _ rfl), g23_, trivial⟩
            exact L.kns _ kn (L.st (c := [.int .i64 o187.2.1, .int .i64 o187.2.2, .int .i64 (x200.length : Int), .slice (some ⟨b195, 0, none⟩) x200.length x194.length, .slice a189 o187.1.length c189, .slice a225 r222.length c225, .slice a231 r228.length c231, .int .i64 p0.2.1]) (cs' := #[.int .i64 o187.2.1, .int .i64 o187.2.2, .int .i64 (x200.length : Int), .slice (some ⟨b195, 0, none⟩) x200.length x194.length, .slice a189 o187.1.length c189, .slice a225 r222.length c225, .slice a231 r228.length c231, .int .i64 p0.2.1]) bx12 ag34.sz Wt.no rfl rfl rfl rfl rfl (Nat.le_of_ble_eq_true rfl) rfl fun s236 m237 bx12 => L.nil (X.dn kn ⟨im.trans (m237.one rfl), ib, i0, i1, i2, i3, i4, i5, i6, i7, i8, i9, i10, i11, i12, i13, i14, i15, i16, i17, fun z => let ⟨a225, c225, q, h225⟩ := i18 z; ⟨a225, c225, q, (h225.mv m237 (tgN (by decide)) (tg0 hN))⟩, i19, fun z => let ⟨a231, c231, q, h231⟩ := i20 z; ⟨a231, c231, q, (h231.mv m237 (tgN (by decide)) (tg0 hN))⟩, i21, i22, i23, i24, fun z => Bool.noConfusion (show true = false from z), fun _ _ _ _ _ q18 q20 => by cases g18_.symm.trans q18; cases g20_.symm.trans q20; exact bx12⟩))
           ·rintro D e s238 ⟨im, ib, i0, i1, i2, i3, i4, i5, i6, i7, i8, i9, i10, i11, i12, i13, i14, i15, i16, i17, i18, i19, i20, i21, i22, i23, i24, t_⟩ hk hf ha
            obtain ⟨d0, d1, d2, d3, d4, d5, d6, d7, d8, d9, d10, d11, d12, d13, d14, d15, d16, d17, d18, d19, d20, d21, d22, d23, d24, -⟩ := ha
            exact L.as Wt.no rfl rfl (L.nil (X.dr (s := s238) (e' := (5, .int .i64 0) :: e) (Sub.both (Sub.refl)) ⟨im, Sub.fresh ib rfl, i0, i1, i2, i3, i4, i5, i6, i7, i8, i9, i10, i11, i12, i13, i14, i15, i16, i17, i18, i19, i20, i21, i22, i23, fun _ => rfl, t_⟩))
          ·rintro D e s239 hD ⟨im, ib, i0, i1, i2, i3, i4, i5, i6, i7, i8, i9, i10, i11, i12, i13, i14, i15, i16, i17, i18, i19, i20, i21, i22, i23, i24, i25, i26⟩
           obtain ⟨a225, c225, g18_, h225⟩ := i18 (hD 18 rfl)
           obtain ⟨a231, c231, g20_, h231⟩ := i20 (hD 20 rfl)
           have g25_ := i24 (hD 25 rfl)
           obtain bx12 := i26 (hD 24 rfl) a225 c225 a231 c231 g18_ g20_
           have h195 := h195.mv im (tgN (by decide)) (tg0 hN)
           have h189 := h189.mv im (tgN (by decide)) (tg0 hN)
           have m0 := m0.trans (im.one up)
           refine X.sub (e' := [(5, .int .i64 0), (4, .pointer (some ⟨b12, 0, none⟩))]) ?_ (Sub.cons g25_ (Sub.cons (ib 4 _ rfl) Sub.nil))
           refine X.seqN (E.ret ?_)
           obtain rfl := Option.some.inj hm
           exact X.rt (.inl rfl) Try.results12 (Rs.cell rfl bx12 ag34 rfl (Rs.tmp rfl Rs.nil)) rfl ⟨_, (s239).ren N (fun k => cond (Nat.beq k 9) u3 (cond (Nat.beq k 8) u2 (cond (Nat.beq k 7) u0 (cond (Nat.beq k 6) u1 (0))))), rfl, rfl, m0.ren hNb, ⟨(some ⟨b195, 0, none⟩), x194.length, a189, c189, a225, c225, a231, c231, rfl, (h195.ren hN), (h189.ren hN), (h225.ren hN), (h231.ren hN)⟩⟩
         intro K240
         refine E.iter (fun (st187 : Int × (List (Int × Int)) × Int × Int) (e : List (Nat × Value)) (w : World) => ∃ (s192 : Sig) (a159 : Option Addr) (c159 : Nat), Mv (Up N No) s s192 ∧ RdL (rK .i64) s192 a4 c4 p1 ∧ MapR (rL (rK .i64)) s192 b41 o106.1 ∧ RdL (rK .i64) s192 a1 c1 p0.1 ∧ RdL (rK .i64) s192 a2 c2 p0.2.2.1 ∧ RdL (rP (rK .i64) (rP (rK .i64) (rK .i64))) s192 a3 c3 p0.2.2.2 ∧ RowT (rP (rK .i64) (rK .i64)) s192 (N + 6) 119 a159 c159 st187.2.1 ∧ Bx s192 (N + 0) b9 #[.slice a1 p0.1.length c1, .int .i64 p0.2.1, .slice a2 p0.2.2.1.length c2, .slice a3 p0.2.2.2.length c3] 26 ∧ Bx s192 (N + 1) b12 #[.int .i64 0, .int .i64 0, .int .i64 0, .slice none 0 0, .slice none 0 0, .slice none 0 0, .slice none 0 0, .int .i64 0] 34 ∧ Bx s192 (N + 2) b35 #[.slice a159 st187.2.1.length c159, .int .i64 st187.2.2.1, .int .i64 st187.2.2.2] 90 ∧ e = [(119, .int .i64 st187.1), (118, .int .i64 (p1.length : Int)), (117, .slice a4 p1.length c4), (10, .map (some b41)), (8, .pointer (some ⟨b35, 0, none⟩)), (4, .pointer (some ⟨b12, 0, none⟩)), (2, .pointer (some ⟨b9, 0, none⟩)), (1, .slice a4 p1.length c4)] ∧ w = s192.w) eo187 ⟨s156, a152, c152, m0, h4, mp41, h1, h2, h3, h152, bx9, bx12, bx35, rfl, rfl⟩ (Sub.rf rfl) ?_
         rintro st187 res187 hm ih187 ho187 _ _ ⟨s192, a159, c159, m0, h4, mp41, h1, h2, h3, h159, bx9, bx12, bx35, rfl, rfl⟩
         unfold m_generate_Generate_l3 at hm
         refine E.seq (E.reg (L.bi Wt.no rfl rfl rfl rfl (L.nil (X.seqN (E.seq ?_)))))
         rcases ifS hm with ⟨hc, hm⟩ | ⟨hc, hm⟩
         ·refine E.cT rfl hc (E.skip (X.seqN (E.seq (E.block (E.seq (E.reg (L.mv Wt.no rfl rfl ?_)))))))
          obtain ⟨x241, ex241, hm⟩ := bindS hm
          refine L.ix (r := (rK .i64)) sl23 h4 Wt.no rfl rfl ex241 rfl fun b242 o242 cc242 me242 rd242 => ?_
          obtain rfl := rd242
          refine L.ld (j := 0) me242 nag3 Wt.no rfl rfl rfl rfl (L.as Wt.no rfl rfl (L.as Wt.no rfl rfl (L.nil (X.seqN ?_))))
          obtain ⟨r247, er247, hm⟩ := bindS hm
          obtain ⟨r255, er255, hm⟩ := bindS hm
          refine E.draw [[], [], [], [1, 2], [], [], [4, 5], [0, 1, 2, 3, 4, 5, 6]] (fun D e sx => Mv (fun t => t = (N + 2) ∨ t = (N + 6)) s192 sx ∧ Sub [(16, .int .i64 x241), (15, .int .i64 st187.1), (119, .int .i64 st187.1), (118, .int .i64 (p1.length : Int)), (117, .slice a4 p1.length c4), (10, .map (some b41)), (8, .pointer (some ⟨b35, 0, none⟩)), (4, .pointer (some ⟨b12, 0, none⟩)), (2, .pointer (some ⟨b9, 0, none⟩)), (1, .slice a4 p1.length c4)] e ∧ (D 0 = true → (Env.get e 124 = some (.pointer (some ⟨b35, 0, none⟩)))) ∧ (D 1 = true → (Env.get e 125 = some (.pointer (some ⟨b35, 0, none⟩)))) ∧ (D 2 = true → (Env.get e 126 = some (.int .i64 st187.1))) ∧ (D 3 = true → (Env.get e 127 = some (.int .i64 r247))) ∧ (D 4 = true → (Env.get e 128 = some (.map (some b41)))) ∧ (D 5 = true → (Env.get e 129 = some (.int .i64 x241))) ∧ (D 6 = true → (∃ (a253 : Option Addr) (c253 : Nat), Env.get e 130 = some (.slice a253 (mgetD [] o106.1 x241).length c253) ∧ RdL (rK .i64) sx a253 c253 (mgetD [] o106.1 x241))) ∧ (D 7 = true → (Env.get e 131 = some (.tuple #[]))) ∧ (D 7 = false → Bx sx (N + 2) b35 #[.slice a159 st187.2.1.length c159, .int .i64 st187.2.2.1, .int .i64 st187.2.2.2] 90 ∧ RowT (rP (rK .i64) (rK .i64)) sx (N + 6) 119 a159 c159 st187.2.1) ∧ (D 7 = true → (∃ (a258 : Option Addr) (c258 : Nat), Bx sx (N + 2) b35 #[.slice a258 r255.1.length c258, .int .i64 r255.2.1, .int .i64 r255.2.2] 90 ∧ RowT (rP (rK .i64) (rK .i64)) sx (N + 6) 119 a258 c258 r255.1))) (by kernel_rfl) (by kernel_rfl) (by kernel_rfl) ?_ ?_ ?_
          ·intro sz mz
           exact ⟨mz.no, (Sub.rf rfl), nofun, nofun, nofun, nofun, nofun, nofun, nofun, nofun, fun _ => ⟨bx35.mv mz no_No, h159.mv mz no_No no_No⟩, nofun⟩
          ·refine ⟨?_, ?_, ?_, ?_, ?_, ?_, ?_, ?_, trivial⟩
           ·rintro D e s243 ⟨im, ib, i0, t_⟩ hk hf ha
            have kn : Kn e [(8, .pointer (some ⟨b35, 0, none⟩))] := ⟨(ib 8 _ rfl), trivial⟩
            exact L.kns _ kn (L.mv Wt.no rfl rfl (L.nil (X.dk kn ⟨im, Sub.fresh ib rfl, fun _ => rfl, t_⟩)))
           ·rintro D e s244 ⟨im, ib, i0, i1, t_⟩ hk hf ha
            have kn : Kn e [(8, .pointer (some ⟨b35, 0, none⟩))] := ⟨(ib 8 _ rfl), trivial⟩
            exact L.kns _ kn (L.mv Wt.no rfl rfl (L.nil (X.dk kn ⟨im, Sub.fresh ib rfl, i0, fun _ => rfl, t_⟩)))
           ·rintro D e s245 ⟨im, ib, i0, i1, i2, t_⟩ hk hf ha
            have kn : Kn e [(15, .int .i64 st187.1)] := ⟨(ib 15 _ rfl), trivial⟩
            exact L.kns _ kn (L.mv Wt.no rfl rfl (L.nil (X.dk kn ⟨im, Sub.fresh ib rfl, i0, i1, fun _ => rfl, t_⟩)))
           ·rintro D e s246 ⟨im, ib, i0, i1, i2, i3, i4, i5, i6, i7, i8, i9⟩ hk hf ha
            obtain ⟨d1, d2, -⟩ := ha
            have g1_ := i1 d1
            have g2_ := i2 d2
            obtain ⟨bx35, h159⟩ := i8 (hf 7 (Nat.le_of_ble_eq_true rfl) rfl)
            have kn : Kn e [(125, .pointer (some ⟨b35, 0, none⟩)), (126, .int .i64 st187.1)] := ⟨g1_, g2_, trivial⟩
            refine L.kns _ kn (L.ca cf42 rfl rfl Wt.no rfl (Calls.lendG (s0 := (Sig.drop N s246)) (s := s246) rfl (m_generate_assembler_output_c (s := (Sig.drop N s246)) (p0 := st187.2) (p1 := st187.1) (t0 := 0) (h159.drop (Nat.le_add_right _ _)) bx35.drop er247) (fun v s' h => h)) rfl ?_)
            rintro _ s248 m249 rfl
            exact L.nil (X.dk kn ⟨im.trans m249.no, Sub.fresh ib rfl, i0, i1, i2, fun _ => rfl, i4, i5, fun z => let ⟨a253, c253, q, h253⟩ := i6 z; ⟨a253, c253, q, (h253.mono (m249.le no_No))⟩, i7, fun z2 => let ⟨bx35, h159⟩ := i8 z2; ⟨(bx35.mv m249 no_No), (h159.mv m249 no_No no_No)⟩, fun z => let ⟨a258, c258, bx35, h258⟩ := i9 z; ⟨a258, c258, (bx35.mv m249 no_No), (h258.mv m249 no_No no_No)⟩⟩)
           ·rintro D e s250 ⟨im, ib, i0, i1, i2, i3, i4, t_⟩ hk hf ha
            have kn : Kn e [(10, .map (some b41))] := ⟨(ib 10 _ rfl), trivial⟩
            exact L.kns _ kn (L.mv Wt.no rfl rfl (L.nil (X.dk kn ⟨im, Sub.fresh ib rfl, i0, i1, i2, i3, fun _ => rfl, t_⟩)))
           ·rintro D e s251 ⟨im, ib, i0, i1, i2, i3, i4, i5, t_⟩ hk hf ha
            have kn : Kn e [(16, .int .i64 x241)] := ⟨(ib 16 _ rfl), trivial⟩
            exact L.kns _ kn (L.mv Wt.no rfl rfl (L.nil (X.dk kn ⟨im, Sub.fresh ib rfl, i0, i1, i2, i3, i4, fun _ => rfl, t_⟩)))
           ·rintro D e s252 ⟨im, ib, i0, i1, i2, i3, i4, i5, i6, t_⟩ hk hf ha
            obtain ⟨d4, d5, -⟩ := ha
            have g4_ := i4 d4
            have g5_ := i5 d5
            have mp41 := mp41.mono (im.le (nor (tg0 hN) (tg0 hN)))
            have kn : Kn e [(128, .map (some b41)), (129, .int .i64 x241)] := ⟨g4_, g5_, trivial⟩
            exact L.kns _ kn (L.mlr (r := (rK .i64)) mpt92 mp41 Wt.no rfl rfl rfl fun a253 c253 h253 => L.nil (X.dk kn ⟨im, Sub.fresh ib rfl, i0, i1, i2, i3, i4, i5, fun _ => ⟨a253, c253, rfl, h253⟩, t_⟩))
           ·rintro D e s254 ⟨im, ib, i0, i1, i2, i3, i4, i5, i6, i7, i8, i9⟩ hk hf ha
            obtain ⟨d0, d1, d2, d3, d4, d5, d6, -⟩ := ha
            have g0_ := i0 d0
            have g3_ := i3 d3
            obtain ⟨a253, c253, g6_, h253⟩ := i6 d6
            obtain ⟨bx35, h159⟩ := i8 hk
            have kn : Kn e [(124, .pointer (some ⟨b35, 0, none⟩)), (127, .int .i64 r247), (130, .slice a253 (mgetD [] o106.1 x241).length c253)] := ⟨g0_, g3_, g6_, trivial⟩
            refine L.kns _ kn (L.ca cf43 rfl rfl Wt.no rfl (m_generate_assembler_command_c (s := s254) (p0 := st187.2) (p1 := r247) (p2 := (mgetD [] o106.1 x241)) (t0 := (N + 2)) (t0_0 := (N + 6)) (tne (by decide)) (tne (by decide)) (tpos hN) (tpos hN) h159 bx35 h253 er255) rfl ?_)
            rintro _ s256 m257 ⟨a258, c258, rfl, bx35, h258⟩
            exact L.nil (X.dk kn ⟨im.trans (m257.weak fun _ e => by rcases e with e | e; (rw [e]; exact (.inl rfl)); (rw [e]; exact (.inr rfl))), Sub.fresh ib rfl, i0, i1, i2, i3, i4, i5, fun z => let ⟨a253, c253, q, h253⟩ := i6 z; ⟨a253, c253, q, (h253.mono (m257.le (nor (tg0 hN) (tg0 hN))))⟩, fun _ => rfl, fun z => Bool.noConfusion (show true = false from z), fun _ => by exact ⟨a258, c258, bx35, h258⟩⟩)
          ·rintro D e s260 hD ⟨im, ib, i0, i1, i2, i3, i4, i5, i6, i7, i8, i9⟩
           obtain ⟨a258, c258, bx35, h258⟩ := i9 (hD 7 rfl)
           have h4 := h4.mono (im.le (nor (tg0 hN) (tg0 hN)))
           have mp41 := mp41.mono (im.le (nor (tg0 hN) (tg0 hN)))
           have bx12 := bx12.mv im (nor (tgN (by decide)) (tgN (by decide)))
           have bx9 := bx9.mv im (nor (tgN (by decide)) (tgN (by decide)))
           have h1 := h1.mono (im.le (nor (tg0 hN) (tg0 hN)))
           have h2 := h2.mono (im.le (nor (tg0 hN) (tg0 hN)))
           have h3 := h3.mono (im.le (nor (tg0 hN) (tg0 hN)))
           have m0 := m0.trans (im.weak fun _ e => by rcases e with e | e; (rw [e]; exact up); (rw [e]; exact up))
           refine X.sub (e' := [(119, .int .i64 st187.1), (118, .int .i64 (p1.length : Int)), (117, .slice a4 p1.length c4), (10, .map (some b41)), (8, .pointer (some ⟨b35, 0, none⟩)), (4, .pointer (some ⟨b12, 0, none⟩)), (2, .pointer (some ⟨b9, 0, none⟩)), (1, .slice a4 p1.length c4)]) ?_ (Sub.cons (ib 119 _ rfl) (Sub.cons (ib 118 _ rfl) (Sub.cons (ib 117 _ rfl) (Sub.cons (ib 10 _ rfl) (Sub.cons (ib 8 _ rfl) (Sub.cons (ib 4 _ rfl) (Sub.cons (ib 2 _ rfl) (Sub.cons (ib 1 _ rfl) Sub.nil))))))))
           exact X.blkN (X.seqN (E.reg (L.bi Wt.no rfl rfl rfl rfl (L.mv Wt.no rfl rfl (L.nil (X.sub (ih187 _ (Option.some.inj hm).symm _ _ ⟨s260, a258, c258, m0, h4, mp41, h1, h2, h3, h258, bx9, bx12, bx35, rfl, rfl⟩) (Sub.rf rfl)))))))
         ·refine E.cF rfl hc (E.exit (X.seqX (X.seqX ?_)))
          have hx := ho187 _ (Option.some.inj hm).symm
          subst hx
          exact X.sub (K240 _ _ ⟨s192, a159, c159, m0, h4, h1, h2, h3, h159, bx9, bx12, bx35, rfl, rfl⟩) (Sub.rf rfl)
        intro K261
        have m291 := Sig.fzP_mv (pF N [3, 4]) s110
        replace mp41 := mp41.fz (p := (pF N [3, 4])) (pF_0 hN) (pF_k rfl) (fun _ => pF_f)
        replace mp38 := mp38.fz (p := (pF N [3, 4])) (pF_0 hN) (pF_k rfl) (fun _ => pF_f)
        replace m0 := m0.trans (m291.weak fun _ e => pF_up e)
        replace h1 := h1.mono (m291.le (pF_n0 hN))
        replace h4 := h4.mono (m291.le (pF_n0 hN))
        replace bx35 := bx35.mv m291 (pF_no (by decide))
        replace bx12 := bx12.mv m291 (pF_no (by decide))
        replace bx9 := bx9.mv m291 (pF_no (by decide))
        replace h2 := h2.mono (m291.le (pF_n0 hN))
        replace h3 := h3.mono (m291.le (pF_n0 hN))
        refine E.iter (fun (st150 : Int × (List (Int × Int)) × Int × Int) (e : List (Nat × Value)) (w : World) => ∃ (s155 : Sig) (a113 : Option Addr) (c113 : Nat), Mv (Up N No) s s155 ∧ RdL (rK .i64) s155 a1 c1 p0.1 ∧ MapR (rL (rK .i64)) s155 b41 o106.1 ∧ MapR (rL (rP (rK .i64) (rP (rK .i64) (rK .i64)))) s155 b38 o106.2 ∧ RdL (rK .i64) s155 a4 c4 p1 ∧ RdL (rK .i64) s155 a2 c2 p0.2.2.1 ∧ RdL (rP (rK .i64) (rP (rK .i64) (rK .i64))) s155 a3 c3 p0.2.2.2 ∧ RowT (rP (rK .i64) (rK .i64)) s155 (N + 6) 119 a113 c113 st150.2.1 ∧ Bx s155 (N + 0) b9 #[.slice a1 p0.1.length c1, .int .i64 p0.2.1, .slice a2 p0.2.2.1.length c2, .slice a3 p0.2.2.2.length c3] 26 ∧ Bx s155 (N + 1) b12 #[.int .i64 0, .int .i64 0, .int .i64 0, .slice none 0 0, .slice none 0 0, .slice none 0 0, .slice none 0 0, .int .i64 0] 34 ∧ Bx s155 (N + 2) b35 #[.slice a113 st150.2.1.length c113, .int .i64 st150.2.2.1, .int .i64 st150.2.2.2] 90 ∧ e = [(97, .int .i64 st150.1), (96, .int .i64 (p0.1.length : Int)), (95, .slice a1 p0.1.length c1), (10, .map (some b41)), (9, .map (some b38)), (8, .pointer (some ⟨b35, 0, none⟩)), (4, .pointer (some ⟨b12, 0, none⟩)), (2, .pointer (some ⟨b9, 0, none⟩)), (1, .slice a4 p1.length c4)] ∧ w = s155.w) eo150 ⟨(Sig.fzP (pF N [3, 4]) s110), none, 0, m0, h1, mp41, mp38, h4, h2, h3, RowT.nil, bx9, bx12, bx35, rfl, rfl⟩ (Sub.rf rfl) ?_
        rintro st150 res150 hm ih150 ho150 _ _ ⟨s155, a113, c113, m0, h1, mp41, mp38, h4, h2, h3, h113, bx9, bx12, bx35, rfl, rfl⟩
        unfold m_generate_Generate_l2 at hm
        refine E.seq (E.reg (L.bi Wt.no rfl rfl rfl rfl (L.nil (X.seqN (E.seq ?_)))))
        rcases ifS hm with ⟨hc, hm⟩ | ⟨hc, hm⟩
        ·refine E.cT rfl hc (E.skip (X.seqN (E.seq (E.block (E.seq (E.reg (L.mv Wt.no rfl rfl ?_)))))))
         obtain ⟨x262, ex262, hm⟩ := bindS hm
         refine L.ix (r := (rK .i64)) sl23 h1 Wt.no rfl rfl ex262 rfl fun b263 o263 cc263 me263 rd263 => ?_
         obtain rfl := rd263
         refine L.ld (j := 0) me263 nag3 Wt.no rfl rfl rfl rfl (L.as Wt.no rfl rfl (L.as Wt.no rfl rfl (L.nil (X.seqN ?_))))
         obtain ⟨r270, er270, hm⟩ := bindS hm
         obtain ⟨r277, er277, hm⟩ := bindS hm
         obtain ⟨r285, er285, hm⟩ := bindS hm
         refine E.draw [[], [], [], [], [3], [2, 3, 4], [], [], [7], [2, 3, 4, 5, 6, 7, 8], [], [], [10, 11], [0, 1, 2, 3, 4, 5, 6, 7, 8, 9, 10, 11, 12]] (fun D e sx => Mv (fun t => t = (N + 2) ∨ t = (N + 6)) s155 sx ∧ Sub [(14, .int .i64 x262), (13, .int .i64 st150.1), (97, .int .i64 st150.1), (96, .int .i64 (p0.1.length : Int)), (95, .slice a1 p0.1.length c1), (10, .map (some b41)), (9, .map (some b38)), (8, .pointer (some ⟨b35, 0, none⟩)), (4, .pointer (some ⟨b12, 0, none⟩)), (2, .pointer (some ⟨b9, 0, none⟩)), (1, .slice a4 p1.length c4)] e ∧ (D 0 = true → (Env.get e 102 = some (.pointer (some ⟨b35, 0, none⟩)))) ∧ (D 1 = true → (Env.get e 103 = some (.int .i64 st150.1))) ∧ (D 2 = true → (Env.get e 104 = some (.pointer (some ⟨b35, 0, none⟩)))) ∧ (D 3 = true → (Env.get e 105 = some (.pointer (some ⟨b9, 1, none⟩)))) ∧ (D 4 = true → (Env.get e 106 = some (.int .i64 p0.2.1))) ∧ (D 5 = true → (Env.get e 107 = some (.int .i64 r270))) ∧ (D 6 = true → (Env.get e 108 = some (.pointer (some ⟨b35, 0, none⟩)))) ∧ (D 7 = true → (Env.get e 109 = some (.slice a4 p1.length c4))) ∧ (D 8 = true → (Env.get e 110 = some (.int .i64 (p1.length : Int)))) ∧ (D 9 = true → (Env.get e 111 = some (.int .i64 r277))) ∧ (D 10 = true → (Env.get e 112 = some (.map (some b38)))) ∧ (D 11 = true → (Env.get e 113 = some (.int .i64 x262))) ∧ (D 12 = true → (∃ (a283 : Option Addr) (c283 : Nat), Env.get e 114 = some (.slice a283 (mgetD [] o106.2 x262).length c283) ∧ RdL (rP (rK .i64) (rP (rK .i64) (rK .i64))) sx a283 c283 (mgetD [] o106.2 x262))) ∧ (D 13 = true → (Env.get e 115 = some (.tuple #[]))) ∧ (D 13 = false → Bx sx (N + 2) b35 #[.slice a113 st150.2.1.length c113, .int .i64 st150.2.2.1, .int .i64 st150.2.2.2] 90 ∧ RowT (rP (rK .i64) (rK .i64)) sx (N + 6) 119 a113 c113 st150.2.1) ∧ (D 13 = true → (∃ (a288 : Option Addr) (c288 : Nat), Bx sx (N + 2) b35 #[.slice a288 r285.1.length c288, .int .i64 r285.2.1, .int .i64 r285.2.2] 90 ∧ RowT (rP (rK .i64) (rK .i64)) sx (N + 6) 119 a288 c288 r285.1))) (by kernel_rfl) (by kernel_rfl) (by kernel_rfl) ?_ ?_ ?_
         ·intro sz mz
          exact ⟨mz.no, (Sub.rf rfl), nofun, nofun, nofun, nofun, nofun, nofun, nofun, nofun, nofun, nofun, nofun, nofun, nofun, nofun, fun _ => ⟨bx35.mv mz no_No, h113.mv mz no_No no_No⟩, nofun⟩
         ·refine ⟨?_, ?_, ?_, ?_, ?_, ?_, ?_, ?_, ?_, ?_, ?_, ?_, ?_, ?_, trivial⟩
          ·rintro D e s264 ⟨im, ib, i0, t_⟩ hk hf ha
           have kn : Kn e [(8, .pointer (some ⟨b35, 0, none⟩))] := ⟨(ib 8 _ rfl), trivial⟩
           exact L.kns _ kn (L.mv Wt.no rfl rfl (L.nil (X.dk kn ⟨im, Sub.fresh ib rfl, fun _ => rfl, t_⟩)))
          ·rintro D e s265 ⟨im, ib, i0, i1, t_⟩ hk hf ha
           have kn : Kn e [(13, .int .i64 st150.1)] := ⟨(ib 13 _ rfl), trivial⟩
           exact L.kns _ kn (L.mv Wt.no rfl rfl (L.nil (X.dk kn ⟨im, Sub.fresh ib rfl, i0, fun _ => rfl, t_⟩)))
          ·rintro D e s266 ⟨im, ib, i0, i1, i2, t_⟩ hk hf ha
           have kn : Kn e [(8, .pointer (some ⟨b35, 0, none⟩))] := ⟨(ib 8 _ rfl), trivial⟩
           exact L.kns _ kn (L.mv Wt.no rfl rfl (L.nil (X.dk kn ⟨im, Sub.fresh ib rfl, i0, i1, fun _ => rfl, t_⟩)))
          ·rintro D e s267 ⟨im, ib, i0, i1, i2, i3, t_⟩ hk hf ha
           have kn : Kn e [(2, .pointer (some ⟨b9, 0, none⟩))] := ⟨(ib 2 _ rfl), trivial⟩
           exact L.kns _ kn (L.fa fa26_1 Wt.no rfl rfl (L.nil (X.dk kn ⟨im, Sub.fresh ib rfl, i0, i1, i2, fun _ => rfl, t_⟩)))
          ·rintro D e s268 ⟨im, ib, i0, i1, i2, i3, i4, t_⟩ hk hf ha
           obtain ⟨d3, -⟩ := ha
           have g3_ := i3 d3
           have bx9 := bx9.mv im (nor (tgN (by decide)) (tgN (by decide)))
           have kn : Kn e [(105, .pointer (some ⟨b9, 1, none⟩))] := ⟨g3_, trivial⟩
           exact L.kns _ kn (L.ld (j := 1) bx9.mem nag3 Wt.no rfl rfl rfl rfl (L.nil (X.dk kn ⟨im, Sub.fresh ib rfl, i0, i1, i2, i3, fun _ => rfl, t_⟩)))
          ·rintro D e s269 ⟨im, ib, i0, i1, i2, i3, i4, i5, i6, i7, i8, i9, i10, i11, i12, i13, i14, i15⟩ hk hf ha
           obtain ⟨d2, d3, d4, -⟩ := ha
           have g2_ := i2 d2
           have g4_ := i4 d4
           obtain ⟨bx35, h113⟩ := i14 (hf 13 (Nat.le_of_ble_eq_true rfl) rfl)
           have kn : Kn e [(104, .pointer (some ⟨b35, 0, none⟩)), (106, .int .i64 p0.2.1)] := ⟨g2_, g4_, trivial⟩
           refine L.kns _ kn (L.ca cf41 rfl rfl Wt.no rfl (Calls.lendG (s0 := (Sig.drop N s269)) (s := s269) rfl (m_generate_assembler_memory_c (s := (Sig.drop N s269)) (p0 := st150.2) (p1 := p0.2.1) (t0 := 0) (h113.drop (Nat.le_add_right _ _)) bx35.drop er270) (fun v s' h => h)) rfl ?_)
           rintro _ s271 m272 rfl
           exact L.nil (X.dk kn ⟨im.trans m272.no, Sub.fresh ib rfl, i0, i1, i2, i3, i4, fun _ => rfl, i6, i7, i8, i9, i10, i11, fun z => let ⟨a283, c283, q, h283⟩ := i12 z; ⟨a283, c283, q, (h283.mono (m272.le no_No))⟩, i13, fun z2 => let ⟨bx35, h113⟩ := i14 z2; ⟨(bx35.mv m272 no_No), (h113.mv m272 no_No no_No)⟩, fun z => let ⟨a288, c288, bx35, h288⟩ := i15 z; ⟨a288, c288, (bx35.mv m272 no_No), (h288.mv m272 no_No no_No)⟩⟩)
          ·rintro D e s273 ⟨im, ib, i0, i1, i2, i3, i4, i5, i6, t_⟩ hk hf ha
           have kn : Kn e [(8, .pointer (some ⟨b35, 0, none⟩))] := ⟨(ib 8 _ rfl), trivial⟩
           exact L.kns _ kn (L.mv Wt.no rfl rfl (L.nil (X.dk kn ⟨im, Sub.fresh ib rfl, i0, i1, i2, i3, i4, i5, fun _ => rfl, t_⟩)))
          ·rintro D e s274 ⟨im, ib, i0, i1, i2, i3, i4, i5, i6, i7, t_⟩ hk hf ha
           have kn : Kn e [(1, .slice a4 p1.length c4)] := ⟨(ib 1 _ rfl), trivial⟩
           exact L.kns _ kn (L.mv Wt.no rfl rfl (L.nil (X.dk kn ⟨im, Sub.fresh ib rfl, i0, i1, i2, i3, i4, i5, i6, fun _ => rfl, t_⟩)))
          ·rintro D e s275 ⟨im, ib, i0, i1, i2, i3, i4, i5, i6, i7, i8, t_⟩ hk hf ha
           obtain ⟨d7, -⟩ := ha
           have g7_ := i7 d7
           have kn : Kn e [(109, .slice a4 p1.length c4)] := ⟨g7_, trivial⟩
           exact L.kns _ kn (L.len sl23 Wt.no rfl rfl (L.nil (X.dk kn ⟨im, Sub.fresh ib rfl, i0, i1, i2, i3, i4, i5, i6, i7, fun _ => rfl, t_⟩)))
          ·rintro D e s276 ⟨im, ib, i0, i1, i2, i3, i4, i5, i6, i7, i8, i9, i10, i11, i12, i13, i14, i15⟩ hk hf ha
           obtain ⟨d2, d3, d4, d5, d6, d7, d8, -⟩ := ha
           have g6_ := i6 d6
           have g8_ := i8 d8
           obtain ⟨bx35, h113⟩ := i14 (hf 13 (Nat.le_of_ble_eq_true rfl) rfl)
           have kn : Kn e [(108, .pointer (some ⟨b35, 0, none⟩)), (110, .int .i64 (p1.length : Int))] := ⟨g6_, g8_, trivial⟩
           refine L.kns _ kn (L.ca cf42 rfl rfl Wt.no rfl (Calls.lendG (s0 := (Sig.drop N s276)) (s := s276) rfl (m_generate_assembler_output_c (s := (Sig.drop N s276)) (p0 := st150.2) (p1 := (p1.length : Int)) (t0 := 0) (h113.drop (Nat.le_add_right _ _)) bx35.drop er277) (fun v s' h => h)) rfl ?_)
           rintro _ s278 m279 rfl
           exact L.nil (X.dk kn ⟨im.trans m279.no, Sub.fresh ib rfl, i0, i1, i2, i3, i4, i5, i6, i7, i8, fun _ => rfl, i10, i11, fun z => let ⟨a283, c283, q, h283⟩ := i12 z; ⟨a283, c283, q, (h283.mono (m279.le no_No))⟩, i13, fun z2 => let ⟨bx35, h113⟩ := i14 z2; ⟨(bx35.mv m279 no_No), (h113.mv m279 no_No no_No)⟩, fun z => let ⟨a288, c288, bx35, h288⟩ := i15 z; ⟨a288, c288, (bx35.mv m279 no_No), (h288.mv m279 no_No no_No)⟩⟩)
          ·rintro D e s280 ⟨im, ib, i0, i1, i2, i3, i4, i5, i6, i7, i8, i9, i10, t_⟩ hk hf ha
           have kn : Kn e [(9, .map (some b38))] := ⟨(ib 9 _ rfl), trivial⟩
           exact L.kns _ kn (L.mv Wt.no rfl rfl (L.nil (X.dk kn ⟨im, Sub.fresh ib rfl, i0, i1, i2, i3, i4, i5, i6, i7, i8, i9, fun _ => rfl, t_⟩)))
          ·rintro D e s281 ⟨im, ib, i0, i1, i2, i3, i4, i5, i6, i7, i8, i9, i10, i11, t_⟩ hk hf ha
           have kn : Kn e [(14, .int .i64 x262)] := ⟨(ib 14 _ rfl), trivial⟩
           exact L.kns _ kn (L.mv Wt.no rfl rfl (L.nil (X.dk kn ⟨im, Sub.fresh ib rfl, i0, i1, i2, i3, i4, i5, i6, i7, i8, i9, i10, fun _ => rfl, t_⟩)))
          ·rintro D e s282 ⟨im, ib, i0, i1, i2, i3, i4, i5, i6, i7, i8, i9, i10, i11, i12, t_⟩ hk hf ha
           obtain ⟨d10, d11, -⟩ := ha
           have g10_ := i10 d10
           have g11_ := i11 d11
           have mp38 := mp38.mono (im.le (nor (tg0 hN) (tg0 hN)))
           have kn : Kn e [(112, .map (some b38)), (113, .int .i64 x262)] := ⟨g10_, g11_, trivial⟩
           exact L.kns _ kn (L.mlr (r := (rP (rK .i64) (rP (rK .i64) (rK .i64)))) mpt91 mp38 Wt.no rfl rfl rfl fun a283 c283 h283 => L.nil (X.dk kn ⟨im, Sub.fresh ib rfl, i0, i1, i2, i3, i4, i5, i6, i7, i8, i9, i10, i11, fun _ => ⟨a283, c283, rfl, h283⟩, t_⟩))
          ·rintro D e s284 ⟨im, ib, i0, i1, i2, i3, i4, i5, i6, i7, i8, i9, i10, i11, i12, i13, i14, i15⟩ hk hf ha
           obtain ⟨d0, d1, d2, d3, d4, d5, d6, d7, d8, d9, d10, d11, d12, -⟩ := ha
           have g0_ := i0 d0
           have g1_ := i1 d1
           have g5_ := i5 d5
           have g9_ := i9 d9
           obtain ⟨a283, c283, g12_, h283⟩ := i12 d12
           obtain ⟨bx35, h113⟩ := i14 hk
           have kn : Kn e [(102, .pointer (some ⟨b35, 0, none⟩)), (103, .int .i64 st150.1), (107, .int .i64 r270), (111, .int .i64 r277), (114, .slice a283 (mgetD [] o106.2 x262).length c283)] := ⟨g0_, g1_, g5_, g9_, g12_, trivial⟩
           refine L.kns _ kn (L.ca cf40 rfl rfl Wt.no rfl (m_generate_assembler_event_c (s := s284) (p0 := st150.2) (p1 := st150.1) (p2 := r270) (p3 := r277) (p4 := (mgetD [] o106.2 x262)) (t0 := (N + 2)) (t0_0 := (N + 6)) (tne (by decide)) (tne (by decide)) (tpos hN) (tpos hN) h113 bx35 h283 er285) rfl ?_)
           rintro _ s286 m287 ⟨a288, c288, rfl, bx35, h288⟩
           exact L.nil (X.dk kn ⟨im.trans (m287.weak fun _ e => by rcases e with e | e; (rw [e]; exact (.inl rfl)); (rw [e]; exact (.inr rfl))), Sub.fresh ib rfl, i0, i1, i2, i3, i4, i5, i6, i7, i8, i9, i10, i11, fun z => let ⟨a283, c283, q, h283⟩ := i12 z; ⟨a283, c283, q, (h283.mono (m287.le (nor (tg0 hN) (tg0 hN))))⟩, fun _ => rfl, fun z => Bool.noConfusion (show true = false from z), fun _ => by exact ⟨a288, c288, bx35, h288⟩⟩)
         ·rintro D e s290 hD ⟨im, ib, i0, i1, i2, i3, i4, i5, i6, i7, i8, i9, i10, i11, i12, i13, i14, i15⟩
          obtain ⟨a288, c288, bx35, h288⟩ := i15 (hD 13 rfl)
          have h1 := h1.mono (im.le (nor (tg0 hN) (tg0 hN)))
          have mp41 := mp41.mono (im.le (nor (tg0 hN) (tg0 hN)))
          have mp38 := mp38.mono (im.le (nor (tg0 hN) (tg0 hN)))
          have bx12 := bx12.mv im (nor (tgN (by decide)) (tgN (by decide)))
          have bx9 := bx9.mv im (nor (tgN (by decide)) (tgN (by decide)))
          have h2 := h2.mono (im.le (nor (tg0 hN) (tg0 hN)))
          have h3 := h3.mono (im.le (nor (tg0 hN) (tg0 hN)))
          have h4 := h4.mono (im.le (nor (tg0 hN) (tg0 hN)))
          have m0 := m0.trans (im.weak fun _ e => by rcases e with e | e; (rw [e]; exact up); (rw [e]; exact up))
          refine X.sub (e' := [(97, .int .i64 st150.1), (96, .int .i64 (p0.1.length : Int)), (95, .slice a1 p0.1.length c1), (10, .map (some b41)), (9, .map (some b38)), (8, .pointer (some ⟨b35, 0, none⟩)), (4, .pointer (some ⟨b12, 0, none⟩)), (2, .pointer (some ⟨b9, 0, none⟩)), (1, .slice a4 p1.length c4)]) ?_ (Sub.cons (ib 97 _ rfl) (Sub.cons (ib 96 _ rfl) (Sub.cons (ib 95 _ rfl) (Sub.cons (ib 10 _ rfl) (Sub.cons (ib 9 _ rfl) (Sub.cons (ib 8 _ rfl) (Sub.cons (ib 4 _ rfl) (Sub.cons (ib 2 _ rfl) (Sub.cons (ib 1 _ rfl) Sub.nil)))))))))
          exact X.blkN (X.seqN (E.reg (L.bi Wt.no rfl rfl rfl rfl (L.mv Wt.no rfl rfl (L.nil (X.sub (ih150 _ (Option.some.inj hm).symm _ _ ⟨s290, a288, c288, m0, h1, mp41, mp38, h4, h2, h3, h288, bx9, bx12, bx35, rfl, rfl⟩) (Sub.rf rfl)))))))
        ·refine E.cF rfl hc (E.exit (X.seqX (X.seqX ?_)))
         have hx := ho150 _ (Option.some.inj hm).symm
         subst hx
         exact X.sub (K261 _ _ ⟨s155, a113, c113, m0, mp41, h4, h1, h2, h3, h113, bx9, bx12, bx35, rfl, rfl⟩) (Sub.rf rfl)
       intro K292
       refine E.iter (fun (st106 : Int × (List (Int × List Int)) × (List (Int × List (Int × Int × Int)))) (e : List (Nat × Value)) (w : World) => ∃ (s109 : Sig), Mv (Up N No) s s109 ∧ RdL (rP (rK .i64) (rP (rK .i64) (rK .i64))) s109 a3 c3 p0.2.2.2 ∧ MapW (rK .i64) s109 N 1 (N + 4) 3 b41 st106.2.1 none ∧ MapW (rP (rK .i64) (rP (rK .i64) (rK .i64))) s109 N 0 (N + 3) 28 b38 st106.2.2 none ∧ RdL (rK .i64) s109 a4 c4 p1 ∧ RdL (rK .i64) s109 a1 c1 p0.1 ∧ RdL (rK .i64) s109 a2 c2 p0.2.2.1 ∧ Bx s109 (N + 0) b9 #[.slice a1 p0.1.length c1, .int .i64 p0.2.1, .slice a2 p0.2.2.1.length c2, .slice a3 p0.2.2.2.length c3] 26 ∧ Bx s109 (N + 1) b12 #[.int .i64 0, .int .i64 0, .int .i64 0, .slice none 0 0, .slice none 0 0, .slice none 0 0, .slice none 0 0, .int .i64 0] 34 ∧ Bx s109 (N + 2) b35 #[.slice none 0 0, .int .i64 (p0.1.length : Int), .int .i64 (W ((p1.length : Int) + 1))] 90 ∧ e = [(66, .int .i64 st106.1), (65, .int .i64 (p0.2.2.2.length : Int)), (64, .slice a3 p0.2.2.2.length c3), (10, .map (some b41)), (9, .map (some b38)), (8, .pointer (some ⟨b35, 0, none⟩)), (4, .pointer (some ⟨b12, 0, none⟩)), (2, .pointer (some ⟨b9, 0, none⟩)), (1, .slice a4 p1.length c4)] ∧ w = s109.w) eo106 ⟨s42, m0, h3, mp41, mp38, h4, h1, h2, bx9, bx12, bx35, rfl, rfl⟩ (Sub.rf rfl) ?_
       rintro st106 res106 hm ih106 ho106 _ _ ⟨s109, m0, h3, mp41, mp38, h4, h1, h2, bx9, bx12, bx35, rfl, rfl⟩
       unfold m_generate_Generate_l1 at hm
       refine E.seq (E.reg (L.bi Wt.no rfl rfl rfl rfl (L.nil (X.seqN (E.seq ?_)))))
       rcases ifS hm with ⟨hc, hm⟩ | ⟨hc, hm⟩
       ·refine E.cT rfl hc (E.skip (X.seqN (E.seq (E.block (E.seq (E.reg ?_))))))
        obtain ⟨x293, ex293, hm⟩ := bindS hm
        refine L.ix (r := (rP (rK .i64) (rP (rK .i64) (rK .i64)))) sl24 h3 Wt.no rfl rfl ex293 rfl fun b294 o294 cc294 me294 rd294 => ?_
        obtain ⟨_, _, rfl, rfl, ⟨_, _, rfl, rfl, rfl⟩⟩ := rd294
        refine L.lg (j := 0) (cs := [.int .i64 x293.1, .int .i64 x293.2.1, .int .i64 x293.2.2]) me294 ag28 Wt.no rfl rfl rfl rfl rfl (L.al (N + 5) zz28 rfl Wt.no rfl fun b295 s296 m297 bx295 => ?_)
        replace m0 := m0.trans m297.no
        replace h3 := h3.mono (m297.le no_No)
        replace h4 := h4.mono (m297.le no_No)
        replace mp38 := mp38.mv m297 no_No no_No (fun _ _ => no_No)
        replace mp41 := mp41.mv m297 no_No no_No (fun _ _ => no_No)
        replace bx9 := bx9.mv m297 no_No
        replace h1 := h1.mono (m297.le no_No)
        replace h2 := h2.mono (m297.le no_No)
        replace bx12 := bx12.mv m297 no_No
        replace bx35 := bx35.mv m297 no_No
        refine L.st (c := [.int .i64 x293.1, .int .i64 x293.2.1, .int .i64 x293.2.2]) (cs' := #[.int .i64 x293.1, .int .i64 x293.2.1, .int .i64 x293.2.2]) bx295 ag28.sz Wt.no rfl rfl rfl rfl rfl (Nat.le_of_ble_eq_true rfl) rfl fun s298 m299 bx295 => ?_
        replace m0 := m0.trans (m299.one up)
        replace h3 := h3.mono (m299.le (tg0 hN))
        replace h4 := h4.mono (m299.le (tg0 hN))
        replace mp38 := mp38.mv m299 (tgN (by decide)) (tg0 hN) (fun i ho => (fmM (by decide)))
        replace mp41 := mp41.mv m299 (tgN (by decide)) (tg0 hN) (fun i ho => (fmM (by decide)))
        replace bx9 := bx9.mv m299 (tgN (by decide))
        replace h1 := h1.mono (m299.le (tg0 hN))
        replace h2 := h2.mono (m299.le (tg0 hN))
        replace bx12 := bx12.mv m299 (tgN (by decide))
        replace bx35 := bx35.mv m299 (tgN (by decide))
        refine L.nil (X.seqN ?_)
        obtain ⟨x317, ex317, hm⟩ := bindS hm
        obtain ⟨x333, ex333, hm⟩ := bindS hm
        refine E.draw [[], [], [1], [], [], [4], [], [], [7], [6, 7, 8], [], [10], [6, 7, 8, 9, 10, 11], [], [], [14], [13, 14, 15], [], [17], [17, 18], [6, 7, 8, 9, 10, 11, 12, 13, 14, 15, 16, 17, 18, 19], [0, 1, 2, 6, 7, 8, 9, 10, 11, 12, 13, 14, 15, 16, 17, 18, 19, 20], [0, 1, 2, 6, 7, 8, 9, 10, 11, 12, 13, 14, 15, 16, 17, 18, 19, 20, 21], [0, 1, 2, 6, 7, 8, 9, 10, 11, 12, 13, 14, 15, 16, 17, 18, 19, 20, 21, 22], [0, 1, 2, 3, 4, 5, 6, 7, 8, 9, 10, 11, 12, 13, 14, 15, 16, 17, 18, 19, 20, 21, 22, 23]] (fun D e sx => Mv (fun t => t = (fam N 0 (mix st106.2.2 x293.2.1)) ∨ t = (fam N 1 (mix st106.2.1 x293.2.1)) ∨ t = (N + 3) ∨ t = (N + 4)) s298 sx ∧ Sub [(12, .pointer (some ⟨b295, 0, none⟩)), (66, .int .i64 st106.1), (65, .int .i64 (p0.2.2.2.length : Int)), (64, .slice a3 p0.2.2.2.length c3), (10, .map (some b41)), (9, .map (some b38)), (8, .pointer (some ⟨b35, 0, none⟩)), (4, .pointer (some ⟨b12, 0, none⟩)), (2, .pointer (some ⟨b9, 0, none⟩)), (1, .slice a4 p1.length c4)] e ∧ (D 0 = true → (Env.get e 70 = some (.map (some b38)))) ∧ (D 1 = true → (Env.get e 71 = some (.pointer (some ⟨b295, 1, none⟩)))) ∧ (D 2 = true → (Env.get e 72 = some (.int .i64 x293.2.1))) ∧ (D 3 = true → (Env.get e 73 = some (.map (some b41)))) ∧ (D 4 = true → (Env.get e 74 = some (.pointer (some ⟨b295, 1, none⟩)))) ∧ (D 5 = true → (Env.get e 75 = some (.int .i64 x293.2.1))) ∧ (D 6 = true → (Env.get e 76 = some (.map (some b38)))) ∧ (D 7 = true → (Env.get e 77 = some (.pointer (some ⟨b295, 1, none⟩)))) ∧ (D 8 = true → (Env.get e 78 = some (.int .i64 x293.2.1))) ∧ (D 9 = true → (∃ (a310 : Option Addr) (c310 : Nat), Env.get e 79 = some (.slice a310 (mgetD [] st106.2.2 x293.2.1).length c310))) ∧ (D 10 = true → (Env.get e 80 = some (.agg #[.int .i64 x293.1, .int .i64 x293.2.1, .int .i64 x293.2.2]))) ∧ (D 11 = true → (∃ (b313 : Nat), Env.get e 81 = some (.slice (some ⟨b313, 0, none⟩) ([x293] : List (Int × Int × Int)).length (([x293] : List (Int × Int × Int)).length)) ∧ RdL (rP (rK .i64) (rP (rK .i64) (rK .i64))) sx (some ⟨b313, 0, none⟩) (([x293] : List (Int × Int × Int)).length) ([x293] : List (Int × Int × Int)))) ∧ (D 12 = true → (∃ (a318 : Option Addr) (c318 : Nat), Env.get e 82 = some (.slice a318 x317.length c318))) ∧ (D 13 = true → (Env.get e 83 = some (.map (some b41)))) ∧ (D 14 = true → (Env.get e 84 = some (.pointer (some ⟨b295, 1, none⟩)))) ∧ (D 15 = true → (Env.get e 85 = some (.int .i64 x293.2.1))) ∧ (D 16 = true → (∃ (a325 : Option Addr) (c325 : Nat), Env.get e 86 = some (.slice a325 (mgetD [] st106.2.1 x293.2.1).length c325))) ∧ (D 17 = true → (Env.get e 87 = some (.pointer (some ⟨b295, 0, none⟩)))) ∧ (D 18 = true → (Env.get e 88 = some (.int .i64 x293.1))) ∧ (D 19 = true → (∃ (b329 : Nat), Env.get e 89 = some (.slice (some ⟨b329, 0, none⟩) ([x293.1] : List Int).length (([x293.1] : List Int).length)) ∧ RdL (rK .i64) sx (some ⟨b329, 0, none⟩) (([x293.1] : List Int).length) ([x293.1] : List Int))) ∧ (D 20 = true → (∃ (a334 : Option Addr) (c334 : Nat), Env.get e 90 = some (.slice a334 x333.length c334))) ∧ (D 21 = true → (∃ (v338 : Value) (w338 : Int), Env.get e 91 = some (.tuple #[v338, .int .i64 w338]))) ∧ (D 22 = true → ∀ (v338 : Value) (w338 : Int), Env.get e 91 = some (.tuple #[v338, .int .i64 w338]) → (Env.get e 92 = some (.int .i64 w338))) ∧ (D 9 = false → MapW (rP (rK .i64) (rP (rK .i64) (rK .i64))) sx N 0 (N + 3) 28 b38 st106.2.2 none) ∧ (D 9 = true → D 12 = false → ∀ (a310 : Option Addr) (c310 : Nat), Env.get e 79 = some (.slice a310 (mgetD [] st106.2.2 x293.2.1).length c310) → RowT (rP (rK .i64) (rP (rK .i64) (rK .i64))) sx (fam N 0 (mix st106.2.2 x293.2.1)) 28 a310 c310 (mgetD [] st106.2.2 x293.2.1) ∧ MapW (rP (rK .i64) (rP (rK .i64) (rK .i64))) sx N 0 (N + 3) 28 b38 st106.2.2 (some x293.2.1)) ∧ (D 12 = true → D 21 = false → ∀ (a318 : Option Addr) (c318 : Nat), Env.get e 82 = some (.slice a318 x317.length c318) → RowT (rP (rK .i64) (rP (rK .i64) (rK .i64))) sx (fam N 0 (mix st106.2.2 x293.2.1)) 28 a318 c318 x317 ∧ MapW (rP (rK .i64) (rP (rK .i64) (rK .i64))) sx N 0 (N + 3) 28 b38 st106.2.2 (some x293.2.1)) ∧ (D 21 = true → D 23 = false → ∀ (a318 : Option Addr) (c318 : Nat) (v338 : Value) (w338 : Int), Env.get e 82 = some (.slice a318 x317.length c318) → Env.get e 91 = some (.tuple #[v338, .int .i64 w338]) → RowT (rP (rK .i64) (rP (rK .i64) (rK .i64))) sx (fam N 0 (mix st106.2.2 x293.2.1)) 28 a318 c318 x317 ∧ MapE (rP (rK .i64) (rP (rK .i64) (rK .i64))) sx N 0 (N + 3) 28 b38 st106.2.2 x293.2.1 w338) ∧ (D 23 = true → MapW (rP (rK .i64) (rP (rK .i64) (rK .i64))) sx N 0 (N + 3) 28 b38 (mput st106.2.2 x293.2.1 x317) none) ∧ (D 16 = false → MapW (rK .i64) sx N 1 (N + 4) 3 b41 st106.2.1 none) ∧ (D 16 = true → D 20 = false → ∀ (a325 : Option Addr) (c325 : Nat), Env.get e 86 = some (.slice a325 (mgetD [] st106.2.1 x293.2.1).length c325) → RowT (rK .i64) sx (fam N 1 (mix st106.2.1 x293.2.1)) 3 a325 c325 (mgetD [] st106.2.1 x293.2.1) ∧ MapW (rK .i64) sx N 1 (N + 4) 3 b41 st106.2.1 (some x293.2.1)) ∧ (D 20 = true → D 24 = false → ∀ (a334 : Option Addr) (c334 : Nat), Env.get e 90 = some (.slice a334 x333.length c334) → RowT (rK .i64) sx (fam N 1 (mix st106.2.1 x293.2.1)) 3 a334 c334 x333 ∧ MapW (rK .i64) sx N 1 (N + 4) 3 b41 st106.2.1 (some x293.2.1)) ∧ (D 24 = true → MapW (rK .i64) sx N 1 (N + 4) 3 b41 (mput st106.2.1 x293.2.1 x333) none)) (by kernel_rfl) (by kernel_rfl) (by kernel_rfl) ?_ ?_ ?_
        ·intro sz mz
         exact ⟨mz.no, (Sub.rf rfl), nofun, nofun, nofun, nofun, nofun, nofun, nofun, nofun, nofun, nofun, nofun, nofun, nofun, nofun, nofun, nofun, nofun, nofun, nofun, nofun, nofun, nofun, nofun, fun _ => mp38.mv mz no_No no_No (fun _ _ => no_No), nofun, nofun, nofun, nofun, fun _ => mp41.mv mz no_No no_No (fun _ _ => no_No), nofun, nofun, nofun⟩
        ·refine ⟨?_, ?_, ?_, ?_, ?_, ?_, ?_, ?_, ?_, ?_, ?_, ?_, ?_, ?_, ?_, ?_, ?_, ?_, ?_, ?_, ?_, ?_, ?_, ?_, ?_, trivial⟩
         ·rintro D e s300 ⟨im, ib, i0, t_⟩ hk hf ha
          have kn : Kn e [(9, .map (some b38))] := ⟨(ib 9 _ rfl), trivial⟩
          exact L.kns _ kn (L.mv Wt.no rfl rfl (L.nil (X.dk kn ⟨im, Sub.fresh ib rfl, fun _ => rfl, t_⟩)))
         ·rintro D e s301 ⟨im, ib, i0, i1, t_⟩ hk hf ha
          have kn : Kn e [(12, .pointer (some ⟨b295, 0, none⟩))] := ⟨(ib 12 _ rfl), trivial⟩
          exact L.kns _ kn (L.fa fa28_1 Wt.no rfl rfl (L.nil (X.dk kn ⟨im, Sub.fresh ib rfl, i0, fun _ => rfl, t_⟩)))
         ·rintro D e s302 ⟨im, ib, i0, i1, i2, t_⟩ hk hf ha
          obtain ⟨d1, -⟩ := ha
          have g1_ := i1 d1
          have bx295 := bx295.mv im (nor (fmN (by decide)) (nor (fmN (by decide)) (nor (tgN (by decide)) (tgN (by decide)))))
          have kn : Kn e [(71, .pointer (some ⟨b295, 1, none⟩))] := ⟨g1_, trivial⟩
          exact L.kns _ kn (L.ld (j := 1) bx295.mem nag3 Wt.no rfl rfl rfl rfl (L.nil (X.dk kn ⟨im, Sub.fresh ib rfl, i0, i1, fun _ => rfl, t_⟩)))
         ·rintro D e s303 ⟨im, ib, i0, i1, i2, i3, t_⟩ hk hf ha
          have kn : Kn e [(10, .map (some b41))] := ⟨(ib 10 _ rfl), trivial⟩
          exact L.kns _ kn (L.mv Wt.no rfl rfl (L.nil (X.dk kn ⟨im, Sub.fresh ib rfl, i0, i1, i2, fun _ => rfl, t_⟩)))
         ·rintro D e s304 ⟨im, ib, i0, i1, i2, i3, i4, t_⟩ hk hf ha
          have kn : Kn e [(12, .pointer (some ⟨b295, 0, none⟩))] := ⟨(ib 12 _ rfl), trivial⟩
          exact L.kns _ kn (L.fa fa28_1 Wt.no rfl rfl (L.nil (X.dk kn ⟨im, Sub.fresh ib rfl, i0, i1, i2, i3, fun _ => rfl, t_⟩)))
         ·rintro D e s305 ⟨im, ib, i0, i1, i2, i3, i4, i5, t_⟩ hk hf ha
          obtain ⟨d4, -⟩ := ha
          have g4_ := i4 d4
          have bx295 := bx295.mv im (nor (fmN (by decide)) (nor (fmN (by decide)) (nor (tgN (by decide)) (tgN (by decide)))))
          have kn : Kn e [(74, .pointer (some ⟨b295, 1, none⟩))] := ⟨g4_, trivial⟩
          exact L.kns _ kn (L.ld (j := 1) bx295.mem nag3 Wt.no rfl rfl rfl rfl (L.nil (X.dk kn ⟨im, Sub.fresh ib rfl, i0, i1, i2, i3, i4, fun _ => rfl, t_⟩)))
         ·rintro D e s306 ⟨im, ib, i0, i1, i2, i3, i4, i5, i6, t_⟩ hk hf ha
          have kn : Kn e [(9, .map (some b38))] := ⟨(ib 9 _ rfl), trivial⟩
          exact L.kns _ kn (L.mv Wt.no rfl rfl (L.nil (X.dk kn ⟨im, Sub.fresh ib rfl, i0, i1, i2, i3, i4, i5, fun _ => rfl, t_⟩)))
         ·rintro D e s307 ⟨im, ib, i0, i1, i2, i3, i4, i5, i6, i7, t_⟩ hk hf ha
          have kn : Kn e [(12, .pointer (some ⟨b295, 0, none⟩))] := ⟨(ib 12 _ rfl), trivial⟩
          exact L.kns _ kn (L.fa fa28_1 Wt.no rfl rfl (L.nil (X.dk kn ⟨im, Sub.fresh ib rfl, i0, i1, i2, i3, i4, i5, i6, fun _ => rfl, t_⟩)))
         ·rintro D e s308 ⟨im, ib, i0, i1, i2, i3, i4, i5, i6, i7, i8, t_⟩ hk hf ha
          obtain ⟨d7, -⟩ := ha
          have g7_ := i7 d7
          have bx295 := bx295.mv im (nor (fmN (by decide)) (nor (fmN (by decide)) (nor (tgN (by decide)) (tgN (by decide)))))
          have kn : Kn e [(77, .pointer (some ⟨b295, 1, none⟩))] := ⟨g7_, trivial⟩
          exact L.kns _ kn (L.ld (j := 1) bx295.mem nag3 Wt.no rfl rfl rfl rfl (L.nil (X.dk kn ⟨im, Sub.fresh ib rfl, i0, i1, i2, i3, i4, i5, i6, i7, fun _ => rfl, t_⟩)))
         ·rintro D e s309 ⟨im, ib, i0, i1, i2, i3, i4, i5, i6, i7, i8, i9, i10, i11, i12, i13, i14, i15, i16, i17, i18, i19, i20, i21, i22, i23, i24, t_⟩ hk hf ha
          obtain ⟨d6, d7, d8, -⟩ := ha
          have g6_ := i6 d6
          have g8_ := i8 d8
          obtain mp38 := i23 hk
          have kn : Kn e [(76, .map (some b38)), (78, .int .i64 x293.2.1)] := ⟨g6_, g8_, trivial⟩
          exact L.kns _ kn (L.mlw (r := (rP (rK .i64) (rP (rK .i64) (rK .i64)))) mpt91 mp38 Wt.no rfl rfl rfl fun a310 c310 h310 mp38 => L.nil (X.dk kn ⟨im, Sub.fresh ib rfl, i0, i1, i2, i3, i4, i5, i6, i7, i8, fun _ => ⟨a310, c310, rfl⟩, i10, i11, i12, i13, i14, i15, i16, i17, i18, i19, i20, i21, i22, fun z => Bool.noConfusion (show true = false from z), fun _ _ _ _ q9 => by cases (show some (.slice a310 (mgetD [] st106.2.2 x293.2.1).length c310 : Value) = some _ from q9); exact ⟨h310, mp38⟩, t_⟩))
         ·rintro D e s311 ⟨im, ib, i0, i1, i2, i3, i4, i5, i6, i7, i8, i9, i10, t_⟩ hk hf ha
          have bx295 := bx295.mv im (nor (fmN (by decide)) (nor (fmN (by decide)) (nor (tgN (by decide)) (tgN (by decide)))))
          have kn : Kn e [(12, .pointer (some ⟨b295, 0, none⟩))] := ⟨(ib 12 _ rfl), trivial⟩
          exact L.kns _ kn (L.lg (j := 0) (cs := [.int .i64 x293.1, .int .i64 x293.2.1, .int .i64 x293.2.2]) bx295.mem ag28 Wt.no rfl rfl rfl rfl rfl (L.nil (X.dk kn ⟨im, Sub.fresh ib rfl, i0, i1, i2, i3, i4, i5, i6, i7, i8, i9, fun _ => rfl, t_⟩)))
         ·rintro D e s312 ⟨im, ib, i0, i1, i2, i3, i4, i5, i6, i7, i8, i9, i10, i11, i12, i13, i14, i15, i16, i17, i18, i19, i20, i21, i22, i23, i24, i25, i26, i27, i28, i29, i30, i31⟩ hk hf ha
          obtain ⟨d10, -⟩ := ha
          have g10_ := i10 d10
          have kn : Kn e [(80, .agg #[.int .i64 x293.1, .int .i64 x293.2.1, .int .i64 x293.2.2])] := ⟨g10_, trivial⟩
          refine L.kns _ kn (L.bsE (k := 1) (cs := [.int .i64 x293.1, .int .i64 x293.2.1, .int .i64 x293.2.2]) 0 bs24 (Nat.le_of_ble_eq_true rfl) Wt.no rfl rfl rfl rfl fun b313 s314 m315 bx313 => ?_)
          have h313 := Bx.rdL (r := (rP (rK .i64) (rP (rK .i64) (rK .i64)))) (xs := ([x293] : List (Int × Int × Int))) bx313 ⟨[.int .i64 x293.1, .int .i64 x293.2.1, .int .i64 x293.2.2], _, rfl, ⟨[.int .i64 x293.1], [.int .i64 x293.2.1, .int .i64 x293.2.2], rfl, rfl, ⟨[.int .i64 x293.2.1], [.int .i64 x293.2.2], rfl, rfl, rfl⟩⟩, rfl⟩ (Nat.le_of_ble_eq_true rfl)
          exact L.nil (X.dk kn ⟨im.trans m315.no, Sub.fresh ib rfl, i0, i1, i2, i3, i4, i5, i6, i7, i8, i9, i10, fun _ => ⟨b313, rfl, h313⟩, i12, i13, i14, i15, i16, i17, i18, fun z => let ⟨b329, q, h329⟩ := i19 z; ⟨b329, q, (h329.mono (m315.le no_No))⟩, i20, i21, i22, fun z2 => ((i23 z2).mv m315 no_No no_No (fun _ _ => no_No)), fun z z2 a310 c310 q9 => let ⟨h310, mp38⟩ := i24 z z2 a310 c310 q9; ⟨(h310.mv m315 no_No no_No), (mp38.mv m315 no_No no_No (fun _ _ => no_No))⟩, fun z z2 a318 c318 q12 => let ⟨h318, mp38⟩ := i25 z z2 a318 c318 q12; ⟨(h318.mv m315 no_No no_No), (mp38.mv m315 no_No no_No (fun _ _ => no_No))⟩, fun z z2 a318 c318 v338 w338 q12 q21 => let ⟨h318, mp38⟩ := i26 z z2 a318 c318 v338 w338 q12 q21; ⟨(h318.mv m315 no_No no_No), (mp38.mv m315 no_No no_No (fun _ _ => no_No))⟩, fun z => ((i27 z).mv m315 no_No no_No (fun _ _ => no_No)), fun z2 => ((i28 z2).mv m315 no_No no_No (fun _ _ => no_No)), fun z z2 a325 c325 q16 => let ⟨h325, mp41⟩ := i29 z z2 a325 c325 q16; ⟨(h325.mv m315 no_No no_No), (mp41.mv m315 no_No no_No (fun _ _ => no_No))⟩, fun z z2 a334 c334 q20 => let ⟨h334, mp41⟩ := i30 z z2 a334 c334 q20; ⟨(h334.mv m315 no_No no_No), (mp41.mv m315 no_No no_No (fun _ _ => no_No))⟩, fun z => ((i31 z).mv m315 no_No no_No (fun _ _ => no_No))⟩)
         ·rintro D e s316 ⟨im, ib, i0, i1, i2, i3, i4, i5, i6, i7, i8, i9, i10, i11, i12, i13, i14, i15, i16, i17, i18, i19, i20, i21, i22, i23, i24, i25, i26, i27, i28, i29, i30, i31⟩ hk hf ha
          obtain ⟨d6, d7, d8, d9, d10, d11, -⟩ := ha
          obtain ⟨a310, c310, g9_⟩ := i9 d9
          obtain ⟨b313, g11_, h313⟩ := i11 d11
          obtain ⟨h310, mp38⟩ := i24 d9 hk a310 c310 g9_
          have kn : Kn e [(79, .slice a310 (mgetD [] st106.2.2 x293.2.1).length c310), (81, .slice (some ⟨b313, 0, none⟩) ([x293] : List (Int × Int × Int)).length (([x293] : List (Int × Int × Int)).length))] := ⟨g9_, g11_, trivial⟩
          exact L.kns _ kn (L.ap (r := (rP (rK .i64) (rP (rK .i64) (rK .i64)))) Try.underlying24 el28 rfl (tgpF hN) h310 h313.wk Wt.no rfl rfl ex317 rfl fun a318 c318 s319 m320 h318 => L.nil (X.dk kn ⟨im.trans (m320.one (.inl rfl)), Sub.fresh ib rfl, i0, i1, i2, i3, i4, i5, i6, i7, i8, i9, i10, fun z => let ⟨b313, q, h313⟩ := i11 z; ⟨b313, q, (h313.mono (m320.le (fm0 hN)))⟩, fun _ => ⟨a318, c318, rfl⟩, i13, i14, i15, i16, i17, i18, fun z => let ⟨b329, q, h329⟩ := i19 z; ⟨b329, q, (h329.mono (m320.le (fm0 hN)))⟩, i20, i21, i22, fun z2 => absurd (show D 9 = false from z2) (by rw [d9]; exact Bool.noConfusion), fun _ z => Bool.noConfusion (show true = false from z), fun _ _ _ _ q12 => by cases (show some (.slice a318 x317.length c318 : Value) = some _ from q12); exact ⟨h318, (mp38.mv m320 (fmN (by decide)) (fm0 hN) (fun i ho => (fam_ne (Ne.symm (ho _ rfl)))))⟩, fun z => Bool.noConfusion ((hf 21 (Nat.le_of_ble_eq_true rfl) rfl).symm.trans z), fun z => Bool.noConfusion ((hf 23 (Nat.le_of_ble_eq_true rfl) rfl).symm.trans z), fun z2 => ((i28 z2).mv m320 (fmN (by decide)) (fm0 hN) (fun i ho => (fmQ (by decide)))), fun z z2 a325 c325 q16 => let ⟨h325, mp41⟩ := i29 z z2 a325 c325 q16; ⟨(h325.mv m320 (fmQ (by decide)) (fm0 hN)), (mp41.mv m320 (fmN (by decide)) (fm0 hN) (fun i ho => (fmQ (by decide))))⟩, fun z z2 a334 c334 q20 => let ⟨h334, mp41⟩ := i30 z z2 a334 c334 q20; ⟨(h334.mv m320 (fmQ (by decide)) (fm0 hN)), (mp41.mv m320 (fmN (by decide)) (fm0 hN) (fun i ho => (fmQ (by decide))))⟩, fun z => ((i31 z).mv m320 (fmN (by decide)) (fm0 hN) (fun i ho => (fmQ (by decide))))⟩))
         ·rintro D e s321 ⟨im, ib, i0, i1, i2, i3, i4, i5, i6, i7, i8, i9, i10, i11, i12, i13, t_⟩ hk hf ha
          have kn : Kn e [(10, .map (some b41))] := ⟨(ib 10 _ rfl), trivial⟩
          exact L.kns _ kn (L.mv Wt.no rfl rfl (L.nil (X.dk kn ⟨im, Sub.fresh ib rfl, i0, i1, i2, i3, i4, i5, i6, i7, i8, i9, i10, i11, i12, fun _ => rfl, t_⟩)))
         ·rintro D e s322 ⟨im, ib, i0, i1, i2, i3, i4, i5, i6, i7, i8, i9, i10, i11, i12, i13, i14, t_⟩ hk hf ha
          have kn : Kn e [(12, .pointer (some ⟨b295, 0, none⟩))] := ⟨(ib 12 _ rfl), trivial⟩
          exact L.kns _ kn (L.fa fa28_1 Wt.no rfl rfl (L.nil (X.dk kn ⟨im, Sub.fresh ib rfl, i0, i1, i2, i3, i4, i5, i6, i7, i8, i9, i10, i11, i12, i13, fun _ => rfl, t_⟩)))
         ·rintro D e s323 ⟨im, ib, i0, i1, i2, i3, i4, i5, i6, i7, i8, i9, i10, i11, i12, i13, i14, i15, t_⟩ hk hf ha
          obtain ⟨d14, -⟩ := ha
          have g14_ := i14 d14
          have bx295 := bx295.mv im (nor (fmN (by decide)) (nor (fmN (by decide)) (nor (tgN (by decide)) (tgN (by decide)))))
          have kn : Kn e [(84, .pointer (some ⟨b295, 1, none⟩))] := ⟨g14_, trivial⟩
          exact L.kns _ kn (L.ld (j := 1) bx295.mem nag3 Wt.no rfl rfl rfl rfl (L.nil (X.dk kn ⟨im, Sub.fresh ib rfl, i0, i1, i2, i3, i4, i5, i6, i7, i8, i9, i10, i11, i12, i13, i14, fun _ => rfl, t_⟩)))
         ·rintro D e s324 ⟨im, ib, i0, i1, i2, i3, i4, i5, i6, i7, i8, i9, i10, i11, i12, i13, i14, i15, i16, i17, i18, i19, i20, i21, i22, i23, i24, i25, i26, i27, i28, i29, t_⟩ hk hf ha
          obtain ⟨d13, d14, d15, -⟩ := ha
          have g13_ := i13 d13
          have g15_ := i15 d15
          obtain mp41 := i28 hk
          have kn : Kn e [(83, .map (some b41)), (85, .int .i64 x293.2.1)] := ⟨g13_, g15_, trivial⟩
          exact L.kns _ kn (L.mlw (r := (rK .i64)) mpt92 mp41 Wt.no rfl rfl rfl fun a325 c325 h325 mp41 => L.nil (X.dk kn ⟨im, Sub.fresh ib rfl, i0, i1, i2, i3, i4, i5, i6, i7, i8, i9, i10, i11, i12, i13, i14, i15, fun _ => ⟨a325, c325, rfl⟩, i17, i18, i19, i20, i21, i22, i23, i24, i25, i26, i27, fun z => Bool.noConfusion (show true = false from z), fun _ _ _ _ q16 => by cases (show some (.slice a325 (mgetD [] st106.2.1 x293.2.1).length c325 : Value) = some _ from q16); exact ⟨h325, mp41⟩, t_⟩))
         ·rintro D e s326 ⟨im, ib, i0, i1, i2, i3, i4, i5, i6, i7, i8, i9, i10, i11, i12, i13, i14, i15, i16, i17, t_⟩ hk hf ha
          have kn : Kn e [(12, .pointer (some ⟨b295, 0, none⟩))] := ⟨(ib 12 _ rfl), trivial⟩
          exact L.kns _ kn (L.fa fa28_0 Wt.no rfl rfl (L.nil (X.dk kn ⟨im, Sub.fresh ib rfl, i0, i1, i2, i3, i4, i5, i6, i7, i8, i9, i10, i11, i12, i13, i14, i15, i16, fun _ => rfl, t_⟩)))
         ·rintro D e s327 ⟨im, ib, i0, i1, i2, i3, i4, i5, i6, i7, i8, i9, i10, i11, i12, i13, i14, i15, i16, i17, i18, t_⟩ hk hf ha
          obtain ⟨d17, -⟩ := ha
          have g17_ := i17 d17
          have bx295 := bx295.mv im (nor (fmN (by decide)) (nor (fmN (by decide)) (nor (tgN (by decide)) (tgN (by decide)))))
          have kn : Kn e [(87, .pointer (some ⟨b295, 0, none⟩))] := ⟨g17_, trivial⟩
          exact L.kns _ kn (L.ld (j := 0) bx295.mem nag3 Wt.no rfl rfl rfl rfl (L.nil (X.dk kn ⟨im, Sub.fresh ib rfl, i0, i1, i2, i3, i4, i5, i6, i7, i8, i9, i10, i11, i12, i13, i14, i15, i16, i17, fun _ => rfl, t_⟩)))
         ·rintro D e s328 ⟨im, ib, i0, i1, i2, i3, i4, i5, i6, i7, i8, i9, i10, i11, i12, i13, i14, i15, i16, i17, i18, i19, i20, i21, i22, i23, i24, i25, i26, i27, i28, i29, i30, i31⟩ hk hf ha
          obtain ⟨d17, d18, -⟩ := ha
          have g18_ := i18 d18
          have kn : Kn e [(88, .int .i64 x293.1)] := ⟨g18_, trivial⟩
          refine L.kns _ kn (L.bsE (k := 1) (cs := [.int .i64 x293.1]) 0 bs23 (Nat.le_of_ble_eq_true rfl) Wt.no rfl rfl rfl rfl fun b329 s330 m331 bx329 => ?_)
          have h329 := Bx.rdL (r := (rK .i64)) (xs := ([x293.1] : List Int)) bx329 ⟨[.int .i64 x293.1], _, rfl, rfl, rfl⟩ (Nat.le_of_ble_eq_true rfl)
          exact L.nil (X.dk kn ⟨im.trans m331.no, Sub.fresh ib rfl, i0, i1, i2, i3, i4, i5, i6, i7, i8, i9, i10, fun z => let ⟨b313, q, h313⟩ := i11 z; ⟨b313, q, (h313.mono (m331.le no_No))⟩, i12, i13, i14, i15, i16, i17, i18, fun _ => ⟨b329, rfl, h329⟩, i20, i21, i22, fun z2 => ((i23 z2).mv m331 no_No no_No (fun _ _ => no_No)), fun z z2 a310 c310 q9 => let ⟨h310, mp38⟩ := i24 z z2 a310 c310 q9; ⟨(h310.mv m331 no_No no_No), (mp38.mv m331 no_No no_No (fun _ _ => no_No))⟩, fun z z2 a318 c318 q12 => let ⟨h318, mp38⟩ := i25 z z2 a318 c318 q12; ⟨(h318.mv m331 no_No no_No), (mp38.mv m331 no_No no_No (fun _ _ => no_No))⟩, fun z z2 a318 c318 v338 w338 q12 q21 => let ⟨h318, mp38⟩ := i26 z z2 a318 c318 v338 w338 q12 q21; ⟨(h318.mv m331 no_No no_No), (mp38.mv m331 no_No no_No (fun _ _ => no_No))⟩, fun z => ((i27 z).mv m331 no_No no_No (fun _ _ => no_No)), fun z2 => ((i28 z2).mv m331 no_No no_No (fun _ _ => no_No)), fun z z2 a325 c325 q16 => let ⟨h325, mp41⟩ := i29 z z2 a325 c325 q16; ⟨(h325.mv m331 no_No no_No), (mp41.mv m331 no_No no_No (fun _ _ => no_No))⟩, fun z z2 a334 c334 q20 => let ⟨h334, mp41⟩ := i30 z z2 a334 c334 q20; ⟨(h334.mv m331 no_No no_No), (mp41.mv m331 no_No no_No (fun _ _ => no_No))⟩, fun z => ((i31 z).mv m331 no_No no_No (fun _ _ => no_No))⟩)
         ·rintro D e s332 ⟨im, ib, i0, i1, i2, i3, i4, i5, i6, i7, i8, i9, i10, i11, i12, i13, i14, i15, i16, i17, i18, i19, i20, i21, i22, i23, i24, i25, i26, i27, i28, i29, i30, i31⟩ hk hf ha
          obtain ⟨d6, d7, d8, d9, d10, d11, d12, d13, d14, d15, d16, d17, d18, d19, -⟩ := ha
          obtain ⟨a325, c325, g16_⟩ := i16 d16
          obtain ⟨b329, g19_, h329⟩ := i19 d19
          obtain ⟨h325, mp41⟩ := i29 d16 hk a325 c325 g16_
          have kn : Kn e [(86, .slice a325 (mgetD [] st106.2.1 x293.2.1).length c325), (89, .slice (some ⟨b329, 0, none⟩) ([x293.1] : List Int).length (([x293.1] : List Int).length))] := ⟨g16_, g19_, trivial⟩
          exact L.kns _ kn (L.ap (r := (rK .i64)) Try.underlying23 el3 rfl (tgpF hN) h325 h329.wk Wt.no rfl rfl ex333 rfl fun a334 c334 s335 m336 h334 => L.nil (X.dk kn ⟨im.trans (m336.one (.inr (.inl rfl))), Sub.fresh ib rfl, i0, i1, i2, i3, i4, i5, i6, i7, i8, i9, i10, fun z => let ⟨b313, q, h313⟩ := i11 z; ⟨b313, q, (h313.mono (m336.le (fm0 hN)))⟩, i12, i13, i14, i15, i16, i17, i18, fun z => let ⟨b329, q, h329⟩ := i19 z; ⟨b329, q, (h329.mono (m336.le (fm0 hN)))⟩, fun _ => ⟨a334, c334, rfl⟩, i21, i22, fun z2 => ((i23 z2).mv m336 (fmN (by decide)) (fm0 hN) (fun i ho => (fmQ (by decide)))), fun z z2 a310 c310 q9 => let ⟨h310, mp38⟩ := i24 z z2 a310 c310 q9; ⟨(h310.mv m336 (fmQ (by decide)) (fm0 hN)), (mp38.mv m336 (fmN (by decide)) (fm0 hN) (fun i ho => (fmQ (by decide))))⟩, fun z z2 a318 c318 q12 => let ⟨h318, mp38⟩ := i25 z z2 a318 c318 q12; ⟨(h318.mv m336 (fmQ (by decide)) (fm0 hN)), (mp38.mv m336 (fmN (by decide)) (fm0 hN) (fun i ho => (fmQ (by decide))))⟩, fun z z2 a318 c318 v338 w338 q12 q21 => let ⟨h318, mp38⟩ := i26 z z2 a318 c318 v338 w338 q12 q21; ⟨(h318.mv m336 (fmQ (by decide)) (fm0 hN)), (mp38.mv m336 (fmN (by decide)) (fm0 hN) (fun i ho => (fmQ (by decide))))⟩, fun z => ((i27 z).mv m336 (fmN (by decide)) (fm0 hN) (fun i ho => (fmQ (by decide)))), fun z2 => absurd (show D 16 = false from z2) (by rw [d16]; exact Bool.noConfusion), fun _ z => Bool.noConfusion (show true = false from z), fun _ _ _ _ q20 => by cases (show some (.slice a334 x333.length c334 : Value) = some _ from q20); exact ⟨h334, (mp41.mv m336 (fmN (by decide)) (fm0 hN) (fun i ho => (fam_ne (Ne.symm (ho _ rfl)))))⟩, fun z => Bool.noConfusion ((hf 24 (Nat.le_of_ble_eq_true rfl) rfl).symm.trans z)⟩))
         ·rintro D e s337 ⟨im, ib, i0, i1, i2, i3, i4, i5, i6, i7, i8, i9, i10, i11, i12, i13, i14, i15, i16, i17, i18, i19, i20, i21, i22, i23, i24, i25, i26, i27, i28, i29, i30, i31⟩ hk hf ha
          obtain ⟨d0, d1, d2, d6, d7, d8, d9, d10, d11, d12, d13, d14, d15, d16, d17, d18, d19, d20, -⟩ := ha
          have g0_ := i0 d0
          have g2_ := i2 d2
          obtain ⟨a318, c318, g12_⟩ := i12 d12
          obtain ⟨h318, mp38⟩ := i25 d12 hk a318 c318 g12_
          have kn : Kn e [(70, .map (some b38)), (72, .int .i64 x293.2.1)] := ⟨g0_, g2_, trivial⟩
          exact L.kns _ kn (L.men (r := (rP (rK .i64) (rP (rK .i64) (rK .i64)))) mpt91 mp38 (fun _ => fam_neN (by decide)) (tpos hN) Wt.no rfl rfl rfl fun v338 w338 s339 m340 mp38 => L.nil (X.dk kn ⟨im.trans (m340.one (.inr (.inr (.inl rfl)))), Sub.fresh ib rfl, i0, i1, i2, i3, i4, i5, i6, i7, i8, i9, i10, fun z => let ⟨b313, q, h313⟩ := i11 z; ⟨b313, q, (h313.mono (m340.le (tg0 hN)))⟩, i12, i13, i14, i15, i16, i17, i18, fun z => let ⟨b329, q, h329⟩ := i19 z; ⟨b329, q, (h329.mono (m340.le (tg0 hN)))⟩, i20, fun _ => ⟨v338, w338, rfl⟩, fun z => Bool.noConfusion ((hf 22 (Nat.le_of_ble_eq_true rfl) rfl).symm.trans z), fun z2 => absurd (show D 9 = false from z2) (by rw [d9]; exact Bool.noConfusion), fun z z2 a310 c310 q9 => absurd (show D 12 = false from z2) (by rw [d12]; exact Bool.noConfusion), fun _ z => Bool.noConfusion (show true = false from z), fun _ _ _ _ _ _ q12 q21 => by cases g12_.symm.trans q12; cases (show some (.tuple #[v338, .int .i64 w338] : Value) = some _ from q21); exact ⟨(h318.mv m340 (fmM (by decide)) (tg0 hN)), mp38⟩, fun z => Bool.noConfusion ((hf 23 (Nat.le_of_ble_eq_true rfl) rfl).symm.trans z), fun z2 => ((i28 z2).mv m340 (tgN (by decide)) (tg0 hN) (fun i ho => (fmM (by decide)))), fun z z2 a325 c325 q16 => let ⟨h325, mp41⟩ := i29 z z2 a325 c325 q16; ⟨(h325.mv m340 (fmM (by decide)) (tg0 hN)), (mp41.mv m340 (tgN (by decide)) (tg0 hN) (fun i ho => (fmM (by decide))))⟩, fun z z2 a334 c334 q20 => let ⟨h334, mp41⟩ := i30 z z2 a334 c334 q20; ⟨(h334.mv m340 (fmM (by decide)) (tg0 hN)), (mp41.mv m340 (tgN (by decide)) (tg0 hN) (fun i ho => (fmM (by decide))))⟩, fun z => ((i31 z).mv m340 (tgN (by decide)) (tg0 hN) (fun i ho => (fmM (by decide))))⟩))
         ·rintro D e s341 ⟨im, ib, i0, i1, i2, i3, i4, i5, i6, i7, i8, i9, i10, i11, i12, i13, i14, i15, i16, i17, i18, i19, i20, i21, i22, t_⟩ hk hf ha
          obtain ⟨d0, d1, d2, d6, d7, d8, d9, d10, d11, d12, d13, d14, d15, d16, d17, d18, d19, d20, d21, -⟩ := ha
          obtain ⟨v338, w338, g21_⟩ := i21 d21
          have kn : Kn e [(91, .tuple #[v338, .int .i64 w338])] := ⟨g21_, trivial⟩
          exact L.kns _ kn (L.ex Wt.no rfl rfl rfl (L.nil (X.dk kn ⟨im, Sub.fresh ib rfl, i0, i1, i2, i3, i4, i5, i6, i7, i8, i9, i10, i11, i12, i13, i14, i15, i16, i17, i18, i19, i20, i21, fun _ _ _ q21 => by cases g21_.symm.trans q21; exact rfl, t_⟩)))
         ·rintro D e s342 ⟨im, ib, i0, i1, i2, i3, i4, i5, i6, i7, i8, i9, i10, i11, i12, i13, i14, i15, i16, i17, i18, i19, i20, i21, i22, i23, i24, i25, i26, i27, i28, i29, i30, i31⟩ hk hf ha
          obtain ⟨d0, d1, d2, d6, d7, d8, d9, d10, d11, d12, d13, d14, d15, d16, d17, d18, d19, d20, d21, d22, -⟩ := ha
          have g0_ := i0 d0
          obtain ⟨a318, c318, g12_⟩ := i12 d12
          obtain ⟨v338, w338, g21_⟩ := i21 d21
          have g22_ := i22 d22 v338 w338 g21_
          obtain ⟨h318, mp38⟩ := i26 d21 hk a318 c318 v338 w338 g12_ g21_
          have kn : Kn e [(70, .map (some b38)), (92, .int .i64 w338), (82, .slice a318 x317.length c318)] := ⟨g0_, g22_, g12_, trivial⟩
          exact L.kns _ kn (L.mes (r := (rP (rK .i64) (rP (rK .i64) (rK .i64)))) mp38 h318 (fun _ => fam_neN (by decide)) (tpos hN) Wt.no rfl rfl rfl fun s343 m344 mp38 => L.nil (X.dn kn ⟨im.trans (m344.one (.inr (.inr (.inl rfl)))), ib, i0, i1, i2, i3, i4, i5, i6, i7, i8, i9, i10, fun z => let ⟨b313, q, h313⟩ := i11 z; ⟨b313, q, (h313.mono (m344.le (tg0 hN)))⟩, i12, i13, i14, i15, i16, i17, i18, fun z => let ⟨b329, q, h329⟩ := i19 z; ⟨b329, q, (h329.mono (m344.le (tg0 hN)))⟩, i20, i21, i22, fun z2 => absurd (show D 9 = false from z2) (by rw [d9]; exact Bool.noConfusion), fun z z2 a310 c310 q9 => absurd (show D 12 = false from z2) (by rw [d12]; exact Bool.noConfusion), fun z z2 a318 c318 q12 => absurd (show D 21 = false from z2) (by rw [d21]; exact Bool.noConfusion), fun _ z => Bool.noConfusion (show true = false from z), fun _ => by exact mp38, fun z2 => ((i28 z2).mv m344 (tgN (by decide)) (tg0 hN) (fun i ho => (fmM (by decide)))), fun z z2 a325 c325 q16 => let ⟨h325, mp41⟩ := i29 z z2 a325 c325 q16; ⟨(h325.mv m344 (fmM (by decide)) (tg0 hN)), (mp41.mv m344 (tgN (by decide)) (tg0 hN) (fun i ho => (fmM (by decide))))⟩, fun z z2 a334 c334 q20 => let ⟨h334, mp41⟩ := i30 z z2 a334 c334 q20; ⟨(h334.mv m344 (fmM (by decide)) (tg0 hN)), (mp41.mv m344 (tgN (by decide)) (tg0 hN) (fun i ho => (fmM (by decide))))⟩, fun z => ((i31 z).mv m344 (tgN (by decide)) (tg0 hN) (fun i ho => (fmM (by decide))))⟩))
         ·rintro D e s345 ⟨im, ib, i0, i1, i2, i3, i4, i5, i6, i7, i8, i9, i10, i11, i12, i13, i14, i15, i16, i17, i18, i19, i20, i21, i22, i23, i24, i25, i26, i27, i28, i29, i30, i31⟩ hk hf ha
          obtain ⟨d0, d1, d2, d3, d4, d5, d6, d7, d8, d9, d10, d11, d12, d13, d14, d15, d16, d17, d18, d19, d20, d21, d22, d23, -⟩ := ha
          have g3_ := i3 d3
          have g5_ := i5 d5
          obtain ⟨a334, c334, g20_⟩ := i20 d20
          obtain ⟨h334, mp41⟩ := i30 d20 hk a334 c334 g20_
          have kn : Kn e [(73, .map (some b41)), (75, .int .i64 x293.2.1), (90, .slice a334 x333.length c334)] := ⟨g3_, g5_, g20_, trivial⟩
          exact L.kns _ kn (L.mup (r := (rK .i64)) mpt92 mp41 h334 (fun _ => fam_neN (by decide)) (tpos hN) Wt.no rfl rfl rfl fun s346 m347 mp41 => L.nil (X.dn kn ⟨im.trans (m347.one (.inr (.inr (.inr rfl)))), ib, i0, i1, i2, i3, i4, i5, i6, i7, i8, i9, i10, fun z => let ⟨b313, q, h313⟩ := i11 z; ⟨b313, q, (h313.mono (m347.le (tg0 hN)))⟩, i12, i13, i14, i15, i16, i17, i18, fun z => let ⟨b329, q, h329⟩ := i19 z; ⟨b329, q, (h329.mono (m347.le (tg0 hN)))⟩, i20, i21, i22, fun z2 => ((i23 z2).mv m347 (tgN (by decide)) (tg0 hN) (fun i ho => (fmM (by decide)))), fun z z2 a310 c310 q9 => let ⟨h310, mp38⟩ := i24 z z2 a310 c310 q9; ⟨(h310.mv m347 (fmM (by decide)) (tg0 hN)), (mp38.mv m347 (tgN (by decide)) (tg0 hN) (fun i ho => (fmM (by decide))))⟩, fun z z2 a318 c318 q12 => let ⟨h318, mp38⟩ := i25 z z2 a318 c318 q12; ⟨(h318.mv m347 (fmM (by decide)) (tg0 hN)), (mp38.mv m347 (tgN (by decide)) (tg0 hN) (fun i ho => (fmM (by decide))))⟩, fun z z2 a318 c318 v338 w338 q12 q21 => let ⟨h318, mp38⟩ := i26 z z2 a318 c318 v338 w338 q12 q21; ⟨(h318.mv m347 (fmM (by decide)) (tg0 hN)), (mp38.mv m347 (tgN (by decide)) (tg0 hN) (fun i ho => (fmM (by decide))))⟩, fun z => ((i27 z).mv m347 (tgN (by decide)) (tg0 hN) (fun i ho => (fmM (by decide)))), fun z2 => absurd (show D 16 = false from z2) (by rw [d16]; exact Bool.noConfusion), fun z z2 a325 c325 q16 => absurd (show D 20 = false from z2) (by rw [d20]; exact Bool.noConfusion), fun _ z => Bool.noConfusion (show true = false from z), fun _ => by exact mp41⟩))
        ·rintro D e s348 hD ⟨im, ib, i0, i1, i2, i3, i4, i5, i6, i7, i8, i9, i10, i11, i12, i13, i14, i15, i16, i17, i18, i19, i20, i21, i22, i23, i24, i25, i26, i27, i28, i29, i30, i31⟩
         obtain mp38 := i27 (hD 23 rfl)
         obtain mp41 := i31 (hD 24 rfl)
         have h3 := h3.mono (im.le (nor (fm0 hN) (nor (fm0 hN) (nor (tg0 hN) (tg0 hN)))))
         have bx35 := bx35.mv im (nor (fmN (by decide)) (nor (fmN (by decide)) (nor (tgN (by decide)) (tgN (by decide)))))
         have bx12 := bx12.mv im (nor (fmN (by decide)) (nor (fmN (by decide)) (nor (tgN (by decide)) (tgN (by decide)))))
         have bx9 := bx9.mv im (nor (fmN (by decide)) (nor (fmN (by decide)) (nor (tgN (by decide)) (tgN (by decide)))))
         have h1 := h1.mono (im.le (nor (fm0 hN) (nor (fm0 hN) (nor (tg0 hN) (tg0 hN)))))
         have h2 := h2.mono (im.le (nor (fm0 hN) (nor (fm0 hN) (nor (tg0 hN) (tg0 hN)))))
         have h4 := h4.mono (im.le (nor (fm0 hN) (nor (fm0 hN) (nor (tg0 hN) (tg0 hN)))))
         have m0 := m0.trans (im.weak fun _ e => by rcases e with e | e | e | e; (rw [e]; exact upF); (rw [e]; exact upF); (rw [e]; exact up); (rw [e]; exact up))
         refine X.sub (e' := [(66, .int .i64 st106.1), (65, .int .i64 (p0.2.2.2.length : Int)), (64, .slice a3 p0.2.2.2.length c3), (10, .map (some b41)), (9, .map (some b38)), (8, .pointer (some ⟨b35, 0, none⟩)), (4, .pointer (some ⟨b12, 0, none⟩)), (2, .pointer (some ⟨b9, 0, none⟩)), (1, .slice a4 p1.length c4)]) ?_ (Sub.cons (ib 66 _ rfl) (Sub.cons (ib 65 _ rfl) (Sub.cons (ib 64 _ rfl) (Sub.cons (ib 10 _ rfl) (Sub.cons (ib 9 _ rfl) (Sub.cons (ib 8 _ rfl) (Sub.cons (ib 4 _ rfl) (Sub.cons (ib 2 _ rfl) (Sub.cons (ib 1 _ rfl) Sub.nil)))))))))
         exact X.blkN (X.seqN (E.reg (L.bi Wt.no rfl rfl rfl rfl (L.mv Wt.no rfl rfl (L.nil (X.sub (ih106 _ (Option.some.inj hm).symm _ _ ⟨s348, m0, h3, mp41, mp38, h4, h1, h2, bx9, bx12, bx35, rfl, rfl⟩) (Sub.rf rfl)))))))
       ·refine E.cF rfl hc (E.exit (X.seqX (X.seqX ?_)))
        have hx := ho106 _ (Option.some.inj hm).symm
        subst hx
        exact X.sub (K292 _ _ ⟨s109, m0, mp41, mp38, h4, h1, h2, h3, bx9, bx12, bx35, rfl, rfl⟩) (Sub.rf rfl)
     ·intro J349
      rcases Bool.eq_false_or_eq_true (decide (p0.2.1 > 64)) with hc | hc
      ·exact L.know (d := 46) rfl hc (L.skip rfl rfl rfl rfl (L.skip rfl rfl rfl rfl (L.skip rfl rfl rfl rfl (L.skip rfl rfl rfl rfl (L.pkT Wt.no rfl rfl rfl rfl (L.sb (J349 _ _ ⟨true, (orT hc).symm, rfl, rfl⟩) rfl))))))
      ·exact L.know (d := 46) rfl hc (L.fa fa26_3 (Wt.mk rfl rfl) rfl rfl (L.ld (j := 3) bx9.mem nag24 (Wt.mk rfl rfl) rfl rfl rfl rfl (L.len sl24 (Wt.mk rfl rfl) rfl rfl (L.bi (Wt.mk rfl rfl) rfl rfl rfl rfl (L.pkF Wt.no rfl rfl rfl rfl (L.sb (J349 _ _ ⟨(decide ((p0.2.2.2.length : Int) > 256)), (orF hc).symm, rfl, rfl⟩) rfl))))))

theorem fa32_0 : FA Try.prog 32 0 0 := FA.mk Try.underlying32 rfl rfl ⟨1, by decide, by kernel_rfl⟩
theorem fa32_1 : FA Try.prog 32 1 1 := FA.mk Try.underlying32 rfl rfl ⟨1, by decide, by kernel_rfl⟩
theorem fa32_2 : FA Try.prog 32 2 2 := FA.mk Try.underlying32 rfl rfl ⟨1, by decide, by kernel_rfl⟩
theorem fa32_3 : FA Try.prog 32 3 3 := FA.mk Try.underlying32 rfl rfl ⟨1, by decide, by kernel_rfl⟩
theorem fa32_4 : FA Try.prog 32 4 4 := FA.mk Try.underlying32 rfl rfl ⟨1, by decide, by kernel_rfl⟩
theorem nag29 : NAg Try.prog 29 := NAg.mk' Try.underlying29 rfl (by kernel_rfl)
theorem pl130 : Pl Try.prog 130 (plK 1 3 0) [.int .i64 0, .int .i64 0, .int .i64 0] := Pl.arr Try.underlying130 (by kernel_rfl) (by kernel_rfl)
noncomputable def m_instruction_checkHead_l1 (p0 : Int × Int × Int × List Bool × (List (Int × Int))) (st11 : Int) : Option (Int ⊕ (Unit ⊕ Unit)) :=
  if decide (st11 < 3) then
    (idx ([p0.1, p0.2.1, p0.2.2.1] : List Int) st11).bind fun x19 =>
    if ((decide (x19 < 0)) || (decide (x19 > 256))) then
      some (.inr (.inr (())))
    else
      some (.inl (W (st11 + 1)))
  else
    some (.inr (.inl ()))
/-- What instruction.checkHead computes. -/
noncomputable def m_instruction_checkHead (p0 : Int × Int × Int × List Bool × (List (Int × Int))) : Option Int :=
  (iter (m_instruction_checkHead_l1 p0) 0).bind fun o11 =>
  match o11 with
  | .inl u13 =>
    if ((p0.2.2.2.1.length : Int) != p0.2.2.1) then
      some 4
    else
      if decide ((p0.2.2.2.2.length : Int) > 2048) then
        some 3
      else
        some 0
  | .inr (u16) =>
    some 2
set_option maxRecDepth 100000 in
set_option maxHeartbeats 8000000 in
theorem m_instruction_checkHead_c {s : Sig} {p0 : Int × Int × Int × List Bool × (List (Int × Int))} {a1 : Option Addr} {c1 : Nat} {a2 : Option Addr} {c2 : Nat} {r : Int} (h1 : RdL rB s a1 c1 p0.2.2.2.1) (h2 : RdL (rP (rK .i64) (rK .i64)) s a2 c2 p0.2.2.2.2) (hm : m_instruction_checkHead p0 = some r) :
    Calls Try.prog 57 #[.agg #[.int .i64 p0.1, .int .i64 p0.2.1, .int .i64 p0.2.2.1, .slice a1 p0.2.2.2.1.length c1, .slice a2 p0.2.2.2.2.length c2]] s.w (RetS No s fun v s' => v = .int .i64 r) := by
 unfold m_instruction_checkHead at hm
 obtain ⟨N, hN, hNb⟩ := s.fresh
 have m0 : Mv (Up N No) s s := Mv.refl _ _
 refine E.entry Try.func57 rfl Try.ntmps57 rfl rfl (E.seq (E.reg (L.box (N + 0) Wt.no rfl rfl rfl fun b3 s4 m5 bx3 => ?_)))
 replace m0 := m0.trans m5.no
 replace h1 := h1.mono (m5.le no_No)
 replace h2 := h2.mono (m5.le no_No)
 refine L.as Wt.no rfl rfl (L.nil (X.seqN (E.seq (E.seq (E.reg (L.fa fa32_0 Wt.no rfl rfl (L.ld (j := 0) bx3.mem nag3 Wt.no rfl rfl rfl rfl (L.fa fa32_1 Wt.no rfl rfl (L.ld (j := 1) bx3.mem nag3 Wt.no rfl rfl rfl rfl (L.fa fa32_2 Wt.no rfl rfl (L.ld (j := 2) bx3.mem nag3 Wt.no rfl rfl rfl rfl (L.bu (cs := [.int .i64 p0.1, .int .i64 p0.2.1, .int .i64 p0.2.2.1]) pl130 Wt.no rfl rfl rfl (L.mv Wt.no rfl rfl (L.nil (X.seqN (E.block ?_))))))))))))))))
 obtain ⟨o11, eo11, hm⟩ := bindS hm
 refine E.cut (x := .exit 0) (fun e w => ∃ (s14 : Sig) (u13 : Unit), o11 = .inl u13 ∧ Mv (Up N No) s s14 ∧ RdL rB s14 a1 c1 p0.2.2.2.1 ∧ RdL (rP (rK .i64) (rK .i64)) s14 a2 c2 p0.2.2.2.2 ∧ Bx s14 (N + 0) b3 #[.int .i64 p0.1, .int .i64 p0.2.1, .int .i64 p0.2.2.1, .slice a1 p0.2.2.2.1.length c1, .slice a2 p0.2.2.2.2.length c2] 32 ∧ e = [(1, .pointer (some ⟨b3, 0, none⟩))] ∧ w = s14.w) ?_ ?_
 ·rintro _ _ ⟨s14, u13, rfl, m0, h1, h2, bx3, rfl, rfl⟩
  dsimp only at hm
  refine X.blkE (X.seqN (E.seq (E.block (E.seq (E.reg (L.fa fa32_3 Wt.no rfl rfl (L.ld (j := 3) bx3.mem nag29 Wt.no rfl rfl rfl rfl (L.len sl29 Wt.no rfl rfl (L.fa fa32_2 Wt.no rfl rfl (L.ld (j := 2) bx3.mem nag3 Wt.no rfl rfl rfl rfl (L.bi Wt.no rfl rfl rfl rfl (L.as Wt.no rfl rfl (L.nil (X.seqN ?_))))))))))))))
  rcases ifS hm with ⟨hc, hm⟩ | ⟨hc, hm⟩
  ·refine E.cT rfl hc (E.seq (E.reg (L.as Wt.no rfl rfl (L.nil (X.seqN (E.ret (X.blkR (X.seqR ?_))))))))
   obtain rfl := Option.some.inj hm
   exact X.rt (.inl rfl) Try.results57 (Rs.tmp rfl Rs.nil) rfl ⟨_, (s14).ren N (fun _ => 0), rfl, rfl, m0.ren hNb, rfl⟩
  ·refine E.cF rfl hc (E.seq (E.reg (L.fa fa32_4 Wt.no rfl rfl (L.ld (j := 4) bx3.mem nag30 Wt.no rfl rfl rfl rfl (L.len sl30 Wt.no rfl rfl (L.bi Wt.no rfl rfl rfl rfl (L.as Wt.no rfl rfl (L.nil (X.seqN ?_)))))))))
   rcases ifS hm with ⟨hc, hm⟩ | ⟨hc, hm⟩
   ·refine E.cT rfl hc (E.seq (E.reg (L.as Wt.no rfl rfl (L.nil (X.seqN (E.ret (X.blkR (X.seqR ?_))))))))
    obtain rfl := Option.some.inj hm
    exact X.rt (.inl rfl) Try.results57 (Rs.tmp rfl Rs.nil) rfl ⟨_, (s14).ren N (fun _ => 0), rfl, rfl, m0.ren hNb, rfl⟩
   ·refine E.cF rfl hc (E.skip (X.blkN (X.seqN (E.seq (E.reg (L.as Wt.no rfl rfl (L.nil (X.seqN (E.ret ?_)))))))))
    obtain rfl := Option.some.inj hm
    exact X.rt (.inl rfl) Try.results57 (Rs.tmp rfl Rs.nil) rfl ⟨_, (s14).ren N (fun _ => 0), rfl, rfl, m0.ren hNb, rfl⟩
 intro K15
 refine E.cut (x := .ret) (fun e w => ∃ (s17 : Sig) (u16 : Unit), o11 = .inr (u16) ∧ Mv (Up N No) s s17 ∧ e = [(2, .int .i64 2)] ∧ w = s17.w) ?_ ?_
 ·rintro _ _ ⟨s17, u16, rfl, m0, rfl, rfl⟩
  dsimp only at hm
  refine X.blkR (X.seqR ?_)
  obtain rfl := Option.some.inj hm
  exact X.rt (.inl rfl) Try.results57 (Rs.tmp rfl Rs.nil) rfl ⟨_, (s17).ren N (fun _ => 0), rfl, rfl, m0.ren hNb, rfl⟩
 intro K18
 refine E.iter (fun (st11 : Int) (e : List (Nat × Value)) (w : World) => ∃ (s12 : Sig), Mv (Up N No) s s12 ∧ RdL rB s12 a1 c1 p0.2.2.2.1 ∧ RdL (rP (rK .i64) (rK .i64)) s12 a2 c2 p0.2.2.2.2 ∧ Bx s12 (N + 0) b3 #[.int .i64 p0.1, .int .i64 p0.2.1, .int .i64 p0.2.2.1, .slice a1 p0.2.2.2.1.length c1, .slice a2 p0.2.2.2.2.length c2] 32 ∧ e = [(12, .int .i64 st11), (11, .agg #[.int .i64 p0.1, .int .i64 p0.2.1, .int .i64 p0.2.2.1]), (1, .pointer (some ⟨b3, 0, none⟩))] ∧ w = s12.w) eo11 ⟨s4, m0, h1, h2, bx3, rfl, rfl⟩ (Sub.rf rfl) ?_
 rintro st11 res11 hm ih11 ho11 _ _ ⟨s12, m0, h1, h2, bx3, rfl, rfl⟩
 unfold m_instruction_checkHead_l1 at hm
 refine E.seq (E.reg (L.bi Wt.no rfl rfl rfl rfl (L.nil (X.seqN (E.seq ?_)))))
 rcases ifS hm with ⟨hc, hm⟩ | ⟨hc, hm⟩
 ·refine E.cT rfl hc (E.skip (X.seqN (E.seq (E.block (E.seq (E.reg ?_))))))
  obtain ⟨x19, ex19, hm⟩ := bindS hm
  refine L.in1 (v := Value.int .i64 x19) (vs := [.int .i64 p0.1, .int .i64 p0.2.1, .int .i64 p0.2.2.1]) nag3.sz nag3.agg Try.underlying130 Wt.no rfl rfl rfl (show idx [Value.int .i64 p0.1, Value.int .i64 p0.2.1, Value.int .i64 p0.2.2.1] st11 = some (Value.int .i64 x19) from idx_map (f := fun z => Value.int .i64 z) ex19) rfl (L.as Wt.no rfl rfl (L.nil (X.seqN (E.seq (E.reg (L.mv Wt.no rfl rfl (L.bi Wt.no rfl rfl rfl rfl (L.mv Wt.no rfl rfl (L.cut 3 (fun e w => ∃ (v20 : Bool), ((decide (x19 < 0)) || (decide (x19 > 256))) = v20 ∧ e = (20, .bool v20) :: [(12, .int .i64 st11), (11, .agg #[.int .i64 p0.1, .int .i64 p0.2.1, .int .i64 p0.2.2.1]), (1, .pointer (some ⟨b3, 0, none⟩))] ∧ w = s12.w) ?_ ?_)))))))))
  ·rintro _ _ ⟨v20, rfl, rfl, rfl⟩
   refine L.nil (X.seqN ?_)
   rcases ifS hm with ⟨hc, hm⟩ | ⟨hc, hm⟩
   ·refine E.cT rfl hc (E.seq (E.reg (L.as Wt.no rfl rfl (L.nil (X.seqN (E.ret (X.blkR (X.seqR (X.seqR ?_)))))))))
    have hx := ho11 _ (Option.some.inj hm).symm
    exact X.sub (K18 _ _ ⟨s12, (), hx.symm, m0, rfl, rfl⟩) (Sub.rf rfl)
   ·exact E.cF rfl hc (E.skip (X.blkN (X.seqN (E.reg (L.bi Wt.no rfl rfl rfl rfl (L.mv Wt.no rfl rfl (L.nil (X.sub (ih11 _ (Option.some.inj hm).symm _ _ ⟨s12, m0, h1, h2, bx3, rfl, rfl⟩) (Sub.rf rfl)))))))))
  ·intro J21
   rcases Bool.eq_false_or_eq_true (decide (x19 < 0)) with hc | hc
   ·exact L.know (d := 17) rfl hc (L.skip rfl rfl rfl rfl (L.skip rfl rfl rfl rfl (L.pkT Wt.no rfl rfl rfl rfl (L.sb (J21 _ _ ⟨true, (orT hc).symm, rfl, rfl⟩) rfl))))
   ·exact L.know (d := 17) rfl hc (L.mv (Wt.mk rfl rfl) rfl rfl (L.bi (Wt.mk rfl rfl) rfl rfl rfl rfl (L.pkF Wt.no rfl rfl rfl rfl (L.sb (J21 _ _ ⟨(decide (x19 > 256)), (orF hc).symm, rfl, rfl⟩) rfl))))
 ·refine E.cF rfl hc (E.exit (X.seqX (X.seqX ?_)))
  have hx := ho11 _ (Option.some.inj hm).symm
  exact X.sub (K15 _ _ ⟨s12, (), hx.symm, m0, h1, h2, bx3, rfl, rfl⟩) (Sub.rf rfl)

/-- What instruction.operations$1 computes. -/
noncomputable def m_instruction_operations_1 (p0 : Bool) (p1 : Bool) : Option Bool :=
  some p1
set_option maxRecDepth 100000 in
set_option maxHeartbeats 8000000 in
theorem m_instruction_operations_1_c {s : Sig} {p0 : Bool} {p1 : Bool} {r : Bool} (hm : m_instruction_operations_1 p0 p1 = some r) :
    Calls Try.prog 87 #[.bool p0, .bool p1] s.w (RetS No s fun v s' => v = .bool r) := by
 unfold m_instruction_operations_1 at hm
 obtain ⟨N, hN, hNb⟩ := s.fresh
 have m0 : Mv (Up N No) s s := Mv.refl _ _
 refine E.entry Try.func87 rfl Try.ntmps87 rfl rfl (E.seq (E.reg (L.as Wt.no rfl rfl (L.nil (X.seqN (E.seq (E.reg (L.mv Wt.no rfl rfl (L.as Wt.no rfl rfl (L.nil (X.seqN (E.ret ?_))))))))))))
 obtain rfl := Option.some.inj hm
 exact X.rt (.inl rfl) Try.results87 (Rs.tmp rfl Rs.nil) rfl ⟨_, (s).ren N (fun _ => 0), rfl, rfl, m0.ren hNb, rfl⟩

/-- What instruction.operations$2 computes. -/
noncomputable def m_instruction_operations_2 (p0 : Bool) (p1 : Bool) : Option Bool :=
  some (!p1)
set_option maxRecDepth 100000 in
set_option maxHeartbeats 8000000 in
theorem m_instruction_operations_2_c {s : Sig} {p0 : Bool} {p1 : Bool} {r : Bool} (hm : m_instruction_operations_2 p0 p1 = some r) :
    Calls Try.prog 88 #[.bool p0, .bool p1] s.w (RetS No s fun v s' => v = .bool r) := by
 unfold m_instruction_operations_2 at hm
 obtain ⟨N, hN, hNb⟩ := s.fresh
 have m0 : Mv (Up N No) s s := Mv.refl _ _
 refine E.entry Try.func88 rfl Try.ntmps88 rfl rfl (E.seq (E.reg (L.as Wt.no rfl rfl (L.nil (X.seqN (E.seq (E.reg (L.mv Wt.no rfl rfl (L.not Wt.no rfl rfl (L.as Wt.no rfl rfl (L.nil (X.seqN (E.ret ?_)))))))))))))
 obtain rfl := Option.some.inj hm
 exact X.rt (.inl rfl) Try.results88 (Rs.tmp rfl Rs.nil) rfl ⟨_, (s).ren N (fun _ => 0), rfl, rfl, m0.ren hNb, rfl⟩

end Go.Proofs.Ytkkemchihllklaa

namespace Go.Proofs.Ytkkemchihllklaa

/-- An instruction: its operation and its operand. -/
structure Ins where
  op : Int
  arg : Int
/-- The accumulator, where the operand's bit is v. -/
def insAcc (x : Ins) (acc v : Bool) : Bool :=
  if x.op = 1 then v else if x.op = 2 then !v else if x.op = 3 then acc && v else if x.op = 4 then acc && !v else if x.op = 5 then acc || v else if x.op = 6 then acc || !v else acc
/-- The instructions L lie at place s. -/
def LiesAt (P : List Ins) (s : Nat) (L : List Ins) : Prop := ∀ (k : Nat) (x : Ins), L[k]? = some x → P[s + k]? = some x
theorem LiesAt.left {P : List Ins} {s : Nat} {L M : List Ins} (h : LiesAt P s (L ++ M)) : LiesAt P s L := fun k x hx => h k x (by rw [List.getElem?_append_left (List.getElem?_eq_some_iff.1 hx).1]; exact hx)
theorem LiesAt.tail {P : List Ins} {s : Nat} {x : Ins} {L : List Ins} (h : LiesAt P s (x :: L)) : LiesAt P (s + 1) L := fun k y hy => by
  have := h (k + 1) y hy
  rwa [show s + (k + 1) = s + 1 + k by omega] at this

/-- How an edge is followed: instructions. -/
def edgeI (moved : Nat) (e : Nat × Nat) : List Ins := [⟨1, e.1⟩, ⟨4, moved⟩, ⟨10, e.1⟩, ⟨9, e.2⟩, ⟨9, moved⟩]
/-- How an event is handled, where the list so far has s instructions. -/
def eventI (input moved alarm : Nat) (es : List (Nat × Nat)) (s : Nat) : List Ins :=
  [⟨2, input⟩, ⟨12, ((s + 6 + 5 * es.length : Nat) : Int)⟩, ⟨1, input⟩, ⟨10, moved⟩] ++ (es.flatMap (edgeI moved) ++ [⟨2, moved⟩, ⟨9, alarm⟩])
theorem flatMap_len5 (moved : Nat) : ∀ es : List (Nat × Nat), (es.flatMap (edgeI moved)).length = 5 * es.length
  | [] => rfl
  | e :: es => by rw [List.flatMap_cons, List.length_append, flatMap_len5 moved es, List.length_cons]; simp [edgeI]; omega
theorem eventI_len (input moved alarm : Nat) (es : List (Nat × Nat)) (s : Nat) : (eventI input moved alarm es s).length = 6 + 5 * es.length := by
  unfold eventI
  rw [List.length_append, List.length_append, flatMap_len5]
  simp
  omega
end Go.Proofs.Ytkkemchihllklaa

namespace Go.Proofs.Ytkkemchihllklaa

/-- An output that is set in some states: instructions. -/
def commandI (o : Nat) : List Nat → List Ins
  | [] => [⟨1, o⟩, ⟨4, o⟩, ⟨7, o⟩]
  | m :: ms => ⟨1, m⟩ :: (ms.map (fun k : Nat => (⟨5, k⟩ : Ins)) ++ [⟨7, o⟩])
/-- All events, and all commands. -/
def eventsI (moved alarm : Nat) : List (Nat × List (Nat × Nat)) → Nat → List Ins
  | [], _ => []
  | (i, es) :: l, s => eventI i moved alarm es s ++ eventsI moved alarm l (s + (6 + 5 * es.length))
def commandsI (l : List (Nat × List Nat)) : List Ins := l.flatMap fun c => commandI c.1 c.2
/-- Jumps lead forward, in a list that lies at place s. -/
def LocFwd (s : Nat) (L : List Ins) : Prop := ∀ (k : Nat) (x : Ins), L[k]? = some x → (x.op < 1 ∨ 11 ≤ x.op) → ((s + k : Nat) : Int) < x.arg
theorem LocFwd.append {s : Nat} {L M : List Ins} (h : LocFwd s L) (h' : LocFwd (s + L.length) M) : LocFwd s (L ++ M) := by
  intro k x hx ho
  by_cases hk : k < L.length
  · exact h k x (by rwa [List.getElem?_append_left hk] at hx) ho
  · rw [List.getElem?_append_right (by omega)] at hx
    have := h' (k - L.length) x hx ho
    omega
theorem LocFwd.plain {s : Nat} {L : List Ins} (h : ∀ x ∈ L, 1 ≤ x.op ∧ x.op < 11) : LocFwd s L := by
  intro k x hx ho
  have := h x (List.mem_of_getElem? hx)
  omega
/-- The whole list. -/
def genI (moved alarm : Nat) (evs : List (Nat × List (Nat × Nat))) (cms : List (Nat × List Nat)) : List Ins := eventsI moved alarm evs 0 ++ commandsI cms
/-- What the bits show: the inputs, the state, the alarm; m inputs, c commands, n states. -/
structure View (m c n : Nat) (inp : List Bool) (s : Nat) (al : Bool) (b : List Bool) : Prop where
  len : b.length = m + (c + 1) + (n + 1)
  inp : ∀ j, j < m → b.getD j false = inp.getD j false
  one : ∀ j, j < n → b.getD (m + (c + 1) + j) false = decide (j = s)
  al : b.getD (m + c) false = al
end Go.Proofs.Ytkkemchihllklaa

namespace Go.Proofs.Ytkkemchihllklaa
open Go.RowKit

/-- An automaton. -/
structure Aut where
  al : List Int
  n : Int
  ms : List Int
  es : List Ed
/-- The first error of the edges; p is the edge before. -/
def edErr (al : List Int) (n : Int) : Option Ed → List Ed → Int
  | _, [] => 0
  | p, x :: xs => if (x.f < 0 ∨ n ≤ x.f ∨ x.t < 0 ∨ n ≤ x.t) then 2 else if hasB al x.e = false then 9 else if (∃ q, p = some q ∧ (x.f < q.f ∨ (x.f = q.f ∧ x.e ≤ q.e))) then 5 else edErr al n (some x) xs
end Go.Proofs.Ytkkemchihllklaa

namespace Go.Proofs.Ytkkemchihllklaa
open Go.RowKit

/-- The error of an automaton. -/
def Aut.err (a : Aut) : Int :=
  if (setErr 32 none a.al != 0) = true then setErr 32 none a.al else if a.n < 0 then 2 else if 4096 < a.n then 3 else if (setErr a.n none a.ms != 0) = true then setErr a.n none a.ms else edErr a.al a.n none a.es

end Go.Proofs.Ytkkemchihllklaa

namespace Go.Proofs.Ytkkemchihllklaa

/-- One edge stands before another. -/
def edLt (x y : Ed) : Prop := x.f < y.f ∨ (x.f = y.f ∧ x.e < y.e)
def Sorted (es : List Ed) : Prop := es.Pairwise edLt
end Go.Proofs.Ytkkemchihllklaa

namespace Go.Proofs.Ytkkemchihllklaa

theorem setErr_ok {n : Int} : ∀ {p : Option Int} {xs : List Int}, xs.Pairwise (· < ·) → (∀ x ∈ xs, 0 ≤ x ∧ x < n) → (∀ q, p = some q → ∀ x ∈ xs, q < x) → setErr n p xs = 0
  | _, [], _, _, _ => rfl
  | p, x :: xs, h, hr, hp => by
    obtain ⟨h1, h2⟩ := List.pairwise_cons.1 h
    have h3 := hr x (List.mem_cons_self ..)
    rw [setErr, if_neg (by omega), if_neg ?_]
    · exact setErr_ok h2 (fun y hy => hr y (List.mem_cons_of_mem _ hy)) (fun q hq y hy => by cases hq; exact h1 y hy)
    · rintro ⟨q, hq, hle⟩
      have := hp q hq x (List.mem_cons_self ..)
      omega
theorem edErr_ok {al : List Int} {n : Int} : ∀ {p : Option Ed} {es : List Ed}, Sorted es → (∀ x ∈ es, 0 ≤ x.f ∧ x.f < n ∧ 0 ≤ x.t ∧ x.t < n ∧ hasB al x.e = true) → (∀ q, p = some q → ∀ x ∈ es, edLt q x) → edErr al n p es = 0
  | _, [], _, _, _ => rfl
  | p, x :: xs, h, hr, hp => by
    obtain ⟨h1, h2⟩ := List.pairwise_cons.1 h
    have h3 := hr x (List.mem_cons_self ..)
    rw [edErr, if_neg (by omega), if_neg (by rw [h3.2.2.2.2]; simp), if_neg ?_]
    · exact edErr_ok h2 (fun y hy => hr y (List.mem_cons_of_mem _ hy)) (fun q hq y hy => by cases hq; exact h1 y hy)
    · rintro ⟨q, hq, hle⟩
      have := hp q hq x (List.mem_cons_self ..)
      unfold edLt at this
      omega
theorem range_pairwise (k : Nat) (p : Nat → Bool) : (((List.range k).filter p).map fun (i : Nat) => (i : Int)).Pairwise (· < ·) := by
  rw [List.pairwise_map]
  refine List.Pairwise.filter _ ?_
  exact List.Pairwise.imp (fun {a b} h => by omega) List.pairwise_lt_range
theorem range_in (k : Nat) (p : Nat → Bool) : ∀ x ∈ ((List.range k).filter p).map fun (i : Nat) => (i : Int), 0 ≤ x ∧ x < (k : Int) := by
  intro x hx
  obtain ⟨i, hi, rfl⟩ := List.mem_map.1 hx
  have := List.mem_range.1 (List.mem_filter.1 hi).1
  omega
end Go.Proofs.Ytkkemchihllklaa

namespace Go.Proofs.Ytkkemchihllklaa

open Go.RowKit in
abbrev Inc (xs : List Int) : Prop := xs.Pairwise (· < ·)
end Go.Proofs.Ytkkemchihllklaa

namespace Go.Proofs.Ytkkemchihllklaa

/-- The events with their edges, the commands with their states. -/
def evsOf (a : Aut) : List (Nat × List (Nat × Nat)) := (List.range a.al.length).map fun i => (i, (a.es.filter fun x => x.e == a.al.getD i 0).map fun x => (x.f.toNat, x.t.toNat))
def cmsOf (a : Aut) (ctrl : List Int) : List (Nat × List Nat) := (List.range ctrl.length).map fun k => (k, (a.es.filter fun x => x.e == ctrl.getD k 0).map fun x => x.f.toNat)
/-- The state behind an event. -/
def stepF (es : List Ed) (s : Nat) (e : Int) : Option Nat := (es.find? fun x => x.f == (s : Int) && x.e == e).map fun x => x.t.toNat
/-- The state behind some events, and whether there is an alarm. -/
def folStep (es : List Ed) (S : Nat × Bool) (e : Int) : Nat × Bool := match stepF es S.1 e with
  | some t => (t, S.2)
  | none => (S.1, true)
/-- The list that is generated. -/
def genP (a : Aut) (ctrl : List Int) : List Ins :=
  genI (a.al.length + (ctrl.length + 1) + a.n.toNat) (a.al.length + ctrl.length)
    ((evsOf a).map fun x => (x.1, x.2.map fun e => (a.al.length + (ctrl.length + 1) + e.1, a.al.length + (ctrl.length + 1) + e.2)))
    ((cmsOf a ctrl).map fun x => (a.al.length + x.1, x.2.map fun y => a.al.length + (ctrl.length + 1) + y))
end Go.Proofs.Ytkkemchihllklaa

namespace Go.Proofs.Ytkkemchihllklaa

/-- A right instruction at place i of a list of N, over W bits of which the first m are inputs. -/
structure InsOk (N W m : Nat) (i : Nat) (x : Ins) : Prop where
  op : 1 ≤ x.op ∧ x.op ≤ 13
  jump : 11 ≤ x.op → (i : Int) < x.arg ∧ x.arg ≤ (N : Int)
  bit : x.op ≤ 10 → 0 ≤ x.arg ∧ x.arg < (W : Int)
  store : 7 ≤ x.op → x.op ≤ 10 → (m : Int) ≤ x.arg
def LocOk (N W m : Nat) (s : Nat) (L : List Ins) : Prop := ∀ (k : Nat) (x : Ins), L[k]? = some x → InsOk N W m (s + k) x
theorem LocOk.append {N W m s : Nat} {L M : List Ins} (h : LocOk N W m s L) (h' : LocOk N W m (s + L.length) M) : LocOk N W m s (L ++ M) := by
  intro k x hx
  by_cases hk : k < L.length
  · exact h k x (by rwa [List.getElem?_append_left hk] at hx)
  · rw [List.getElem?_append_right (by omega)] at hx
    have := h' (k - L.length) x hx
    rwa [show s + L.length + (k - L.length) = s + k by omega] at this
theorem LocOk.plain {N W m s : Nat} {L : List Ins} (h : ∀ x ∈ L, 1 ≤ x.op ∧ x.op ≤ 10 ∧ 0 ≤ x.arg ∧ x.arg < (W : Int) ∧ (7 ≤ x.op → (m : Int) ≤ x.arg)) : LocOk N W m s L := by
  intro k x hx
  have h1 := h x (List.mem_of_getElem? hx)
  exact ⟨by omega, fun h2 => by omega, fun _ => ⟨h1.2.2.1, h1.2.2.2.1⟩, fun h2 _ => h1.2.2.2.2 h2⟩
theorem eventI_ok {N W m : Nat} {i moved alarm : Nat} {es : List (Nat × Nat)} {s : Nat} (hN : s + (6 + 5 * es.length) ≤ N) (hi : i < W) (hm : moved < W) (hm2 : m ≤ moved) (ha : alarm < W) (ha2 : m ≤ alarm) (he : ∀ e ∈ es, e.1 < W ∧ m ≤ e.1 ∧ e.2 < W ∧ m ≤ e.2) : LocOk N W m s (eventI i moved alarm es s) := by
  unfold eventI
  refine LocOk.append ?_ (LocOk.plain ?_)
  · intro k x hx
    match k, hx with
    | 0, hx => cases hx; exact ⟨by dsimp only; omega, fun h => by simp at h, fun _ => by dsimp only; omega, fun h => by simp at h⟩
    | 1, hx => cases hx; exact ⟨by dsimp only; omega, fun _ => ⟨by show ((s + 1 : Nat) : Int) < ((s + 6 + 5 * es.length : Nat) : Int); omega, by show ((s + 6 + 5 * es.length : Nat) : Int) ≤ (N : Int); omega⟩, fun h => by simp at h, fun _ h => by simp at h⟩
    | 2, hx => cases hx; exact ⟨by dsimp only; omega, fun h => by simp at h, fun _ => by dsimp only; omega, fun h => by simp at h⟩
    | 3, hx => cases hx; exact ⟨by dsimp only; omega, fun h => by simp at h, fun _ => by dsimp only; omega, fun _ _ => by dsimp only; omega⟩
    | k + 4, hx => cases hx
  · intro x hx
    rcases List.mem_append.1 hx with h | h
    · obtain ⟨e, hee, h⟩ := List.mem_flatMap.1 h
      have := he e hee
      simp [edgeI] at h
      rcases h with rfl | rfl | rfl | rfl | rfl <;> dsimp only <;> omega
    · simp at h
      rcases h with rfl | rfl <;> dsimp only <;> omega
theorem eventsI_ok {N W m : Nat} {moved alarm : Nat} (hm : moved < W) (hm2 : m ≤ moved) (ha : alarm < W) (ha2 : m ≤ alarm) : ∀ (l : List (Nat × List (Nat × Nat))) {s : Nat}, s + (eventsI moved alarm l s).length ≤ N → (∀ x ∈ l, x.1 < W ∧ ∀ e ∈ x.2, e.1 < W ∧ m ≤ e.1 ∧ e.2 < W ∧ m ≤ e.2) → LocOk N W m s (eventsI moved alarm l s)
  | [], s, _, _ => fun k x hx => by cases hx
  | (i, es) :: l, s, hN, h => by
    rw [eventsI] at hN ⊢
    rw [List.length_append, eventI_len] at hN
    have hx := h (i, es) (List.mem_cons_self ..)
    refine (eventI_ok (es := es) (by omega) hx.1 hm hm2 ha ha2 hx.2).append ?_
    rw [eventI_len]
    exact eventsI_ok hm hm2 ha ha2 l (by omega) (fun y hy => h y (List.mem_cons_of_mem _ hy))
theorem commandsI_ok {N W m s : Nat} {l : List (Nat × List Nat)} (h : ∀ x ∈ l, x.1 < W ∧ m ≤ x.1 ∧ ∀ y ∈ x.2, y < W) : LocOk N W m s (commandsI l) := by
  refine LocOk.plain fun x hx => ?_
  obtain ⟨c, hc, h1⟩ := List.mem_flatMap.1 hx
  obtain ⟨o, ms⟩ := c
  have h2 := h _ hc
  dsimp only at h2
  cases ms with
  | nil =>
    simp [commandI] at h1
    rcases h1 with rfl | rfl | rfl <;> dsimp only <;> omega
  | cons y ms =>
    simp [commandI] at h1
    have hy := h2.2.2 y (List.mem_cons_self ..)
    rcases h1 with rfl | ⟨k, hk, rfl⟩ | rfl
    · dsimp only; omega
    · have := h2.2.2 k (List.mem_cons_of_mem _ hk)
      dsimp only; omega
    · dsimp only; omega
/-- The generated list is right. -/
theorem genP_ok {a : Aut} {ctrl : List Int} {n : Nat} (hn : a.n = n) (hes : ∀ x ∈ a.es, 0 ≤ x.f ∧ x.f < (n : Int) ∧ 0 ≤ x.t ∧ x.t < (n : Int)) :
    ∀ (i : Nat) (x : Ins), (genP a ctrl)[i]? = some x → InsOk (genP a ctrl).length (a.al.length + (ctrl.length + 1) + (n + 1)) a.al.length i x := by
  have h1 := eventsI_ok (N := (genP a ctrl).length) (W := a.al.length + (ctrl.length + 1) + (n + 1)) (m := a.al.length) (moved := a.al.length + (ctrl.length + 1) + n) (alarm := a.al.length + ctrl.length) (by omega) (by omega) (by omega) (by omega)
    ((evsOf a).map fun x => (x.1, x.2.map fun e => (a.al.length + (ctrl.length + 1) + e.1, a.al.length + (ctrl.length + 1) + e.2))) (s := 0) (by
      unfold genP genI
      rw [hn, Int.toNat_natCast, List.length_append]
      omega) (fun x hx => by
      obtain ⟨y, hy, rfl⟩ := List.mem_map.1 hx
      obtain ⟨k, hk, rfl⟩ := List.mem_map.1 hy
      refine ⟨by have := List.mem_range.1 hk; dsimp only; omega, fun e he => ?_⟩
      obtain ⟨z, hz, rfl⟩ := List.mem_map.1 he
      obtain ⟨q, hq, rfl⟩ := List.mem_map.1 hz
      have := hes q (List.mem_filter.1 hq).1
      dsimp only
      omega)
  have h2 := commandsI_ok (N := (genP a ctrl).length) (W := a.al.length + (ctrl.length + 1) + (n + 1)) (m := a.al.length)
    (s := 0 + (eventsI (a.al.length + (ctrl.length + 1) + n) (a.al.length + ctrl.length) ((evsOf a).map fun x => (x.1, x.2.map fun e => (a.al.length + (ctrl.length + 1) + e.1, a.al.length + (ctrl.length + 1) + e.2))) 0).length)
    (l := (cmsOf a ctrl).map fun x => (a.al.length + x.1, x.2.map fun y => a.al.length + (ctrl.length + 1) + y)) (fun x hx => by
      obtain ⟨y, hy, rfl⟩ := List.mem_map.1 hx
      obtain ⟨k, hk, rfl⟩ := List.mem_map.1 hy
      have := List.mem_range.1 hk
      refine ⟨by dsimp only; omega, by dsimp only; omega, fun z hz => ?_⟩
      obtain ⟨q, hq, rfl⟩ := List.mem_map.1 hz
      obtain ⟨r, hr, rfl⟩ := List.mem_map.1 hq
      have := hes r (List.mem_filter.1 hr).1
      omega)
  have h3 := h1.append h2
  intro i x hx
  have h4 : genP a ctrl = eventsI (a.al.length + (ctrl.length + 1) + n) (a.al.length + ctrl.length) ((evsOf a).map fun x => (x.1, x.2.map fun e => (a.al.length + (ctrl.length + 1) + e.1, a.al.length + (ctrl.length + 1) + e.2))) 0 ++ commandsI ((cmsOf a ctrl).map fun x => (a.al.length + x.1, x.2.map fun y => a.al.length + (ctrl.length + 1) + y)) := by
    unfold genP genI
    rw [hn, Int.toNat_natCast]
  rw [h4] at hx
  have := h3 i x hx
  rwa [Nat.zero_add] at this
end Go.Proofs.Ytkkemchihllklaa

namespace Go.Proofs.Ytkkemchihllklaa

theorem countP_or {α : Type} (p q : α → Bool) : ∀ (l : List α), (∀ x ∈ l, p x = true → q x = false) → l.countP (fun x => p x || q x) = l.countP p + l.countP q
  | [], _ => rfl
  | x :: l, h => by
    have ih := countP_or p q l (fun y hy => h y (List.mem_cons_of_mem _ hy))
    have hx := h x (List.mem_cons_self ..)
    rw [List.countP_cons, List.countP_cons, List.countP_cons, ih]
    cases hp : p x with
    | true => rw [hx hp]; simp; omega
    | false => cases hq : q x <;> simp; omega
/-- The edges of some events are no more than all. -/
theorem evs_sum {es : List Ed} {al : List Int} (hn : al.Nodup) : ∀ k, k ≤ al.length → ((List.range k).map fun i => (es.filter fun x => x.e == al.getD i 0).length).sum = es.countP fun x => (al.take k).contains x.e
  | 0, _ => by simp
  | k + 1, hk => by
    have ih := evs_sum (es := es) hn k (by omega)
    rw [List.range_succ, List.map_append, List.sum_append, ih]
    simp only [List.map_cons, List.map_nil, List.sum_cons, List.sum_nil, Nat.add_zero]
    rw [← List.countP_eq_length_filter, ← countP_or]
    · apply List.countP_congr
      intro x _
      have ht : al.take (k + 1) = al.take k ++ [al[k]] := List.take_succ_eq_append_getElem (by omega)
      have hg : al.getD k 0 = al[k] := by rw [List.getD_eq_getElem?_getD, List.getElem?_eq_getElem (by omega)]; rfl
      show ((al.take k).contains x.e || x.e == al.getD k 0) = true ↔ (al.take (k + 1)).contains x.e = true
      rw [ht, hg, Bool.or_eq_true, List.contains_iff_mem, List.contains_iff_mem, List.mem_append, List.mem_singleton, beq_iff_eq]
    · intro x _ hp
      have hm : x.e ∈ al.take k := by simpa using hp
      have hg : al.getD k 0 = al[k] := by rw [List.getD_eq_getElem?_getD, List.getElem?_eq_getElem (by omega)]; rfl
      rw [hg, beq_eq_false_iff_ne]
      intro e
      rw [e] at hm
      obtain ⟨j, hj, hje⟩ := List.mem_iff_getElem.1 hm
      rw [List.length_take] at hj
      rw [List.getElem_take] at hje
      exact (List.pairwise_iff_getElem.1 hn j k (by omega) (by omega) (by omega)) hje
theorem eventsI_len (moved alarm : Nat) : ∀ (l : List (Nat × List (Nat × Nat))) (s : Nat), (eventsI moved alarm l s).length = 6 * l.length + 5 * (l.map fun x => x.2.length).sum
  | [], _ => rfl
  | (i, es) :: l, s => by
    rw [eventsI, List.length_append, eventI_len, eventsI_len moved alarm l, List.map_cons, List.sum_cons, List.length_cons]
    dsimp only
    omega
theorem commandsI_len : ∀ (l : List (Nat × List Nat)), (commandsI l).length ≤ 3 * l.length + (l.map fun x => x.2.length).sum
  | [] => Nat.le_refl _
  | c :: l => by
    have hs : commandsI (c :: l) = commandI c.1 c.2 ++ commandsI l := by simp [commandsI]
    have ih := commandsI_len l
    have hc : (commandI c.1 c.2).length ≤ 3 + c.2.length := by
      cases c.2 with
      | nil => simp [commandI]
      | cons m ms => simp [commandI]; omega
    rw [hs, List.length_append, List.map_cons, List.sum_cons, List.length_cons]
    omega
/-- The generated list is short. -/
theorem genP_len {a : Aut} {ctrl : List Int} (ha : Inc a.al) (hc : Inc ctrl) : (genP a ctrl).length ≤ 6 * a.al.length + 3 * ctrl.length + 6 * a.es.length := by
  have hna : a.al.Nodup := List.Pairwise.imp (fun {x y} (h : x < y) => by omega) ha
  have hnc : ctrl.Nodup := List.Pairwise.imp (fun {x y} (h : x < y) => by omega) hc
  have h1 := evs_sum (es := a.es) hna a.al.length (Nat.le_refl _)
  have h2 := evs_sum (es := a.es) hnc ctrl.length (Nat.le_refl _)
  have h3 := List.countP_le_length (p := fun x : Ed => (a.al.take a.al.length).contains x.e) (l := a.es)
  have h4 := List.countP_le_length (p := fun x : Ed => (ctrl.take ctrl.length).contains x.e) (l := a.es)
  unfold genP genI
  rw [List.length_append, eventsI_len]
  have h5 := commandsI_len ((cmsOf a ctrl).map fun x => (a.al.length + x.1, x.2.map fun y => a.al.length + (ctrl.length + 1) + y))
  have e1 : (((evsOf a).map fun x => (x.1, x.2.map fun e => (a.al.length + (ctrl.length + 1) + e.1, a.al.length + (ctrl.length + 1) + e.2))).map fun x => x.2.length).sum = ((List.range a.al.length).map fun i => (a.es.filter fun x => x.e == a.al.getD i 0).length).sum := by
    unfold evsOf
    rw [List.map_map, List.map_map]
    congr 1
    apply List.map_congr_left
    intro i _
    simp
  have e2 : (((cmsOf a ctrl).map fun x => (a.al.length + x.1, x.2.map fun y => a.al.length + (ctrl.length + 1) + y)).map fun x => x.2.length).sum = ((List.range ctrl.length).map fun i => (a.es.filter fun x => x.e == ctrl.getD i 0).length).sum := by
    unfold cmsOf
    rw [List.map_map, List.map_map]
    congr 1
    apply List.map_congr_left
    intro i _
    simp
  rw [e1]
  rw [e2] at h5
  have l1 : (evsOf a).length = a.al.length := by simp [evsOf]
  have l2 : (cmsOf a ctrl).length = ctrl.length := by simp [cmsOf]
  rw [List.length_map, l1]
  rw [List.length_map, l2] at h5
  omega
/-- The state behind a scan. -/
theorem View.mem {m c n : Nat} {inp : List Bool} {s : Nat} {al : Bool} {b : List Bool} (h : View m c n inp s al b) : (b.drop (m + (c + 1))).length = n + 1 ∧ (∀ j, j < n → (b.drop (m + (c + 1))).getD j false = decide (j = s)) := by
  have hl := h.len
  refine ⟨by simp; omega, fun j hj => ?_⟩
  rw [← h.one j hj, List.getD_eq_getElem?_getD, List.getElem?_drop, ← List.getD_eq_getElem?_getD]
theorem View.out {m c n : Nat} {inp : List Bool} {s : Nat} {al : Bool} {b : List Bool} (h : View m c n inp s al b) : ((b.drop m).take (c + 1)).length = c + 1 ∧ ((b.drop m).take (c + 1)).getD c false = al ∧ ∀ j, j < c + 1 → ((b.drop m).take (c + 1)).getD j false = b.getD (m + j) false := by
  have hl := h.len
  have hg : ∀ j, j < c + 1 → ((b.drop m).take (c + 1)).getD j false = b.getD (m + j) false := fun j hj => by
    rw [List.getD_eq_getElem?_getD, List.getElem?_take, if_pos hj, List.getElem?_drop, ← List.getD_eq_getElem?_getD]
  exact ⟨by simp; omega, by rw [hg c (by omega)]; exact h.al, hg⟩
end Go.Proofs.Ytkkemchihllklaa

namespace Go.Proofs.Ytkkemchihllklaa

/-- Both sets are gone through in order; what is in the first alone is kept. -/
def minusL : Nat → List Int → List Int → List Int → List Int
  | 0, _, _, out => out
  | _ + 1, [], [], out => out
  | f + 1, [], _ :: vs, out => minusL f [] vs out
  | f + 1, a :: us, [], out => minusL f us [] (out ++ [a])
  | f + 1, a :: us, b :: vs, out => if a < b then minusL f us (b :: vs) (out ++ [a]) else if b < a then minusL f (a :: us) vs out else minusL f us vs out
theorem minusL_says : ∀ (f : Nat) (us vs out : List Int), Inc us → Inc vs → us.length + vs.length ≤ f → minusL f us vs out = out ++ us.filter fun x => !hasB vs x
  | 0, us, vs, out, _, _, h => by
    have ha : us = [] := List.eq_nil_of_length_eq_zero (by omega)
    rw [ha, minusL]; simp
  | f + 1, [], [], out, _, _, _ => by rw [minusL]; simp
  | f + 1, [], b :: vs, out, ha, hb, h => by
    rw [minusL, minusL_says f [] vs out ha (List.pairwise_cons.1 hb).2 (by simp at h ⊢; omega)]
    simp
  | f + 1, a :: us, [], out, ha, hb, h => by
    rw [minusL, minusL_says f us [] _ (List.pairwise_cons.1 ha).2 hb (by simp at h ⊢; omega), List.filter_cons_of_pos (by simp [hasB]), List.append_assoc]
    rfl
  | f + 1, a :: us, b :: vs, out, ha, hb, h => by
    obtain ⟨ha1, ha2⟩ := List.pairwise_cons.1 ha
    obtain ⟨hb1, hb2⟩ := List.pairwise_cons.1 hb
    rw [List.length_cons, List.length_cons] at h
    rw [minusL]
    by_cases h1 : a < b
    · have hn : hasB (b :: vs) a = false := by
        rw [hasB_false]
        intro hm
        rcases List.mem_cons.1 hm with h2 | h2
        · omega
        · have := hb1 a h2; omega
      rw [if_pos h1, minusL_says f us (b :: vs) _ ha2 hb (by rw [List.length_cons]; omega), List.filter_cons_of_pos (by rw [hn]; rfl), List.append_assoc]
      rfl
    · rw [if_neg h1]
      by_cases h2 : b < a
      · rw [if_pos h2, minusL_says f (a :: us) vs out ha hb2 (by rw [List.length_cons]; omega)]
        congr 1
        apply List.filter_congr
        intro x hx
        have hx2 : a ≤ x := by
          rcases List.mem_cons.1 hx with h3 | h3
          · omega
          · have := ha1 x h3; omega
        congr 1
        rw [Bool.eq_iff_iff, hasB_true, hasB_true, List.mem_cons]
        exact ⟨.inr, fun h3 => h3.elim (fun h4 => by omega) id⟩
      · have hab : a = b := by omega
        subst hab
        rw [if_neg h2, minusL_says f us vs out ha2 hb2 (by omega), List.filter_cons_of_neg (by rw [hasB_true.2 (List.mem_cons_self ..)]; simp)]
        congr 1
        apply List.filter_congr
        intro x hx
        have hx2 := ha1 x hx
        congr 1
        rw [Bool.eq_iff_iff, hasB_true, hasB_true, List.mem_cons]
        exact ⟨.inr, fun h3 => h3.elim (fun h4 => by omega) id⟩
/-- Whether one set is part of another. -/
def subB (us vs : List Int) : Bool := us.all (hasB vs)
theorem minus_nil {us vs : List Int} (ha : Inc us) (hb : Inc vs) : (minusL (us.length + vs.length) us vs [] = []) ↔ subB us vs = true := by
  rw [minusL_says _ us vs [] ha hb (Nat.le_refl _), List.nil_append, List.filter_eq_nil_iff, subB, List.all_eq_true]
  exact ⟨fun h x hx => by simpa using h x hx, fun h x hx => by rw [h x hx]; simp⟩
end Go.Proofs.Ytkkemchihllklaa

namespace Go.Proofs.Ytkkemchihllklaa
open Go Go.RowKit

theorem W_of {x : Int} (h0 : -9223372036854775808 ≤ x) (h1 : x < 9223372036854775808) : W x = x := IntWalk.i64_in _ (by omega)
theorem W_nat {k : Nat} (h : k < 9223372036854775808) : W (k : Int) = k := W_of (by omega) (by omega)
theorem idx_at {α : Type} {xs : List α} {i : Nat} (h : i < xs.length) : idx xs (i : Int) = some xs[i] := by rw [idx_nat, List.getElem?_eq_getElem h]
theorem iter_of {S O : Type} {f : S → Option (S ⊕ O)} {s : S} {o : O} {n : Nat} (hn : n ≤ 18446744073709551616) (h : iterF f n s = some o) : iter f s = some o := by
  have mono : ∀ (n m : Nat) (s : S), n ≤ m → iterF f n s = some o → iterF f m s = some o := by
    intro n
    induction n with
    | zero => intro m s _ h; cases h
    | succ n ih =>
      intro m s hm h
      obtain ⟨k, rfl⟩ : ∃ k, m = k + 1 := ⟨m - 1, by omega⟩
      rw [iterF_succ] at h ⊢
      split at h
      · cases h
      · rename_i h1; exact ih k _ (by omega) h
      · rename_i h1; exact h
  exact mono n _ s hn h

/-- An error, as the printed loops hand it on. -/
def errO (e : Int) : Unit ⊕ Int := if e = 0 then .inl () else .inr e
theorem checkSet_go {xs : List Int} {n : Int} (hl : xs.length < 4611686018427387904) : ∀ (j i : Nat), i + j = xs.length →
    iterF (m_automaton_checkSet_l1 xs n) (j + 1) (i : Int) = some (errO (setErr n (prevAt xs i) (xs.drop i))) := by
  intro j
  induction j with
  | zero =>
    intro i hi
    have e : xs.drop i = [] := List.drop_of_length_le (by omega)
    rw [iterF_succ, m_automaton_checkSet_l1, if_neg (by simp; omega), e]
    rfl
  | succ j ih =>
    intro i hi
    have hlt : i < xs.length := by omega
    rw [iterF_succ, m_automaton_checkSet_l1, if_pos (by simp; omega), idx_at hlt, Option.bind_some]
    by_cases h1 : xs[i] < 0 ∨ n ≤ xs[i]
    · rw [if_pos (by simpa using h1), setErr_2 hlt h1]
      rfl
    · rw [if_neg (by simpa using h1)]
      by_cases h0 : 0 < i
      · rw [if_pos (by simp; omega), show (i : Int) - 1 = ((i - 1 : Nat) : Int) by omega, W_nat (by omega), idx_at (show i - 1 < xs.length by omega), Option.bind_some, Option.bind_some]
        by_cases h2 : xs[i] ≤ xs[i - 1]
        · rw [if_pos (by simpa using h2), setErr_5 hlt h1 h0 h2]
          rfl
        · rw [if_neg (by simpa using h2), show (i : Int) + 1 = ((i + 1 : Nat) : Int) by omega, W_nat (by omega), setErr_next hlt h1 (fun _ => by omega)]
          exact ih (i + 1) (by omega)
      · rw [if_neg (by simp; omega), Option.bind_some, if_neg (by simp), show (i : Int) + 1 = ((i + 1 : Nat) : Int) by omega, W_nat (by omega), setErr_next hlt h1 (fun h => absurd h h0)]
        exact ih (i + 1) (by omega)
theorem checkSet_eq {xs : List Int} {n : Int} (hl : xs.length < 4611686018427387904) : m_automaton_checkSet xs n = some (setErr n none xs) := by
  have h : iter (m_automaton_checkSet_l1 xs n) 0 = some (errO (setErr n none xs)) := iter_of (by omega) (checkSet_go (n := n) hl xs.length 0 (by omega))
  rw [m_automaton_checkSet, h, Option.bind_some]
  by_cases h0 : setErr n none xs = 0
  · rw [h0]; rfl
  · rw [errO, if_neg h0]
/-- alphabet.CheckSet is the same. -/
theorem checkSet2_eq {xs : List Int} {n : Int} (hl : xs.length < 4611686018427387904) : m_alphabet_CheckSet xs n = some (setErr n none xs) := checkSet_eq hl

theorem index_go {xs : List Int} {x : Int} (hl : xs.length < 4611686018427387904) : ∀ (j i : Nat), i + j = xs.length →
    ∃ o, iterF (m_slices_Index_int_l1 xs x) (j + 1) (i : Int) = some o ∧ ((o = .inl () ∧ x ∉ xs.drop i) ∨ ∃ k : Nat, i ≤ k ∧ o = .inr (k : Int) ∧ x ∈ xs.drop i) := by
  intro j
  induction j with
  | zero =>
    intro i hi
    have e : xs.drop i = [] := List.drop_of_length_le (by omega)
    refine ⟨.inl (), ?_, .inl ⟨rfl, by rw [e]; simp⟩⟩
    rw [iterF_succ, m_slices_Index_int_l1, if_neg (by simp; omega)]
  | succ j ih =>
    intro i hi
    have hlt : i < xs.length := by omega
    rw [iterF_succ, m_slices_Index_int_l1, if_pos (by simp; omega), idx_at hlt, Option.bind_some]
    by_cases h1 : x = xs[i]
    · rw [if_pos (by simpa using h1)]
      exact ⟨_, rfl, .inr ⟨i, Nat.le_refl _, rfl, by rw [List.drop_eq_getElem_cons hlt, h1]; exact List.mem_cons_self⟩⟩
    · rw [if_neg (by simpa using h1), show (i : Int) + 1 = ((i + 1 : Nat) : Int) by omega, W_nat (by omega)]
      obtain ⟨o, h2, h3⟩ := ih (i + 1) (by omega)
      refine ⟨o, h2, ?_⟩
      rw [List.drop_eq_getElem_cons hlt]
      rcases h3 with ⟨h4, h5⟩ | ⟨k, h4, h5, h6⟩
      · exact .inl ⟨h4, fun hc => (List.mem_cons.1 hc).elim h1 h5⟩
      · exact .inr ⟨k, by omega, h5, List.mem_cons_of_mem _ h6⟩
theorem contains_eq {xs : List Int} {x : Int} (hl : xs.length < 4611686018427387904) : m_slices_Contains_int xs x = some (hasB xs x) := by
  obtain ⟨o, h1, h2⟩ := index_go (x := x) hl xs.length 0 (by omega)
  have h : iter (m_slices_Index_int_l1 xs x) 0 = some o := iter_of (by omega) h1
  rw [m_slices_Contains_int, m_slices_Index_int, h, Option.bind_some]
  rcases h2 with ⟨rfl, h4⟩ | ⟨k, _, rfl, h4⟩
  · rw [hasB_false.2 (by simpa using h4)]; rfl
  · rw [hasB_true.2 (by simpa using h4)]
    show some (decide ((k : Int) ≥ 0)) = some true
    simp
/-- An edge as the printed functions have it. -/
def edP (x : Ed) : Int × Int × Int := (x.f, x.e, x.t)
def autP (a : Aut) : List Int × Int × List Int × List (Int × Int × Int) := (a.al, a.n, a.ms, a.es.map edP)
def prevE (es : List Ed) (k : Nat) : Option Ed := if k = 0 then none else es[k - 1]?
theorem edErr_drop {al : List Int} {n : Int} {es : List Ed} {k : Nat} (hk : k < es.length) : edErr al n (prevE es k) (es.drop k) =
    if (es[k].f < 0 ∨ n ≤ es[k].f ∨ es[k].t < 0 ∨ n ≤ es[k].t) then 2 else if hasB al es[k].e = false then 9 else if (∃ q, prevE es k = some q ∧ (es[k].f < q.f ∨ (es[k].f = q.f ∧ es[k].e ≤ q.e))) then 5 else edErr al n (prevE es (k + 1)) (es.drop (k + 1)) := by
  rw [List.drop_eq_getElem_cons hk, edErr]
  congr 3
  simp [prevE, List.getElem?_eq_getElem hk]
theorem edges_go {a : Aut} (hl : a.es.length < 4611686018427387904) (hal : a.al.length < 4611686018427387904) : ∀ (j i : Nat), i + j = a.es.length →
    iterF (m_automaton_checkEdges_l1 (autP a)) (j + 1) (i : Int) = some (errO (edErr a.al a.n (prevE a.es i) (a.es.drop i))) := by
  have hlen : (autP a).2.2.2.length = a.es.length := by simp [autP]
  have hat : ∀ (i : Nat) (h : i < a.es.length), idx (autP a).2.2.2 (i : Int) = some (edP a.es[i]) := fun i h => by
    rw [idx_at (by rw [hlen]; exact h)]; simp [autP]
  intro j
  induction j with
  | zero =>
    intro i hi
    have e : a.es.drop i = [] := List.drop_of_length_le (by omega)
    rw [iterF_succ, m_automaton_checkEdges_l1, if_neg (by rw [hlen]; simp; omega), e]
    rfl
  | succ j ih =>
    intro i hi
    have hlt : i < a.es.length := by omega
    have hnext : m_automaton_checkEdges_j1 (i : Int) = some (.inl ((i + 1 : Nat) : Int)) := by
      rw [m_automaton_checkEdges_j1, show (i : Int) + 1 = ((i + 1 : Nat) : Int) by omega, W_nat (by omega)]
    rw [iterF_succ, m_automaton_checkEdges_l1, if_pos (by rw [hlen]; simp; omega), hat i hlt, Option.bind_some, edErr_drop hlt]
    by_cases h1 : a.es[i].f < 0 ∨ a.n ≤ a.es[i].f ∨ a.es[i].t < 0 ∨ a.n ≤ a.es[i].t
    · rw [if_pos (by simp only [Bool.or_eq_true, decide_eq_true_eq]; show ((a.es[i].f < 0 ∨ a.es[i].f ≥ a.n) ∨ a.es[i].t < 0) ∨ a.es[i].t ≥ a.n; omega), if_pos h1]
      rfl
    · rw [if_neg (by simp only [Bool.or_eq_true, decide_eq_true_eq]; show ¬ (((a.es[i].f < 0 ∨ a.es[i].f ≥ a.n) ∨ a.es[i].t < 0) ∨ a.es[i].t ≥ a.n); omega), if_neg h1]
      rw [show m_slices_Contains_int (autP a).1 (edP a.es[i]).2.1 = some (hasB a.al a.es[i].e) from contains_eq hal, Option.bind_some]
      cases h2 : hasB a.al a.es[i].e with
      | false => rfl
      | true =>
        rw [if_neg (show ¬ (!true) = true by simp), if_neg (show ¬ (true = false) by simp)]
        by_cases h0 : i = 0
        · subst h0
          rw [if_pos (by simp), hnext, if_neg (by rintro ⟨q, hq, _⟩; simp [prevE] at hq)]
          exact ih 1 (by omega)
        · have hp : prevE a.es i = some a.es[i - 1] := by rw [prevE, if_neg h0, List.getElem?_eq_getElem (by omega)]
          rw [if_neg (by simp; omega), show (i : Int) - 1 = ((i - 1 : Nat) : Int) by omega, W_nat (by omega), hat (i - 1) (by omega), Option.bind_some]
          by_cases h3 : a.es[i].f < a.es[i - 1].f ∨ (a.es[i].f = a.es[i - 1].f ∧ a.es[i].e ≤ a.es[i - 1].e)
          · rw [if_pos (by simp only [Bool.or_eq_true, Bool.and_eq_true, decide_eq_true_eq, beq_iff_eq]; exact h3), if_pos ⟨_, hp, h3⟩]
            rfl
          · rw [if_neg (by simp only [Bool.or_eq_true, Bool.and_eq_true, decide_eq_true_eq, beq_iff_eq]; exact h3), hnext, if_neg (by rintro ⟨q, hq, h4⟩; rw [hp] at hq; cases hq; exact h3 h4)]
            exact ih (i + 1) (by omega)
theorem check_eq {a : Aut} (hl : a.es.length < 4611686018427387904) (hal : a.al.length < 4611686018427387904) (hms : a.ms.length < 4611686018427387904) : m_automaton_Check (autP a) = some a.err := by
  have h : iter (m_automaton_checkEdges_l1 (autP a)) 0 = some (errO (edErr a.al a.n none a.es)) := iter_of (by omega) (edges_go hl hal a.es.length 0 (by omega))
  have he : m_automaton_checkEdges (autP a) = some (edErr a.al a.n none a.es) := by
    rw [m_automaton_checkEdges, h, Option.bind_some]
    by_cases h0 : edErr a.al a.n none a.es = 0
    · rw [h0]; rfl
    · rw [errO, if_neg h0]
  rw [m_automaton_Check, show m_automaton_checkSet (autP a).1 32 = some (setErr 32 none a.al) from checkSet_eq hal, Option.bind_some, Aut.err]
  by_cases h1 : (setErr 32 none a.al != 0) = true
  · rw [if_pos h1, if_pos h1]
  · rw [if_neg h1, if_neg h1]
    by_cases h2 : a.n < 0
    · rw [if_pos (show decide ((autP a).2.1 < 0) = true from decide_eq_true h2), if_pos h2]
    · rw [if_neg (show ¬ decide ((autP a).2.1 < 0) = true from fun e => h2 (of_decide_eq_true e)), if_neg h2]
      by_cases h3 : 4096 < a.n
      · rw [if_pos (show decide ((autP a).2.1 > 4096) = true from decide_eq_true h3), if_pos h3]
      · rw [if_neg (show ¬ decide ((autP a).2.1 > 4096) = true from fun e => h3 (of_decide_eq_true e)), if_neg h3, show m_automaton_checkSet (autP a).2.2.1 (autP a).2.1 = some (setErr a.n none a.ms) from checkSet_eq hms, Option.bind_some]
        by_cases h4 : (setErr a.n none a.ms != 0) = true
        · rw [if_pos h4, if_pos h4]
        · rw [if_neg h4, if_neg h4, he]
          rfl
end Go.Proofs.Ytkkemchihllklaa

namespace Go.Proofs.Ytkkemchihllklaa
open Go Go.RowKit

/-- An instruction as the printed functions have it. -/
def insP (x : Ins) : Int × Int := (x.op, x.arg)
theorem put_eq {l ps : List (Int × Int)} {i o : Int} (h : l.length + ps.length ≤ 4294967296) : m_generate_assembler_put (l, i, o) ps = some (l ++ ps, i, o) := by
  have hi : iter (m_generate_assembler_put_l1 ps) (0, l) = some (l ++ ps) := by
    have := iter_run (f := m_generate_assembler_put_l1 ps) (fun k => ((k : Int), l ++ ps.take k)) ps.length (by omega) (o := l ++ ps) (fun k hk => by
      rw [m_generate_assembler_put_l1, if_pos (by simp; omega)]
      dsimp only
      rw [idx_at hk, Option.bind_some, app_eq (by simp; omega), Option.bind_some, show (k : Int) + 1 = ((k + 1 : Nat) : Int) by omega, W_nat (by omega), List.take_succ_eq_append_getElem hk, List.append_assoc]) (by
      rw [m_generate_assembler_put_l1, if_neg (by simp)]
      simp)
    simpa using this
  rw [m_generate_assembler_put, hi]
  rfl
theorem memory_eq {l : List (Int × Int)} {i o k : Int} (h0 : 0 ≤ i ∧ i ≤ 1000000) (h1 : 0 ≤ o ∧ o ≤ 1000000) (h2 : 0 ≤ k ∧ k ≤ 1000000) : m_generate_assembler_memory (l, i, o) k = some (i + o + k) := by
  rw [m_generate_assembler_memory]
  dsimp only
  rw [W_of (x := i + o) (by omega) (by omega), W_of (by omega) (by omega)]
theorem output_eq {l : List (Int × Int)} {i o k : Int} (h0 : 0 ≤ i ∧ i ≤ 1000000) (h2 : 0 ≤ k ∧ k ≤ 1000000) : m_generate_assembler_output (l, i, o) k = some (i + k) := by
  rw [m_generate_assembler_output]
  dsimp only
  rw [W_of (by omega) (by omega)]
theorem edgeI_map (moved : Nat) (e : Nat × Nat) : (edgeI moved e).map insP = [(1, (e.1 : Int)), (4, (moved : Int)), (10, (e.1 : Int)), (9, (e.2 : Int)), (9, (moved : Int))] := rfl
theorem flat5 {moved : Nat} {E : List (Nat × Nat)} : ((E.flatMap (edgeI moved)).map insP).length = 5 * E.length := by rw [List.length_map, flatMap_len5]
theorem event_loop {l : List (Int × Int)} {M C moved : Nat} {E : List Ed} (hE : ∀ x ∈ E, 0 ≤ x.f ∧ x.f ≤ 100000 ∧ 0 ≤ x.t ∧ x.t ≤ 100000) (hM : M ≤ 100000) (hC : C ≤ 100000) (hl : l.length + 5 * E.length ≤ 4000000000) :
    iter (m_generate_assembler_event_l1 (moved : Int) (E.map edP)) (0, l, (M : Int), (C : Int)) = some (l ++ ((E.map fun x => (M + C + x.f.toNat, M + C + x.t.toNat)).flatMap (edgeI moved)).map insP, (M : Int), (C : Int)) := by
  have := iter_run (f := m_generate_assembler_event_l1 (moved : Int) (E.map edP)) (fun k => ((k : Int), l ++ (((E.take k).map fun x => (M + C + x.f.toNat, M + C + x.t.toNat)).flatMap (edgeI moved)).map insP, (M : Int), (C : Int))) E.length (by omega) (o := (l ++ ((E.map fun x => (M + C + x.f.toNat, M + C + x.t.toNat)).flatMap (edgeI moved)).map insP, (M : Int), (C : Int))) (fun k hk => by
    have hx := hE E[k] (List.getElem_mem hk)
    rw [m_generate_assembler_event_l1, if_pos (by simp; omega)]
    dsimp only
    rw [idx_at (by simpa using hk), Option.bind_some, List.getElem_map]
    dsimp only [edP]
    rw [memory_eq (by omega) (by omega) (by omega), Option.bind_some, memory_eq (by omega) (by omega) (by omega), Option.bind_some, put_eq (by simp only [List.length_append, flatMap_len5, List.length_map, List.length_take, List.length_cons, List.length_nil]; omega), Option.bind_some,
      show (k : Int) + 1 = ((k + 1 : Nat) : Int) by omega, W_nat (by omega), List.take_succ_eq_append_getElem hk, List.map_append, List.flatMap_append, List.map_append, List.append_assoc]
    have e1 : ((M + C + E[k].f.toNat : Nat) : Int) = M + C + E[k].f := by omega
    have e2 : ((M + C + E[k].t.toNat : Nat) : Int) = M + C + E[k].t := by omega
    rw [List.map_cons, List.map_nil, List.flatMap_cons, List.flatMap_nil, List.append_nil, edgeI_map]
    dsimp only
    rw [e1, e2]) (by
    rw [m_generate_assembler_event_l1, if_neg (by simp), List.take_length])
  simpa using this
theorem event_eq {l : List (Int × Int)} {M C i moved alarm : Nat} {E : List Ed} (hE : ∀ x ∈ E, 0 ≤ x.f ∧ x.f ≤ 100000 ∧ 0 ≤ x.t ∧ x.t ≤ 100000) (hM : M ≤ 100000) (hC : C ≤ 100000) (hl : l.length + 5 * E.length ≤ 3000000000) :
    m_generate_assembler_event (l, (M : Int), (C : Int)) (i : Int) (moved : Int) (alarm : Int) (E.map edP) =
      some (l ++ (eventI i moved alarm (E.map fun x => (M + C + x.f.toNat, M + C + x.t.toNat)) l.length).map insP, (M : Int), (C : Int)) := by
  have hX : ∀ X : List (Int × Int), X.length = 5 * E.length →
      (idx (l ++ [(2, (i : Int)), (12, 0)] ++ [(1, (i : Int)), (10, (moved : Int))] ++ X ++ [(2, (moved : Int)), (9, (alarm : Int))]) (W (((l ++ [(2, (i : Int)), (12, 0)]).length : Int) - 1))) = some (12, 0) ∧
      upd (l ++ [(2, (i : Int)), (12, 0)] ++ [(1, (i : Int)), (10, (moved : Int))] ++ X ++ [(2, (moved : Int)), (9, (alarm : Int))]) (W (((l ++ [(2, (i : Int)), (12, 0)]).length : Int) - 1)) (12, ((l ++ [(2, (i : Int)), (12, 0)] ++ [(1, (i : Int)), (10, (moved : Int))] ++ X ++ [(2, (moved : Int)), (9, (alarm : Int))]).length : Int)) =
        some (l ++ ([(2, (i : Int)), (12, ((l.length + 6 + 5 * E.length : Nat) : Int)), (1, (i : Int)), (10, (moved : Int))] ++ (X ++ [(2, (moved : Int)), (9, (alarm : Int))]))) := by
    intro X hX
    have e0 : W (((l ++ [(2, (i : Int)), (12, 0)]).length : Int) - 1) = ((l.length + 1 : Nat) : Int) := by
      rw [List.length_append, List.length_cons, List.length_cons, List.length_nil, show (((l.length + (0 + 1 + 1) : Nat) : Int) - 1) = ((l.length + 1 : Nat) : Int) by omega, W_nat (by omega)]
    rw [e0]
    have e1 : (l ++ [(2, (i : Int)), (12, 0)] ++ [(1, (i : Int)), (10, (moved : Int))] ++ X ++ [(2, (moved : Int)), (9, (alarm : Int))]) = l ++ ((2, (i : Int)) :: (12, 0) :: ([(1, (i : Int)), (10, (moved : Int))] ++ (X ++ [(2, (moved : Int)), (9, (alarm : Int))]))) := by simp
    rw [e1]
    constructor
    · rw [idx_nat, List.getElem?_append_right (by omega), show l.length + 1 - l.length = 1 by omega]
      rfl
    · unfold upd
      rw [if_pos ⟨by omega, by simp only [List.length_append, List.length_cons, List.length_nil]; omega⟩, Int.toNat_natCast, List.set_append_right _ _ (by omega), show l.length + 1 - l.length = 1 by omega]
      simp only [List.set_cons_succ, List.set_cons_zero, List.length_append, List.length_cons, List.length_nil, hX, List.cons_append, List.nil_append]
      congr 4
      simp only [Prod.mk.injEq, true_and]
      omega
  have hflat : (((E.map fun x => (M + C + x.f.toNat, M + C + x.t.toNat)).flatMap (edgeI moved)).map insP).length = 5 * E.length := by rw [flat5, List.length_map]
  rw [m_generate_assembler_event, put_eq (by simp; omega), Option.bind_some, put_eq (by simp; omega), Option.bind_some, event_loop hE hM hC (by simp; omega), Option.bind_some, put_eq (by simp only [List.length_append, List.length_map, flatMap_len5, List.length_cons, List.length_nil]; omega), Option.bind_some]
  dsimp only
  obtain ⟨g1, g2⟩ := hX _ hflat
  rw [g1, Option.bind_some]
  dsimp only
  rw [g2, Option.bind_some, eventI]
  simp only [List.map_append, List.map_cons, List.map_nil, insP, List.length_map]
end Go.Proofs.Ytkkemchihllklaa

namespace Go.Proofs.Ytkkemchihllklaa
open Go Go.RowKit

theorem command_loop {l : List (Int × Int)} {M C : Nat} {ms : List Nat} (hms : ∀ x ∈ ms, x ≤ 100000) (hM : M ≤ 100000) (hC : C ≤ 100000) (hl : l.length + ms.length ≤ 3000000000) :
    iter (m_generate_assembler_command_l1 (ms.map fun k : Nat => (k : Int))) (0, l, (M : Int), (C : Int)) =
      some (l ++ (match ms with | [] => [] | m :: r => (⟨1, ((M + C + m : Nat) : Int)⟩ : Ins) :: r.map (fun k : Nat => (⟨5, ((M + C + k : Nat) : Int)⟩ : Ins))).map insP, (M : Int), (C : Int)) := by
  have hL : ∀ k, (h : k < ms.length) → ((match ms with | [] => [] | m :: r => (⟨1, ((M + C + m : Nat) : Int)⟩ : Ins) :: r.map (fun k : Nat => (⟨5, ((M + C + k : Nat) : Int)⟩ : Ins))).map insP)[k]? = some (if k = 0 then 1 else 5, ((M + C + ms[k] : Nat) : Int)) := by
    intro k h
    cases ms with
    | nil => simp at h
    | cons m r =>
      cases k with
      | zero => rfl
      | succ k => simp at h; simp [h, insP]
  have hlen : ((match ms with | [] => [] | m :: r => (⟨1, ((M + C + m : Nat) : Int)⟩ : Ins) :: r.map (fun k : Nat => (⟨5, ((M + C + k : Nat) : Int)⟩ : Ins))).map insP).length = ms.length := by cases ms <;> simp
  generalize ((match ms with | [] => [] | m :: r => (⟨1, ((M + C + m : Nat) : Int)⟩ : Ins) :: r.map (fun k : Nat => (⟨5, ((M + C + k : Nat) : Int)⟩ : Ins))).map insP) = L at hL hlen
  have := iter_run (f := m_generate_assembler_command_l1 (ms.map fun k : Nat => (k : Int))) (fun k => ((k : Int), l ++ L.take k, (M : Int), (C : Int))) ms.length (by omega) (o := (l ++ L, (M : Int), (C : Int))) (fun k hk => by
    have hx := hms ms[k] (List.getElem_mem hk)
    rw [m_generate_assembler_command_l1, if_pos (by simp; omega)]
    dsimp only
    rw [idx_at (by simpa using hk), Option.bind_some, List.getElem_map]
    have hop : idx ([1, 5] : List Int) (if 1 < (k : Int) then 1 else (k : Int)) = some (if k = 0 then 1 else 5) := by
      by_cases h0 : k = 0
      · subst h0; rfl
      · have : (if 1 < (k : Int) then 1 else (k : Int)) = 1 := by split <;> omega
        rw [this, if_neg h0]; rfl
    rw [hop, Option.bind_some, memory_eq (by omega) (by omega) (by omega), Option.bind_some, put_eq (by simp only [List.length_append, List.length_take, List.length_cons, List.length_nil]; omega), Option.bind_some,
      show (k : Int) + 1 = ((k + 1 : Nat) : Int) by omega, W_nat (by omega), List.append_assoc]
    have hk' : k < L.length := by omega
    have e := hL k hk
    rw [List.getElem?_eq_getElem hk', Option.some.injEq] at e
    rw [List.take_succ_eq_append_getElem hk', e]
    rfl) (by
    rw [m_generate_assembler_command_l1, if_neg (by simp), List.take_of_length_le (by omega)])
  simpa using this
theorem command_eq {l : List (Int × Int)} {M C o : Nat} {ms : List Nat} (hms : ∀ x ∈ ms, x ≤ 100000) (hM : M ≤ 100000) (hC : C ≤ 100000) (hl : l.length + ms.length ≤ 2000000000) :
    m_generate_assembler_command (l, (M : Int), (C : Int)) (o : Int) (ms.map fun k : Nat => (k : Int)) = some (l ++ (commandI o (ms.map fun k => M + C + k)).map insP, (M : Int), (C : Int)) := by
  rw [m_generate_assembler_command]
  cases ms with
  | nil =>
    rw [if_pos (by simp), put_eq (by simp; simp at hl; omega), Option.bind_some]
    rfl
  | cons m r =>
    rw [if_neg (by simp; omega), command_loop hms hM hC (by omega), Option.bind_some, put_eq (by simp at hl ⊢; omega), Option.bind_some]
    simp [commandI, insP, List.append_assoc]

/-- Events of an edge, gathered. -/
theorem mgetD_mput {β : Type} (d : β) : ∀ (m : List (Int × β)) (k : Int) (v : β) (k' : Int), mgetD d (mput m k v) k' = if k = k' then v else mgetD d m k'
  | [], k, v, k' => by
    simp only [mput, mgetD]
    by_cases h : k = k' <;> simp [h]
  | p :: m, k, v, k' => by
    by_cases hp : (p.1 == k) = true
    · have e : p.1 = k := by simpa using hp
      simp only [mput, if_pos hp, mgetD]
      by_cases h : k = k'
      · simp [e, h]
      · simp [e, h]
    · have e : ¬ p.1 = k := by simpa using hp
      simp only [mput, if_neg hp, mgetD, mgetD_mput d m k v k']
      by_cases h : k = k'
      · subst h; simp [e]
      · simp [h]
def gather {β : Type} (f : Ed → β) (es : List Ed) : List (Int × List β) := es.foldl (fun m x => mput m x.e (mgetD [] m x.e ++ [f x])) []
theorem gather_get {β : Type} (f : Ed → β) (k : Int) : ∀ (es : List Ed) (m : List (Int × List β)), mgetD [] (es.foldl (fun m x => mput m x.e (mgetD [] m x.e ++ [f x])) m) k = mgetD [] m k ++ (es.filter fun x => x.e == k).map f
  | [], m => by simp
  | x :: es, m => by
    rw [List.foldl_cons, gather_get f k es, mgetD_mput]
    by_cases h : x.e = k
    · rw [if_pos h, List.filter_cons_of_pos (by simpa using h), h]; simp
    · rw [if_neg h, List.filter_cons_of_neg (by simpa using h)]
theorem gather_len {β : Type} (f : Ed → β) (es : List Ed) (k : Int) : (mgetD [] (gather f es) k).length ≤ es.length := by
  rw [gather, gather_get]
  simp only [mgetD, List.nil_append, List.length_map]
  exact List.length_filter_le _ _
theorem gather_snoc {β : Type} (f : Ed → β) (es : List Ed) (x : Ed) : gather f (es ++ [x]) = mput (gather f es) x.e (mgetD [] (gather f es) x.e ++ [f x]) := by simp [gather]
theorem gen_maps {a : Aut} (hl : a.es.length ≤ 1000000) : iter (m_generate_Generate_l1 (autP a)) (0, ([] : List (Int × List Int)), ([] : List (Int × List (Int × Int × Int)))) = some (gather (fun x => x.f) a.es, gather edP a.es) := by
  have hlen : (autP a).2.2.2.length = a.es.length := by simp [autP]
  have := iter_run (f := m_generate_Generate_l1 (autP a)) (fun k => ((k : Int), gather (fun x => x.f) (a.es.take k), gather edP (a.es.take k))) a.es.length (by omega) (o := (gather (fun x => x.f) a.es, gather edP a.es)) (fun k hk => by
    rw [m_generate_Generate_l1, if_pos (by rw [hlen]; simp; omega)]
    dsimp only
    have h1 := gather_len edP (a.es.take k) a.es[k].e
    have h2 := gather_len (fun x => x.f) (a.es.take k) a.es[k].e
    rw [List.length_take] at h1 h2
    rw [idx_at (by rw [hlen]; exact hk), Option.bind_some, show (autP a).2.2.2[k]'(by rw [hlen]; exact hk) = edP a.es[k] from by simp [autP]]
    dsimp only [edP]
    rw [app_eq (by simp only [List.length_cons, List.length_nil]; omega), Option.bind_some, app_eq (by simp only [List.length_cons, List.length_nil]; omega), Option.bind_some,
      show (k : Int) + 1 = ((k + 1 : Nat) : Int) by omega, W_nat (by omega), List.take_succ_eq_append_getElem hk, gather_snoc, gather_snoc]
    rfl) (by
    rw [m_generate_Generate_l1, if_neg (by rw [hlen]; simp), List.take_length])
  simpa [gather] using this
end Go.Proofs.Ytkkemchihllklaa

namespace Go.Proofs.Ytkkemchihllklaa
open Go Go.RowKit

theorem eventsI_snoc (moved alarm : Nat) : ∀ (l : List (Nat × List (Nat × Nat))) (x : Nat × List (Nat × Nat)) (s : Nat), eventsI moved alarm (l ++ [x]) s = eventsI moved alarm l s ++ eventI x.1 moved alarm x.2 (s + (eventsI moved alarm l s).length)
  | [], x, s => by simp [eventsI]
  | (i, es) :: l, x, s => by
    rw [List.cons_append, eventsI, eventsI, eventsI_snoc moved alarm l x, List.append_assoc, List.length_append, eventI_len]
    congr 3
    omega
theorem commandsI_snoc (l : List (Nat × List Nat)) (x : Nat × List Nat) : commandsI (l ++ [x]) = commandsI l ++ commandI x.1 x.2 := by simp [commandsI]
theorem commandI_le (o : Nat) (ms : List Nat) : (commandI o ms).length ≤ ms.length + 3 := by cases ms <;> simp [commandI]
/-- What Generate asks of its arguments. -/
structure GenIn (a : Aut) (ctrl : List Int) (n : Nat) : Prop where
  hn : a.n = n
  n0 : 0 < n
  n1 : n ≤ 64
  es : a.es.length ≤ 256
  al : a.al.length ≤ 32
  ct : ctrl.length ≤ 32
  ed : ∀ x ∈ a.es, 0 ≤ x.f ∧ x.f < (n : Int) ∧ 0 ≤ x.t ∧ x.t < (n : Int)
def shiftE (a : Aut) (ctrl : List Int) : List (Nat × List (Nat × Nat)) := (evsOf a).map fun x => (x.1, x.2.map fun e => (a.al.length + (ctrl.length + 1) + e.1, a.al.length + (ctrl.length + 1) + e.2))
def shiftC (a : Aut) (ctrl : List Int) : List (Nat × List Nat) := (cmsOf a ctrl).map fun x => (a.al.length + x.1, x.2.map fun y => a.al.length + (ctrl.length + 1) + y)
section
variable {a : Aut} {ctrl : List Int} {n : Nat}
theorem shiftE_len : (shiftE a ctrl).length = a.al.length := by simp [shiftE, evsOf]
theorem shiftC_len : (shiftC a ctrl).length = ctrl.length := by simp [shiftC, cmsOf]
theorem shiftE_at {k : Nat} (hk : k < a.al.length) : (shiftE a ctrl)[k]'(by rw [shiftE_len]; exact hk) = (k, (a.es.filter fun x => x.e == a.al[k]).map fun x => (a.al.length + (ctrl.length + 1) + x.f.toNat, a.al.length + (ctrl.length + 1) + x.t.toNat)) := by
  simp [shiftE, evsOf, List.getD_eq_getElem?_getD, hk, List.map_map, Function.comp_def]
theorem shiftC_at {k : Nat} (hk : k < ctrl.length) : (shiftC a ctrl)[k]'(by rw [shiftC_len]; exact hk) = (a.al.length + k, (a.es.filter fun x => x.e == ctrl[k]).map fun x => a.al.length + (ctrl.length + 1) + x.f.toNat) := by
  simp [shiftC, cmsOf, List.getD_eq_getElem?_getD, hk, List.map_map, Function.comp_def]
theorem filt_le (k : Int) : (a.es.filter fun x => x.e == k).length ≤ a.es.length := List.length_filter_le _ _
theorem gen_len {moved alarm : Nat} (h : GenIn a ctrl n) : ∀ k, k ≤ a.al.length → (eventsI moved alarm ((shiftE a ctrl).take k) 0).length ≤ k * 2000
  | 0, _ => by simp [eventsI]
  | k + 1, hk => by
    have ih := gen_len (moved := moved) (alarm := alarm) h k (by omega)
    rw [List.take_succ_eq_append_getElem (by rw [shiftE_len]; omega), eventsI_snoc, List.length_append, eventI_len, shiftE_at (by omega)]
    have := filt_le (a := a) a.al[k]
    have := h.es
    simp only [List.length_map]
    omega
theorem gen_events (h : GenIn a ctrl n) : iter (m_generate_Generate_l2 (autP a) ctrl (gather (fun x => x.f) a.es, gather edP a.es)) (0, ([] : List (Int × Int)), (a.al.length : Int), ((ctrl.length + 1 : Nat) : Int)) =
    some ((eventsI (a.al.length + (ctrl.length + 1) + n) (a.al.length + ctrl.length) (shiftE a ctrl) 0).map insP, (a.al.length : Int), ((ctrl.length + 1 : Nat) : Int)) := by
  have h1 := h.n1; have h2 := h.es; have h3 := h.al; have h4 := h.ct; have h5 := h.hn
  refine iter_run (f := m_generate_Generate_l2 (autP a) ctrl (gather (fun x => x.f) a.es, gather edP a.es)) (fun k => ((k : Int), (eventsI (a.al.length + (ctrl.length + 1) + n) (a.al.length + ctrl.length) ((shiftE a ctrl).take k) 0).map insP, (a.al.length : Int), ((ctrl.length + 1 : Nat) : Int))) a.al.length (by omega) (fun k hk => ?_) ?_
  · rw [m_generate_Generate_l2, if_pos (by simp [autP]; omega)]
    dsimp only [autP]
    have hg := gen_len (moved := a.al.length + (ctrl.length + 1) + n) (alarm := a.al.length + ctrl.length) h k (by omega)
    have hf := filt_le (a := a) a.al[k]
    rw [idx_at hk, Option.bind_some, memory_eq (by omega) (by omega) (by omega), Option.bind_some, output_eq (by omega) (by omega), Option.bind_some,
      show mgetD [] (gather edP a.es) a.al[k] = (a.es.filter fun x => x.e == a.al[k]).map edP from by rw [gather, gather_get]; rfl,
      show (a.al.length : Int) + ((ctrl.length + 1 : Nat) : Int) + a.n = ((a.al.length + (ctrl.length + 1) + n : Nat) : Int) by omega,
      show (a.al.length : Int) + (ctrl.length : Int) = ((a.al.length + ctrl.length : Nat) : Int) by omega,
      event_eq (fun x hx => by have := h.ed x (List.mem_filter.1 hx).1; omega) (by omega) (by omega) (by rw [List.length_map]; omega), Option.bind_some,
      show (k : Int) + 1 = ((k + 1 : Nat) : Int) by omega, W_nat (by omega), List.take_succ_eq_append_getElem (by rw [shiftE_len]; exact hk), eventsI_snoc, List.map_append, shiftE_at hk, Nat.zero_add, List.length_map]
  · rw [m_generate_Generate_l2, if_neg (by simp [autP]), List.take_of_length_le (by rw [shiftE_len]; omega)]
set_option maxHeartbeats 1000000 in
theorem gen_commands (h : GenIn a ctrl n) {L : List (Int × Int)} (hL : L.length ≤ 100000) : iter (m_generate_Generate_l3 ctrl (gather (fun x => x.f) a.es, gather edP a.es)) (0, L, (a.al.length : Int), ((ctrl.length + 1 : Nat) : Int)) =
    some (L ++ (commandsI (shiftC a ctrl)).map insP, (a.al.length : Int), ((ctrl.length + 1 : Nat) : Int)) := by
  have h1 := h.n1; have h2 := h.es; have h3 := h.al; have h4 := h.ct; have h5 := h.hn
  have hcl : ∀ k, k ≤ ctrl.length → (commandsI ((shiftC a ctrl).take k)).length ≤ k * 2000 := by
    intro k
    induction k with
    | zero => intro _; simp [commandsI]
    | succ k ih =>
      intro hk
      have := ih (by omega)
      rw [List.take_succ_eq_append_getElem (by rw [shiftC_len]; omega)]
      rw [commandsI_snoc, List.length_append, shiftC_at (by omega)]
      have hf := filt_le (a := a) ctrl[k]
      have := commandI_le (a.al.length + k) ((a.es.filter fun x => x.e == ctrl[k]).map fun x => a.al.length + (ctrl.length + 1) + x.f.toNat)
      rw [List.length_map] at this
      dsimp only
      omega
  have key := iter_run (f := m_generate_Generate_l3 ctrl (gather (fun x => x.f) a.es, gather edP a.es)) (fun k => ((k : Int), L ++ (commandsI ((shiftC a ctrl).take k)).map insP, (a.al.length : Int), ((ctrl.length + 1 : Nat) : Int))) ctrl.length (by omega) (o := (L ++ (commandsI (shiftC a ctrl)).map insP, (a.al.length : Int), ((ctrl.length + 1 : Nat) : Int))) (fun k hk => by
    rw [m_generate_Generate_l3, if_pos (by simp; omega)]
    dsimp only
    have hg := hcl k (by omega)
    have hf := filt_le (a := a) ctrl[k]
    have hms : mgetD [] (gather (fun x => x.f) a.es) ctrl[k] = (((a.es.filter fun x => x.e == ctrl[k]).map fun x => x.f.toNat).map fun k : Nat => (k : Int)) := by
      rw [gather, gather_get, List.map_map]
      simp only [mgetD, List.nil_append]
      refine List.map_congr_left fun x hx => ?_
      have := h.ed x (List.mem_filter.1 hx).1
      simp only [Function.comp_def]
      omega
    rw [idx_at hk, Option.bind_some, output_eq (by omega) (by omega), Option.bind_some, hms,
      show (a.al.length : Int) + (k : Int) = ((a.al.length + k : Nat) : Int) by omega,
      command_eq (fun x hx => by
        obtain ⟨y, hy, rfl⟩ := List.mem_map.1 hx
        have := h.ed y (List.mem_filter.1 hy).1
        omega) (by omega) (by omega) (by simp only [List.length_append, List.length_map]; omega), Option.bind_some,
      show (k : Int) + 1 = ((k + 1 : Nat) : Int) by omega, W_nat (by omega), List.take_succ_eq_append_getElem (by rw [shiftC_len]; exact hk), List.append_assoc, ← List.map_append]
    rw [commandsI_snoc, shiftC_at hk, List.map_map]
    rfl) (by
    rw [m_generate_Generate_l3, if_neg (by simp), List.take_of_length_le (by rw [shiftC_len]; omega)])
  rw [List.take_zero] at key
  simpa [commandsI] using key
theorem clone_eq {xs : List Int} (h : xs.length ≤ 4294967296) : m_slices_Clone_int xs = some xs := by
  rw [m_slices_Clone_int, app_eq (by simpa using h)]; rfl
/-- The code of a supervisor. -/
def codeP (a : Aut) (ctrl : List Int) (n : Nat) : (Int × Int × Int × List Bool × List (Int × Int)) × List Int × List Int × Int :=
  (((a.al.length : Int), ((ctrl.length + 1 : Nat) : Int), ((n + 1 : Nat) : Int), true :: List.replicate n false, (genP a ctrl).map insP), a.al, ctrl, (n : Int))
set_option maxHeartbeats 1000000 in
theorem generate_eq (h : GenIn a ctrl n) (hms : a.ms.length ≤ 1000000) (he : a.err = 0) (hc : setErr 32 none ctrl = 0) (hs : m_alphabet_Subset ctrl a.al = some true) : m_generate_Generate (autP a) ctrl = some (codeP a ctrl n, 0) := by
  have h0 := h.n0; have h1 := h.n1; have h2 := h.es; have h3 := h.al; have h4 := h.ct; have h5 := h.hn
  have hg := gen_len (moved := a.al.length + (ctrl.length + 1) + n) (alarm := a.al.length + ctrl.length) h a.al.length (Nat.le_refl _)
  rw [List.take_of_length_le (by rw [shiftE_len]; omega)] at hg
  rw [m_generate_Generate, check_eq (by omega) (by omega) (by omega), Option.bind_some, he, if_neg (by simp), checkSet2_eq (by omega), Option.bind_some, hc, if_neg (by simp),
    show m_alphabet_Subset ctrl (autP a).1 = some true from hs, Option.bind_some, if_neg (by simp), if_neg (by simp [autP]; omega), if_neg (by simp [autP]; omega), gen_maps (by omega), Option.bind_some,
    show (autP a).1.length = a.al.length from rfl, show W ((ctrl.length : Int) + 1) = ((ctrl.length + 1 : Nat) : Int) by rw [show (ctrl.length : Int) + 1 = ((ctrl.length + 1 : Nat) : Int) by omega, W_nat (by omega)],
    gen_events h, Option.bind_some, gen_commands h (by rw [List.length_map]; omega), Option.bind_some,
    show W ((autP a).2.1 + 1) = ((n + 1 : Nat) : Int) by
      show W (a.n + 1) = _
      rw [show a.n + 1 = ((n + 1 : Nat) : Int) by omega, W_nat (by omega)],
    mkL_eq (by omega) (by omega), Option.bind_some, Int.toNat_natCast]
  have hi : idx (List.replicate (n + 1) false) 0 = some false := by rw [List.replicate_succ]; rfl
  have hu : upd (List.replicate (n + 1) false) 0 true = some (true :: List.replicate n false) := by
    unfold upd
    rw [if_pos (by simp), List.replicate_succ]
    rfl
  rw [hi, Option.bind_some, hu, Option.bind_some, show (autP a).1 = a.al from rfl, clone_eq (by omega), Option.bind_some, clone_eq (by omega), Option.bind_some]
  have e2 : (autP a).2.1 = (n : Int) := h5
  rw [e2]
  simp only [codeP, genP, genI, List.map_append, List.length_cons, List.length_replicate, h5, Int.toNat_natCast]
  rfl
end
end Go.Proofs.Ytkkemchihllklaa

namespace Go.Proofs.Ytkkemchihllklaa
open Go Go.RowKit
/-- What instruction.operations$3 computes. -/
noncomputable def m_instruction_operations_3 (p0 : Bool) (p1 : Bool) : Option Bool :=
  some (p0 && p1)
set_option maxRecDepth 100000 in
set_option maxHeartbeats 8000000 in
theorem m_instruction_operations_3_c {s : Sig} {p0 : Bool} {p1 : Bool} {r : Bool} (hm : m_instruction_operations_3 p0 p1 = some r) :
    Calls Try.prog 89 #[.bool p0, .bool p1] s.w (RetS No s fun v s' => v = .bool r) := by
 unfold m_instruction_operations_3 at hm
 obtain ⟨N, hN, hNb⟩ := s.fresh
 have m0 : Mv (Up N No) s s := Mv.refl _ _
 refine E.entry Try.func89 rfl Try.ntmps89 rfl rfl (E.seq (E.reg (L.as Wt.no rfl rfl (L.nil (X.seqN (E.seq (E.reg (L.mv Wt.no rfl rfl (L.mv Wt.no rfl rfl (L.cut 2 (fun e w => ∃ (v1 : Bool), (p0 && p1) = v1 ∧ e = (8, .bool v1) :: [] ∧ w = s.w) ?_ ?_))))))))))
 ·rintro _ _ ⟨v1, rfl, rfl, rfl⟩
  refine L.as Wt.no rfl rfl (L.nil (X.seqN (E.ret ?_)))
  obtain rfl := Option.some.inj hm
  exact X.rt (.inl rfl) Try.results89 (Rs.tmp rfl Rs.nil) rfl ⟨_, (s).ren N (fun _ => 0), rfl, rfl, m0.ren hNb, rfl⟩
 ·intro J2
  rcases Bool.eq_false_or_eq_true p0 with hc | hc
  ·exact L.know (d := 6) rfl hc (L.mv (Wt.mk rfl rfl) rfl rfl (L.pkT Wt.no rfl rfl rfl rfl (L.sb (J2 _ _ ⟨p1, (andT hc).symm, rfl, rfl⟩) rfl)))
  ·exact L.know (d := 6) rfl hc (L.skip rfl rfl rfl rfl (L.pkF Wt.no rfl rfl rfl rfl (L.sb (J2 _ _ ⟨false, (andF hc).symm, rfl, rfl⟩) rfl)))

/-- What instruction.operations$4 computes. -/
noncomputable def m_instruction_operations_4 (p0 : Bool) (p1 : Bool) : Option Bool :=
  some (p0 && (!p1))
set_option maxRecDepth 100000 in
set_option maxHeartbeats 8000000 in
theorem m_instruction_operations_4_c {s : Sig} {p0 : Bool} {p1 : Bool} {r : Bool} (hm : m_instruction_operations_4 p0 p1 = some r) :
    Calls Try.prog 90 #[.bool p0, .bool p1] s.w (RetS No s fun v s' => v = .bool r) := by
 unfold m_instruction_operations_4 at hm
 obtain ⟨N, hN, hNb⟩ := s.fresh
 have m0 : Mv (Up N No) s s := Mv.refl _ _
 refine E.entry Try.func90 rfl Try.ntmps90 rfl rfl (E.seq (E.reg (L.as Wt.no rfl rfl (L.nil (X.seqN (E.seq (E.reg (L.mv Wt.no rfl rfl (L.mv Wt.no rfl rfl (L.cut 3 (fun e w => ∃ (v1 : Bool), (p0 && (!p1)) = v1 ∧ e = (9, .bool v1) :: [] ∧ w = s.w) ?_ ?_))))))))))
 ·rintro _ _ ⟨v1, rfl, rfl, rfl⟩
  refine L.as Wt.no rfl rfl (L.nil (X.seqN (E.ret ?_)))
  obtain rfl := Option.some.inj hm
  exact X.rt (.inl rfl) Try.results90 (Rs.tmp rfl Rs.nil) rfl ⟨_, (s).ren N (fun _ => 0), rfl, rfl, m0.ren hNb, rfl⟩
 ·intro J2
  rcases Bool.eq_false_or_eq_true p0 with hc | hc
  ·exact L.know (d := 6) rfl hc (L.mv (Wt.mk rfl rfl) rfl rfl (L.not (Wt.mk rfl rfl) rfl rfl (L.pkT Wt.no rfl rfl rfl rfl (L.sb (J2 _ _ ⟨(!p1), (andT hc).symm, rfl, rfl⟩) rfl))))
  ·exact L.know (d := 6) rfl hc (L.skip rfl rfl rfl rfl (L.skip rfl rfl rfl rfl (L.pkF Wt.no rfl rfl rfl rfl (L.sb (J2 _ _ ⟨false, (andF hc).symm, rfl, rfl⟩) rfl))))

/-- What instruction.operations$5 computes. -/
noncomputable def m_instruction_operations_5 (p0 : Bool) (p1 : Bool) : Option Bool :=
  some (p0 || p1)
set_option maxRecDepth 100000 in
set_option maxHeartbeats 8000000 in
theorem m_instruction_operations_5_c {s : Sig} {p0 : Bool} {p1 : Bool} {r : Bool} (hm : m_instruction_operations_5 p0 p1 = some r) :
    Calls Try.prog 91 #[.bool p0, .bool p1] s.w (RetS No s fun v s' => v = .bool r) := by
 unfold m_instruction_operations_5 at hm
 obtain ⟨N, hN, hNb⟩ := s.fresh
 have m0 : Mv (Up N No) s s := Mv.refl _ _
 refine E.entry Try.func91 rfl Try.ntmps91 rfl rfl (E.seq (E.reg (L.as Wt.no rfl rfl (L.nil (X.seqN (E.seq (E.reg (L.mv Wt.no rfl rfl (L.mv Wt.no rfl rfl (L.cut 2 (fun e w => ∃ (v1 : Bool), (p0 || p1) = v1 ∧ e = (8, .bool v1) :: [] ∧ w = s.w) ?_ ?_))))))))))
 ·rintro _ _ ⟨v1, rfl, rfl, rfl⟩
  refine L.as Wt.no rfl rfl (L.nil (X.seqN (E.ret ?_)))
  obtain rfl := Option.some.inj hm
  exact X.rt (.inl rfl) Try.results91 (Rs.tmp rfl Rs.nil) rfl ⟨_, (s).ren N (fun _ => 0), rfl, rfl, m0.ren hNb, rfl⟩
 ·intro J2
  rcases Bool.eq_false_or_eq_true p0 with hc | hc
  ·exact L.know (d := 6) rfl hc (L.skip rfl rfl rfl rfl (L.pkT Wt.no rfl rfl rfl rfl (L.sb (J2 _ _ ⟨true, (orT hc).symm, rfl, rfl⟩) rfl)))
  ·exact L.know (d := 6) rfl hc (L.mv (Wt.mk rfl rfl) rfl rfl (L.pkF Wt.no rfl rfl rfl rfl (L.sb (J2 _ _ ⟨p1, (orF hc).symm, rfl, rfl⟩) rfl)))

/-- What instruction.operations$6 computes. -/
noncomputable def m_instruction_operations_6 (p0 : Bool) (p1 : Bool) : Option Bool :=
  some (p0 || (!p1))
set_option maxRecDepth 100000 in
set_option maxHeartbeats 8000000 in
theorem m_instruction_operations_6_c {s : Sig} {p0 : Bool} {p1 : Bool} {r : Bool} (hm : m_instruction_operations_6 p0 p1 = some r) :
    Calls Try.prog 92 #[.bool p0, .bool p1] s.w (RetS No s fun v s' => v = .bool r) := by
 unfold m_instruction_operations_6 at hm
 obtain ⟨N, hN, hNb⟩ := s.fresh
 have m0 : Mv (Up N No) s s := Mv.refl _ _
 refine E.entry Try.func92 rfl Try.ntmps92 rfl rfl (E.seq (E.reg (L.as Wt.no rfl rfl (L.nil (X.seqN (E.seq (E.reg (L.mv Wt.no rfl rfl (L.mv Wt.no rfl rfl (L.cut 3 (fun e w => ∃ (v1 : Bool), (p0 || (!p1)) = v1 ∧ e = (9, .bool v1) :: [] ∧ w = s.w) ?_ ?_))))))))))
 ·rintro _ _ ⟨v1, rfl, rfl, rfl⟩
  refine L.as Wt.no rfl rfl (L.nil (X.seqN (E.ret ?_)))
  obtain rfl := Option.some.inj hm
  exact X.rt (.inl rfl) Try.results92 (Rs.tmp rfl Rs.nil) rfl ⟨_, (s).ren N (fun _ => 0), rfl, rfl, m0.ren hNb, rfl⟩
 ·intro J2
  rcases Bool.eq_false_or_eq_true p0 with hc | hc
  ·exact L.know (d := 6) rfl hc (L.skip rfl rfl rfl rfl (L.skip rfl rfl rfl rfl (L.pkT Wt.no rfl rfl rfl rfl (L.sb (J2 _ _ ⟨true, (orT hc).symm, rfl, rfl⟩) rfl))))
  ·exact L.know (d := 6) rfl hc (L.mv (Wt.mk rfl rfl) rfl rfl (L.not (Wt.mk rfl rfl) rfl rfl (L.pkF Wt.no rfl rfl rfl rfl (L.sb (J2 _ _ ⟨(!p1), (orF hc).symm, rfl, rfl⟩) rfl))))

/-- What instruction.operations$7 computes. -/
noncomputable def m_instruction_operations_7 (p0 : Bool) (p1 : Bool) : Option Bool :=
  some p0
set_option maxRecDepth 100000 in
set_option maxHeartbeats 8000000 in
theorem m_instruction_operations_7_c {s : Sig} {p0 : Bool} {p1 : Bool} {r : Bool} (hm : m_instruction_operations_7 p0 p1 = some r) :
    Calls Try.prog 93 #[.bool p0, .bool p1] s.w (RetS No s fun v s' => v = .bool r) := by
 unfold m_instruction_operations_7 at hm
 obtain ⟨N, hN, hNb⟩ := s.fresh
 have m0 : Mv (Up N No) s s := Mv.refl _ _
 refine E.entry Try.func93 rfl Try.ntmps93 rfl rfl (E.seq (E.reg (L.as Wt.no rfl rfl (L.nil (X.seqN (E.seq (E.reg (L.mv Wt.no rfl rfl (L.as Wt.no rfl rfl (L.nil (X.seqN (E.ret ?_))))))))))))
 obtain rfl := Option.some.inj hm
 exact X.rt (.inl rfl) Try.results93 (Rs.tmp rfl Rs.nil) rfl ⟨_, (s).ren N (fun _ => 0), rfl, rfl, m0.ren hNb, rfl⟩

/-- What instruction.operations$8 computes. -/
noncomputable def m_instruction_operations_8 (p0 : Bool) (p1 : Bool) : Option Bool :=
  some (!p0)
set_option maxRecDepth 100000 in
set_option maxHeartbeats 8000000 in
theorem m_instruction_operations_8_c {s : Sig} {p0 : Bool} {p1 : Bool} {r : Bool} (hm : m_instruction_operations_8 p0 p1 = some r) :
    Calls Try.prog 94 #[.bool p0, .bool p1] s.w (RetS No s fun v s' => v = .bool r) := by
 unfold m_instruction_operations_8 at hm
 obtain ⟨N, hN, hNb⟩ := s.fresh
 have m0 : Mv (Up N No) s s := Mv.refl _ _
 refine E.entry Try.func94 rfl Try.ntmps94 rfl rfl (E.seq (E.reg (L.as Wt.no rfl rfl (L.nil (X.seqN (E.seq (E.reg (L.mv Wt.no rfl rfl (L.not Wt.no rfl rfl (L.as Wt.no rfl rfl (L.nil (X.seqN (E.ret ?_)))))))))))))
 obtain rfl := Option.some.inj hm
 exact X.rt (.inl rfl) Try.results94 (Rs.tmp rfl Rs.nil) rfl ⟨_, (s).ren N (fun _ => 0), rfl, rfl, m0.ren hNb, rfl⟩

/-- What instruction.operations$9 computes. -/
noncomputable def m_instruction_operations_9 (p0 : Bool) (p1 : Bool) : Option Bool :=
  some (p1 || p0)
set_option maxRecDepth 100000 in
set_option maxHeartbeats 8000000 in
theorem m_instruction_operations_9_c {s : Sig} {p0 : Bool} {p1 : Bool} {r : Bool} (hm : m_instruction_operations_9 p0 p1 = some r) :
    Calls Try.prog 95 #[.bool p0, .bool p1] s.w (RetS No s fun v s' => v = .bool r) := by
 unfold m_instruction_operations_9 at hm
 obtain ⟨N, hN, hNb⟩ := s.fresh
 have m0 : Mv (Up N No) s s := Mv.refl _ _
 refine E.entry Try.func95 rfl Try.ntmps95 rfl rfl (E.seq (E.reg (L.as Wt.no rfl rfl (L.nil (X.seqN (E.seq (E.reg (L.mv Wt.no rfl rfl (L.mv Wt.no rfl rfl (L.cut 2 (fun e w => ∃ (v1 : Bool), (p1 || p0) = v1 ∧ e = (8, .bool v1) :: [] ∧ w = s.w) ?_ ?_))))))))))
 ·rintro _ _ ⟨v1, rfl, rfl, rfl⟩
  refine L.as Wt.no rfl rfl (L.nil (X.seqN (E.ret ?_)))
  obtain rfl := Option.some.inj hm
  exact X.rt (.inl rfl) Try.results95 (Rs.tmp rfl Rs.nil) rfl ⟨_, (s).ren N (fun _ => 0), rfl, rfl, m0.ren hNb, rfl⟩
 ·intro J2
  rcases Bool.eq_false_or_eq_true p1 with hc | hc
  ·exact L.know (d := 6) rfl hc (L.skip rfl rfl rfl rfl (L.pkT Wt.no rfl rfl rfl rfl (L.sb (J2 _ _ ⟨true, (orT hc).symm, rfl, rfl⟩) rfl)))
  ·exact L.know (d := 6) rfl hc (L.mv (Wt.mk rfl rfl) rfl rfl (L.pkF Wt.no rfl rfl rfl rfl (L.sb (J2 _ _ ⟨p0, (orF hc).symm, rfl, rfl⟩) rfl)))

end Go.Proofs.Ytkkemchihllklaa

