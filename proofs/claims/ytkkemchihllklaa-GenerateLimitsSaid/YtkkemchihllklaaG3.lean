/- What some functions compute, as plain functions (m_..), and that the code computes it. Written by gen.py. -/
import Derived.Test.YtkkemchihllklaaG2
import Derived.Test.YtkkemchihllklaaProg
namespace Go.Proofs.Ytkkemchihllklaa
open Go Go.RowKit
theorem bs134 : Bs Try.prog 134 117 2 [.int .i64 0, .int .i64 0] := Bs.mk' Try.underlying134 (by kernel_rfl) (by kernel_rfl) rfl
theorem cf41 : Cf Try.prog 41 := Cf.mk Try.func41 (by kernel_rfl) (by kernel_rfl)
theorem cf69 : Cf Try.prog 69 := Cf.mk Try.func69 (by kernel_rfl) (by kernel_rfl)
theorem el117 : El Try.prog 117 2 16 := El.mk' (z := .agg #[.int .i64 0, .int .i64 0]) (by kernel_rfl) (by kernel_rfl) (by kernel_rfl) rfl
theorem fa119_1 : FA Try.prog 119 1 1 := FA.mk Try.underlying119 rfl rfl ⟨1, by decide, by kernel_rfl⟩
theorem pl117 : Pl Try.prog 117 (plK 1 2 0) [.int .i64 0, .int .i64 0] := Pl.arr Try.underlying117 (by kernel_rfl) (by kernel_rfl)
theorem sl30 : Sl Try.prog 30 119 2 := Sl.mk' Try.underlying30 (by kernel_rfl)
noncomputable def m_generate_assembler_event_l1 (p2 : Int) (p4 : List (Int × Int × Int)) (st63 : Int × (List (Int × Int)) × Int × Int) : Option ((Int × (List (Int × Int)) × Int × Int) ⊕ ((List (Int × Int)) × Int × Int)) :=
  if decide (st63.1 < (p4.length : Int)) then
    (idx p4 st63.1).bind fun x98 =>
    (m_generate_assembler_memory st63.2 x98.1).bind fun r109 =>
    (m_generate_assembler_memory st63.2 x98.2.2).bind fun r116 =>
    (m_generate_assembler_put st63.2 ([(1, r109), (4, p2), (10, r109), (9, r116), (9, p2)] : List (Int × Int))).bind fun r125 =>
    some (.inl (W (st63.1 + 1), r125))
  else
    some (.inr st63.2)
/-- What generate.assembler).event computes. -/
noncomputable def m_generate_assembler_event (p0 : (List (Int × Int)) × Int × Int) (p1 : Int) (p2 : Int) (p3 : Int) (p4 : List (Int × Int × Int)) : Option ((List (Int × Int)) × Int × Int) :=
  (m_generate_assembler_put p0 ([(2, p1), (12, 0)] : List (Int × Int))).bind fun r8 =>
  (m_generate_assembler_put r8 ([(1, p1), (10, p2)] : List (Int × Int))).bind fun r16 =>
  (iter (m_generate_assembler_event_l1 p2 p4) (0, r16)).bind fun o63 =>
  (m_generate_assembler_put o63 ([(2, p2), (9, p3)] : List (Int × Int))).bind fun r73 =>
  (idx r73.1 (W ((r8.1.length : Int) - 1))).bind fun x89 =>
  (upd r73.1 (W ((r8.1.length : Int) - 1)) (x89.1, (r73.1.length : Int))).bind fun x93 =>
  some (x93, r73.2)
set_option maxRecDepth 100000 in
set_option maxHeartbeats 8000000 in
theorem m_generate_assembler_event_c {s : Sig} {p0 : (List (Int × Int)) × Int × Int} {p1 : Int} {p2 : Int} {p3 : Int} {p4 : List (Int × Int × Int)} {t0 : Nat} {t0_0 : Nat} {a1 : Option Addr} {c1 : Nat} {b2 : Nat} {a3 : Option Addr} {c3 : Nat} {r : ((List (Int × Int)) × Int × Int)} (nt0_t0_0 : t0 ≠ t0_0) (nt0_0_t0 : t0_0 ≠ t0) (zt0 : 0 < t0) (zt0_0 : 0 < t0_0) (h1 : RowT (rP (rK .i64) (rK .i64)) s t0_0 119 a1 c1 p0.1) (bx2 : Bx s t0 b2 #[.slice a1 p0.1.length c1, .int .i64 p0.2.1, .int .i64 p0.2.2] 90) (h3 : RdL (rP (rK .i64) (rP (rK .i64) (rK .i64))) s a3 c3 p4) (hm : m_generate_assembler_event p0 p1 p2 p3 p4 = some r) :
    Calls Try.prog 40 #[.pointer (some ⟨b2, 0, none⟩), .int .i64 p1, .int .i64 p2, .int .i64 p3, .slice a3 p4.length c3] s.w (RetS (fun t => t = t0 ∨ t = t0_0) s fun v s' => ∃ (a4 : Option Addr) (c4 : Nat), v = .tuple #[] ∧ Bx s' t0 b2 #[.slice a4 r.1.length c4, .int .i64 r.2.1, .int .i64 r.2.2] 90 ∧ RowT (rP (rK .i64) (rK .i64)) s' t0_0 119 a4 c4 r.1) := by
  unfold m_generate_assembler_event at hm
  obtain ⟨N, hN, hNb, lt0, lt0_0, -⟩ := s.freshL [t0, t0_0]
  have m0 : Mv (Up N (fun t => t = t0 ∨ t = t0_0)) s s := Mv.refl _ _
  refine E.entry (vs := [.pointer (some ⟨b2, 0, none⟩), .int .i64 p1, .int .i64 p2, .int .i64 p3, .slice a3 p4.length c3]) (e := [(0, .pointer (some ⟨b2, 0, none⟩)), (1, .int .i64 p1), (2, .int .i64 p2), (3, .int .i64 p3), (4, .slice a3 p4.length c3)]) Try.func40 rfl Try.ntmps40 rfl rfl ?_
  refine E.seq ?_
  refine E.reg ?_
  refine L.mv Wt.no rfl rfl ?_
  refine L.mv Wt.no rfl rfl ?_
  refine L.bu (cs := [.int .i64 2, .int .i64 p1]) pl117 Wt.no rfl rfl rfl ?_
  refine L.bu (cs := [.int .i64 12, .int .i64 0]) pl117 Wt.no rfl rfl rfl ?_
  refine L.bsE (k := 2) (cs := [.int .i64 2, .int .i64 p1, .int .i64 12, .int .i64 0]) 0 bs134 (Nat.le_of_ble_eq_true rfl) Wt.no rfl rfl rfl rfl ?_
  intro b5 s6 m7 bx5
  replace m0 := m0.trans m7.no
  replace h3 := h3.mono (m7.le no_No)
  replace bx2 := bx2.mv m7 no_No
  replace h1 := h1.mv m7 no_No no_No
  have h5 := Bx.rdL (r := (rP (rK .i64) (rK .i64))) (xs := ([(2, p1), (12, 0)] : List (Int × Int))) bx5 ⟨[.int .i64 2, .int .i64 p1], _, rfl, ⟨[.int .i64 2], [.int .i64 p1], rfl, rfl, rfl⟩, ⟨[.int .i64 12, .int .i64 0], _, rfl, ⟨[.int .i64 12], [.int .i64 0], rfl, rfl, rfl⟩, rfl⟩⟩ (Nat.le_of_ble_eq_true rfl)
  obtain ⟨r8, er8, hm⟩ := bindS hm
  refine L.ca (vs := [.pointer (some ⟨b2, 0, none⟩), .slice (some ⟨b5, 0, none⟩) ([(2, p1), (12, 0)] : List (Int × Int)).length (([(2, p1), (12, 0)] : List (Int × Int)).length)]) cf69 rfl rfl Wt.no rfl (m_generate_assembler_put_c (s := s6) (p0 := p0) (p1 := ([(2, p1), (12, 0)] : List (Int × Int))) (t0 := t0) (t0_0 := t0_0) nt0_t0_0 nt0_0_t0 zt0 zt0_0 h1 bx2 h5 er8) rfl ?_
  rintro _ s9 m10 ⟨a11, c11, rfl, bx2, h11⟩
  replace m0 := m0.trans (m10.weak fun _ e => by rcases e with e | e; (rw [e]; exact (.inr (.inl rfl))); (rw [e]; exact (.inr (.inr rfl))))
  replace h3 := h3.mono (m10.le (nor (tgz zt0) (tgz zt0_0)))
  refine L.nil ?_
  refine X.seqN ?_
  refine E.seq ?_
  refine E.reg ?_
  refine L.mv Wt.no rfl rfl ?_
  refine L.nc Wt.no rfl rfl ?_
  refine L.fa fa90_0 Wt.no rfl rfl ?_
  refine L.ld (j := 0) bx2.mem nag30 Wt.no rfl rfl rfl rfl ?_
  refine L.len sl30 Wt.no rfl rfl ?_
  refine L.bi Wt.no rfl rfl rfl rfl ?_
  refine L.as Wt.no rfl rfl ?_
  refine L.nil ?_
  refine X.seqN ?_
  refine E.seq ?_
  refine E.reg ?_
  refine L.mv Wt.no rfl rfl ?_
  refine L.mv Wt.no rfl rfl ?_
  refine L.bu (cs := [.int .i64 1, .int .i64 p1]) pl117 Wt.no rfl rfl rfl ?_
  refine L.mv Wt.no rfl rfl ?_
  refine L.bu (cs := [.int .i64 10, .int .i64 p2]) pl117 Wt.no rfl rfl rfl ?_
  refine L.bsE (k := 2) (cs := [.int .i64 1, .int .i64 p1, .int .i64 10, .int .i64 p2]) 0 bs134 (Nat.le_of_ble_eq_true rfl) Wt.no rfl rfl rfl rfl ?_
  intro b13 s14 m15 bx13
  replace m0 := m0.trans m15.no
  replace h3 := h3.mono (m15.le no_No)
  replace bx2 := bx2.mv m15 no_No
  replace h11 := h11.mv m15 no_No no_No
  have h13 := Bx.rdL (r := (rP (rK .i64) (rK .i64))) (xs := ([(1, p1), (10, p2)] : List (Int × Int))) bx13 ⟨[.int .i64 1, .int .i64 p1], _, rfl, ⟨[.int .i64 1], [.int .i64 p1], rfl, rfl, rfl⟩, ⟨[.int .i64 10, .int .i64 p2], _, rfl, ⟨[.int .i64 10], [.int .i64 p2], rfl, rfl, rfl⟩, rfl⟩⟩ (Nat.le_of_ble_eq_true rfl)
  obtain ⟨r16, er16, hm⟩ := bindS hm
  refine L.ca (vs := [.pointer (some ⟨b2, 0, none⟩), .slice (some ⟨b13, 0, none⟩) ([(1, p1), (10, p2)] : List (Int × Int)).length (([(1, p1), (10, p2)] : List (Int × Int)).length)]) cf69 rfl rfl Wt.no rfl (m_generate_assembler_put_c (s := s14) (p0 := r8) (p1 := ([(1, p1), (10, p2)] : List (Int × Int))) (t0 := t0) (t0_0 := t0_0) nt0_t0_0 nt0_0_t0 zt0 zt0_0 h11 bx2 h13 er16) rfl ?_
  rintro _ s17 m18 ⟨a19, c19, rfl, bx2, h19⟩
  replace m0 := m0.trans (m18.weak fun _ e => by rcases e with e | e; (rw [e]; exact (.inr (.inl rfl))); (rw [e]; exact (.inr (.inr rfl))))
  replace h3 := h3.mono (m18.le (nor (tgz zt0) (tgz zt0_0)))
  refine L.nil ?_
  refine X.seqN ?_
  refine E.seq ?_
  refine E.seq ?_
  refine E.reg ?_
  refine L.mv Wt.no rfl rfl ?_
  refine L.len sl24 Wt.no rfl rfl ?_
  refine L.mv Wt.no rfl rfl ?_
  refine L.nil ?_
  refine X.seqN ?_
  refine E.block ?_
  obtain ⟨o63, eo63, hm⟩ := bindS hm
  refine E.cut (x := .exit 0) (fun e w => ∃ (s69 : Sig) (a65 : Option Addr) (c65 : Nat), Mv (Up N (fun t => t = t0 ∨ t = t0_0)) s s69 ∧ RowT (rP (rK .i64) (rK .i64)) s69 t0_0 119 a65 c65 o63.1 ∧ Bx s69 t0 b2 #[.slice a65 o63.1.length c65, .int .i64 o63.2.1, .int .i64 o63.2.2] 90 ∧ e = [(10, .int .i64 (W ((r8.1.length : Int) - 1))), (0, .pointer (some ⟨b2, 0, none⟩)), (2, .int .i64 p2), (3, .int .i64 p3)] ∧ w = s69.w) ?_ ?_
  · rintro _ _ ⟨s69, a65, c65, m0, h65, bx2, rfl, rfl⟩
    refine X.blkE ?_
    refine X.seqN ?_
    refine E.seq ?_
    refine E.reg ?_
    refine L.mv Wt.no rfl rfl ?_
    refine L.mv Wt.no rfl rfl ?_
    refine L.bu (cs := [.int .i64 2, .int .i64 p2]) pl117 Wt.no rfl rfl rfl ?_
    refine L.mv Wt.no rfl rfl ?_
    refine L.bu (cs := [.int .i64 9, .int .i64 p3]) pl117 Wt.no rfl rfl rfl ?_
    refine L.bsE (k := 2) (cs := [.int .i64 2, .int .i64 p2, .int .i64 9, .int .i64 p3]) 0 bs134 (Nat.le_of_ble_eq_true rfl) Wt.no rfl rfl rfl rfl ?_
    intro b70 s71 m72 bx70
    replace m0 := m0.trans m72.no
    replace bx2 := bx2.mv m72 no_No
    replace h65 := h65.mv m72 no_No no_No
    have h70 := Bx.rdL (r := (rP (rK .i64) (rK .i64))) (xs := ([(2, p2), (9, p3)] : List (Int × Int))) bx70 ⟨[.int .i64 2, .int .i64 p2], _, rfl, ⟨[.int .i64 2], [.int .i64 p2], rfl, rfl, rfl⟩, ⟨[.int .i64 9, .int .i64 p3], _, rfl, ⟨[.int .i64 9], [.int .i64 p3], rfl, rfl, rfl⟩, rfl⟩⟩ (Nat.le_of_ble_eq_true rfl)
    obtain ⟨r73, er73, hm⟩ := bindS hm
    refine L.ca (vs := [.pointer (some ⟨b2, 0, none⟩), .slice (some ⟨b70, 0, none⟩) ([(2, p2), (9, p3)] : List (Int × Int)).length (([(2, p2), (9, p3)] : List (Int × Int)).length)]) cf69 rfl rfl Wt.no rfl (m_generate_assembler_put_c (s := s71) (p0 := o63) (p1 := ([(2, p2), (9, p3)] : List (Int × Int))) (t0 := t0) (t0_0 := t0_0) nt0_t0_0 nt0_0_t0 zt0 zt0_0 h65 bx2 h70 er73) rfl ?_
    rintro _ s74 m75 ⟨a76, c76, rfl, bx2, h76⟩
    replace m0 := m0.trans (m75.weak fun _ e => by rcases e with e | e; (rw [e]; exact (.inr (.inl rfl))); (rw [e]; exact (.inr (.inr rfl))))
    refine L.nil ?_
    refine X.seqN ?_
    obtain ⟨x89, ex89, hm⟩ := bindS hm
    obtain ⟨x93, ex93, hm⟩ := bindS hm
    have elx93 := upd_len ex93
    refine E.draw [[], [0], [0, 1], [0, 1, 2], [], [], [5], [5, 6], [5, 6, 7], [5, 6, 7, 8], [0, 1, 2, 3, 4, 5, 6, 7, 8, 9], [0, 1, 2, 3, 4, 5, 6, 7, 8, 9, 10], [0, 1, 2, 3, 4, 5, 6, 7, 8, 9, 10, 11]] (fun D e sx => Mv (One t0_0) s74 sx ∧ Sub [(10, .int .i64 (W ((r8.1.length : Int) - 1))), (0, .pointer (some ⟨b2, 0, none⟩))] e ∧ (D 0 = true → (Env.get e 69 = some (.pointer (some ⟨b2, 0, none⟩)))) ∧ (D 1 = true → (Env.get e 70 = some (.pointer (some ⟨b2, 0, none⟩)))) ∧ (D 2 = true → (Env.get e 71 = some (.pointer (some ⟨b2, 0, none⟩)))) ∧ (D 3 = true → (Env.get e 72 = some (.slice a76 r73.1.length c76))) ∧ (D 4 = true → (Env.get e 73 = some (.int .i64 (W ((r8.1.length : Int) - 1))))) ∧ (D 5 = true → (Env.get e 74 = some (.pointer (some ⟨b2, 0, none⟩)))) ∧ (D 6 = true → (Env.get e 75 = some (.pointer (some ⟨b2, 0, none⟩)))) ∧ (D 7 = true → (Env.get e 76 = some (.pointer (some ⟨b2, 0, none⟩)))) ∧ (D 8 = true → (Env.get e 77 = some (.slice a76 r73.1.length c76))) ∧ (D 9 = true → (Env.get e 78 = some (.int .i64 (r73.1.length : Int)))) ∧ (D 10 = true → (∃ (b90 : Nat) (o90 : Nat), Env.get e 79 = some (.pointer (some ⟨b90, o90, none⟩)) ∧ Spot a76 (rP (rK .i64) (rK .i64)).sz (W ((r8.1.length : Int) - 1)).toNat b90 o90)) ∧ (D 11 = true → ∀ (b90 : Nat) (o90 : Nat), Env.get e 79 = some (.pointer (some ⟨b90, o90, none⟩)) → (Env.get e 80 = some (.pointer (some ⟨b90, o90 + 1, none⟩)))) ∧ (D 12 = false → RowT (rP (rK .i64) (rK .i64)) sx t0_0 119 a76 c76 r73.1) ∧ (D 12 = true → RowT (rP (rK .i64) (rK .i64)) sx t0_0 119 a76 c76 x93) ∧ (D 10 = true → D 12 = false → ∀ (b90 : Nat) (o90 : Nat), Env.get e 79 = some (.pointer (some ⟨b90, o90, none⟩)) → Mem sx t0_0 b90 o90 [.int .i64 x89.1, .int .i64 x89.2])) (by kernel_rfl) (by kernel_rfl) (by kernel_rfl) ?_ ?_ ?_
    · intro sz mz
      exact ⟨mz.no, (Sub.cons rfl (Sub.cons rfl Sub.nil)), nofun, nofun, nofun, nofun, nofun, nofun, nofun, nofun, nofun, nofun, nofun, nofun, fun _ => h76.mv mz no_No no_No, nofun, nofun⟩
    · refine ⟨?_, ?_, ?_, ?_, ?_, ?_, ?_, ?_, ?_, ?_, ?_, ?_, ?_, trivial⟩
      · rintro D e s78 ⟨im, ib, i0, i1, i2, i3, i4, i5, i6, i7, i8, i9, i10, i11, i12, i13, i14⟩ hk hf ha
        refine L.kns [(0, .pointer (some ⟨b2, 0, none⟩))] ⟨(ib 0 _ rfl), trivial⟩ ?_
        refine L.mv Wt.no rfl rfl ?_
        refine L.nil ?_
        refine X.dr (s := s78) (e' := (69, .pointer (some ⟨b2, 0, none⟩)) :: e) (Sub.both (Kn.sup ⟨(ib 0 _ rfl), trivial⟩)) ⟨im, Sub.fresh ib rfl, fun _ => rfl, i1, i2, i3, i4, i5, i6, i7, i8, i9, i10, i11, i12, i13, i14⟩
      · rintro D e s79 ⟨im, ib, i0, i1, i2, i3, i4, i5, i6, i7, i8, i9, i10, i11, i12, i13, i14⟩ hk hf ha
        obtain ⟨d0, -⟩ := ha
        have g0_ := i0 d0
        refine L.kns [(69, .pointer (some ⟨b2, 0, none⟩))] ⟨g0_, trivial⟩ ?_
        refine L.nc Wt.no rfl rfl ?_
        refine L.nil ?_
        refine X.dr (s := s79) (e' := (70, .pointer (some ⟨b2, 0, none⟩)) :: e) (Sub.both (Kn.sup ⟨g0_, trivial⟩)) ⟨im, Sub.fresh ib rfl, i0, fun _ => rfl, i2, i3, i4, i5, i6, i7, i8, i9, i10, i11, i12, i13, i14⟩
      · rintro D e s80 ⟨im, ib, i0, i1, i2, i3, i4, i5, i6, i7, i8, i9, i10, i11, i12, i13, i14⟩ hk hf ha
        obtain ⟨d0, d1, -⟩ := ha
        have g1_ := i1 d1
        refine L.kns [(70, .pointer (some ⟨b2, 0, none⟩))] ⟨g1_, trivial⟩ ?_
        refine L.fa fa90_0 Wt.no rfl rfl ?_
        refine L.nil ?_
        refine X.dr (s := s80) (e' := (71, .pointer (some ⟨b2, 0, none⟩)) :: e) (Sub.both (Kn.sup ⟨g1_, trivial⟩)) ⟨im, Sub.fresh ib rfl, i0, i1, fun _ => rfl, i3, i4, i5, i6, i7, i8, i9, i10, i11, i12, i13, i14⟩
      · rintro D e s81 ⟨im, ib, i0, i1, i2, i3, i4, i5, i6, i7, i8, i9, i10, i11, i12, i13, i14⟩ hk hf ha
        obtain ⟨d0, d1, d2, -⟩ := ha
        have g2_ := i2 d2
        have bx2 := bx2.mv im nt0_t0_0
        refine L.kns [(71, .pointer (some ⟨b2, 0, none⟩))] ⟨g2_, trivial⟩ ?_
        refine L.ld (j := 0) bx2.mem nag30 Wt.no rfl rfl rfl rfl ?_
        refine L.nil ?_
        refine X.dr (s := s81) (e' := (72, .slice a76 r73.1.length c76) :: e) (Sub.both (Kn.sup ⟨g2_, trivial⟩)) ⟨im, Sub.fresh ib rfl, i0, i1, i2, fun _ => rfl, i4, i5, i6, i7, i8, i9, i10, i11, i12, i13, i14⟩
      · rintro D e s82 ⟨im, ib, i0, i1, i2, i3, i4, i5, i6, i7, i8, i9, i10, i11, i12, i13, i14⟩ hk hf ha
        refine L.kns [(10, .int .i64 (W ((r8.1.length : Int) - 1)))] ⟨(ib 10 _ rfl), trivial⟩ ?_
        refine L.mv Wt.no rfl rfl ?_
        refine L.nil ?_
        refine X.dr (s := s82) (e' := (73, .int .i64 (W ((r8.1.length : Int) - 1))) :: e) (Sub.both (Kn.sup ⟨(ib 10 _ rfl), trivial⟩)) ⟨im, Sub.fresh ib rfl, i0, i1, i2, i3, fun _ => rfl, i5, i6, i7, i8, i9, i10, i11, i12, i13, i14⟩
      · rintro D e s83 ⟨im, ib, i0, i1, i2, i3, i4, i5, i6, i7, i8, i9, i10, i11, i12, i13, i14⟩ hk hf ha
        refine L.kns [(0, .pointer (some ⟨b2, 0, none⟩))] ⟨(ib 0 _ rfl), trivial⟩ ?_
        refine L.mv Wt.no rfl rfl ?_
        refine L.nil ?_
        refine X.dr (s := s83) (e' := (74, .pointer (some ⟨b2, 0, none⟩)) :: e) (Sub.both (Kn.sup ⟨(ib 0 _ rfl), trivial⟩)) ⟨im, Sub.fresh ib rfl, i0, i1, i2, i3, i4, fun _ => rfl, i6, i7, i8, i9, i10, i11, i12, i13, i14⟩
      · rintro D e s84 ⟨im, ib, i0, i1, i2, i3, i4, i5, i6, i7, i8, i9, i10, i11, i12, i13, i14⟩ hk hf ha
        obtain ⟨d5, -⟩ := ha
        have g5_ := i5 d5
        refine L.kns [(74, .pointer (some ⟨b2, 0, none⟩))] ⟨g5_, trivial⟩ ?_
        refine L.nc Wt.no rfl rfl ?_
        refine L.nil ?_
        refine X.dr (s := s84) (e' := (75, .pointer (some ⟨b2, 0, none⟩)) :: e) (Sub.both (Kn.sup ⟨g5_, trivial⟩)) ⟨im, Sub.fresh ib rfl, i0, i1, i2, i3, i4, i5, fun _ => rfl, i7, i8, i9, i10, i11, i12, i13, i14⟩
      · rintro D e s85 ⟨im, ib, i0, i1, i2, i3, i4, i5, i6, i7, i8, i9, i10, i11, i12, i13, i14⟩ hk hf ha
        obtain ⟨d5, d6, -⟩ := ha
        have g6_ := i6 d6
        refine L.kns [(75, .pointer (some ⟨b2, 0, none⟩))] ⟨g6_, trivial⟩ ?_
        refine L.fa fa90_0 Wt.no rfl rfl ?_
        refine L.nil ?_
        refine X.dr (s := s85) (e' := (76, .pointer (some ⟨b2, 0, none⟩)) :: e) (Sub.both (Kn.sup ⟨g6_, trivial⟩)) ⟨im, Sub.fresh ib rfl, i0, i1, i2, i3, i4, i5, i6, fun _ => rfl, i8, i9, i10, i11, i12, i13, i14⟩
      · rintro D e s86 ⟨im, ib, i0, i1, i2, i3, i4, i5, i6, i7, i8, i9, i10, i11, i12, i13, i14⟩ hk hf ha
        obtain ⟨d5, d6, d7, -⟩ := ha
        have g7_ := i7 d7
        have bx2 := bx2.mv im nt0_t0_0
        refine L.kns [(76, .pointer (some ⟨b2, 0, none⟩))] ⟨g7_, trivial⟩ ?_
        refine L.ld (j := 0) bx2.mem nag30 Wt.no rfl rfl rfl rfl ?_
        refine L.nil ?_
        refine X.dr (s := s86) (e' := (77, .slice a76 r73.1.length c76) :: e) (Sub.both (Kn.sup ⟨g7_, trivial⟩)) ⟨im, Sub.fresh ib rfl, i0, i1, i2, i3, i4, i5, i6, i7, fun _ => rfl, i9, i10, i11, i12, i13, i14⟩
      · rintro D e s87 ⟨im, ib, i0, i1, i2, i3, i4, i5, i6, i7, i8, i9, i10, i11, i12, i13, i14⟩ hk hf ha
        obtain ⟨d5, d6, d7, d8, -⟩ := ha
        have g8_ := i8 d8
        refine L.kns [(77, .slice a76 r73.1.length c76)] ⟨g8_, trivial⟩ ?_
        refine L.len sl30 Wt.no rfl rfl ?_
        refine L.nil ?_
        refine X.dr (s := s87) (e' := (78, .int .i64 (r73.1.length : Int)) :: e) (Sub.both (Kn.sup ⟨g8_, trivial⟩)) ⟨im, Sub.fresh ib rfl, i0, i1, i2, i3, i4, i5, i6, i7, i8, fun _ => rfl, i10, i11, i12, i13, i14⟩
      · rintro D e s88 ⟨im, ib, i0, i1, i2, i3, i4, i5, i6, i7, i8, i9, i10, i11, i12, i13, i14⟩ hk hf ha
        obtain ⟨d0, d1, d2, d3, d4, d5, d6, d7, d8, d9, -⟩ := ha
        have g3_ := i3 d3
        have g4_ := i4 d4
        obtain h76 := i12 (hf 12 (Nat.le_of_ble_eq_true rfl) rfl)
        refine L.kns [(72, .slice a76 r73.1.length c76), (73, .int .i64 (W ((r8.1.length : Int) - 1)))] ⟨g3_, g4_, trivial⟩ ?_
        refine L.ir (r := (rP (rK .i64) (rK .i64))) sl30 h76 Wt.no rfl rfl ex89 rfl ?_
        rintro b90 o90 cc90 me90 rd90 sp90
        obtain ⟨_, _, rfl, rfl, rfl⟩ := rd90
        refine L.nil ?_
        refine X.dr (s := s88) (e' := (79, .pointer (some ⟨b90, o90, none⟩)) :: e) (Sub.both (Kn.sup ⟨g3_, g4_, trivial⟩)) ⟨im, Sub.fresh ib rfl, i0, i1, i2, i3, i4, i5, i6, i7, i8, i9, fun _ => ⟨b90, o90, rfl, sp90⟩, fun z => Bool.noConfusion ((hf 11 (Nat.le_of_ble_eq_true rfl) rfl).symm.trans z), i12, i13, fun _ _ _ _ q10 => by cases (show some (.pointer (some ⟨b90, o90, none⟩) : Value) = some _ from q10); exact me90⟩
      · rintro D e s91 ⟨im, ib, i0, i1, i2, i3, i4, i5, i6, i7, i8, i9, i10, i11, i12, i13, i14⟩ hk hf ha
        obtain ⟨d0, d1, d2, d3, d4, d5, d6, d7, d8, d9, d10, -⟩ := ha
        obtain ⟨b90, o90, g10_, sp90⟩ := i10 d10
        refine L.kns [(79, .pointer (some ⟨b90, o90, none⟩))] ⟨g10_, trivial⟩ ?_
        refine L.fa fa119_1 Wt.no rfl rfl ?_
        refine L.nil ?_
        refine X.dr (s := s91) (e' := (80, .pointer (some ⟨b90, o90 + 1, none⟩)) :: e) (Sub.both (Kn.sup ⟨g10_, trivial⟩)) ⟨im, Sub.fresh ib rfl, i0, i1, i2, i3, i4, i5, i6, i7, i8, i9, i10, fun _ _ _ q10 => by cases g10_.symm.trans q10; exact rfl, i12, i13, i14⟩
      · rintro D e s92 ⟨im, ib, i0, i1, i2, i3, i4, i5, i6, i7, i8, i9, i10, i11, i12, i13, i14⟩ hk hf ha
        obtain ⟨d0, d1, d2, d3, d4, d5, d6, d7, d8, d9, d10, d11, -⟩ := ha
        have g9_ := i9 d9
        obtain ⟨b90, o90, g10_, sp90⟩ := i10 d10
        have g11_ := i11 d11 b90 o90 g10_
        obtain h76 := i12 hk
        refine L.kns [(80, .pointer (some ⟨b90, o90 + 1, none⟩)), (78, .int .i64 (r73.1.length : Int))] ⟨g11_, g9_, trivial⟩ ?_
        refine L.su (fo := 1) (c := [.int .i64 (r73.1.length : Int)]) (z := (x89.1, (r73.1.length : Int))) h76 sp90 ex89 ex93 (tgpV zt0_0) nag3.sz Wt.no rfl rfl rfl rfl rfl rfl (fun c0 hc0 => by obtain ⟨_, _, rfl, rfl, rfl⟩ := hc0; exact ⟨[.int .i64 x89.1], [.int .i64 (r73.1.length : Int)], rfl, rfl, rfl⟩) ?_
        intro s94 m95 h76
        refine L.nil ?_
        refine X.dr (s := s94) (e' := e) (Kn.sup ⟨g11_, g9_, trivial⟩) ⟨im.trans (m95.one rfl), ib, i0, i1, i2, i3, i4, i5, i6, i7, i8, i9, fun z => let ⟨b90, o90, q, sp90⟩ := i10 z; ⟨b90, o90, q, sp90⟩, i11, fun z => Bool.noConfusion (show true = false from z), fun _ => by exact h76, fun _ y12 => Bool.noConfusion (show true = false from y12)⟩
    · rintro D e s96 hD ⟨im, ib, i0, i1, i2, i3, i4, i5, i6, i7, i8, i9, i10, i11, i12, i13, i14⟩
      obtain h76 := i13 (hD 12 rfl)
      have bx2 := bx2.mv im nt0_t0_0
      have m0 := m0.trans (im.one (.inr (.inr rfl)))
      refine X.sub (e' := []) ?_ Sub.nil
      rw [← elx93] at bx2
      obtain rfl := Option.some.inj hm
      exact X.rt (.inr rfl) Try.results40 Rs.nil rfl ⟨_, (s96).ren N (fun _ => 0), rfl, rfl, m0.ren hNb, ⟨a76, c76, rfl, (bx2.renV lt0), (h76.renV hN lt0_0)⟩⟩
  intro K97
  refine E.iter (fun (st63 : Int × (List (Int × Int)) × Int × Int) (e : List (Nat × Value)) (w : World) => ∃ (s68 : Sig) (a23 : Option Addr) (c23 : Nat), Mv (Up N (fun t => t = t0 ∨ t = t0_0)) s s68 ∧ RdL (rP (rK .i64) (rP (rK .i64) (rK .i64))) s68 a3 c3 p4 ∧ RowT (rP (rK .i64) (rK .i64)) s68 t0_0 119 a23 c23 st63.2.1 ∧ Bx s68 t0 b2 #[.slice a23 st63.2.1.length c23, .int .i64 st63.2.2.1, .int .i64 st63.2.2.2] 90 ∧ e = [(36, .int .i64 st63.1), (35, .int .i64 (p4.length : Int)), (34, .slice a3 p4.length c3), (10, .int .i64 (W ((r8.1.length : Int) - 1))), (0, .pointer (some ⟨b2, 0, none⟩)), (2, .int .i64 p2), (3, .int .i64 p3)] ∧ w = s68.w) eo63 ⟨s17, a19, c19, m0, h3, h19, bx2, rfl, rfl⟩ (Sub.cons rfl (Sub.cons rfl (Sub.cons rfl (Sub.cons rfl (Sub.cons rfl (Sub.cons rfl (Sub.cons rfl Sub.nil))))))) ?_
  rintro st63 res63 hm ih63 ho63 _ _ ⟨s68, a23, c23, m0, h3, h23, bx2, rfl, rfl⟩
  unfold m_generate_assembler_event_l1 at hm
  refine E.seq ?_
  refine E.reg ?_
  refine L.bi Wt.no rfl rfl rfl rfl ?_
  refine L.nil ?_
  refine X.seqN ?_
  refine E.seq ?_
  rcases ifS hm with ⟨hc, hm⟩ | ⟨hc, hm⟩
  · refine E.cT rfl hc ?_
    refine E.skip ?_
    refine X.seqN ?_
    refine E.seq ?_
    refine E.block ?_
    refine E.seq ?_
    refine E.reg ?_
    obtain ⟨x98, ex98, hm⟩ := bindS hm
    refine L.ix (r := (rP (rK .i64) (rP (rK .i64) (rK .i64)))) sl24 h3 Wt.no rfl rfl ex98 rfl ?_
    rintro b99 o99 cc99 me99 rd99
    obtain ⟨_, _, rfl, rfl, ⟨_, _, rfl, rfl, rfl⟩⟩ := rd99
    refine L.lg (j := 0) (cs := [.int .i64 x98.1, .int .i64 x98.2.1, .int .i64 x98.2.2]) me99 ag28 Wt.no rfl rfl rfl rfl rfl ?_
    refine L.al (N + 0) zz28 rfl Wt.no rfl ?_
    intro b100 s101 m102 bx100
    replace m0 := m0.trans m102.no
    replace h3 := h3.mono (m102.le no_No)
    replace bx2 := bx2.mv m102 no_No
    replace h23 := h23.mv m102 no_No no_No
    refine L.st (c := [.int .i64 x98.1, .int .i64 x98.2.1, .int .i64 x98.2.2]) (cs' := #[.int .i64 x98.1, .int .i64 x98.2.1, .int .i64 x98.2.2]) bx100 ag28.sz Wt.no rfl rfl rfl rfl rfl (Nat.le_of_ble_eq_true rfl) rfl ?_
    intro s103 m104 bx100
    replace m0 := m0.trans (m104.one up)
    replace h3 := h3.mono (m104.le (tg0 hN))
    replace bx2 := bx2.mv m104 (tgV lt0)
    replace h23 := h23.mv m104 (tgV lt0_0) (tg0 hN)
    refine L.nil ?_
    refine X.seqN ?_
    refine E.seq ?_
    obtain ⟨r109, er109, hm⟩ := bindS hm
    obtain ⟨r116, er116, hm⟩ := bindS hm
    refine E.draw [[], [], [1], [0, 1, 2], [], [], [5], [0, 1, 2, 3, 4, 5, 6], [0, 1, 2, 3, 4, 5, 6, 7], [0, 1, 2, 3, 4, 5, 6, 7, 8]] (fun D e sx => Mv No s103 sx ∧ Sub [(12, .pointer (some ⟨b100, 0, none⟩)), (36, .int .i64 st63.1), (35, .int .i64 (p4.length : Int)), (34, .slice a3 p4.length c3), (10, .int .i64 (W ((r8.1.length : Int) - 1))), (0, .pointer (some ⟨b2, 0, none⟩)), (2, .int .i64 p2), (3, .int .i64 p3)] e ∧ (D 0 = true → (Env.get e 40 = some (.pointer (some ⟨b2, 0, none⟩)))) ∧ (D 1 = true → (Env.get e 41 = some (.pointer (some ⟨b100, 0, none⟩)))) ∧ (D 2 = true → (Env.get e 42 = some (.int .i64 x98.1))) ∧ (D 3 = true → (Env.get e 43 = some (.int .i64 r109))) ∧ (D 4 = true → (Env.get e 44 = some (.pointer (some ⟨b2, 0, none⟩)))) ∧ (D 5 = true → (Env.get e 45 = some (.pointer (some ⟨b100, 2, none⟩)))) ∧ (D 6 = true → (Env.get e 46 = some (.int .i64 x98.2.2))) ∧ (D 7 = true → (Env.get e 47 = some (.int .i64 r116))) ∧ (D 8 = true → (Env.get e 13 = some (.int .i64 r109))) ∧ (D 9 = true → (Env.get e 14 = some (.int .i64 r116)))) (by kernel_rfl) (by kernel_rfl) (by kernel_rfl) ?_ ?_ ?_
    · intro sz mz
      exact ⟨mz, (Sub.cons rfl (Sub.cons rfl (Sub.cons rfl (Sub.cons rfl (Sub.cons rfl (Sub.cons rfl (Sub.cons rfl (Sub.cons rfl Sub.nil)))))))), nofun, nofun, nofun, nofun, nofun, nofun, nofun, nofun, nofun, nofun⟩
    · refine ⟨?_, ?_, ?_, ?_, ?_, ?_, ?_, ?_, ?_, ?_, trivial⟩
      · rintro D e s105 ⟨im, ib, i0, i1, i2, i3, i4, i5, i6, i7, i8, i9⟩ hk hf ha
        refine L.kns [(0, .pointer (some ⟨b2, 0, none⟩))] ⟨(ib 0 _ rfl), trivial⟩ ?_
        refine L.mv Wt.no rfl rfl ?_
        refine L.nil ?_
        refine X.dr (s := s105) (e' := (40, .pointer (some ⟨b2, 0, none⟩)) :: e) (Sub.both (Kn.sup ⟨(ib 0 _ rfl), trivial⟩)) ⟨im, Sub.fresh ib rfl, fun _ => rfl, i1, i2, i3, i4, i5, i6, i7, i8, i9⟩
      · rintro D e s106 ⟨im, ib, i0, i1, i2, i3, i4, i5, i6, i7, i8, i9⟩ hk hf ha
        refine L.kns [(12, .pointer (some ⟨b100, 0, none⟩))] ⟨(ib 12 _ rfl), trivial⟩ ?_
        refine L.fa fa28_0 Wt.no rfl rfl ?_
        refine L.nil ?_
        refine X.dr (s := s106) (e' := (41, .pointer (some ⟨b100, 0, none⟩)) :: e) (Sub.both (Kn.sup ⟨(ib 12 _ rfl), trivial⟩)) ⟨im, Sub.fresh ib rfl, i0, fun _ => rfl, i2, i3, i4, i5, i6, i7, i8, i9⟩
      · rintro D e s107 ⟨im, ib, i0, i1, i2, i3, i4, i5, i6, i7, i8, i9⟩ hk hf ha
        obtain ⟨d1, -⟩ := ha
        have g1_ := i1 d1
        have bx100 := bx100.mv im no_No
        refine L.kns [(41, .pointer (some ⟨b100, 0, none⟩))] ⟨g1_, trivial⟩ ?_
        refine L.ld (j := 0) bx100.mem nag3 Wt.no rfl rfl rfl rfl ?_
        refine L.nil ?_
        refine X.dr (s := s107) (e' := (42, .int .i64 x98.1) :: e) (Sub.both (Kn.sup ⟨g1_, trivial⟩)) ⟨im, Sub.fresh ib rfl, i0, i1, fun _ => rfl, i3, i4, i5, i6, i7, i8, i9⟩
      · rintro D e s108 ⟨im, ib, i0, i1, i2, i3, i4, i5, i6, i7, i8, i9⟩ hk hf ha
        obtain ⟨d0, d1, d2, -⟩ := ha
        have g0_ := i0 d0
        have g2_ := i2 d2
        have bx2 := bx2.mv im no_No
        have h23 := h23.mv im no_No no_No
        refine L.kns [(40, .pointer (some ⟨b2, 0, none⟩)), (42, .int .i64 x98.1)] ⟨g0_, g2_, trivial⟩ ?_
        refine L.ca (vs := [.pointer (some ⟨b2, 0, none⟩), .int .i64 x98.1]) cf41 rfl rfl Wt.no rfl (Calls.lendG (s0 := (Sig.fz t0_0 (Sig.drop N s108))) (s := s108) rfl (m_generate_assembler_memory_c (s := (Sig.fz t0_0 (Sig.drop N s108))) (p0 := st63.2) (p1 := x98.1) (t0 := t0) ((h23.dropV lt0_0).fz (Ne.symm (tne0V zt0_0))) ((bx2.dropV lt0).mv (Sig.fz_mv t0_0 _) nt0_t0_0) er109) (fun v s' h => h)) rfl ?_
        rintro _ s110 m111 rfl
        refine L.nil ?_
        refine X.dr (s := s110) (e' := (43, .int .i64 r109) :: e) (Sub.both (Kn.sup ⟨g0_, g2_, trivial⟩)) ⟨im.trans m111.no, Sub.fresh ib rfl, i0, i1, i2, fun _ => rfl, i4, i5, i6, i7, i8, i9⟩
      · rintro D e s112 ⟨im, ib, i0, i1, i2, i3, i4, i5, i6, i7, i8, i9⟩ hk hf ha
        refine L.kns [(0, .pointer (some ⟨b2, 0, none⟩))] ⟨(ib 0 _ rfl), trivial⟩ ?_
        refine L.mv Wt.no rfl rfl ?_
        refine L.nil ?_
        refine X.dr (s := s112) (e' := (44, .pointer (some ⟨b2, 0, none⟩)) :: e) (Sub.both (Kn.sup ⟨(ib 0 _ rfl), trivial⟩)) ⟨im, Sub.fresh ib rfl, i0, i1, i2, i3, fun _ => rfl, i5, i6, i7, i8, i9⟩
      · rintro D e s113 ⟨im, ib, i0, i1, i2, i3, i4, i5, i6, i7, i8, i9⟩ hk hf ha
        refine L.kns [(12, .pointer (some ⟨b100, 0, none⟩))] ⟨(ib 12 _ rfl), trivial⟩ ?_
        refine L.fa fa28_2 Wt.no rfl rfl ?_
        refine L.nil ?_
        refine X.dr (s := s113) (e' := (45, .pointer (some ⟨b100, 2, none⟩)) :: e) (Sub.both (Kn.sup ⟨(ib 12 _ rfl), trivial⟩)) ⟨im, Sub.fresh ib rfl, i0, i1, i2, i3, i4, fun _ => rfl, i6, i7, i8, i9⟩
      · rintro D e s114 ⟨im, ib, i0, i1, i2, i3, i4, i5, i6, i7, i8, i9⟩ hk hf ha
        obtain ⟨d5, -⟩ := ha
        have g5_ := i5 d5
        have bx100 := bx100.mv im no_No
        refine L.kns [(45, .pointer (some ⟨b100, 2, none⟩))] ⟨g5_, trivial⟩ ?_
        refine L.ld (j := 2) bx100.mem nag3 Wt.no rfl rfl rfl rfl ?_
        refine L.nil ?_
        refine X.dr (s := s114) (e' := (46, .int .i64 x98.2.2) :: e) (Sub.both (Kn.sup ⟨g5_, trivial⟩)) ⟨im, Sub.fresh ib rfl, i0, i1, i2, i3, i4, i5, fun _ => rfl, i7, i8, i9⟩
      · rintro D e s115 ⟨im, ib, i0, i1, i2, i3, i4, i5, i6, i7, i8, i9⟩ hk hf ha
        obtain ⟨d0, d1, d2, d3, d4, d5, d6, -⟩ := ha
        have g4_ := i4 d4
        have g6_ := i6 d6
        have bx2 := bx2.mv im no_No
        have h23 := h23.mv im no_No no_No
        refine L.kns [(44, .pointer (some ⟨b2, 0, none⟩)), (46, .int .i64 x98.2.2)] ⟨g4_, g6_, trivial⟩ ?_
        refine L.ca (vs := [.pointer (some ⟨b2, 0, none⟩), .int .i64 x98.2.2]) cf41 rfl rfl Wt.no rfl (Calls.lendG (s0 := (Sig.fz t0_0 (Sig.drop N s115))) (s := s115) rfl (m_generate_assembler_memory_c (s := (Sig.fz t0_0 (Sig.drop N s115))) (p0 := st63.2) (p1 := x98.2.2) (t0 := t0) ((h23.dropV lt0_0).fz (Ne.symm (tne0V zt0_0))) ((bx2.dropV lt0).mv (Sig.fz_mv t0_0 _) nt0_t0_0) er116) (fun v s' h => h)) rfl ?_
        rintro _ s117 m118 rfl
        refine L.nil ?_
        refine X.dr (s := s117) (e' := (47, .int .i64 r116) :: e) (Sub.both (Kn.sup ⟨g4_, g6_, trivial⟩)) ⟨im.trans m118.no, Sub.fresh ib rfl, i0, i1, i2, i3, i4, i5, i6, fun _ => rfl, i8, i9⟩
      · rintro D e s119 ⟨im, ib, i0, i1, i2, i3, i4, i5, i6, i7, i8, i9⟩ hk hf ha
        obtain ⟨d0, d1, d2, d3, d4, d5, d6, d7, -⟩ := ha
        have g3_ := i3 d3
        refine L.kns [(43, .int .i64 r109)] ⟨g3_, trivial⟩ ?_
        refine L.as Wt.no rfl rfl ?_
        refine L.nil ?_
        refine X.dr (s := s119) (e' := (13, .int .i64 r109) :: e) (Sub.both (Kn.sup ⟨g3_, trivial⟩)) ⟨im, Sub.fresh ib rfl, i0, i1, i2, i3, i4, i5, i6, i7, fun _ => rfl, i9⟩
      · rintro D e s120 ⟨im, ib, i0, i1, i2, i3, i4, i5, i6, i7, i8, i9⟩ hk hf ha
        obtain ⟨d0, d1, d2, d3, d4, d5, d6, d7, d8, -⟩ := ha
        have g7_ := i7 d7
        refine L.kns [(47, .int .i64 r116)] ⟨g7_, trivial⟩ ?_
        refine L.as Wt.no rfl rfl ?_
        refine L.nil ?_
        refine X.dr (s := s120) (e' := (14, .int .i64 r116) :: e) (Sub.both (Kn.sup ⟨g7_, trivial⟩)) ⟨im, Sub.fresh ib rfl, i0, i1, i2, i3, i4, i5, i6, i7, i8, fun _ => rfl⟩
    · rintro D e s121 hD ⟨im, ib, i0, i1, i2, i3, i4, i5, i6, i7, i8, i9⟩
      have g8_ := i8 (hD 8 rfl)
      have g9_ := i9 (hD 9 rfl)
      have h3 := h3.mono (im.le no_No)
      have bx2 := bx2.mv im no_No
      have h23 := h23.mv im no_No no_No
      have m0 := m0.trans im.no
      refine X.sub (e' := [(14, .int .i64 r116), (13, .int .i64 r109), (36, .int .i64 st63.1), (35, .int .i64 (p4.length : Int)), (34, .slice a3 p4.length c3), (10, .int .i64 (W ((r8.1.length : Int) - 1))), (0, .pointer (some ⟨b2, 0, none⟩)), (2, .int .i64 p2), (3, .int .i64 p3)]) ?_ (Sub.cons g9_ (Sub.cons g8_ (Sub.cons (ib 36 _ rfl) (Sub.cons (ib 35 _ rfl) (Sub.cons (ib 34 _ rfl) (Sub.cons (ib 10 _ rfl) (Sub.cons (ib 0 _ rfl) (Sub.cons (ib 2 _ rfl) (Sub.cons (ib 3 _ rfl) Sub.nil)))))))))
      refine X.seqN ?_
      refine E.reg ?_
      refine L.mv Wt.no rfl rfl ?_
      refine L.mv Wt.no rfl rfl ?_
      refine L.bu (cs := [.int .i64 1, .int .i64 r109]) pl117 Wt.no rfl rfl rfl ?_
      refine L.mv Wt.no rfl rfl ?_
      refine L.bu (cs := [.int .i64 4, .int .i64 p2]) pl117 Wt.no rfl rfl rfl ?_
      refine L.mv Wt.no rfl rfl ?_
      refine L.bu (cs := [.int .i64 10, .int .i64 r109]) pl117 Wt.no rfl rfl rfl ?_
      refine L.mv Wt.no rfl rfl ?_
      refine L.bu (cs := [.int .i64 9, .int .i64 r116]) pl117 Wt.no rfl rfl rfl ?_
      refine L.mv Wt.no rfl rfl ?_
      refine L.bu (cs := [.int .i64 9, .int .i64 p2]) pl117 Wt.no rfl rfl rfl ?_
      refine L.bsE (k := 5) (cs := [.int .i64 1, .int .i64 r109, .int .i64 4, .int .i64 p2, .int .i64 10, .int .i64 r109, .int .i64 9, .int .i64 r116, .int .i64 9, .int .i64 p2]) 0 bs134 (Nat.le_of_ble_eq_true rfl) Wt.no rfl rfl rfl rfl ?_
      intro b122 s123 m124 bx122
      replace m0 := m0.trans m124.no
      replace h3 := h3.mono (m124.le no_No)
      replace bx2 := bx2.mv m124 no_No
      replace h23 := h23.mv m124 no_No no_No
      have h122 := Bx.rdL (r := (rP (rK .i64) (rK .i64))) (xs := ([(1, r109), (4, p2), (10, r109), (9, r116), (9, p2)] : List (Int × Int))) bx122 ⟨[.int .i64 1, .int .i64 r109], _, rfl, ⟨[.int .i64 1], [.int .i64 r109], rfl, rfl, rfl⟩, ⟨[.int .i64 4, .int .i64 p2], _, rfl, ⟨[.int .i64 4], [.int .i64 p2], rfl, rfl, rfl⟩, ⟨[.int .i64 10, .int .i64 r109], _, rfl, ⟨[.int .i64 10], [.int .i64 r109], rfl, rfl, rfl⟩, ⟨[.int .i64 9, .int .i64 r116], _, rfl, ⟨[.int .i64 9], [.int .i64 r116], rfl, rfl, rfl⟩, ⟨[.int .i64 9, .int .i64 p2], _, rfl, ⟨[.int .i64 9], [.int .i64 p2], rfl, rfl, rfl⟩, rfl⟩⟩⟩⟩⟩ (Nat.le_of_ble_eq_true rfl)
      obtain ⟨r125, er125, hm⟩ := bindS hm
      refine L.ca (vs := [.pointer (some ⟨b2, 0, none⟩), .slice (some ⟨b122, 0, none⟩) ([(1, r109), (4, p2), (10, r109), (9, r116), (9, p2)] : List (Int × Int)).length (([(1, r109), (4, p2), (10, r109), (9, r116), (9, p2)] : List (Int × Int)).length)]) cf69 rfl rfl Wt.no rfl (m_generate_assembler_put_c (s := s123) (p0 := st63.2) (p1 := ([(1, r109), (4, p2), (10, r109), (9, r116), (9, p2)] : List (Int × Int))) (t0 := t0) (t0_0 := t0_0) nt0_t0_0 nt0_0_t0 zt0 zt0_0 h23 bx2 h122 er125) rfl ?_
      rintro _ s126 m127 ⟨a128, c128, rfl, bx2, h128⟩
      replace m0 := m0.trans (m127.weak fun _ e => by rcases e with e | e; (rw [e]; exact (.inr (.inl rfl))); (rw [e]; exact (.inr (.inr rfl))))
      replace h3 := h3.mono (m127.le (nor (tgz zt0) (tgz zt0_0)))
      refine L.nil ?_
      refine X.blkN ?_
      refine X.seqN ?_
      refine E.reg ?_
      refine L.bi Wt.no rfl rfl rfl rfl ?_
      refine L.mv Wt.no rfl rfl ?_
      refine L.nil ?_
      exact X.sub (ih63 _ (Option.some.inj hm).symm _ _ ⟨s126, a128, c128, m0, h3, h128, bx2, rfl, rfl⟩) (Sub.cons rfl (Sub.cons rfl (Sub.cons rfl (Sub.cons rfl (Sub.cons rfl (Sub.cons rfl (Sub.cons rfl Sub.nil)))))))
  · refine E.cF rfl hc ?_
    refine E.exit ?_
    refine X.seqX ?_
    refine X.seqX ?_
    have hx := ho63 _ (Option.some.inj hm).symm
    subst hx
    exact X.sub (K97 _ _ ⟨s68, a23, c23, m0, h23, bx2, rfl, rfl⟩) (Sub.cons rfl (Sub.cons rfl (Sub.cons rfl (Sub.cons rfl Sub.nil))))

noncomputable def m_generate_assembler_command_l1 (p2 : List Int) (st49 : Int × (List (Int × Int)) × Int × Int) : Option ((Int × (List (Int × Int)) × Int × Int) ⊕ ((List (Int × Int)) × Int × Int)) :=
  if decide (st49.1 < (p2.length : Int)) then
    (idx p2 st49.1).bind fun x65 =>
    (idx ([1, 5] : List Int) (if 1 < st49.1 then 1 else st49.1)).bind fun x72 =>
    (m_generate_assembler_memory st49.2 x65).bind fun r76 =>
    (m_generate_assembler_put st49.2 ([(x72, r76)] : List (Int × Int))).bind fun r85 =>
    some (.inl (W (st49.1 + 1), r85))
  else
    some (.inr st49.2)
/-- What generate.assembler).command computes. -/
noncomputable def m_generate_assembler_command (p0 : (List (Int × Int)) × Int × Int) (p1 : Int) (p2 : List Int) : Option ((List (Int × Int)) × Int × Int) :=
  if ((p2.length : Int) == 0) then
    (m_generate_assembler_put p0 ([(1, p1), (4, p1), (7, p1)] : List (Int × Int))).bind fun r8 =>
    some r8
  else
    (iter (m_generate_assembler_command_l1 p2) (0, p0)).bind fun o49 =>
    (m_generate_assembler_put o49 ([(7, p1)] : List (Int × Int))).bind fun r59 =>
    some r59
set_option maxRecDepth 100000 in
set_option maxHeartbeats 8000000 in
theorem m_generate_assembler_command_c {s : Sig} {p0 : (List (Int × Int)) × Int × Int} {p1 : Int} {p2 : List Int} {t0 : Nat} {t0_0 : Nat} {a1 : Option Addr} {c1 : Nat} {b2 : Nat} {a3 : Option Addr} {c3 : Nat} {r : ((List (Int × Int)) × Int × Int)} (nt0_t0_0 : t0 ≠ t0_0) (nt0_0_t0 : t0_0 ≠ t0) (zt0 : 0 < t0) (zt0_0 : 0 < t0_0) (h1 : RowT (rP (rK .i64) (rK .i64)) s t0_0 119 a1 c1 p0.1) (bx2 : Bx s t0 b2 #[.slice a1 p0.1.length c1, .int .i64 p0.2.1, .int .i64 p0.2.2] 90) (h3 : RdL (rK .i64) s a3 c3 p2) (hm : m_generate_assembler_command p0 p1 p2 = some r) :
    Calls Try.prog 43 #[.pointer (some ⟨b2, 0, none⟩), .int .i64 p1, .slice a3 p2.length c3] s.w (RetS (fun t => t = t0 ∨ t = t0_0) s fun v s' => ∃ (a4 : Option Addr) (c4 : Nat), v = .tuple #[] ∧ Bx s' t0 b2 #[.slice a4 r.1.length c4, .int .i64 r.2.1, .int .i64 r.2.2] 90 ∧ RowT (rP (rK .i64) (rK .i64)) s' t0_0 119 a4 c4 r.1) := by
  unfold m_generate_assembler_command at hm
  obtain ⟨N, hN, hNb, lt0, lt0_0, -⟩ := s.freshL [t0, t0_0]
  have m0 : Mv (Up N (fun t => t = t0 ∨ t = t0_0)) s s := Mv.refl _ _
  refine E.entry (vs := [.pointer (some ⟨b2, 0, none⟩), .int .i64 p1, .slice a3 p2.length c3]) (e := [(0, .pointer (some ⟨b2, 0, none⟩)), (1, .int .i64 p1), (2, .slice a3 p2.length c3)]) Try.func43 rfl Try.ntmps43 rfl rfl ?_
  refine E.seq ?_
  refine E.seq ?_
  refine E.reg ?_
  refine L.mv Wt.no rfl rfl ?_
  refine L.len sl23 Wt.no rfl rfl ?_
  refine L.bi Wt.no rfl rfl rfl rfl ?_
  refine L.nil ?_
  refine X.seqN ?_
  rcases ifS hm with ⟨hc, hm⟩ | ⟨hc, hm⟩
  · refine E.cT rfl hc ?_
    refine E.seq ?_
    refine E.reg ?_
    refine L.mv Wt.no rfl rfl ?_
    refine L.mv Wt.no rfl rfl ?_
    refine L.bu (cs := [.int .i64 1, .int .i64 p1]) pl117 Wt.no rfl rfl rfl ?_
    refine L.mv Wt.no rfl rfl ?_
    refine L.bu (cs := [.int .i64 4, .int .i64 p1]) pl117 Wt.no rfl rfl rfl ?_
    refine L.mv Wt.no rfl rfl ?_
    refine L.bu (cs := [.int .i64 7, .int .i64 p1]) pl117 Wt.no rfl rfl rfl ?_
    refine L.bsE (k := 3) (cs := [.int .i64 1, .int .i64 p1, .int .i64 4, .int .i64 p1, .int .i64 7, .int .i64 p1]) 0 bs134 (Nat.le_of_ble_eq_true rfl) Wt.no rfl rfl rfl rfl ?_
    intro b5 s6 m7 bx5
    replace m0 := m0.trans m7.no
    replace bx2 := bx2.mv m7 no_No
    replace h1 := h1.mv m7 no_No no_No
    have h5 := Bx.rdL (r := (rP (rK .i64) (rK .i64))) (xs := ([(1, p1), (4, p1), (7, p1)] : List (Int × Int))) bx5 ⟨[.int .i64 1, .int .i64 p1], _, rfl, ⟨[.int .i64 1], [.int .i64 p1], rfl, rfl, rfl⟩, ⟨[.int .i64 4, .int .i64 p1], _, rfl, ⟨[.int .i64 4], [.int .i64 p1], rfl, rfl, rfl⟩, ⟨[.int .i64 7, .int .i64 p1], _, rfl, ⟨[.int .i64 7], [.int .i64 p1], rfl, rfl, rfl⟩, rfl⟩⟩⟩ (Nat.le_of_ble_eq_true rfl)
    obtain ⟨r8, er8, hm⟩ := bindS hm
    refine L.ca (vs := [.pointer (some ⟨b2, 0, none⟩), .slice (some ⟨b5, 0, none⟩) ([(1, p1), (4, p1), (7, p1)] : List (Int × Int)).length (([(1, p1), (4, p1), (7, p1)] : List (Int × Int)).length)]) cf69 rfl rfl Wt.no rfl (m_generate_assembler_put_c (s := s6) (p0 := p0) (p1 := ([(1, p1), (4, p1), (7, p1)] : List (Int × Int))) (t0 := t0) (t0_0 := t0_0) nt0_t0_0 nt0_0_t0 zt0 zt0_0 h1 bx2 h5 er8) rfl ?_
    rintro _ s9 m10 ⟨a11, c11, rfl, bx2, h11⟩
    replace m0 := m0.trans (m10.weak fun _ e => by rcases e with e | e; (rw [e]; exact (.inr (.inl rfl))); (rw [e]; exact (.inr (.inr rfl))))
    refine L.nil ?_
    refine X.seqN ?_
    refine E.ret ?_
    refine X.seqR ?_
    obtain rfl := Option.some.inj hm
    exact X.rt (.inl rfl) Try.results43 Rs.nil rfl ⟨_, (s9).ren N (fun _ => 0), rfl, rfl, m0.ren hNb, ⟨a11, c11, rfl, (bx2.renV lt0), (h11.renV hN lt0_0)⟩⟩
  · refine E.cF rfl hc ?_
    refine E.skip ?_
    refine X.seqN ?_
    refine E.seq ?_
    refine E.seq ?_
    refine E.reg ?_
    refine L.mv Wt.no rfl rfl ?_
    refine L.len sl23 Wt.no rfl rfl ?_
    refine L.mv Wt.no rfl rfl ?_
    refine L.nil ?_
    refine X.seqN ?_
    refine E.block ?_
    obtain ⟨o49, eo49, hm⟩ := bindS hm
    refine E.cut (x := .exit 0) (fun e w => ∃ (s55 : Sig) (a51 : Option Addr) (c51 : Nat), Mv (Up N (fun t => t = t0 ∨ t = t0_0)) s s55 ∧ RowT (rP (rK .i64) (rK .i64)) s55 t0_0 119 a51 c51 o49.1 ∧ Bx s55 t0 b2 #[.slice a51 o49.1.length c51, .int .i64 o49.2.1, .int .i64 o49.2.2] 90 ∧ e = [(0, .pointer (some ⟨b2, 0, none⟩)), (1, .int .i64 p1)] ∧ w = s55.w) ?_ ?_
    · rintro _ _ ⟨s55, a51, c51, m0, h51, bx2, rfl, rfl⟩
      refine X.blkE ?_
      refine X.seqN ?_
      refine E.reg ?_
      refine L.mv Wt.no rfl rfl ?_
      refine L.mv Wt.no rfl rfl ?_
      refine L.bu (cs := [.int .i64 7, .int .i64 p1]) pl117 Wt.no rfl rfl rfl ?_
      refine L.bsE (k := 1) (cs := [.int .i64 7, .int .i64 p1]) 0 bs134 (Nat.le_of_ble_eq_true rfl) Wt.no rfl rfl rfl rfl ?_
      intro b56 s57 m58 bx56
      replace m0 := m0.trans m58.no
      replace bx2 := bx2.mv m58 no_No
      replace h51 := h51.mv m58 no_No no_No
      have h56 := Bx.rdL (r := (rP (rK .i64) (rK .i64))) (xs := ([(7, p1)] : List (Int × Int))) bx56 ⟨[.int .i64 7, .int .i64 p1], _, rfl, ⟨[.int .i64 7], [.int .i64 p1], rfl, rfl, rfl⟩, rfl⟩ (Nat.le_of_ble_eq_true rfl)
      obtain ⟨r59, er59, hm⟩ := bindS hm
      refine L.ca (vs := [.pointer (some ⟨b2, 0, none⟩), .slice (some ⟨b56, 0, none⟩) ([(7, p1)] : List (Int × Int)).length (([(7, p1)] : List (Int × Int)).length)]) cf69 rfl rfl Wt.no rfl (m_generate_assembler_put_c (s := s57) (p0 := o49) (p1 := ([(7, p1)] : List (Int × Int))) (t0 := t0) (t0_0 := t0_0) nt0_t0_0 nt0_0_t0 zt0 zt0_0 h51 bx2 h56 er59) rfl ?_
      rintro _ s60 m61 ⟨a62, c62, rfl, bx2, h62⟩
      replace m0 := m0.trans (m61.weak fun _ e => by rcases e with e | e; (rw [e]; exact (.inr (.inl rfl))); (rw [e]; exact (.inr (.inr rfl))))
      refine L.nil ?_
      obtain rfl := Option.some.inj hm
      exact X.rt (.inr rfl) Try.results43 Rs.nil rfl ⟨_, (s60).ren N (fun _ => 0), rfl, rfl, m0.ren hNb, ⟨a62, c62, rfl, (bx2.renV lt0), (h62.renV hN lt0_0)⟩⟩
    intro K64
    refine E.iter (fun (st49 : Int × (List (Int × Int)) × Int × Int) (e : List (Nat × Value)) (w : World) => ∃ (s54 : Sig) (a15 : Option Addr) (c15 : Nat), Mv (Up N (fun t => t = t0 ∨ t = t0_0)) s s54 ∧ RdL (rK .i64) s54 a3 c3 p2 ∧ RowT (rP (rK .i64) (rK .i64)) s54 t0_0 119 a15 c15 st49.2.1 ∧ Bx s54 t0 b2 #[.slice a15 st49.2.1.length c15, .int .i64 st49.2.2.1, .int .i64 st49.2.2.2] 90 ∧ e = [(22, .int .i64 st49.1), (21, .int .i64 (p2.length : Int)), (20, .slice a3 p2.length c3), (0, .pointer (some ⟨b2, 0, none⟩)), (1, .int .i64 p1)] ∧ w = s54.w) eo49 ⟨s, a1, c1, m0, h3, h1, bx2, rfl, rfl⟩ (Sub.cons rfl (Sub.cons rfl (Sub.cons rfl (Sub.cons rfl (Sub.cons rfl Sub.nil))))) ?_
    rintro st49 res49 hm ih49 ho49 _ _ ⟨s54, a15, c15, m0, h3, h15, bx2, rfl, rfl⟩
    unfold m_generate_assembler_command_l1 at hm
    refine E.seq ?_
    refine E.reg ?_
    refine L.bi Wt.no rfl rfl rfl rfl ?_
    refine L.nil ?_
    refine X.seqN ?_
    refine E.seq ?_
    rcases ifS hm with ⟨hc, hm⟩ | ⟨hc, hm⟩
    · refine E.cT rfl hc ?_
      refine E.skip ?_
      refine X.seqN ?_
      refine E.seq ?_
      refine E.block ?_
      refine E.seq ?_
      refine E.reg ?_
      refine L.mv Wt.no rfl rfl ?_
      obtain ⟨x65, ex65, hm⟩ := bindS hm
      refine L.ix (r := (rK .i64)) sl23 h3 Wt.no rfl rfl ex65 rfl ?_
      rintro b66 o66 cc66 me66 rd66
      obtain rfl := rd66
      refine L.ld (j := 0) me66 nag3 Wt.no rfl rfl rfl rfl ?_
      refine L.as Wt.no rfl rfl ?_
      refine L.as Wt.no rfl rfl ?_
      refine L.nil ?_
      refine X.seqN ?_
      obtain ⟨x72, ex72, hm⟩ := bindS hm
      obtain ⟨r76, er76, hm⟩ := bindS hm
      obtain ⟨r85, er85, hm⟩ := bindS hm
      refine E.draw [[], [], [], [2], [1, 2, 3], [], [], [5, 6], [1, 2, 3, 4, 5, 6, 7], [1, 2, 3, 4, 5, 6, 7, 8], [0, 1, 2, 3, 4, 5, 6, 7, 8, 9]] (fun D e sx => Mv (fun t => t = t0 ∨ t = t0_0) s54 sx ∧ Sub [(7, .int .i64 x65), (6, .int .i64 st49.1), (22, .int .i64 st49.1), (21, .int .i64 (p2.length : Int)), (20, .slice a3 p2.length c3), (0, .pointer (some ⟨b2, 0, none⟩)), (1, .int .i64 p1)] e ∧ (D 0 = true → (Env.get e 27 = some (.pointer (some ⟨b2, 0, none⟩)))) ∧ (D 1 = true → (Env.get e 28 = some (.agg #[.int .i64 1, .int .i64 5]))) ∧ (D 2 = true → (Env.get e 29 = some (.int .i64 st49.1))) ∧ (D 3 = true → (Env.get e 30 = some (.int .i64 (if 1 < st49.1 then 1 else st49.1)))) ∧ (D 4 = true → (Env.get e 31 = some (.int .i64 x72))) ∧ (D 5 = true → (Env.get e 32 = some (.pointer (some ⟨b2, 0, none⟩)))) ∧ (D 6 = true → (Env.get e 33 = some (.int .i64 x65))) ∧ (D 7 = true → (Env.get e 34 = some (.int .i64 r76))) ∧ (D 8 = true → (Env.get e 35 = some (.agg #[.int .i64 x72, .int .i64 r76]))) ∧ (D 9 = true → (∃ (b81 : Nat), Env.get e 36 = some (.slice (some ⟨b81, 0, none⟩) ([(x72, r76)] : List (Int × Int)).length (([(x72, r76)] : List (Int × Int)).length)) ∧ RdL (rP (rK .i64) (rK .i64)) sx (some ⟨b81, 0, none⟩) (([(x72, r76)] : List (Int × Int)).length) ([(x72, r76)] : List (Int × Int)))) ∧ (D 10 = true → (Env.get e 37 = some (.tuple #[]))) ∧ (D 10 = false → Bx sx t0 b2 #[.slice a15 st49.2.1.length c15, .int .i64 st49.2.2.1, .int .i64 st49.2.2.2] 90 ∧ RowT (rP (rK .i64) (rK .i64)) sx t0_0 119 a15 c15 st49.2.1) ∧ (D 10 = true → (∃ (a88 : Option Addr) (c88 : Nat), Bx sx t0 b2 #[.slice a88 r85.1.length c88, .int .i64 r85.2.1, .int .i64 r85.2.2] 90 ∧ RowT (rP (rK .i64) (rK .i64)) sx t0_0 119 a88 c88 r85.1))) (by kernel_rfl) (by kernel_rfl) (by kernel_rfl) ?_ ?_ ?_
      · intro sz mz
        exact ⟨mz.no, (Sub.cons rfl (Sub.cons rfl (Sub.cons rfl (Sub.cons rfl (Sub.cons rfl (Sub.cons rfl (Sub.cons rfl Sub.nil))))))), nofun, nofun, nofun, nofun, nofun, nofun, nofun, nofun, nofun, nofun, nofun, fun _ => ⟨bx2.mv mz no_No, h15.mv mz no_No no_No⟩, nofun⟩
      · refine ⟨?_, ?_, ?_, ?_, ?_, ?_, ?_, ?_, ?_, ?_, ?_, trivial⟩
        · rintro D e s67 ⟨im, ib, i0, i1, i2, i3, i4, i5, i6, i7, i8, i9, i10, i11, i12⟩ hk hf ha
          refine L.kns [(0, .pointer (some ⟨b2, 0, none⟩))] ⟨(ib 0 _ rfl), trivial⟩ ?_
          refine L.mv Wt.no rfl rfl ?_
          refine L.nil ?_
          refine X.dr (s := s67) (e' := (27, .pointer (some ⟨b2, 0, none⟩)) :: e) (Sub.both (Kn.sup ⟨(ib 0 _ rfl), trivial⟩)) ⟨im, Sub.fresh ib rfl, fun _ => rfl, i1, i2, i3, i4, i5, i6, i7, i8, i9, i10, i11, i12⟩
        · rintro D e s68 ⟨im, ib, i0, i1, i2, i3, i4, i5, i6, i7, i8, i9, i10, i11, i12⟩ hk hf ha
          refine L.bu (cs := [.int .i64 1, .int .i64 5]) pl117 Wt.no rfl rfl rfl ?_
          refine L.nil ?_
          refine X.dr (s := s68) (e' := (28, .agg #[.int .i64 1, .int .i64 5]) :: e) (Sub.both (Sub.refl)) ⟨im, Sub.fresh ib rfl, i0, fun _ => rfl, i2, i3, i4, i5, i6, i7, i8, i9, i10, i11, i12⟩
        · rintro D e s69 ⟨im, ib, i0, i1, i2, i3, i4, i5, i6, i7, i8, i9, i10, i11, i12⟩ hk hf ha
          refine L.kns [(6, .int .i64 st49.1)] ⟨(ib 6 _ rfl), trivial⟩ ?_
          refine L.mv Wt.no rfl rfl ?_
          refine L.nil ?_
          refine X.dr (s := s69) (e' := (29, .int .i64 st49.1) :: e) (Sub.both (Kn.sup ⟨(ib 6 _ rfl), trivial⟩)) ⟨im, Sub.fresh ib rfl, i0, i1, fun _ => rfl, i3, i4, i5, i6, i7, i8, i9, i10, i11, i12⟩
        · rintro D e s70 ⟨im, ib, i0, i1, i2, i3, i4, i5, i6, i7, i8, i9, i10, i11, i12⟩ hk hf ha
          obtain ⟨d2, -⟩ := ha
          have g2_ := i2 d2
          refine L.kns [(29, .int .i64 st49.1)] ⟨g2_, trivial⟩ ?_
          refine L.min Wt.no rfl rfl rfl ?_
          refine L.nil ?_
          refine X.dr (s := s70) (e' := (30, .int .i64 (if 1 < st49.1 then 1 else st49.1)) :: e) (Sub.both (Kn.sup ⟨g2_, trivial⟩)) ⟨im, Sub.fresh ib rfl, i0, i1, i2, fun _ => rfl, i4, i5, i6, i7, i8, i9, i10, i11, i12⟩
        · rintro D e s71 ⟨im, ib, i0, i1, i2, i3, i4, i5, i6, i7, i8, i9, i10, i11, i12⟩ hk hf ha
          obtain ⟨d1, d2, d3, -⟩ := ha
          have g1_ := i1 d1
          have g3_ := i3 d3
          refine L.kns [(28, .agg #[.int .i64 1, .int .i64 5]), (30, .int .i64 (if 1 < st49.1 then 1 else st49.1))] ⟨g1_, g3_, trivial⟩ ?_
          refine L.in1 (v := Value.int .i64 x72) (vs := [.int .i64 1, .int .i64 5]) nag3.sz nag3.agg Try.underlying117 Wt.no rfl rfl rfl (show idx [Value.int .i64 1, Value.int .i64 5] (if 1 < st49.1 then 1 else st49.1) = some (Value.int .i64 x72) from idx_map (f := fun z => Value.int .i64 z) ex72) rfl ?_
          refine L.nil ?_
          refine X.dr (s := s71) (e' := (31, .int .i64 x72) :: e) (Sub.both (Kn.sup ⟨g1_, g3_, trivial⟩)) ⟨im, Sub.fresh ib rfl, i0, i1, i2, i3, fun _ => rfl, i5, i6, i7, i8, i9, i10, i11, i12⟩
        · rintro D e s73 ⟨im, ib, i0, i1, i2, i3, i4, i5, i6, i7, i8, i9, i10, i11, i12⟩ hk hf ha
          refine L.kns [(0, .pointer (some ⟨b2, 0, none⟩))] ⟨(ib 0 _ rfl), trivial⟩ ?_
          refine L.mv Wt.no rfl rfl ?_
          refine L.nil ?_
          refine X.dr (s := s73) (e' := (32, .pointer (some ⟨b2, 0, none⟩)) :: e) (Sub.both (Kn.sup ⟨(ib 0 _ rfl), trivial⟩)) ⟨im, Sub.fresh ib rfl, i0, i1, i2, i3, i4, fun _ => rfl, i6, i7, i8, i9, i10, i11, i12⟩
        · rintro D e s74 ⟨im, ib, i0, i1, i2, i3, i4, i5, i6, i7, i8, i9, i10, i11, i12⟩ hk hf ha
          refine L.kns [(7, .int .i64 x65)] ⟨(ib 7 _ rfl), trivial⟩ ?_
          refine L.mv Wt.no rfl rfl ?_
          refine L.nil ?_
          refine X.dr (s := s74) (e' := (33, .int .i64 x65) :: e) (Sub.both (Kn.sup ⟨(ib 7 _ rfl), trivial⟩)) ⟨im, Sub.fresh ib rfl, i0, i1, i2, i3, i4, i5, fun _ => rfl, i7, i8, i9, i10, i11, i12⟩
        · rintro D e s75 ⟨im, ib, i0, i1, i2, i3, i4, i5, i6, i7, i8, i9, i10, i11, i12⟩ hk hf ha
          obtain ⟨d5, d6, -⟩ := ha
          have g5_ := i5 d5
          have g6_ := i6 d6
          obtain ⟨bx2, h15⟩ := i11 (hf 10 (Nat.le_of_ble_eq_true rfl) rfl)
          refine L.kns [(32, .pointer (some ⟨b2, 0, none⟩)), (33, .int .i64 x65)] ⟨g5_, g6_, trivial⟩ ?_
          refine L.ca (vs := [.pointer (some ⟨b2, 0, none⟩), .int .i64 x65]) cf41 rfl rfl Wt.no rfl (Calls.lendG (s0 := (Sig.fz t0_0 (Sig.drop N s75))) (s := s75) rfl (m_generate_assembler_memory_c (s := (Sig.fz t0_0 (Sig.drop N s75))) (p0 := st49.2) (p1 := x65) (t0 := t0) ((h15.dropV lt0_0).fz (Ne.symm (tne0V zt0_0))) ((bx2.dropV lt0).mv (Sig.fz_mv t0_0 _) nt0_t0_0) er76) (fun v s' h => h)) rfl ?_
          rintro _ s77 m78 rfl
          refine L.nil ?_
          refine X.dr (s := s77) (e' := (34, .int .i64 r76) :: e) (Sub.both (Kn.sup ⟨g5_, g6_, trivial⟩)) ⟨im.trans m78.no, Sub.fresh ib rfl, i0, i1, i2, i3, i4, i5, i6, fun _ => rfl, i8, fun z => let ⟨b81, q, h81⟩ := i9 z; ⟨b81, q, (h81.mono (m78.le no_No))⟩, i10, fun z2 => let ⟨bx2, h15⟩ := i11 z2; ⟨(bx2.mv m78 no_No), (h15.mv m78 no_No no_No)⟩, fun z => let ⟨a88, c88, bx2, h88⟩ := i12 z; ⟨a88, c88, (bx2.mv m78 no_No), (h88.mv m78 no_No no_No)⟩⟩
        · rintro D e s79 ⟨im, ib, i0, i1, i2, i3, i4, i5, i6, i7, i8, i9, i10, i11, i12⟩ hk hf ha
          obtain ⟨d1, d2, d3, d4, d5, d6, d7, -⟩ := ha
          have g4_ := i4 d4
          have g7_ := i7 d7
          refine L.kns [(31, .int .i64 x72), (34, .int .i64 r76)] ⟨g4_, g7_, trivial⟩ ?_
          refine L.bu (cs := [.int .i64 x72, .int .i64 r76]) pl117 Wt.no rfl rfl rfl ?_
          refine L.nil ?_
          refine X.dr (s := s79) (e' := (35, .agg #[.int .i64 x72, .int .i64 r76]) :: e) (Sub.both (Kn.sup ⟨g4_, g7_, trivial⟩)) ⟨im, Sub.fresh ib rfl, i0, i1, i2, i3, i4, i5, i6, i7, fun _ => rfl, i9, i10, i11, i12⟩
        · rintro D e s80 ⟨im, ib, i0, i1, i2, i3, i4, i5, i6, i7, i8, i9, i10, i11, i12⟩ hk hf ha
          obtain ⟨d1, d2, d3, d4, d5, d6, d7, d8, -⟩ := ha
          have g8_ := i8 d8
          refine L.kns [(35, .agg #[.int .i64 x72, .int .i64 r76])] ⟨g8_, trivial⟩ ?_
          refine L.bsE (k := 1) (cs := [.int .i64 x72, .int .i64 r76]) 0 bs134 (Nat.le_of_ble_eq_true rfl) Wt.no rfl rfl rfl rfl ?_
          intro b81 s82 m83 bx81
          have h81 := Bx.rdL (r := (rP (rK .i64) (rK .i64))) (xs := ([(x72, r76)] : List (Int × Int))) bx81 ⟨[.int .i64 x72, .int .i64 r76], _, rfl, ⟨[.int .i64 x72], [.int .i64 r76], rfl, rfl, rfl⟩, rfl⟩ (Nat.le_of_ble_eq_true rfl)
          refine L.nil ?_
          refine X.dr (s := s82) (e' := (36, .slice (some ⟨b81, 0, none⟩) ([(x72, r76)] : List (Int × Int)).length (([(x72, r76)] : List (Int × Int)).length)) :: e) (Sub.both (Kn.sup ⟨g8_, trivial⟩)) ⟨im.trans m83.no, Sub.fresh ib rfl, i0, i1, i2, i3, i4, i5, i6, i7, i8, fun _ => ⟨b81, rfl, h81⟩, i10, fun z2 => let ⟨bx2, h15⟩ := i11 z2; ⟨(bx2.mv m83 no_No), (h15.mv m83 no_No no_No)⟩, fun z => let ⟨a88, c88, bx2, h88⟩ := i12 z; ⟨a88, c88, (bx2.mv m83 no_No), (h88.mv m83 no_No no_No)⟩⟩
        · rintro D e s84 ⟨im, ib, i0, i1, i2, i3, i4, i5, i6, i7, i8, i9, i10, i11, i12⟩ hk hf ha
          obtain ⟨d0, d1, d2, d3, d4, d5, d6, d7, d8, d9, -⟩ := ha
          have g0_ := i0 d0
          obtain ⟨b81, g9_, h81⟩ := i9 d9
          obtain ⟨bx2, h15⟩ := i11 hk
          refine L.kns [(27, .pointer (some ⟨b2, 0, none⟩)), (36, .slice (some ⟨b81, 0, none⟩) ([(x72, r76)] : List (Int × Int)).length (([(x72, r76)] : List (Int × Int)).length))] ⟨g0_, g9_, trivial⟩ ?_
          refine L.ca (vs := [.pointer (some ⟨b2, 0, none⟩), .slice (some ⟨b81, 0, none⟩) ([(x72, r76)] : List (Int × Int)).length (([(x72, r76)] : List (Int × Int)).length)]) cf69 rfl rfl Wt.no rfl (m_generate_assembler_put_c (s := s84) (p0 := st49.2) (p1 := ([(x72, r76)] : List (Int × Int))) (t0 := t0) (t0_0 := t0_0) nt0_t0_0 nt0_0_t0 zt0 zt0_0 h15 bx2 h81 er85) rfl ?_
          rintro _ s86 m87 ⟨a88, c88, rfl, bx2, h88⟩
          refine L.nil ?_
          refine X.dr (s := s86) (e' := (37, .tuple #[]) :: e) (Sub.both (Kn.sup ⟨g0_, g9_, trivial⟩)) ⟨im.trans (m87.weak fun _ e => by rcases e with e | e; (rw [e]; exact (.inl rfl)); (rw [e]; exact (.inr rfl))), Sub.fresh ib rfl, i0, i1, i2, i3, i4, i5, i6, i7, i8, fun z => let ⟨b81, q, h81⟩ := i9 z; ⟨b81, q, (h81.mono (m87.le (nor (tgz zt0) (tgz zt0_0))))⟩, fun _ => rfl, fun z => Bool.noConfusion (show true = false from z), fun _ => by exact ⟨a88, c88, bx2, h88⟩⟩
      · rintro D e s90 hD ⟨im, ib, i0, i1, i2, i3, i4, i5, i6, i7, i8, i9, i10, i11, i12⟩
        obtain ⟨a88, c88, bx2, h88⟩ := i12 (hD 10 rfl)
        have h3 := h3.mono (im.le (nor (tgz zt0) (tgz zt0_0)))
        have m0 := m0.trans (im.weak fun _ e => by rcases e with e | e; (rw [e]; exact (.inr (.inl rfl))); (rw [e]; exact (.inr (.inr rfl))))
        refine X.sub (e' := [(22, .int .i64 st49.1), (21, .int .i64 (p2.length : Int)), (20, .slice a3 p2.length c3), (0, .pointer (some ⟨b2, 0, none⟩)), (1, .int .i64 p1)]) ?_ (Sub.cons (ib 22 _ rfl) (Sub.cons (ib 21 _ rfl) (Sub.cons (ib 20 _ rfl) (Sub.cons (ib 0 _ rfl) (Sub.cons (ib 1 _ rfl) Sub.nil)))))
        refine X.blkN ?_
        refine X.seqN ?_
        refine E.reg ?_
        refine L.bi Wt.no rfl rfl rfl rfl ?_
        refine L.mv Wt.no rfl rfl ?_
        refine L.nil ?_
        exact X.sub (ih49 _ (Option.some.inj hm).symm _ _ ⟨s90, a88, c88, m0, h3, h88, bx2, rfl, rfl⟩) (Sub.cons rfl (Sub.cons rfl (Sub.cons rfl (Sub.cons rfl (Sub.cons rfl Sub.nil)))))
    · refine E.cF rfl hc ?_
      refine E.exit ?_
      refine X.seqX ?_
      refine X.seqX ?_
      have hx := ho49 _ (Option.some.inj hm).symm
      subst hx
      exact X.sub (K64 _ _ ⟨s54, a15, c15, m0, h15, bx2, rfl, rfl⟩) (Sub.cons rfl (Sub.cons rfl Sub.nil))

/-- What slices.Clone<<>int,int> computes. -/
noncomputable def m_slices_Clone_int (p0 : List Int) : Option (List Int) :=
  (app ([] : List Int) p0).bind fun x6 =>
  some x6
set_option maxRecDepth 100000 in
set_option maxHeartbeats 8000000 in
theorem m_slices_Clone_int_c {s : Sig} {p0 : List Int} {a1 : Option Addr} {c1 : Nat} {u0 : Nat} {r : List Int} (h1 : RdL (rK .i64) s a1 c1 p0) (hm : m_slices_Clone_int p0 = some r) :
    Calls Try.prog 44 #[.slice a1 p0.length c1] s.w (RetS No s fun v s' => ∃ (a2 : Option Addr) (c2 : Nat), v = .slice a2 r.length c2 ∧ RowT (rK .i64) s' u0 3 a2 c2 r) := by
  unfold m_slices_Clone_int at hm
  obtain ⟨N, hN, hNb⟩ := s.fresh
  have m0 : Mv (Up N No) s s := Mv.refl _ _
  refine E.entry (vs := [.slice a1 p0.length c1]) (e := [(0, .slice a1 p0.length c1)]) Try.func44 rfl Try.ntmps44 rfl rfl ?_
  refine E.seq ?_
  refine E.reg ?_
  refine L.as Wt.no rfl rfl ?_
  refine L.nil ?_
  refine X.seqN ?_
  refine E.seq ?_
  refine E.seq ?_
  refine E.reg ?_
  refine L.mv Wt.no rfl rfl ?_
  refine L.nil? Try.underlying23 Wt.no rfl rfl rfl ?_
  refine L.nil ?_
  refine X.seqN ?_
  rcases isNoneS a1 with hc | hc
  · refine E.cT rfl hc ?_
    obtain rfl := h1.eq_nil hc
    replace hm : some ([] : List Int) = some r := by simpa [app, slc] using hm
    refine E.seq ?_
    refine E.reg ?_
    refine L.as Wt.no rfl rfl ?_
    refine L.nil ?_
    refine X.seqN ?_
    refine E.ret ?_
    refine X.seqR ?_
    obtain rfl := Option.some.inj hm
    exact X.rt (.inl rfl) Try.results44 (Rs.tmp rfl Rs.nil) rfl ⟨_, (s).ren N (fun _ => 0), rfl, rfl, m0.ren hNb, ⟨none, 0, rfl, RowT.nil⟩⟩
  · refine E.cF rfl hc ?_
    refine E.skip ?_
    refine X.seqN ?_
    refine E.seq ?_
    refine E.reg ?_
    refine L.bs0 (N + 0) bs23 (Nat.le_of_ble_eq_true rfl) Wt.no rfl ?_
    intro b3 s4 m5 bx3
    replace m0 := m0.trans m5.no
    replace h1 := h1.mono (m5.le no_No)
    have h3 := Bx.row (r := (rK .i64)) (xs := ([] : List Int)) bx3 rfl (Nat.le_of_ble_eq_true rfl)
    refine L.mv Wt.no rfl rfl ?_
    obtain ⟨x6, ex6, hm⟩ := bindS hm
    refine L.ap (r := (rK .i64)) Try.underlying23 el3 rfl (tgp hN) h3 h1.wk Wt.no rfl rfl ex6 rfl ?_
    intro a7 c7 s8 m9 h7
    replace m0 := m0.trans (m9.one up)
    refine L.as Wt.no rfl rfl ?_
    refine L.nil ?_
    refine X.seqN ?_
    refine E.ret ?_
    obtain rfl := Option.some.inj hm
    exact X.rt (.inl rfl) Try.results44 (Rs.tmp rfl Rs.nil) rfl ⟨_, (s8).ren N (fun k => cond (Nat.beq k 0) u0 (0)), rfl, rfl, m0.ren hNb, ⟨a7, c7, rfl, (h7.ren hN)⟩⟩

theorem ag34 : Ag Try.prog 34 8 := Ag.mk' Try.underlying34 rfl (by kernel_rfl)
theorem cf28 : Cf Try.prog 28 := Cf.mk Try.func28 (by kernel_rfl) (by kernel_rfl)
theorem cf33 : Cf Try.prog 33 := Cf.mk Try.func33 (by kernel_rfl) (by kernel_rfl)
theorem cf39 : Cf Try.prog 39 := Cf.mk Try.func39 (by kernel_rfl) (by kernel_rfl)
theorem cf40 : Cf Try.prog 40 := Cf.mk Try.func40 (by kernel_rfl) (by kernel_rfl)
theorem cf42 : Cf Try.prog 42 := Cf.mk Try.func42 (by kernel_rfl) (by kernel_rfl)
theorem cf43 : Cf Try.prog 43 := Cf.mk Try.func43 (by kernel_rfl) (by kernel_rfl)
theorem cf44 : Cf Try.prog 44 := Cf.mk Try.func44 (by kernel_rfl) (by kernel_rfl)
theorem mpt91 : Mp Try.prog 91 3 24 .i64 (.slice none 0 0) := Mp.mk' Try.underlying91 Try.underlying3 (by kernel_rfl)
theorem mpt92 : Mp Try.prog 92 3 23 .i64 (.slice none 0 0) := Mp.mk' Try.underlying92 Try.underlying3 (by kernel_rfl)
theorem nag4 : NAg Try.prog 4 := NAg.mk' Try.underlying4 rfl (by kernel_rfl)
theorem pl32 : Pl Try.prog 32 [(0, 1), (1, 1), (2, 1), (3, 1), (4, 1)] [.int .i64 0, .int .i64 0, .int .i64 0, .slice none 0 0, .slice none 0 0] := Pl.str Try.underlying32 (by kernel_rfl) (by kernel_rfl)
theorem pl34 : Pl Try.prog 34 [(0, 5), (5, 1), (6, 1), (7, 1)] [.int .i64 0, .int .i64 0, .int .i64 0, .slice none 0 0, .slice none 0 0, .slice none 0 0, .slice none 0 0, .int .i64 0] := Pl.str Try.underlying34 (by kernel_rfl) (by kernel_rfl)
theorem pl90 : Pl Try.prog 90 [(0, 1), (1, 1), (2, 1)] [.slice none 0 0, .int .i64 0, .int .i64 0] := Pl.str Try.underlying90 (by kernel_rfl) (by kernel_rfl)
theorem sl29 : Sl Try.prog 29 4 1 := Sl.mk' Try.underlying29 (by kernel_rfl)
theorem zr4 : Zr Try.prog rB 4 1 false := Zr.mk' (v := .bool false) (by kernel_rfl) (by kernel_rfl) (by kernel_rfl) (fun _ => rfl)
theorem zz34 : (Try.prog.info? 34).bind (·.zero) = some (.agg #[.int .i64 0, .int .i64 0, .int .i64 0, .slice none 0 0, .slice none 0 0, .slice none 0 0, .slice none 0 0, .int .i64 0]) := by kernel_rfl
noncomputable def m_generate_Generate_l3 (p1 : List Int) (o106 : (List (Int × List Int)) × (List (Int × List (Int × Int × Int)))) (st187 : Int × (List (Int × Int)) × Int × Int) : Option ((Int × (List (Int × Int)) × Int × Int) ⊕ ((List (Int × Int)) × Int × Int)) :=
  if decide (st187.1 < (p1.length : Int)) then
    (idx p1 st187.1).bind fun x241 =>
    (m_generate_assembler_output st187.2 st187.1).bind fun r247 =>
    (m_generate_assembler_command st187.2 r247 (mgetD [] o106.1 x241)).bind fun r255 =>
    some (.inl (W (st187.1 + 1), r255))
  else
    some (.inr st187.2)
noncomputable def m_generate_Generate_l2 (p0 : List Int × Int × List Int × (List (Int × Int × Int))) (p1 : List Int) (o106 : (List (Int × List Int)) × (List (Int × List (Int × Int × Int)))) (st150 : Int × (List (Int × Int)) × Int × Int) : Option ((Int × (List (Int × Int)) × Int × Int) ⊕ ((List (Int × Int)) × Int × Int)) :=
  if decide (st150.1 < (p0.1.length : Int)) then
    (idx p0.1 st150.1).bind fun x262 =>
    (m_generate_assembler_memory st150.2 p0.2.1).bind fun r270 =>
    (m_generate_assembler_output st150.2 (p1.length : Int)).bind fun r277 =>
    (m_generate_assembler_event st150.2 st150.1 r270 r277 (mgetD [] o106.2 x262)).bind fun r285 =>
    some (.inl (W (st150.1 + 1), r285))
  else
    some (.inr st150.2)
noncomputable def m_generate_Generate_l1 (p0 : List Int × Int × List Int × (List (Int × Int × Int))) (st106 : Int × (List (Int × List Int)) × (List (Int × List (Int × Int × Int)))) : Option ((Int × (List (Int × List Int)) × (List (Int × List (Int × Int × Int)))) ⊕ ((List (Int × List Int)) × (List (Int × List (Int × Int × Int))))) :=
  if decide (st106.1 < (p0.2.2.2.length : Int)) then
    (idx p0.2.2.2 st106.1).bind fun x293 =>
    (app (mgetD [] st106.2.2 x293.2.1) ([x293] : List (Int × Int × Int))).bind fun x317 =>
    (app (mgetD [] st106.2.1 x293.2.1) ([x293.1] : List Int)).bind fun x333 =>
    some (.inl (W (st106.1 + 1), (mput st106.2.1 x293.2.1 x333), (mput st106.2.2 x293.2.1 x317)))
  else
    some (.inr st106.2)
/-- What generate.Generate computes. -/
noncomputable def m_generate_Generate (p0 : List Int × Int × List Int × (List (Int × Int × Int))) (p1 : List Int) : Option (((Int × Int × Int × List Bool × (List (Int × Int))) × List Int × List Int × Int) × Int) :=
  (m_automaton_Check p0).bind fun r15 =>
  if (r15 != 0) then
    some (((0, 0, 0, ([] : List Bool), ([] : List (Int × Int))), ([] : List Int), ([] : List Int), 0), r15)
  else
    (m_alphabet_CheckSet p1 32).bind fun r20 =>
    if (r20 != 0) then
      some (((0, 0, 0, ([] : List Bool), ([] : List (Int × Int))), ([] : List Int), ([] : List Int), 0), r20)
    else
      (m_alphabet_Subset p1 p0.1).bind fun r25 =>
      if (!r25) then
        some (((0, 0, 0, ([] : List Bool), ([] : List (Int × Int))), ([] : List Int), ([] : List Int), 0), 9)
      else
        if (p0.2.1 == 0) then
          some (((0, 0, 0, ([] : List Bool), ([] : List (Int × Int))), ([] : List Int), ([] : List Int), 0), 21)
        else
          if ((decide (p0.2.1 > 64)) || (decide ((p0.2.2.2.length : Int) > 256))) then
            some (((0, 0, 0, ([] : List Bool), ([] : List (Int × Int))), ([] : List Int), ([] : List Int), 0), 3)
          else
            (iter (m_generate_Generate_l1 p0) (0, ([] : List (Int × List Int)), ([] : List (Int × List (Int × Int × Int))))).bind fun o106 =>
            (iter (m_generate_Generate_l2 p0 p1 o106) (0, ([] : List (Int × Int)), (p0.1.length : Int), (W ((p1.length : Int) + 1)))).bind fun o150 =>
            (iter (m_generate_Generate_l3 p1 o106) (0, o150)).bind fun o187 =>
            (mkL (W (p0.2.1 + 1)) false).bind fun x194 =>
            (idx x194 0).bind fun x198 =>
            (upd x194 0 true).bind fun x200 =>
            (m_slices_Clone_int p0.1).bind fun r222 =>
            (m_slices_Clone_int p1).bind fun r228 =>
            some (((o187.2.1, o187.2.2, (x200.length : Int), x200, o187.1), r222, r228, p0.2.1), 0)
set_option maxRecDepth 100000 in
set_option maxHeartbeats 8000000 in
theorem m_generate_Generate_c {s : Sig} {p0 : List Int × Int × List Int × (List (Int × Int × Int))} {p1 : List Int} {a1 : Option Addr} {c1 : Nat} {a2 : Option Addr} {c2 : Nat} {a3 : Option Addr} {c3 : Nat} {a4 : Option Addr} {c4 : Nat} {u0 : Nat} {u1 : Nat} {u2 : Nat} {u3 : Nat} {r : ((Int × Int × Int × List Bool × (List (Int × Int))) × List Int × List Int × Int) × Int} (h1 : RdL (rK .i64) s a1 c1 p0.1) (h2 : RdL (rK .i64) s a2 c2 p0.2.2.1) (h3 : RdL (rP (rK .i64) (rP (rK .i64) (rK .i64))) s a3 c3 p0.2.2.2) (h4 : RdL (rK .i64) s a4 c4 p1) (hm : m_generate_Generate p0 p1 = some r) :
    Calls Try.prog 12 #[.agg #[.slice a1 p0.1.length c1, .int .i64 p0.2.1, .slice a2 p0.2.2.1.length c2, .slice a3 p0.2.2.2.length c3], .slice a4 p1.length c4] s.w (RetS No s fun v s' => ∃ (a5 : Option Addr) (c5 : Nat) (a6 : Option Addr) (c6 : Nat) (a7 : Option Addr) (c7 : Nat) (a8 : Option Addr) (c8 : Nat), v = .tuple #[.agg #[.int .i64 r.1.1.1, .int .i64 r.1.1.2.1, .int .i64 r.1.1.2.2.1, .slice a5 r.1.1.2.2.2.1.length c5, .slice a6 r.1.1.2.2.2.2.length c6, .slice a7 r.1.2.1.length c7, .slice a8 r.1.2.2.1.length c8, .int .i64 r.1.2.2.2], .int .i64 r.2] ∧ RowT rB s' u0 4 a5 c5 r.1.1.2.2.2.1 ∧ RowT (rP (rK .i64) (rK .i64)) s' u1 119 a6 c6 r.1.1.2.2.2.2 ∧ RowT (rK .i64) s' u2 3 a7 c7 r.1.2.1 ∧ RowT (rK .i64) s' u3 3 a8 c8 r.1.2.2.1) := by
  unfold m_generate_Generate at hm
  obtain ⟨N, hN, hNb⟩ := s.fresh
  have m0 : Mv (Up N No) s s := Mv.refl _ _
  refine E.entry (vs := [.agg #[.slice a1 p0.1.length c1, .int .i64 p0.2.1, .slice a2 p0.2.2.1.length c2, .slice a3 p0.2.2.2.length c3], .slice a4 p1.length c4]) (e := [(0, .agg #[.slice a1 p0.1.length c1, .int .i64 p0.2.1, .slice a2 p0.2.2.1.length c2, .slice a3 p0.2.2.2.length c3]), (1, .slice a4 p1.length c4)]) Try.func12 rfl Try.ntmps12 rfl rfl ?_
  refine E.seq ?_
  refine E.reg ?_
  refine L.box (N + 0) Wt.no rfl rfl rfl ?_
  intro b9 s10 m11 bx9
  replace m0 := m0.trans m11.no
  replace h4 := h4.mono (m11.le no_No)
  replace h1 := h1.mono (m11.le no_No)
  replace h2 := h2.mono (m11.le no_No)
  replace h3 := h3.mono (m11.le no_No)
  refine L.al (N + 1) zz34 rfl Wt.no rfl ?_
  intro b12 s13 m14 bx12
  replace m0 := m0.trans m14.no
  replace h4 := h4.mono (m14.le no_No)
  replace bx9 := bx9.mv m14 no_No
  replace h1 := h1.mono (m14.le no_No)
  replace h2 := h2.mono (m14.le no_No)
  replace h3 := h3.mono (m14.le no_No)
  refine L.as Wt.no rfl rfl ?_
  refine L.nil ?_
  refine X.seqN ?_
  refine E.seq ?_
  refine E.seq ?_
  refine E.reg ?_
  refine L.lg (j := 0) (cs := [.slice a1 p0.1.length c1, .int .i64 p0.2.1, .slice a2 p0.2.2.1.length c2, .slice a3 p0.2.2.2.length c3]) bx9.mem ag26 Wt.no rfl rfl rfl rfl rfl ?_
  obtain ⟨r15, er15, hm⟩ := bindS hm
  refine L.ca (vs := [.agg #[.slice a1 p0.1.length c1, .int .i64 p0.2.1, .slice a2 p0.2.2.1.length c2, .slice a3 p0.2.2.2.length c3]]) cf33 rfl rfl Wt.no rfl (m_automaton_Check_c (s := s13) (p0 := p0) h1 h2 h3 er15) rfl ?_
  rintro _ s16 m17 rfl
  replace m0 := m0.trans m17.no
  replace h4 := h4.mono (m17.le no_No)
  replace bx9 := bx9.mv m17 no_No
  replace h1 := h1.mono (m17.le no_No)
  replace h2 := h2.mono (m17.le no_No)
  replace h3 := h3.mono (m17.le no_No)
  replace bx12 := bx12.mv m17 no_No
  refine L.as Wt.no rfl rfl ?_
  refine L.nil ?_
  refine X.seqN ?_
  refine E.seq ?_
  refine E.reg ?_
  refine L.mv Wt.no rfl rfl ?_
  refine L.bi Wt.no rfl rfl rfl rfl ?_
  refine L.nil ?_
  refine X.seqN ?_
  rcases ifS hm with ⟨hc, hm⟩ | ⟨hc, hm⟩
  · refine E.cT rfl hc ?_
    refine E.seq ?_
    refine E.reg ?_
    refine L.bu (cs := [.int .i64 0, .int .i64 0, .int .i64 0, .slice none 0 0, .slice none 0 0, .slice none 0 0, .slice none 0 0, .int .i64 0]) pl34 Wt.no rfl rfl rfl ?_
    refine L.mv Wt.no rfl rfl ?_
    refine L.st (c := [.int .i64 0, .int .i64 0, .int .i64 0, .slice none 0 0, .slice none 0 0, .slice none 0 0, .slice none 0 0, .int .i64 0]) (cs' := #[.int .i64 0, .int .i64 0, .int .i64 0, .slice none 0 0, .slice none 0 0, .slice none 0 0, .slice none 0 0, .int .i64 0]) bx12 ag34.sz Wt.no rfl rfl rfl rfl rfl (Nat.le_of_ble_eq_true rfl) rfl ?_
    intro s18 m19 bx12
    replace m0 := m0.trans (m19.one up)
    refine L.as Wt.no rfl rfl ?_
    refine L.nil ?_
    refine X.seqN ?_
    refine E.ret ?_
    refine X.seqR ?_
    obtain rfl := Option.some.inj hm
    exact X.rt (.inl rfl) Try.results12 (Rs.cell rfl bx12 ag34 rfl (Rs.tmp rfl Rs.nil)) rfl ⟨_, (s18).ren N (fun _ => 0), rfl, rfl, m0.ren hNb, ⟨none, 0, none, 0, none, 0, none, 0, rfl, RowT.nil, RowT.nil, RowT.nil, RowT.nil⟩⟩
  · refine E.cF rfl hc ?_
    refine E.skip ?_
    refine X.seqN ?_
    refine E.seq ?_
    refine E.seq ?_
    refine E.reg ?_
    refine L.mv Wt.no rfl rfl ?_
    obtain ⟨r20, er20, hm⟩ := bindS hm
    refine L.ca (vs := [.slice a4 p1.length c4, .int .i64 32]) cf28 rfl rfl Wt.no rfl (m_alphabet_CheckSet_c (s := s16) (p0 := p1) (p1 := 32) h4 er20) rfl ?_
    rintro _ s21 m22 rfl
    replace m0 := m0.trans m22.no
    replace h4 := h4.mono (m22.le no_No)
    replace bx9 := bx9.mv m22 no_No
    replace h1 := h1.mono (m22.le no_No)
    replace h2 := h2.mono (m22.le no_No)
    replace h3 := h3.mono (m22.le no_No)
    replace bx12 := bx12.mv m22 no_No
    refine L.as Wt.no rfl rfl ?_
    refine L.nil ?_
    refine X.seqN ?_
    refine E.seq ?_
    refine E.reg ?_
    refine L.mv Wt.no rfl rfl ?_
    refine L.bi Wt.no rfl rfl rfl rfl ?_
    refine L.nil ?_
    refine X.seqN ?_
    rcases ifS hm with ⟨hc, hm⟩ | ⟨hc, hm⟩
    · refine E.cT rfl hc ?_
      refine E.seq ?_
      refine E.reg ?_
      refine L.bu (cs := [.int .i64 0, .int .i64 0, .int .i64 0, .slice none 0 0, .slice none 0 0, .slice none 0 0, .slice none 0 0, .int .i64 0]) pl34 Wt.no rfl rfl rfl ?_
      refine L.mv Wt.no rfl rfl ?_
      refine L.st (c := [.int .i64 0, .int .i64 0, .int .i64 0, .slice none 0 0, .slice none 0 0, .slice none 0 0, .slice none 0 0, .int .i64 0]) (cs' := #[.int .i64 0, .int .i64 0, .int .i64 0, .slice none 0 0, .slice none 0 0, .slice none 0 0, .slice none 0 0, .int .i64 0]) bx12 ag34.sz Wt.no rfl rfl rfl rfl rfl (Nat.le_of_ble_eq_true rfl) rfl ?_
      intro s23 m24 bx12
      replace m0 := m0.trans (m24.one up)
      refine L.as Wt.no rfl rfl ?_
      refine L.nil ?_
      refine X.seqN ?_
      refine E.ret ?_
      refine X.seqR ?_
      obtain rfl := Option.some.inj hm
      exact X.rt (.inl rfl) Try.results12 (Rs.cell rfl bx12 ag34 rfl (Rs.tmp rfl Rs.nil)) rfl ⟨_, (s23).ren N (fun _ => 0), rfl, rfl, m0.ren hNb, ⟨none, 0, none, 0, none, 0, none, 0, rfl, RowT.nil, RowT.nil, RowT.nil, RowT.nil⟩⟩
    · refine E.cF rfl hc ?_
      refine E.skip ?_
      refine X.seqN ?_
      refine E.seq ?_
      refine E.block ?_
      refine E.seq ?_
      refine E.reg ?_
      refine L.mv Wt.no rfl rfl ?_
      refine L.fa fa26_0 Wt.no rfl rfl ?_
      refine L.ld (j := 0) bx9.mem nag23 Wt.no rfl rfl rfl rfl ?_
      obtain ⟨r25, er25, hm⟩ := bindS hm
      refine L.ca (vs := [.slice a4 p1.length c4, .slice a1 p0.1.length c1]) cf39 rfl rfl Wt.no rfl (m_alphabet_Subset_c (s := s21) (p0 := p1) (p1 := p0.1) h4 h1 er25) rfl ?_
      rintro _ s26 m27 rfl
      replace m0 := m0.trans m27.no
      replace h4 := h4.mono (m27.le no_No)
      replace bx9 := bx9.mv m27 no_No
      replace h1 := h1.mono (m27.le no_No)
      replace h2 := h2.mono (m27.le no_No)
      replace h3 := h3.mono (m27.le no_No)
      replace bx12 := bx12.mv m27 no_No
      refine L.not Wt.no rfl rfl ?_
      refine L.as Wt.no rfl rfl ?_
      refine L.nil ?_
      refine X.seqN ?_
      rcases ifS hm with ⟨hc, hm⟩ | ⟨hc, hm⟩
      · refine E.cT rfl hc ?_
        refine E.seq ?_
        refine E.reg ?_
        refine L.bu (cs := [.int .i64 0, .int .i64 0, .int .i64 0, .slice none 0 0, .slice none 0 0, .slice none 0 0, .slice none 0 0, .int .i64 0]) pl34 Wt.no rfl rfl rfl ?_
        refine L.st (c := [.int .i64 0, .int .i64 0, .int .i64 0, .slice none 0 0, .slice none 0 0, .slice none 0 0, .slice none 0 0, .int .i64 0]) (cs' := #[.int .i64 0, .int .i64 0, .int .i64 0, .slice none 0 0, .slice none 0 0, .slice none 0 0, .slice none 0 0, .int .i64 0]) bx12 ag34.sz Wt.no rfl rfl rfl rfl rfl (Nat.le_of_ble_eq_true rfl) rfl ?_
        intro s28 m29 bx12
        replace m0 := m0.trans (m29.one up)
        refine L.as Wt.no rfl rfl ?_
        refine L.nil ?_
        refine X.seqN ?_
        refine E.ret ?_
        refine X.blkR ?_
        refine X.seqR ?_
        obtain rfl := Option.some.inj hm
        exact X.rt (.inl rfl) Try.results12 (Rs.cell rfl bx12 ag34 rfl (Rs.tmp rfl Rs.nil)) rfl ⟨_, (s28).ren N (fun _ => 0), rfl, rfl, m0.ren hNb, ⟨none, 0, none, 0, none, 0, none, 0, rfl, RowT.nil, RowT.nil, RowT.nil, RowT.nil⟩⟩
      · refine E.cF rfl hc ?_
        refine E.seq ?_
        refine E.reg ?_
        refine L.fa fa26_1 Wt.no rfl rfl ?_
        refine L.ld (j := 1) bx9.mem nag3 Wt.no rfl rfl rfl rfl ?_
        refine L.bi Wt.no rfl rfl rfl rfl ?_
        refine L.as Wt.no rfl rfl ?_
        refine L.nil ?_
        refine X.seqN ?_
        rcases ifS hm with ⟨hc, hm⟩ | ⟨hc, hm⟩
        · refine E.cT rfl hc ?_
          refine E.seq ?_
          refine E.reg ?_
          refine L.bu (cs := [.int .i64 0, .int .i64 0, .int .i64 0, .slice none 0 0, .slice none 0 0, .slice none 0 0, .slice none 0 0, .int .i64 0]) pl34 Wt.no rfl rfl rfl ?_
          refine L.st (c := [.int .i64 0, .int .i64 0, .int .i64 0, .slice none 0 0, .slice none 0 0, .slice none 0 0, .slice none 0 0, .int .i64 0]) (cs' := #[.int .i64 0, .int .i64 0, .int .i64 0, .slice none 0 0, .slice none 0 0, .slice none 0 0, .slice none 0 0, .int .i64 0]) bx12 ag34.sz Wt.no rfl rfl rfl rfl rfl (Nat.le_of_ble_eq_true rfl) rfl ?_
          intro s30 m31 bx12
          replace m0 := m0.trans (m31.one up)
          refine L.as Wt.no rfl rfl ?_
          refine L.nil ?_
          refine X.seqN ?_
          refine E.ret ?_
          refine X.blkR ?_
          refine X.seqR ?_
          obtain rfl := Option.some.inj hm
          exact X.rt (.inl rfl) Try.results12 (Rs.cell rfl bx12 ag34 rfl (Rs.tmp rfl Rs.nil)) rfl ⟨_, (s30).ren N (fun _ => 0), rfl, rfl, m0.ren hNb, ⟨none, 0, none, 0, none, 0, none, 0, rfl, RowT.nil, RowT.nil, RowT.nil, RowT.nil⟩⟩
        · refine E.cF rfl hc ?_
          refine E.seq ?_
          refine E.reg ?_
          refine L.fa fa26_1 Wt.no rfl rfl ?_
          refine L.ld (j := 1) bx9.mem nag3 Wt.no rfl rfl rfl rfl ?_
          refine L.bi Wt.no rfl rfl rfl rfl ?_
          refine L.mv Wt.no rfl rfl ?_
          refine L.cut 5 (fun e w => ∃ (v32 : Bool), ((decide (p0.2.1 > 64)) || (decide ((p0.2.2.2.length : Int) > 256))) = v32 ∧ e = (51, .bool v32) :: [(4, .pointer (some ⟨b12, 0, none⟩)), (2, .pointer (some ⟨b9, 0, none⟩)), (1, .slice a4 p1.length c4)] ∧ w = s26.w) ?_ ?_
          · rintro _ _ ⟨v32, rfl, rfl, rfl⟩
            refine L.as Wt.no rfl rfl ?_
            refine L.nil ?_
            refine X.seqN ?_
            rcases ifS hm with ⟨hc, hm⟩ | ⟨hc, hm⟩
            · refine E.cT rfl hc ?_
              refine E.seq ?_
              refine E.reg ?_
              refine L.bu (cs := [.int .i64 0, .int .i64 0, .int .i64 0, .slice none 0 0, .slice none 0 0, .slice none 0 0, .slice none 0 0, .int .i64 0]) pl34 Wt.no rfl rfl rfl ?_
              refine L.st (c := [.int .i64 0, .int .i64 0, .int .i64 0, .slice none 0 0, .slice none 0 0, .slice none 0 0, .slice none 0 0, .int .i64 0]) (cs' := #[.int .i64 0, .int .i64 0, .int .i64 0, .slice none 0 0, .slice none 0 0, .slice none 0 0, .slice none 0 0, .int .i64 0]) bx12 ag34.sz Wt.no rfl rfl rfl rfl rfl (Nat.le_of_ble_eq_true rfl) rfl ?_
              intro s33 m34 bx12
              replace m0 := m0.trans (m34.one up)
              refine L.as Wt.no rfl rfl ?_
              refine L.nil ?_
              refine X.seqN ?_
              refine E.ret ?_
              refine X.blkR ?_
              refine X.seqR ?_
              obtain rfl := Option.some.inj hm
              exact X.rt (.inl rfl) Try.results12 (Rs.cell rfl bx12 ag34 rfl (Rs.tmp rfl Rs.nil)) rfl ⟨_, (s33).ren N (fun _ => 0), rfl, rfl, m0.ren hNb, ⟨none, 0, none, 0, none, 0, none, 0, rfl, RowT.nil, RowT.nil, RowT.nil, RowT.nil⟩⟩
            · refine E.cF rfl hc ?_
              refine E.skip ?_
              refine X.blkN ?_
              refine X.seqN ?_
              refine E.seq ?_
              refine E.reg ?_
              refine L.fa fa26_0 Wt.no rfl rfl ?_
              refine L.ld (j := 0) bx9.mem nag23 Wt.no rfl rfl rfl rfl ?_
              refine L.len sl23 Wt.no rfl rfl ?_
              refine L.mv Wt.no rfl rfl ?_
              refine L.len sl23 Wt.no rfl rfl ?_
              refine L.bi Wt.no rfl rfl rfl rfl ?_
              refine L.bu (cs := [.slice none 0 0, .int .i64 (p0.1.length : Int), .int .i64 (W ((p1.length : Int) + 1))]) pl90 Wt.no rfl rfl rfl ?_
              refine L.box (N + 2) Wt.no rfl rfl rfl ?_
              intro b35 s36 m37 bx35
              replace m0 := m0.trans m37.no
              replace h4 := h4.mono (m37.le no_No)
              replace bx9 := bx9.mv m37 no_No
              replace h1 := h1.mono (m37.le no_No)
              replace h2 := h2.mono (m37.le no_No)
              replace h3 := h3.mono (m37.le no_No)
              replace bx12 := bx12.mv m37 no_No
              refine L.as Wt.no rfl rfl ?_
              refine L.nil ?_
              refine X.seqN ?_
              refine E.seq ?_
              refine E.reg ?_
              refine L.mm (r := (rP (rK .i64) (rP (rK .i64) (rK .i64)))) (N := N) (q := 0) (U := 28) (N + 3) rfl Wt.no ?_
              intro b38 s39 m40 mp38
              replace m0 := m0.trans m40.no
              replace h4 := h4.mono (m40.le no_No)
              replace bx9 := bx9.mv m40 no_No
              replace h1 := h1.mono (m40.le no_No)
              replace h2 := h2.mono (m40.le no_No)
              replace h3 := h3.mono (m40.le no_No)
              replace bx12 := bx12.mv m40 no_No
              replace bx35 := bx35.mv m40 no_No
              refine L.mm (r := (rK .i64)) (N := N) (q := 1) (U := 3) (N + 4) rfl Wt.no ?_
              intro b41 s42 m43 mp41
              replace m0 := m0.trans m43.no
              replace h4 := h4.mono (m43.le no_No)
              replace mp38 := mp38.mv m43 no_No no_No (fun _ _ => no_No)
              replace bx9 := bx9.mv m43 no_No
              replace h1 := h1.mono (m43.le no_No)
              replace h2 := h2.mono (m43.le no_No)
              replace h3 := h3.mono (m43.le no_No)
              replace bx12 := bx12.mv m43 no_No
              replace bx35 := bx35.mv m43 no_No
              refine L.as Wt.no rfl rfl ?_
              refine L.as Wt.no rfl rfl ?_
              refine L.nil ?_
              refine X.seqN ?_
              refine E.seq ?_
              refine E.seq ?_
              refine E.reg ?_
              refine L.fa fa26_3 Wt.no rfl rfl ?_
              refine L.ld (j := 3) bx9.mem nag24 Wt.no rfl rfl rfl rfl ?_
              refine L.len sl24 Wt.no rfl rfl ?_
              refine L.mv Wt.no rfl rfl ?_
              refine L.nil ?_
              refine X.seqN ?_
              refine E.block ?_
              obtain ⟨o106, eo106, hm⟩ := bindS hm
              refine E.cut (x := .exit 1) (fun e w => ∃ (s110 : Sig), Mv (Up N No) s s110 ∧ MapW (rK .i64) s110 N 1 (N + 4) 3 b41 o106.1 none ∧ MapW (rP (rK .i64) (rP (rK .i64) (rK .i64))) s110 N 0 (N + 3) 28 b38 o106.2 none ∧ RdL (rK .i64) s110 a4 c4 p1 ∧ RdL (rK .i64) s110 a1 c1 p0.1 ∧ RdL (rK .i64) s110 a2 c2 p0.2.2.1 ∧ RdL (rP (rK .i64) (rP (rK .i64) (rK .i64))) s110 a3 c3 p0.2.2.2 ∧ Bx s110 (N + 0) b9 #[.slice a1 p0.1.length c1, .int .i64 p0.2.1, .slice a2 p0.2.2.1.length c2, .slice a3 p0.2.2.2.length c3] 26 ∧ Bx s110 (N + 1) b12 #[.int .i64 0, .int .i64 0, .int .i64 0, .slice none 0 0, .slice none 0 0, .slice none 0 0, .slice none 0 0, .int .i64 0] 34 ∧ Bx s110 (N + 2) b35 #[.slice none 0 0, .int .i64 (p0.1.length : Int), .int .i64 (W ((p1.length : Int) + 1))] 90 ∧ e = [(10, .map (some b41)), (9, .map (some b38)), (8, .pointer (some ⟨b35, 0, none⟩)), (4, .pointer (some ⟨b12, 0, none⟩)), (2, .pointer (some ⟨b9, 0, none⟩)), (1, .slice a4 p1.length c4)] ∧ w = s110.w) ?_ ?_
              · rintro _ _ ⟨s110, m0, mp41, mp38, h4, h1, h2, h3, bx9, bx12, bx35, rfl, rfl⟩
                refine X.blkE ?_
                refine X.seqN ?_
                refine E.seq ?_
                refine E.seq ?_
                refine E.reg ?_
                refine L.fa fa26_0 Wt.no rfl rfl ?_
                refine L.ld (j := 0) bx9.mem nag23 Wt.no rfl rfl rfl rfl ?_
                refine L.len sl23 Wt.no rfl rfl ?_
                refine L.mv Wt.no rfl rfl ?_
                refine L.nil ?_
                refine X.seqN ?_
                refine E.block ?_
                obtain ⟨o150, eo150, hm⟩ := bindS hm
                refine E.cut (x := .exit 3) (fun e w => ∃ (s156 : Sig) (a152 : Option Addr) (c152 : Nat), Mv (Up N No) s s156 ∧ MapR (rL (rK .i64)) s156 b41 o106.1 ∧ RdL (rK .i64) s156 a4 c4 p1 ∧ RdL (rK .i64) s156 a1 c1 p0.1 ∧ RdL (rK .i64) s156 a2 c2 p0.2.2.1 ∧ RdL (rP (rK .i64) (rP (rK .i64) (rK .i64))) s156 a3 c3 p0.2.2.2 ∧ RowT (rP (rK .i64) (rK .i64)) s156 (N + 6) 119 a152 c152 o150.1 ∧ Bx s156 (N + 0) b9 #[.slice a1 p0.1.length c1, .int .i64 p0.2.1, .slice a2 p0.2.2.1.length c2, .slice a3 p0.2.2.2.length c3] 26 ∧ Bx s156 (N + 1) b12 #[.int .i64 0, .int .i64 0, .int .i64 0, .slice none 0 0, .slice none 0 0, .slice none 0 0, .slice none 0 0, .int .i64 0] 34 ∧ Bx s156 (N + 2) b35 #[.slice a152 o150.1.length c152, .int .i64 o150.2.1, .int .i64 o150.2.2] 90 ∧ e = [(10, .map (some b41)), (8, .pointer (some ⟨b35, 0, none⟩)), (4, .pointer (some ⟨b12, 0, none⟩)), (2, .pointer (some ⟨b9, 0, none⟩)), (1, .slice a4 p1.length c4)] ∧ w = s156.w) ?_ ?_
                · rintro _ _ ⟨s156, a152, c152, m0, mp41, h4, h1, h2, h3, h152, bx9, bx12, bx35, rfl, rfl⟩
                  refine X.blkE ?_
                  refine X.seqN ?_
                  refine E.seq ?_
                  refine E.seq ?_
                  refine E.reg ?_
                  refine L.mv Wt.no rfl rfl ?_
                  refine L.len sl23 Wt.no rfl rfl ?_
                  refine L.mv Wt.no rfl rfl ?_
                  refine L.nil ?_
                  refine X.seqN ?_
                  refine E.block ?_
                  obtain ⟨o187, eo187, hm⟩ := bindS hm
                  refine E.cut (x := .exit 5) (fun e w => ∃ (s193 : Sig) (a189 : Option Addr) (c189 : Nat), Mv (Up N No) s s193 ∧ RdL (rK .i64) s193 a4 c4 p1 ∧ RdL (rK .i64) s193 a1 c1 p0.1 ∧ RdL (rK .i64) s193 a2 c2 p0.2.2.1 ∧ RdL (rP (rK .i64) (rP (rK .i64) (rK .i64))) s193 a3 c3 p0.2.2.2 ∧ RowT (rP (rK .i64) (rK .i64)) s193 (N + 6) 119 a189 c189 o187.1 ∧ Bx s193 (N + 0) b9 #[.slice a1 p0.1.length c1, .int .i64 p0.2.1, .slice a2 p0.2.2.1.length c2, .slice a3 p0.2.2.2.length c3] 26 ∧ Bx s193 (N + 1) b12 #[.int .i64 0, .int .i64 0, .int .i64 0, .slice none 0 0, .slice none 0 0, .slice none 0 0, .slice none 0 0, .int .i64 0] 34 ∧ Bx s193 (N + 2) b35 #[.slice a189 o187.1.length c189, .int .i64 o187.2.1, .int .i64 o187.2.2] 90 ∧ e = [(8, .pointer (some ⟨b35, 0, none⟩)), (4, .pointer (some ⟨b12, 0, none⟩)), (2, .pointer (some ⟨b9, 0, none⟩)), (1, .slice a4 p1.length c4)] ∧ w = s193.w) ?_ ?_
                  · rintro _ _ ⟨s193, a189, c189, m0, h4, h1, h2, h3, h189, bx9, bx12, bx35, rfl, rfl⟩
                    refine X.blkE ?_
                    refine X.seqN ?_
                    refine E.seq ?_
                    refine E.reg ?_
                    refine L.fa fa26_1 Wt.no rfl rfl ?_
                    refine L.ld (j := 1) bx9.mem nag3 Wt.no rfl rfl rfl rfl ?_
                    refine L.bi Wt.no rfl rfl rfl rfl ?_
                    obtain ⟨x194, ex194, hm⟩ := bindS hm
                    refine L.mk (z := false) (N + 7) Try.underlying29 zr4 rfl Wt.no rfl rfl ex194 rfl ?_
                    intro b195 s196 m197 h195
                    replace m0 := m0.trans m197.no
                    replace h4 := h4.mono (m197.le no_No)
                    replace bx9 := bx9.mv m197 no_No
                    replace h1 := h1.mono (m197.le no_No)
                    replace h2 := h2.mono (m197.le no_No)
                    replace h3 := h3.mono (m197.le no_No)
                    replace bx12 := bx12.mv m197 no_No
                    replace bx35 := bx35.mv m197 no_No
                    replace h189 := h189.mv m197 no_No no_No
                    refine L.as Wt.no rfl rfl ?_
                    refine L.nil ?_
                    refine X.seqN ?_
                    refine E.seq ?_
                    refine E.reg ?_
                    refine L.mv Wt.no rfl rfl ?_
                    obtain ⟨x198, ex198, hm⟩ := bindS hm
                    refine L.ir (r := rB) sl29 h195 Wt.no rfl rfl ex198 rfl ?_
                    rintro b199 o199 cc199 me199 rd199 sp199
                    obtain rfl := rd199
                    obtain ⟨x200, ex200, hm⟩ := bindS hm
                    have elx200 := upd_len ex200
                    refine L.su (fo := 0) (c := [.bool true]) (z := true) h195 sp199 ex198 ex200 (tgp hN) nag4.sz Wt.no rfl rfl rfl rfl rfl rfl (fun c0 hc0 => by obtain rfl := hc0; exact rfl) ?_
                    intro s201 m202 h195
                    replace m0 := m0.trans (m202.one up)
                    replace h4 := h4.mono (m202.le (tg0 hN))
                    replace bx9 := bx9.mv m202 (tgN (by decide))
                    replace h1 := h1.mono (m202.le (tg0 hN))
                    replace h2 := h2.mono (m202.le (tg0 hN))
                    replace h3 := h3.mono (m202.le (tg0 hN))
                    replace bx12 := bx12.mv m202 (tgN (by decide))
                    replace bx35 := bx35.mv m202 (tgN (by decide))
                    replace h189 := h189.mv m202 (tgN (by decide)) (tg0 hN)
                    refine L.reval (d := 17) rfl elx200 ?_
                    refine L.nil ?_
                    refine X.seqN ?_
                    refine E.seq ?_
                    obtain ⟨r222, er222, hm⟩ := bindS hm
                    obtain ⟨r228, er228, hm⟩ := bindS hm
                    refine E.draw [[], [0], [0, 1], [0, 1, 2], [], [4], [4, 5], [4, 5, 6], [], [8], [], [], [11], [11, 12], [11, 12, 13], [0, 1, 2, 3, 4, 5, 6, 7, 8, 9, 10, 11, 12, 13, 14], [], [16], [16, 17], [], [16, 17, 18, 19], [], [21], [0, 1, 2, 3, 4, 5, 6, 7, 8, 9, 10, 11, 12, 13, 14, 15, 16, 17, 18, 19, 20, 21, 22], [0, 1, 2, 3, 4, 5, 6, 7, 8, 9, 10, 11, 12, 13, 14, 15, 16, 17, 18, 19, 20, 21, 22, 23], [0, 1, 2, 3, 4, 5, 6, 7, 8, 9, 10, 11, 12, 13, 14, 15, 16, 17, 18, 19, 20, 21, 22, 23, 24]] (fun D e sx => Mv (One (N + 1)) s201 sx ∧ Sub [(17, .slice (some ⟨b195, 0, none⟩) x200.length x194.length), (8, .pointer (some ⟨b35, 0, none⟩)), (4, .pointer (some ⟨b12, 0, none⟩)), (2, .pointer (some ⟨b9, 0, none⟩)), (1, .slice a4 p1.length c4)] e ∧ (D 0 = true → (Env.get e 139 = some (.pointer (some ⟨b35, 0, none⟩)))) ∧ (D 1 = true → (Env.get e 140 = some (.pointer (some ⟨b35, 0, none⟩)))) ∧ (D 2 = true → (Env.get e 141 = some (.pointer (some ⟨b35, 1, none⟩)))) ∧ (D 3 = true → (Env.get e 142 = some (.int .i64 o187.2.1))) ∧ (D 4 = true → (Env.get e 143 = some (.pointer (some ⟨b35, 0, none⟩)))) ∧ (D 5 = true → (Env.get e 144 = some (.pointer (some ⟨b35, 0, none⟩)))) ∧ (D 6 = true → (Env.get e 145 = some (.pointer (some ⟨b35, 2, none⟩)))) ∧ (D 7 = true → (Env.get e 146 = some (.int .i64 o187.2.2))) ∧ (D 8 = true → (Env.get e 147 = some (.slice (some ⟨b195, 0, none⟩) x200.length x194.length))) ∧ (D 9 = true → (Env.get e 148 = some (.int .i64 (x200.length : Int)))) ∧ (D 10 = true → (Env.get e 149 = some (.slice (some ⟨b195, 0, none⟩) x200.length x194.length))) ∧ (D 11 = true → (Env.get e 150 = some (.pointer (some ⟨b35, 0, none⟩)))) ∧ (D 12 = true → (Env.get e 151 = some (.pointer (some ⟨b35, 0, none⟩)))) ∧ (D 13 = true → (Env.get e 152 = some (.pointer (some ⟨b35, 0, none⟩)))) ∧ (D 14 = true → (Env.get e 153 = some (.slice a189 o187.1.length c189))) ∧ (D 15 = true → (Env.get e 154 = some (.agg #[.int .i64 o187.2.1, .int .i64 o187.2.2, .int .i64 (x200.length : Int), .slice (some ⟨b195, 0, none⟩) x200.length x194.length, .slice a189 o187.1.length c189]))) ∧ (D 16 = true → (Env.get e 155 = some (.pointer (some ⟨b9, 0, none⟩)))) ∧ (D 17 = true → (Env.get e 156 = some (.slice a1 p0.1.length c1))) ∧ (D 18 = true → (∃ (a225 : Option Addr) (c225 : Nat), Env.get e 157 = some (.slice a225 r222.length c225) ∧ RowT (rK .i64) sx (N + 8) 3 a225 c225 r222)) ∧ (D 19 = true → (Env.get e 158 = some (.slice a4 p1.length c4))) ∧ (D 20 = true → (∃ (a231 : Option Addr) (c231 : Nat), Env.get e 159 = some (.slice a231 r228.length c231) ∧ RowT (rK .i64) sx (N + 9) 3 a231 c231 r228)) ∧ (D 21 = true → (Env.get e 160 = some (.pointer (some ⟨b9, 1, none⟩)))) ∧ (D 22 = true → (Env.get e 161 = some (.int .i64 p0.2.1))) ∧ (D 23 = true → ∀ (a225 : Option Addr) (c225 : Nat) (a231 : Option Addr) (c231 : Nat), Env.get e 157 = some (.slice a225 r222.length c225) → Env.get e 159 = some (.slice a231 r228.length c231) → (Env.get e 162 = some (.agg #[.int .i64 o187.2.1, .int .i64 o187.2.2, .int .i64 (x200.length : Int), .slice (some ⟨b195, 0, none⟩) x200.length x194.length, .slice a189 o187.1.length c189, .slice a225 r222.length c225, .slice a231 r228.length c231, .int .i64 p0.2.1]))) ∧ (D 25 = true → (Env.get e 5 = some (.int .i64 0))) ∧ (D 24 = false → Bx sx (N + 1) b12 #[.int .i64 0, .int .i64 0, .int .i64 0, .slice none 0 0, .slice none 0 0, .slice none 0 0, .slice none 0 0, .int .i64 0] 34) ∧ (D 24 = true → ∀ (a225 : Option Addr) (c225 : Nat) (a231 : Option Addr) (c231 : Nat), Env.get e 157 = some (.slice a225 r222.length c225) → Env.get e 159 = some (.slice a231 r228.length c231) → Bx sx (N + 1) b12 #[.int .i64 o187.2.1, .int .i64 o187.2.2, .int .i64 (x200.length : Int), .slice (some ⟨b195, 0, none⟩) x200.length x194.length, .slice a189 o187.1.length c189, .slice a225 r222.length c225, .slice a231 r228.length c231, .int .i64 p0.2.1] 34)) (by kernel_rfl) (by kernel_rfl) (by kernel_rfl) ?_ ?_ ?_
                    · intro sz mz
                      exact ⟨mz.no, (Sub.cons rfl (Sub.cons rfl (Sub.cons rfl (Sub.cons rfl (Sub.cons rfl Sub.nil))))), nofun, nofun, nofun, nofun, nofun, nofun, nofun, nofun, nofun, nofun, nofun, nofun, nofun, nofun, nofun, nofun, nofun, nofun, nofun, nofun, nofun, nofun, nofun, nofun, nofun, fun _ => bx12.mv mz no_No, nofun⟩
                    · refine ⟨?_, ?_, ?_, ?_, ?_, ?_, ?_, ?_, ?_, ?_, ?_, ?_, ?_, ?_, ?_, ?_, ?_, ?_, ?_, ?_, ?_, ?_, ?_, ?_, ?_, ?_, trivial⟩
                      · rintro D e s203 ⟨im, ib, i0, i1, i2, i3, i4, i5, i6, i7, i8, i9, i10, i11, i12, i13, i14, i15, i16, i17, i18, i19, i20, i21, i22, i23, i24, i25, i26⟩ hk hf ha
                        refine L.kns [(8, .pointer (some ⟨b35, 0, none⟩))] ⟨(ib 8 _ rfl), trivial⟩ ?_
                        refine L.mv Wt.no rfl rfl ?_
                        refine L.nil ?_
                        refine X.dr (s := s203) (e' := (139, .pointer (some ⟨b35, 0, none⟩)) :: e) (Sub.both (Kn.sup ⟨(ib 8 _ rfl), trivial⟩)) ⟨im, Sub.fresh ib rfl, fun _ => rfl, i1, i2, i3, i4, i5, i6, i7, i8, i9, i10, i11, i12, i13, i14, i15, i16, i17, i18, i19, i20, i21, i22, i23, i24, i25, i26⟩
                      · rintro D e s204 ⟨im, ib, i0, i1, i2, i3, i4, i5, i6, i7, i8, i9, i10, i11, i12, i13, i14, i15, i16, i17, i18, i19, i20, i21, i22, i23, i24, i25, i26⟩ hk hf ha
                        obtain ⟨d0, -⟩ := ha
                        have g0_ := i0 d0
                        refine L.kns [(139, .pointer (some ⟨b35, 0, none⟩))] ⟨g0_, trivial⟩ ?_
                        refine L.nc Wt.no rfl rfl ?_
                        refine L.nil ?_
                        refine X.dr (s := s204) (e' := (140, .pointer (some ⟨b35, 0, none⟩)) :: e) (Sub.both (Kn.sup ⟨g0_, trivial⟩)) ⟨im, Sub.fresh ib rfl, i0, fun _ => rfl, i2, i3, i4, i5, i6, i7, i8, i9, i10, i11, i12, i13, i14, i15, i16, i17, i18, i19, i20, i21, i22, i23, i24, i25, i26⟩
                      · rintro D e s205 ⟨im, ib, i0, i1, i2, i3, i4, i5, i6, i7, i8, i9, i10, i11, i12, i13, i14, i15, i16, i17, i18, i19, i20, i21, i22, i23, i24, i25, i26⟩ hk hf ha
                        obtain ⟨d0, d1, -⟩ := ha
                        have g1_ := i1 d1
                        refine L.kns [(140, .pointer (some ⟨b35, 0, none⟩))] ⟨g1_, trivial⟩ ?_
                        refine L.fa fa90_1 Wt.no rfl rfl ?_
                        refine L.nil ?_
                        refine X.dr (s := s205) (e' := (141, .pointer (some ⟨b35, 1, none⟩)) :: e) (Sub.both (Kn.sup ⟨g1_, trivial⟩)) ⟨im, Sub.fresh ib rfl, i0, i1, fun _ => rfl, i3, i4, i5, i6, i7, i8, i9, i10, i11, i12, i13, i14, i15, i16, i17, i18, i19, i20, i21, i22, i23, i24, i25, i26⟩
                      · rintro D e s206 ⟨im, ib, i0, i1, i2, i3, i4, i5, i6, i7, i8, i9, i10, i11, i12, i13, i14, i15, i16, i17, i18, i19, i20, i21, i22, i23, i24, i25, i26⟩ hk hf ha
                        obtain ⟨d0, d1, d2, -⟩ := ha
                        have g2_ := i2 d2
                        have bx35 := bx35.mv im (tgN (by decide))
                        refine L.kns [(141, .pointer (some ⟨b35, 1, none⟩))] ⟨g2_, trivial⟩ ?_
                        refine L.ld (j := 1) bx35.mem nag3 Wt.no rfl rfl rfl rfl ?_
                        refine L.nil ?_
                        refine X.dr (s := s206) (e' := (142, .int .i64 o187.2.1) :: e) (Sub.both (Kn.sup ⟨g2_, trivial⟩)) ⟨im, Sub.fresh ib rfl, i0, i1, i2, fun _ => rfl, i4, i5, i6, i7, i8, i9, i10, i11, i12, i13, i14, i15, i16, i17, i18, i19, i20, i21, i22, i23, i24, i25, i26⟩
                      · rintro D e s207 ⟨im, ib, i0, i1, i2, i3, i4, i5, i6, i7, i8, i9, i10, i11, i12, i13, i14, i15, i16, i17, i18, i19, i20, i21, i22, i23, i24, i25, i26⟩ hk hf ha
                        refine L.kns [(8, .pointer (some ⟨b35, 0, none⟩))] ⟨(ib 8 _ rfl), trivial⟩ ?_
                        refine L.mv Wt.no rfl rfl ?_
                        refine L.nil ?_
                        refine X.dr (s := s207) (e' := (143, .pointer (some ⟨b35, 0, none⟩)) :: e) (Sub.both (Kn.sup ⟨(ib 8 _ rfl), trivial⟩)) ⟨im, Sub.fresh ib rfl, i0, i1, i2, i3, fun _ => rfl, i5, i6, i7, i8, i9, i10, i11, i12, i13, i14, i15, i16, i17, i18, i19, i20, i21, i22, i23, i24, i25, i26⟩
                      · rintro D e s208 ⟨im, ib, i0, i1, i2, i3, i4, i5, i6, i7, i8, i9, i10, i11, i12, i13, i14, i15, i16, i17, i18, i19, i20, i21, i22, i23, i24, i25, i26⟩ hk hf ha
                        obtain ⟨d4, -⟩ := ha
                        have g4_ := i4 d4
                        refine L.kns [(143, .pointer (some ⟨b35, 0, none⟩))] ⟨g4_, trivial⟩ ?_
                        refine L.nc Wt.no rfl rfl ?_
                        refine L.nil ?_
                        refine X.dr (s := s208) (e' := (144, .pointer (some ⟨b35, 0, none⟩)) :: e) (Sub.both (Kn.sup ⟨g4_, trivial⟩)) ⟨im, Sub.fresh ib rfl, i0, i1, i2, i3, i4, fun _ => rfl, i6, i7, i8, i9, i10, i11, i12, i13, i14, i15, i16, i17, i18, i19, i20, i21, i22, i23, i24, i25, i26⟩
                      · rintro D e s209 ⟨im, ib, i0, i1, i2, i3, i4, i5, i6, i7, i8, i9, i10, i11, i12, i13, i14, i15, i16, i17, i18, i19, i20, i21, i22, i23, i24, i25, i26⟩ hk hf ha
                        obtain ⟨d4, d5, -⟩ := ha
                        have g5_ := i5 d5
                        refine L.kns [(144, .pointer (some ⟨b35, 0, none⟩))] ⟨g5_, trivial⟩ ?_
                        refine L.fa fa90_2 Wt.no rfl rfl ?_
                        refine L.nil ?_
                        refine X.dr (s := s209) (e' := (145, .pointer (some ⟨b35, 2, none⟩)) :: e) (Sub.both (Kn.sup ⟨g5_, trivial⟩)) ⟨im, Sub.fresh ib rfl, i0, i1, i2, i3, i4, i5, fun _ => rfl, i7, i8, i9, i10, i11, i12, i13, i14, i15, i16, i17, i18, i19, i20, i21, i22, i23, i24, i25, i26⟩
                      · rintro D e s210 ⟨im, ib, i0, i1, i2, i3, i4, i5, i6, i7, i8, i9, i10, i11, i12, i13, i14, i15, i16, i17, i18, i19, i20, i21, i22, i23, i24, i25, i26⟩ hk hf ha
                        obtain ⟨d4, d5, d6, -⟩ := ha
                        have g6_ := i6 d6
                        have bx35 := bx35.mv im (tgN (by decide))
                        refine L.kns [(145, .pointer (some ⟨b35, 2, none⟩))] ⟨g6_, trivial⟩ ?_
                        refine L.ld (j := 2) bx35.mem nag3 Wt.no rfl rfl rfl rfl ?_
                        refine L.nil ?_
                        refine X.dr (s := s210) (e' := (146, .int .i64 o187.2.2) :: e) (Sub.both (Kn.sup ⟨g6_, trivial⟩)) ⟨im, Sub.fresh ib rfl, i0, i1, i2, i3, i4, i5, i6, fun _ => rfl, i8, i9, i10, i11, i12, i13, i14, i15, i16, i17, i18, i19, i20, i21, i22, i23, i24, i25, i26⟩
                      · rintro D e s211 ⟨im, ib, i0, i1, i2, i3, i4, i5, i6, i7, i8, i9, i10, i11, i12, i13, i14, i15, i16, i17, i18, i19, i20, i21, i22, i23, i24, i25, i26⟩ hk hf ha
                        refine L.kns [(17, .slice (some ⟨b195, 0, none⟩) x200.length x194.length)] ⟨(ib 17 _ rfl), trivial⟩ ?_
                        refine L.mv Wt.no rfl rfl ?_
                        refine L.nil ?_
                        refine X.dr (s := s211) (e' := (147, .slice (some ⟨b195, 0, none⟩) x200.length x194.length) :: e) (Sub.both (Kn.sup ⟨(ib 17 _ rfl), trivial⟩)) ⟨im, Sub.fresh ib rfl, i0, i1, i2, i3, i4, i5, i6, i7, fun _ => rfl, i9, i10, i11, i12, i13, i14, i15, i16, i17, i18, i19, i20, i21, i22, i23, i24, i25, i26⟩
                      · rintro D e s212 ⟨im, ib, i0, i1, i2, i3, i4, i5, i6, i7, i8, i9, i10, i11, i12, i13, i14, i15, i16, i17, i18, i19, i20, i21, i22, i23, i24, i25, i26⟩ hk hf ha
                        obtain ⟨d8, -⟩ := ha
                        have g8_ := i8 d8
                        refine L.kns [(147, .slice (some ⟨b195, 0, none⟩) x200.length x194.length)] ⟨g8_, trivial⟩ ?_
                        refine L.len sl29 Wt.no rfl rfl ?_
                        refine L.nil ?_
                        refine X.dr (s := s212) (e' := (148, .int .i64 (x200.length : Int)) :: e) (Sub.both (Kn.sup ⟨g8_, trivial⟩)) ⟨im, Sub.fresh ib rfl, i0, i1, i2, i3, i4, i5, i6, i7, i8, fun _ => rfl, i10, i11, i12, i13, i14, i15, i16, i17, i18, i19, i20, i21, i22, i23, i24, i25, i26⟩
                      · rintro D e s213 ⟨im, ib, i0, i1, i2, i3, i4, i5, i6, i7, i8, i9, i10, i11, i12, i13, i14, i15, i16, i17, i18, i19, i20, i21, i22, i23, i24, i25, i26⟩ hk hf ha
                        refine L.kns [(17, .slice (some ⟨b195, 0, none⟩) x200.length x194.length)] ⟨(ib 17 _ rfl), trivial⟩ ?_
                        refine L.mv Wt.no rfl rfl ?_
                        refine L.nil ?_
                        refine X.dr (s := s213) (e' := (149, .slice (some ⟨b195, 0, none⟩) x200.length x194.length) :: e) (Sub.both (Kn.sup ⟨(ib 17 _ rfl), trivial⟩)) ⟨im, Sub.fresh ib rfl, i0, i1, i2, i3, i4, i5, i6, i7, i8, i9, fun _ => rfl, i11, i12, i13, i14, i15, i16, i17, i18, i19, i20, i21, i22, i23, i24, i25, i26⟩
                      · rintro D e s214 ⟨im, ib, i0, i1, i2, i3, i4, i5, i6, i7, i8, i9, i10, i11, i12, i13, i14, i15, i16, i17, i18, i19, i20, i21, i22, i23, i24, i25, i26⟩ hk hf ha
                        refine L.kns [(8, .pointer (some ⟨b35, 0, none⟩))] ⟨(ib 8 _ rfl), trivial⟩ ?_
                        refine L.mv Wt.no rfl rfl ?_
                        refine L.nil ?_
                        refine X.dr (s := s214) (e' := (150, .pointer (some ⟨b35, 0, none⟩)) :: e) (Sub.both (Kn.sup ⟨(ib 8 _ rfl), trivial⟩)) ⟨im, Sub.fresh ib rfl, i0, i1, i2, i3, i4, i5, i6, i7, i8, i9, i10, fun _ => rfl, i12, i13, i14, i15, i16, i17, i18, i19, i20, i21, i22, i23, i24, i25, i26⟩
                      · rintro D e s215 ⟨im, ib, i0, i1, i2, i3, i4, i5, i6, i7, i8, i9, i10, i11, i12, i13, i14, i15, i16, i17, i18, i19, i20, i21, i22, i23, i24, i25, i26⟩ hk hf ha
                        obtain ⟨d11, -⟩ := ha
                        have g11_ := i11 d11
                        refine L.kns [(150, .pointer (some ⟨b35, 0, none⟩))] ⟨g11_, trivial⟩ ?_
                        refine L.nc Wt.no rfl rfl ?_
                        refine L.nil ?_
                        refine X.dr (s := s215) (e' := (151, .pointer (some ⟨b35, 0, none⟩)) :: e) (Sub.both (Kn.sup ⟨g11_, trivial⟩)) ⟨im, Sub.fresh ib rfl, i0, i1, i2, i3, i4, i5, i6, i7, i8, i9, i10, i11, fun _ => rfl, i13, i14, i15, i16, i17, i18, i19, i20, i21, i22, i23, i24, i25, i26⟩
                      · rintro D e s216 ⟨im, ib, i0, i1, i2, i3, i4, i5, i6, i7, i8, i9, i10, i11, i12, i13, i14, i15, i16, i17, i18, i19, i20, i21, i22, i23, i24, i25, i26⟩ hk hf ha
                        obtain ⟨d11, d12, -⟩ := ha
                        have g12_ := i12 d12
                        refine L.kns [(151, .pointer (some ⟨b35, 0, none⟩))] ⟨g12_, trivial⟩ ?_
                        refine L.fa fa90_0 Wt.no rfl rfl ?_
                        refine L.nil ?_
                        refine X.dr (s := s216) (e' := (152, .pointer (some ⟨b35, 0, none⟩)) :: e) (Sub.both (Kn.sup ⟨g12_, trivial⟩)) ⟨im, Sub.fresh ib rfl, i0, i1, i2, i3, i4, i5, i6, i7, i8, i9, i10, i11, i12, fun _ => rfl, i14, i15, i16, i17, i18, i19, i20, i21, i22, i23, i24, i25, i26⟩
                      · rintro D e s217 ⟨im, ib, i0, i1, i2, i3, i4, i5, i6, i7, i8, i9, i10, i11, i12, i13, i14, i15, i16, i17, i18, i19, i20, i21, i22, i23, i24, i25, i26⟩ hk hf ha
                        obtain ⟨d11, d12, d13, -⟩ := ha
                        have g13_ := i13 d13
                        have bx35 := bx35.mv im (tgN (by decide))
                        refine L.kns [(152, .pointer (some ⟨b35, 0, none⟩))] ⟨g13_, trivial⟩ ?_
                        refine L.ld (j := 0) bx35.mem nag30 Wt.no rfl rfl rfl rfl ?_
                        refine L.nil ?_
                        refine X.dr (s := s217) (e' := (153, .slice a189 o187.1.length c189) :: e) (Sub.both (Kn.sup ⟨g13_, trivial⟩)) ⟨im, Sub.fresh ib rfl, i0, i1, i2, i3, i4, i5, i6, i7, i8, i9, i10, i11, i12, i13, fun _ => rfl, i15, i16, i17, i18, i19, i20, i21, i22, i23, i24, i25, i26⟩
                      · rintro D e s218 ⟨im, ib, i0, i1, i2, i3, i4, i5, i6, i7, i8, i9, i10, i11, i12, i13, i14, i15, i16, i17, i18, i19, i20, i21, i22, i23, i24, i25, i26⟩ hk hf ha
                        obtain ⟨d0, d1, d2, d3, d4, d5, d6, d7, d8, d9, d10, d11, d12, d13, d14, -⟩ := ha
                        have g3_ := i3 d3
                        have g7_ := i7 d7
                        have g9_ := i9 d9
                        have g10_ := i10 d10
                        have g14_ := i14 d14
                        refine L.kns [(142, .int .i64 o187.2.1), (146, .int .i64 o187.2.2), (148, .int .i64 (x200.length : Int)), (149, .slice (some ⟨b195, 0, none⟩) x200.length x194.length), (153, .slice a189 o187.1.length c189)] ⟨g3_, g7_, g9_, g10_, g14_, trivial⟩ ?_
                        refine L.bu (cs := [.int .i64 o187.2.1, .int .i64 o187.2.2, .int .i64 (x200.length : Int), .slice (some ⟨b195, 0, none⟩) x200.length x194.length, .slice a189 o187.1.length c189]) pl32 Wt.no rfl rfl rfl ?_
                        refine L.nil ?_
                        refine X.dr (s := s218) (e' := (154, .agg #[.int .i64 o187.2.1, .int .i64 o187.2.2, .int .i64 (x200.length : Int), .slice (some ⟨b195, 0, none⟩) x200.length x194.length, .slice a189 o187.1.length c189]) :: e) (Sub.both (Kn.sup ⟨g3_, g7_, g9_, g10_, g14_, trivial⟩)) ⟨im, Sub.fresh ib rfl, i0, i1, i2, i3, i4, i5, i6, i7, i8, i9, i10, i11, i12, i13, i14, fun _ => rfl, i16, i17, i18, i19, i20, i21, i22, i23, i24, i25, i26⟩
                      · rintro D e s219 ⟨im, ib, i0, i1, i2, i3, i4, i5, i6, i7, i8, i9, i10, i11, i12, i13, i14, i15, i16, i17, i18, i19, i20, i21, i22, i23, i24, i25, i26⟩ hk hf ha
                        refine L.kns [(2, .pointer (some ⟨b9, 0, none⟩))] ⟨(ib 2 _ rfl), trivial⟩ ?_
                        refine L.fa fa26_0 Wt.no rfl rfl ?_
                        refine L.nil ?_
                        refine X.dr (s := s219) (e' := (155, .pointer (some ⟨b9, 0, none⟩)) :: e) (Sub.both (Kn.sup ⟨(ib 2 _ rfl), trivial⟩)) ⟨im, Sub.fresh ib rfl, i0, i1, i2, i3, i4, i5, i6, i7, i8, i9, i10, i11, i12, i13, i14, i15, fun _ => rfl, i17, i18, i19, i20, i21, i22, i23, i24, i25, i26⟩
                      · rintro D e s220 ⟨im, ib, i0, i1, i2, i3, i4, i5, i6, i7, i8, i9, i10, i11, i12, i13, i14, i15, i16, i17, i18, i19, i20, i21, i22, i23, i24, i25, i26⟩ hk hf ha
                        obtain ⟨d16, -⟩ := ha
                        have g16_ := i16 d16
                        have bx9 := bx9.mv im (tgN (by decide))
                        refine L.kns [(155, .pointer (some ⟨b9, 0, none⟩))] ⟨g16_, trivial⟩ ?_
                        refine L.ld (j := 0) bx9.mem nag23 Wt.no rfl rfl rfl rfl ?_
                        refine L.nil ?_
                        refine X.dr (s := s220) (e' := (156, .slice a1 p0.1.length c1) :: e) (Sub.both (Kn.sup ⟨g16_, trivial⟩)) ⟨im, Sub.fresh ib rfl, i0, i1, i2, i3, i4, i5, i6, i7, i8, i9, i10, i11, i12, i13, i14, i15, i16, fun _ => rfl, i18, i19, i20, i21, i22, i23, i24, i25, i26⟩
                      · rintro D e s221 ⟨im, ib, i0, i1, i2, i3, i4, i5, i6, i7, i8, i9, i10, i11, i12, i13, i14, i15, i16, i17, i18, i19, i20, i21, i22, i23, i24, i25, i26⟩ hk hf ha
                        obtain ⟨d16, d17, -⟩ := ha
                        have g17_ := i17 d17
                        have h1 := h1.mono (im.le (tg0 hN))
                        refine L.kns [(156, .slice a1 p0.1.length c1)] ⟨g17_, trivial⟩ ?_
                        refine L.ca (vs := [.slice a1 p0.1.length c1]) cf44 rfl rfl Wt.no rfl (m_slices_Clone_int_c (s := s221) (p0 := p0.1) (u0 := (N + 8)) h1 er222) rfl ?_
                        rintro _ s223 m224 ⟨a225, c225, rfl, h225⟩
                        refine L.nil ?_
                        refine X.dr (s := s223) (e' := (157, .slice a225 r222.length c225) :: e) (Sub.both (Kn.sup ⟨g17_, trivial⟩)) ⟨im.trans m224.no, Sub.fresh ib rfl, i0, i1, i2, i3, i4, i5, i6, i7, i8, i9, i10, i11, i12, i13, i14, i15, i16, i17, fun _ => ⟨a225, c225, rfl, h225⟩, i19, fun z => let ⟨a231, c231, q, h231⟩ := i20 z; ⟨a231, c231, q, (h231.mv m224 no_No no_No)⟩, i21, i22, fun z => Bool.noConfusion ((hf 23 (Nat.le_of_ble_eq_true rfl) rfl).symm.trans z), i24, fun z2 => ((i25 z2).mv m224 no_No), fun z => Bool.noConfusion ((hf 24 (Nat.le_of_ble_eq_true rfl) rfl).symm.trans z)⟩
                      · rintro D e s226 ⟨im, ib, i0, i1, i2, i3, i4, i5, i6, i7, i8, i9, i10, i11, i12, i13, i14, i15, i16, i17, i18, i19, i20, i21, i22, i23, i24, i25, i26⟩ hk hf ha
                        refine L.kns [(1, .slice a4 p1.length c4)] ⟨(ib 1 _ rfl), trivial⟩ ?_
                        refine L.mv Wt.no rfl rfl ?_
                        refine L.nil ?_
                        refine X.dr (s := s226) (e' := (158, .slice a4 p1.length c4) :: e) (Sub.both (Kn.sup ⟨(ib 1 _ rfl), trivial⟩)) ⟨im, Sub.fresh ib rfl, i0, i1, i2, i3, i4, i5, i6, i7, i8, i9, i10, i11, i12, i13, i14, i15, i16, i17, i18, fun _ => rfl, i20, i21, i22, i23, i24, i25, i26⟩
                      · rintro D e s227 ⟨im, ib, i0, i1, i2, i3, i4, i5, i6, i7, i8, i9, i10, i11, i12, i13, i14, i15, i16, i17, i18, i19, i20, i21, i22, i23, i24, i25, i26⟩ hk hf ha
                        obtain ⟨d16, d17, d18, d19, -⟩ := ha
                        have g19_ := i19 d19
                        have h4 := h4.mono (im.le (tg0 hN))
                        refine L.kns [(158, .slice a4 p1.length c4)] ⟨g19_, trivial⟩ ?_
                        refine L.ca (vs := [.slice a4 p1.length c4]) cf44 rfl rfl Wt.no rfl (m_slices_Clone_int_c (s := s227) (p0 := p1) (u0 := (N + 9)) h4 er228) rfl ?_
                        rintro _ s229 m230 ⟨a231, c231, rfl, h231⟩
                        refine L.nil ?_
                        refine X.dr (s := s229) (e' := (159, .slice a231 r228.length c231) :: e) (Sub.both (Kn.sup ⟨g19_, trivial⟩)) ⟨im.trans m230.no, Sub.fresh ib rfl, i0, i1, i2, i3, i4, i5, i6, i7, i8, i9, i10, i11, i12, i13, i14, i15, i16, i17, fun z => let ⟨a225, c225, q, h225⟩ := i18 z; ⟨a225, c225, q, (h225.mv m230 no_No no_No)⟩, i19, fun _ => ⟨a231, c231, rfl, h231⟩, i21, i22, fun z => Bool.noConfusion ((hf 23 (Nat.le_of_ble_eq_true rfl) rfl).symm.trans z), i24, fun z2 => ((i25 z2).mv m230 no_No), fun z => Bool.noConfusion ((hf 24 (Nat.le_of_ble_eq_true rfl) rfl).symm.trans z)⟩
                      · rintro D e s232 ⟨im, ib, i0, i1, i2, i3, i4, i5, i6, i7, i8, i9, i10, i11, i12, i13, i14, i15, i16, i17, i18, i19, i20, i21, i22, i23, i24, i25, i26⟩ hk hf ha
                        refine L.kns [(2, .pointer (some ⟨b9, 0, none⟩))] ⟨(ib 2 _ rfl), trivial⟩ ?_
                        refine L.fa fa26_1 Wt.no rfl rfl ?_
                        refine L.nil ?_
                        refine X.dr (s := s232) (e' := (160, .pointer (some ⟨b9, 1, none⟩)) :: e) (Sub.both (Kn.sup ⟨(ib 2 _ rfl), trivial⟩)) ⟨im, Sub.fresh ib rfl, i0, i1, i2, i3, i4, i5, i6, i7, i8, i9, i10, i11, i12, i13, i14, i15, i16, i17, i18, i19, i20, fun _ => rfl, i22, i23, i24, i25, i26⟩
                      · rintro D e s233 ⟨im, ib, i0, i1, i2, i3, i4, i5, i6, i7, i8, i9, i10, i11, i12, i13, i14, i15, i16, i17, i18, i19, i20, i21, i22, i23, i24, i25, i26⟩ hk hf ha
                        obtain ⟨d21, -⟩ := ha
                        have g21_ := i21 d21
                        have bx9 := bx9.mv im (tgN (by decide))
                        refine L.kns [(160, .pointer (some ⟨b9, 1, none⟩))] ⟨g21_, trivial⟩ ?_
                        refine L.ld (j := 1) bx9.mem nag3 Wt.no rfl rfl rfl rfl ?_
                        refine L.nil ?_
                        refine X.dr (s := s233) (e' := (161, .int .i64 p0.2.1) :: e) (Sub.both (Kn.sup ⟨g21_, trivial⟩)) ⟨im, Sub.fresh ib rfl, i0, i1, i2, i3, i4, i5, i6, i7, i8, i9, i10, i11, i12, i13, i14, i15, i16, i17, i18, i19, i20, i21, fun _ => rfl, i23, i24, i25, i26⟩
                      · rintro D e s234 ⟨im, ib, i0, i1, i2, i3, i4, i5, i6, i7, i8, i9, i10, i11, i12, i13, i14, i15, i16, i17, i18, i19, i20, i21, i22, i23, i24, i25, i26⟩ hk hf ha
                        obtain ⟨d0, d1, d2, d3, d4, d5, d6, d7, d8, d9, d10, d11, d12, d13, d14, d15, d16, d17, d18, d19, d20, d21, d22, -⟩ := ha
                        have g15_ := i15 d15
                        obtain ⟨a225, c225, g18_, h225⟩ := i18 d18
                        obtain ⟨a231, c231, g20_, h231⟩ := i20 d20
                        have g22_ := i22 d22
                        refine L.kns [(154, .agg #[.int .i64 o187.2.1, .int .i64 o187.2.2, .int .i64 (x200.length : Int), .slice (some ⟨b195, 0, none⟩) x200.length x194.length, .slice a189 o187.1.length c189]), (157, .slice a225 r222.length c225), (159, .slice a231 r228.length c231), (161, .int .i64 p0.2.1)] ⟨g15_, g18_, g20_, g22_, trivial⟩ ?_
                        refine L.bu (cs := [.int .i64 o187.2.1, .int .i64 o187.2.2, .int .i64 (x200.length : Int), .slice (some ⟨b195, 0, none⟩) x200.length x194.length, .slice a189 o187.1.length c189, .slice a225 r222.length c225, .slice a231 r228.length c231, .int .i64 p0.2.1]) pl34 Wt.no rfl rfl rfl ?_
                        refine L.nil ?_
                        refine X.dr (s := s234) (e' := (162, .agg #[.int .i64 o187.2.1, .int .i64 o187.2.2, .int .i64 (x200.length : Int), .slice (some ⟨b195, 0, none⟩) x200.length x194.length, .slice a189 o187.1.length c189, .slice a225 r222.length c225, .slice a231 r228.length c231, .int .i64 p0.2.1]) :: e) (Sub.both (Kn.sup ⟨g15_, g18_, g20_, g22_, trivial⟩)) ⟨im, Sub.fresh ib rfl, i0, i1, i2, i3, i4, i5, i6, i7, i8, i9, i10, i11, i12, i13, i14, i15, i16, i17, i18, i19, i20, i21, i22, fun _ _ _ _ _ q18 q20 => by cases g18_.symm.trans q18; cases g20_.symm.trans q20; exact rfl, i24, i25, i26⟩
                      · rintro D e s235 ⟨im, ib, i0, i1, i2, i3, i4, i5, i6, i7, i8, i9, i10, i11, i12, i13, i14, i15, i16, i17, i18, i19, i20, i21, i22, i23, i24, i25, i26⟩ hk hf ha
                        obtain ⟨d0, d1, d2, d3, d4, d5, d6, d7, d8, d9, d10, d11, d12, d13, d14, d15, d16, d17, d18, d19, d20, d21, d22, d23, -⟩ := ha
                        obtain ⟨a225, c225, g18_, h225⟩ := i18 d18
                        obtain ⟨a231, c231, g20_, h231⟩ := i20 d20
                        have g23_ := i23 d23 a225 c225 a231 c231 g18_ g20_
                        obtain bx12 := i25 hk
                        refine L.kns [(4, .pointer (some ⟨b12, 0, none⟩)), (162, .agg #[.int .i64 o187.2.1, .int .i64 o187.2.2, .int .i64 (x200.length : Int), .slice (some ⟨b195, 0, none⟩) x200.length x194.length, .slice a189 o187.1.length c189, .slice a225 r222.length c225, .slice a231 r228.length c231, .int .i64 p0.2.1])] ⟨(ib 4 _ rfl), g23_, trivial⟩ ?_
                        refine L.st (c := [.int .i64 o187.2.1, .int .i64 o187.2.2, .int .i64 (x200.length : Int), .slice (some ⟨b195, 0, none⟩) x200.length x194.length, .slice a189 o187.1.length c189, .slice a225 r222.length c225, .slice a231 r228.length c231, .int .i64 p0.2.1]) (cs' := #[.int .i64 o187.2.1, .int .i64 o187.2.2, .int .i64 (x200.length : Int), .slice (some ⟨b195, 0, none⟩) x200.length x194.length, .slice a189 o187.1.length c189, .slice a225 r222.length c225, .slice a231 r228.length c231, .int .i64 p0.2.1]) bx12 ag34.sz Wt.no rfl rfl rfl rfl rfl (Nat.le_of_ble_eq_true rfl) rfl ?_
                        intro s236 m237 bx12
                        refine L.nil ?_
                        refine X.dr (s := s236) (e' := e) (Kn.sup ⟨(ib 4 _ rfl), g23_, trivial⟩) ⟨im.trans (m237.one rfl), ib, i0, i1, i2, i3, i4, i5, i6, i7, i8, i9, i10, i11, i12, i13, i14, i15, i16, i17, fun z => let ⟨a225, c225, q, h225⟩ := i18 z; ⟨a225, c225, q, (h225.mv m237 (tgN (by decide)) (tg0 hN))⟩, i19, fun z => let ⟨a231, c231, q, h231⟩ := i20 z; ⟨a231, c231, q, (h231.mv m237 (tgN (by decide)) (tg0 hN))⟩, i21, i22, i23, i24, fun z => Bool.noConfusion (show true = false from z), fun _ _ _ _ _ q18 q20 => by cases g18_.symm.trans q18; cases g20_.symm.trans q20; exact bx12⟩
                      · rintro D e s238 ⟨im, ib, i0, i1, i2, i3, i4, i5, i6, i7, i8, i9, i10, i11, i12, i13, i14, i15, i16, i17, i18, i19, i20, i21, i22, i23, i24, i25, i26⟩ hk hf ha
                        obtain ⟨d0, d1, d2, d3, d4, d5, d6, d7, d8, d9, d10, d11, d12, d13, d14, d15, d16, d17, d18, d19, d20, d21, d22, d23, d24, -⟩ := ha
                        refine L.as Wt.no rfl rfl ?_
                        refine L.nil ?_
                        refine X.dr (s := s238) (e' := (5, .int .i64 0) :: e) (Sub.both (Sub.refl)) ⟨im, Sub.fresh ib rfl, i0, i1, i2, i3, i4, i5, i6, i7, i8, i9, i10, i11, i12, i13, i14, i15, i16, i17, i18, i19, i20, i21, i22, i23, fun _ => rfl, i25, i26⟩
                    · rintro D e s239 hD ⟨im, ib, i0, i1, i2, i3, i4, i5, i6, i7, i8, i9, i10, i11, i12, i13, i14, i15, i16, i17, i18, i19, i20, i21, i22, i23, i24, i25, i26⟩
                      obtain ⟨a225, c225, g18_, h225⟩ := i18 (hD 18 rfl)
                      obtain ⟨a231, c231, g20_, h231⟩ := i20 (hD 20 rfl)
                      have g25_ := i24 (hD 25 rfl)
                      obtain bx12 := i26 (hD 24 rfl) a225 c225 a231 c231 g18_ g20_
                      have h195 := h195.mv im (tgN (by decide)) (tg0 hN)
                      have h189 := h189.mv im (tgN (by decide)) (tg0 hN)
                      have m0 := m0.trans (im.one up)
                      refine X.sub (e' := [(5, .int .i64 0), (4, .pointer (some ⟨b12, 0, none⟩))]) ?_ (Sub.cons g25_ (Sub.cons (ib 4 _ rfl) Sub.nil))
                      refine X.seqN ?_
                      refine E.ret ?_
                      obtain rfl := Option.some.inj hm
                      exact X.rt (.inl rfl) Try.results12 (Rs.cell rfl bx12 ag34 rfl (Rs.tmp rfl Rs.nil)) rfl ⟨_, (s239).ren N (fun k => cond (Nat.beq k 9) u3 (cond (Nat.beq k 8) u2 (cond (Nat.beq k 7) u0 (cond (Nat.beq k 6) u1 (0))))), rfl, rfl, m0.ren hNb, ⟨(some ⟨b195, 0, none⟩), x194.length, a189, c189, a225, c225, a231, c231, rfl, (h195.ren hN), (h189.ren hN), (h225.ren hN), (h231.ren hN)⟩⟩
                  intro K240
                  refine E.iter (fun (st187 : Int × (List (Int × Int)) × Int × Int) (e : List (Nat × Value)) (w : World) => ∃ (s192 : Sig) (a159 : Option Addr) (c159 : Nat), Mv (Up N No) s s192 ∧ RdL (rK .i64) s192 a4 c4 p1 ∧ MapR (rL (rK .i64)) s192 b41 o106.1 ∧ RdL (rK .i64) s192 a1 c1 p0.1 ∧ RdL (rK .i64) s192 a2 c2 p0.2.2.1 ∧ RdL (rP (rK .i64) (rP (rK .i64) (rK .i64))) s192 a3 c3 p0.2.2.2 ∧ RowT (rP (rK .i64) (rK .i64)) s192 (N + 6) 119 a159 c159 st187.2.1 ∧ Bx s192 (N + 0) b9 #[.slice a1 p0.1.length c1, .int .i64 p0.2.1, .slice a2 p0.2.2.1.length c2, .slice a3 p0.2.2.2.length c3] 26 ∧ Bx s192 (N + 1) b12 #[.int .i64 0, .int .i64 0, .int .i64 0, .slice none 0 0, .slice none 0 0, .slice none 0 0, .slice none 0 0, .int .i64 0] 34 ∧ Bx s192 (N + 2) b35 #[.slice a159 st187.2.1.length c159, .int .i64 st187.2.2.1, .int .i64 st187.2.2.2] 90 ∧ e = [(119, .int .i64 st187.1), (118, .int .i64 (p1.length : Int)), (117, .slice a4 p1.length c4), (10, .map (some b41)), (8, .pointer (some ⟨b35, 0, none⟩)), (4, .pointer (some ⟨b12, 0, none⟩)), (2, .pointer (some ⟨b9, 0, none⟩)), (1, .slice a4 p1.length c4)] ∧ w = s192.w) eo187 ⟨s156, a152, c152, m0, h4, mp41, h1, h2, h3, h152, bx9, bx12, bx35, rfl, rfl⟩ (Sub.cons rfl (Sub.cons rfl (Sub.cons rfl (Sub.cons rfl (Sub.cons rfl (Sub.cons rfl (Sub.cons rfl (Sub.cons rfl Sub.nil)))))))) ?_
                  rintro st187 res187 hm ih187 ho187 _ _ ⟨s192, a159, c159, m0, h4, mp41, h1, h2, h3, h159, bx9, bx12, bx35, rfl, rfl⟩
                  unfold m_generate_Generate_l3 at hm
                  refine E.seq ?_
                  refine E.reg ?_
                  refine L.bi Wt.no rfl rfl rfl rfl ?_
                  refine L.nil ?_
                  refine X.seqN ?_
                  refine E.seq ?_
                  rcases ifS hm with ⟨hc, hm⟩ | ⟨hc, hm⟩
                  · refine E.cT rfl hc ?_
                    refine E.skip ?_
                    refine X.seqN ?_
                    refine E.seq ?_
                    refine E.block ?_
                    refine E.seq ?_
                    refine E.reg ?_
                    refine L.mv Wt.no rfl rfl ?_
                    obtain ⟨x241, ex241, hm⟩ := bindS hm
                    refine L.ix (r := (rK .i64)) sl23 h4 Wt.no rfl rfl ex241 rfl ?_
                    rintro b242 o242 cc242 me242 rd242
                    obtain rfl := rd242
                    refine L.ld (j := 0) me242 nag3 Wt.no rfl rfl rfl rfl ?_
                    refine L.as Wt.no rfl rfl ?_
                    refine L.as Wt.no rfl rfl ?_
                    refine L.nil ?_
                    refine X.seqN ?_
                    obtain ⟨r247, er247, hm⟩ := bindS hm
                    obtain ⟨r255, er255, hm⟩ := bindS hm
                    refine E.draw [[], [], [], [1, 2], [], [], [4, 5], [0, 1, 2, 3, 4, 5, 6]] (fun D e sx => Mv (fun t => t = (N + 2) ∨ t = (N + 6)) s192 sx ∧ Sub [(16, .int .i64 x241), (15, .int .i64 st187.1), (119, .int .i64 st187.1), (118, .int .i64 (p1.length : Int)), (117, .slice a4 p1.length c4), (10, .map (some b41)), (8, .pointer (some ⟨b35, 0, none⟩)), (4, .pointer (some ⟨b12, 0, none⟩)), (2, .pointer (some ⟨b9, 0, none⟩)), (1, .slice a4 p1.length c4)] e ∧ (D 0 = true → (Env.get e 124 = some (.pointer (some ⟨b35, 0, none⟩)))) ∧ (D 1 = true → (Env.get e 125 = some (.pointer (some ⟨b35, 0, none⟩)))) ∧ (D 2 = true → (Env.get e 126 = some (.int .i64 st187.1))) ∧ (D 3 = true → (Env.get e 127 = some (.int .i64 r247))) ∧ (D 4 = true → (Env.get e 128 = some (.map (some b41)))) ∧ (D 5 = true → (Env.get e 129 = some (.int .i64 x241))) ∧ (D 6 = true → (∃ (a253 : Option Addr) (c253 : Nat), Env.get e 130 = some (.slice a253 (mgetD [] o106.1 x241).length c253) ∧ RdL (rK .i64) sx a253 c253 (mgetD [] o106.1 x241))) ∧ (D 7 = true → (Env.get e 131 = some (.tuple #[]))) ∧ (D 7 = false → Bx sx (N + 2) b35 #[.slice a159 st187.2.1.length c159, .int .i64 st187.2.2.1, .int .i64 st187.2.2.2] 90 ∧ RowT (rP (rK .i64) (rK .i64)) sx (N + 6) 119 a159 c159 st187.2.1) ∧ (D 7 = true → (∃ (a258 : Option Addr) (c258 : Nat), Bx sx (N + 2) b35 #[.slice a258 r255.1.length c258, .int .i64 r255.2.1, .int .i64 r255.2.2] 90 ∧ RowT (rP (rK .i64) (rK .i64)) sx (N + 6) 119 a258 c258 r255.1))) (by kernel_rfl) (by kernel_rfl) (by kernel_rfl) ?_ ?_ ?_
                    · intro sz mz
                      exact ⟨mz.no, (Sub.cons rfl (Sub.cons rfl (Sub.cons rfl (Sub.cons rfl (Sub.cons rfl (Sub.cons rfl (Sub.cons rfl (Sub.cons rfl (Sub.cons rfl (Sub.cons rfl Sub.nil)))))))))), nofun, nofun, nofun, nofun, nofun, nofun, nofun, nofun, fun _ => ⟨bx35.mv mz no_No, h159.mv mz no_No no_No⟩, nofun⟩
                    · refine ⟨?_, ?_, ?_, ?_, ?_, ?_, ?_, ?_, trivial⟩
                      · rintro D e s243 ⟨im, ib, i0, i1, i2, i3, i4, i5, i6, i7, i8, i9⟩ hk hf ha
                        refine L.kns [(8, .pointer (some ⟨b35, 0, none⟩))] ⟨(ib 8 _ rfl), trivial⟩ ?_
                        refine L.mv Wt.no rfl rfl ?_
                        refine L.nil ?_
                        refine X.dr (s := s243) (e' := (124, .pointer (some ⟨b35, 0, none⟩)) :: e) (Sub.both (Kn.sup ⟨(ib 8 _ rfl), trivial⟩)) ⟨im, Sub.fresh ib rfl, fun _ => rfl, i1, i2, i3, i4, i5, i6, i7, i8, i9⟩
                      · rintro D e s244 ⟨im, ib, i0, i1, i2, i3, i4, i5, i6, i7, i8, i9⟩ hk hf ha
                        refine L.kns [(8, .pointer (some ⟨b35, 0, none⟩))] ⟨(ib 8 _ rfl), trivial⟩ ?_
                        refine L.mv Wt.no rfl rfl ?_
                        refine L.nil ?_
                        refine X.dr (s := s244) (e' := (125, .pointer (some ⟨b35, 0, none⟩)) :: e) (Sub.both (Kn.sup ⟨(ib 8 _ rfl), trivial⟩)) ⟨im, Sub.fresh ib rfl, i0, fun _ => rfl, i2, i3, i4, i5, i6, i7, i8, i9⟩
                      · rintro D e s245 ⟨im, ib, i0, i1, i2, i3, i4, i5, i6, i7, i8, i9⟩ hk hf ha
                        refine L.kns [(15, .int .i64 st187.1)] ⟨(ib 15 _ rfl), trivial⟩ ?_
                        refine L.mv Wt.no rfl rfl ?_
                        refine L.nil ?_
                        refine X.dr (s := s245) (e' := (126, .int .i64 st187.1) :: e) (Sub.both (Kn.sup ⟨(ib 15 _ rfl), trivial⟩)) ⟨im, Sub.fresh ib rfl, i0, i1, fun _ => rfl, i3, i4, i5, i6, i7, i8, i9⟩
                      · rintro D e s246 ⟨im, ib, i0, i1, i2, i3, i4, i5, i6, i7, i8, i9⟩ hk hf ha
                        obtain ⟨d1, d2, -⟩ := ha
                        have g1_ := i1 d1
                        have g2_ := i2 d2
                        obtain ⟨bx35, h159⟩ := i8 (hf 7 (Nat.le_of_ble_eq_true rfl) rfl)
                        refine L.kns [(125, .pointer (some ⟨b35, 0, none⟩)), (126, .int .i64 st187.1)] ⟨g1_, g2_, trivial⟩ ?_
                        refine L.ca (vs := [.pointer (some ⟨b35, 0, none⟩), .int .i64 st187.1]) cf42 rfl rfl Wt.no rfl (Calls.lendG (s0 := (Sig.drop N s246)) (s := s246) rfl (m_generate_assembler_output_c (s := (Sig.drop N s246)) (p0 := st187.2) (p1 := st187.1) (t0 := 0) (h159.drop (Nat.le_add_right _ _)) bx35.drop er247) (fun v s' h => h)) rfl ?_
                        rintro _ s248 m249 rfl
                        refine L.nil ?_
                        refine X.dr (s := s248) (e' := (127, .int .i64 r247) :: e) (Sub.both (Kn.sup ⟨g1_, g2_, trivial⟩)) ⟨im.trans m249.no, Sub.fresh ib rfl, i0, i1, i2, fun _ => rfl, i4, i5, fun z => let ⟨a253, c253, q, h253⟩ := i6 z; ⟨a253, c253, q, (h253.mono (m249.le no_No))⟩, i7, fun z2 => let ⟨bx35, h159⟩ := i8 z2; ⟨(bx35.mv m249 no_No), (h159.mv m249 no_No no_No)⟩, fun z => let ⟨a258, c258, bx35, h258⟩ := i9 z; ⟨a258, c258, (bx35.mv m249 no_No), (h258.mv m249 no_No no_No)⟩⟩
                      · rintro D e s250 ⟨im, ib, i0, i1, i2, i3, i4, i5, i6, i7, i8, i9⟩ hk hf ha
                        refine L.kns [(10, .map (some b41))] ⟨(ib 10 _ rfl), trivial⟩ ?_
                        refine L.mv Wt.no rfl rfl ?_
                        refine L.nil ?_
                        refine X.dr (s := s250) (e' := (128, .map (some b41)) :: e) (Sub.both (Kn.sup ⟨(ib 10 _ rfl), trivial⟩)) ⟨im, Sub.fresh ib rfl, i0, i1, i2, i3, fun _ => rfl, i5, i6, i7, i8, i9⟩
                      · rintro D e s251 ⟨im, ib, i0, i1, i2, i3, i4, i5, i6, i7, i8, i9⟩ hk hf ha
                        refine L.kns [(16, .int .i64 x241)] ⟨(ib 16 _ rfl), trivial⟩ ?_
                        refine L.mv Wt.no rfl rfl ?_
                        refine L.nil ?_
                        refine X.dr (s := s251) (e' := (129, .int .i64 x241) :: e) (Sub.both (Kn.sup ⟨(ib 16 _ rfl), trivial⟩)) ⟨im, Sub.fresh ib rfl, i0, i1, i2, i3, i4, fun _ => rfl, i6, i7, i8, i9⟩
                      · rintro D e s252 ⟨im, ib, i0, i1, i2, i3, i4, i5, i6, i7, i8, i9⟩ hk hf ha
                        obtain ⟨d4, d5, -⟩ := ha
                        have g4_ := i4 d4
                        have g5_ := i5 d5
                        have mp41 := mp41.mono (im.le (nor (tg0 hN) (tg0 hN)))
                        refine L.kns [(128, .map (some b41)), (129, .int .i64 x241)] ⟨g4_, g5_, trivial⟩ ?_
                        refine L.mlr (r := (rK .i64)) mpt92 mp41 Wt.no rfl rfl rfl ?_
                        intro a253 c253 h253
                        refine L.nil ?_
                        refine X.dr (s := s252) (e' := (130, .slice a253 (mgetD [] o106.1 x241).length c253) :: e) (Sub.both (Kn.sup ⟨g4_, g5_, trivial⟩)) ⟨im, Sub.fresh ib rfl, i0, i1, i2, i3, i4, i5, fun _ => ⟨a253, c253, rfl, h253⟩, i7, i8, i9⟩
                      · rintro D e s254 ⟨im, ib, i0, i1, i2, i3, i4, i5, i6, i7, i8, i9⟩ hk hf ha
                        obtain ⟨d0, d1, d2, d3, d4, d5, d6, -⟩ := ha
                        have g0_ := i0 d0
                        have g3_ := i3 d3
                        obtain ⟨a253, c253, g6_, h253⟩ := i6 d6
                        obtain ⟨bx35, h159⟩ := i8 hk
                        refine L.kns [(124, .pointer (some ⟨b35, 0, none⟩)), (127, .int .i64 r247), (130, .slice a253 (mgetD [] o106.1 x241).length c253)] ⟨g0_, g3_, g6_, trivial⟩ ?_
                        refine L.ca (vs := [.pointer (some ⟨b35, 0, none⟩), .int .i64 r247, .slice a253 (mgetD [] o106.1 x241).length c253]) cf43 rfl rfl Wt.no rfl (m_generate_assembler_command_c (s := s254) (p0 := st187.2) (p1 := r247) (p2 := (mgetD [] o106.1 x241)) (t0 := (N + 2)) (t0_0 := (N + 6)) (tne (by decide)) (tne (by decide)) (tpos hN) (tpos hN) h159 bx35 h253 er255) rfl ?_
                        rintro _ s256 m257 ⟨a258, c258, rfl, bx35, h258⟩
                        refine L.nil ?_
                        refine X.dr (s := s256) (e' := (131, .tuple #[]) :: e) (Sub.both (Kn.sup ⟨g0_, g3_, g6_, trivial⟩)) ⟨im.trans (m257.weak fun _ e => by rcases e with e | e; (rw [e]; exact (.inl rfl)); (rw [e]; exact (.inr rfl))), Sub.fresh ib rfl, i0, i1, i2, i3, i4, i5, fun z => let ⟨a253, c253, q, h253⟩ := i6 z; ⟨a253, c253, q, (h253.mono (m257.le (nor (tg0 hN) (tg0 hN))))⟩, fun _ => rfl, fun z => Bool.noConfusion (show true = false from z), fun _ => by exact ⟨a258, c258, bx35, h258⟩⟩
                    · rintro D e s260 hD ⟨im, ib, i0, i1, i2, i3, i4, i5, i6, i7, i8, i9⟩
                      obtain ⟨a258, c258, bx35, h258⟩ := i9 (hD 7 rfl)
                      have h4 := h4.mono (im.le (nor (tg0 hN) (tg0 hN)))
                      have mp41 := mp41.mono (im.le (nor (tg0 hN) (tg0 hN)))
                      have bx12 := bx12.mv im (nor (tgN (by decide)) (tgN (by decide)))
                      have bx9 := bx9.mv im (nor (tgN (by decide)) (tgN (by decide)))
                      have h1 := h1.mono (im.le (nor (tg0 hN) (tg0 hN)))
                      have h2 := h2.mono (im.le (nor (tg0 hN) (tg0 hN)))
                      have h3 := h3.mono (im.le (nor (tg0 hN) (tg0 hN)))
                      have m0 := m0.trans (im.weak fun _ e => by rcases e with e | e; (rw [e]; exact up); (rw [e]; exact up))
                      refine X.sub (e' := [(119, .int .i64 st187.1), (118, .int .i64 (p1.length : Int)), (117, .slice a4 p1.length c4), (10, .map (some b41)), (8, .pointer (some ⟨b35, 0, none⟩)), (4, .pointer (some ⟨b12, 0, none⟩)), (2, .pointer (some ⟨b9, 0, none⟩)), (1, .slice a4 p1.length c4)]) ?_ (Sub.cons (ib 119 _ rfl) (Sub.cons (ib 118 _ rfl) (Sub.cons (ib 117 _ rfl) (Sub.cons (ib 10 _ rfl) (Sub.cons (ib 8 _ rfl) (Sub.cons (ib 4 _ rfl) (Sub.cons (ib 2 _ rfl) (Sub.cons (ib 1 _ rfl) Sub.nil))))))))
                      refine X.blkN ?_
                      refine X.seqN ?_
                      refine E.reg ?_
                      refine L.bi Wt.no rfl rfl rfl rfl ?_
                      refine L.mv Wt.no rfl rfl ?_
                      refine L.nil ?_
                      exact X.sub (ih187 _ (Option.some.inj hm).symm _ _ ⟨s260, a258, c258, m0, h4, mp41, h1, h2, h3, h258, bx9, bx12, bx35, rfl, rfl⟩) (Sub.cons rfl (Sub.cons rfl (Sub.cons rfl (Sub.cons rfl (Sub.cons rfl (Sub.cons rfl (Sub.cons rfl (Sub.cons rfl Sub.nil))))))))
                  · refine E.cF rfl hc ?_
                    refine E.exit ?_
                    refine X.seqX ?_
                    refine X.seqX ?_
                    have hx := ho187 _ (Option.some.inj hm).symm
                    subst hx
                    exact X.sub (K240 _ _ ⟨s192, a159, c159, m0, h4, h1, h2, h3, h159, bx9, bx12, bx35, rfl, rfl⟩) (Sub.cons rfl (Sub.cons rfl (Sub.cons rfl (Sub.cons rfl Sub.nil))))
                intro K261
                have m291 := Sig.fzP_mv (pF N [3, 4]) s110
                replace mp41 := mp41.fz (p := (pF N [3, 4])) (pF_0 hN) (pF_k rfl) (fun _ => pF_f)
                replace mp38 := mp38.fz (p := (pF N [3, 4])) (pF_0 hN) (pF_k rfl) (fun _ => pF_f)
                replace m0 := m0.trans (m291.weak fun _ e => pF_up e)
                replace h1 := h1.mono (m291.le (pF_n0 hN))
                replace h4 := h4.mono (m291.le (pF_n0 hN))
                replace bx35 := bx35.mv m291 (pF_no (by decide))
                replace bx12 := bx12.mv m291 (pF_no (by decide))
                replace bx9 := bx9.mv m291 (pF_no (by decide))
                replace h2 := h2.mono (m291.le (pF_n0 hN))
                replace h3 := h3.mono (m291.le (pF_n0 hN))
                refine E.iter (fun (st150 : Int × (List (Int × Int)) × Int × Int) (e : List (Nat × Value)) (w : World) => ∃ (s155 : Sig) (a113 : Option Addr) (c113 : Nat), Mv (Up N No) s s155 ∧ RdL (rK .i64) s155 a1 c1 p0.1 ∧ MapR (rL (rK .i64)) s155 b41 o106.1 ∧ MapR (rL (rP (rK .i64) (rP (rK .i64) (rK .i64)))) s155 b38 o106.2 ∧ RdL (rK .i64) s155 a4 c4 p1 ∧ RdL (rK .i64) s155 a2 c2 p0.2.2.1 ∧ RdL (rP (rK .i64) (rP (rK .i64) (rK .i64))) s155 a3 c3 p0.2.2.2 ∧ RowT (rP (rK .i64) (rK .i64)) s155 (N + 6) 119 a113 c113 st150.2.1 ∧ Bx s155 (N + 0) b9 #[.slice a1 p0.1.length c1, .int .i64 p0.2.1, .slice a2 p0.2.2.1.length c2, .slice a3 p0.2.2.2.length c3] 26 ∧ Bx s155 (N + 1) b12 #[.int .i64 0, .int .i64 0, .int .i64 0, .slice none 0 0, .slice none 0 0, .slice none 0 0, .slice none 0 0, .int .i64 0] 34 ∧ Bx s155 (N + 2) b35 #[.slice a113 st150.2.1.length c113, .int .i64 st150.2.2.1, .int .i64 st150.2.2.2] 90 ∧ e = [(97, .int .i64 st150.1), (96, .int .i64 (p0.1.length : Int)), (95, .slice a1 p0.1.length c1), (10, .map (some b41)), (9, .map (some b38)), (8, .pointer (some ⟨b35, 0, none⟩)), (4, .pointer (some ⟨b12, 0, none⟩)), (2, .pointer (some ⟨b9, 0, none⟩)), (1, .slice a4 p1.length c4)] ∧ w = s155.w) eo150 ⟨(Sig.fzP (pF N [3, 4]) s110), none, 0, m0, h1, mp41, mp38, h4, h2, h3, RowT.nil, bx9, bx12, bx35, rfl, rfl⟩ (Sub.cons rfl (Sub.cons rfl (Sub.cons rfl (Sub.cons rfl (Sub.cons rfl (Sub.cons rfl (Sub.cons rfl (Sub.cons rfl (Sub.cons rfl Sub.nil))))))))) ?_
                rintro st150 res150 hm ih150 ho150 _ _ ⟨s155, a113, c113, m0, h1, mp41, mp38, h4, h2, h3, h113, bx9, bx12, bx35, rfl, rfl⟩
                unfold m_generate_Generate_l2 at hm
                refine E.seq ?_
                refine E.reg ?_
                refine L.bi Wt.no rfl rfl rfl rfl ?_
                refine L.nil ?_
                refine X.seqN ?_
                refine E.seq ?_
                rcases ifS hm with ⟨hc, hm⟩ | ⟨hc, hm⟩
                · refine E.cT rfl hc ?_
                  refine E.skip ?_
                  refine X.seqN ?_
                  refine E.seq ?_
                  refine E.block ?_
                  refine E.seq ?_
                  refine E.reg ?_
                  refine L.mv Wt.no rfl rfl ?_
                  obtain ⟨x262, ex262, hm⟩ := bindS hm
                  refine L.ix (r := (rK .i64)) sl23 h1 Wt.no rfl rfl ex262 rfl ?_
                  rintro b263 o263 cc263 me263 rd263
                  obtain rfl := rd263
                  refine L.ld (j := 0) me263 nag3 Wt.no rfl rfl rfl rfl ?_
                  refine L.as Wt.no rfl rfl ?_
                  refine L.as Wt.no rfl rfl ?_
                  refine L.nil ?_
                  refine X.seqN ?_
                  obtain ⟨r270, er270, hm⟩ := bindS hm
                  obtain ⟨r277, er277, hm⟩ := bindS hm
                  obtain ⟨r285, er285, hm⟩ := bindS hm
                  refine E.draw [[], [], [], [], [3], [2, 3, 4], [], [], [7], [2, 3, 4, 5, 6, 7, 8], [], [], [10, 11], [0, 1, 2, 3, 4, 5, 6, 7, 8, 9, 10, 11, 12]] (fun D e sx => Mv (fun t => t = (N + 2) ∨ t = (N + 6)) s155 sx ∧ Sub [(14, .int .i64 x262), (13, .int .i64 st150.1), (97, .int .i64 st150.1), (96, .int .i64 (p0.1.length : Int)), (95, .slice a1 p0.1.length c1), (10, .map (some b41)), (9, .map (some b38)), (8, .pointer (some ⟨b35, 0, none⟩)), (4, .pointer (some ⟨b12, 0, none⟩)), (2, .pointer (some ⟨b9, 0, none⟩)), (1, .slice a4 p1.length c4)] e ∧ (D 0 = true → (Env.get e 102 = some (.pointer (some ⟨b35, 0, none⟩)))) ∧ (D 1 = true → (Env.get e 103 = some (.int .i64 st150.1))) ∧ (D 2 = true → (Env.get e 104 = some (.pointer (some ⟨b35, 0, none⟩)))) ∧ (D 3 = true → (Env.get e 105 = some (.pointer (some ⟨b9, 1, none⟩)))) ∧ (D 4 = true → (Env.get e 106 = some (.int .i64 p0.2.1))) ∧ (D 5 = true → (Env.get e 107 = some (.int .i64 r270))) ∧ (D 6 = true → (Env.get e 108 = some (.pointer (some ⟨b35, 0, none⟩)))) ∧ (D 7 = true → (Env.get e 109 = some (.slice a4 p1.length c4))) ∧ (D 8 = true → (Env.get e 110 = some (.int .i64 (p1.length : Int)))) ∧ (D 9 = true → (Env.get e 111 = some (.int .i64 r277))) ∧ (D 10 = true → (Env.get e 112 = some (.map (some b38)))) ∧ (D 11 = true → (Env.get e 113 = some (.int .i64 x262))) ∧ (D 12 = true → (∃ (a283 : Option Addr) (c283 : Nat), Env.get e 114 = some (.slice a283 (mgetD [] o106.2 x262).length c283) ∧ RdL (rP (rK .i64) (rP (rK .i64) (rK .i64))) sx a283 c283 (mgetD [] o106.2 x262))) ∧ (D 13 = true → (Env.get e 115 = some (.tuple #[]))) ∧ (D 13 = false → Bx sx (N + 2) b35 #[.slice a113 st150.2.1.length c113, .int .i64 st150.2.2.1, .int .i64 st150.2.2.2] 90 ∧ RowT (rP (rK .i64) (rK .i64)) sx (N + 6) 119 a113 c113 st150.2.1) ∧ (D 13 = true → (∃ (a288 : Option Addr) (c288 : Nat), Bx sx (N + 2) b35 #[.slice a288 r285.1.length c288, .int .i64 r285.2.1, .int .i64 r285.2.2] 90 ∧ RowT (rP (rK .i64) (rK .i64)) sx (N + 6) 119 a288 c288 r285.1))) (by kernel_rfl) (by kernel_rfl) (by kernel_rfl) ?_ ?_ ?_
                  · intro sz mz
                    exact ⟨mz.no, (Sub.cons rfl (Sub.cons rfl (Sub.cons rfl (Sub.cons rfl (Sub.cons rfl (Sub.cons rfl (Sub.cons rfl (Sub.cons rfl (Sub.cons rfl (Sub.cons rfl (Sub.cons rfl Sub.nil))))))))))), nofun, nofun, nofun, nofun, nofun, nofun, nofun, nofun, nofun, nofun, nofun, nofun, nofun, nofun, fun _ => ⟨bx35.mv mz no_No, h113.mv mz no_No no_No⟩, nofun⟩
                  · refine ⟨?_, ?_, ?_, ?_, ?_, ?_, ?_, ?_, ?_, ?_, ?_, ?_, ?_, ?_, trivial⟩
                    · rintro D e s264 ⟨im, ib, i0, i1, i2, i3, i4, i5, i6, i7, i8, i9, i10, i11, i12, i13, i14, i15⟩ hk hf ha
                      refine L.kns [(8, .pointer (some ⟨b35, 0, none⟩))] ⟨(ib 8 _ rfl), trivial⟩ ?_
                      refine L.mv Wt.no rfl rfl ?_
                      refine L.nil ?_
                      refine X.dr (s := s264) (e' := (102, .pointer (some ⟨b35, 0, none⟩)) :: e) (Sub.both (Kn.sup ⟨(ib 8 _ rfl), trivial⟩)) ⟨im, Sub.fresh ib rfl, fun _ => rfl, i1, i2, i3, i4, i5, i6, i7, i8, i9, i10, i11, i12, i13, i14, i15⟩
                    · rintro D e s265 ⟨im, ib, i0, i1, i2, i3, i4, i5, i6, i7, i8, i9, i10, i11, i12, i13, i14, i15⟩ hk hf ha
                      refine L.kns [(13, .int .i64 st150.1)] ⟨(ib 13 _ rfl), trivial⟩ ?_
                      refine L.mv Wt.no rfl rfl ?_
                      refine L.nil ?_
                      refine X.dr (s := s265) (e' := (103, .int .i64 st150.1) :: e) (Sub.both (Kn.sup ⟨(ib 13 _ rfl), trivial⟩)) ⟨im, Sub.fresh ib rfl, i0, fun _ => rfl, i2, i3, i4, i5, i6, i7, i8, i9, i10, i11, i12, i13, i14, i15⟩
                    · rintro D e s266 ⟨im, ib, i0, i1, i2, i3, i4, i5, i6, i7, i8, i9, i10, i11, i12, i13, i14, i15⟩ hk hf ha
                      refine L.kns [(8, .pointer (some ⟨b35, 0, none⟩))] ⟨(ib 8 _ rfl), trivial⟩ ?_
                      refine L.mv Wt.no rfl rfl ?_
                      refine L.nil ?_
                      refine X.dr (s := s266) (e' := (104, .pointer (some ⟨b35, 0, none⟩)) :: e) (Sub.both (Kn.sup ⟨(ib 8 _ rfl), trivial⟩)) ⟨im, Sub.fresh ib rfl, i0, i1, fun _ => rfl, i3, i4, i5, i6, i7, i8, i9, i10, i11, i12, i13, i14, i15⟩
                    · rintro D e s267 ⟨im, ib, i0, i1, i2, i3, i4, i5, i6, i7, i8, i9, i10, i11, i12, i13, i14, i15⟩ hk hf ha
                      refine L.kns [(2, .pointer (some ⟨b9, 0, none⟩))] ⟨(ib 2 _ rfl), trivial⟩ ?_
                      refine L.fa fa26_1 Wt.no rfl rfl ?_
                      refine L.nil ?_
                      refine X.dr (s := s267) (e' := (105, .pointer (some ⟨b9, 1, none⟩)) :: e) (Sub.both (Kn.sup ⟨(ib 2 _ rfl), trivial⟩)) ⟨im, Sub.fresh ib rfl, i0, i1, i2, fun _ => rfl, i4, i5, i6, i7, i8, i9, i10, i11, i12, i13, i14, i15⟩
                    · rintro D e s268 ⟨im, ib, i0, i1, i2, i3, i4, i5, i6, i7, i8, i9, i10, i11, i12, i13, i14, i15⟩ hk hf ha
                      obtain ⟨d3, -⟩ := ha
                      have g3_ := i3 d3
                      have bx9 := bx9.mv im (nor (tgN (by decide)) (tgN (by decide)))
                      refine L.kns [(105, .pointer (some ⟨b9, 1, none⟩))] ⟨g3_, trivial⟩ ?_
                      refine L.ld (j := 1) bx9.mem nag3 Wt.no rfl rfl rfl rfl ?_
                      refine L.nil ?_
                      refine X.dr (s := s268) (e' := (106, .int .i64 p0.2.1) :: e) (Sub.both (Kn.sup ⟨g3_, trivial⟩)) ⟨im, Sub.fresh ib rfl, i0, i1, i2, i3, fun _ => rfl, i5, i6, i7, i8, i9, i10, i11, i12, i13, i14, i15⟩
                    · rintro D e s269 ⟨im, ib, i0, i1, i2, i3, i4, i5, i6, i7, i8, i9, i10, i11, i12, i13, i14, i15⟩ hk hf ha
                      obtain ⟨d2, d3, d4, -⟩ := ha
                      have g2_ := i2 d2
                      have g4_ := i4 d4
                      obtain ⟨bx35, h113⟩ := i14 (hf 13 (Nat.le_of_ble_eq_true rfl) rfl)
                      refine L.kns [(104, .pointer (some ⟨b35, 0, none⟩)), (106, .int .i64 p0.2.1)] ⟨g2_, g4_, trivial⟩ ?_
                      refine L.ca (vs := [.pointer (some ⟨b35, 0, none⟩), .int .i64 p0.2.1]) cf41 rfl rfl Wt.no rfl (Calls.lendG (s0 := (Sig.drop N s269)) (s := s269) rfl (m_generate_assembler_memory_c (s := (Sig.drop N s269)) (p0 := st150.2) (p1 := p0.2.1) (t0 := 0) (h113.drop (Nat.le_add_right _ _)) bx35.drop er270) (fun v s' h => h)) rfl ?_
                      rintro _ s271 m272 rfl
                      refine L.nil ?_
                      refine X.dr (s := s271) (e' := (107, .int .i64 r270) :: e) (Sub.both (Kn.sup ⟨g2_, g4_, trivial⟩)) ⟨im.trans m272.no, Sub.fresh ib rfl, i0, i1, i2, i3, i4, fun _ => rfl, i6, i7, i8, i9, i10, i11, fun z => let ⟨a283, c283, q, h283⟩ := i12 z; ⟨a283, c283, q, (h283.mono (m272.le no_No))⟩, i13, fun z2 => let ⟨bx35, h113⟩ := i14 z2; ⟨(bx35.mv m272 no_No), (h113.mv m272 no_No no_No)⟩, fun z => let ⟨a288, c288, bx35, h288⟩ := i15 z; ⟨a288, c288, (bx35.mv m272 no_No), (h288.mv m272 no_No no_No)⟩⟩
                    · rintro D e s273 ⟨im, ib, i0, i1, i2, i3, i4, i5, i6, i7, i8, i9, i10, i11, i12, i13, i14, i15⟩ hk hf ha
                      refine L.kns [(8, .pointer (some ⟨b35, 0, none⟩))] ⟨(ib 8 _ rfl), trivial⟩ ?_
                      refine L.mv Wt.no rfl rfl ?_
                      refine L.nil ?_
                      refine X.dr (s := s273) (e' := (108, .pointer (some ⟨b35, 0, none⟩)) :: e) (Sub.both (Kn.sup ⟨(ib 8 _ rfl), trivial⟩)) ⟨im, Sub.fresh ib rfl, i0, i1, i2, i3, i4, i5, fun _ => rfl, i7, i8, i9, i10, i11, i12, i13, i14, i15⟩
                    · rintro D e s274 ⟨im, ib, i0, i1, i2, i3, i4, i5, i6, i7, i8, i9, i10, i11, i12, i13, i14, i15⟩ hk hf ha
                      refine L.kns [(1, .slice a4 p1.length c4)] ⟨(ib 1 _ rfl), trivial⟩ ?_
                      refine L.mv Wt.no rfl rfl ?_
                      refine L.nil ?_
                      refine X.dr (s := s274) (e' := (109, .slice a4 p1.length c4) :: e) (Sub.both (Kn.sup ⟨(ib 1 _ rfl), trivial⟩)) ⟨im, Sub.fresh ib rfl, i0, i1, i2, i3, i4, i5, i6, fun _ => rfl, i8, i9, i10, i11, i12, i13, i14, i15⟩
                    · rintro D e s275 ⟨im, ib, i0, i1, i2, i3, i4, i5, i6, i7, i8, i9, i10, i11, i12, i13, i14, i15⟩ hk hf ha
                      obtain ⟨d7, -⟩ := ha
                      have g7_ := i7 d7
                      refine L.kns [(109, .slice a4 p1.length c4)] ⟨g7_, trivial⟩ ?_
                      refine L.len sl23 Wt.no rfl rfl ?_
                      refine L.nil ?_
                      refine X.dr (s := s275) (e' := (110, .int .i64 (p1.length : Int)) :: e) (Sub.both (Kn.sup ⟨g7_, trivial⟩)) ⟨im, Sub.fresh ib rfl, i0, i1, i2, i3, i4, i5, i6, i7, fun _ => rfl, i9, i10, i11, i12, i13, i14, i15⟩
                    · rintro D e s276 ⟨im, ib, i0, i1, i2, i3, i4, i5, i6, i7, i8, i9, i10, i11, i12, i13, i14, i15⟩ hk hf ha
                      obtain ⟨d2, d3, d4, d5, d6, d7, d8, -⟩ := ha
                      have g6_ := i6 d6
                      have g8_ := i8 d8
                      obtain ⟨bx35, h113⟩ := i14 (hf 13 (Nat.le_of_ble_eq_true rfl) rfl)
                      refine L.kns [(108, .pointer (some ⟨b35, 0, none⟩)), (110, .int .i64 (p1.length : Int))] ⟨g6_, g8_, trivial⟩ ?_
                      refine L.ca (vs := [.pointer (some ⟨b35, 0, none⟩), .int .i64 (p1.length : Int)]) cf42 rfl rfl Wt.no rfl (Calls.lendG (s0 := (Sig.drop N s276)) (s := s276) rfl (m_generate_assembler_output_c (s := (Sig.drop N s276)) (p0 := st150.2) (p1 := (p1.length : Int)) (t0 := 0) (h113.drop (Nat.le_add_right _ _)) bx35.drop er277) (fun v s' h => h)) rfl ?_
                      rintro _ s278 m279 rfl
                      refine L.nil ?_
                      refine X.dr (s := s278) (e' := (111, .int .i64 r277) :: e) (Sub.both (Kn.sup ⟨g6_, g8_, trivial⟩)) ⟨im.trans m279.no, Sub.fresh ib rfl, i0, i1, i2, i3, i4, i5, i6, i7, i8, fun _ => rfl, i10, i11, fun z => let ⟨a283, c283, q, h283⟩ := i12 z; ⟨a283, c283, q, (h283.mono (m279.le no_No))⟩, i13, fun z2 => let ⟨bx35, h113⟩ := i14 z2; ⟨(bx35.mv m279 no_No), (h113.mv m279 no_No no_No)⟩, fun z => let ⟨a288, c288, bx35, h288⟩ := i15 z; ⟨a288, c288, (bx35.mv m279 no_No), (h288.mv m279 no_No no_No)⟩⟩
                    · rintro D e s280 ⟨im, ib, i0, i1, i2, i3, i4, i5, i6, i7, i8, i9, i10, i11, i12, i13, i14, i15⟩ hk hf ha
                      refine L.kns [(9, .map (some b38))] ⟨(ib 9 _ rfl), trivial⟩ ?_
                      refine L.mv Wt.no rfl rfl ?_
                      refine L.nil ?_
                      refine X.dr (s := s280) (e' := (112, .map (some b38)) :: e) (Sub.both (Kn.sup ⟨(ib 9 _ rfl), trivial⟩)) ⟨im, Sub.fresh ib rfl, i0, i1, i2, i3, i4, i5, i6, i7, i8, i9, fun _ => rfl, i11, i12, i13, i14, i15⟩
                    · rintro D e s281 ⟨im, ib, i0, i1, i2, i3, i4, i5, i6, i7, i8, i9, i10, i11, i12, i13, i14, i15⟩ hk hf ha
                      refine L.kns [(14, .int .i64 x262)] ⟨(ib 14 _ rfl), trivial⟩ ?_
                      refine L.mv Wt.no rfl rfl ?_
                      refine L.nil ?_
                      refine X.dr (s := s281) (e' := (113, .int .i64 x262) :: e) (Sub.both (Kn.sup ⟨(ib 14 _ rfl), trivial⟩)) ⟨im, Sub.fresh ib rfl, i0, i1, i2, i3, i4, i5, i6, i7, i8, i9, i10, fun _ => rfl, i12, i13, i14, i15⟩
                    · rintro D e s282 ⟨im, ib, i0, i1, i2, i3, i4, i5, i6, i7, i8, i9, i10, i11, i12, i13, i14, i15⟩ hk hf ha
                      obtain ⟨d10, d11, -⟩ := ha
                      have g10_ := i10 d10
                      have g11_ := i11 d11
                      have mp38 := mp38.mono (im.le (nor (tg0 hN) (tg0 hN)))
                      refine L.kns [(112, .map (some b38)), (113, .int .i64 x262)] ⟨g10_, g11_, trivial⟩ ?_
                      refine L.mlr (r := (rP (rK .i64) (rP (rK .i64) (rK .i64)))) mpt91 mp38 Wt.no rfl rfl rfl ?_
                      intro a283 c283 h283
                      refine L.nil ?_
                      refine X.dr (s := s282) (e' := (114, .slice a283 (mgetD [] o106.2 x262).length c283) :: e) (Sub.both (Kn.sup ⟨g10_, g11_, trivial⟩)) ⟨im, Sub.fresh ib rfl, i0, i1, i2, i3, i4, i5, i6, i7, i8, i9, i10, i11, fun _ => ⟨a283, c283, rfl, h283⟩, i13, i14, i15⟩
                    · rintro D e s284 ⟨im, ib, i0, i1, i2, i3, i4, i5, i6, i7, i8, i9, i10, i11, i12, i13, i14, i15⟩ hk hf ha
                      obtain ⟨d0, d1, d2, d3, d4, d5, d6, d7, d8, d9, d10, d11, d12, -⟩ := ha
                      have g0_ := i0 d0
                      have g1_ := i1 d1
                      have g5_ := i5 d5
                      have g9_ := i9 d9
                      obtain ⟨a283, c283, g12_, h283⟩ := i12 d12
                      obtain ⟨bx35, h113⟩ := i14 hk
                      refine L.kns [(102, .pointer (some ⟨b35, 0, none⟩)), (103, .int .i64 st150.1), (107, .int .i64 r270), (111, .int .i64 r277), (114, .slice a283 (mgetD [] o106.2 x262).length c283)] ⟨g0_, g1_, g5_, g9_, g12_, trivial⟩ ?_
                      refine L.ca (vs := [.pointer (some ⟨b35, 0, none⟩), .int .i64 st150.1, .int .i64 r270, .int .i64 r277, .slice a283 (mgetD [] o106.2 x262).length c283]) cf40 rfl rfl Wt.no rfl (m_generate_assembler_event_c (s := s284) (p0 := st150.2) (p1 := st150.1) (p2 := r270) (p3 := r277) (p4 := (mgetD [] o106.2 x262)) (t0 := (N + 2)) (t0_0 := (N + 6)) (tne (by decide)) (tne (by decide)) (tpos hN) (tpos hN) h113 bx35 h283 er285) rfl ?_
                      rintro _ s286 m287 ⟨a288, c288, rfl, bx35, h288⟩
                      refine L.nil ?_
                      refine X.dr (s := s286) (e' := (115, .tuple #[]) :: e) (Sub.both (Kn.sup ⟨g0_, g1_, g5_, g9_, g12_, trivial⟩)) ⟨im.trans (m287.weak fun _ e => by rcases e with e | e; (rw [e]; exact (.inl rfl)); (rw [e]; exact (.inr rfl))), Sub.fresh ib rfl, i0, i1, i2, i3, i4, i5, i6, i7, i8, i9, i10, i11, fun z => let ⟨a283, c283, q, h283⟩ := i12 z; ⟨a283, c283, q, (h283.mono (m287.le (nor (tg0 hN) (tg0 hN))))⟩, fun _ => rfl, fun z => Bool.noConfusion (show true = false from z), fun _ => by exact ⟨a288, c288, bx35, h288⟩⟩
                  · rintro D e s290 hD ⟨im, ib, i0, i1, i2, i3, i4, i5, i6, i7, i8, i9, i10, i11, i12, i13, i14, i15⟩
                    obtain ⟨a288, c288, bx35, h288⟩ := i15 (hD 13 rfl)
                    have h1 := h1.mono (im.le (nor (tg0 hN) (tg0 hN)))
                    have mp41 := mp41.mono (im.le (nor (tg0 hN) (tg0 hN)))
                    have mp38 := mp38.mono (im.le (nor (tg0 hN) (tg0 hN)))
                    have bx12 := bx12.mv im (nor (tgN (by decide)) (tgN (by decide)))
                    have bx9 := bx9.mv im (nor (tgN (by decide)) (tgN (by decide)))
                    have h2 := h2.mono (im.le (nor (tg0 hN) (tg0 hN)))
                    have h3 := h3.mono (im.le (nor (tg0 hN) (tg0 hN)))
                    have h4 := h4.mono (im.le (nor (tg0 hN) (tg0 hN)))
                    have m0 := m0.trans (im.weak fun _ e => by rcases e with e | e; (rw [e]; exact up); (rw [e]; exact up))
                    refine X.sub (e' := [(97, .int .i64 st150.1), (96, .int .i64 (p0.1.length : Int)), (95, .slice a1 p0.1.length c1), (10, .map (some b41)), (9, .map (some b38)), (8, .pointer (some ⟨b35, 0, none⟩)), (4, .pointer (some ⟨b12, 0, none⟩)), (2, .pointer (some ⟨b9, 0, none⟩)), (1, .slice a4 p1.length c4)]) ?_ (Sub.cons (ib 97 _ rfl) (Sub.cons (ib 96 _ rfl) (Sub.cons (ib 95 _ rfl) (Sub.cons (ib 10 _ rfl) (Sub.cons (ib 9 _ rfl) (Sub.cons (ib 8 _ rfl) (Sub.cons (ib 4 _ rfl) (Sub.cons (ib 2 _ rfl) (Sub.cons (ib 1 _ rfl) Sub.nil)))))))))
                    refine X.blkN ?_
                    refine X.seqN ?_
                    refine E.reg ?_
                    refine L.bi Wt.no rfl rfl rfl rfl ?_
                    refine L.mv Wt.no rfl rfl ?_
                    refine L.nil ?_
                    exact X.sub (ih150 _ (Option.some.inj hm).symm _ _ ⟨s290, a288, c288, m0, h1, mp41, mp38, h4, h2, h3, h288, bx9, bx12, bx35, rfl, rfl⟩) (Sub.cons rfl (Sub.cons rfl (Sub.cons rfl (Sub.cons rfl (Sub.cons rfl (Sub.cons rfl (Sub.cons rfl (Sub.cons rfl (Sub.cons rfl Sub.nil)))))))))
                · refine E.cF rfl hc ?_
                  refine E.exit ?_
                  refine X.seqX ?_
                  refine X.seqX ?_
                  have hx := ho150 _ (Option.some.inj hm).symm
                  subst hx
                  exact X.sub (K261 _ _ ⟨s155, a113, c113, m0, mp41, h4, h1, h2, h3, h113, bx9, bx12, bx35, rfl, rfl⟩) (Sub.cons rfl (Sub.cons rfl (Sub.cons rfl (Sub.cons rfl (Sub.cons rfl Sub.nil)))))
              intro K292
              refine E.iter (fun (st106 : Int × (List (Int × List Int)) × (List (Int × List (Int × Int × Int)))) (e : List (Nat × Value)) (w : World) => ∃ (s109 : Sig), Mv (Up N No) s s109 ∧ RdL (rP (rK .i64) (rP (rK .i64) (rK .i64))) s109 a3 c3 p0.2.2.2 ∧ MapW (rK .i64) s109 N 1 (N + 4) 3 b41 st106.2.1 none ∧ MapW (rP (rK .i64) (rP (rK .i64) (rK .i64))) s109 N 0 (N + 3) 28 b38 st106.2.2 none ∧ RdL (rK .i64) s109 a4 c4 p1 ∧ RdL (rK .i64) s109 a1 c1 p0.1 ∧ RdL (rK .i64) s109 a2 c2 p0.2.2.1 ∧ Bx s109 (N + 0) b9 #[.slice a1 p0.1.length c1, .int .i64 p0.2.1, .slice a2 p0.2.2.1.length c2, .slice a3 p0.2.2.2.length c3] 26 ∧ Bx s109 (N + 1) b12 #[.int .i64 0, .int .i64 0, .int .i64 0, .slice none 0 0, .slice none 0 0, .slice none 0 0, .slice none 0 0, .int .i64 0] 34 ∧ Bx s109 (N + 2) b35 #[.slice none 0 0, .int .i64 (p0.1.length : Int), .int .i64 (W ((p1.length : Int) + 1))] 90 ∧ e = [(66, .int .i64 st106.1), (65, .int .i64 (p0.2.2.2.length : Int)), (64, .slice a3 p0.2.2.2.length c3), (10, .map (some b41)), (9, .map (some b38)), (8, .pointer (some ⟨b35, 0, none⟩)), (4, .pointer (some ⟨b12, 0, none⟩)), (2, .pointer (some ⟨b9, 0, none⟩)), (1, .slice a4 p1.length c4)] ∧ w = s109.w) eo106 ⟨s42, m0, h3, mp41, mp38, h4, h1, h2, bx9, bx12, bx35, rfl, rfl⟩ (Sub.cons rfl (Sub.cons rfl (Sub.cons rfl (Sub.cons rfl (Sub.cons rfl (Sub.cons rfl (Sub.cons rfl (Sub.cons rfl (Sub.cons rfl Sub.nil))))))))) ?_
              rintro st106 res106 hm ih106 ho106 _ _ ⟨s109, m0, h3, mp41, mp38, h4, h1, h2, bx9, bx12, bx35, rfl, rfl⟩
              unfold m_generate_Generate_l1 at hm
              refine E.seq ?_
              refine E.reg ?_
              refine L.bi Wt.no rfl rfl rfl rfl ?_
              refine L.nil ?_
              refine X.seqN ?_
              refine E.seq ?_
              rcases ifS hm with ⟨hc, hm⟩ | ⟨hc, hm⟩
              · refine E.cT rfl hc ?_
                refine E.skip ?_
                refine X.seqN ?_
                refine E.seq ?_
                refine E.block ?_
                refine E.seq ?_
                refine E.reg ?_
                obtain ⟨x293, ex293, hm⟩ := bindS hm
                refine L.ix (r := (rP (rK .i64) (rP (rK .i64) (rK .i64)))) sl24 h3 Wt.no rfl rfl ex293 rfl ?_
                rintro b294 o294 cc294 me294 rd294
                obtain ⟨_, _, rfl, rfl, ⟨_, _, rfl, rfl, rfl⟩⟩ := rd294
                refine L.lg (j := 0) (cs := [.int .i64 x293.1, .int .i64 x293.2.1, .int .i64 x293.2.2]) me294 ag28 Wt.no rfl rfl rfl rfl rfl ?_
                refine L.al (N + 5) zz28 rfl Wt.no rfl ?_
                intro b295 s296 m297 bx295
                replace m0 := m0.trans m297.no
                replace h3 := h3.mono (m297.le no_No)
                replace h4 := h4.mono (m297.le no_No)
                replace mp38 := mp38.mv m297 no_No no_No (fun _ _ => no_No)
                replace mp41 := mp41.mv m297 no_No no_No (fun _ _ => no_No)
                replace bx9 := bx9.mv m297 no_No
                replace h1 := h1.mono (m297.le no_No)
                replace h2 := h2.mono (m297.le no_No)
                replace bx12 := bx12.mv m297 no_No
                replace bx35 := bx35.mv m297 no_No
                refine L.st (c := [.int .i64 x293.1, .int .i64 x293.2.1, .int .i64 x293.2.2]) (cs' := #[.int .i64 x293.1, .int .i64 x293.2.1, .int .i64 x293.2.2]) bx295 ag28.sz Wt.no rfl rfl rfl rfl rfl (Nat.le_of_ble_eq_true rfl) rfl ?_
                intro s298 m299 bx295
                replace m0 := m0.trans (m299.one up)
                replace h3 := h3.mono (m299.le (tg0 hN))
                replace h4 := h4.mono (m299.le (tg0 hN))
                replace mp38 := mp38.mv m299 (tgN (by decide)) (tg0 hN) (fun i ho => (fmM (by decide)))
                replace mp41 := mp41.mv m299 (tgN (by decide)) (tg0 hN) (fun i ho => (fmM (by decide)))
                replace bx9 := bx9.mv m299 (tgN (by decide))
                replace h1 := h1.mono (m299.le (tg0 hN))
                replace h2 := h2.mono (m299.le (tg0 hN))
                replace bx12 := bx12.mv m299 (tgN (by decide))
                replace bx35 := bx35.mv m299 (tgN (by decide))
                refine L.nil ?_
                refine X.seqN ?_
                obtain ⟨x317, ex317, hm⟩ := bindS hm
                obtain ⟨x333, ex333, hm⟩ := bindS hm
                refine E.draw [[], [], [1], [], [], [4], [], [], [7], [6, 7, 8], [], [10], [6, 7, 8, 9, 10, 11], [], [], [14], [13, 14, 15], [], [17], [17, 18], [6, 7, 8, 9, 10, 11, 12, 13, 14, 15, 16, 17, 18, 19], [0, 1, 2, 6, 7, 8, 9, 10, 11, 12, 13, 14, 15, 16, 17, 18, 19, 20], [0, 1, 2, 6, 7, 8, 9, 10, 11, 12, 13, 14, 15, 16, 17, 18, 19, 20, 21], [0, 1, 2, 6, 7, 8, 9, 10, 11, 12, 13, 14, 15, 16, 17, 18, 19, 20, 21, 22], [0, 1, 2, 3, 4, 5, 6, 7, 8, 9, 10, 11, 12, 13, 14, 15, 16, 17, 18, 19, 20, 21, 22, 23]] (fun D e sx => Mv (fun t => t = (fam N 0 (mix st106.2.2 x293.2.1)) ∨ t = (fam N 1 (mix st106.2.1 x293.2.1)) ∨ t = (N + 3) ∨ t = (N + 4)) s298 sx ∧ Sub [(12, .pointer (some ⟨b295, 0, none⟩)), (66, .int .i64 st106.1), (65, .int .i64 (p0.2.2.2.length : Int)), (64, .slice a3 p0.2.2.2.length c3), (10, .map (some b41)), (9, .map (some b38)), (8, .pointer (some ⟨b35, 0, none⟩)), (4, .pointer (some ⟨b12, 0, none⟩)), (2, .pointer (some ⟨b9, 0, none⟩)), (1, .slice a4 p1.length c4)] e ∧ (D 0 = true → (Env.get e 70 = some (.map (some b38)))) ∧ (D 1 = true → (Env.get e 71 = some (.pointer (some ⟨b295, 1, none⟩)))) ∧ (D 2 = true → (Env.get e 72 = some (.int .i64 x293.2.1))) ∧ (D 3 = true → (Env.get e 73 = some (.map (some b41)))) ∧ (D 4 = true → (Env.get e 74 = some (.pointer (some ⟨b295, 1, none⟩)))) ∧ (D 5 = true → (Env.get e 75 = some (.int .i64 x293.2.1))) ∧ (D 6 = true → (Env.get e 76 = some (.map (some b38)))) ∧ (D 7 = true → (Env.get e 77 = some (.pointer (some ⟨b295, 1, none⟩)))) ∧ (D 8 = true → (Env.get e 78 = some (.int .i64 x293.2.1))) ∧ (D 9 = true → (∃ (a310 : Option Addr) (c310 : Nat), Env.get e 79 = some (.slice a310 (mgetD [] st106.2.2 x293.2.1).length c310))) ∧ (D 10 = true → (Env.get e 80 = some (.agg #[.int .i64 x293.1, .int .i64 x293.2.1, .int .i64 x293.2.2]))) ∧ (D 11 = true → (∃ (b313 : Nat), Env.get e 81 = some (.slice (some ⟨b313, 0, none⟩) ([x293] : List (Int × Int × Int)).length (([x293] : List (Int × Int × Int)).length)) ∧ RdL (rP (rK .i64) (rP (rK .i64) (rK .i64))) sx (some ⟨b313, 0, none⟩) (([x293] : List (Int × Int × Int)).length) ([x293] : List (Int × Int × Int)))) ∧ (D 12 = true → (∃ (a318 : Option Addr) (c318 : Nat), Env.get e 82 = some (.slice a318 x317.length c318))) ∧ (D 13 = true → (Env.get e 83 = some (.map (some b41)))) ∧ (D 14 = true → (Env.get e 84 = some (.pointer (some ⟨b295, 1, none⟩)))) ∧ (D 15 = true → (Env.get e 85 = some (.int .i64 x293.2.1))) ∧ (D 16 = true → (∃ (a325 : Option Addr) (c325 : Nat), Env.get e 86 = some (.slice a325 (mgetD [] st106.2.1 x293.2.1).length c325))) ∧ (D 17 = true → (Env.get e 87 = some (.pointer (some ⟨b295, 0, none⟩)))) ∧ (D 18 = true → (Env.get e 88 = some (.int .i64 x293.1))) ∧ (D 19 = true → (∃ (b329 : Nat), Env.get e 89 = some (.slice (some ⟨b329, 0, none⟩) ([x293.1] : List Int).length (([x293.1] : List Int).length)) ∧ RdL (rK .i64) sx (some ⟨b329, 0, none⟩) (([x293.1] : List Int).length) ([x293.1] : List Int))) ∧ (D 20 = true → (∃ (a334 : Option Addr) (c334 : Nat), Env.get e 90 = some (.slice a334 x333.length c334))) ∧ (D 21 = true → (∃ (v338 : Value) (w338 : Int), Env.get e 91 = some (.tuple #[v338, .int .i64 w338]))) ∧ (D 22 = true → ∀ (v338 : Value) (w338 : Int), Env.get e 91 = some (.tuple #[v338, .int .i64 w338]) → (Env.get e 92 = some (.int .i64 w338))) ∧ (D 9 = false → MapW (rP (rK .i64) (rP (rK .i64) (rK .i64))) sx N 0 (N + 3) 28 b38 st106.2.2 none) ∧ (D 9 = true → D 12 = false → ∀ (a310 : Option Addr) (c310 : Nat), Env.get e 79 = some (.slice a310 (mgetD [] st106.2.2 x293.2.1).length c310) → RowT (rP (rK .i64) (rP (rK .i64) (rK .i64))) sx (fam N 0 (mix st106.2.2 x293.2.1)) 28 a310 c310 (mgetD [] st106.2.2 x293.2.1) ∧ MapW (rP (rK .i64) (rP (rK .i64) (rK .i64))) sx N 0 (N + 3) 28 b38 st106.2.2 (some x293.2.1)) ∧ (D 12 = true → D 21 = false → ∀ (a318 : Option Addr) (c318 : Nat), Env.get e 82 = some (.slice a318 x317.length c318) → RowT (rP (rK .i64) (rP (rK .i64) (rK .i64))) sx (fam N 0 (mix st106.2.2 x293.2.1)) 28 a318 c318 x317 ∧ MapW (rP (rK .i64) (rP (rK .i64) (rK .i64))) sx N 0 (N + 3) 28 b38 st106.2.2 (some x293.2.1)) ∧ (D 21 = true → D 23 = false → ∀ (a318 : Option Addr) (c318 : Nat) (v338 : Value) (w338 : Int), Env.get e 82 = some (.slice a318 x317.length c318) → Env.get e 91 = some (.tuple #[v338, .int .i64 w338]) → RowT (rP (rK .i64) (rP (rK .i64) (rK .i64))) sx (fam N 0 (mix st106.2.2 x293.2.1)) 28 a318 c318 x317 ∧ MapE (rP (rK .i64) (rP (rK .i64) (rK .i64))) sx N 0 (N + 3) 28 b38 st106.2.2 x293.2.1 w338) ∧ (D 23 = true → MapW (rP (rK .i64) (rP (rK .i64) (rK .i64))) sx N 0 (N + 3) 28 b38 (mput st106.2.2 x293.2.1 x317) none) ∧ (D 16 = false → MapW (rK .i64) sx N 1 (N + 4) 3 b41 st106.2.1 none) ∧ (D 16 = true → D 20 = false → ∀ (a325 : Option Addr) (c325 : Nat), Env.get e 86 = some (.slice a325 (mgetD [] st106.2.1 x293.2.1).length c325) → RowT (rK .i64) sx (fam N 1 (mix st106.2.1 x293.2.1)) 3 a325 c325 (mgetD [] st106.2.1 x293.2.1) ∧ MapW (rK .i64) sx N 1 (N + 4) 3 b41 st106.2.1 (some x293.2.1)) ∧ (D 20 = true → D 24 = false → ∀ (a334 : Option Addr) (c334 : Nat), Env.get e 90 = some (.slice a334 x333.length c334) → RowT (rK .i64) sx (fam N 1 (mix st106.2.1 x293.2.1)) 3 a334 c334 x333 ∧ MapW (rK .i64) sx N 1 (N + 4) 3 b41 st106.2.1 (some x293.2.1)) ∧ (D 24 = true → MapW (rK .i64) sx N 1 (N + 4) 3 b41 (mput st106.2.1 x293.2.1 x333) none)) (by kernel_rfl) (by kernel_rfl) (by kernel_rfl) ?_ ?_ ?_
                · intro sz mz
                  exact ⟨mz.no, (Sub.cons rfl (Sub.cons rfl (Sub.cons rfl (Sub.cons rfl (Sub.cons rfl (Sub.cons rfl (Sub.cons rfl (Sub.cons rfl (Sub.cons rfl (Sub.cons rfl Sub.nil)))))))))), nofun, nofun, nofun, nofun, nofun, nofun, nofun, nofun, nofun, nofun, nofun, nofun, nofun, nofun, nofun, nofun, nofun, nofun, nofun, nofun, nofun, nofun, nofun, fun _ => mp38.mv mz no_No no_No (fun _ _ => no_No), nofun, nofun, nofun, nofun, fun _ => mp41.mv mz no_No no_No (fun _ _ => no_No), nofun, nofun, nofun⟩
                · refine ⟨?_, ?_, ?_, ?_, ?_, ?_, ?_, ?_, ?_, ?_, ?_, ?_, ?_, ?_, ?_, ?_, ?_, ?_, ?_, ?_, ?_, ?_, ?_, ?_, ?_, trivial⟩
                  · rintro D e s300 ⟨im, ib, i0, i1, i2, i3, i4, i5, i6, i7, i8, i9, i10, i11, i12, i13, i14, i15, i16, i17, i18, i19, i20, i21, i22, i23, i24, i25, i26, i27, i28, i29, i30, i31⟩ hk hf ha
                    refine L.kns [(9, .map (some b38))] ⟨(ib 9 _ rfl), trivial⟩ ?_
                    refine L.mv Wt.no rfl rfl ?_
                    refine L.nil ?_
                    refine X.dr (s := s300) (e' := (70, .map (some b38)) :: e) (Sub.both (Kn.sup ⟨(ib 9 _ rfl), trivial⟩)) ⟨im, Sub.fresh ib rfl, fun _ => rfl, i1, i2, i3, i4, i5, i6, i7, i8, i9, i10, i11, i12, i13, i14, i15, i16, i17, i18, i19, i20, i21, i22, i23, i24, i25, i26, i27, i28, i29, i30, i31⟩
                  · rintro D e s301 ⟨im, ib, i0, i1, i2, i3, i4, i5, i6, i7, i8, i9, i10, i11, i12, i13, i14, i15, i16, i17, i18, i19, i20, i21, i22, i23, i24, i25, i26, i27, i28, i29, i30, i31⟩ hk hf ha
                    refine L.kns [(12, .pointer (some ⟨b295, 0, none⟩))] ⟨(ib 12 _ rfl), trivial⟩ ?_
                    refine L.fa fa28_1 Wt.no rfl rfl ?_
                    refine L.nil ?_
                    refine X.dr (s := s301) (e' := (71, .pointer (some ⟨b295, 1, none⟩)) :: e) (Sub.both (Kn.sup ⟨(ib 12 _ rfl), trivial⟩)) ⟨im, Sub.fresh ib rfl, i0, fun _ => rfl, i2, i3, i4, i5, i6, i7, i8, i9, i10, i11, i12, i13, i14, i15, i16, i17, i18, i19, i20, i21, i22, i23, i24, i25, i26, i27, i28, i29, i30, i31⟩
                  · rintro D e s302 ⟨im, ib, i0, i1, i2, i3, i4, i5, i6, i7, i8, i9, i10, i11, i12, i13, i14, i15, i16, i17, i18, i19, i20, i21, i22, i23, i24, i25, i26, i27, i28, i29, i30, i31⟩ hk hf ha
                    obtain ⟨d1, -⟩ := ha
                    have g1_ := i1 d1
                    have bx295 := bx295.mv im (nor (fmN (by decide)) (nor (fmN (by decide)) (nor (tgN (by decide)) (tgN (by decide)))))
                    refine L.kns [(71, .pointer (some ⟨b295, 1, none⟩))] ⟨g1_, trivial⟩ ?_
                    refine L.ld (j := 1) bx295.mem nag3 Wt.no rfl rfl rfl rfl ?_
                    refine L.nil ?_
                    refine X.dr (s := s302) (e' := (72, .int .i64 x293.2.1) :: e) (Sub.both (Kn.sup ⟨g1_, trivial⟩)) ⟨im, Sub.fresh ib rfl, i0, i1, fun _ => rfl, i3, i4, i5, i6, i7, i8, i9, i10, i11, i12, i13, i14, i15, i16, i17, i18, i19, i20, i21, i22, i23, i24, i25, i26, i27, i28, i29, i30, i31⟩
                  · rintro D e s303 ⟨im, ib, i0, i1, i2, i3, i4, i5, i6, i7, i8, i9, i10, i11, i12, i13, i14, i15, i16, i17, i18, i19, i20, i21, i22, i23, i24, i25, i26, i27, i28, i29, i30, i31⟩ hk hf ha
                    refine L.kns [(10, .map (some b41))] ⟨(ib 10 _ rfl), trivial⟩ ?_
                    refine L.mv Wt.no rfl rfl ?_
                    refine L.nil ?_
                    refine X.dr (s := s303) (e' := (73, .map (some b41)) :: e) (Sub.both (Kn.sup ⟨(ib 10 _ rfl), trivial⟩)) ⟨im, Sub.fresh ib rfl, i0, i1, i2, fun _ => rfl, i4, i5, i6, i7, i8, i9, i10, i11, i12, i13, i14, i15, i16, i17, i18, i19, i20, i21, i22, i23, i24, i25, i26, i27, i28, i29, i30, i31⟩
                  · rintro D e s304 ⟨im, ib, i0, i1, i2, i3, i4, i5, i6, i7, i8, i9, i10, i11, i12, i13, i14, i15, i16, i17, i18, i19, i20, i21, i22, i23, i24, i25, i26, i27, i28, i29, i30, i31⟩ hk hf ha
                    refine L.kns [(12, .pointer (some ⟨b295, 0, none⟩))] ⟨(ib 12 _ rfl), trivial⟩ ?_
                    refine L.fa fa28_1 Wt.no rfl rfl ?_
                    refine L.nil ?_
                    refine X.dr (s := s304) (e' := (74, .pointer (some ⟨b295, 1, none⟩)) :: e) (Sub.both (Kn.sup ⟨(ib 12 _ rfl), trivial⟩)) ⟨im, Sub.fresh ib rfl, i0, i1, i2, i3, fun _ => rfl, i5, i6, i7, i8, i9, i10, i11, i12, i13, i14, i15, i16, i17, i18, i19, i20, i21, i22, i23, i24, i25, i26, i27, i28, i29, i30, i31⟩
                  · rintro D e s305 ⟨im, ib, i0, i1, i2, i3, i4, i5, i6, i7, i8, i9, i10, i11, i12, i13, i14, i15, i16, i17, i18, i19, i20, i21, i22, i23, i24, i25, i26, i27, i28, i29, i30, i31⟩ hk hf ha
                    obtain ⟨d4, -⟩ := ha
                    have g4_ := i4 d4
                    have bx295 := bx295.mv im (nor (fmN (by decide)) (nor (fmN (by decide)) (nor (tgN (by decide)) (tgN (by decide)))))
                    refine L.kns [(74, .pointer (some ⟨b295, 1, none⟩))] ⟨g4_, trivial⟩ ?_
                    refine L.ld (j := 1) bx295.mem nag3 Wt.no rfl rfl rfl rfl ?_
                    refine L.nil ?_
                    refine X.dr (s := s305) (e' := (75, .int .i64 x293.2.1) :: e) (Sub.both (Kn.sup ⟨g4_, trivial⟩)) ⟨im, Sub.fresh ib rfl, i0, i1, i2, i3, i4, fun _ => rfl, i6, i7, i8, i9, i10, i11, i12, i13, i14, i15, i16, i17, i18, i19, i20, i21, i22, i23, i24, i25, i26, i27, i28, i29, i30, i31⟩
                  · rintro D e s306 ⟨im, ib, i0, i1, i2, i3, i4, i5, i6, i7, i8, i9, i10, i11, i12, i13, i14, i15, i16, i17, i18, i19, i20, i21, i22, i23, i24, i25, i26, i27, i28, i29, i30, i31⟩ hk hf ha
                    refine L.kns [(9, .map (some b38))] ⟨(ib 9 _ rfl), trivial⟩ ?_
                    refine L.mv Wt.no rfl rfl ?_
                    refine L.nil ?_
                    refine X.dr (s := s306) (e' := (76, .map (some b38)) :: e) (Sub.both (Kn.sup ⟨(ib 9 _ rfl), trivial⟩)) ⟨im, Sub.fresh ib rfl, i0, i1, i2, i3, i4, i5, fun _ => rfl, i7, i8, i9, i10, i11, i12, i13, i14, i15, i16, i17, i18, i19, i20, i21, i22, i23, i24, i25, i26, i27, i28, i29, i30, i31⟩
                  · rintro D e s307 ⟨im, ib, i0, i1, i2, i3, i4, i5, i6, i7, i8, i9, i10, i11, i12, i13, i14, i15, i16, i17, i18, i19, i20, i21, i22, i23, i24, i25, i26, i27, i28, i29, i30, i31⟩ hk hf ha
                    refine L.kns [(12, .pointer (some ⟨b295, 0, none⟩))] ⟨(ib 12 _ rfl), trivial⟩ ?_
                    refine L.fa fa28_1 Wt.no rfl rfl ?_
                    refine L.nil ?_
                    refine X.dr (s := s307) (e' := (77, .pointer (some ⟨b295, 1, none⟩)) :: e) (Sub.both (Kn.sup ⟨(ib 12 _ rfl), trivial⟩)) ⟨im, Sub.fresh ib rfl, i0, i1, i2, i3, i4, i5, i6, fun _ => rfl, i8, i9, i10, i11, i12, i13, i14, i15, i16, i17, i18, i19, i20, i21, i22, i23, i24, i25, i26, i27, i28, i29, i30, i31⟩
                  · rintro D e s308 ⟨im, ib, i0, i1, i2, i3, i4, i5, i6, i7, i8, i9, i10, i11, i12, i13, i14, i15, i16, i17, i18, i19, i20, i21, i22, i23, i24, i25, i26, i27, i28, i29, i30, i31⟩ hk hf ha
                    obtain ⟨d7, -⟩ := ha
                    have g7_ := i7 d7
                    have bx295 := bx295.mv im (nor (fmN (by decide)) (nor (fmN (by decide)) (nor (tgN (by decide)) (tgN (by decide)))))
                    refine L.kns [(77, .pointer (some ⟨b295, 1, none⟩))] ⟨g7_, trivial⟩ ?_
                    refine L.ld (j := 1) bx295.mem nag3 Wt.no rfl rfl rfl rfl ?_
                    refine L.nil ?_
                    refine X.dr (s := s308) (e' := (78, .int .i64 x293.2.1) :: e) (Sub.both (Kn.sup ⟨g7_, trivial⟩)) ⟨im, Sub.fresh ib rfl, i0, i1, i2, i3, i4, i5, i6, i7, fun _ => rfl, i9, i10, i11, i12, i13, i14, i15, i16, i17, i18, i19, i20, i21, i22, i23, i24, i25, i26, i27, i28, i29, i30, i31⟩
                  · rintro D e s309 ⟨im, ib, i0, i1, i2, i3, i4, i5, i6, i7, i8, i9, i10, i11, i12, i13, i14, i15, i16, i17, i18, i19, i20, i21, i22, i23, i24, i25, i26, i27, i28, i29, i30, i31⟩ hk hf ha
                    obtain ⟨d6, d7, d8, -⟩ := ha
                    have g6_ := i6 d6
                    have g8_ := i8 d8
                    obtain mp38 := i23 hk
                    refine L.kns [(76, .map (some b38)), (78, .int .i64 x293.2.1)] ⟨g6_, g8_, trivial⟩ ?_
                    refine L.mlw (r := (rP (rK .i64) (rP (rK .i64) (rK .i64)))) mpt91 mp38 Wt.no rfl rfl rfl ?_
                    intro a310 c310 h310 mp38
                    refine L.nil ?_
                    refine X.dr (s := s309) (e' := (79, .slice a310 (mgetD [] st106.2.2 x293.2.1).length c310) :: e) (Sub.both (Kn.sup ⟨g6_, g8_, trivial⟩)) ⟨im, Sub.fresh ib rfl, i0, i1, i2, i3, i4, i5, i6, i7, i8, fun _ => ⟨a310, c310, rfl⟩, i10, i11, i12, i13, i14, i15, i16, i17, i18, i19, i20, i21, i22, fun z => Bool.noConfusion (show true = false from z), fun _ _ _ _ q9 => by cases (show some (.slice a310 (mgetD [] st106.2.2 x293.2.1).length c310 : Value) = some _ from q9); exact ⟨h310, mp38⟩, i25, i26, i27, i28, i29, i30, i31⟩
                  · rintro D e s311 ⟨im, ib, i0, i1, i2, i3, i4, i5, i6, i7, i8, i9, i10, i11, i12, i13, i14, i15, i16, i17, i18, i19, i20, i21, i22, i23, i24, i25, i26, i27, i28, i29, i30, i31⟩ hk hf ha
                    have bx295 := bx295.mv im (nor (fmN (by decide)) (nor (fmN (by decide)) (nor (tgN (by decide)) (tgN (by decide)))))
                    refine L.kns [(12, .pointer (some ⟨b295, 0, none⟩))] ⟨(ib 12 _ rfl), trivial⟩ ?_
                    refine L.lg (j := 0) (cs := [.int .i64 x293.1, .int .i64 x293.2.1, .int .i64 x293.2.2]) bx295.mem ag28 Wt.no rfl rfl rfl rfl rfl ?_
                    refine L.nil ?_
                    refine X.dr (s := s311) (e' := (80, .agg #[.int .i64 x293.1, .int .i64 x293.2.1, .int .i64 x293.2.2]) :: e) (Sub.both (Kn.sup ⟨(ib 12 _ rfl), trivial⟩)) ⟨im, Sub.fresh ib rfl, i0, i1, i2, i3, i4, i5, i6, i7, i8, i9, fun _ => rfl, i11, i12, i13, i14, i15, i16, i17, i18, i19, i20, i21, i22, i23, i24, i25, i26, i27, i28, i29, i30, i31⟩
                  · rintro D e s312 ⟨im, ib, i0, i1, i2, i3, i4, i5, i6, i7, i8, i9, i10, i11, i12, i13, i14, i15, i16, i17, i18, i19, i20, i21, i22, i23, i24, i25, i26, i27, i28, i29, i30, i31⟩ hk hf ha
                    obtain ⟨d10, -⟩ := ha
                    have g10_ := i10 d10
                    refine L.kns [(80, .agg #[.int .i64 x293.1, .int .i64 x293.2.1, .int .i64 x293.2.2])] ⟨g10_, trivial⟩ ?_
                    refine L.bsE (k := 1) (cs := [.int .i64 x293.1, .int .i64 x293.2.1, .int .i64 x293.2.2]) 0 bs24 (Nat.le_of_ble_eq_true rfl) Wt.no rfl rfl rfl rfl ?_
                    intro b313 s314 m315 bx313
                    have h313 := Bx.rdL (r := (rP (rK .i64) (rP (rK .i64) (rK .i64)))) (xs := ([x293] : List (Int × Int × Int))) bx313 ⟨[.int .i64 x293.1, .int .i64 x293.2.1, .int .i64 x293.2.2], _, rfl, ⟨[.int .i64 x293.1], [.int .i64 x293.2.1, .int .i64 x293.2.2], rfl, rfl, ⟨[.int .i64 x293.2.1], [.int .i64 x293.2.2], rfl, rfl, rfl⟩⟩, rfl⟩ (Nat.le_of_ble_eq_true rfl)
                    refine L.nil ?_
                    refine X.dr (s := s314) (e' := (81, .slice (some ⟨b313, 0, none⟩) ([x293] : List (Int × Int × Int)).length (([x293] : List (Int × Int × Int)).length)) :: e) (Sub.both (Kn.sup ⟨g10_, trivial⟩)) ⟨im.trans m315.no, Sub.fresh ib rfl, i0, i1, i2, i3, i4, i5, i6, i7, i8, i9, i10, fun _ => ⟨b313, rfl, h313⟩, i12, i13, i14, i15, i16, i17, i18, fun z => let ⟨b329, q, h329⟩ := i19 z; ⟨b329, q, (h329.mono (m315.le no_No))⟩, i20, i21, i22, fun z2 => ((i23 z2).mv m315 no_No no_No (fun _ _ => no_No)), fun z z2 a310 c310 q9 => let ⟨h310, mp38⟩ := i24 z z2 a310 c310 q9; ⟨(h310.mv m315 no_No no_No), (mp38.mv m315 no_No no_No (fun _ _ => no_No))⟩, fun z z2 a318 c318 q12 => let ⟨h318, mp38⟩ := i25 z z2 a318 c318 q12; ⟨(h318.mv m315 no_No no_No), (mp38.mv m315 no_No no_No (fun _ _ => no_No))⟩, fun z z2 a318 c318 v338 w338 q12 q21 => let ⟨h318, mp38⟩ := i26 z z2 a318 c318 v338 w338 q12 q21; ⟨(h318.mv m315 no_No no_No), (mp38.mv m315 no_No no_No (fun _ _ => no_No))⟩, fun z => ((i27 z).mv m315 no_No no_No (fun _ _ => no_No)), fun z2 => ((i28 z2).mv m315 no_No no_No (fun _ _ => no_No)), fun z z2 a325 c325 q16 => let ⟨h325, mp41⟩ := i29 z z2 a325 c325 q16; ⟨(h325.mv m315 no_No no_No), (mp41.mv m315 no_No no_No (fun _ _ => no_No))⟩, fun z z2 a334 c334 q20 => let ⟨h334, mp41⟩ := i30 z z2 a334 c334 q20; ⟨(h334.mv m315 no_No no_No), (mp41.mv m315 no_No no_No (fun _ _ => no_No))⟩, fun z => ((i31 z).mv m315 no_No no_No (fun _ _ => no_No))⟩
                  · rintro D e s316 ⟨im, ib, i0, i1, i2, i3, i4, i5, i6, i7, i8, i9, i10, i11, i12, i13, i14, i15, i16, i17, i18, i19, i20, i21, i22, i23, i24, i25, i26, i27, i28, i29, i30, i31⟩ hk hf ha
                    obtain ⟨d6, d7, d8, d9, d10, d11, -⟩ := ha
                    obtain ⟨a310, c310, g9_⟩ := i9 d9
                    obtain ⟨b313, g11_, h313⟩ := i11 d11
                    obtain ⟨h310, mp38⟩ := i24 d9 hk a310 c310 g9_
                    refine L.kns [(79, .slice a310 (mgetD [] st106.2.2 x293.2.1).length c310), (81, .slice (some ⟨b313, 0, none⟩) ([x293] : List (Int × Int × Int)).length (([x293] : List (Int × Int × Int)).length))] ⟨g9_, g11_, trivial⟩ ?_
                    refine L.ap (r := (rP (rK .i64) (rP (rK .i64) (rK .i64)))) Try.underlying24 el28 rfl (tgpF hN) h310 h313.wk Wt.no rfl rfl ex317 rfl ?_
                    intro a318 c318 s319 m320 h318
                    refine L.nil ?_
                    refine X.dr (s := s319) (e' := (82, .slice a318 x317.length c318) :: e) (Sub.both (Kn.sup ⟨g9_, g11_, trivial⟩)) ⟨im.trans (m320.one (.inl rfl)), Sub.fresh ib rfl, i0, i1, i2, i3, i4, i5, i6, i7, i8, i9, i10, fun z => let ⟨b313, q, h313⟩ := i11 z; ⟨b313, q, (h313.mono (m320.le (fm0 hN)))⟩, fun _ => ⟨a318, c318, rfl⟩, i13, i14, i15, i16, i17, i18, fun z => let ⟨b329, q, h329⟩ := i19 z; ⟨b329, q, (h329.mono (m320.le (fm0 hN)))⟩, i20, i21, i22, fun z2 => absurd (show D 9 = false from z2) (by rw [d9]; exact Bool.noConfusion), fun _ z => Bool.noConfusion (show true = false from z), fun _ _ _ _ q12 => by cases (show some (.slice a318 x317.length c318 : Value) = some _ from q12); exact ⟨h318, (mp38.mv m320 (fmN (by decide)) (fm0 hN) (fun i ho => (fam_ne (Ne.symm (ho _ rfl)))))⟩, fun z => Bool.noConfusion ((hf 21 (Nat.le_of_ble_eq_true rfl) rfl).symm.trans z), fun z => Bool.noConfusion ((hf 23 (Nat.le_of_ble_eq_true rfl) rfl).symm.trans z), fun z2 => ((i28 z2).mv m320 (fmN (by decide)) (fm0 hN) (fun i ho => (fmQ (by decide)))), fun z z2 a325 c325 q16 => let ⟨h325, mp41⟩ := i29 z z2 a325 c325 q16; ⟨(h325.mv m320 (fmQ (by decide)) (fm0 hN)), (mp41.mv m320 (fmN (by decide)) (fm0 hN) (fun i ho => (fmQ (by decide))))⟩, fun z z2 a334 c334 q20 => let ⟨h334, mp41⟩ := i30 z z2 a334 c334 q20; ⟨(h334.mv m320 (fmQ (by decide)) (fm0 hN)), (mp41.mv m320 (fmN (by decide)) (fm0 hN) (fun i ho => (fmQ (by decide))))⟩, fun z => ((i31 z).mv m320 (fmN (by decide)) (fm0 hN) (fun i ho => (fmQ (by decide))))⟩
                  · rintro D e s321 ⟨im, ib, i0, i1, i2, i3, i4, i5, i6, i7, i8, i9, i10, i11, i12, i13, i14, i15, i16, i17, i18, i19, i20, i21, i22, i23, i24, i25, i26, i27, i28, i29, i30, i31⟩ hk hf ha
                    refine L.kns [(10, .map (some b41))] ⟨(ib 10 _ rfl), trivial⟩ ?_
                    refine L.mv Wt.no rfl rfl ?_
                    refine L.nil ?_
                    refine X.dr (s := s321) (e' := (83, .map (some b41)) :: e) (Sub.both (Kn.sup ⟨(ib 10 _ rfl), trivial⟩)) ⟨im, Sub.fresh ib rfl, i0, i1, i2, i3, i4, i5, i6, i7, i8, i9, i10, i11, i12, fun _ => rfl, i14, i15, i16, i17, i18, i19, i20, i21, i22, i23, i24, i25, i26, i27, i28, i29, i30, i31⟩
                  · rintro D e s322 ⟨im, ib, i0, i1, i2, i3, i4, i5, i6, i7, i8, i9, i10, i11, i12, i13, i14, i15, i16, i17, i18, i19, i20, i21, i22, i23, i24, i25, i26, i27, i28, i29, i30, i31⟩ hk hf ha
                    refine L.kns [(12, .pointer (some ⟨b295, 0, none⟩))] ⟨(ib 12 _ rfl), trivial⟩ ?_
                    refine L.fa fa28_1 Wt.no rfl rfl ?_
                    refine L.nil ?_
                    refine X.dr (s := s322) (e' := (84, .pointer (some ⟨b295, 1, none⟩)) :: e) (Sub.both (Kn.sup ⟨(ib 12 _ rfl), trivial⟩)) ⟨im, Sub.fresh ib rfl, i0, i1, i2, i3, i4, i5, i6, i7, i8, i9, i10, i11, i12, i13, fun _ => rfl, i15, i16, i17, i18, i19, i20, i21, i22, i23, i24, i25, i26, i27, i28, i29, i30, i31⟩
                  · rintro D e s323 ⟨im, ib, i0, i1, i2, i3, i4, i5, i6, i7, i8, i9, i10, i11, i12, i13, i14, i15, i16, i17, i18, i19, i20, i21, i22, i23, i24, i25, i26, i27, i28, i29, i30, i31⟩ hk hf ha
                    obtain ⟨d14, -⟩ := ha
                    have g14_ := i14 d14
                    have bx295 := bx295.mv im (nor (fmN (by decide)) (nor (fmN (by decide)) (nor (tgN (by decide)) (tgN (by decide)))))
                    refine L.kns [(84, .pointer (some ⟨b295, 1, none⟩))] ⟨g14_, trivial⟩ ?_
                    refine L.ld (j := 1) bx295.mem nag3 Wt.no rfl rfl rfl rfl ?_
                    refine L.nil ?_
                    refine X.dr (s := s323) (e' := (85, .int .i64 x293.2.1) :: e) (Sub.both (Kn.sup ⟨g14_, trivial⟩)) ⟨im, Sub.fresh ib rfl, i0, i1, i2, i3, i4, i5, i6, i7, i8, i9, i10, i11, i12, i13, i14, fun _ => rfl, i16, i17, i18, i19, i20, i21, i22, i23, i24, i25, i26, i27, i28, i29, i30, i31⟩
                  · rintro D e s324 ⟨im, ib, i0, i1, i2, i3, i4, i5, i6, i7, i8, i9, i10, i11, i12, i13, i14, i15, i16, i17, i18, i19, i20, i21, i22, i23, i24, i25, i26, i27, i28, i29, i30, i31⟩ hk hf ha
                    obtain ⟨d13, d14, d15, -⟩ := ha
                    have g13_ := i13 d13
                    have g15_ := i15 d15
                    obtain mp41 := i28 hk
                    refine L.kns [(83, .map (some b41)), (85, .int .i64 x293.2.1)] ⟨g13_, g15_, trivial⟩ ?_
                    refine L.mlw (r := (rK .i64)) mpt92 mp41 Wt.no rfl rfl rfl ?_
                    intro a325 c325 h325 mp41
                    refine L.nil ?_
                    refine X.dr (s := s324) (e' := (86, .slice a325 (mgetD [] st106.2.1 x293.2.1).length c325) :: e) (Sub.both (Kn.sup ⟨g13_, g15_, trivial⟩)) ⟨im, Sub.fresh ib rfl, i0, i1, i2, i3, i4, i5, i6, i7, i8, i9, i10, i11, i12, i13, i14, i15, fun _ => ⟨a325, c325, rfl⟩, i17, i18, i19, i20, i21, i22, i23, i24, i25, i26, i27, fun z => Bool.noConfusion (show true = false from z), fun _ _ _ _ q16 => by cases (show some (.slice a325 (mgetD [] st106.2.1 x293.2.1).length c325 : Value) = some _ from q16); exact ⟨h325, mp41⟩, i30, i31⟩
                  · rintro D e s326 ⟨im, ib, i0, i1, i2, i3, i4, i5, i6, i7, i8, i9, i10, i11, i12, i13, i14, i15, i16, i17, i18, i19, i20, i21, i22, i23, i24, i25, i26, i27, i28, i29, i30, i31⟩ hk hf ha
                    refine L.kns [(12, .pointer (some ⟨b295, 0, none⟩))] ⟨(ib 12 _ rfl), trivial⟩ ?_
                    refine L.fa fa28_0 Wt.no rfl rfl ?_
                    refine L.nil ?_
                    refine X.dr (s := s326) (e' := (87, .pointer (some ⟨b295, 0, none⟩)) :: e) (Sub.both (Kn.sup ⟨(ib 12 _ rfl), trivial⟩)) ⟨im, Sub.fresh ib rfl, i0, i1, i2, i3, i4, i5, i6, i7, i8, i9, i10, i11, i12, i13, i14, i15, i16, fun _ => rfl, i18, i19, i20, i21, i22, i23, i24, i25, i26, i27, i28, i29, i30, i31⟩
                  · rintro D e s327 ⟨im, ib, i0, i1, i2, i3, i4, i5, i6, i7, i8, i9, i10, i11, i12, i13, i14, i15, i16, i17, i18, i19, i20, i21, i22, i23, i24, i25, i26, i27, i28, i29, i30, i31⟩ hk hf ha
                    obtain ⟨d17, -⟩ := ha
                    have g17_ := i17 d17
                    have bx295 := bx295.mv im (nor (fmN (by decide)) (nor (fmN (by decide)) (nor (tgN (by decide)) (tgN (by decide)))))
                    refine L.kns [(87, .pointer (some ⟨b295, 0, none⟩))] ⟨g17_, trivial⟩ ?_
                    refine L.ld (j := 0) bx295.mem nag3 Wt.no rfl rfl rfl rfl ?_
                    refine L.nil ?_
                    refine X.dr (s := s327) (e' := (88, .int .i64 x293.1) :: e) (Sub.both (Kn.sup ⟨g17_, trivial⟩)) ⟨im, Sub.fresh ib rfl, i0, i1, i2, i3, i4, i5, i6, i7, i8, i9, i10, i11, i12, i13, i14, i15, i16, i17, fun _ => rfl, i19, i20, i21, i22, i23, i24, i25, i26, i27, i28, i29, i30, i31⟩
                  · rintro D e s328 ⟨im, ib, i0, i1, i2, i3, i4, i5, i6, i7, i8, i9, i10, i11, i12, i13, i14, i15, i16, i17, i18, i19, i20, i21, i22, i23, i24, i25, i26, i27, i28, i29, i30, i31⟩ hk hf ha
                    obtain ⟨d17, d18, -⟩ := ha
                    have g18_ := i18 d18
                    refine L.kns [(88, .int .i64 x293.1)] ⟨g18_, trivial⟩ ?_
                    refine L.bsE (k := 1) (cs := [.int .i64 x293.1]) 0 bs23 (Nat.le_of_ble_eq_true rfl) Wt.no rfl rfl rfl rfl ?_
                    intro b329 s330 m331 bx329
                    have h329 := Bx.rdL (r := (rK .i64)) (xs := ([x293.1] : List Int)) bx329 ⟨[.int .i64 x293.1], _, rfl, rfl, rfl⟩ (Nat.le_of_ble_eq_true rfl)
                    refine L.nil ?_
                    refine X.dr (s := s330) (e' := (89, .slice (some ⟨b329, 0, none⟩) ([x293.1] : List Int).length (([x293.1] : List Int).length)) :: e) (Sub.both (Kn.sup ⟨g18_, trivial⟩)) ⟨im.trans m331.no, Sub.fresh ib rfl, i0, i1, i2, i3, i4, i5, i6, i7, i8, i9, i10, fun z => let ⟨b313, q, h313⟩ := i11 z; ⟨b313, q, (h313.mono (m331.le no_No))⟩, i12, i13, i14, i15, i16, i17, i18, fun _ => ⟨b329, rfl, h329⟩, i20, i21, i22, fun z2 => ((i23 z2).mv m331 no_No no_No (fun _ _ => no_No)), fun z z2 a310 c310 q9 => let ⟨h310, mp38⟩ := i24 z z2 a310 c310 q9; ⟨(h310.mv m331 no_No no_No), (mp38.mv m331 no_No no_No (fun _ _ => no_No))⟩, fun z z2 a318 c318 q12 => let ⟨h318, mp38⟩ := i25 z z2 a318 c318 q12; ⟨(h318.mv m331 no_No no_No), (mp38.mv m331 no_No no_No (fun _ _ => no_No))⟩, fun z z2 a318 c318 v338 w338 q12 q21 => let ⟨h318, mp38⟩ := i26 z z2 a318 c318 v338 w338 q12 q21; ⟨(h318.mv m331 no_No no_No), (mp38.mv m331 no_No no_No (fun _ _ => no_No))⟩, fun z => ((i27 z).mv m331 no_No no_No (fun _ _ => no_No)), fun z2 => ((i28 z2).mv m331 no_No no_No (fun _ _ => no_No)), fun z z2 a325 c325 q16 => let ⟨h325, mp41⟩ := i29 z z2 a325 c325 q16; ⟨(h325.mv m331 no_No no_No), (mp41.mv m331 no_No no_No (fun _ _ => no_No))⟩, fun z z2 a334 c334 q20 => let ⟨h334, mp41⟩ := i30 z z2 a334 c334 q20; ⟨(h334.mv m331 no_No no_No), (mp41.mv m331 no_No no_No (fun _ _ => no_No))⟩, fun z => ((i31 z).mv m331 no_No no_No (fun _ _ => no_No))⟩
                  · rintro D e s332 ⟨im, ib, i0, i1, i2, i3, i4, i5, i6, i7, i8, i9, i10, i11, i12, i13, i14, i15, i16, i17, i18, i19, i20, i21, i22, i23, i24, i25, i26, i27, i28, i29, i30, i31⟩ hk hf ha
                    obtain ⟨d6, d7, d8, d9, d10, d11, d12, d13, d14, d15, d16, d17, d18, d19, -⟩ := ha
                    obtain ⟨a325, c325, g16_⟩ := i16 d16
                    obtain ⟨b329, g19_, h329⟩ := i19 d19
                    obtain ⟨h325, mp41⟩ := i29 d16 hk a325 c325 g16_
                    refine L.kns [(86, .slice a325 (mgetD [] st106.2.1 x293.2.1).length c325), (89, .slice (some ⟨b329, 0, none⟩) ([x293.1] : List Int).length (([x293.1] : List Int).length))] ⟨g16_, g19_, trivial⟩ ?_
                    refine L.ap (r := (rK .i64)) Try.underlying23 el3 rfl (tgpF hN) h325 h329.wk Wt.no rfl rfl ex333 rfl ?_
                    intro a334 c334 s335 m336 h334
                    refine L.nil ?_
                    refine X.dr (s := s335) (e' := (90, .slice a334 x333.length c334) :: e) (Sub.both (Kn.sup ⟨g16_, g19_, trivial⟩)) ⟨im.trans (m336.one (.inr (.inl rfl))), Sub.fresh ib rfl, i0, i1, i2, i3, i4, i5, i6, i7, i8, i9, i10, fun z => let ⟨b313, q, h313⟩ := i11 z; ⟨b313, q, (h313.mono (m336.le (fm0 hN)))⟩, i12, i13, i14, i15, i16, i17, i18, fun z => let ⟨b329, q, h329⟩ := i19 z; ⟨b329, q, (h329.mono (m336.le (fm0 hN)))⟩, fun _ => ⟨a334, c334, rfl⟩, i21, i22, fun z2 => ((i23 z2).mv m336 (fmN (by decide)) (fm0 hN) (fun i ho => (fmQ (by decide)))), fun z z2 a310 c310 q9 => let ⟨h310, mp38⟩ := i24 z z2 a310 c310 q9; ⟨(h310.mv m336 (fmQ (by decide)) (fm0 hN)), (mp38.mv m336 (fmN (by decide)) (fm0 hN) (fun i ho => (fmQ (by decide))))⟩, fun z z2 a318 c318 q12 => let ⟨h318, mp38⟩ := i25 z z2 a318 c318 q12; ⟨(h318.mv m336 (fmQ (by decide)) (fm0 hN)), (mp38.mv m336 (fmN (by decide)) (fm0 hN) (fun i ho => (fmQ (by decide))))⟩, fun z z2 a318 c318 v338 w338 q12 q21 => let ⟨h318, mp38⟩ := i26 z z2 a318 c318 v338 w338 q12 q21; ⟨(h318.mv m336 (fmQ (by decide)) (fm0 hN)), (mp38.mv m336 (fmN (by decide)) (fm0 hN) (fun i ho => (fmQ (by decide))))⟩, fun z => ((i27 z).mv m336 (fmN (by decide)) (fm0 hN) (fun i ho => (fmQ (by decide)))), fun z2 => absurd (show D 16 = false from z2) (by rw [d16]; exact Bool.noConfusion), fun _ z => Bool.noConfusion (show true = false from z), fun _ _ _ _ q20 => by cases (show some (.slice a334 x333.length c334 : Value) = some _ from q20); exact ⟨h334, (mp41.mv m336 (fmN (by decide)) (fm0 hN) (fun i ho => (fam_ne (Ne.symm (ho _ rfl)))))⟩, fun z => Bool.noConfusion ((hf 24 (Nat.le_of_ble_eq_true rfl) rfl).symm.trans z)⟩
                  · rintro D e s337 ⟨im, ib, i0, i1, i2, i3, i4, i5, i6, i7, i8, i9, i10, i11, i12, i13, i14, i15, i16, i17, i18, i19, i20, i21, i22, i23, i24, i25, i26, i27, i28, i29, i30, i31⟩ hk hf ha
                    obtain ⟨d0, d1, d2, d6, d7, d8, d9, d10, d11, d12, d13, d14, d15, d16, d17, d18, d19, d20, -⟩ := ha
                    have g0_ := i0 d0
                    have g2_ := i2 d2
                    obtain ⟨a318, c318, g12_⟩ := i12 d12
                    obtain ⟨h318, mp38⟩ := i25 d12 hk a318 c318 g12_
                    refine L.kns [(70, .map (some b38)), (72, .int .i64 x293.2.1)] ⟨g0_, g2_, trivial⟩ ?_
                    refine L.men (r := (rP (rK .i64) (rP (rK .i64) (rK .i64)))) mpt91 mp38 (fun _ => fam_neN (by decide)) (tpos hN) Wt.no rfl rfl rfl ?_
                    intro v338 w338 s339 m340 mp38
                    refine L.nil ?_
                    refine X.dr (s := s339) (e' := (91, .tuple #[v338, .int .i64 w338]) :: e) (Sub.both (Kn.sup ⟨g0_, g2_, trivial⟩)) ⟨im.trans (m340.one (.inr (.inr (.inl rfl)))), Sub.fresh ib rfl, i0, i1, i2, i3, i4, i5, i6, i7, i8, i9, i10, fun z => let ⟨b313, q, h313⟩ := i11 z; ⟨b313, q, (h313.mono (m340.le (tg0 hN)))⟩, i12, i13, i14, i15, i16, i17, i18, fun z => let ⟨b329, q, h329⟩ := i19 z; ⟨b329, q, (h329.mono (m340.le (tg0 hN)))⟩, i20, fun _ => ⟨v338, w338, rfl⟩, fun z => Bool.noConfusion ((hf 22 (Nat.le_of_ble_eq_true rfl) rfl).symm.trans z), fun z2 => absurd (show D 9 = false from z2) (by rw [d9]; exact Bool.noConfusion), fun z z2 a310 c310 q9 => absurd (show D 12 = false from z2) (by rw [d12]; exact Bool.noConfusion), fun _ z => Bool.noConfusion (show true = false from z), fun _ _ _ _ _ _ q12 q21 => by cases g12_.symm.trans q12; cases (show some (.tuple #[v338, .int .i64 w338] : Value) = some _ from q21); exact ⟨(h318.mv m340 (fmM (by decide)) (tg0 hN)), mp38⟩, fun z => Bool.noConfusion ((hf 23 (Nat.le_of_ble_eq_true rfl) rfl).symm.trans z), fun z2 => ((i28 z2).mv m340 (tgN (by decide)) (tg0 hN) (fun i ho => (fmM (by decide)))), fun z z2 a325 c325 q16 => let ⟨h325, mp41⟩ := i29 z z2 a325 c325 q16; ⟨(h325.mv m340 (fmM (by decide)) (tg0 hN)), (mp41.mv m340 (tgN (by decide)) (tg0 hN) (fun i ho => (fmM (by decide))))⟩, fun z z2 a334 c334 q20 => let ⟨h334, mp41⟩ := i30 z z2 a334 c334 q20; ⟨(h334.mv m340 (fmM (by decide)) (tg0 hN)), (mp41.mv m340 (tgN (by decide)) (tg0 hN) (fun i ho => (fmM (by decide))))⟩, fun z => ((i31 z).mv m340 (tgN (by decide)) (tg0 hN) (fun i ho => (fmM (by decide))))⟩
                  · rintro D e s341 ⟨im, ib, i0, i1, i2, i3, i4, i5, i6, i7, i8, i9, i10, i11, i12, i13, i14, i15, i16, i17, i18, i19, i20, i21, i22, i23, i24, i25, i26, i27, i28, i29, i30, i31⟩ hk hf ha
                    obtain ⟨d0, d1, d2, d6, d7, d8, d9, d10, d11, d12, d13, d14, d15, d16, d17, d18, d19, d20, d21, -⟩ := ha
                    obtain ⟨v338, w338, g21_⟩ := i21 d21
                    refine L.kns [(91, .tuple #[v338, .int .i64 w338])] ⟨g21_, trivial⟩ ?_
                    refine L.ex Wt.no rfl rfl rfl ?_
                    refine L.nil ?_
                    refine X.dr (s := s341) (e' := (92, .int .i64 w338) :: e) (Sub.both (Kn.sup ⟨g21_, trivial⟩)) ⟨im, Sub.fresh ib rfl, i0, i1, i2, i3, i4, i5, i6, i7, i8, i9, i10, i11, i12, i13, i14, i15, i16, i17, i18, i19, i20, i21, fun _ _ _ q21 => by cases g21_.symm.trans q21; exact rfl, i23, i24, i25, i26, i27, i28, i29, i30, i31⟩
                  · rintro D e s342 ⟨im, ib, i0, i1, i2, i3, i4, i5, i6, i7, i8, i9, i10, i11, i12, i13, i14, i15, i16, i17, i18, i19, i20, i21, i22, i23, i24, i25, i26, i27, i28, i29, i30, i31⟩ hk hf ha
                    obtain ⟨d0, d1, d2, d6, d7, d8, d9, d10, d11, d12, d13, d14, d15, d16, d17, d18, d19, d20, d21, d22, -⟩ := ha
                    have g0_ := i0 d0
                    obtain ⟨a318, c318, g12_⟩ := i12 d12
                    obtain ⟨v338, w338, g21_⟩ := i21 d21
                    have g22_ := i22 d22 v338 w338 g21_
                    obtain ⟨h318, mp38⟩ := i26 d21 hk a318 c318 v338 w338 g12_ g21_
                    refine L.kns [(70, .map (some b38)), (92, .int .i64 w338), (82, .slice a318 x317.length c318)] ⟨g0_, g22_, g12_, trivial⟩ ?_
                    refine L.mes (r := (rP (rK .i64) (rP (rK .i64) (rK .i64)))) mp38 h318 (fun _ => fam_neN (by decide)) (tpos hN) Wt.no rfl rfl rfl ?_
                    intro s343 m344 mp38
                    refine L.nil ?_
                    refine X.dr (s := s343) (e' := e) (Kn.sup ⟨g0_, g22_, g12_, trivial⟩) ⟨im.trans (m344.one (.inr (.inr (.inl rfl)))), ib, i0, i1, i2, i3, i4, i5, i6, i7, i8, i9, i10, fun z => let ⟨b313, q, h313⟩ := i11 z; ⟨b313, q, (h313.mono (m344.le (tg0 hN)))⟩, i12, i13, i14, i15, i16, i17, i18, fun z => let ⟨b329, q, h329⟩ := i19 z; ⟨b329, q, (h329.mono (m344.le (tg0 hN)))⟩, i20, i21, i22, fun z2 => absurd (show D 9 = false from z2) (by rw [d9]; exact Bool.noConfusion), fun z z2 a310 c310 q9 => absurd (show D 12 = false from z2) (by rw [d12]; exact Bool.noConfusion), fun z z2 a318 c318 q12 => absurd (show D 21 = false from z2) (by rw [d21]; exact Bool.noConfusion), fun _ z => Bool.noConfusion (show true = false from z), fun _ => by exact mp38, fun z2 => ((i28 z2).mv m344 (tgN (by decide)) (tg0 hN) (fun i ho => (fmM (by decide)))), fun z z2 a325 c325 q16 => let ⟨h325, mp41⟩ := i29 z z2 a325 c325 q16; ⟨(h325.mv m344 (fmM (by decide)) (tg0 hN)), (mp41.mv m344 (tgN (by decide)) (tg0 hN) (fun i ho => (fmM (by decide))))⟩, fun z z2 a334 c334 q20 => let ⟨h334, mp41⟩ := i30 z z2 a334 c334 q20; ⟨(h334.mv m344 (fmM (by decide)) (tg0 hN)), (mp41.mv m344 (tgN (by decide)) (tg0 hN) (fun i ho => (fmM (by decide))))⟩, fun z => ((i31 z).mv m344 (tgN (by decide)) (tg0 hN) (fun i ho => (fmM (by decide))))⟩
                  · rintro D e s345 ⟨im, ib, i0, i1, i2, i3, i4, i5, i6, i7, i8, i9, i10, i11, i12, i13, i14, i15, i16, i17, i18, i19, i20, i21, i22, i23, i24, i25, i26, i27, i28, i29, i30, i31⟩ hk hf ha
                    obtain ⟨d0, d1, d2, d3, d4, d5, d6, d7, d8, d9, d10, d11, d12, d13, d14, d15, d16, d17, d18, d19, d20, d21, d22, d23, -⟩ := ha
                    have g3_ := i3 d3
                    have g5_ := i5 d5
                    obtain ⟨a334, c334, g20_⟩ := i20 d20
                    obtain ⟨h334, mp41⟩ := i30 d20 hk a334 c334 g20_
                    refine L.kns [(73, .map (some b41)), (75, .int .i64 x293.2.1), (90, .slice a334 x333.length c334)] ⟨g3_, g5_, g20_, trivial⟩ ?_
                    refine L.mup (r := (rK .i64)) mpt92 mp41 h334 (fun _ => fam_neN (by decide)) (tpos hN) Wt.no rfl rfl rfl ?_
                    intro s346 m347 mp41
                    refine L.nil ?_
                    refine X.dr (s := s346) (e' := e) (Kn.sup ⟨g3_, g5_, g20_, trivial⟩) ⟨im.trans (m347.one (.inr (.inr (.inr rfl)))), ib, i0, i1, i2, i3, i4, i5, i6, i7, i8, i9, i10, fun z => let ⟨b313, q, h313⟩ := i11 z; ⟨b313, q, (h313.mono (m347.le (tg0 hN)))⟩, i12, i13, i14, i15, i16, i17, i18, fun z => let ⟨b329, q, h329⟩ := i19 z; ⟨b329, q, (h329.mono (m347.le (tg0 hN)))⟩, i20, i21, i22, fun z2 => ((i23 z2).mv m347 (tgN (by decide)) (tg0 hN) (fun i ho => (fmM (by decide)))), fun z z2 a310 c310 q9 => let ⟨h310, mp38⟩ := i24 z z2 a310 c310 q9; ⟨(h310.mv m347 (fmM (by decide)) (tg0 hN)), (mp38.mv m347 (tgN (by decide)) (tg0 hN) (fun i ho => (fmM (by decide))))⟩, fun z z2 a318 c318 q12 => let ⟨h318, mp38⟩ := i25 z z2 a318 c318 q12; ⟨(h318.mv m347 (fmM (by decide)) (tg0 hN)), (mp38.mv m347 (tgN (by decide)) (tg0 hN) (fun i ho => (fmM (by decide))))⟩, fun z z2 a318 c318 v338 w338 q12 q21 => let ⟨h318, mp38⟩ := i26 z z2 a318 c318 v338 w338 q12 q21; ⟨(h318.mv m347 (fmM (by decide)) (tg0 hN)), (mp38.mv m347 (tgN (by decide)) (tg0 hN) (fun i ho => (fmM (by decide))))⟩, fun z => ((i27 z).mv m347 (tgN (by decide)) (tg0 hN) (fun i ho => (fmM (by decide)))), fun z2 => absurd (show D 16 = false from z2) (by rw [d16]; exact Bool.noConfusion), fun z z2 a325 c325 q16 => absurd (show D 20 = false from z2) (by rw [d20]; exact Bool.noConfusion), fun _ z => Bool.noConfusion (show true = false from z), fun _ => by exact mp41⟩
                · rintro D e s348 hD ⟨im, ib, i0, i1, i2, i3, i4, i5, i6, i7, i8, i9, i10, i11, i12, i13, i14, i15, i16, i17, i18, i19, i20, i21, i22, i23, i24, i25, i26, i27, i28, i29, i30, i31⟩
                  obtain mp38 := i27 (hD 23 rfl)
                  obtain mp41 := i31 (hD 24 rfl)
                  have h3 := h3.mono (im.le (nor (fm0 hN) (nor (fm0 hN) (nor (tg0 hN) (tg0 hN)))))
                  have bx35 := bx35.mv im (nor (fmN (by decide)) (nor (fmN (by decide)) (nor (tgN (by decide)) (tgN (by decide)))))
                  have bx12 := bx12.mv im (nor (fmN (by decide)) (nor (fmN (by decide)) (nor (tgN (by decide)) (tgN (by decide)))))
                  have bx9 := bx9.mv im (nor (fmN (by decide)) (nor (fmN (by decide)) (nor (tgN (by decide)) (tgN (by decide)))))
                  have h1 := h1.mono (im.le (nor (fm0 hN) (nor (fm0 hN) (nor (tg0 hN) (tg0 hN)))))
                  have h2 := h2.mono (im.le (nor (fm0 hN) (nor (fm0 hN) (nor (tg0 hN) (tg0 hN)))))
                  have h4 := h4.mono (im.le (nor (fm0 hN) (nor (fm0 hN) (nor (tg0 hN) (tg0 hN)))))
                  have m0 := m0.trans (im.weak fun _ e => by rcases e with e | e | e | e; (rw [e]; exact upF); (rw [e]; exact upF); (rw [e]; exact up); (rw [e]; exact up))
                  refine X.sub (e' := [(66, .int .i64 st106.1), (65, .int .i64 (p0.2.2.2.length : Int)), (64, .slice a3 p0.2.2.2.length c3), (10, .map (some b41)), (9, .map (some b38)), (8, .pointer (some ⟨b35, 0, none⟩)), (4, .pointer (some ⟨b12, 0, none⟩)), (2, .pointer (some ⟨b9, 0, none⟩)), (1, .slice a4 p1.length c4)]) ?_ (Sub.cons (ib 66 _ rfl) (Sub.cons (ib 65 _ rfl) (Sub.cons (ib 64 _ rfl) (Sub.cons (ib 10 _ rfl) (Sub.cons (ib 9 _ rfl) (Sub.cons (ib 8 _ rfl) (Sub.cons (ib 4 _ rfl) (Sub.cons (ib 2 _ rfl) (Sub.cons (ib 1 _ rfl) Sub.nil)))))))))
                  refine X.blkN ?_
                  refine X.seqN ?_
                  refine E.reg ?_
                  refine L.bi Wt.no rfl rfl rfl rfl ?_
                  refine L.mv Wt.no rfl rfl ?_
                  refine L.nil ?_
                  exact X.sub (ih106 _ (Option.some.inj hm).symm _ _ ⟨s348, m0, h3, mp41, mp38, h4, h1, h2, bx9, bx12, bx35, rfl, rfl⟩) (Sub.cons rfl (Sub.cons rfl (Sub.cons rfl (Sub.cons rfl (Sub.cons rfl (Sub.cons rfl (Sub.cons rfl (Sub.cons rfl (Sub.cons rfl Sub.nil)))))))))
              · refine E.cF rfl hc ?_
                refine E.exit ?_
                refine X.seqX ?_
                refine X.seqX ?_
                have hx := ho106 _ (Option.some.inj hm).symm
                subst hx
                exact X.sub (K292 _ _ ⟨s109, m0, mp41, mp38, h4, h1, h2, h3, bx9, bx12, bx35, rfl, rfl⟩) (Sub.cons rfl (Sub.cons rfl (Sub.cons rfl (Sub.cons rfl (Sub.cons rfl (Sub.cons rfl Sub.nil))))))
          · intro J349
            rcases Bool.eq_false_or_eq_true (decide (p0.2.1 > 64)) with hc | hc
            · refine L.know (d := 46) rfl hc ?_
              refine L.skip rfl rfl rfl rfl ?_
              refine L.skip rfl rfl rfl rfl ?_
              refine L.skip rfl rfl rfl rfl ?_
              refine L.skip rfl rfl rfl rfl ?_
              refine L.pkT Wt.no rfl rfl rfl rfl ?_
              exact L.sub (Sub.cons rfl (Sub.cons rfl (Sub.cons rfl (Sub.cons rfl Sub.nil)))) (J349 _ _ ⟨true, (orT hc).symm, rfl, rfl⟩)
            · refine L.know (d := 46) rfl hc ?_
              refine L.fa fa26_3 (Wt.mk rfl rfl) rfl rfl ?_
              refine L.ld (j := 3) bx9.mem nag24 (Wt.mk rfl rfl) rfl rfl rfl rfl ?_
              refine L.len sl24 (Wt.mk rfl rfl) rfl rfl ?_
              refine L.bi (Wt.mk rfl rfl) rfl rfl rfl rfl ?_
              refine L.pkF Wt.no rfl rfl rfl rfl ?_
              exact L.sub (Sub.cons rfl (Sub.cons rfl (Sub.cons rfl (Sub.cons rfl Sub.nil)))) (J349 _ _ ⟨(decide ((p0.2.2.2.length : Int) > 256)), (orF hc).symm, rfl, rfl⟩)

theorem fa32_0 : FA Try.prog 32 0 0 := FA.mk Try.underlying32 rfl rfl ⟨1, by decide, by kernel_rfl⟩
theorem fa32_1 : FA Try.prog 32 1 1 := FA.mk Try.underlying32 rfl rfl ⟨1, by decide, by kernel_rfl⟩
theorem fa32_2 : FA Try.prog 32 2 2 := FA.mk Try.underlying32 rfl rfl ⟨1, by decide, by kernel_rfl⟩
theorem fa32_3 : FA Try.prog 32 3 3 := FA.mk Try.underlying32 rfl rfl ⟨1, by decide, by kernel_rfl⟩
theorem fa32_4 : FA Try.prog 32 4 4 := FA.mk Try.underlying32 rfl rfl ⟨1, by decide, by kernel_rfl⟩
theorem nag29 : NAg Try.prog 29 := NAg.mk' Try.underlying29 rfl (by kernel_rfl)
theorem pl130 : Pl Try.prog 130 (plK 1 3 0) [.int .i64 0, .int .i64 0, .int .i64 0] := Pl.arr Try.underlying130 (by kernel_rfl) (by kernel_rfl)
noncomputable def m_instruction_checkHead_l1 (p0 : Int × Int × Int × List Bool × (List (Int × Int))) (st11 : Int) : Option (Int ⊕ (Unit ⊕ Unit)) :=
  if decide (st11 < 3) then
    (idx ([p0.1, p0.2.1, p0.2.2.1] : List Int) st11).bind fun x19 =>
    if ((decide (x19 < 0)) || (decide (x19 > 256))) then
      some (.inr (.inr (())))
    else
      some (.inl (W (st11 + 1)))
  else
    some (.inr (.inl ()))
/-- What instruction.checkHead computes. -/
noncomputable def m_instruction_checkHead (p0 : Int × Int × Int × List Bool × (List (Int × Int))) : Option Int :=
  (iter (m_instruction_checkHead_l1 p0) 0).bind fun o11 =>
  match o11 with
  | .inl u13 =>
    if ((p0.2.2.2.1.length : Int) != p0.2.2.1) then
      some 4
    else
      if decide ((p0.2.2.2.2.length : Int) > 2048) then
        some 3
      else
        some 0
  | .inr (u16) =>
    some 2
set_option maxRecDepth 100000 in
set_option maxHeartbeats 8000000 in
theorem m_instruction_checkHead_c {s : Sig} {p0 : Int × Int × Int × List Bool × (List (Int × Int))} {a1 : Option Addr} {c1 : Nat} {a2 : Option Addr} {c2 : Nat} {r : Int} (h1 : RdL rB s a1 c1 p0.2.2.2.1) (h2 : RdL (rP (rK .i64) (rK .i64)) s a2 c2 p0.2.2.2.2) (hm : m_instruction_checkHead p0 = some r) :
    Calls Try.prog 57 #[.agg #[.int .i64 p0.1, .int .i64 p0.2.1, .int .i64 p0.2.2.1, .slice a1 p0.2.2.2.1.length c1, .slice a2 p0.2.2.2.2.length c2]] s.w (RetS No s fun v s' => v = .int .i64 r) := by
  unfold m_instruction_checkHead at hm
  obtain ⟨N, hN, hNb⟩ := s.fresh
  have m0 : Mv (Up N No) s s := Mv.refl _ _
  refine E.entry (vs := [.agg #[.int .i64 p0.1, .int .i64 p0.2.1, .int .i64 p0.2.2.1, .slice a1 p0.2.2.2.1.length c1, .slice a2 p0.2.2.2.2.length c2]]) (e := [(0, .agg #[.int .i64 p0.1, .int .i64 p0.2.1, .int .i64 p0.2.2.1, .slice a1 p0.2.2.2.1.length c1, .slice a2 p0.2.2.2.2.length c2])]) Try.func57 rfl Try.ntmps57 rfl rfl ?_
  refine E.seq ?_
  refine E.reg ?_
  refine L.box (N + 0) Wt.no rfl rfl rfl ?_
  intro b3 s4 m5 bx3
  replace m0 := m0.trans m5.no
  replace h1 := h1.mono (m5.le no_No)
  replace h2 := h2.mono (m5.le no_No)
  refine L.as Wt.no rfl rfl ?_
  refine L.nil ?_
  refine X.seqN ?_
  refine E.seq ?_
  refine E.seq ?_
  refine E.reg ?_
  refine L.fa fa32_0 Wt.no rfl rfl ?_
  refine L.ld (j := 0) bx3.mem nag3 Wt.no rfl rfl rfl rfl ?_
  refine L.fa fa32_1 Wt.no rfl rfl ?_
  refine L.ld (j := 1) bx3.mem nag3 Wt.no rfl rfl rfl rfl ?_
  refine L.fa fa32_2 Wt.no rfl rfl ?_
  refine L.ld (j := 2) bx3.mem nag3 Wt.no rfl rfl rfl rfl ?_
  refine L.bu (cs := [.int .i64 p0.1, .int .i64 p0.2.1, .int .i64 p0.2.2.1]) pl130 Wt.no rfl rfl rfl ?_
  refine L.mv Wt.no rfl rfl ?_
  refine L.nil ?_
  refine X.seqN ?_
  refine E.block ?_
  obtain ⟨o11, eo11, hm⟩ := bindS hm
  refine E.cut (x := .exit 0) (fun e w => ∃ (s14 : Sig) (u13 : Unit), o11 = .inl u13 ∧ Mv (Up N No) s s14 ∧ RdL rB s14 a1 c1 p0.2.2.2.1 ∧ RdL (rP (rK .i64) (rK .i64)) s14 a2 c2 p0.2.2.2.2 ∧ Bx s14 (N + 0) b3 #[.int .i64 p0.1, .int .i64 p0.2.1, .int .i64 p0.2.2.1, .slice a1 p0.2.2.2.1.length c1, .slice a2 p0.2.2.2.2.length c2] 32 ∧ e = [(1, .pointer (some ⟨b3, 0, none⟩))] ∧ w = s14.w) ?_ ?_
  · rintro _ _ ⟨s14, u13, rfl, m0, h1, h2, bx3, rfl, rfl⟩
    dsimp only at hm
    refine X.blkE ?_
    refine X.seqN ?_
    refine E.seq ?_
    refine E.block ?_
    refine E.seq ?_
    refine E.reg ?_
    refine L.fa fa32_3 Wt.no rfl rfl ?_
    refine L.ld (j := 3) bx3.mem nag29 Wt.no rfl rfl rfl rfl ?_
    refine L.len sl29 Wt.no rfl rfl ?_
    refine L.fa fa32_2 Wt.no rfl rfl ?_
    refine L.ld (j := 2) bx3.mem nag3 Wt.no rfl rfl rfl rfl ?_
    refine L.bi Wt.no rfl rfl rfl rfl ?_
    refine L.as Wt.no rfl rfl ?_
    refine L.nil ?_
    refine X.seqN ?_
    rcases ifS hm with ⟨hc, hm⟩ | ⟨hc, hm⟩
    · refine E.cT rfl hc ?_
      refine E.seq ?_
      refine E.reg ?_
      refine L.as Wt.no rfl rfl ?_
      refine L.nil ?_
      refine X.seqN ?_
      refine E.ret ?_
      refine X.blkR ?_
      refine X.seqR ?_
      obtain rfl := Option.some.inj hm
      exact X.rt (.inl rfl) Try.results57 (Rs.tmp rfl Rs.nil) rfl ⟨_, (s14).ren N (fun _ => 0), rfl, rfl, m0.ren hNb, rfl⟩
    · refine E.cF rfl hc ?_
      refine E.seq ?_
      refine E.reg ?_
      refine L.fa fa32_4 Wt.no rfl rfl ?_
      refine L.ld (j := 4) bx3.mem nag30 Wt.no rfl rfl rfl rfl ?_
      refine L.len sl30 Wt.no rfl rfl ?_
      refine L.bi Wt.no rfl rfl rfl rfl ?_
      refine L.as Wt.no rfl rfl ?_
      refine L.nil ?_
      refine X.seqN ?_
      rcases ifS hm with ⟨hc, hm⟩ | ⟨hc, hm⟩
      · refine E.cT rfl hc ?_
        refine E.seq ?_
        refine E.reg ?_
        refine L.as Wt.no rfl rfl ?_
        refine L.nil ?_
        refine X.seqN ?_
        refine E.ret ?_
        refine X.blkR ?_
        refine X.seqR ?_
        obtain rfl := Option.some.inj hm
        exact X.rt (.inl rfl) Try.results57 (Rs.tmp rfl Rs.nil) rfl ⟨_, (s14).ren N (fun _ => 0), rfl, rfl, m0.ren hNb, rfl⟩
      · refine E.cF rfl hc ?_
        refine E.skip ?_
        refine X.blkN ?_
        refine X.seqN ?_
        refine E.seq ?_
        refine E.reg ?_
        refine L.as Wt.no rfl rfl ?_
        refine L.nil ?_
        refine X.seqN ?_
        refine E.ret ?_
        obtain rfl := Option.some.inj hm
        exact X.rt (.inl rfl) Try.results57 (Rs.tmp rfl Rs.nil) rfl ⟨_, (s14).ren N (fun _ => 0), rfl, rfl, m0.ren hNb, rfl⟩
  intro K15
  refine E.cut (x := .ret) (fun e w => ∃ (s17 : Sig) (u16 : Unit), o11 = .inr (u16) ∧ Mv (Up N No) s s17 ∧ e = [(2, .int .i64 2)] ∧ w = s17.w) ?_ ?_
  · rintro _ _ ⟨s17, u16, rfl, m0, rfl, rfl⟩
    dsimp only at hm
    refine X.blkR ?_
    refine X.seqR ?_
    obtain rfl := Option.some.inj hm
    exact X.rt (.inl rfl) Try.results57 (Rs.tmp rfl Rs.nil) rfl ⟨_, (s17).ren N (fun _ => 0), rfl, rfl, m0.ren hNb, rfl⟩
  intro K18
  refine E.iter (fun (st11 : Int) (e : List (Nat × Value)) (w : World) => ∃ (s12 : Sig), Mv (Up N No) s s12 ∧ RdL rB s12 a1 c1 p0.2.2.2.1 ∧ RdL (rP (rK .i64) (rK .i64)) s12 a2 c2 p0.2.2.2.2 ∧ Bx s12 (N + 0) b3 #[.int .i64 p0.1, .int .i64 p0.2.1, .int .i64 p0.2.2.1, .slice a1 p0.2.2.2.1.length c1, .slice a2 p0.2.2.2.2.length c2] 32 ∧ e = [(12, .int .i64 st11), (11, .agg #[.int .i64 p0.1, .int .i64 p0.2.1, .int .i64 p0.2.2.1]), (1, .pointer (some ⟨b3, 0, none⟩))] ∧ w = s12.w) eo11 ⟨s4, m0, h1, h2, bx3, rfl, rfl⟩ (Sub.cons rfl (Sub.cons rfl (Sub.cons rfl Sub.nil))) ?_
  rintro st11 res11 hm ih11 ho11 _ _ ⟨s12, m0, h1, h2, bx3, rfl, rfl⟩
  unfold m_instruction_checkHead_l1 at hm
  refine E.seq ?_
  refine E.reg ?_
  refine L.bi Wt.no rfl rfl rfl rfl ?_
  refine L.nil ?_
  refine X.seqN ?_
  refine E.seq ?_
  rcases ifS hm with ⟨hc, hm⟩ | ⟨hc, hm⟩
  · refine E.cT rfl hc ?_
    refine E.skip ?_
    refine X.seqN ?_
    refine E.seq ?_
    refine E.block ?_
    refine E.seq ?_
    refine E.reg ?_
    obtain ⟨x19, ex19, hm⟩ := bindS hm
    refine L.in1 (v := Value.int .i64 x19) (vs := [.int .i64 p0.1, .int .i64 p0.2.1, .int .i64 p0.2.2.1]) nag3.sz nag3.agg Try.underlying130 Wt.no rfl rfl rfl (show idx [Value.int .i64 p0.1, Value.int .i64 p0.2.1, Value.int .i64 p0.2.2.1] st11 = some (Value.int .i64 x19) from idx_map (f := fun z => Value.int .i64 z) ex19) rfl ?_
    refine L.as Wt.no rfl rfl ?_
    refine L.nil ?_
    refine X.seqN ?_
    refine E.seq ?_
    refine E.reg ?_
    refine L.mv Wt.no rfl rfl ?_
    refine L.bi Wt.no rfl rfl rfl rfl ?_
    refine L.mv Wt.no rfl rfl ?_
    refine L.cut 3 (fun e w => ∃ (v20 : Bool), ((decide (x19 < 0)) || (decide (x19 > 256))) = v20 ∧ e = (20, .bool v20) :: [(12, .int .i64 st11), (11, .agg #[.int .i64 p0.1, .int .i64 p0.2.1, .int .i64 p0.2.2.1]), (1, .pointer (some ⟨b3, 0, none⟩))] ∧ w = s12.w) ?_ ?_
    · rintro _ _ ⟨v20, rfl, rfl, rfl⟩
      refine L.nil ?_
      refine X.seqN ?_
      rcases ifS hm with ⟨hc, hm⟩ | ⟨hc, hm⟩
      · refine E.cT rfl hc ?_
        refine E.seq ?_
        refine E.reg ?_
        refine L.as Wt.no rfl rfl ?_
        refine L.nil ?_
        refine X.seqN ?_
        refine E.ret ?_
        refine X.blkR ?_
        refine X.seqR ?_
        refine X.seqR ?_
        have hx := ho11 _ (Option.some.inj hm).symm
        exact X.sub (K18 _ _ ⟨s12, (), hx.symm, m0, rfl, rfl⟩) (Sub.cons rfl Sub.nil)
      · refine E.cF rfl hc ?_
        refine E.skip ?_
        refine X.blkN ?_
        refine X.seqN ?_
        refine E.reg ?_
        refine L.bi Wt.no rfl rfl rfl rfl ?_
        refine L.mv Wt.no rfl rfl ?_
        refine L.nil ?_
        exact X.sub (ih11 _ (Option.some.inj hm).symm _ _ ⟨s12, m0, h1, h2, bx3, rfl, rfl⟩) (Sub.cons rfl (Sub.cons rfl (Sub.cons rfl Sub.nil)))
    · intro J21
      rcases Bool.eq_false_or_eq_true (decide (x19 < 0)) with hc | hc
      · refine L.know (d := 17) rfl hc ?_
        refine L.skip rfl rfl rfl rfl ?_
        refine L.skip rfl rfl rfl rfl ?_
        refine L.pkT Wt.no rfl rfl rfl rfl ?_
        exact L.sub (Sub.cons rfl (Sub.cons rfl (Sub.cons rfl (Sub.cons rfl Sub.nil)))) (J21 _ _ ⟨true, (orT hc).symm, rfl, rfl⟩)
      · refine L.know (d := 17) rfl hc ?_
        refine L.mv (Wt.mk rfl rfl) rfl rfl ?_
        refine L.bi (Wt.mk rfl rfl) rfl rfl rfl rfl ?_
        refine L.pkF Wt.no rfl rfl rfl rfl ?_
        exact L.sub (Sub.cons rfl (Sub.cons rfl (Sub.cons rfl (Sub.cons rfl Sub.nil)))) (J21 _ _ ⟨(decide (x19 > 256)), (orF hc).symm, rfl, rfl⟩)
  · refine E.cF rfl hc ?_
    refine E.exit ?_
    refine X.seqX ?_
    refine X.seqX ?_
    have hx := ho11 _ (Option.some.inj hm).symm
    exact X.sub (K15 _ _ ⟨s12, (), hx.symm, m0, h1, h2, bx3, rfl, rfl⟩) (Sub.cons rfl Sub.nil)

/-- What instruction.operations$1 computes. -/
noncomputable def m_instruction_operations_1 (p0 : Bool) (p1 : Bool) : Option Bool :=
  some p1
set_option maxRecDepth 100000 in
set_option maxHeartbeats 8000000 in
theorem m_instruction_operations_1_c {s : Sig} {p0 : Bool} {p1 : Bool} {r : Bool} (hm : m_instruction_operations_1 p0 p1 = some r) :
    Calls Try.prog 87 #[.bool p0, .bool p1] s.w (RetS No s fun v s' => v = .bool r) := by
  unfold m_instruction_operations_1 at hm
  obtain ⟨N, hN, hNb⟩ := s.fresh
  have m0 : Mv (Up N No) s s := Mv.refl _ _
  refine E.entry (vs := [.bool p0, .bool p1]) (e := [(0, .bool p0), (1, .bool p1)]) Try.func87 rfl Try.ntmps87 rfl rfl ?_
  refine E.seq ?_
  refine E.reg ?_
  refine L.as Wt.no rfl rfl ?_
  refine L.nil ?_
  refine X.seqN ?_
  refine E.seq ?_
  refine E.reg ?_
  refine L.mv Wt.no rfl rfl ?_
  refine L.as Wt.no rfl rfl ?_
  refine L.nil ?_
  refine X.seqN ?_
  refine E.ret ?_
  obtain rfl := Option.some.inj hm
  exact X.rt (.inl rfl) Try.results87 (Rs.tmp rfl Rs.nil) rfl ⟨_, (s).ren N (fun _ => 0), rfl, rfl, m0.ren hNb, rfl⟩

/-- What instruction.operations$2 computes. -/
noncomputable def m_instruction_operations_2 (p0 : Bool) (p1 : Bool) : Option Bool :=
  some (!p1)
set_option maxRecDepth 100000 in
set_option maxHeartbeats 8000000 in
theorem m_instruction_operations_2_c {s : Sig} {p0 : Bool} {p1 : Bool} {r : Bool} (hm : m_instruction_operations_2 p0 p1 = some r) :
    Calls Try.prog 88 #[.bool p0, .bool p1] s.w (RetS No s fun v s' => v = .bool r) := by
  unfold m_instruction_operations_2 at hm
  obtain ⟨N, hN, hNb⟩ := s.fresh
  have m0 : Mv (Up N No) s s := Mv.refl _ _
  refine E.entry (vs := [.bool p0, .bool p1]) (e := [(0, .bool p0), (1, .bool p1)]) Try.func88 rfl Try.ntmps88 rfl rfl ?_
  refine E.seq ?_
  refine E.reg ?_
  refine L.as Wt.no rfl rfl ?_
  refine L.nil ?_
  refine X.seqN ?_
  refine E.seq ?_
  refine E.reg ?_
  refine L.mv Wt.no rfl rfl ?_
  refine L.not Wt.no rfl rfl ?_
  refine L.as Wt.no rfl rfl ?_
  refine L.nil ?_
  refine X.seqN ?_
  refine E.ret ?_
  obtain rfl := Option.some.inj hm
  exact X.rt (.inl rfl) Try.results88 (Rs.tmp rfl Rs.nil) rfl ⟨_, (s).ren N (fun _ => 0), rfl, rfl, m0.ren hNb, rfl⟩

end Go.Proofs.Ytkkemchihllklaa
