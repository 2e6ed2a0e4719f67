/- What some functions compute, as plain functions (m_..), and that the code computes it. Written by gen.py. -/
import Derived.Test.YtkkemchihllklaaG6
import Derived.Test.YtkkemchihllklaaProg
namespace Go.Proofs.Ytkkemchihllklaa
open Go Go.RowKit
theorem cf72 : Cf Try.prog 72 := Cf.mk Try.func72 (by kernel_rfl) (by kernel_rfl)
/-- What alphabet.Contains computes. -/
noncomputable def m_alphabet_Contains (p0 : List Int) (p1 : Int) : Option Bool :=
  (m_slices_BinarySearch_int p0 p1).bind fun r2 =>
  some r2.2
set_option maxRecDepth 100000 in
set_option maxHeartbeats 8000000 in
theorem m_alphabet_Contains_c {s : Sig} {p0 : List Int} {p1 : Int} {a1 : Option Addr} {c1 : Nat} {r : Bool} (h1 : RdL (rK .i64) s a1 c1 p0) (hm : m_alphabet_Contains p0 p1 = some r) :
    Calls Try.prog 52 #[.slice a1 p0.length c1, .int .i64 p1] s.w (RetS No s fun v s' => v = .bool r) := by
  unfold m_alphabet_Contains at hm
  obtain ⟨N, hN, hNb⟩ := s.fresh
  have m0 : Mv (Up N No) s s := Mv.refl _ _
  refine E.entry (vs := [.slice a1 p0.length c1, .int .i64 p1]) (e := [(0, .slice a1 p0.length c1), (1, .int .i64 p1)]) Try.func52 rfl Try.ntmps52 rfl rfl ?_
  refine E.seq ?_
  refine E.reg ?_
  refine L.as Wt.no rfl rfl ?_
  refine L.nil ?_
  refine X.seqN ?_
  refine E.seq ?_
  refine E.reg ?_
  refine L.mv Wt.no rfl rfl ?_
  refine L.mv Wt.no rfl rfl ?_
  obtain ⟨r2, er2, hm⟩ := bindS hm
  refine L.ca (vs := [.slice a1 p0.length c1, .int .i64 p1]) cf72 rfl rfl Wt.no rfl (m_slices_BinarySearch_int_c (s := s) (p0 := p0) (p1 := p1) h1 er2) rfl ?_
  rintro _ s3 m4 rfl
  replace m0 := m0.trans m4.no
  refine L.mv Wt.no rfl rfl ?_
  refine L.ex Wt.no rfl rfl rfl ?_
  refine L.ex Wt.no rfl rfl rfl ?_
  refine L.as Wt.no rfl rfl ?_
  refine L.as Wt.no rfl rfl ?_
  refine L.nil ?_
  refine X.seqN ?_
  refine E.seq ?_
  refine E.reg ?_
  refine L.mv Wt.no rfl rfl ?_
  refine L.as Wt.no rfl rfl ?_
  refine L.nil ?_
  refine X.seqN ?_
  refine E.ret ?_
  obtain rfl := Option.some.inj hm
  exact X.rt (.inl rfl) Try.results52 (Rs.tmp rfl Rs.nil) rfl ⟨_, (s3).ren N (fun _ => 0), rfl, rfl, m0.ren hNb, rfl⟩

theorem cf51 : Cf Try.prog 51 := Cf.mk Try.func51 (by kernel_rfl) (by kernel_rfl)
theorem cf52 : Cf Try.prog 52 := Cf.mk Try.func52 (by kernel_rfl) (by kernel_rfl)
theorem fa34_1 : FA Try.prog 34 1 5 := FA.mk Try.underlying34 rfl rfl ⟨1, by decide, by kernel_rfl⟩
noncomputable def m_generate_Inputs_l1 (p0 : (Int × Int × Int × List Bool × (List (Int × Int))) × List Int × List Int × Int) (p1 : List Int) (st31 : Int × List Bool) : Option ((Int × List Bool) ⊕ (List Bool)) :=
  if decide (st31.1 < (p0.2.1.length : Int)) then
    (idx p0.2.1 st31.1).bind fun x36 =>
    (m_alphabet_Contains p1 x36).bind fun r38 =>
    (idx st31.2 st31.1).bind fun x41 =>
    (upd st31.2 st31.1 r38).bind fun x43 =>
    some (.inl (W (st31.1 + 1), x43))
  else
    some (.inr st31.2)
/-- What generate.Inputs computes. -/
noncomputable def m_generate_Inputs (p0 : (Int × Int × Int × List Bool × (List (Int × Int))) × List Int × List Int × Int) (p1 : List Int) : Option (List Bool × Int) :=
  (m_generate_among p1 p0.2.1).bind fun r10 =>
  if (r10 != 0) then
    some (([] : List Bool), r10)
  else
    (mkL (p0.2.1.length : Int) false).bind fun x13 =>
    (iter (m_generate_Inputs_l1 p0 p1) (0, x13)).bind fun o31 =>
    some (o31, 0)
set_option maxRecDepth 100000 in
set_option maxHeartbeats 8000000 in
theorem m_generate_Inputs_c {s : Sig} {p0 : (Int × Int × Int × List Bool × (List (Int × Int))) × List Int × List Int × Int} {p1 : List Int} {a1 : Option Addr} {c1 : Nat} {a2 : Option Addr} {c2 : Nat} {a3 : Option Addr} {c3 : Nat} {a4 : Option Addr} {c4 : Nat} {a5 : Option Addr} {c5 : Nat} {u0 : Nat} {r : List Bool × Int} (h1 : RdL rB s a1 c1 p0.1.2.2.2.1) (h2 : RdL (rP (rK .i64) (rK .i64)) s a2 c2 p0.1.2.2.2.2) (h3 : RdL (rK .i64) s a3 c3 p0.2.1) (h4 : RdL (rK .i64) s a4 c4 p0.2.2.1) (h5 : RdL (rK .i64) s a5 c5 p1) (hm : m_generate_Inputs p0 p1 = some r) :
    Calls Try.prog 22 #[.agg #[.int .i64 p0.1.1, .int .i64 p0.1.2.1, .int .i64 p0.1.2.2.1, .slice a1 p0.1.2.2.2.1.length c1, .slice a2 p0.1.2.2.2.2.length c2, .slice a3 p0.2.1.length c3, .slice a4 p0.2.2.1.length c4, .int .i64 p0.2.2.2], .slice a5 p1.length c5] s.w (RetS No s fun v s' => ∃ (a6 : Option Addr) (c6 : Nat), v = .tuple #[.slice a6 r.1.length c6, .int .i64 r.2] ∧ RowT rB s' u0 4 a6 c6 r.1) := by
  unfold m_generate_Inputs at hm
  obtain ⟨N, hN, hNb⟩ := s.fresh
  have m0 : Mv (Up N No) s s := Mv.refl _ _
  refine E.entry (vs := [.agg #[.int .i64 p0.1.1, .int .i64 p0.1.2.1, .int .i64 p0.1.2.2.1, .slice a1 p0.1.2.2.2.1.length c1, .slice a2 p0.1.2.2.2.2.length c2, .slice a3 p0.2.1.length c3, .slice a4 p0.2.2.1.length c4, .int .i64 p0.2.2.2], .slice a5 p1.length c5]) (e := [(0, .agg #[.int .i64 p0.1.1, .int .i64 p0.1.2.1, .int .i64 p0.1.2.2.1, .slice a1 p0.1.2.2.2.1.length c1, .slice a2 p0.1.2.2.2.2.length c2, .slice a3 p0.2.1.length c3, .slice a4 p0.2.2.1.length c4, .int .i64 p0.2.2.2]), (1, .slice a5 p1.length c5)]) Try.func22 rfl Try.ntmps22 rfl rfl ?_
  refine E.seq ?_
  refine E.reg ?_
  refine L.box (N + 0) Wt.no rfl rfl rfl ?_
  intro b7 s8 m9 bx7
  replace m0 := m0.trans m9.no
  replace h5 := h5.mono (m9.le no_No)
  replace h1 := h1.mono (m9.le no_No)
  replace h2 := h2.mono (m9.le no_No)
  replace h3 := h3.mono (m9.le no_No)
  replace h4 := h4.mono (m9.le no_No)
  refine L.as Wt.no rfl rfl ?_
  refine L.as Wt.no rfl rfl ?_
  refine L.nil ?_
  refine X.seqN ?_
  refine E.seq ?_
  refine E.seq ?_
  refine E.reg ?_
  refine L.mv Wt.no rfl rfl ?_
  refine L.fa fa34_1 Wt.no rfl rfl ?_
  refine L.ld (j := 5) bx7.mem nag23 Wt.no rfl rfl rfl rfl ?_
  obtain ⟨r10, er10, hm⟩ := bindS hm
  refine L.ca (vs := [.slice a5 p1.length c5, .slice a3 p0.2.1.length c3]) cf51 rfl rfl Wt.no rfl (m_generate_among_c (s := s8) (p0 := p1) (p1 := p0.2.1) h5 h3 er10) rfl ?_
  rintro _ s11 m12 rfl
  replace m0 := m0.trans m12.no
  replace h5 := h5.mono (m12.le no_No)
  replace bx7 := bx7.mv m12 no_No
  replace h1 := h1.mono (m12.le no_No)
  replace h2 := h2.mono (m12.le no_No)
  replace h3 := h3.mono (m12.le no_No)
  replace h4 := h4.mono (m12.le no_No)
  refine L.as Wt.no rfl rfl ?_
  refine L.nil ?_
  refine X.seqN ?_
  refine E.seq ?_
  refine E.reg ?_
  refine L.mv Wt.no rfl rfl ?_
  refine L.bi Wt.no rfl rfl rfl rfl ?_
  refine L.nil ?_
  refine X.seqN ?_
  rcases ifS hm with ⟨hc, hm⟩ | ⟨hc, hm⟩
  · refine E.cT rfl hc ?_
    refine E.seq ?_
    refine E.reg ?_
    refine L.mv Wt.no rfl rfl ?_
    refine L.as Wt.no rfl rfl ?_
    refine L.as Wt.no rfl rfl ?_
    refine L.nil ?_
    refine X.seqN ?_
    refine E.ret ?_
    refine X.seqR ?_
    obtain rfl := Option.some.inj hm
    exact X.rt (.inl rfl) Try.results22 (Rs.tmp rfl (Rs.tmp rfl Rs.nil)) rfl ⟨_, (s11).ren N (fun _ => 0), rfl, rfl, m0.ren hNb, ⟨none, 0, rfl, RowT.nil⟩⟩
  · refine E.cF rfl hc ?_
    refine E.skip ?_
    refine X.seqN ?_
    refine E.seq ?_
    refine E.reg ?_
    refine L.fa fa34_1 Wt.no rfl rfl ?_
    refine L.ld (j := 5) bx7.mem nag23 Wt.no rfl rfl rfl rfl ?_
    refine L.len sl23 Wt.no rfl rfl ?_
    obtain ⟨x13, ex13, hm⟩ := bindS hm
    refine L.mk (z := false) (N + 1) Try.underlying29 zr4 rfl Wt.no rfl rfl ex13 rfl ?_
    intro b14 s15 m16 h14
    replace m0 := m0.trans m16.no
    replace h5 := h5.mono (m16.le no_No)
    replace bx7 := bx7.mv m16 no_No
    replace h1 := h1.mono (m16.le no_No)
    replace h2 := h2.mono (m16.le no_No)
    replace h3 := h3.mono (m16.le no_No)
    replace h4 := h4.mono (m16.le no_No)
    refine L.as Wt.no rfl rfl ?_
    refine L.nil ?_
    refine X.seqN ?_
    refine E.seq ?_
    refine E.seq ?_
    refine E.reg ?_
    refine L.fa fa34_1 Wt.no rfl rfl ?_
    refine L.ld (j := 5) bx7.mem nag23 Wt.no rfl rfl rfl rfl ?_
    refine L.len sl23 Wt.no rfl rfl ?_
    refine L.mv Wt.no rfl rfl ?_
    refine L.nil ?_
    refine X.seqN ?_
    refine E.block ?_
    obtain ⟨o31, eo31, hm⟩ := bindS hm
    refine E.cut (x := .exit 0) (fun e w => ∃ (s34 : Sig), Mv (Up N No) s s34 ∧ RowT rB s34 (N + 1) 4 (some ⟨b14, 0, none⟩) x13.length o31 ∧ e = [(7, .slice (some ⟨b14, 0, none⟩) o31.length x13.length)] ∧ w = s34.w) ?_ ?_
    · rintro _ _ ⟨s34, m0, h14, rfl, rfl⟩
      refine X.blkE ?_
      refine X.seqN ?_
      refine E.seq ?_
      refine E.reg ?_
      refine L.mv Wt.no rfl rfl ?_
      refine L.as Wt.no rfl rfl ?_
      refine L.as Wt.no rfl rfl ?_
      refine L.nil ?_
      refine X.seqN ?_
      refine E.ret ?_
      obtain rfl := Option.some.inj hm
      exact X.rt (.inl rfl) Try.results22 (Rs.tmp rfl (Rs.tmp rfl Rs.nil)) rfl ⟨_, (s34).ren N (fun k => cond (Nat.beq k 1) u0 (0)), rfl, rfl, m0.ren hNb, ⟨(some ⟨b14, 0, none⟩), x13.length, rfl, (h14.ren hN)⟩⟩
    intro K35
    refine E.iter (fun (st31 : Int × List Bool) (e : List (Nat × Value)) (w : World) => ∃ (s33 : Sig), Mv (Up N No) s s33 ∧ RdL (rK .i64) s33 a3 c3 p0.2.1 ∧ RowT rB s33 (N + 1) 4 (some ⟨b14, 0, none⟩) x13.length st31.2 ∧ RdL (rK .i64) s33 a5 c5 p1 ∧ e = [(24, .int .i64 st31.1), (23, .int .i64 (p0.2.1.length : Int)), (22, .slice a3 p0.2.1.length c3), (7, .slice (some ⟨b14, 0, none⟩) st31.2.length x13.length), (1, .slice a5 p1.length c5)] ∧ w = s33.w) eo31 ⟨s15, m0, h3, h14, h5, rfl, rfl⟩ (Sub.cons rfl (Sub.cons rfl (Sub.cons rfl (Sub.cons rfl (Sub.cons rfl Sub.nil))))) ?_
    rintro st31 res31 hm ih31 ho31 _ _ ⟨s33, m0, h3, h14, h5, rfl, rfl⟩
    unfold m_generate_Inputs_l1 at hm
    refine E.seq ?_
    refine E.reg ?_
    refine L.bi Wt.no rfl rfl rfl rfl ?_
    refine L.nil ?_
    refine X.seqN ?_
    refine E.seq ?_
    rcases ifS hm with ⟨hc, hm⟩ | ⟨hc, hm⟩
    · refine E.cT rfl hc ?_
      refine E.skip ?_
      refine X.seqN ?_
      refine E.seq ?_
      refine E.block ?_
      refine E.seq ?_
      refine E.reg ?_
      refine L.mv Wt.no rfl rfl ?_
      obtain ⟨x36, ex36, hm⟩ := bindS hm
      refine L.ix (r := (rK .i64)) sl23 h3 Wt.no rfl rfl ex36 rfl ?_
      rintro b37 o37 cc37 me37 rd37
      obtain rfl := rd37
      refine L.ld (j := 0) me37 nag3 Wt.no rfl rfl rfl rfl ?_
      refine L.as Wt.no rfl rfl ?_
      refine L.as Wt.no rfl rfl ?_
      refine L.nil ?_
      refine X.seqN ?_
      refine E.reg ?_
      refine L.mv Wt.no rfl rfl ?_
      refine L.mv Wt.no rfl rfl ?_
      refine L.mv Wt.no rfl rfl ?_
      refine L.mv Wt.no rfl rfl ?_
      obtain ⟨r38, er38, hm⟩ := bindS hm
      refine L.ca (vs := [.slice a5 p1.length c5, .int .i64 x36]) cf52 rfl rfl Wt.no rfl (m_alphabet_Contains_c (s := s33) (p0 := p1) (p1 := x36) h5 er38) rfl ?_
      rintro _ s39 m40 rfl
      replace m0 := m0.trans m40.no
      replace h5 := h5.mono (m40.le no_No)
      replace h14 := h14.mv m40 no_No no_No
      replace h3 := h3.mono (m40.le no_No)
      obtain ⟨x41, ex41, hm⟩ := bindS hm
      refine L.ir (r := rB) sl29 h14 Wt.no rfl rfl ex41 rfl ?_
      rintro b42 o42 cc42 me42 rd42 sp42
      obtain rfl := rd42
      obtain ⟨x43, ex43, hm⟩ := bindS hm
      have elx43 := upd_len ex43
      refine L.su (fo := 0) (c := [.bool r38]) (z := r38) h14 sp42 ex41 ex43 (tgp hN) nag4.sz Wt.no rfl rfl rfl rfl rfl rfl (fun c0 hc0 => by obtain rfl := hc0; exact rfl) ?_
      intro s44 m45 h14
      replace m0 := m0.trans (m45.one up)
      replace h5 := h5.mono (m45.le (tg0 hN))
      replace h3 := h3.mono (m45.le (tg0 hN))
      refine L.reval (d := 7) rfl elx43 ?_
      refine L.nil ?_
      refine X.blkN ?_
      refine X.seqN ?_
      refine E.reg ?_
      refine L.bi Wt.no rfl rfl rfl rfl ?_
      refine L.mv Wt.no rfl rfl ?_
      refine L.nil ?_
      exact X.sub (ih31 _ (Option.some.inj hm).symm _ _ ⟨s44, m0, h3, h14, h5, rfl, rfl⟩) (Sub.cons rfl (Sub.cons rfl (Sub.cons rfl (Sub.cons rfl (Sub.cons rfl Sub.nil)))))
    · refine E.cF rfl hc ?_
      refine E.exit ?_
      refine X.seqX ?_
      refine X.seqX ?_
      have hx := ho31 _ (Option.some.inj hm).symm
      subst hx
      exact X.sub (K35 _ _ ⟨s33, m0, h14, rfl, rfl⟩) (Sub.cons rfl Sub.nil)

theorem cf86 : Cf Try.prog 86 := Cf.mk Try.func86 (by kernel_rfl) (by kernel_rfl)
theorem sl138 : Sl Try.prog 138 29 1 := Sl.mk' Try.underlying138 (by kernel_rfl)
noncomputable def m_slices_Concat_bool_l2 (p0 : List (List Bool)) (st34 : Int × List Bool) : Option ((Int × List Bool) ⊕ (List Bool)) :=
  if decide (st34.1 < (p0.length : Int)) then
    (idx p0 st34.1).bind fun x40 =>
    (app st34.2 x40).bind fun x43 =>
    some (.inl (W (st34.1 + 1), x43))
  else
    some (.inr st34.2)
noncomputable def m_slices_Concat_bool_j1 (st13 : Int × Int) (n48 : Int) : Option ((Int × Int) ⊕ Int) :=
  some (.inl (W (st13.1 + 1), n48))
noncomputable def m_slices_Concat_bool_l1 (p0 : List (List Bool)) (st13 : Int × Int) : Option ((Int × Int) ⊕ Int) :=
  if decide (st13.1 < (p0.length : Int)) then
    (idx p0 st13.1).bind fun x51 =>
    if decide ((W (st13.2 + (x51.length : Int))) < 0) then
      none
    else
      m_slices_Concat_bool_j1 st13 (W (st13.2 + (x51.length : Int)))
  else
    some (.inr st13.2)
/-- What slices.Concat<<>bool,bool> computes. -/
noncomputable def m_slices_Concat_bool (p0 : List (List Bool)) : Option (List Bool) :=
  (iter (m_slices_Concat_bool_l1 p0) (0, 0)).bind fun o13 =>
  (m_slices_Grow_bool ([] : List Bool) o13).bind fun r17 =>
  (iter (m_slices_Concat_bool_l2 p0) (0, r17)).bind fun o34 =>
  some o34
set_option maxRecDepth 100000 in
set_option maxHeartbeats 8000000 in
theorem m_slices_Concat_bool_c {s : Sig} {p0 : List (List Bool)} {a1 : Option Addr} {c1 : Nat} {u0 : Nat} {r : List Bool} (h1 : RdL (rL rB) s a1 c1 p0) (hm : m_slices_Concat_bool p0 = some r) :
    Calls Try.prog 73 #[.slice a1 p0.length c1] s.w (RetS No s fun v s' => ∃ (a2 : Option Addr) (c2 : Nat), v = .slice a2 r.length c2 ∧ RowT rB s' u0 4 a2 c2 r) := by
  unfold m_slices_Concat_bool at hm
  obtain ⟨N, hN, hNb⟩ := s.fresh
  have m0 : Mv (Up N No) s s := Mv.refl _ _
  refine E.entry (vs := [.slice a1 p0.length c1]) (e := [(0, .slice a1 p0.length c1)]) Try.func73 rfl Try.ntmps73 rfl rfl ?_
  refine E.seq ?_
  refine E.reg ?_
  refine L.as Wt.no rfl rfl ?_
  refine L.nil ?_
  refine X.seqN ?_
  refine E.seq ?_
  refine E.reg ?_
  refine L.as Wt.no rfl rfl ?_
  refine L.nil ?_
  refine X.seqN ?_
  refine E.seq ?_
  refine E.seq ?_
  refine E.reg ?_
  refine L.mv Wt.no rfl rfl ?_
  refine L.len sl138 Wt.no rfl rfl ?_
  refine L.mv Wt.no rfl rfl ?_
  refine L.nil ?_
  refine X.seqN ?_
  refine E.block ?_
  obtain ⟨o13, eo13, hm⟩ := bindS hm
  refine E.cut (x := .exit 0) (fun e w => ∃ (s16 : Sig), Mv (Up N No) s s16 ∧ RdL (rL rB) s16 a1 c1 p0 ∧ e = [(3, .int .i64 o13), (0, .slice a1 p0.length c1)] ∧ w = s16.w) ?_ ?_
  · rintro _ _ ⟨s16, m0, h1, rfl, rfl⟩
    refine X.blkE ?_
    refine X.seqN ?_
    refine E.seq ?_
    refine E.reg ?_
    refine L.mv Wt.no rfl rfl ?_
    obtain ⟨r17, er17, hm⟩ := bindS hm
    refine L.ca (vs := [.slice none 0 0, .int .i64 o13]) cf86 rfl rfl Wt.no rfl (m_slices_Grow_bool_c (s := s16) (p0 := ([] : List Bool)) (p1 := o13) (u0 := (N + 0)) er17) rfl ?_
    rintro _ s18 m19 ⟨a20, c20, rfl, h20⟩
    replace m0 := m0.trans m19.no
    replace h1 := h1.mono (m19.le no_No)
    refine L.as Wt.no rfl rfl ?_
    refine L.nil ?_
    refine X.seqN ?_
    refine E.seq ?_
    refine E.seq ?_
    refine E.reg ?_
    refine L.mv Wt.no rfl rfl ?_
    refine L.len sl138 Wt.no rfl rfl ?_
    refine L.mv Wt.no rfl rfl ?_
    refine L.nil ?_
    refine X.seqN ?_
    refine E.block ?_
    obtain ⟨o34, eo34, hm⟩ := bindS hm
    refine E.cut (x := .exit 2) (fun e w => ∃ (s38 : Sig) (a36 : Option Addr) (c36 : Nat), Mv (Up N No) s s38 ∧ RowT rB s38 (N + 0) 4 a36 c36 o34 ∧ e = [(6, .slice a36 o34.length c36)] ∧ w = s38.w) ?_ ?_
    · rintro _ _ ⟨s38, a36, c36, m0, h36, rfl, rfl⟩
      refine X.blkE ?_
      refine X.seqN ?_
      refine E.seq ?_
      refine E.reg ?_
      refine L.mv Wt.no rfl rfl ?_
      refine L.as Wt.no rfl rfl ?_
      refine L.nil ?_
      refine X.seqN ?_
      refine E.ret ?_
      obtain rfl := Option.some.inj hm
      exact X.rt (.inl rfl) Try.results73 (Rs.tmp rfl Rs.nil) rfl ⟨_, (s38).ren N (fun k => cond (Nat.beq k 0) u0 (0)), rfl, rfl, m0.ren hNb, ⟨a36, c36, rfl, (h36.ren hN)⟩⟩
    intro K39
    refine E.iter (fun (st34 : Int × List Bool) (e : List (Nat × Value)) (w : World) => ∃ (s37 : Sig) (a23 : Option Addr) (c23 : Nat), Mv (Up N No) s s37 ∧ RdL (rL rB) s37 a1 c1 p0 ∧ RowT rB s37 (N + 0) 4 a23 c23 st34.2 ∧ e = [(27, .int .i64 st34.1), (26, .int .i64 (p0.length : Int)), (25, .slice a1 p0.length c1), (6, .slice a23 st34.2.length c23)] ∧ w = s37.w) eo34 ⟨s18, a20, c20, m0, h1, h20, rfl, rfl⟩ (Sub.cons rfl (Sub.cons rfl (Sub.cons rfl (Sub.cons rfl Sub.nil)))) ?_
    rintro st34 res34 hm ih34 ho34 _ _ ⟨s37, a23, c23, m0, h1, h23, rfl, rfl⟩
    unfold m_slices_Concat_bool_l2 at hm
    refine E.seq ?_
    refine E.reg ?_
    refine L.bi Wt.no rfl rfl rfl rfl ?_
    refine L.nil ?_
    refine X.seqN ?_
    refine E.seq ?_
    rcases ifS hm with ⟨hc, hm⟩ | ⟨hc, hm⟩
    · refine E.cT rfl hc ?_
      refine E.skip ?_
      refine X.seqN ?_
      refine E.seq ?_
      refine E.block ?_
      refine E.seq ?_
      refine E.reg ?_
      obtain ⟨x40, ex40, hm⟩ := bindS hm
      refine L.ix (r := (rL rB)) sl138 h1 Wt.no rfl rfl ex40 rfl ?_
      rintro b41 o41 cc41 me41 rd41
      obtain ⟨a42, c42, rfl, h42⟩ := rd41
      refine L.ld (j := 0) me41 nag29 Wt.no rfl rfl rfl rfl ?_
      refine L.as Wt.no rfl rfl ?_
      refine L.nil ?_
      refine X.seqN ?_
      refine E.reg ?_
      refine L.mv Wt.no rfl rfl ?_
      refine L.mv Wt.no rfl rfl ?_
      obtain ⟨x43, ex43, hm⟩ := bindS hm
      refine L.ap (r := rB) Try.underlying29 el4 rfl (tgp hN) h23 h42.wk Wt.no rfl rfl ex43 rfl ?_
      intro a44 c44 s45 m46 h44
      replace m0 := m0.trans (m46.one up)
      replace h1 := h1.mono (m46.le (tg0 hN))
      refine L.as Wt.no rfl rfl ?_
      refine L.nil ?_
      refine X.blkN ?_
      refine X.seqN ?_
      refine E.reg ?_
      refine L.bi Wt.no rfl rfl rfl rfl ?_
      refine L.mv Wt.no rfl rfl ?_
      refine L.nil ?_
      exact X.sub (ih34 _ (Option.some.inj hm).symm _ _ ⟨s45, a44, c44, m0, h1, h44, rfl, rfl⟩) (Sub.cons rfl (Sub.cons rfl (Sub.cons rfl (Sub.cons rfl Sub.nil))))
    · refine E.cF rfl hc ?_
      refine E.exit ?_
      refine X.seqX ?_
      refine X.seqX ?_
      have hx := ho34 _ (Option.some.inj hm).symm
      subst hx
      exact X.sub (K39 _ _ ⟨s37, a23, c23, m0, h23, rfl, rfl⟩) (Sub.cons rfl Sub.nil)
  intro K47
  refine E.iter (fun (st13 : Int × Int) (e : List (Nat × Value)) (w : World) => ∃ (s15 : Sig), Mv (Up N No) s s15 ∧ RdL (rL rB) s15 a1 c1 p0 ∧ e = [(11, .int .i64 st13.1), (10, .int .i64 (p0.length : Int)), (9, .slice a1 p0.length c1), (3, .int .i64 st13.2), (0, .slice a1 p0.length c1)] ∧ w = s15.w) eo13 ⟨s, m0, h1, rfl, rfl⟩ (Sub.cons rfl (Sub.cons rfl (Sub.cons rfl (Sub.cons rfl (Sub.cons rfl Sub.nil))))) ?_
  rintro st13 res13 hm ih13 ho13 _ _ ⟨s15, m0, h1, rfl, rfl⟩
  unfold m_slices_Concat_bool_l1 at hm
  refine E.seq ?_
  refine E.reg ?_
  refine L.bi Wt.no rfl rfl rfl rfl ?_
  refine L.nil ?_
  refine X.seqN ?_
  refine E.seq ?_
  rcases ifS hm with ⟨hc, hm⟩ | ⟨hc, hm⟩
  · refine E.cT rfl hc ?_
    refine E.skip ?_
    refine X.seqN ?_
    refine E.seqJ (fun e w => ∃ (s49 : Sig) (n48 : Int), m_slices_Concat_bool_j1 st13 n48 = some res13 ∧ Mv (Up N No) s s49 ∧ RdL (rL rB) s49 a1 c1 p0 ∧ e = [(3, .int .i64 n48), (11, .int .i64 st13.1), (10, .int .i64 (p0.length : Int)), (9, .slice a1 p0.length c1), (0, .slice a1 p0.length c1)] ∧ w = s49.w) ?_ ?_
    · rintro _ _ ⟨s49, n48, hm, m0, h1, rfl, rfl⟩
      unfold m_slices_Concat_bool_j1 at hm
      refine E.reg ?_
      refine L.bi Wt.no rfl rfl rfl rfl ?_
      refine L.mv Wt.no rfl rfl ?_
      refine L.nil ?_
      exact X.sub (ih13 _ (Option.some.inj hm).symm _ _ ⟨s49, m0, h1, rfl, rfl⟩) (Sub.cons rfl (Sub.cons rfl (Sub.cons rfl (Sub.cons rfl (Sub.cons rfl Sub.nil)))))
    · intro Jj50
      refine E.block ?_
      refine E.seq ?_
      refine E.reg ?_
      obtain ⟨x51, ex51, hm⟩ := bindS hm
      refine L.ix (r := (rL rB)) sl138 h1 Wt.no rfl rfl ex51 rfl ?_
      rintro b52 o52 cc52 me52 rd52
      obtain ⟨a53, c53, rfl, h53⟩ := rd52
      refine L.ld (j := 0) me52 nag29 Wt.no rfl rfl rfl rfl ?_
      refine L.as Wt.no rfl rfl ?_
      refine L.nil ?_
      refine X.seqN ?_
      refine E.seq ?_
      refine E.reg ?_
      refine L.mv Wt.no rfl rfl ?_
      refine L.mv Wt.no rfl rfl ?_
      refine L.len sl29 Wt.no rfl rfl ?_
      refine L.bi Wt.no rfl rfl rfl rfl ?_
      refine L.as Wt.no rfl rfl ?_
      refine L.nil ?_
      refine X.seqN ?_
      refine E.seq ?_
      refine E.reg ?_
      refine L.mv Wt.no rfl rfl ?_
      refine L.bi Wt.no rfl rfl rfl rfl ?_
      refine L.nil ?_
      refine X.seqN ?_
      rcases ifS hm with ⟨hc, hm⟩ | ⟨hc, hm⟩
      · refine E.cT rfl hc ?_
        refine E.reg ?_
        cases hm
      · refine E.cF rfl hc ?_
        refine E.skip ?_
        refine X.blkN ?_
        exact X.sub (Jj50 _ _ ⟨s15, (W (st13.2 + (x51.length : Int))), hm, m0, h1, rfl, rfl⟩) (Sub.cons rfl (Sub.cons rfl (Sub.cons rfl (Sub.cons rfl (Sub.cons rfl Sub.nil)))))
  · refine E.cF rfl hc ?_
    refine E.exit ?_
    refine X.seqX ?_
    refine X.seqX ?_
    have hx := ho13 _ (Option.some.inj hm).symm
    subst hx
    exact X.sub (K47 _ _ ⟨s15, m0, h1, rfl, rfl⟩) (Sub.cons rfl (Sub.cons rfl Sub.nil))

theorem bs138 : Bs Try.prog 138 29 1 [.slice none 0 0] := Bs.mk' Try.underlying138 (by kernel_rfl) (by kernel_rfl) rfl
theorem cf73 : Cf Try.prog 73 := Cf.mk Try.func73 (by kernel_rfl) (by kernel_rfl)
theorem el29 : El Try.prog 29 1 24 := El.mk' (z := .slice none 0 0) (by kernel_rfl) (by kernel_rfl) (by kernel_rfl) rfl
theorem fa39_0 : FA Try.prog 39 0 0 := FA.mk Try.underlying39 rfl rfl ⟨1, by decide, by kernel_rfl⟩
theorem fa39_1 : FA Try.prog 39 1 1 := FA.mk Try.underlying39 rfl rfl ⟨1, by decide, by kernel_rfl⟩
/-- What instruction.begin computes. -/
noncomputable def m_instruction_begin (p0 : Int × Int × Int × List Bool × (List (Int × Int))) (p1 : List Bool × List Bool) (p2 : List Bool) : Option (List Bool × Int) :=
  (m_instruction_Check p0).bind fun r13 =>
  if (r13 != 0) then
    some (([] : List Bool), r13)
  else
    if ((((p2.length : Int) != p0.1) || ((p1.1.length : Int) != p0.2.1)) || ((p1.2.length : Int) != p0.2.2.1)) then
      some (([] : List Bool), 4)
    else
      (m_slices_Concat_bool ([p2, p1.1, p1.2] : List (List Bool))).bind fun r21 =>
      some (r21, 0)
set_option maxRecDepth 100000 in
set_option maxHeartbeats 8000000 in
theorem m_instruction_begin_c {s : Sig} {p0 : Int × Int × Int × List Bool × (List (Int × Int))} {p1 : List Bool × List Bool} {p2 : List Bool} {a1 : Option Addr} {c1 : Nat} {a2 : Option Addr} {c2 : Nat} {a3 : Option Addr} {c3 : Nat} {a4 : Option Addr} {c4 : Nat} {a5 : Option Addr} {c5 : Nat} {u0 : Nat} {r : List Bool × Int} (h1 : RdL rB s a1 c1 p0.2.2.2.1) (h2 : RdL (rP (rK .i64) (rK .i64)) s a2 c2 p0.2.2.2.2) (h3 : RdL rB s a3 c3 p1.1) (h4 : RdL rB s a4 c4 p1.2) (h5 : RdL rB s a5 c5 p2) (hm : m_instruction_begin p0 p1 p2 = some r) :
    Calls Try.prog 54 #[.agg #[.int .i64 p0.1, .int .i64 p0.2.1, .int .i64 p0.2.2.1, .slice a1 p0.2.2.2.1.length c1, .slice a2 p0.2.2.2.2.length c2], .agg #[.slice a3 p1.1.length c3, .slice a4 p1.2.length c4], .slice a5 p2.length c5] s.w (RetS No s fun v s' => ∃ (a6 : Option Addr) (c6 : Nat), v = .tuple #[.slice a6 r.1.length c6, .int .i64 r.2] ∧ RowT rB s' u0 4 a6 c6 r.1) := by
  unfold m_instruction_begin at hm
  obtain ⟨N, hN, hNb⟩ := s.fresh
  have m0 : Mv (Up N No) s s := Mv.refl _ _
  refine E.entry (vs := [.agg #[.int .i64 p0.1, .int .i64 p0.2.1, .int .i64 p0.2.2.1, .slice a1 p0.2.2.2.1.length c1, .slice a2 p0.2.2.2.2.length c2], .agg #[.slice a3 p1.1.length c3, .slice a4 p1.2.length c4], .slice a5 p2.length c5]) (e := [(0, .agg #[.int .i64 p0.1, .int .i64 p0.2.1, .int .i64 p0.2.2.1, .slice a1 p0.2.2.2.1.length c1, .slice a2 p0.2.2.2.2.length c2]), (1, .agg #[.slice a3 p1.1.length c3, .slice a4 p1.2.length c4]), (2, .slice a5 p2.length c5)]) Try.func54 rfl Try.ntmps54 rfl rfl ?_
  refine E.seq ?_
  refine E.reg ?_
  refine L.box (N + 0) Wt.no rfl rfl rfl ?_
  intro b7 s8 m9 bx7
  replace m0 := m0.trans m9.no
  replace h3 := h3.mono (m9.le no_No)
  replace h4 := h4.mono (m9.le no_No)
  replace h5 := h5.mono (m9.le no_No)
  replace h1 := h1.mono (m9.le no_No)
  replace h2 := h2.mono (m9.le no_No)
  refine L.box (N + 1) Wt.no rfl rfl rfl ?_
  intro b10 s11 m12 bx10
  replace m0 := m0.trans m12.no
  replace h5 := h5.mono (m12.le no_No)
  replace bx7 := bx7.mv m12 no_No
  replace h1 := h1.mono (m12.le no_No)
  replace h2 := h2.mono (m12.le no_No)
  replace h3 := h3.mono (m12.le no_No)
  replace h4 := h4.mono (m12.le no_No)
  refine L.as Wt.no rfl rfl ?_
  refine L.as Wt.no rfl rfl ?_
  refine L.nil ?_
  refine X.seqN ?_
  refine E.seq ?_
  refine E.seq ?_
  refine E.reg ?_
  refine L.lg (j := 0) (cs := [.int .i64 p0.1, .int .i64 p0.2.1, .int .i64 p0.2.2.1, .slice a1 p0.2.2.2.1.length c1, .slice a2 p0.2.2.2.2.length c2]) bx7.mem ag32 Wt.no rfl rfl rfl rfl rfl ?_
  obtain ⟨r13, er13, hm⟩ := bindS hm
  refine L.ca (vs := [.agg #[.int .i64 p0.1, .int .i64 p0.2.1, .int .i64 p0.2.2.1, .slice a1 p0.2.2.2.1.length c1, .slice a2 p0.2.2.2.2.length c2]]) cf26 rfl rfl Wt.no rfl (m_instruction_Check_c (s := s11) (p0 := p0) h1 h2 er13) rfl ?_
  rintro _ s14 m15 rfl
  replace m0 := m0.trans m15.no
  replace h5 := h5.mono (m15.le no_No)
  replace bx7 := bx7.mv m15 no_No
  replace h1 := h1.mono (m15.le no_No)
  replace h2 := h2.mono (m15.le no_No)
  replace bx10 := bx10.mv m15 no_No
  replace h3 := h3.mono (m15.le no_No)
  replace h4 := h4.mono (m15.le no_No)
  refine L.as Wt.no rfl rfl ?_
  refine L.nil ?_
  refine X.seqN ?_
  refine E.seq ?_
  refine E.reg ?_
  refine L.mv Wt.no rfl rfl ?_
  refine L.bi Wt.no rfl rfl rfl rfl ?_
  refine L.nil ?_
  refine X.seqN ?_
  rcases ifS hm with ⟨hc, hm⟩ | ⟨hc, hm⟩
  · refine E.cT rfl hc ?_
    refine E.seq ?_
    refine E.reg ?_
    refine L.mv Wt.no rfl rfl ?_
    refine L.as Wt.no rfl rfl ?_
    refine L.as Wt.no rfl rfl ?_
    refine L.nil ?_
    refine X.seqN ?_
    refine E.ret ?_
    refine X.seqR ?_
    obtain rfl := Option.some.inj hm
    exact X.rt (.inl rfl) Try.results54 (Rs.tmp rfl (Rs.tmp rfl Rs.nil)) rfl ⟨_, (s14).ren N (fun _ => 0), rfl, rfl, m0.ren hNb, ⟨none, 0, rfl, RowT.nil⟩⟩
  · refine E.cF rfl hc ?_
    refine E.skip ?_
    refine X.seqN ?_
    refine E.seq ?_
    refine E.seq ?_
    refine E.reg ?_
    refine L.mv Wt.no rfl rfl ?_
    refine L.len sl29 Wt.no rfl rfl ?_
    refine L.fa fa32_0 Wt.no rfl rfl ?_
    refine L.ld (j := 0) bx7.mem nag3 Wt.no rfl rfl rfl rfl ?_
    refine L.bi Wt.no rfl rfl rfl rfl ?_
    refine L.mv Wt.no rfl rfl ?_
    refine L.cut 7 (fun e w => ∃ (v16 : Bool), (((p2.length : Int) != p0.1) || ((p1.1.length : Int) != p0.2.1)) = v16 ∧ e = (26, .bool v16) :: [(4, .pointer (some ⟨b10, 0, none⟩)), (3, .pointer (some ⟨b7, 0, none⟩)), (2, .slice a5 p2.length c5)] ∧ w = s14.w) ?_ ?_
    · rintro _ _ ⟨v16, rfl, rfl, rfl⟩
      refine L.mv Wt.no rfl rfl ?_
      refine L.cut 7 (fun e w => ∃ (v17 : Bool), ((((p2.length : Int) != p0.1) || ((p1.1.length : Int) != p0.2.1)) || ((p1.2.length : Int) != p0.2.2.1)) = v17 ∧ e = (34, .bool v17) :: [(4, .pointer (some ⟨b10, 0, none⟩)), (2, .slice a5 p2.length c5)] ∧ w = s14.w) ?_ ?_
      · rintro _ _ ⟨v17, rfl, rfl, rfl⟩
        refine L.nil ?_
        refine X.seqN ?_
        rcases ifS hm with ⟨hc, hm⟩ | ⟨hc, hm⟩
        · refine E.cT rfl hc ?_
          refine E.seq ?_
          refine E.reg ?_
          refine L.as Wt.no rfl rfl ?_
          refine L.as Wt.no rfl rfl ?_
          refine L.nil ?_
          refine X.seqN ?_
          refine E.ret ?_
          refine X.seqR ?_
          obtain rfl := Option.some.inj hm
          exact X.rt (.inl rfl) Try.results54 (Rs.tmp rfl (Rs.tmp rfl Rs.nil)) rfl ⟨_, (s14).ren N (fun _ => 0), rfl, rfl, m0.ren hNb, ⟨none, 0, rfl, RowT.nil⟩⟩
        · refine E.cF rfl hc ?_
          refine E.skip ?_
          refine X.seqN ?_
          refine E.seq ?_
          refine E.reg ?_
          refine L.mv Wt.no rfl rfl ?_
          refine L.fa fa39_0 Wt.no rfl rfl ?_
          refine L.ld (j := 0) bx10.mem nag29 Wt.no rfl rfl rfl rfl ?_
          refine L.fa fa39_1 Wt.no rfl rfl ?_
          refine L.ld (j := 1) bx10.mem nag29 Wt.no rfl rfl rfl rfl ?_
          refine L.bsE (k := 3) (cs := [.slice a5 p2.length c5, .slice a3 p1.1.length c3, .slice a4 p1.2.length c4]) 0 bs138 (Nat.le_of_ble_eq_true rfl) Wt.no rfl rfl rfl rfl ?_
          intro b18 s19 m20 bx18
          replace m0 := m0.trans m20.no
          replace h5 := h5.mono (m20.le no_No)
          replace h3 := h3.mono (m20.le no_No)
          replace h4 := h4.mono (m20.le no_No)
          have h18 := Bx.rdL (r := (rL rB)) (xs := ([p2, p1.1, p1.2] : List (List Bool))) bx18 ⟨[.slice a5 p2.length c5], _, rfl, ⟨_, _, rfl, h5⟩, ⟨[.slice a3 p1.1.length c3], _, rfl, ⟨_, _, rfl, h3⟩, ⟨[.slice a4 p1.2.length c4], _, rfl, ⟨_, _, rfl, h4⟩, rfl⟩⟩⟩ (Nat.le_of_ble_eq_true rfl)
          obtain ⟨r21, er21, hm⟩ := bindS hm
          refine L.ca (vs := [.slice (some ⟨b18, 0, none⟩) ([p2, p1.1, p1.2] : List (List Bool)).length (([p2, p1.1, p1.2] : List (List Bool)).length)]) cf73 rfl rfl Wt.no rfl (m_slices_Concat_bool_c (s := s19) (p0 := ([p2, p1.1, p1.2] : List (List Bool))) (u0 := (N + 2)) h18 er21) rfl ?_
          rintro _ s22 m23 ⟨a24, c24, rfl, h24⟩
          replace m0 := m0.trans m23.no
          refine L.as Wt.no rfl rfl ?_
          refine L.as Wt.no rfl rfl ?_
          refine L.nil ?_
          refine X.seqN ?_
          refine E.ret ?_
          obtain rfl := Option.some.inj hm
          exact X.rt (.inl rfl) Try.results54 (Rs.tmp rfl (Rs.tmp rfl Rs.nil)) rfl ⟨_, (s22).ren N (fun k => cond (Nat.beq k 2) u0 (0)), rfl, rfl, m0.ren hNb, ⟨a24, c24, rfl, (h24.ren hN)⟩⟩
      · intro J25
        rcases Bool.eq_false_or_eq_true (((p2.length : Int) != p0.1) || ((p1.1.length : Int) != p0.2.1)) with hc | hc
        · refine L.know (d := 27) rfl hc ?_
          refine L.skip rfl rfl rfl rfl ?_
          refine L.skip rfl rfl rfl rfl ?_
          refine L.skip rfl rfl rfl rfl ?_
          refine L.skip rfl rfl rfl rfl ?_
          refine L.skip rfl rfl rfl rfl ?_
          refine L.skip rfl rfl rfl rfl ?_
          refine L.pkT Wt.no rfl rfl rfl rfl ?_
          exact L.sub (Sub.cons rfl (Sub.cons rfl (Sub.cons rfl Sub.nil))) (J25 _ _ ⟨true, (orT hc).symm, rfl, rfl⟩)
        · refine L.know (d := 27) rfl hc ?_
          refine L.fa fa39_1 (Wt.mk rfl rfl) rfl rfl ?_
          refine L.ld (j := 1) bx10.mem nag29 (Wt.mk rfl rfl) rfl rfl rfl rfl ?_
          refine L.len sl29 (Wt.mk rfl rfl) rfl rfl ?_
          refine L.fa fa32_2 (Wt.mk rfl rfl) rfl rfl ?_
          refine L.ld (j := 2) bx7.mem nag3 (Wt.mk rfl rfl) rfl rfl rfl rfl ?_
          refine L.bi (Wt.mk rfl rfl) rfl rfl rfl rfl ?_
          refine L.pkF Wt.no rfl rfl rfl rfl ?_
          exact L.sub (Sub.cons rfl (Sub.cons rfl (Sub.cons rfl Sub.nil))) (J25 _ _ ⟨((p1.2.length : Int) != p0.2.2.1), (orF hc).symm, rfl, rfl⟩)
    · intro J26
      rcases Bool.eq_false_or_eq_true ((p2.length : Int) != p0.1) with hc | hc
      · refine L.know (d := 19) rfl hc ?_
        refine L.skip rfl rfl rfl rfl ?_
        refine L.skip rfl rfl rfl rfl ?_
        refine L.skip rfl rfl rfl rfl ?_
        refine L.skip rfl rfl rfl rfl ?_
        refine L.skip rfl rfl rfl rfl ?_
        refine L.skip rfl rfl rfl rfl ?_
        refine L.pkT Wt.no rfl rfl rfl rfl ?_
        exact L.sub (Sub.cons rfl (Sub.cons rfl (Sub.cons rfl (Sub.cons rfl Sub.nil)))) (J26 _ _ ⟨true, (orT hc).symm, rfl, rfl⟩)
      · refine L.know (d := 19) rfl hc ?_
        refine L.fa fa39_0 (Wt.mk rfl rfl) rfl rfl ?_
        refine L.ld (j := 0) bx10.mem nag29 (Wt.mk rfl rfl) rfl rfl rfl rfl ?_
        refine L.len sl29 (Wt.mk rfl rfl) rfl rfl ?_
        refine L.fa fa32_1 (Wt.mk rfl rfl) rfl rfl ?_
        refine L.ld (j := 1) bx7.mem nag3 (Wt.mk rfl rfl) rfl rfl rfl rfl ?_
        refine L.bi (Wt.mk rfl rfl) rfl rfl rfl rfl ?_
        refine L.pkF Wt.no rfl rfl rfl rfl ?_
        exact L.sub (Sub.cons rfl (Sub.cons rfl (Sub.cons rfl (Sub.cons rfl Sub.nil)))) (J26 _ _ ⟨((p1.1.length : Int) != p0.2.1), (orF hc).symm, rfl, rfl⟩)

theorem fa129_2 : FA Try.prog 129 2 2 := FA.mk Try.underlying129 rfl rfl ⟨1, by decide, by kernel_rfl⟩
noncomputable def m_instruction_scan_l1 (p0 : Int × Int × Int × List Bool × (List (Int × Int))) (r8 : (List (Int × ByteArray × (Option (Bool → Bool → Option Bool)) × (Option (Bool → Bool → Option Bool)) × (Option (Bool → Option Bool))))) (st93 : Int × Bool × List Int × List Bool) : Option ((Int × Bool × List Int × List Bool) ⊕ (List Int × List Bool)) :=
  if decide (st93.1 < (p0.2.2.2.2.length : Int)) then
    (app st93.2.2.1 ([st93.1] : List Int)).bind fun x103 =>
    (idx p0.2.2.2.2 st93.1).bind fun x107 =>
    (idx r8 (W (x107.1 - 1))).bind fun x114 =>
    if x114.2.2.1.isSome then
      (idx st93.2.2.2 x107.2).bind fun x131 =>
      x114.2.2.1.bind fun f135 =>
      (f135 st93.2.1 x131).bind fun r136 =>
      some (.inl (W (st93.1 + 1), r136, x103, st93.2.2.2))
    else
      if x114.2.2.2.1.isSome then
        (idx st93.2.2.2 x107.2).bind fun x151 =>
        x114.2.2.2.1.bind fun f155 =>
        (f155 st93.2.1 x151).bind fun r156 =>
        (idx st93.2.2.2 x107.2).bind fun x160 =>
        (upd st93.2.2.2 x107.2 r156).bind fun x163 =>
        some (.inl (W (st93.1 + 1), st93.2.1, x103, x163))
      else
        x114.2.2.2.2.bind fun f167 =>
        (f167 st93.2.1).bind fun r168 =>
        if r168 then
          some (.inl (x107.2, st93.2.1, x103, st93.2.2.2))
        else
          some (.inl (W (st93.1 + 1), st93.2.1, x103, st93.2.2.2))
  else
    some (.inr st93.2.2)
/-- What instruction.scan computes. -/
noncomputable def m_instruction_scan (p0 : Int × Int × Int × List Bool × (List (Int × Int))) (p1 : List Bool) : Option (List Int × List Bool) :=
  (m_instruction_operations).bind fun r8 =>
  (iter (m_instruction_scan_l1 p0 r8) (0, false, ([] : List Int), p1)).bind fun o93 =>
  some o93
set_option maxRecDepth 100000 in
set_option maxHeartbeats 8000000 in
theorem m_instruction_scan_c {s : Sig} {p0 : Int × Int × Int × List Bool × (List (Int × Int))} {p1 : List Bool} {a1 : Option Addr} {c1 : Nat} {a2 : Option Addr} {c2 : Nat} {t1 : Nat} {a3 : Option Addr} {c3 : Nat} {u0 : Nat} {r : List Int × List Bool} (zt1 : 0 < t1) (h1 : RdL rB s a1 c1 p0.2.2.2.1) (h2 : RdL (rP (rK .i64) (rK .i64)) s a2 c2 p0.2.2.2.2) (h3 : RowT rB s t1 4 a3 c3 p1) (hm : m_instruction_scan p0 p1 = some r) :
    Calls Try.prog 55 #[.agg #[.int .i64 p0.1, .int .i64 p0.2.1, .int .i64 p0.2.2.1, .slice a1 p0.2.2.2.1.length c1, .slice a2 p0.2.2.2.2.length c2], .slice a3 p1.length c3] s.w (RetS (One t1) s fun v s' => ∃ (a4 : Option Addr) (c4 : Nat), v = .slice a4 r.1.length c4 ∧ RowT (rK .i64) s' u0 3 a4 c4 r.1 ∧ RowT rB s' t1 4 a3 c3 r.2) := by
  unfold m_instruction_scan at hm
  obtain ⟨N, hN, hNb, lt1, -⟩ := s.freshL [t1]
  have m0 : Mv (Up N (One t1)) s s := Mv.refl _ _
  refine E.entry (vs := [.agg #[.int .i64 p0.1, .int .i64 p0.2.1, .int .i64 p0.2.2.1, .slice a1 p0.2.2.2.1.length c1, .slice a2 p0.2.2.2.2.length c2], .slice a3 p1.length c3]) (e := [(0, .agg #[.int .i64 p0.1, .int .i64 p0.2.1, .int .i64 p0.2.2.1, .slice a1 p0.2.2.2.1.length c1, .slice a2 p0.2.2.2.2.length c2]), (1, .slice a3 p1.length c3)]) Try.func55 rfl Try.ntmps55 rfl rfl ?_
  refine E.seq ?_
  refine E.reg ?_
  refine L.box (N + 0) Wt.no rfl rfl rfl ?_
  intro b5 s6 m7 bx5
  replace m0 := m0.trans m7.no
  replace h3 := h3.mv m7 no_No no_No
  replace h1 := h1.mono (m7.le no_No)
  replace h2 := h2.mono (m7.le no_No)
  refine L.as Wt.no rfl rfl ?_
  refine L.nil ?_
  refine X.seqN ?_
  refine E.seq ?_
  refine E.reg ?_
  obtain ⟨r8, er8, hm⟩ := bindS hm
  refine L.ca (vs := []) cf74 rfl rfl Wt.no rfl (m_instruction_operations_c (s := s6) er8) rfl ?_
  rintro _ s9 m10 ⟨a11, c11, rfl, h11⟩
  replace m0 := m0.trans m10.no
  replace h3 := h3.mv m10 no_No no_No
  replace bx5 := bx5.mv m10 no_No
  replace h1 := h1.mono (m10.le no_No)
  replace h2 := h2.mono (m10.le no_No)
  refine L.as Wt.no rfl rfl ?_
  refine L.nil ?_
  refine X.seqN ?_
  refine E.seq ?_
  refine E.reg ?_
  refine L.as Wt.no rfl rfl ?_
  refine L.nil ?_
  refine X.seqN ?_
  refine E.seq ?_
  refine E.reg ?_
  refine L.as Wt.no rfl rfl ?_
  refine L.nil ?_
  refine X.seqN ?_
  refine E.seq ?_
  refine E.seq ?_
  refine E.reg ?_
  refine L.as Wt.no rfl rfl ?_
  refine L.nil ?_
  refine X.seqN ?_
  refine E.block ?_
  obtain ⟨o93, eo93, hm⟩ := bindS hm
  refine E.cut (x := .exit 0) (fun e w => ∃ (s98 : Sig) (a95 : Option Addr) (c95 : Nat), Mv (Up N (One t1)) s s98 ∧ RowT (rK .i64) s98 (N + 1) 3 a95 c95 o93.1 ∧ RowT rB s98 t1 4 a3 c3 o93.2 ∧ e = [(6, .slice a95 o93.1.length c95)] ∧ w = s98.w) ?_ ?_
  · rintro _ _ ⟨s98, a95, c95, m0, h95, h3, rfl, rfl⟩
    refine X.blkE ?_
    refine X.seqN ?_
    refine E.seq ?_
    refine E.reg ?_
    refine L.mv Wt.no rfl rfl ?_
    refine L.as Wt.no rfl rfl ?_
    refine L.nil ?_
    refine X.seqN ?_
    refine E.ret ?_
    obtain rfl := Option.some.inj hm
    exact X.rt (.inl rfl) Try.results55 (Rs.tmp rfl Rs.nil) rfl ⟨_, (s98).ren N (fun k => cond (Nat.beq k 1) u0 (0)), rfl, rfl, m0.ren hNb, ⟨a95, c95, rfl, (h95.ren hN), (h3.renV hN lt1)⟩⟩
  intro K99
  refine E.iter (fun (st93 : Int × Bool × List Int × List Bool) (e : List (Nat × Value)) (w : World) => ∃ (s97 : Sig) (a15 : Option Addr) (c15 : Nat), Mv (Up N (One t1)) s s97 ∧ RowT (rK .i64) s97 (N + 1) 3 a15 c15 st93.2.2.1 ∧ RdL (rP (rK .i64) (rP rStr (rP (rF2 Try.prog (fun (x0 : Bool) (x1 : Bool) => [.bool x0, .bool x1]) (fun (r : Bool) => .bool r)) (rP (rF2 Try.prog (fun (x0 : Bool) (x1 : Bool) => [.bool x0, .bool x1]) (fun (r : Bool) => .bool r)) (rF1 Try.prog (fun (x0 : Bool) => [.bool x0]) (fun (r : Bool) => .bool r)))))) s97 a11 c11 r8 ∧ RowT rB s97 t1 4 a3 c3 st93.2.2.2 ∧ RdL rB s97 a1 c1 p0.2.2.2.1 ∧ RdL (rP (rK .i64) (rK .i64)) s97 a2 c2 p0.2.2.2.2 ∧ Bx s97 (N + 0) b5 #[.int .i64 p0.1, .int .i64 p0.2.1, .int .i64 p0.2.2.1, .slice a1 p0.2.2.2.1.length c1, .slice a2 p0.2.2.2.2.length c2] 32 ∧ e = [(8, .int .i64 st93.1), (7, .bool st93.2.1), (6, .slice a15 st93.2.2.1.length c15), (5, .slice a11 r8.length c11), (2, .pointer (some ⟨b5, 0, none⟩)), (1, .slice a3 st93.2.2.2.length c3)] ∧ w = s97.w) eo93 ⟨s9, none, 0, m0, RowT.nil, h11, h3, h1, h2, bx5, rfl, rfl⟩ (Sub.cons rfl (Sub.cons rfl (Sub.cons rfl (Sub.cons rfl (Sub.cons rfl (Sub.cons rfl Sub.nil)))))) ?_
  rintro st93 res93 hm ih93 ho93 _ _ ⟨s97, a15, c15, m0, h15, h11, h3, h1, h2, bx5, rfl, rfl⟩
  unfold m_instruction_scan_l1 at hm
  refine E.seq ?_
  refine E.seq ?_
  refine E.reg ?_
  refine L.mv Wt.no rfl rfl ?_
  refine L.fa fa32_4 Wt.no rfl rfl ?_
  refine L.ld (j := 4) bx5.mem nag30 Wt.no rfl rfl rfl rfl ?_
  refine L.len sl30 Wt.no rfl rfl ?_
  refine L.bi Wt.no rfl rfl rfl rfl ?_
  refine L.nil ?_
  refine X.seqN ?_
  rcases ifS hm with ⟨hc, hm⟩ | ⟨hc, hm⟩
  · refine E.cT rfl hc ?_
    refine E.skip ?_
    refine X.seqN ?_
    refine E.block ?_
    refine E.seq ?_
    refine E.reg ?_
    refine L.mv Wt.no rfl rfl ?_
    refine L.mv Wt.no rfl rfl ?_
    refine L.bsE (k := 1) (cs := [.int .i64 st93.1]) 0 bs23 (Nat.le_of_ble_eq_true rfl) Wt.no rfl rfl rfl rfl ?_
    intro b100 s101 m102 bx100
    replace m0 := m0.trans m102.no
    replace h3 := h3.mv m102 no_No no_No
    replace h15 := h15.mv m102 no_No no_No
    replace h11 := h11.mono (m102.le no_No)
    replace bx5 := bx5.mv m102 no_No
    replace h1 := h1.mono (m102.le no_No)
    replace h2 := h2.mono (m102.le no_No)
    have h100 := Bx.rdL (r := (rK .i64)) (xs := ([st93.1] : List Int)) bx100 ⟨[.int .i64 st93.1], _, rfl, rfl, rfl⟩ (Nat.le_of_ble_eq_true rfl)
    obtain ⟨x103, ex103, hm⟩ := bindS hm
    refine L.ap (r := (rK .i64)) Try.underlying23 el3 rfl (tgp hN) h15 h100.wk Wt.no rfl rfl ex103 rfl ?_
    intro a104 c104 s105 m106 h104
    replace m0 := m0.trans (m106.one up)
    replace h3 := h3.mv m106 (tgV lt1) (tg0 hN)
    replace h11 := h11.mono (m106.le (tg0 hN))
    replace bx5 := bx5.mv m106 (tgN (by decide))
    replace h1 := h1.mono (m106.le (tg0 hN))
    replace h2 := h2.mono (m106.le (tg0 hN))
    refine L.as Wt.no rfl rfl ?_
    refine L.nil ?_
    refine X.seqN ?_
    refine E.seq ?_
    refine E.reg ?_
    refine L.fa fa32_4 Wt.no rfl rfl ?_
    refine L.ld (j := 4) bx5.mem nag30 Wt.no rfl rfl rfl rfl ?_
    refine L.mv Wt.no rfl rfl ?_
    obtain ⟨x107, ex107, hm⟩ := bindS hm
    refine L.ix (r := (rP (rK .i64) (rK .i64))) sl30 h2 Wt.no rfl rfl ex107 rfl ?_
    rintro b108 o108 cc108 me108 rd108
    obtain ⟨_, _, rfl, rfl, rfl⟩ := rd108
    refine L.lg (j := 0) (cs := [.int .i64 x107.1, .int .i64 x107.2]) me108 ag119 Wt.no rfl rfl rfl rfl rfl ?_
    refine L.al (N + 2) zz119 rfl Wt.no rfl ?_
    intro b109 s110 m111 bx109
    replace m0 := m0.trans m111.no
    replace h3 := h3.mv m111 no_No no_No
    replace h11 := h11.mono (m111.le no_No)
    replace h104 := h104.mv m111 no_No no_No
    replace bx5 := bx5.mv m111 no_No
    replace h1 := h1.mono (m111.le no_No)
    replace h2 := h2.mono (m111.le no_No)
    refine L.st (c := [.int .i64 x107.1, .int .i64 x107.2]) (cs' := #[.int .i64 x107.1, .int .i64 x107.2]) bx109 ag119.sz Wt.no rfl rfl rfl rfl rfl (Nat.le_of_ble_eq_true rfl) rfl ?_
    intro s112 m113 bx109
    replace m0 := m0.trans (m113.one up)
    replace h3 := h3.mv m113 (tgV lt1) (tg0 hN)
    replace h11 := h11.mono (m113.le (tg0 hN))
    replace h104 := h104.mv m113 (tgN (by decide)) (tg0 hN)
    replace bx5 := bx5.mv m113 (tgN (by decide))
    replace h1 := h1.mono (m113.le (tg0 hN))
    replace h2 := h2.mono (m113.le (tg0 hN))
    refine L.nil ?_
    refine X.seqN ?_
    refine E.seq ?_
    refine E.reg ?_
    refine L.mv Wt.no rfl rfl ?_
    refine L.fa fa119_0 Wt.no rfl rfl ?_
    refine L.ld (j := 0) bx109.mem nag3 Wt.no rfl rfl rfl rfl ?_
    refine L.bi Wt.no rfl rfl rfl rfl ?_
    obtain ⟨x114, ex114, hm⟩ := bindS hm
    refine L.ix (r := (rP (rK .i64) (rP rStr (rP (rF2 Try.prog (fun (x0 : Bool) (x1 : Bool) => [.bool x0, .bool x1]) (fun (r : Bool) => .bool r)) (rP (rF2 Try.prog (fun (x0 : Bool) (x1 : Bool) => [.bool x0, .bool x1]) (fun (r : Bool) => .bool r)) (rF1 Try.prog (fun (x0 : Bool) => [.bool x0]) (fun (r : Bool) => .bool r))))))) sl124 h11 Wt.no rfl rfl ex114 rfl ?_
    rintro b115 o115 cc115 me115 rd115
    obtain ⟨_, _, rfl, rfl, ⟨_, _, rfl, rfl, ⟨_, _, rfl, ⟨v116, rfl, h116⟩, ⟨_, _, rfl, ⟨v117, rfl, h117⟩, ⟨v118, rfl, h118⟩⟩⟩⟩⟩ := rd115
    refine L.lg (j := 0) (cs := [.int .i64 x114.1, .string x114.2.1, v116, v117, v118]) me115 ag129 Wt.no rfl rfl rfl rfl rfl ?_
    refine L.al (N + 3) zz129 rfl Wt.no rfl ?_
    intro b119 s120 m121 bx119
    replace m0 := m0.trans m121.no
    replace h3 := h3.mv m121 no_No no_No
    replace h11 := h11.mono (m121.le no_No)
    replace h104 := h104.mv m121 no_No no_No
    replace h116 := h116.mono (m121.le no_No)
    replace h117 := h117.mono (m121.le no_No)
    replace h118 := h118.mono (m121.le no_No)
    replace bx5 := bx5.mv m121 no_No
    replace h1 := h1.mono (m121.le no_No)
    replace h2 := h2.mono (m121.le no_No)
    replace bx109 := bx109.mv m121 no_No
    refine L.st (c := [.int .i64 x114.1, .string x114.2.1, v116, v117, v118]) (cs' := #[.int .i64 x114.1, .string x114.2.1, v116, v117, v118]) bx119 ag129.sz Wt.no rfl rfl rfl rfl (oneC rfl (oneC rfl (oneC h116.one (oneC h117.one (oneC h118.one rfl))))) (Nat.le_of_ble_eq_true rfl) rfl ?_
    intro s122 m123 bx119
    replace m0 := m0.trans (m123.one up)
    replace h3 := h3.mv m123 (tgV lt1) (tg0 hN)
    replace h11 := h11.mono (m123.le (tg0 hN))
    replace h104 := h104.mv m123 (tgN (by decide)) (tg0 hN)
    replace bx5 := bx5.mv m123 (tgN (by decide))
    replace h1 := h1.mono (m123.le (tg0 hN))
    replace h2 := h2.mono (m123.le (tg0 hN))
    replace bx109 := bx109.mv m123 (tgN (by decide))
    replace h116 := h116.mono (m123.le (tg0 hN))
    replace h117 := h117.mono (m123.le (tg0 hN))
    replace h118 := h118.mono (m123.le (tg0 hN))
    refine L.nil ?_
    refine X.seqN ?_
    refine E.seq ?_
    refine E.reg ?_
    refine L.mv Wt.no rfl rfl ?_
    refine L.bi Wt.no rfl rfl rfl rfl ?_
    refine L.as Wt.no rfl rfl ?_
    refine L.nil ?_
    refine X.seqN ?_
    refine E.block ?_
    refine E.seq ?_
    refine E.reg ?_
    refine L.fa fa129_2 Wt.no rfl rfl ?_
    refine L.ld (j := 2) bx119.mem nag126 Wt.no rfl rfl rfl rfl ?_
    refine L.fne2 Try.underlying126 h116 Wt.no rfl rfl rfl ?_
    refine L.as Wt.no rfl rfl ?_
    refine L.nil ?_
    refine X.seqN ?_
    rcases ifS hm with ⟨hc, hm⟩ | ⟨hc, hm⟩
    · refine E.cT rfl hc ?_
      obtain ⟨x131, ex131, hm⟩ := bindS hm
      obtain ⟨f135, ef135, hm⟩ := bindS hm
      obtain ⟨r136, er136, hm⟩ := bindS hm
      refine E.draw [[], [0], [], [], [], [4], [3, 4, 5], [3, 4, 5, 6], [0, 1, 2, 3, 4, 5, 6, 7], [0, 1, 2, 3, 4, 5, 6, 7, 8]] (fun D e sx => Mv No s122 sx ∧ Sub [(8, .int .i64 (W (st93.1 + 1))), (10, .pointer (some ⟨b119, 0, none⟩)), (9, .pointer (some ⟨b109, 0, none⟩)), (6, .slice a104 x103.length c104), (5, .slice a11 r8.length c11), (2, .pointer (some ⟨b5, 0, none⟩)), (1, .slice a3 st93.2.2.2.length c3)] e ∧ (D 9 = false → Env.get e 7 = some (.bool st93.2.1)) ∧ (D 0 = true → (Env.get e 38 = some (.pointer (some ⟨b119, 2, none⟩)))) ∧ (D 1 = true → (Env.get e 39 = some v116)) ∧ (D 2 = true → (Env.get e 40 = some (.bool st93.2.1))) ∧ (D 3 = true → (Env.get e 41 = some (.slice a3 st93.2.2.2.length c3))) ∧ (D 4 = true → (Env.get e 42 = some (.pointer (some ⟨b109, 1, none⟩)))) ∧ (D 5 = true → (Env.get e 43 = some (.int .i64 x107.2))) ∧ (D 6 = true → (∃ (b132 : Nat) (o132 : Nat), Env.get e 44 = some (.pointer (some ⟨b132, o132, none⟩)) ∧ Mem sx t1 b132 o132 [.bool x131] ∧ Spot a3 rB.sz (x107.2).toNat b132 o132)) ∧ (D 7 = true → (Env.get e 45 = some (.bool x131))) ∧ (D 8 = true → (Env.get e 46 = some (.bool r136))) ∧ (D 9 = true → (Env.get e 7 = some (.bool r136)))) (by kernel_rfl) (by kernel_rfl) (by kernel_rfl) ?_ ?_ ?_
      · intro sz mz
        exact ⟨mz, (Sub.cons rfl (Sub.cons rfl (Sub.cons rfl (Sub.cons rfl (Sub.cons rfl (Sub.cons rfl (Sub.cons rfl Sub.nil))))))), fun _ => rfl, nofun, nofun, nofun, nofun, nofun, nofun, nofun, nofun, nofun, nofun⟩
      · refine ⟨?_, ?_, ?_, ?_, ?_, ?_, ?_, ?_, ?_, ?_, trivial⟩
        · rintro D e s124 ⟨im, ib, i0, i1, i2, i3, i4, i5, i6, i7, i8, i9, i10⟩ hk hf ha
          refine L.kns [(10, .pointer (some ⟨b119, 0, none⟩))] ⟨(ib 10 _ rfl), trivial⟩ ?_
          refine L.fa fa129_2 Wt.no rfl rfl ?_
          refine L.nil ?_
          refine X.dr (s := s124) (e' := (38, .pointer (some ⟨b119, 2, none⟩)) :: e) (Sub.both (Kn.sup ⟨(ib 10 _ rfl), trivial⟩)) ⟨im, Sub.fresh ib rfl, i0, fun _ => rfl, i2, i3, i4, i5, i6, i7, i8, i9, i10⟩
        · rintro D e s125 ⟨im, ib, i0, i1, i2, i3, i4, i5, i6, i7, i8, i9, i10⟩ hk hf ha
          obtain ⟨d0, -⟩ := ha
          have g0_ := i1 d0
          have bx119 := bx119.mv im no_No
          refine L.kns [(38, .pointer (some ⟨b119, 2, none⟩))] ⟨g0_, trivial⟩ ?_
          refine L.ld (j := 2) bx119.mem nag126 Wt.no rfl rfl rfl rfl ?_
          refine L.nil ?_
          refine X.dr (s := s125) (e' := (39, v116) :: e) (Sub.both (Kn.sup ⟨g0_, trivial⟩)) ⟨im, Sub.fresh ib rfl, i0, i1, fun _ => rfl, i3, i4, i5, i6, i7, i8, i9, i10⟩
        · rintro D e s126 ⟨im, ib, i0, i1, i2, i3, i4, i5, i6, i7, i8, i9, i10⟩ hk hf ha
          refine L.kns [(7, .bool st93.2.1)] ⟨(i0 (hf 9 (Nat.le_of_ble_eq_true rfl) rfl)), trivial⟩ ?_
          refine L.mv Wt.no rfl rfl ?_
          refine L.nil ?_
          refine X.dr (s := s126) (e' := (40, .bool st93.2.1) :: e) (Sub.both (Kn.sup ⟨(i0 (hf 9 (Nat.le_of_ble_eq_true rfl) rfl)), trivial⟩)) ⟨im, Sub.fresh ib rfl, i0, i1, i2, fun _ => rfl, i4, i5, i6, i7, i8, i9, i10⟩
        · rintro D e s127 ⟨im, ib, i0, i1, i2, i3, i4, i5, i6, i7, i8, i9, i10⟩ hk hf ha
          refine L.kns [(1, .slice a3 st93.2.2.2.length c3)] ⟨(ib 1 _ rfl), trivial⟩ ?_
          refine L.mv Wt.no rfl rfl ?_
          refine L.nil ?_
          refine X.dr (s := s127) (e' := (41, .slice a3 st93.2.2.2.length c3) :: e) (Sub.both (Kn.sup ⟨(ib 1 _ rfl), trivial⟩)) ⟨im, Sub.fresh ib rfl, i0, i1, i2, i3, fun _ => rfl, i5, i6, i7, i8, i9, i10⟩
        · rintro D e s128 ⟨im, ib, i0, i1, i2, i3, i4, i5, i6, i7, i8, i9, i10⟩ hk hf ha
          refine L.kns [(9, .pointer (some ⟨b109, 0, none⟩))] ⟨(ib 9 _ rfl), trivial⟩ ?_
          refine L.fa fa119_1 Wt.no rfl rfl ?_
          refine L.nil ?_
          refine X.dr (s := s128) (e' := (42, .pointer (some ⟨b109, 1, none⟩)) :: e) (Sub.both (Kn.sup ⟨(ib 9 _ rfl), trivial⟩)) ⟨im, Sub.fresh ib rfl, i0, i1, i2, i3, i4, fun _ => rfl, i6, i7, i8, i9, i10⟩
        · rintro D e s129 ⟨im, ib, i0, i1, i2, i3, i4, i5, i6, i7, i8, i9, i10⟩ hk hf ha
          obtain ⟨d4, -⟩ := ha
          have g4_ := i5 d4
          have bx109 := bx109.mv im no_No
          refine L.kns [(42, .pointer (some ⟨b109, 1, none⟩))] ⟨g4_, trivial⟩ ?_
          refine L.ld (j := 1) bx109.mem nag3 Wt.no rfl rfl rfl rfl ?_
          refine L.nil ?_
          refine X.dr (s := s129) (e' := (43, .int .i64 x107.2) :: e) (Sub.both (Kn.sup ⟨g4_, trivial⟩)) ⟨im, Sub.fresh ib rfl, i0, i1, i2, i3, i4, i5, fun _ => rfl, i7, i8, i9, i10⟩
        · rintro D e s130 ⟨im, ib, i0, i1, i2, i3, i4, i5, i6, i7, i8, i9, i10⟩ hk hf ha
          obtain ⟨d3, d4, d5, -⟩ := ha
          have g3_ := i4 d3
          have g5_ := i6 d5
          have h3 := h3.mv im no_No no_No
          refine L.kns [(41, .slice a3 st93.2.2.2.length c3), (43, .int .i64 x107.2)] ⟨g3_, g5_, trivial⟩ ?_
          refine L.ir (r := rB) sl29 h3 Wt.no rfl rfl ex131 rfl ?_
          rintro b132 o132 cc132 me132 rd132 sp132
          obtain rfl := rd132
          refine L.nil ?_
          refine X.dr (s := s130) (e' := (44, .pointer (some ⟨b132, o132, none⟩)) :: e) (Sub.both (Kn.sup ⟨g3_, g5_, trivial⟩)) ⟨im, Sub.fresh ib rfl, i0, i1, i2, i3, i4, i5, i6, fun _ => ⟨b132, o132, rfl, me132, sp132⟩, i8, i9, i10⟩
        · rintro D e s133 ⟨im, ib, i0, i1, i2, i3, i4, i5, i6, i7, i8, i9, i10⟩ hk hf ha
          obtain ⟨d3, d4, d5, d6, -⟩ := ha
          obtain ⟨b132, o132, g6_, me132, sp132⟩ := i7 d6
          refine L.kns [(44, .pointer (some ⟨b132, o132, none⟩))] ⟨g6_, trivial⟩ ?_
          refine L.ld (j := 0) me132 nag4 Wt.no rfl rfl rfl rfl ?_
          refine L.nil ?_
          refine X.dr (s := s133) (e' := (45, .bool x131) :: e) (Sub.both (Kn.sup ⟨g6_, trivial⟩)) ⟨im, Sub.fresh ib rfl, i0, i1, i2, i3, i4, i5, i6, i7, fun _ => rfl, i9, i10⟩
        · rintro D e s134 ⟨im, ib, i0, i1, i2, i3, i4, i5, i6, i7, i8, i9, i10⟩ hk hf ha
          obtain ⟨d0, d1, d2, d3, d4, d5, d6, d7, -⟩ := ha
          have g1_ := i2 d1
          have g2_ := i3 d2
          have g7_ := i8 d7
          have h116 := h116.mono (im.le no_No)
          refine L.kns [(39, v116), (40, .bool st93.2.1), (45, .bool x131)] ⟨g1_, g2_, g7_, trivial⟩ ?_
          have hf135 := FO2.some h116 ef135
          refine L.fv2 (y := st93.2.1) (z := x131) hf135 rfl rfl Wt.no rfl rfl er136 rfl ?_
          intro s137 m138
          refine L.nil ?_
          refine X.dr (s := s137) (e' := (46, .bool r136) :: e) (Sub.both (Kn.sup ⟨g1_, g2_, g7_, trivial⟩)) ⟨im.trans m138.no, Sub.fresh ib rfl, i0, i1, i2, i3, i4, i5, i6, fun z => let ⟨b132, o132, q, me132, sp132⟩ := i7 z; ⟨b132, o132, q, (me132.mv m138 no_No), sp132⟩, i8, fun _ => rfl, i10⟩
        · rintro D e s139 ⟨im, ib, i0, i1, i2, i3, i4, i5, i6, i7, i8, i9, i10⟩ hk hf ha
          obtain ⟨d0, d1, d2, d3, d4, d5, d6, d7, d8, -⟩ := ha
          have g8_ := i9 d8
          refine L.kns [(46, .bool r136)] ⟨g8_, trivial⟩ ?_
          refine L.as Wt.no rfl rfl ?_
          refine L.nil ?_
          refine X.dr (s := s139) (e' := (7, .bool r136) :: e) (Sub.both (Kn.sup ⟨g8_, trivial⟩)) ⟨im, Sub.fresh ib rfl, fun z => Bool.noConfusion (show true = false from z), i1, i2, i3, i4, i5, i6, i7, i8, i9, fun _ => rfl⟩
      · rintro D e s140 hD ⟨im, ib, i0, i1, i2, i3, i4, i5, i6, i7, i8, i9, i10⟩
        have g9_ := i10 (hD 9 rfl)
        have h104 := h104.mv im no_No no_No
        have h11 := h11.mono (im.le no_No)
        have bx5 := bx5.mv im no_No
        have h1 := h1.mono (im.le no_No)
        have h2 := h2.mono (im.le no_No)
        have h3 := h3.mv im no_No no_No
        have m0 := m0.trans im.no
        refine X.sub (e' := [(7, .bool r136), (8, .int .i64 (W (st93.1 + 1))), (6, .slice a104 x103.length c104), (5, .slice a11 r8.length c11), (2, .pointer (some ⟨b5, 0, none⟩)), (1, .slice a3 st93.2.2.2.length c3)]) ?_ (Sub.cons g9_ (Sub.cons (ib 8 _ rfl) (Sub.cons (ib 6 _ rfl) (Sub.cons (ib 5 _ rfl) (Sub.cons (ib 2 _ rfl) (Sub.cons (ib 1 _ rfl) Sub.nil))))))
        refine X.blkN ?_
        refine X.blkN ?_
        exact X.sub (ih93 _ (Option.some.inj hm).symm _ _ ⟨s140, a104, c104, m0, h104, h11, h3, h1, h2, bx5, rfl, rfl⟩) (Sub.cons rfl (Sub.cons rfl (Sub.cons rfl (Sub.cons rfl (Sub.cons rfl (Sub.cons rfl Sub.nil))))))
    · refine E.cF rfl hc ?_
      refine E.seq ?_
      refine E.reg ?_
      refine L.fa fa129_3 Wt.no rfl rfl ?_
      refine L.ld (j := 3) bx119.mem nag126 Wt.no rfl rfl rfl rfl ?_
      refine L.fne2 Try.underlying126 h117 Wt.no rfl rfl rfl ?_
      refine L.as Wt.no rfl rfl ?_
      refine L.nil ?_
      refine X.seqN ?_
      rcases ifS hm with ⟨hc, hm⟩ | ⟨hc, hm⟩
      · refine E.cT rfl hc ?_
        obtain ⟨x151, ex151, hm⟩ := bindS hm
        obtain ⟨f155, ef155, hm⟩ := bindS hm
        obtain ⟨r156, er156, hm⟩ := bindS hm
        obtain ⟨x160, ex160, hm⟩ := bindS hm
        obtain ⟨x163, ex163, hm⟩ := bindS hm
        have elx163 := upd_len ex163
        refine E.draw [[], [], [1], [], [3], [], [], [], [7], [6, 7, 8], [6, 7, 8, 9], [3, 4, 5, 6, 7, 8, 9, 10], [0, 1, 2, 3, 4, 5, 6, 7, 8, 9, 10, 11], [0, 1, 2, 3, 4, 5, 6, 7, 8, 9, 10, 11, 12]] (fun D e sx => Mv (One t1) s122 sx ∧ Sub [(8, .int .i64 (W (st93.1 + 1))), (10, .pointer (some ⟨b119, 0, none⟩)), (9, .pointer (some ⟨b109, 0, none⟩)), (6, .slice a104 x103.length c104), (7, .bool st93.2.1), (5, .slice a11 r8.length c11), (2, .pointer (some ⟨b5, 0, none⟩)), (1, .slice a3 st93.2.2.2.length c3)] e ∧ (D 0 = true → (Env.get e 51 = some (.slice a3 st93.2.2.2.length c3))) ∧ (D 1 = true → (Env.get e 52 = some (.pointer (some ⟨b109, 1, none⟩)))) ∧ (D 2 = true → (Env.get e 53 = some (.int .i64 x107.2))) ∧ (D 3 = true → (Env.get e 54 = some (.pointer (some ⟨b119, 3, none⟩)))) ∧ (D 4 = true → (Env.get e 55 = some v117)) ∧ (D 5 = true → (Env.get e 56 = some (.bool st93.2.1))) ∧ (D 6 = true → (Env.get e 57 = some (.slice a3 st93.2.2.2.length c3))) ∧ (D 7 = true → (Env.get e 58 = some (.pointer (some ⟨b109, 1, none⟩)))) ∧ (D 8 = true → (Env.get e 59 = some (.int .i64 x107.2))) ∧ (D 9 = true → (∃ (b152 : Nat) (o152 : Nat), Env.get e 60 = some (.pointer (some ⟨b152, o152, none⟩)) ∧ Spot a3 rB.sz (x107.2).toNat b152 o152)) ∧ (D 10 = true → (Env.get e 61 = some (.bool x151))) ∧ (D 11 = true → (Env.get e 62 = some (.bool r156))) ∧ (D 12 = true → (∃ (b161 : Nat) (o161 : Nat), Env.get e 63 = some (.pointer (some ⟨b161, o161, none⟩)) ∧ Spot a3 rB.sz (x107.2).toNat b161 o161)) ∧ (D 13 = false → RowT rB sx t1 4 a3 c3 st93.2.2.2) ∧ (D 13 = true → RowT rB sx t1 4 a3 c3 x163) ∧ (D 9 = true → D 13 = false → ∀ (b152 : Nat) (o152 : Nat), Env.get e 60 = some (.pointer (some ⟨b152, o152, none⟩)) → Mem sx t1 b152 o152 [.bool x151]) ∧ (D 12 = true → D 13 = false → ∀ (b161 : Nat) (o161 : Nat), Env.get e 63 = some (.pointer (some ⟨b161, o161, none⟩)) → Mem sx t1 b161 o161 [.bool x160])) (by kernel_rfl) (by kernel_rfl) (by kernel_rfl) ?_ ?_ ?_
        · intro sz mz
          exact ⟨mz.no, (Sub.cons rfl (Sub.cons rfl (Sub.cons rfl (Sub.cons rfl (Sub.cons rfl (Sub.cons rfl (Sub.cons rfl (Sub.cons rfl Sub.nil)))))))), nofun, nofun, nofun, nofun, nofun, nofun, nofun, nofun, nofun, nofun, nofun, nofun, nofun, fun _ => h3.mv mz no_No no_No, nofun, nofun, nofun⟩
        · refine ⟨?_, ?_, ?_, ?_, ?_, ?_, ?_, ?_, ?_, ?_, ?_, ?_, ?_, ?_, trivial⟩
          · rintro D e s141 ⟨im, ib, i0, i1, i2, i3, i4, i5, i6, i7, i8, i9, i10, i11, i12, i13, i14, i15, i16⟩ hk hf ha
            refine L.kns [(1, .slice a3 st93.2.2.2.length c3)] ⟨(ib 1 _ rfl), trivial⟩ ?_
            refine L.mv Wt.no rfl rfl ?_
            refine L.nil ?_
            refine X.dr (s := s141) (e' := (51, .slice a3 st93.2.2.2.length c3) :: e) (Sub.both (Kn.sup ⟨(ib 1 _ rfl), trivial⟩)) ⟨im, Sub.fresh ib rfl, fun _ => rfl, i1, i2, i3, i4, i5, i6, i7, i8, i9, i10, i11, i12, i13, i14, i15, i16⟩
          · rintro D e s142 ⟨im, ib, i0, i1, i2, i3, i4, i5, i6, i7, i8, i9, i10, i11, i12, i13, i14, i15, i16⟩ hk hf ha
            refine L.kns [(9, .pointer (some ⟨b109, 0, none⟩))] ⟨(ib 9 _ rfl), trivial⟩ ?_
            refine L.fa fa119_1 Wt.no rfl rfl ?_
            refine L.nil ?_
            refine X.dr (s := s142) (e' := (52, .pointer (some ⟨b109, 1, none⟩)) :: e) (Sub.both (Kn.sup ⟨(ib 9 _ rfl), trivial⟩)) ⟨im, Sub.fresh ib rfl, i0, fun _ => rfl, i2, i3, i4, i5, i6, i7, i8, i9, i10, i11, i12, i13, i14, i15, i16⟩
          · rintro D e s143 ⟨im, ib, i0, i1, i2, i3, i4, i5, i6, i7, i8, i9, i10, i11, i12, i13, i14, i15, i16⟩ hk hf ha
            obtain ⟨d1, -⟩ := ha
            have g1_ := i1 d1
            have bx109 := bx109.mv im (tgW lt1)
            refine L.kns [(52, .pointer (some ⟨b109, 1, none⟩))] ⟨g1_, trivial⟩ ?_
            refine L.ld (j := 1) bx109.mem nag3 Wt.no rfl rfl rfl rfl ?_
            refine L.nil ?_
            refine X.dr (s := s143) (e' := (53, .int .i64 x107.2) :: e) (Sub.both (Kn.sup ⟨g1_, trivial⟩)) ⟨im, Sub.fresh ib rfl, i0, i1, fun _ => rfl, i3, i4, i5, i6, i7, i8, i9, i10, i11, i12, i13, i14, i15, i16⟩
          · rintro D e s144 ⟨im, ib, i0, i1, i2, i3, i4, i5, i6, i7, i8, i9, i10, i11, i12, i13, i14, i15, i16⟩ hk hf ha
            refine L.kns [(10, .pointer (some ⟨b119, 0, none⟩))] ⟨(ib 10 _ rfl), trivial⟩ ?_
            refine L.fa fa129_3 Wt.no rfl rfl ?_
            refine L.nil ?_
            refine X.dr (s := s144) (e' := (54, .pointer (some ⟨b119, 3, none⟩)) :: e) (Sub.both (Kn.sup ⟨(ib 10 _ rfl), trivial⟩)) ⟨im, Sub.fresh ib rfl, i0, i1, i2, fun _ => rfl, i4, i5, i6, i7, i8, i9, i10, i11, i12, i13, i14, i15, i16⟩
          · rintro D e s145 ⟨im, ib, i0, i1, i2, i3, i4, i5, i6, i7, i8, i9, i10, i11, i12, i13, i14, i15, i16⟩ hk hf ha
            obtain ⟨d3, -⟩ := ha
            have g3_ := i3 d3
            have bx119 := bx119.mv im (tgW lt1)
            refine L.kns [(54, .pointer (some ⟨b119, 3, none⟩))] ⟨g3_, trivial⟩ ?_
            refine L.ld (j := 3) bx119.mem nag126 Wt.no rfl rfl rfl rfl ?_
            refine L.nil ?_
            refine X.dr (s := s145) (e' := (55, v117) :: e) (Sub.both (Kn.sup ⟨g3_, trivial⟩)) ⟨im, Sub.fresh ib rfl, i0, i1, i2, i3, fun _ => rfl, i5, i6, i7, i8, i9, i10, i11, i12, i13, i14, i15, i16⟩
          · rintro D e s146 ⟨im, ib, i0, i1, i2, i3, i4, i5, i6, i7, i8, i9, i10, i11, i12, i13, i14, i15, i16⟩ hk hf ha
            refine L.kns [(7, .bool st93.2.1)] ⟨(ib 7 _ rfl), trivial⟩ ?_
            refine L.mv Wt.no rfl rfl ?_
            refine L.nil ?_
            refine X.dr (s := s146) (e' := (56, .bool st93.2.1) :: e) (Sub.both (Kn.sup ⟨(ib 7 _ rfl), trivial⟩)) ⟨im, Sub.fresh ib rfl, i0, i1, i2, i3, i4, fun _ => rfl, i6, i7, i8, i9, i10, i11, i12, i13, i14, i15, i16⟩
          · rintro D e s147 ⟨im, ib, i0, i1, i2, i3, i4, i5, i6, i7, i8, i9, i10, i11, i12, i13, i14, i15, i16⟩ hk hf ha
            refine L.kns [(1, .slice a3 st93.2.2.2.length c3)] ⟨(ib 1 _ rfl), trivial⟩ ?_
            refine L.mv Wt.no rfl rfl ?_
            refine L.nil ?_
            refine X.dr (s := s147) (e' := (57, .slice a3 st93.2.2.2.length c3) :: e) (Sub.both (Kn.sup ⟨(ib 1 _ rfl), trivial⟩)) ⟨im, Sub.fresh ib rfl, i0, i1, i2, i3, i4, i5, fun _ => rfl, i7, i8, i9, i10, i11, i12, i13, i14, i15, i16⟩
          · rintro D e s148 ⟨im, ib, i0, i1, i2, i3, i4, i5, i6, i7, i8, i9, i10, i11, i12, i13, i14, i15, i16⟩ hk hf ha
            refine L.kns [(9, .pointer (some ⟨b109, 0, none⟩))] ⟨(ib 9 _ rfl), trivial⟩ ?_
            refine L.fa fa119_1 Wt.no rfl rfl ?_
            refine L.nil ?_
            refine X.dr (s := s148) (e' := (58, .pointer (some ⟨b109, 1, none⟩)) :: e) (Sub.both (Kn.sup ⟨(ib 9 _ rfl), trivial⟩)) ⟨im, Sub.fresh ib rfl, i0, i1, i2, i3, i4, i5, i6, fun _ => rfl, i8, i9, i10, i11, i12, i13, i14, i15, i16⟩
          · rintro D e s149 ⟨im, ib, i0, i1, i2, i3, i4, i5, i6, i7, i8, i9, i10, i11, i12, i13, i14, i15, i16⟩ hk hf ha
            obtain ⟨d7, -⟩ := ha
            have g7_ := i7 d7
            have bx109 := bx109.mv im (tgW lt1)
            refine L.kns [(58, .pointer (some ⟨b109, 1, none⟩))] ⟨g7_, trivial⟩ ?_
            refine L.ld (j := 1) bx109.mem nag3 Wt.no rfl rfl rfl rfl ?_
            refine L.nil ?_
            refine X.dr (s := s149) (e' := (59, .int .i64 x107.2) :: e) (Sub.both (Kn.sup ⟨g7_, trivial⟩)) ⟨im, Sub.fresh ib rfl, i0, i1, i2, i3, i4, i5, i6, i7, fun _ => rfl, i9, i10, i11, i12, i13, i14, i15, i16⟩
          · rintro D e s150 ⟨im, ib, i0, i1, i2, i3, i4, i5, i6, i7, i8, i9, i10, i11, i12, i13, i14, i15, i16⟩ hk hf ha
            obtain ⟨d6, d7, d8, -⟩ := ha
            have g6_ := i6 d6
            have g8_ := i8 d8
            obtain h3 := i13 (hf 13 (Nat.le_of_ble_eq_true rfl) rfl)
            refine L.kns [(57, .slice a3 st93.2.2.2.length c3), (59, .int .i64 x107.2)] ⟨g6_, g8_, trivial⟩ ?_
            refine L.ir (r := rB) sl29 h3 Wt.no rfl rfl ex151 rfl ?_
            rintro b152 o152 cc152 me152 rd152 sp152
            obtain rfl := rd152
            refine L.nil ?_
            refine X.dr (s := s150) (e' := (60, .pointer (some ⟨b152, o152, none⟩)) :: e) (Sub.both (Kn.sup ⟨g6_, g8_, trivial⟩)) ⟨im, Sub.fresh ib rfl, i0, i1, i2, i3, i4, i5, i6, i7, i8, fun _ => ⟨b152, o152, rfl, sp152⟩, i10, i11, i12, i13, i14, fun _ _ _ _ q9 => by cases (show some (.pointer (some ⟨b152, o152, none⟩) : Value) = some _ from q9); exact me152, i16⟩
          · rintro D e s153 ⟨im, ib, i0, i1, i2, i3, i4, i5, i6, i7, i8, i9, i10, i11, i12, i13, i14, i15, i16⟩ hk hf ha
            obtain ⟨d6, d7, d8, d9, -⟩ := ha
            obtain ⟨b152, o152, g9_, sp152⟩ := i9 d9
            have me152 := i15 d9 (hf 13 (Nat.le_of_ble_eq_true rfl) rfl) b152 o152 g9_
            refine L.kns [(60, .pointer (some ⟨b152, o152, none⟩))] ⟨g9_, trivial⟩ ?_
            refine L.ld (j := 0) me152 nag4 Wt.no rfl rfl rfl rfl ?_
            refine L.nil ?_
            refine X.dr (s := s153) (e' := (61, .bool x151) :: e) (Sub.both (Kn.sup ⟨g9_, trivial⟩)) ⟨im, Sub.fresh ib rfl, i0, i1, i2, i3, i4, i5, i6, i7, i8, i9, fun _ => rfl, i11, i12, i13, i14, i15, i16⟩
          · rintro D e s154 ⟨im, ib, i0, i1, i2, i3, i4, i5, i6, i7, i8, i9, i10, i11, i12, i13, i14, i15, i16⟩ hk hf ha
            obtain ⟨d3, d4, d5, d6, d7, d8, d9, d10, -⟩ := ha
            have g4_ := i4 d4
            have g5_ := i5 d5
            have g10_ := i10 d10
            have h117 := h117.mono (im.le (tgz zt1))
            refine L.kns [(55, v117), (56, .bool st93.2.1), (61, .bool x151)] ⟨g4_, g5_, g10_, trivial⟩ ?_
            have hf155 := FO2.some h117 ef155
            refine L.fv2 (y := st93.2.1) (z := x151) hf155 rfl rfl Wt.no rfl rfl er156 rfl ?_
            intro s157 m158
            refine L.nil ?_
            refine X.dr (s := s157) (e' := (62, .bool r156) :: e) (Sub.both (Kn.sup ⟨g4_, g5_, g10_, trivial⟩)) ⟨im.trans m158.no, Sub.fresh ib rfl, i0, i1, i2, i3, i4, i5, i6, i7, i8, fun z => let ⟨b152, o152, q, sp152⟩ := i9 z; ⟨b152, o152, q, sp152⟩, i10, fun _ => rfl, fun z => let ⟨b161, o161, q, sp161⟩ := i12 z; ⟨b161, o161, q, sp161⟩, fun z2 => ((i13 z2).mv m158 no_No no_No), fun z => ((i14 z).mv m158 no_No no_No), fun z y13 b152 o152 q9 => ((i15 z y13 b152 o152 q9).mv m158 no_No), fun z y13 b161 o161 q12 => ((i16 z y13 b161 o161 q12).mv m158 no_No)⟩
          · rintro D e s159 ⟨im, ib, i0, i1, i2, i3, i4, i5, i6, i7, i8, i9, i10, i11, i12, i13, i14, i15, i16⟩ hk hf ha
            obtain ⟨d0, d1, d2, d3, d4, d5, d6, d7, d8, d9, d10, d11, -⟩ := ha
            have g0_ := i0 d0
            have g2_ := i2 d2
            obtain h3 := i13 (hf 13 (Nat.le_of_ble_eq_true rfl) rfl)
            refine L.kns [(51, .slice a3 st93.2.2.2.length c3), (53, .int .i64 x107.2)] ⟨g0_, g2_, trivial⟩ ?_
            refine L.ir (r := rB) sl29 h3 Wt.no rfl rfl ex160 rfl ?_
            rintro b161 o161 cc161 me161 rd161 sp161
            obtain rfl := rd161
            refine L.nil ?_
            refine X.dr (s := s159) (e' := (63, .pointer (some ⟨b161, o161, none⟩)) :: e) (Sub.both (Kn.sup ⟨g0_, g2_, trivial⟩)) ⟨im, Sub.fresh ib rfl, i0, i1, i2, i3, i4, i5, i6, i7, i8, i9, i10, i11, fun _ => ⟨b161, o161, rfl, sp161⟩, i13, i14, i15, fun _ _ _ _ q12 => by cases (show some (.pointer (some ⟨b161, o161, none⟩) : Value) = some _ from q12); exact me161⟩
          · rintro D e s162 ⟨im, ib, i0, i1, i2, i3, i4, i5, i6, i7, i8, i9, i10, i11, i12, i13, i14, i15, i16⟩ hk hf ha
            obtain ⟨d0, d1, d2, d3, d4, d5, d6, d7, d8, d9, d10, d11, d12, -⟩ := ha
            have g11_ := i11 d11
            obtain ⟨b161, o161, g12_, sp161⟩ := i12 d12
            obtain h3 := i13 hk
            refine L.kns [(63, .pointer (some ⟨b161, o161, none⟩)), (62, .bool r156)] ⟨g12_, g11_, trivial⟩ ?_
            refine L.su (fo := 0) (c := [.bool r156]) (z := r156) h3 sp161 ex160 ex163 (tgpV zt1) nag4.sz Wt.no rfl rfl rfl rfl rfl rfl (fun c0 hc0 => by obtain rfl := hc0; exact rfl) ?_
            intro s164 m165 h3
            refine L.nil ?_
            refine X.dr (s := s164) (e' := e) (Kn.sup ⟨g12_, g11_, trivial⟩) ⟨im.trans (m165.one rfl), ib, i0, i1, i2, i3, i4, i5, i6, i7, i8, fun z => let ⟨b152, o152, q, sp152⟩ := i9 z; ⟨b152, o152, q, sp152⟩, i10, i11, fun z => let ⟨b161, o161, q, sp161⟩ := i12 z; ⟨b161, o161, q, sp161⟩, fun z => Bool.noConfusion (show true = false from z), fun _ => by exact h3, fun _ y13 => Bool.noConfusion (show true = false from y13), fun _ y13 => Bool.noConfusion (show true = false from y13)⟩
        · rintro D e s166 hD ⟨im, ib, i0, i1, i2, i3, i4, i5, i6, i7, i8, i9, i10, i11, i12, i13, i14, i15, i16⟩
          obtain h3 := i14 (hD 13 rfl)
          have h104 := h104.mv im (tgW lt1) (tgz zt1)
          have h11 := h11.mono (im.le (tgz zt1))
          have bx5 := bx5.mv im (tgW lt1)
          have h1 := h1.mono (im.le (tgz zt1))
          have h2 := h2.mono (im.le (tgz zt1))
          have m0 := m0.trans (im.one (.inr rfl))
          refine X.sub (e' := [(8, .int .i64 (W (st93.1 + 1))), (6, .slice a104 x103.length c104), (7, .bool st93.2.1), (5, .slice a11 r8.length c11), (2, .pointer (some ⟨b5, 0, none⟩)), (1, .slice a3 st93.2.2.2.length c3)]) ?_ (Sub.cons (ib 8 _ rfl) (Sub.cons (ib 6 _ rfl) (Sub.cons (ib 7 _ rfl) (Sub.cons (ib 5 _ rfl) (Sub.cons (ib 2 _ rfl) (Sub.cons (ib 1 _ rfl) Sub.nil))))))
          refine X.reval (d := 1) rfl elx163 ?_
          refine X.blkN ?_
          refine X.blkN ?_
          exact X.sub (ih93 _ (Option.some.inj hm).symm _ _ ⟨s166, a104, c104, m0, h104, h11, h3, h1, h2, bx5, rfl, rfl⟩) (Sub.cons rfl (Sub.cons rfl (Sub.cons rfl (Sub.cons rfl (Sub.cons rfl (Sub.cons rfl Sub.nil))))))
      · refine E.cF rfl hc ?_
        refine E.seq ?_
        refine E.reg ?_
        refine L.fa fa129_4 Wt.no rfl rfl ?_
        refine L.ld (j := 4) bx119.mem nag127 Wt.no rfl rfl rfl rfl ?_
        refine L.mv Wt.no rfl rfl ?_
        obtain ⟨f167, ef167, hm⟩ := bindS hm
        have hf167 := FO1.some h118 ef167
        obtain ⟨r168, er168, hm⟩ := bindS hm
        refine L.fv1 (y := st93.2.1) hf167 rfl rfl Wt.no rfl rfl er168 rfl ?_
        intro s169 m170
        replace m0 := m0.trans m170.no
        replace h3 := h3.mv m170 no_No no_No
        replace h11 := h11.mono (m170.le no_No)
        replace h104 := h104.mv m170 no_No no_No
        replace bx5 := bx5.mv m170 no_No
        replace h1 := h1.mono (m170.le no_No)
        replace h2 := h2.mono (m170.le no_No)
        replace bx109 := bx109.mv m170 no_No
        refine L.as Wt.no rfl rfl ?_
        refine L.nil ?_
        refine X.seqN ?_
        rcases ifS hm with ⟨hc, hm⟩ | ⟨hc, hm⟩
        · refine E.cT rfl hc ?_
          refine E.reg ?_
          refine L.fa fa119_1 Wt.no rfl rfl ?_
          refine L.ld (j := 1) bx109.mem nag3 Wt.no rfl rfl rfl rfl ?_
          refine L.as Wt.no rfl rfl ?_
          refine L.nil ?_
          refine X.blkN ?_
          refine X.blkN ?_
          exact X.sub (ih93 _ (Option.some.inj hm).symm _ _ ⟨s169, a104, c104, m0, h104, h11, h3, h1, h2, bx5, rfl, rfl⟩) (Sub.cons rfl (Sub.cons rfl (Sub.cons rfl (Sub.cons rfl (Sub.cons rfl (Sub.cons rfl Sub.nil))))))
        · refine E.cF rfl hc ?_
          refine E.skip ?_
          refine X.blkN ?_
          refine X.blkN ?_
          exact X.sub (ih93 _ (Option.some.inj hm).symm _ _ ⟨s169, a104, c104, m0, h104, h11, h3, h1, h2, bx5, rfl, rfl⟩) (Sub.cons rfl (Sub.cons rfl (Sub.cons rfl (Sub.cons rfl (Sub.cons rfl (Sub.cons rfl Sub.nil))))))
  · refine E.cF rfl hc ?_
    refine E.exit ?_
    refine X.seqX ?_
    refine X.seqX ?_
    have hx := ho93 _ (Option.some.inj hm).symm
    subst hx
    exact X.sub (K99 _ _ ⟨s97, a15, c15, m0, h15, h3, rfl, rfl⟩) (Sub.cons rfl Sub.nil)

/-- What instruction.state computes. -/
noncomputable def m_instruction_state (p0 : Int × Int × Int × List Bool × (List (Int × Int))) (p1 : List Bool) : Option (List Bool × List Bool) :=
  (slc3 p1 p0.1 (W (p0.1 + p0.2.1)) (W (p0.1 + p0.2.1))).bind fun x18 =>
  (slc3 p1 (W (p0.1 + p0.2.1)) (p1.length : Int) (p1.length : Int)).bind fun x27 =>
  some (x18, x27)
set_option maxRecDepth 100000 in
set_option maxHeartbeats 8000000 in
theorem m_instruction_state_c {s : Sig} {p0 : Int × Int × Int × List Bool × (List (Int × Int))} {p1 : List Bool} {a1 : Option Addr} {c1 : Nat} {a2 : Option Addr} {c2 : Nat} {a3 : Option Addr} {c3 : Nat} {r : (List Bool × List Bool)} (h1 : RdL rB s a1 c1 p0.2.2.2.1) (h2 : RdL (rP (rK .i64) (rK .i64)) s a2 c2 p0.2.2.2.2) (h3 : RdL rB s a3 c3 p1) (hm : m_instruction_state p0 p1 = some r) :
    Calls Try.prog 56 #[.agg #[.int .i64 p0.1, .int .i64 p0.2.1, .int .i64 p0.2.2.1, .slice a1 p0.2.2.2.1.length c1, .slice a2 p0.2.2.2.2.length c2], .slice a3 p1.length c3] s.w (RetS No s fun v s' => ∃ (a4 : Option Addr) (c4 : Nat) (a5 : Option Addr) (c5 : Nat), v = .agg #[.slice a4 r.1.length c4, .slice a5 r.2.length c5] ∧ RdL rB s' a4 c4 r.1 ∧ RdL rB s' a5 c5 r.2) := by
  unfold m_instruction_state at hm
  obtain ⟨N, hN, hNb⟩ := s.fresh
  have m0 : Mv (Up N No) s s := Mv.refl _ _
  refine E.entry (vs := [.agg #[.int .i64 p0.1, .int .i64 p0.2.1, .int .i64 p0.2.2.1, .slice a1 p0.2.2.2.1.length c1, .slice a2 p0.2.2.2.2.length c2], .slice a3 p1.length c3]) (e := [(0, .agg #[.int .i64 p0.1, .int .i64 p0.2.1, .int .i64 p0.2.2.1, .slice a1 p0.2.2.2.1.length c1, .slice a2 p0.2.2.2.2.length c2]), (1, .slice a3 p1.length c3)]) Try.func56 rfl Try.ntmps56 rfl rfl ?_
  refine E.seq ?_
  refine E.reg ?_
  refine L.box (N + 0) Wt.no rfl rfl rfl ?_
  intro b6 s7 m8 bx6
  replace m0 := m0.trans m8.no
  replace h3 := h3.mono (m8.le no_No)
  replace h1 := h1.mono (m8.le no_No)
  replace h2 := h2.mono (m8.le no_No)
  refine L.al (N + 1) zz39 rfl Wt.no rfl ?_
  intro b9 s10 m11 bx9
  replace m0 := m0.trans m11.no
  replace h3 := h3.mono (m11.le no_No)
  replace bx6 := bx6.mv m11 no_No
  replace h1 := h1.mono (m11.le no_No)
  replace h2 := h2.mono (m11.le no_No)
  refine L.nil ?_
  refine X.seqN ?_
  refine E.seq ?_
  refine E.reg ?_
  refine L.fa fa32_0 Wt.no rfl rfl ?_
  refine L.ld (j := 0) bx6.mem nag3 Wt.no rfl rfl rfl rfl ?_
  refine L.fa fa32_1 Wt.no rfl rfl ?_
  refine L.ld (j := 1) bx6.mem nag3 Wt.no rfl rfl rfl rfl ?_
  refine L.bi Wt.no rfl rfl rfl rfl ?_
  refine L.as Wt.no rfl rfl ?_
  refine L.nil ?_
  refine X.seqN ?_
  refine E.seq ?_
  obtain ⟨x18, ex18, hm⟩ := bindS hm
  obtain ⟨x27, ex27, hm⟩ := bindS hm
  refine E.draw [[], [], [1], [], [], [0, 1, 2, 3, 4], [], [], [], [8], [], [10], [6, 7, 8, 9, 10, 11], [0, 1, 2, 3, 4, 5, 6, 7, 8, 9, 10, 11, 12], [0, 1, 2, 3, 4, 5, 6, 7, 8, 9, 10, 11, 12, 13]] (fun D e sx => Mv (One (N + 1)) s10 sx ∧ Sub [(5, .int .i64 (W (p0.1 + p0.2.1))), (4, .pointer (some ⟨b9, 0, none⟩)), (2, .pointer (some ⟨b6, 0, none⟩)), (1, .slice a3 p1.length c3)] e ∧ (D 0 = true → (Env.get e 11 = some (.slice a3 p1.length c3))) ∧ (D 1 = true → (Env.get e 12 = some (.pointer (some ⟨b6, 0, none⟩)))) ∧ (D 2 = true → (Env.get e 13 = some (.int .i64 p0.1))) ∧ (D 3 = true → (Env.get e 14 = some (.int .i64 (W (p0.1 + p0.2.1))))) ∧ (D 4 = true → (Env.get e 15 = some (.int .i64 (W (p0.1 + p0.2.1))))) ∧ (D 5 = true → (∃ (a19 : Option Addr) (c19 : Nat), Env.get e 16 = some (.slice a19 x18.length c19) ∧ RdL rB sx a19 c19 x18)) ∧ (D 6 = true → (Env.get e 17 = some (.slice a3 p1.length c3))) ∧ (D 7 = true → (Env.get e 18 = some (.int .i64 (W (p0.1 + p0.2.1))))) ∧ (D 8 = true → (Env.get e 19 = some (.slice a3 p1.length c3))) ∧ (D 9 = true → (Env.get e 20 = some (.int .i64 (p1.length : Int)))) ∧ (D 10 = true → (Env.get e 21 = some (.slice a3 p1.length c3))) ∧ (D 11 = true → (Env.get e 22 = some (.int .i64 (p1.length : Int)))) ∧ (D 12 = true → (∃ (a28 : Option Addr) (c28 : Nat), Env.get e 23 = some (.slice a28 x27.length c28) ∧ RdL rB sx a28 c28 x27)) ∧ (D 13 = true → ∀ (a19 : Option Addr) (c19 : Nat) (a28 : Option Addr) (c28 : Nat), Env.get e 16 = some (.slice a19 x18.length c19) → Env.get e 23 = some (.slice a28 x27.length c28) → (Env.get e 24 = some (.agg #[.slice a19 x18.length c19, .slice a28 x27.length c28]))) ∧ (D 14 = false → Bx sx (N + 1) b9 #[.slice none 0 0, .slice none 0 0] 39) ∧ (D 14 = true → ∀ (a19 : Option Addr) (c19 : Nat) (a28 : Option Addr) (c28 : Nat), Env.get e 16 = some (.slice a19 x18.length c19) → Env.get e 23 = some (.slice a28 x27.length c28) → Bx sx (N + 1) b9 #[.slice a19 x18.length c19, .slice a28 x27.length c28] 39)) (by kernel_rfl) (by kernel_rfl) (by kernel_rfl) ?_ ?_ ?_
  · intro sz mz
    exact ⟨mz.no, (Sub.cons rfl (Sub.cons rfl (Sub.cons rfl (Sub.cons rfl Sub.nil)))), nofun, nofun, nofun, nofun, nofun, nofun, nofun, nofun, nofun, nofun, nofun, nofun, nofun, nofun, fun _ => bx9.mv mz no_No, nofun⟩
  · refine ⟨?_, ?_, ?_, ?_, ?_, ?_, ?_, ?_, ?_, ?_, ?_, ?_, ?_, ?_, ?_, trivial⟩
    · rintro D e s12 ⟨im, ib, i0, i1, i2, i3, i4, i5, i6, i7, i8, i9, i10, i11, i12, i13, i14, i15⟩ hk hf ha
      refine L.kns [(1, .slice a3 p1.length c3)] ⟨(ib 1 _ rfl), trivial⟩ ?_
      refine L.mv Wt.no rfl rfl ?_
      refine L.nil ?_
      refine X.dr (s := s12) (e' := (11, .slice a3 p1.length c3) :: e) (Sub.both (Kn.sup ⟨(ib 1 _ rfl), trivial⟩)) ⟨im, Sub.fresh ib rfl, fun _ => rfl, i1, i2, i3, i4, i5, i6, i7, i8, i9, i10, i11, i12, i13, i14, i15⟩
    · rintro D e s13 ⟨im, ib, i0, i1, i2, i3, i4, i5, i6, i7, i8, i9, i10, i11, i12, i13, i14, i15⟩ hk hf ha
      refine L.kns [(2, .pointer (some ⟨b6, 0, none⟩))] ⟨(ib 2 _ rfl), trivial⟩ ?_
      refine L.fa fa32_0 Wt.no rfl rfl ?_
      refine L.nil ?_
      refine X.dr (s := s13) (e' := (12, .pointer (some ⟨b6, 0, none⟩)) :: e) (Sub.both (Kn.sup ⟨(ib 2 _ rfl), trivial⟩)) ⟨im, Sub.fresh ib rfl, i0, fun _ => rfl, i2, i3, i4, i5, i6, i7, i8, i9, i10, i11, i12, i13, i14, i15⟩
    · rintro D e s14 ⟨im, ib, i0, i1, i2, i3, i4, i5, i6, i7, i8, i9, i10, i11, i12, i13, i14, i15⟩ hk hf ha
      obtain ⟨d1, -⟩ := ha
      have g1_ := i1 d1
      have bx6 := bx6.mv im (tgN (by decide))
      refine L.kns [(12, .pointer (some ⟨b6, 0, none⟩))] ⟨g1_, trivial⟩ ?_
      refine L.ld (j := 0) bx6.mem nag3 Wt.no rfl rfl rfl rfl ?_
      refine L.nil ?_
      refine X.dr (s := s14) (e' := (13, .int .i64 p0.1) :: e) (Sub.both (Kn.sup ⟨g1_, trivial⟩)) ⟨im, Sub.fresh ib rfl, i0, i1, fun _ => rfl, i3, i4, i5, i6, i7, i8, i9, i10, i11, i12, i13, i14, i15⟩
    · rintro D e s15 ⟨im, ib, i0, i1, i2, i3, i4, i5, i6, i7, i8, i9, i10, i11, i12, i13, i14, i15⟩ hk hf ha
      refine L.kns [(5, .int .i64 (W (p0.1 + p0.2.1)))] ⟨(ib 5 _ rfl), trivial⟩ ?_
      refine L.mv Wt.no rfl rfl ?_
      refine L.nil ?_
      refine X.dr (s := s15) (e' := (14, .int .i64 (W (p0.1 + p0.2.1))) :: e) (Sub.both (Kn.sup ⟨(ib 5 _ rfl), trivial⟩)) ⟨im, Sub.fresh ib rfl, i0, i1, i2, fun _ => rfl, i4, i5, i6, i7, i8, i9, i10, i11, i12, i13, i14, i15⟩
    · rintro D e s16 ⟨im, ib, i0, i1, i2, i3, i4, i5, i6, i7, i8, i9, i10, i11, i12, i13, i14, i15⟩ hk hf ha
      refine L.kns [(5, .int .i64 (W (p0.1 + p0.2.1)))] ⟨(ib 5 _ rfl), trivial⟩ ?_
      refine L.mv Wt.no rfl rfl ?_
      refine L.nil ?_
      refine X.dr (s := s16) (e' := (15, .int .i64 (W (p0.1 + p0.2.1))) :: e) (Sub.both (Kn.sup ⟨(ib 5 _ rfl), trivial⟩)) ⟨im, Sub.fresh ib rfl, i0, i1, i2, i3, fun _ => rfl, i5, i6, i7, i8, i9, i10, i11, i12, i13, i14, i15⟩
    · rintro D e s17 ⟨im, ib, i0, i1, i2, i3, i4, i5, i6, i7, i8, i9, i10, i11, i12, i13, i14, i15⟩ hk hf ha
      obtain ⟨d0, d1, d2, d3, d4, -⟩ := ha
      have g0_ := i0 d0
      have g2_ := i2 d2
      have g3_ := i3 d3
      have g4_ := i4 d4
      have h3 := h3.mono (im.le (tg0 hN))
      refine L.kns [(11, .slice a3 p1.length c3), (13, .int .i64 p0.1), (14, .int .i64 (W (p0.1 + p0.2.1))), (15, .int .i64 (W (p0.1 + p0.2.1)))] ⟨g0_, g2_, g3_, g4_, trivial⟩ ?_
      refine L.s3 (r := rB) sl29 h3 Wt.no rfl rfl rfl rfl ex18 rfl ?_
      intro a19 c19 h19
      refine L.nil ?_
      refine X.dr (s := s17) (e' := (16, .slice a19 x18.length c19) :: e) (Sub.both (Kn.sup ⟨g0_, g2_, g3_, g4_, trivial⟩)) ⟨im, Sub.fresh ib rfl, i0, i1, i2, i3, i4, fun _ => ⟨a19, c19, rfl, h19⟩, i6, i7, i8, i9, i10, i11, i12, fun z => Bool.noConfusion ((hf 13 (Nat.le_of_ble_eq_true rfl) rfl).symm.trans z), i14, fun z => Bool.noConfusion ((hf 14 (Nat.le_of_ble_eq_true rfl) rfl).symm.trans z)⟩
    · rintro D e s20 ⟨im, ib, i0, i1, i2, i3, i4, i5, i6, i7, i8, i9, i10, i11, i12, i13, i14, i15⟩ hk hf ha
      refine L.kns [(1, .slice a3 p1.length c3)] ⟨(ib 1 _ rfl), trivial⟩ ?_
      refine L.mv Wt.no rfl rfl ?_
      refine L.nil ?_
      refine X.dr (s := s20) (e' := (17, .slice a3 p1.length c3) :: e) (Sub.both (Kn.sup ⟨(ib 1 _ rfl), trivial⟩)) ⟨im, Sub.fresh ib rfl, i0, i1, i2, i3, i4, i5, fun _ => rfl, i7, i8, i9, i10, i11, i12, i13, i14, i15⟩
    · rintro D e s21 ⟨im, ib, i0, i1, i2, i3, i4, i5, i6, i7, i8, i9, i10, i11, i12, i13, i14, i15⟩ hk hf ha
      refine L.kns [(5, .int .i64 (W (p0.1 + p0.2.1)))] ⟨(ib 5 _ rfl), trivial⟩ ?_
      refine L.mv Wt.no rfl rfl ?_
      refine L.nil ?_
      refine X.dr (s := s21) (e' := (18, .int .i64 (W (p0.1 + p0.2.1))) :: e) (Sub.both (Kn.sup ⟨(ib 5 _ rfl), trivial⟩)) ⟨im, Sub.fresh ib rfl, i0, i1, i2, i3, i4, i5, i6, fun _ => rfl, i8, i9, i10, i11, i12, i13, i14, i15⟩
    · rintro D e s22 ⟨im, ib, i0, i1, i2, i3, i4, i5, i6, i7, i8, i9, i10, i11, i12, i13, i14, i15⟩ hk hf ha
      refine L.kns [(1, .slice a3 p1.length c3)] ⟨(ib 1 _ rfl), trivial⟩ ?_
      refine L.mv Wt.no rfl rfl ?_
      refine L.nil ?_
      refine X.dr (s := s22) (e' := (19, .slice a3 p1.length c3) :: e) (Sub.both (Kn.sup ⟨(ib 1 _ rfl), trivial⟩)) ⟨im, Sub.fresh ib rfl, i0, i1, i2, i3, i4, i5, i6, i7, fun _ => rfl, i9, i10, i11, i12, i13, i14, i15⟩
    · rintro D e s23 ⟨im, ib, i0, i1, i2, i3, i4, i5, i6, i7, i8, i9, i10, i11, i12, i13, i14, i15⟩ hk hf ha
      obtain ⟨d8, -⟩ := ha
      have g8_ := i8 d8
      refine L.kns [(19, .slice a3 p1.length c3)] ⟨g8_, trivial⟩ ?_
      refine L.len sl29 Wt.no rfl rfl ?_
      refine L.nil ?_
      refine X.dr (s := s23) (e' := (20, .int .i64 (p1.length : Int)) :: e) (Sub.both (Kn.sup ⟨g8_, trivial⟩)) ⟨im, Sub.fresh ib rfl, i0, i1, i2, i3, i4, i5, i6, i7, i8, fun _ => rfl, i10, i11, i12, i13, i14, i15⟩
    · rintro D e s24 ⟨im, ib, i0, i1, i2, i3, i4, i5, i6, i7, i8, i9, i10, i11, i12, i13, i14, i15⟩ hk hf ha
      refine L.kns [(1, .slice a3 p1.length c3)] ⟨(ib 1 _ rfl), trivial⟩ ?_
      refine L.mv Wt.no rfl rfl ?_
      refine L.nil ?_
      refine X.dr (s := s24) (e' := (21, .slice a3 p1.length c3) :: e) (Sub.both (Kn.sup ⟨(ib 1 _ rfl), trivial⟩)) ⟨im, Sub.fresh ib rfl, i0, i1, i2, i3, i4, i5, i6, i7, i8, i9, fun _ => rfl, i11, i12, i13, i14, i15⟩
    · rintro D e s25 ⟨im, ib, i0, i1, i2, i3, i4, i5, i6, i7, i8, i9, i10, i11, i12, i13, i14, i15⟩ hk hf ha
      obtain ⟨d10, -⟩ := ha
      have g10_ := i10 d10
      refine L.kns [(21, .slice a3 p1.length c3)] ⟨g10_, trivial⟩ ?_
      refine L.len sl29 Wt.no rfl rfl ?_
      refine L.nil ?_
      refine X.dr (s := s25) (e' := (22, .int .i64 (p1.length : Int)) :: e) (Sub.both (Kn.sup ⟨g10_, trivial⟩)) ⟨im, Sub.fresh ib rfl, i0, i1, i2, i3, i4, i5, i6, i7, i8, i9, i10, fun _ => rfl, i12, i13, i14, i15⟩
    · rintro D e s26 ⟨im, ib, i0, i1, i2, i3, i4, i5, i6, i7, i8, i9, i10, i11, i12, i13, i14, i15⟩ hk hf ha
      obtain ⟨d6, d7, d8, d9, d10, d11, -⟩ := ha
      have g6_ := i6 d6
      have g7_ := i7 d7
      have g9_ := i9 d9
      have g11_ := i11 d11
      have h3 := h3.mono (im.le (tg0 hN))
      refine L.kns [(17, .slice a3 p1.length c3), (18, .int .i64 (W (p0.1 + p0.2.1))), (20, .int .i64 (p1.length : Int)), (22, .int .i64 (p1.length : Int))] ⟨g6_, g7_, g9_, g11_, trivial⟩ ?_
      refine L.s3 (r := rB) sl29 h3 Wt.no rfl rfl rfl rfl ex27 rfl ?_
      intro a28 c28 h28
      refine L.nil ?_
      refine X.dr (s := s26) (e' := (23, .slice a28 x27.length c28) :: e) (Sub.both (Kn.sup ⟨g6_, g7_, g9_, g11_, trivial⟩)) ⟨im, Sub.fresh ib rfl, i0, i1, i2, i3, i4, i5, i6, i7, i8, i9, i10, i11, fun _ => ⟨a28, c28, rfl, h28⟩, fun z => Bool.noConfusion ((hf 13 (Nat.le_of_ble_eq_true rfl) rfl).symm.trans z), i14, fun z => Bool.noConfusion ((hf 14 (Nat.le_of_ble_eq_true rfl) rfl).symm.trans z)⟩
    · rintro D e s29 ⟨im, ib, i0, i1, i2, i3, i4, i5, i6, i7, i8, i9, i10, i11, i12, i13, i14, i15⟩ hk hf ha
      obtain ⟨d0, d1, d2, d3, d4, d5, d6, d7, d8, d9, d10, d11, d12, -⟩ := ha
      obtain ⟨a19, c19, g5_, h19⟩ := i5 d5
      obtain ⟨a28, c28, g12_, h28⟩ := i12 d12
      refine L.kns [(16, .slice a19 x18.length c19), (23, .slice a28 x27.length c28)] ⟨g5_, g12_, trivial⟩ ?_
      refine L.bu (cs := [.slice a19 x18.length c19, .slice a28 x27.length c28]) pl39 Wt.no rfl rfl rfl ?_
      refine L.nil ?_
      refine X.dr (s := s29) (e' := (24, .agg #[.slice a19 x18.length c19, .slice a28 x27.length c28]) :: e) (Sub.both (Kn.sup ⟨g5_, g12_, trivial⟩)) ⟨im, Sub.fresh ib rfl, i0, i1, i2, i3, i4, i5, i6, i7, i8, i9, i10, i11, i12, fun _ _ _ _ _ q5 q12 => by cases g5_.symm.trans q5; cases g12_.symm.trans q12; exact rfl, i14, i15⟩
    · rintro D e s30 ⟨im, ib, i0, i1, i2, i3, i4, i5, i6, i7, i8, i9, i10, i11, i12, i13, i14, i15⟩ hk hf ha
      obtain ⟨d0, d1, d2, d3, d4, d5, d6, d7, d8, d9, d10, d11, d12, d13, -⟩ := ha
      obtain ⟨a19, c19, g5_, h19⟩ := i5 d5
      obtain ⟨a28, c28, g12_, h28⟩ := i12 d12
      have g13_ := i13 d13 a19 c19 a28 c28 g5_ g12_
      obtain bx9 := i14 hk
      refine L.kns [(4, .pointer (some ⟨b9, 0, none⟩)), (24, .agg #[.slice a19 x18.length c19, .slice a28 x27.length c28])] ⟨(ib 4 _ rfl), g13_, trivial⟩ ?_
      refine L.st (c := [.slice a19 x18.length c19, .slice a28 x27.length c28]) (cs' := #[.slice a19 x18.length c19, .slice a28 x27.length c28]) bx9 ag39.sz Wt.no rfl rfl rfl rfl rfl (Nat.le_of_ble_eq_true rfl) rfl ?_
      intro s31 m32 bx9
      refine L.nil ?_
      refine X.dr (s := s31) (e' := e) (Kn.sup ⟨(ib 4 _ rfl), g13_, trivial⟩) ⟨im.trans (m32.one rfl), ib, i0, i1, i2, i3, i4, fun z => let ⟨a19, c19, q, h19⟩ := i5 z; ⟨a19, c19, q, (h19.mono (m32.le (tg0 hN)))⟩, i6, i7, i8, i9, i10, i11, fun z => let ⟨a28, c28, q, h28⟩ := i12 z; ⟨a28, c28, q, (h28.mono (m32.le (tg0 hN)))⟩, i13, fun z => Bool.noConfusion (show true = false from z), fun _ _ _ _ _ q5 q12 => by cases g5_.symm.trans q5; cases g12_.symm.trans q12; exact bx9⟩
  · rintro D e s33 hD ⟨im, ib, i0, i1, i2, i3, i4, i5, i6, i7, i8, i9, i10, i11, i12, i13, i14, i15⟩
    obtain ⟨a19, c19, g5_, h19⟩ := i5 (hD 5 rfl)
    obtain ⟨a28, c28, g12_, h28⟩ := i12 (hD 12 rfl)
    obtain bx9 := i15 (hD 14 rfl) a19 c19 a28 c28 g5_ g12_
    have m0 := m0.trans (im.one up)
    refine X.sub (e' := [(4, .pointer (some ⟨b9, 0, none⟩))]) ?_ (Sub.cons (ib 4 _ rfl) Sub.nil)
    refine X.seqN ?_
    refine E.ret ?_
    obtain rfl := Option.some.inj hm
    exact X.rt (.inl rfl) Try.results56 (Rs.cell rfl bx9 ag39 rfl Rs.nil) rfl ⟨_, (s33).ren N (fun _ => 0), rfl, rfl, m0.ren hNb, ⟨a19, c19, a28, c28, rfl, (h19.ren hN), (h28.ren hN)⟩⟩

end Go.Proofs.Ytkkemchihllklaa
