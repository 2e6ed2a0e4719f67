/- Parts of the proof, without what nothing here names. -/
import Derived.Test.YthchkddhibhenaaProg
import Derived.Deep.Slices
import Derived.ChangeSame
import Derived.ProofKit
import Derived.Test.YthchkddhibhenaaRows
import Derived.Lay
import Derived.LaidMore
import Derived.LaidHandle
import Derived.SevenTiedAt
import Derived.Stop.Joined
import Derived.Test.YthchkddhibhenaaQcm4
namespace Go.Proofs.Ythchkddhibhenaa
open Go Go.RowKit
noncomputable def m_overseerref04_has_l1 (p0 : List Int) (p1 : Int) (st6 : Int) : Option (Int ⊕ (Unit ⊕ Unit)) :=
  if decide (st6 < (p0.length : Int)) then
    (idx p0 st6).bind fun x14 =>
    if (x14 == p1) then
      some (.inr (.inr (())))
    else
      some (.inl (W (st6 + 1)))
  else
    some (.inr (.inl ()))
/-- What overseerref04.has computes. -/
noncomputable def m_overseerref04_has (p0 : List Int) (p1 : Int) : Option Bool :=
  (iter (m_overseerref04_has_l1 p0 p1) 0).bind fun o6 =>
  match o6 with
  | .inl u8 =>
    some false
  | .inr (u11) =>
    some true
set_option maxRecDepth 100000 in
set_option maxHeartbeats 8000000 in
theorem m_overseerref04_has_c {s : Sig} {p0 : List Int} {p1 : Int} {a1 : Option Addr} {c1 : Nat} {r : Bool} (h1 : RdL (rK .i64) s a1 c1 p0) (hm : m_overseerref04_has p0 p1 = some r) :
    Calls Try.prog 50 #[.slice a1 p0.length c1, .int .i64 p1] s.w (RetS No s fun v s' => v = .bool r) := by
  unfold m_overseerref04_has at hm
  obtain ⟨N, hN, hNb⟩ := s.fresh
  have m0 : Mv (Up N No) s s := Mv.refl _ _
  refine E.entry (vs := [.slice a1 p0.length c1, .int .i64 p1]) (e := [(0, .slice a1 p0.length c1), (1, .int .i64 p1)]) Try.func50 rfl Try.ntmps50 rfl rfl ?_
  refine E.seq ?_
  refine E.reg ?_
  refine L.as Wt.no rfl rfl ?_
  refine L.nil ?_
  refine X.seqN ?_
  refine E.seq ?_
  refine E.seq ?_
  refine E.reg ?_
  refine L.as Wt.no rfl rfl ?_
  refine L.nil ?_
  refine X.seqN ?_
  refine E.block ?_
  obtain ⟨o6, eo6, hm⟩ := bindS hm
  refine E.cut (x := .exit 0) (fun e w => ∃ (s9 : Sig) (u8 : Unit), o6 = .inl u8 ∧ Mv (Up N No) s s9 ∧ e = [] ∧ w = s9.w) ?_ ?_
  · rintro _ _ ⟨s9, u8, rfl, m0, rfl, rfl⟩
    dsimp only at hm
    refine X.blkE ?_
    refine X.seqN ?_
    refine E.seq ?_
    refine E.reg ?_
    refine L.as Wt.no rfl rfl ?_
    refine L.nil ?_
    refine X.seqN ?_
    refine E.ret ?_
    obtain rfl := Option.some.inj hm
    exact X.rt (.inl rfl) Try.results50 (Rs.tmp rfl Rs.nil) rfl ⟨_, (s9).ren N (fun _ => 0), rfl, rfl, m0.ren hNb, rfl⟩
  intro K10
  refine E.cut (x := .ret) (fun e w => ∃ (s12 : Sig) (u11 : Unit), o6 = .inr (u11) ∧ Mv (Up N No) s s12 ∧ e = [(4, .bool true)] ∧ w = s12.w) ?_ ?_
  · rintro _ _ ⟨s12, u11, rfl, m0, rfl, rfl⟩
    dsimp only at hm
    refine X.blkR ?_
    refine X.seqR ?_
    obtain rfl := Option.some.inj hm
    exact X.rt (.inl rfl) Try.results50 (Rs.tmp rfl Rs.nil) rfl ⟨_, (s12).ren N (fun _ => 0), rfl, rfl, m0.ren hNb, rfl⟩
  intro K13
  refine E.iter (fun (st6 : Int) (e : List (Nat × Value)) (w : World) => ∃ (s7 : Sig), Mv (Up N No) s s7 ∧ RdL (rK .i64) s7 a1 c1 p0 ∧ e = [(5, .int .i64 st6), (0, .slice a1 p0.length c1), (1, .int .i64 p1)] ∧ w = s7.w) eo6 ⟨s, m0, h1, rfl, rfl⟩ (Sub.cons rfl (Sub.cons rfl (Sub.cons rfl Sub.nil))) ?_
  rintro st6 res6 hm ih6 ho6 _ _ ⟨s7, m0, h1, rfl, rfl⟩
  unfold m_overseerref04_has_l1 at hm
  refine E.seq ?_
  refine E.seq ?_
  refine E.reg ?_
  refine L.mv Wt.no rfl rfl ?_
  refine L.mv Wt.no rfl rfl ?_
  refine L.len sl28 Wt.no rfl rfl ?_
  refine L.bi Wt.no rfl rfl rfl rfl ?_
  refine L.nil ?_
  refine X.seqN ?_
  rcases ifS hm with ⟨hc, hm⟩ | ⟨hc, hm⟩
  · refine E.cT rfl hc ?_
    refine E.skip ?_
    refine X.seqN ?_
    refine E.seq ?_
    refine E.block ?_
    refine E.seq ?_
    refine E.reg ?_
    refine L.mv Wt.no rfl rfl ?_
    refine L.mv Wt.no rfl rfl ?_
    obtain ⟨x14, ex14, hm⟩ := bindS hm
    refine L.ix (r := (rK .i64)) sl28 h1 Wt.no rfl rfl ex14 rfl ?_
    rintro b15 o15 cc15 me15 rd15
    obtain rfl := rd15
    refine L.ld (j := 0) me15 nag3 Wt.no rfl rfl rfl rfl ?_
    refine L.mv Wt.no rfl rfl ?_
    refine L.bi Wt.no rfl rfl rfl rfl ?_
    refine L.nil ?_
    refine X.seqN ?_
    rcases ifS hm with ⟨hc, hm⟩ | ⟨hc, hm⟩
    · refine E.cT rfl hc ?_
      refine E.seq ?_
      refine E.reg ?_
      refine L.as Wt.no rfl rfl ?_
      refine L.nil ?_
      refine X.seqN ?_
      refine E.ret ?_
      refine X.blkR ?_
      refine X.seqR ?_
      refine X.seqR ?_
      have hx := ho6 _ (Option.some.inj hm).symm
      exact X.sub (K13 _ _ ⟨s7, (), hx.symm, m0, rfl, rfl⟩) (Sub.cons rfl Sub.nil)
    · refine E.cF rfl hc ?_
      refine E.skip ?_
      refine X.blkN ?_
      refine X.seqN ?_
      refine E.reg ?_
      refine L.mv Wt.no rfl rfl ?_
      refine L.bi Wt.no rfl rfl rfl rfl ?_
      refine L.as Wt.no rfl rfl ?_
      refine L.nil ?_
      exact X.sub (ih6 _ (Option.some.inj hm).symm _ _ ⟨s7, m0, h1, rfl, rfl⟩) (Sub.cons rfl (Sub.cons rfl (Sub.cons rfl Sub.nil)))
  · refine E.cF rfl hc ?_
    refine E.exit ?_
    refine X.seqX ?_
    refine X.seqX ?_
    have hx := ho6 _ (Option.some.inj hm).symm
    exact X.sub (K10 _ _ ⟨s7, (), hx.symm, m0, rfl, rfl⟩) Sub.nil

noncomputable def m_overseerref04_All_l1 (p0 : Int) (st15 : Int × List Int) : Option ((Int × List Int) ⊕ (List Int)) :=
  if decide (st15.1 < p0) then
    (app st15.2 ([st15.1] : List Int)).bind fun x24 =>
    some (.inl (W (st15.1 + 1), x24))
  else
    some (.inr st15.2)
/-- What overseerref04.All computes. -/
noncomputable def m_overseerref04_All (p0 : Int) : Option (List Int) :=
  (iter (m_overseerref04_All_l1 p0) (0, ([] : List Int))).bind fun o15 =>
  some o15
set_option maxRecDepth 100000 in
set_option maxHeartbeats 8000000 in
theorem m_overseerref04_All_c {s : Sig} {p0 : Int} {u0 : Nat} {r : List Int} (hm : m_overseerref04_All p0 = some r) :
    Calls Try.prog 20 #[.int .i64 p0] s.w (RetS No s fun v s' => ∃ (a1 : Option Addr) (c1 : Nat), v = .slice a1 r.length c1 ∧ RowT (rK .i64) s' u0 3 a1 c1 r) := by
  unfold m_overseerref04_All at hm
  obtain ⟨N, hN, hNb⟩ := s.fresh
  have m0 : Mv (Up N No) s s := Mv.refl _ _
  refine E.entry (vs := [.int .i64 p0]) (e := [(0, .int .i64 p0)]) Try.func20 rfl Try.ntmps20 rfl rfl ?_
  refine E.seq ?_
  refine E.reg ?_
  refine L.as Wt.no rfl rfl ?_
  refine L.nil ?_
  refine X.seqN ?_
  refine E.seq ?_
  refine E.reg ?_
  refine L.as Wt.no rfl rfl ?_
  refine L.nil ?_
  refine X.seqN ?_
  refine E.seq ?_
  refine E.seq ?_
  refine E.reg ?_
  refine L.as Wt.no rfl rfl ?_
  refine L.nil ?_
  refine X.seqN ?_
  refine E.block ?_
  obtain ⟨o15, eo15, hm⟩ := bindS hm
  refine E.cut (x := .exit 0) (fun e w => ∃ (s19 : Sig) (a17 : Option Addr) (c17 : Nat), Mv (Up N No) s s19 ∧ RowT (rK .i64) s19 (N + 0) 3 a17 c17 o15 ∧ e = [(3, .slice a17 o15.length c17)] ∧ w = s19.w) ?_ ?_
  · rintro _ _ ⟨s19, a17, c17, m0, h17, rfl, rfl⟩
    refine X.blkE ?_
    refine X.seqN ?_
    refine E.seq ?_
    refine E.reg ?_
    refine L.mv Wt.no rfl rfl ?_
    refine L.as Wt.no rfl rfl ?_
    refine L.nil ?_
    refine X.seqN ?_
    refine E.ret ?_
    obtain rfl := Option.some.inj hm
    exact X.rt (.inl rfl) Try.results20 (Rs.tmp rfl Rs.nil) rfl ⟨_, (s19).ren N (fun k => cond (Nat.beq k 0) u0 (0)), rfl, rfl, m0.ren hNb, ⟨a17, c17, rfl, (h17.ren hN)⟩⟩
  intro K20
  refine E.iter (fun (st15 : Int × List Int) (e : List (Nat × Value)) (w : World) => ∃ (s18 : Sig) (a4 : Option Addr) (c4 : Nat), Mv (Up N No) s s18 ∧ RowT (rK .i64) s18 (N + 0) 3 a4 c4 st15.2 ∧ e = [(4, .int .i64 st15.1), (3, .slice a4 st15.2.length c4), (0, .int .i64 p0)] ∧ w = s18.w) eo15 ⟨s, none, 0, m0, RowT.nil, rfl, rfl⟩ (Sub.cons rfl (Sub.cons rfl (Sub.cons rfl Sub.nil))) ?_
  rintro st15 res15 hm ih15 ho15 _ _ ⟨s18, a4, c4, m0, h4, rfl, rfl⟩
  unfold m_overseerref04_All_l1 at hm
  refine E.seq ?_
  refine E.seq ?_
  refine E.reg ?_
  refine L.mv Wt.no rfl rfl ?_
  refine L.mv Wt.no rfl rfl ?_
  refine L.bi Wt.no rfl rfl rfl rfl ?_
  refine L.nil ?_
  refine X.seqN ?_
  rcases ifS hm with ⟨hc, hm⟩ | ⟨hc, hm⟩
  · refine E.cT rfl hc ?_
    refine E.skip ?_
    refine X.seqN ?_
    refine E.seq ?_
    refine E.block ?_
    refine E.reg ?_
    refine L.mv Wt.no rfl rfl ?_
    refine L.mv Wt.no rfl rfl ?_
    refine L.bsE (k := 1) (cs := [.int .i64 st15.1]) 0 bs28 (Nat.le_of_ble_eq_true rfl) Wt.no rfl rfl rfl rfl ?_
    intro b21 s22 m23 bx21
    replace m0 := m0.trans m23.no
    replace h4 := h4.mv m23 no_No no_No
    have h21 := Bx.rdL (r := (rK .i64)) (xs := ([st15.1] : List Int)) bx21 ⟨[.int .i64 st15.1], _, rfl, rfl, rfl⟩ (Nat.le_of_ble_eq_true rfl)
    obtain ⟨x24, ex24, hm⟩ := bindS hm
    refine L.ap (r := (rK .i64)) Try.underlying28 el3 rfl (tgp hN) h4 h21.wk Wt.no rfl rfl ex24 rfl ?_
    intro a25 c25 s26 m27 h25
    replace m0 := m0.trans (m27.one up)
    refine L.as Wt.no rfl rfl ?_
    refine L.nil ?_
    refine X.blkN ?_
    refine X.seqN ?_
    refine E.reg ?_
    refine L.mv Wt.no rfl rfl ?_
    refine L.bi Wt.no rfl rfl rfl rfl ?_
    refine L.as Wt.no rfl rfl ?_
    refine L.nil ?_
    exact X.sub (ih15 _ (Option.some.inj hm).symm _ _ ⟨s26, a25, c25, m0, h25, rfl, rfl⟩) (Sub.cons rfl (Sub.cons rfl (Sub.cons rfl Sub.nil)))
  · refine E.cF rfl hc ?_
    refine E.exit ?_
    refine X.seqX ?_
    refine X.seqX ?_
    have hx := ho15 _ (Option.some.inj hm).symm
    subst hx
    exact X.sub (K20 _ _ ⟨s18, a4, c4, m0, h4, rfl, rfl⟩) (Sub.cons rfl Sub.nil)

noncomputable def m_overseerref04_add_l1 (p0 : List Int) (p1 : Int) (st10 : Int) : Option (Int ⊕ Int) :=
  (if decide (st10 < (p0.length : Int)) then
    (idx p0 st10).bind fun x45 =>
    some (decide (x45 < p1))
  else
    some false).bind fun b42 =>
  if b42 then
    some (.inl (W (st10 + 1)))
  else
    some (.inr st10)
/-- What overseerref04.add computes. -/
noncomputable def m_overseerref04_add (p0 : List Int) (p1 : Int) : Option (List Int) :=
  (iter (m_overseerref04_add_l1 p0 p1) 0).bind fun o10 =>
  (if decide (o10 < (p0.length : Int)) then
    (idx p0 o10).bind fun x39 =>
    some (x39 == p1)
  else
    some false).bind fun b14 =>
  if b14 then
    some p0
  else
    (slc p0 0 o10).bind fun x19 =>
    (app ([] : List Int) x19).bind fun x21 =>
    (app x21 ([p1] : List Int)).bind fun x28 =>
    (slc p0 o10 (p0.length : Int)).bind fun x32 =>
    (app x28 x32).bind fun x34 =>
    some x34
set_option maxRecDepth 100000 in
set_option maxHeartbeats 8000000 in
theorem m_overseerref04_add_c {s : Sig} {p0 : List Int} {p1 : Int} {a1 : Option Addr} {c1 : Nat} {r : List Int} (h1 : RdL (rK .i64) s a1 c1 p0) (hm : m_overseerref04_add p0 p1 = some r) :
    Calls Try.prog 51 #[.slice a1 p0.length c1, .int .i64 p1] s.w (RetS No s fun v s' => ∃ (a2 : Option Addr) (c2 : Nat), v = .slice a2 r.length c2 ∧ RdL (rK .i64) s' a2 c2 r) := by
  unfold m_overseerref04_add at hm
  obtain ⟨N, hN, hNb⟩ := s.fresh
  have m0 : Mv (Up N No) s s := Mv.refl _ _
  refine E.entry (vs := [.slice a1 p0.length c1, .int .i64 p1]) (e := [(0, .slice a1 p0.length c1), (1, .int .i64 p1)]) Try.func51 rfl Try.ntmps51 rfl rfl ?_
  refine E.seq ?_
  refine E.reg ?_
  refine L.as Wt.no rfl rfl ?_
  refine L.nil ?_
  refine X.seqN ?_
  refine E.seq ?_
  refine E.reg ?_
  refine L.as Wt.no rfl rfl ?_
  refine L.nil ?_
  refine X.seqN ?_
  refine E.seq ?_
  refine E.block ?_
  obtain ⟨o10, eo10, hm⟩ := bindS hm
  refine E.cut (x := .exit 0) (fun e w => ∃ (s13 : Sig), Mv (Up N No) s s13 ∧ RdL (rK .i64) s13 a1 c1 p0 ∧ e = [(5, .int .i64 o10), (0, .slice a1 p0.length c1), (1, .int .i64 p1)] ∧ w = s13.w) ?_ ?_
  · rintro _ _ ⟨s13, m0, h1, rfl, rfl⟩
    refine X.blkE ?_
    refine X.seqN ?_
    refine E.seq ?_
    refine E.seq ?_
    refine E.reg ?_
    refine L.mv Wt.no rfl rfl ?_
    refine L.mv Wt.no rfl rfl ?_
    refine L.len sl28 Wt.no rfl rfl ?_
    refine L.bi Wt.no rfl rfl rfl rfl ?_
    refine L.mv Wt.no rfl rfl ?_
    obtain ⟨b14, eb14, hm⟩ := bindS hm
    refine L.cut 7 (fun e w => ∃ (v15 : Bool), b14 = v15 ∧ e = (32, .bool v15) :: [(5, .int .i64 o10), (0, .slice a1 p0.length c1), (1, .int .i64 p1)] ∧ w = s13.w) ?_ ?_
    · rintro _ _ ⟨v15, rfl, rfl, rfl⟩
      refine L.nil ?_
      refine X.seqN ?_
      rcases ifS hm with ⟨hc, hm⟩ | ⟨hc, hm⟩
      · refine E.cT rfl hc ?_
        refine E.seq ?_
        refine E.reg ?_
        refine L.mv Wt.no rfl rfl ?_
        refine L.as Wt.no rfl rfl ?_
        refine L.nil ?_
        refine X.seqN ?_
        refine E.ret ?_
        refine X.seqR ?_
        obtain rfl := Option.some.inj hm
        exact X.rt (.inl rfl) Try.results51 (Rs.tmp rfl Rs.nil) rfl ⟨_, (s13).ren N (fun _ => 0), rfl, rfl, m0.ren hNb, ⟨a1, c1, rfl, (h1.ren hN)⟩⟩
      · refine E.cF rfl hc ?_
        refine E.skip ?_
        refine X.seqN ?_
        refine E.seq ?_
        refine E.reg ?_
        refine L.bs0 (N + 0) bs28 (Nat.le_of_ble_eq_true rfl) Wt.no rfl ?_
        intro b16 s17 m18 bx16
        replace m0 := m0.trans m18.no
        replace h1 := h1.mono (m18.le no_No)
        have h16 := Bx.row (r := (rK .i64)) (xs := ([] : List Int)) bx16 rfl (Nat.le_of_ble_eq_true rfl)
        refine L.mv Wt.no rfl rfl ?_
        refine L.mv Wt.no rfl rfl ?_
        obtain ⟨x19, ex19, hm⟩ := bindS hm
        refine L.sh (r := (rK .i64)) sl28 h1 Wt.no rfl rfl ex19 rfl ?_
        intro a20 c20 h20
        obtain ⟨x21, ex21, hm⟩ := bindS hm
        refine L.ap (r := (rK .i64)) Try.underlying28 el3 rfl (tgp hN) h16 h20.wk Wt.no rfl rfl ex21 rfl ?_
        intro a22 c22 s23 m24 h22
        replace m0 := m0.trans (m24.one up)
        replace h1 := h1.mono (m24.le (tg0 hN))
        refine L.as Wt.no rfl rfl ?_
        refine L.nil ?_
        refine X.seqN ?_
        refine E.seq ?_
        refine E.reg ?_
        refine L.mv Wt.no rfl rfl ?_
        refine L.mv Wt.no rfl rfl ?_
        refine L.bsE (k := 1) (cs := [.int .i64 p1]) 0 bs28 (Nat.le_of_ble_eq_true rfl) Wt.no rfl rfl rfl rfl ?_
        intro b25 s26 m27 bx25
        replace m0 := m0.trans m27.no
        replace h1 := h1.mono (m27.le no_No)
        replace h22 := h22.mv m27 no_No no_No
        have h25 := Bx.rdL (r := (rK .i64)) (xs := ([p1] : List Int)) bx25 ⟨[.int .i64 p1], _, rfl, rfl, rfl⟩ (Nat.le_of_ble_eq_true rfl)
        obtain ⟨x28, ex28, hm⟩ := bindS hm
        refine L.ap (r := (rK .i64)) Try.underlying28 el3 rfl (tgp hN) h22 h25.wk Wt.no rfl rfl ex28 rfl ?_
        intro a29 c29 s30 m31 h29
        replace m0 := m0.trans (m31.one up)
        replace h1 := h1.mono (m31.le (tg0 hN))
        refine L.as Wt.no rfl rfl ?_
        refine L.nil ?_
        refine X.seqN ?_
        refine E.seq ?_
        refine E.reg ?_
        refine L.mv Wt.no rfl rfl ?_
        refine L.mv Wt.no rfl rfl ?_
        refine L.mv Wt.no rfl rfl ?_
        obtain ⟨x32, ex32, hm⟩ := bindS hm
        refine L.sf (r := (rK .i64)) sl28 h1 Wt.no rfl rfl ex32 rfl ?_
        intro a33 c33 h33
        obtain ⟨x34, ex34, hm⟩ := bindS hm
        refine L.ap (r := (rK .i64)) Try.underlying28 el3 rfl (tgp hN) h29 h33.wk Wt.no rfl rfl ex34 rfl ?_
        intro a35 c35 s36 m37 h35
        replace m0 := m0.trans (m37.one up)
        refine L.as Wt.no rfl rfl ?_
        refine L.nil ?_
        refine X.seqN ?_
        refine E.ret ?_
        obtain rfl := Option.some.inj hm
        exact X.rt (.inl rfl) Try.results51 (Rs.tmp rfl Rs.nil) rfl ⟨_, (s36).ren N (fun _ => 0), rfl, rfl, m0.ren hNb, ⟨a35, c35, rfl, (RowT.p (h35.ren hN))⟩⟩
    · intro J38
      rcases ifS eb14 with ⟨hc, hm⟩ | ⟨hc, hm⟩
      · refine L.know (d := 25) rfl hc ?_
        refine L.mv (Wt.mk rfl rfl) rfl rfl ?_
        refine L.mv (Wt.mk rfl rfl) rfl rfl ?_
        obtain ⟨x39, ex39, hm⟩ := bindS hm
        refine L.ix (r := (rK .i64)) sl28 h1 (Wt.mk rfl rfl) rfl rfl ex39 rfl ?_
        rintro b40 o40 cc40 me40 rd40
        obtain rfl := rd40
        refine L.ld (j := 0) me40 nag3 (Wt.mk rfl rfl) rfl rfl rfl rfl ?_
        refine L.mv (Wt.mk rfl rfl) rfl rfl ?_
        refine L.bi (Wt.mk rfl rfl) rfl rfl rfl rfl ?_
        refine L.pkT Wt.no rfl rfl rfl rfl ?_
        exact L.sub (Sub.cons rfl (Sub.cons rfl (Sub.cons rfl (Sub.cons rfl Sub.nil)))) (J38 _ _ ⟨(x39 == p1), (Option.some.inj hm).symm, rfl, rfl⟩)
      · refine L.know (d := 25) rfl hc ?_
        refine L.skip rfl rfl rfl rfl ?_
        refine L.skip rfl rfl rfl rfl ?_
        refine L.skip rfl rfl rfl rfl ?_
        refine L.skip rfl rfl rfl rfl ?_
        refine L.skip rfl rfl rfl rfl ?_
        refine L.skip rfl rfl rfl rfl ?_
        refine L.pkF Wt.no rfl rfl rfl rfl ?_
        exact L.sub (Sub.cons rfl (Sub.cons rfl (Sub.cons rfl (Sub.cons rfl Sub.nil)))) (J38 _ _ ⟨false, (Option.some.inj hm).symm, rfl, rfl⟩)
  intro K41
  refine E.iter (fun (st10 : Int) (e : List (Nat × Value)) (w : World) => ∃ (s12 : Sig), Mv (Up N No) s s12 ∧ RdL (rK .i64) s12 a1 c1 p0 ∧ e = [(5, .int .i64 st10), (0, .slice a1 p0.length c1), (1, .int .i64 p1)] ∧ w = s12.w) eo10 ⟨s, m0, h1, rfl, rfl⟩ (Sub.cons rfl (Sub.cons rfl (Sub.cons rfl Sub.nil))) ?_
  rintro st10 res10 hm ih10 ho10 _ _ ⟨s12, m0, h1, rfl, rfl⟩
  unfold m_overseerref04_add_l1 at hm
  refine E.seq ?_
  refine E.seq ?_
  refine E.reg ?_
  refine L.mv Wt.no rfl rfl ?_
  refine L.mv Wt.no rfl rfl ?_
  refine L.len sl28 Wt.no rfl rfl ?_
  refine L.bi Wt.no rfl rfl rfl rfl ?_
  refine L.mv Wt.no rfl rfl ?_
  obtain ⟨b42, eb42, hm⟩ := bindS hm
  refine L.cut 7 (fun e w => ∃ (v43 : Bool), b42 = v43 ∧ e = (18, .bool v43) :: [(5, .int .i64 st10), (0, .slice a1 p0.length c1), (1, .int .i64 p1)] ∧ w = s12.w) ?_ ?_
  · rintro _ _ ⟨v43, rfl, rfl, rfl⟩
    refine L.nil ?_
    refine X.seqN ?_
    rcases ifS hm with ⟨hc, hm⟩ | ⟨hc, hm⟩
    · refine E.cT rfl hc ?_
      refine E.skip ?_
      refine X.seqN ?_
      refine E.block ?_
      refine E.reg ?_
      refine L.mv Wt.no rfl rfl ?_
      refine L.bi Wt.no rfl rfl rfl rfl ?_
      refine L.as Wt.no rfl rfl ?_
      refine L.nil ?_
      refine X.blkN ?_
      exact X.sub (ih10 _ (Option.some.inj hm).symm _ _ ⟨s12, m0, h1, rfl, rfl⟩) (Sub.cons rfl (Sub.cons rfl (Sub.cons rfl Sub.nil)))
    · refine E.cF rfl hc ?_
      refine E.exit ?_
      refine X.seqX ?_
      refine X.seqX ?_
      have hx := ho10 _ (Option.some.inj hm).symm
      subst hx
      exact X.sub (K41 _ _ ⟨s12, m0, h1, rfl, rfl⟩) (Sub.cons rfl (Sub.cons rfl (Sub.cons rfl Sub.nil)))
  · intro J44
    rcases ifS eb42 with ⟨hc, hm⟩ | ⟨hc, hm⟩
    · refine L.know (d := 11) rfl hc ?_
      refine L.mv (Wt.mk rfl rfl) rfl rfl ?_
      refine L.mv (Wt.mk rfl rfl) rfl rfl ?_
      obtain ⟨x45, ex45, hm⟩ := bindS hm
      refine L.ix (r := (rK .i64)) sl28 h1 (Wt.mk rfl rfl) rfl rfl ex45 rfl ?_
      rintro b46 o46 cc46 me46 rd46
      obtain rfl := rd46
      refine L.ld (j := 0) me46 nag3 (Wt.mk rfl rfl) rfl rfl rfl rfl ?_
      refine L.mv (Wt.mk rfl rfl) rfl rfl ?_
      refine L.bi (Wt.mk rfl rfl) rfl rfl rfl rfl ?_
      refine L.pkT Wt.no rfl rfl rfl rfl ?_
      exact L.sub (Sub.cons rfl (Sub.cons rfl (Sub.cons rfl (Sub.cons rfl Sub.nil)))) (J44 _ _ ⟨(decide (x45 < p1)), (Option.some.inj hm).symm, rfl, rfl⟩)
    · refine L.know (d := 11) rfl hc ?_
      refine L.skip rfl rfl rfl rfl ?_
      refine L.skip rfl rfl rfl rfl ?_
      refine L.skip rfl rfl rfl rfl ?_
      refine L.skip rfl rfl rfl rfl ?_
      refine L.skip rfl rfl rfl rfl ?_
      refine L.skip rfl rfl rfl rfl ?_
      refine L.pkF Wt.no rfl rfl rfl rfl ?_
      exact L.sub (Sub.cons rfl (Sub.cons rfl (Sub.cons rfl (Sub.cons rfl Sub.nil)))) (J44 _ _ ⟨false, (Option.some.inj hm).symm, rfl, rfl⟩)

theorem cf50 : Cf Try.prog 50 := Cf.mk Try.func50 (by kernel_rfl) (by kernel_rfl)
theorem cf51 : Cf Try.prog 51 := Cf.mk Try.func51 (by kernel_rfl) (by kernel_rfl)
noncomputable def m_overseerref04_From_j1 (st163 : Int × List Int) (l169 : List Int) : Option ((Int × List Int) ⊕ (List Int)) :=
  some (.inl (W (st163.1 + 1), l169))
noncomputable def m_overseerref04_From_l3 (p0 : List Int × Int × List Int × (List (Int × Int × Int))) (p2 : List Int) (p3 : List Int) (st163 : Int × List Int) : Option ((Int × List Int) ⊕ (List Int)) :=
  if decide (st163.1 < (p0.2.2.2.length : Int)) then
    (idx p0.2.2.2 st163.1).bind fun x173 =>
    (m_overseerref04_has st163.2 x173.1).bind fun r180 =>
    (if r180 then
      (m_overseerref04_has p2 x173.2.2).bind fun r198 =>
      some r198
    else
      some false).bind fun b183 =>
    (if b183 then
      (m_overseerref04_has p3 x173.2.1).bind fun r194 =>
      some r194
    else
      some false).bind fun b186 =>
    if b186 then
      (m_overseerref04_add st163.2 x173.2.2).bind fun r189 =>
      m_overseerref04_From_j1 st163 r189
    else
      m_overseerref04_From_j1 st163 st163.2
  else
    some (.inr st163.2)
noncomputable def m_overseerref04_From_l2 (p0 : List Int × Int × List Int × (List (Int × Int × Int))) (p2 : List Int) (p3 : List Int) (st119 : Int × List Int) : Option ((Int × List Int) ⊕ (List Int)) :=
  if (st119.1 != (st119.2.length : Int)) then
    (iter (m_overseerref04_From_l3 p0 p2 p3) (0, st119.2)).bind fun o163 =>
    some (.inl ((st119.2.length : Int), o163))
  else
    some (.inr st119.2)
noncomputable def m_overseerref04_From_j2 (st32 : Int × List Int) (l202 : List Int) : Option ((Int × List Int) ⊕ (List Int)) :=
  some (.inl (W (st32.1 + 1), l202))
noncomputable def m_overseerref04_From_l1 (p1 : List Int) (p2 : List Int) (st32 : Int × List Int) : Option ((Int × List Int) ⊕ (List Int)) :=
  if decide (st32.1 < (p1.length : Int)) then
    (idx p1 st32.1).bind fun x206 =>
    (m_overseerref04_has p2 x206).bind fun r208 =>
    if r208 then
      (idx p1 st32.1).bind fun x211 =>
      (m_overseerref04_add st32.2 x211).bind fun r213 =>
      m_overseerref04_From_j2 st32 r213
    else
      m_overseerref04_From_j2 st32 st32.2
  else
    some (.inr st32.2)
/-- What overseerref04.From computes. -/
noncomputable def m_overseerref04_From (p0 : List Int × Int × List Int × (List (Int × Int × Int))) (p1 : List Int) (p2 : List Int) (p3 : List Int) : Option (List Int) :=
  (iter (m_overseerref04_From_l1 p1 p2) (0, ([] : List Int))).bind fun o32 =>
  (iter (m_overseerref04_From_l2 p0 p2 p3) ((-1), o32)).bind fun o119 =>
  some o119
set_option maxRecDepth 100000 in
set_option maxHeartbeats 8000000 in
theorem m_overseerref04_From_c {s : Sig} {p0 : List Int × Int × List Int × (List (Int × Int × Int))} {p1 : List Int} {p2 : List Int} {p3 : List Int} {a1 : Option Addr} {c1 : Nat} {a2 : Option Addr} {c2 : Nat} {a3 : Option Addr} {c3 : Nat} {a4 : Option Addr} {c4 : Nat} {a5 : Option Addr} {c5 : Nat} {a6 : Option Addr} {c6 : Nat} {r : List Int} (h1 : RdL (rK .i64) s a1 c1 p0.1) (h2 : RdL (rK .i64) s a2 c2 p0.2.2.1) (h3 : RdL (rP (rK .i64) (rP (rK .i64) (rK .i64))) s a3 c3 p0.2.2.2) (h4 : RdL (rK .i64) s a4 c4 p1) (h5 : RdL (rK .i64) s a5 c5 p2) (h6 : RdL (rK .i64) s a6 c6 p3) (hm : m_overseerref04_From p0 p1 p2 p3 = some r) :
    Calls Try.prog 59 #[.agg #[.slice a1 p0.1.length c1, .int .i64 p0.2.1, .slice a2 p0.2.2.1.length c2, .slice a3 p0.2.2.2.length c3], .slice a4 p1.length c4, .slice a5 p2.length c5, .slice a6 p3.length c6] s.w (RetS No s fun v s' => ∃ (a7 : Option Addr) (c7 : Nat), v = .slice a7 r.length c7 ∧ RdL (rK .i64) s' a7 c7 r) := by
  unfold m_overseerref04_From at hm
  obtain ⟨N, hN, hNb⟩ := s.fresh
  have m0 : Mv (Up N No) s s := Mv.refl _ _
  refine E.entry (vs := [.agg #[.slice a1 p0.1.length c1, .int .i64 p0.2.1, .slice a2 p0.2.2.1.length c2, .slice a3 p0.2.2.2.length c3], .slice a4 p1.length c4, .slice a5 p2.length c5, .slice a6 p3.length c6]) (e := [(0, .agg #[.slice a1 p0.1.length c1, .int .i64 p0.2.1, .slice a2 p0.2.2.1.length c2, .slice a3 p0.2.2.2.length c3]), (1, .slice a4 p1.length c4), (2, .slice a5 p2.length c5), (3, .slice a6 p3.length c6)]) Try.func59 rfl Try.ntmps59 rfl rfl ?_
  refine E.seq ?_
  refine E.reg ?_
  refine L.box (N + 0) Wt.no rfl rfl rfl ?_
  intro b8 s9 m10 bx8
  replace m0 := m0.trans m10.no
  replace h4 := h4.mono (m10.le no_No)
  replace h5 := h5.mono (m10.le no_No)
  replace h6 := h6.mono (m10.le no_No)
  replace h1 := h1.mono (m10.le no_No)
  replace h2 := h2.mono (m10.le no_No)
  replace h3 := h3.mono (m10.le no_No)
  refine L.as Wt.no rfl rfl ?_
  refine L.nil ?_
  refine X.seqN ?_
  refine E.seq ?_
  refine E.reg ?_
  refine L.as Wt.no rfl rfl ?_
  refine L.nil ?_
  refine X.seqN ?_
  refine E.seq ?_
  refine E.seq ?_
  refine E.reg ?_
  refine L.as Wt.no rfl rfl ?_
  refine L.nil ?_
  refine X.seqN ?_
  refine E.block ?_
  obtain ⟨o32, eo32, hm⟩ := bindS hm
  refine E.cut (x := .exit 0) (fun e w => ∃ (s36 : Sig) (a34 : Option Addr) (c34 : Nat), Mv (Up N No) s s36 ∧ RdL (rK .i64) s36 a34 c34 o32 ∧ RdL (rK .i64) s36 a5 c5 p2 ∧ RdL (rK .i64) s36 a6 c6 p3 ∧ RdL (rK .i64) s36 a1 c1 p0.1 ∧ RdL (rK .i64) s36 a2 c2 p0.2.2.1 ∧ RdL (rP (rK .i64) (rP (rK .i64) (rK .i64))) s36 a3 c3 p0.2.2.2 ∧ Bx s36 (N + 0) b8 #[.slice a1 p0.1.length c1, .int .i64 p0.2.1, .slice a2 p0.2.2.1.length c2, .slice a3 p0.2.2.2.length c3] 31 ∧ e = [(9, .slice a34 o32.length c34), (4, .pointer (some ⟨b8, 0, none⟩)), (2, .slice a5 p2.length c5), (3, .slice a6 p3.length c6)] ∧ w = s36.w) ?_ ?_
  · rintro _ _ ⟨s36, a34, c34, m0, h34, h5, h6, h1, h2, h3, bx8, rfl, rfl⟩
    refine X.blkE ?_
    refine X.seqN ?_
    refine E.seq ?_
    refine E.seq ?_
    refine E.reg ?_
    refine L.as Wt.no rfl rfl ?_
    refine L.nil ?_
    refine X.seqN ?_
    refine E.block ?_
    obtain ⟨o119, eo119, hm⟩ := bindS hm
    refine E.cut (x := .exit 2) (fun e w => ∃ (s123 : Sig) (a121 : Option Addr) (c121 : Nat), Mv (Up N No) s s123 ∧ RdL (rK .i64) s123 a121 c121 o119 ∧ e = [(9, .slice a121 o119.length c121)] ∧ w = s123.w) ?_ ?_
    · rintro _ _ ⟨s123, a121, c121, m0, h121, rfl, rfl⟩
      refine X.blkE ?_
      refine X.seqN ?_
      refine E.seq ?_
      refine E.reg ?_
      refine L.mv Wt.no rfl rfl ?_
      refine L.as Wt.no rfl rfl ?_
      refine L.nil ?_
      refine X.seqN ?_
      refine E.ret ?_
      obtain rfl := Option.some.inj hm
      exact X.rt (.inl rfl) Try.results59 (Rs.tmp rfl Rs.nil) rfl ⟨_, (s123).ren N (fun _ => 0), rfl, rfl, m0.ren hNb, ⟨a121, c121, rfl, (h121.ren hN)⟩⟩
    intro K124
    refine E.iter (fun (st119 : Int × List Int) (e : List (Nat × Value)) (w : World) => ∃ (s122 : Sig) (a39 : Option Addr) (c39 : Nat), Mv (Up N No) s s122 ∧ RdL (rK .i64) s122 a39 c39 st119.2 ∧ RdL (rK .i64) s122 a5 c5 p2 ∧ RdL (rK .i64) s122 a6 c6 p3 ∧ RdL (rK .i64) s122 a1 c1 p0.1 ∧ RdL (rK .i64) s122 a2 c2 p0.2.2.1 ∧ RdL (rP (rK .i64) (rP (rK .i64) (rK .i64))) s122 a3 c3 p0.2.2.2 ∧ Bx s122 (N + 0) b8 #[.slice a1 p0.1.length c1, .int .i64 p0.2.1, .slice a2 p0.2.2.1.length c2, .slice a3 p0.2.2.2.length c3] 31 ∧ e = [(11, .int .i64 st119.1), (9, .slice a39 st119.2.length c39), (4, .pointer (some ⟨b8, 0, none⟩)), (2, .slice a5 p2.length c5), (3, .slice a6 p3.length c6)] ∧ w = s122.w) eo119 ⟨s36, a34, c34, m0, h34, h5, h6, h1, h2, h3, bx8, rfl, rfl⟩ (Sub.cons rfl (Sub.cons rfl (Sub.cons rfl (Sub.cons rfl (Sub.cons rfl Sub.nil))))) ?_
    rintro st119 res119 hm ih119 ho119 _ _ ⟨s122, a39, c39, m0, h39, h5, h6, h1, h2, h3, bx8, rfl, rfl⟩
    unfold m_overseerref04_From_l2 at hm
    refine E.seq ?_
    refine E.seq ?_
    refine E.reg ?_
    refine L.mv Wt.no rfl rfl ?_
    refine L.mv Wt.no rfl rfl ?_
    refine L.len sl28 Wt.no rfl rfl ?_
    refine L.bi Wt.no rfl rfl rfl rfl ?_
    refine L.nil ?_
    refine X.seqN ?_
    rcases ifS hm with ⟨hc, hm⟩ | ⟨hc, hm⟩
    · refine E.cT rfl hc ?_
      refine E.skip ?_
      refine X.seqN ?_
      refine E.block ?_
      refine E.seq ?_
      refine E.reg ?_
      refine L.mv Wt.no rfl rfl ?_
      refine L.len sl28 Wt.no rfl rfl ?_
      refine L.as Wt.no rfl rfl ?_
      refine L.nil ?_
      refine X.seqN ?_
      refine E.seq ?_
      refine E.reg ?_
      refine L.as Wt.no rfl rfl ?_
      refine L.nil ?_
      refine X.seqN ?_
      refine E.block ?_
      obtain ⟨o163, eo163, hm⟩ := bindS hm
      refine E.cut (x := .exit 4) (fun e w => ∃ (s167 : Sig) (a165 : Option Addr) (c165 : Nat), Mv (Up N No) s s167 ∧ RdL (rK .i64) s167 a165 c165 o163 ∧ RdL (rK .i64) s167 a5 c5 p2 ∧ RdL (rK .i64) s167 a6 c6 p3 ∧ RdL (rK .i64) s167 a1 c1 p0.1 ∧ RdL (rK .i64) s167 a2 c2 p0.2.2.1 ∧ RdL (rP (rK .i64) (rP (rK .i64) (rK .i64))) s167 a3 c3 p0.2.2.2 ∧ Bx s167 (N + 0) b8 #[.slice a1 p0.1.length c1, .int .i64 p0.2.1, .slice a2 p0.2.2.1.length c2, .slice a3 p0.2.2.2.length c3] 31 ∧ e = [(11, .int .i64 (st119.2.length : Int)), (9, .slice a165 o163.length c165), (4, .pointer (some ⟨b8, 0, none⟩)), (2, .slice a5 p2.length c5), (3, .slice a6 p3.length c6)] ∧ w = s167.w) ?_ ?_
      · rintro _ _ ⟨s167, a165, c165, m0, h165, h5, h6, h1, h2, h3, bx8, rfl, rfl⟩
        refine X.blkE ?_
        refine X.blkN ?_
        exact X.sub (ih119 _ (Option.some.inj hm).symm _ _ ⟨s167, a165, c165, m0, h165, h5, h6, h1, h2, h3, bx8, rfl, rfl⟩) (Sub.cons rfl (Sub.cons rfl (Sub.cons rfl (Sub.cons rfl (Sub.cons rfl Sub.nil)))))
      intro K168
      refine E.iter (fun (st163 : Int × List Int) (e : List (Nat × Value)) (w : World) => ∃ (s166 : Sig) (a127 : Option Addr) (c127 : Nat), Mv (Up N No) s s166 ∧ RdL (rK .i64) s166 a127 c127 st163.2 ∧ RdL (rK .i64) s166 a5 c5 p2 ∧ RdL (rK .i64) s166 a6 c6 p3 ∧ RdL (rK .i64) s166 a1 c1 p0.1 ∧ RdL (rK .i64) s166 a2 c2 p0.2.2.1 ∧ RdL (rP (rK .i64) (rP (rK .i64) (rK .i64))) s166 a3 c3 p0.2.2.2 ∧ Bx s166 (N + 0) b8 #[.slice a1 p0.1.length c1, .int .i64 p0.2.1, .slice a2 p0.2.2.1.length c2, .slice a3 p0.2.2.2.length c3] 31 ∧ e = [(12, .int .i64 st163.1), (11, .int .i64 (st119.2.length : Int)), (9, .slice a127 st163.2.length c127), (4, .pointer (some ⟨b8, 0, none⟩)), (2, .slice a5 p2.length c5), (3, .slice a6 p3.length c6)] ∧ w = s166.w) eo163 ⟨s122, a39, c39, m0, h39, h5, h6, h1, h2, h3, bx8, rfl, rfl⟩ (Sub.cons rfl (Sub.cons rfl (Sub.cons rfl (Sub.cons rfl (Sub.cons rfl (Sub.cons rfl Sub.nil)))))) ?_
      rintro st163 res163 hm ih163 ho163 _ _ ⟨s166, a127, c127, m0, h127, h5, h6, h1, h2, h3, bx8, rfl, rfl⟩
      unfold m_overseerref04_From_l3 at hm
      refine E.seq ?_
      refine E.seq ?_
      refine E.reg ?_
      refine L.mv Wt.no rfl rfl ?_
      refine L.fa fa31_3 Wt.no rfl rfl ?_
      refine L.ld (j := 3) bx8.mem nag29 Wt.no rfl rfl rfl rfl ?_
      refine L.len sl29 Wt.no rfl rfl ?_
      refine L.bi Wt.no rfl rfl rfl rfl ?_
      refine L.nil ?_
      refine X.seqN ?_
      rcases ifS hm with ⟨hc, hm⟩ | ⟨hc, hm⟩
      · refine E.cT rfl hc ?_
        refine E.skip ?_
        refine X.seqN ?_
        refine E.seqJ (fun e w => ∃ (s171 : Sig) (l169 : List Int) (a170 : Option Addr) (c170 : Nat), m_overseerref04_From_j1 st163 l169 = some res163 ∧ Mv (Up N No) s s171 ∧ RdL (rK .i64) s171 a170 c170 l169 ∧ RdL (rK .i64) s171 a5 c5 p2 ∧ RdL (rK .i64) s171 a6 c6 p3 ∧ RdL (rK .i64) s171 a1 c1 p0.1 ∧ RdL (rK .i64) s171 a2 c2 p0.2.2.1 ∧ RdL (rP (rK .i64) (rP (rK .i64) (rK .i64))) s171 a3 c3 p0.2.2.2 ∧ Bx s171 (N + 0) b8 #[.slice a1 p0.1.length c1, .int .i64 p0.2.1, .slice a2 p0.2.2.1.length c2, .slice a3 p0.2.2.2.length c3] 31 ∧ e = [(9, .slice a170 l169.length c170), (12, .int .i64 st163.1), (11, .int .i64 (st119.2.length : Int)), (4, .pointer (some ⟨b8, 0, none⟩)), (2, .slice a5 p2.length c5), (3, .slice a6 p3.length c6)] ∧ w = s171.w) ?_ ?_
        · rintro _ _ ⟨s171, l169, a170, c170, hm, m0, h170, h5, h6, h1, h2, h3, bx8, rfl, rfl⟩
          unfold m_overseerref04_From_j1 at hm
          refine E.reg ?_
          refine L.mv Wt.no rfl rfl ?_
          refine L.bi Wt.no rfl rfl rfl rfl ?_
          refine L.as Wt.no rfl rfl ?_
          refine L.nil ?_
          exact X.sub (ih163 _ (Option.some.inj hm).symm _ _ ⟨s171, a170, c170, m0, h170, h5, h6, h1, h2, h3, bx8, rfl, rfl⟩) (Sub.cons rfl (Sub.cons rfl (Sub.cons rfl (Sub.cons rfl (Sub.cons rfl (Sub.cons rfl Sub.nil))))))
        · intro Jj172
          refine E.block ?_
          refine E.seq ?_
          refine E.reg ?_
          refine L.fa fa31_3 Wt.no rfl rfl ?_
          refine L.ld (j := 3) bx8.mem nag29 Wt.no rfl rfl rfl rfl ?_
          refine L.mv Wt.no rfl rfl ?_
          obtain ⟨x173, ex173, hm⟩ := bindS hm
          refine L.ix (r := (rP (rK .i64) (rP (rK .i64) (rK .i64)))) sl29 h3 Wt.no rfl rfl ex173 rfl ?_
          rintro b174 o174 cc174 me174 rd174
          obtain ⟨_, _, rfl, rfl, ⟨_, _, rfl, rfl, rfl⟩⟩ := rd174
          refine L.lg (j := 0) (cs := [.int .i64 x173.1, .int .i64 x173.2.1, .int .i64 x173.2.2]) me174 ag45 Wt.no rfl rfl rfl rfl rfl ?_
          refine L.al (N + 1) zz45 rfl Wt.no rfl ?_
          intro b175 s176 m177 bx175
          replace m0 := m0.trans m177.no
          replace h5 := h5.mono (m177.le no_No)
          replace h6 := h6.mono (m177.le no_No)
          replace h127 := h127.mono (m177.le no_No)
          replace bx8 := bx8.mv m177 no_No
          replace h1 := h1.mono (m177.le no_No)
          replace h2 := h2.mono (m177.le no_No)
          replace h3 := h3.mono (m177.le no_No)
          refine L.st (c := [.int .i64 x173.1, .int .i64 x173.2.1, .int .i64 x173.2.2]) (cs' := #[.int .i64 x173.1, .int .i64 x173.2.1, .int .i64 x173.2.2]) bx175 ag45.sz Wt.no rfl rfl rfl rfl rfl (Nat.le_of_ble_eq_true rfl) rfl ?_
          intro s178 m179 bx175
          replace m0 := m0.trans (m179.one up)
          replace h5 := h5.mono (m179.le (tg0 hN))
          replace h6 := h6.mono (m179.le (tg0 hN))
          replace h127 := h127.mono (m179.le (tg0 hN))
          replace bx8 := bx8.mv m179 (tgN (by decide))
          replace h1 := h1.mono (m179.le (tg0 hN))
          replace h2 := h2.mono (m179.le (tg0 hN))
          replace h3 := h3.mono (m179.le (tg0 hN))
          refine L.nil ?_
          refine X.seqN ?_
          refine E.seq ?_
          refine E.reg ?_
          refine L.mv Wt.no rfl rfl ?_
          refine L.fa fa45_0 Wt.no rfl rfl ?_
          refine L.ld (j := 0) bx175.mem nag3 Wt.no rfl rfl rfl rfl ?_
          obtain ⟨r180, er180, hm⟩ := bindS hm
          refine L.ca (vs := [.slice a127 st163.2.length c127, .int .i64 x173.1]) cf50 rfl rfl Wt.no rfl (m_overseerref04_has_c (s := s178) (p0 := st163.2) (p1 := x173.1) h127 er180) rfl ?_
          rintro _ s181 m182 rfl
          replace m0 := m0.trans m182.no
          replace h5 := h5.mono (m182.le no_No)
          replace h6 := h6.mono (m182.le no_No)
          replace h127 := h127.mono (m182.le no_No)
          replace bx8 := bx8.mv m182 no_No
          replace h1 := h1.mono (m182.le no_No)
          replace h2 := h2.mono (m182.le no_No)
          replace h3 := h3.mono (m182.le no_No)
          replace bx175 := bx175.mv m182 no_No
          refine L.mv Wt.no rfl rfl ?_
          obtain ⟨b183, eb183, hm⟩ := bindS hm
          refine L.cut 5 (fun e w => ∃ (s185 : Sig) (v184 : Bool), b183 = v184 ∧ Mv (Up N No) s s185 ∧ RdL (rK .i64) s185 a127 c127 st163.2 ∧ RdL (rK .i64) s185 a5 c5 p2 ∧ RdL (rK .i64) s185 a6 c6 p3 ∧ RdL (rK .i64) s185 a1 c1 p0.1 ∧ RdL (rK .i64) s185 a2 c2 p0.2.2.1 ∧ RdL (rP (rK .i64) (rP (rK .i64) (rK .i64))) s185 a3 c3 p0.2.2.2 ∧ Bx s185 (N + 0) b8 #[.slice a1 p0.1.length c1, .int .i64 p0.2.1, .slice a2 p0.2.2.1.length c2, .slice a3 p0.2.2.2.length c3] 31 ∧ Bx s185 (N + 1) b175 #[.int .i64 x173.1, .int .i64 x173.2.1, .int .i64 x173.2.2] 45 ∧ e = (59, .bool v184) :: [(13, .pointer (some ⟨b175, 0, none⟩)), (12, .int .i64 st163.1), (11, .int .i64 (st119.2.length : Int)), (9, .slice a127 st163.2.length c127), (4, .pointer (some ⟨b8, 0, none⟩)), (2, .slice a5 p2.length c5), (3, .slice a6 p3.length c6)] ∧ w = s185.w) ?_ ?_
          · rintro _ _ ⟨s185, v184, rfl, m0, h127, h5, h6, h1, h2, h3, bx8, bx175, rfl, rfl⟩
            refine L.mv Wt.no rfl rfl ?_
            obtain ⟨b186, eb186, hm⟩ := bindS hm
            refine L.cut 5 (fun e w => ∃ (s188 : Sig) (v187 : Bool), b186 = v187 ∧ Mv (Up N No) s s188 ∧ RdL (rK .i64) s188 a127 c127 st163.2 ∧ RdL (rK .i64) s188 a5 c5 p2 ∧ RdL (rK .i64) s188 a6 c6 p3 ∧ RdL (rK .i64) s188 a1 c1 p0.1 ∧ RdL (rK .i64) s188 a2 c2 p0.2.2.1 ∧ RdL (rP (rK .i64) (rP (rK .i64) (rK .i64))) s188 a3 c3 p0.2.2.2 ∧ Bx s188 (N + 0) b8 #[.slice a1 p0.1.length c1, .int .i64 p0.2.1, .slice a2 p0.2.2.1.length c2, .slice a3 p0.2.2.2.length c3] 31 ∧ Bx s188 (N + 1) b175 #[.int .i64 x173.1, .int .i64 x173.2.1, .int .i64 x173.2.2] 45 ∧ e = (65, .bool v187) :: [(13, .pointer (some ⟨b175, 0, none⟩)), (12, .int .i64 st163.1), (11, .int .i64 (st119.2.length : Int)), (9, .slice a127 st163.2.length c127), (4, .pointer (some ⟨b8, 0, none⟩)), (2, .slice a5 p2.length c5), (3, .slice a6 p3.length c6)] ∧ w = s188.w) ?_ ?_
            · rintro _ _ ⟨s188, v187, rfl, m0, h127, h5, h6, h1, h2, h3, bx8, bx175, rfl, rfl⟩
              refine L.nil ?_
              refine X.seqN ?_
              rcases ifS hm with ⟨hc, hm⟩ | ⟨hc, hm⟩
              · refine E.cT rfl hc ?_
                refine E.reg ?_
                refine L.mv Wt.no rfl rfl ?_
                refine L.fa fa45_2 Wt.no rfl rfl ?_
                refine L.ld (j := 2) bx175.mem nag3 Wt.no rfl rfl rfl rfl ?_
                obtain ⟨r189, er189, hm⟩ := bindS hm
                refine L.ca (vs := [.slice a127 st163.2.length c127, .int .i64 x173.2.2]) cf51 rfl rfl Wt.no rfl (m_overseerref04_add_c (s := s188) (p0 := st163.2) (p1 := x173.2.2) h127 er189) rfl ?_
                rintro _ s190 m191 ⟨a192, c192, rfl, h192⟩
                replace m0 := m0.trans m191.no
                replace h5 := h5.mono (m191.le no_No)
                replace h6 := h6.mono (m191.le no_No)
                replace bx8 := bx8.mv m191 no_No
                replace h1 := h1.mono (m191.le no_No)
                replace h2 := h2.mono (m191.le no_No)
                replace h3 := h3.mono (m191.le no_No)
                refine L.as Wt.no rfl rfl ?_
                refine L.nil ?_
                refine X.blkN ?_
                exact X.sub (Jj172 _ _ ⟨s190, r189, a192, c192, hm, m0, h192, h5, h6, h1, h2, h3, bx8, rfl, rfl⟩) (Sub.cons rfl (Sub.cons rfl (Sub.cons rfl (Sub.cons rfl (Sub.cons rfl (Sub.cons rfl Sub.nil))))))
              · refine E.cF rfl hc ?_
                refine E.skip ?_
                refine X.blkN ?_
                exact X.sub (Jj172 _ _ ⟨s188, st163.2, a127, c127, hm, m0, h127, h5, h6, h1, h2, h3, bx8, rfl, rfl⟩) (Sub.cons rfl (Sub.cons rfl (Sub.cons rfl (Sub.cons rfl (Sub.cons rfl (Sub.cons rfl Sub.nil))))))
            · intro J193
              rcases ifS eb186 with ⟨hc, hm⟩ | ⟨hc, hm⟩
              · refine L.know (d := 60) rfl hc ?_
                refine L.mv (Wt.mk rfl rfl) rfl rfl ?_
                refine L.fa fa45_1 (Wt.mk rfl rfl) rfl rfl ?_
                refine L.ld (j := 1) bx175.mem nag3 (Wt.mk rfl rfl) rfl rfl rfl rfl ?_
                obtain ⟨r194, er194, hm⟩ := bindS hm
                refine L.ca (vs := [.slice a6 p3.length c6, .int .i64 x173.2.1]) cf50 rfl rfl (Wt.mk rfl rfl) rfl (m_overseerref04_has_c (s := s185) (p0 := p3) (p1 := x173.2.1) h6 er194) rfl ?_
                rintro _ s195 m196 rfl
                replace m0 := m0.trans m196.no
                replace h5 := h5.mono (m196.le no_No)
                replace h6 := h6.mono (m196.le no_No)
                replace h127 := h127.mono (m196.le no_No)
                replace bx8 := bx8.mv m196 no_No
                replace h1 := h1.mono (m196.le no_No)
                replace h2 := h2.mono (m196.le no_No)
                replace h3 := h3.mono (m196.le no_No)
                replace bx175 := bx175.mv m196 no_No
                refine L.pkT Wt.no rfl rfl rfl rfl ?_
                exact L.sub (Sub.cons rfl (Sub.cons rfl (Sub.cons rfl (Sub.cons rfl (Sub.cons rfl (Sub.cons rfl (Sub.cons rfl (Sub.cons rfl Sub.nil)))))))) (J193 _ _ ⟨s195, r194, (Option.some.inj hm).symm, m0, h127, h5, h6, h1, h2, h3, bx8, bx175, rfl, rfl⟩)
              · refine L.know (d := 60) rfl hc ?_
                refine L.skip rfl rfl rfl rfl ?_
                refine L.skip rfl rfl rfl rfl ?_
                refine L.skip rfl rfl rfl rfl ?_
                refine L.skip rfl rfl rfl rfl ?_
                refine L.pkF Wt.no rfl rfl rfl rfl ?_
                exact L.sub (Sub.cons rfl (Sub.cons rfl (Sub.cons rfl (Sub.cons rfl (Sub.cons rfl (Sub.cons rfl (Sub.cons rfl (Sub.cons rfl Sub.nil)))))))) (J193 _ _ ⟨s185, false, (Option.some.inj hm).symm, m0, h127, h5, h6, h1, h2, h3, bx8, bx175, rfl, rfl⟩)
          · intro J197
            rcases ifS eb183 with ⟨hc, hm⟩ | ⟨hc, hm⟩
            · refine L.know (d := 54) rfl hc ?_
              refine L.mv (Wt.mk rfl rfl) rfl rfl ?_
              refine L.fa fa45_2 (Wt.mk rfl rfl) rfl rfl ?_
              refine L.ld (j := 2) bx175.mem nag3 (Wt.mk rfl rfl) rfl rfl rfl rfl ?_
              obtain ⟨r198, er198, hm⟩ := bindS hm
              refine L.ca (vs := [.slice a5 p2.length c5, .int .i64 x173.2.2]) cf50 rfl rfl (Wt.mk rfl rfl) rfl (m_overseerref04_has_c (s := s181) (p0 := p2) (p1 := x173.2.2) h5 er198) rfl ?_
              rintro _ s199 m200 rfl
              replace m0 := m0.trans m200.no
              replace h5 := h5.mono (m200.le no_No)
              replace h6 := h6.mono (m200.le no_No)
              replace h127 := h127.mono (m200.le no_No)
              replace bx8 := bx8.mv m200 no_No
              replace h1 := h1.mono (m200.le no_No)
              replace h2 := h2.mono (m200.le no_No)
              replace h3 := h3.mono (m200.le no_No)
              replace bx175 := bx175.mv m200 no_No
              refine L.pkT Wt.no rfl rfl rfl rfl ?_
              exact L.sub (Sub.cons rfl (Sub.cons rfl (Sub.cons rfl (Sub.cons rfl (Sub.cons rfl (Sub.cons rfl (Sub.cons rfl (Sub.cons rfl Sub.nil)))))))) (J197 _ _ ⟨s199, r198, (Option.some.inj hm).symm, m0, h127, h5, h6, h1, h2, h3, bx8, bx175, rfl, rfl⟩)
            · refine L.know (d := 54) rfl hc ?_
              refine L.skip rfl rfl rfl rfl ?_
              refine L.skip rfl rfl rfl rfl ?_
              refine L.skip rfl rfl rfl rfl ?_
              refine L.skip rfl rfl rfl rfl ?_
              refine L.pkF Wt.no rfl rfl rfl rfl ?_
              exact L.sub (Sub.cons rfl (Sub.cons rfl (Sub.cons rfl (Sub.cons rfl (Sub.cons rfl (Sub.cons rfl (Sub.cons rfl (Sub.cons rfl Sub.nil)))))))) (J197 _ _ ⟨s181, false, (Option.some.inj hm).symm, m0, h127, h5, h6, h1, h2, h3, bx8, bx175, rfl, rfl⟩)
      · refine E.cF rfl hc ?_
        refine E.exit ?_
        refine X.seqX ?_
        refine X.seqX ?_
        have hx := ho163 _ (Option.some.inj hm).symm
        subst hx
        exact X.sub (K168 _ _ ⟨s166, a127, c127, m0, h127, h5, h6, h1, h2, h3, bx8, rfl, rfl⟩) (Sub.cons rfl (Sub.cons rfl (Sub.cons rfl (Sub.cons rfl (Sub.cons rfl Sub.nil)))))
    · refine E.cF rfl hc ?_
      refine E.exit ?_
      refine X.seqX ?_
      refine X.seqX ?_
      have hx := ho119 _ (Option.some.inj hm).symm
      subst hx
      exact X.sub (K124 _ _ ⟨s122, a39, c39, m0, h39, rfl, rfl⟩) (Sub.cons rfl Sub.nil)
  intro K201
  refine E.iter (fun (st32 : Int × List Int) (e : List (Nat × Value)) (w : World) => ∃ (s35 : Sig) (a13 : Option Addr) (c13 : Nat), Mv (Up N No) s s35 ∧ RdL (rK .i64) s35 a13 c13 st32.2 ∧ RdL (rK .i64) s35 a4 c4 p1 ∧ RdL (rK .i64) s35 a5 c5 p2 ∧ RdL (rK .i64) s35 a6 c6 p3 ∧ RdL (rK .i64) s35 a1 c1 p0.1 ∧ RdL (rK .i64) s35 a2 c2 p0.2.2.1 ∧ RdL (rP (rK .i64) (rP (rK .i64) (rK .i64))) s35 a3 c3 p0.2.2.2 ∧ Bx s35 (N + 0) b8 #[.slice a1 p0.1.length c1, .int .i64 p0.2.1, .slice a2 p0.2.2.1.length c2, .slice a3 p0.2.2.2.length c3] 31 ∧ e = [(10, .int .i64 st32.1), (9, .slice a13 st32.2.length c13), (4, .pointer (some ⟨b8, 0, none⟩)), (1, .slice a4 p1.length c4), (2, .slice a5 p2.length c5), (3, .slice a6 p3.length c6)] ∧ w = s35.w) eo32 ⟨s9, none, 0, m0, RdL.nil, h4, h5, h6, h1, h2, h3, bx8, rfl, rfl⟩ (Sub.cons rfl (Sub.cons rfl (Sub.cons rfl (Sub.cons rfl (Sub.cons rfl (Sub.cons rfl Sub.nil)))))) ?_
  rintro st32 res32 hm ih32 ho32 _ _ ⟨s35, a13, c13, m0, h13, h4, h5, h6, h1, h2, h3, bx8, rfl, rfl⟩
  unfold m_overseerref04_From_l1 at hm
  refine E.seq ?_
  refine E.seq ?_
  refine E.reg ?_
  refine L.mv Wt.no rfl rfl ?_
  refine L.mv Wt.no rfl rfl ?_
  refine L.len sl28 Wt.no rfl rfl ?_
  refine L.bi Wt.no rfl rfl rfl rfl ?_
  refine L.nil ?_
  refine X.seqN ?_
  rcases ifS hm with ⟨hc, hm⟩ | ⟨hc, hm⟩
  · refine E.cT rfl hc ?_
    refine E.skip ?_
    refine X.seqN ?_
    refine E.seqJ (fun e w => ∃ (s204 : Sig) (l202 : List Int) (a203 : Option Addr) (c203 : Nat), m_overseerref04_From_j2 st32 l202 = some res32 ∧ Mv (Up N No) s s204 ∧ RdL (rK .i64) s204 a203 c203 l202 ∧ RdL (rK .i64) s204 a4 c4 p1 ∧ RdL (rK .i64) s204 a5 c5 p2 ∧ RdL (rK .i64) s204 a6 c6 p3 ∧ RdL (rK .i64) s204 a1 c1 p0.1 ∧ RdL (rK .i64) s204 a2 c2 p0.2.2.1 ∧ RdL (rP (rK .i64) (rP (rK .i64) (rK .i64))) s204 a3 c3 p0.2.2.2 ∧ Bx s204 (N + 0) b8 #[.slice a1 p0.1.length c1, .int .i64 p0.2.1, .slice a2 p0.2.2.1.length c2, .slice a3 p0.2.2.2.length c3] 31 ∧ e = [(9, .slice a203 l202.length c203), (10, .int .i64 st32.1), (4, .pointer (some ⟨b8, 0, none⟩)), (1, .slice a4 p1.length c4), (2, .slice a5 p2.length c5), (3, .slice a6 p3.length c6)] ∧ w = s204.w) ?_ ?_
    · rintro _ _ ⟨s204, l202, a203, c203, hm, m0, h203, h4, h5, h6, h1, h2, h3, bx8, rfl, rfl⟩
      unfold m_overseerref04_From_j2 at hm
      refine E.reg ?_
      refine L.mv Wt.no rfl rfl ?_
      refine L.bi Wt.no rfl rfl rfl rfl ?_
      refine L.as Wt.no rfl rfl ?_
      refine L.nil ?_
      exact X.sub (ih32 _ (Option.some.inj hm).symm _ _ ⟨s204, a203, c203, m0, h203, h4, h5, h6, h1, h2, h3, bx8, rfl, rfl⟩) (Sub.cons rfl (Sub.cons rfl (Sub.cons rfl (Sub.cons rfl (Sub.cons rfl (Sub.cons rfl Sub.nil))))))
    · intro Jj205
      refine E.block ?_
      refine E.seq ?_
      refine E.reg ?_
      refine L.mv Wt.no rfl rfl ?_
      refine L.mv Wt.no rfl rfl ?_
      refine L.mv Wt.no rfl rfl ?_
      obtain ⟨x206, ex206, hm⟩ := bindS hm
      refine L.ix (r := (rK .i64)) sl28 h4 Wt.no rfl rfl ex206 rfl ?_
      rintro b207 o207 cc207 me207 rd207
      obtain rfl := rd207
      refine L.ld (j := 0) me207 nag3 Wt.no rfl rfl rfl rfl ?_
      obtain ⟨r208, er208, hm⟩ := bindS hm
      refine L.ca (vs := [.slice a5 p2.length c5, .int .i64 x206]) cf50 rfl rfl Wt.no rfl (m_overseerref04_has_c (s := s35) (p0 := p2) (p1 := x206) h5 er208) rfl ?_
      rintro _ s209 m210 rfl
      replace m0 := m0.trans m210.no
      replace h4 := h4.mono (m210.le no_No)
      replace h5 := h5.mono (m210.le no_No)
      replace h6 := h6.mono (m210.le no_No)
      replace h13 := h13.mono (m210.le no_No)
      replace bx8 := bx8.mv m210 no_No
      replace h1 := h1.mono (m210.le no_No)
      replace h2 := h2.mono (m210.le no_No)
      replace h3 := h3.mono (m210.le no_No)
      refine L.nil ?_
      refine X.seqN ?_
      rcases ifS hm with ⟨hc, hm⟩ | ⟨hc, hm⟩
      · refine E.cT rfl hc ?_
        refine E.reg ?_
        refine L.mv Wt.no rfl rfl ?_
        refine L.mv Wt.no rfl rfl ?_
        refine L.mv Wt.no rfl rfl ?_
        obtain ⟨x211, ex211, hm⟩ := bindS hm
        refine L.ix (r := (rK .i64)) sl28 h4 Wt.no rfl rfl ex211 rfl ?_
        rintro b212 o212 cc212 me212 rd212
        obtain rfl := rd212
        refine L.ld (j := 0) me212 nag3 Wt.no rfl rfl rfl rfl ?_
        obtain ⟨r213, er213, hm⟩ := bindS hm
        refine L.ca (vs := [.slice a13 st32.2.length c13, .int .i64 x211]) cf51 rfl rfl Wt.no rfl (m_overseerref04_add_c (s := s209) (p0 := st32.2) (p1 := x211) h13 er213) rfl ?_
        rintro _ s214 m215 ⟨a216, c216, rfl, h216⟩
        replace m0 := m0.trans m215.no
        replace h4 := h4.mono (m215.le no_No)
        replace h5 := h5.mono (m215.le no_No)
        replace h6 := h6.mono (m215.le no_No)
        replace bx8 := bx8.mv m215 no_No
        replace h1 := h1.mono (m215.le no_No)
        replace h2 := h2.mono (m215.le no_No)
        replace h3 := h3.mono (m215.le no_No)
        refine L.as Wt.no rfl rfl ?_
        refine L.nil ?_
        refine X.blkN ?_
        exact X.sub (Jj205 _ _ ⟨s214, r213, a216, c216, hm, m0, h216, h4, h5, h6, h1, h2, h3, bx8, rfl, rfl⟩) (Sub.cons rfl (Sub.cons rfl (Sub.cons rfl (Sub.cons rfl (Sub.cons rfl (Sub.cons rfl Sub.nil))))))
      · refine E.cF rfl hc ?_
        refine E.skip ?_
        refine X.blkN ?_
        exact X.sub (Jj205 _ _ ⟨s209, st32.2, a13, c13, hm, m0, h13, h4, h5, h6, h1, h2, h3, bx8, rfl, rfl⟩) (Sub.cons rfl (Sub.cons rfl (Sub.cons rfl (Sub.cons rfl (Sub.cons rfl (Sub.cons rfl Sub.nil))))))
  · refine E.cF rfl hc ?_
    refine E.exit ?_
    refine X.seqX ?_
    refine X.seqX ?_
    have hx := ho32 _ (Option.some.inj hm).symm
    subst hx
    exact X.sub (K201 _ _ ⟨s35, a13, c13, m0, h13, h5, h6, h1, h2, h3, bx8, rfl, rfl⟩) (Sub.cons rfl (Sub.cons rfl (Sub.cons rfl (Sub.cons rfl Sub.nil))))

theorem cf20 : Cf Try.prog 20 := Cf.mk Try.func20 (by kernel_rfl) (by kernel_rfl)
theorem cf59 : Cf Try.prog 59 := Cf.mk Try.func59 (by kernel_rfl) (by kernel_rfl)
noncomputable def m_overseerref04_Components_j1 (st172 : Int × List Int × List (List Int)) (l178 : List Int) (l180 : List (List Int)) : Option ((Int × List Int × List (List Int)) ⊕ (List (List Int))) :=
  some (.inl (W (st172.1 + 1), l178, l180))
noncomputable def m_overseerref04_Components_j2 (st268 : Int × List Int × List Int) (l283 : List Int) (l285 : List Int) : Option ((Int × List Int × List Int) ⊕ (List Int × List Int)) :=
  some (.inl (W (st268.1 + 1), l285, l283))
noncomputable def m_overseerref04_Components_l2 (p0 : List Int × Int × List Int × (List (Int × Int × Int))) (st172 : Int × List Int × List (List Int)) (r203 : List Int) (st268 : Int × List Int × List Int) : Option ((Int × List Int × List Int) ⊕ (List Int × List Int)) :=
  if decide (st268.1 < (r203.length : Int)) then
    (idx r203 st268.1).bind fun x293 =>
    (m_overseerref04_All p0.2.1).bind fun r303 =>
    (m_overseerref04_From p0 ([x293] : List Int) r303 p0.1).bind fun r310 =>
    (m_overseerref04_has r310 st172.1).bind fun r316 =>
    if r316 then
      (idx r203 st268.1).bind fun x320 =>
      (m_overseerref04_add st268.2.1 x320).bind fun r322 =>
      (idx r203 st268.1).bind fun x326 =>
      (m_overseerref04_add st268.2.2 x326).bind fun r328 =>
      m_overseerref04_Components_j2 st268 r328 r322
    else
      m_overseerref04_Components_j2 st268 st268.2.2 st268.2.1
  else
    some (.inr st268.2)
noncomputable def m_overseerref04_Components_l1 (p0 : List Int × Int × List Int × (List (Int × Int × Int))) (st172 : Int × List Int × List (List Int)) : Option ((Int × List Int × List (List Int)) ⊕ (List (List Int))) :=
  if decide (st172.1 < p0.2.1) then
    (m_overseerref04_has st172.2.1 st172.1).bind fun r184 =>
    if r184 then
      m_overseerref04_Components_j1 st172 st172.2.1 st172.2.2
    else
      (m_overseerref04_All p0.2.1).bind fun r196 =>
      (m_overseerref04_From p0 ([st172.1] : List Int) r196 p0.1).bind fun r203 =>
      (iter (m_overseerref04_Components_l2 p0 st172 r203) (0, ([] : List Int), st172.2.1)).bind fun o268 =>
      (app st172.2.2 ([o268.1] : List (List Int))).bind fun x278 =>
      m_overseerref04_Components_j1 st172 o268.2 x278
  else
    some (.inr st172.2.2)
/-- What overseerref04.Components computes. -/
noncomputable def m_overseerref04_Components (p0 : List Int × Int × List Int × (List (Int × Int × Int))) : Option (List (List Int)) :=
  (iter (m_overseerref04_Components_l1 p0) (0, ([] : List Int), ([] : List (List Int)))).bind fun o172 =>
  some o172
set_option maxRecDepth 100000 in
set_option maxHeartbeats 8000000 in
theorem m_overseerref04_Components_c {s : Sig} {p0 : List Int × Int × List Int × (List (Int × Int × Int))} {a1 : Option Addr} {c1 : Nat} {a2 : Option Addr} {c2 : Nat} {a3 : Option Addr} {c3 : Nat} {u0 : Nat} {r : List (List Int)} (h1 : RdL (rK .i64) s a1 c1 p0.1) (h2 : RdL (rK .i64) s a2 c2 p0.2.2.1) (h3 : RdL (rP (rK .i64) (rP (rK .i64) (rK .i64))) s a3 c3 p0.2.2.2) (hm : m_overseerref04_Components p0 = some r) :
    Calls Try.prog 41 #[.agg #[.slice a1 p0.1.length c1, .int .i64 p0.2.1, .slice a2 p0.2.2.1.length c2, .slice a3 p0.2.2.2.length c3]] s.w (RetS No s fun v s' => ∃ (a4 : Option Addr) (c4 : Nat), v = .slice a4 r.length c4 ∧ RowT (rL (rK .i64)) s' u0 28 a4 c4 r) := by
  unfold m_overseerref04_Components at hm
  obtain ⟨N, hN, hNb⟩ := s.fresh
  have m0 : Mv (Up N No) s s := Mv.refl _ _
  refine E.entry (vs := [.agg #[.slice a1 p0.1.length c1, .int .i64 p0.2.1, .slice a2 p0.2.2.1.length c2, .slice a3 p0.2.2.2.length c3]]) (e := [(0, .agg #[.slice a1 p0.1.length c1, .int .i64 p0.2.1, .slice a2 p0.2.2.1.length c2, .slice a3 p0.2.2.2.length c3])]) Try.func41 rfl Try.ntmps41 rfl rfl ?_
  refine E.seq ?_
  refine E.reg ?_
  refine L.box (N + 0) Wt.no rfl rfl rfl ?_
  intro b5 s6 m7 bx5
  replace m0 := m0.trans m7.no
  replace h1 := h1.mono (m7.le no_No)
  replace h2 := h2.mono (m7.le no_No)
  replace h3 := h3.mono (m7.le no_No)
  refine L.as Wt.no rfl rfl ?_
  refine L.nil ?_
  refine X.seqN ?_
  refine E.seq ?_
  refine E.reg ?_
  refine L.as Wt.no rfl rfl ?_
  refine L.nil ?_
  refine X.seqN ?_
  refine E.seq ?_
  refine E.reg ?_
  refine L.as Wt.no rfl rfl ?_
  refine L.nil ?_
  refine X.seqN ?_
  refine E.seq ?_
  refine E.seq ?_
  refine E.reg ?_
  refine L.as Wt.no rfl rfl ?_
  refine L.nil ?_
  refine X.seqN ?_
  refine E.block ?_
  obtain ⟨o172, eo172, hm⟩ := bindS hm
  refine E.cut (x := .exit 0) (fun e w => ∃ (s176 : Sig) (a174 : Option Addr) (c174 : Nat), Mv (Up N No) s s176 ∧ RowT (rL (rK .i64)) s176 (N + 1) 28 a174 c174 o172 ∧ e = [(3, .slice a174 o172.length c174)] ∧ w = s176.w) ?_ ?_
  · rintro _ _ ⟨s176, a174, c174, m0, h174, rfl, rfl⟩
    refine X.blkE ?_
    refine X.seqN ?_
    refine E.seq ?_
    refine E.reg ?_
    refine L.mv Wt.no rfl rfl ?_
    refine L.as Wt.no rfl rfl ?_
    refine L.nil ?_
    refine X.seqN ?_
    refine E.ret ?_
    obtain rfl := Option.some.inj hm
    exact X.rt (.inl rfl) Try.results41 (Rs.tmp rfl Rs.nil) rfl ⟨_, (s176).ren N (fun k => cond (Nat.beq k 1) u0 (0)), rfl, rfl, m0.ren hNb, ⟨a174, c174, rfl, (h174.ren hN)⟩⟩
  intro K177
  refine E.iter (fun (st172 : Int × List Int × List (List Int)) (e : List (Nat × Value)) (w : World) => ∃ (s175 : Sig) (a10 : Option Addr) (c10 : Nat) (a12 : Option Addr) (c12 : Nat), Mv (Up N No) s s175 ∧ RdL (rK .i64) s175 a10 c10 st172.2.1 ∧ RowT (rL (rK .i64)) s175 (N + 1) 28 a12 c12 st172.2.2 ∧ RdL (rK .i64) s175 a1 c1 p0.1 ∧ RdL (rK .i64) s175 a2 c2 p0.2.2.1 ∧ RdL (rP (rK .i64) (rP (rK .i64) (rK .i64))) s175 a3 c3 p0.2.2.2 ∧ Bx s175 (N + 0) b5 #[.slice a1 p0.1.length c1, .int .i64 p0.2.1, .slice a2 p0.2.2.1.length c2, .slice a3 p0.2.2.2.length c3] 31 ∧ e = [(5, .int .i64 st172.1), (4, .slice a10 st172.2.1.length c10), (3, .slice a12 st172.2.2.length c12), (1, .pointer (some ⟨b5, 0, none⟩))] ∧ w = s175.w) eo172 ⟨s6, none, 0, none, 0, m0, RdL.nil, RowT.nil, h1, h2, h3, bx5, rfl, rfl⟩ (Sub.cons rfl (Sub.cons rfl (Sub.cons rfl (Sub.cons rfl Sub.nil)))) ?_
  rintro st172 res172 hm ih172 ho172 _ _ ⟨s175, a10, c10, a12, c12, m0, h10, h12, h1, h2, h3, bx5, rfl, rfl⟩
  unfold m_overseerref04_Components_l1 at hm
  refine E.seq ?_
  refine E.seq ?_
  refine E.reg ?_
  refine L.mv Wt.no rfl rfl ?_
  refine L.fa fa31_1 Wt.no rfl rfl ?_
  refine L.ld (j := 1) bx5.mem nag3 Wt.no rfl rfl rfl rfl ?_
  refine L.bi Wt.no rfl rfl rfl rfl ?_
  refine L.nil ?_
  refine X.seqN ?_
  rcases ifS hm with ⟨hc, hm⟩ | ⟨hc, hm⟩
  · refine E.cT rfl hc ?_
    refine E.skip ?_
    refine X.seqN ?_
    refine E.seqJ (fun e w => ∃ (s182 : Sig) (l178 : List Int) (l180 : List (List Int)) (a179 : Option Addr) (c179 : Nat) (a181 : Option Addr) (c181 : Nat), m_overseerref04_Components_j1 st172 l178 l180 = some res172 ∧ Mv (Up N No) s s182 ∧ RdL (rK .i64) s182 a179 c179 l178 ∧ RowT (rL (rK .i64)) s182 (N + 1) 28 a181 c181 l180 ∧ RdL (rK .i64) s182 a1 c1 p0.1 ∧ RdL (rK .i64) s182 a2 c2 p0.2.2.1 ∧ RdL (rP (rK .i64) (rP (rK .i64) (rK .i64))) s182 a3 c3 p0.2.2.2 ∧ Bx s182 (N + 0) b5 #[.slice a1 p0.1.length c1, .int .i64 p0.2.1, .slice a2 p0.2.2.1.length c2, .slice a3 p0.2.2.2.length c3] 31 ∧ e = [(5, .int .i64 st172.1), (4, .slice a179 l178.length c179), (3, .slice a181 l180.length c181), (1, .pointer (some ⟨b5, 0, none⟩))] ∧ w = s182.w) ?_ ?_
    · rintro _ _ ⟨s182, l178, l180, a179, c179, a181, c181, hm, m0, h179, h181, h1, h2, h3, bx5, rfl, rfl⟩
      unfold m_overseerref04_Components_j1 at hm
      refine E.reg ?_
      refine L.mv Wt.no rfl rfl ?_
      refine L.bi Wt.no rfl rfl rfl rfl ?_
      refine L.as Wt.no rfl rfl ?_
      refine L.nil ?_
      exact X.sub (ih172 _ (Option.some.inj hm).symm _ _ ⟨s182, a179, c179, a181, c181, m0, h179, h181, h1, h2, h3, bx5, rfl, rfl⟩) (Sub.cons rfl (Sub.cons rfl (Sub.cons rfl (Sub.cons rfl Sub.nil))))
    · intro Jj183
      refine E.block ?_
      refine E.seq ?_
      refine E.seq ?_
      refine E.reg ?_
      refine L.mv Wt.no rfl rfl ?_
      refine L.mv Wt.no rfl rfl ?_
      obtain ⟨r184, er184, hm⟩ := bindS hm
      refine L.ca (vs := [.slice a10 st172.2.1.length c10, .int .i64 st172.1]) cf50 rfl rfl Wt.no rfl (m_overseerref04_has_c (s := s175) (p0 := st172.2.1) (p1 := st172.1) h10 er184) rfl ?_
      rintro _ s185 m186 rfl
      replace m0 := m0.trans m186.no
      replace h12 := h12.mv m186 no_No no_No
      replace h10 := h10.mono (m186.le no_No)
      replace bx5 := bx5.mv m186 no_No
      replace h1 := h1.mono (m186.le no_No)
      replace h2 := h2.mono (m186.le no_No)
      replace h3 := h3.mono (m186.le no_No)
      refine L.nil ?_
      refine X.seqN ?_
      rcases ifS hm with ⟨hc, hm⟩ | ⟨hc, hm⟩
      · refine E.cT rfl hc ?_
        refine E.exit ?_
        refine X.seqX ?_
        refine X.blkE ?_
        exact X.sub (Jj183 _ _ ⟨s185, st172.2.1, st172.2.2, a10, c10, a12, c12, hm, m0, h10, h12, h1, h2, h3, bx5, rfl, rfl⟩) (Sub.cons rfl (Sub.cons rfl (Sub.cons rfl (Sub.cons rfl Sub.nil))))
      · refine E.cF rfl hc ?_
        refine E.skip ?_
        refine X.seqN ?_
        refine E.seq ?_
        refine E.reg ?_
        refine L.as Wt.no rfl rfl ?_
        refine L.nil ?_
        refine X.seqN ?_
        refine E.seq ?_
        obtain ⟨r196, er196, hm⟩ := bindS hm
        obtain ⟨r203, er203, hm⟩ := bindS hm
        refine E.draw [[], [], [1], [], [3], [3, 4], [], [6], [0, 1, 2, 3, 4, 5, 6, 7], [0, 1, 2, 3, 4, 5, 6, 7, 8]] (fun D e sx => Mv No s185 sx ∧ Sub [(6, .slice none 0 0), (5, .int .i64 st172.1), (4, .slice a10 st172.2.1.length c10), (3, .slice a12 st172.2.2.length c12), (1, .pointer (some ⟨b5, 0, none⟩))] e ∧ AllP [D 0 = true → (Env.get e 18 = some (.agg #[.slice a1 p0.1.length c1, .int .i64 p0.2.1, .slice a2 p0.2.2.1.length c2, .slice a3 p0.2.2.2.length c3])), D 1 = true → (Env.get e 19 = some (.int .i64 st172.1)), D 2 = true → (∃ (b190 : Nat), Env.get e 20 = some (.slice (some ⟨b190, 0, none⟩) ([st172.1] : List Int).length (([st172.1] : List Int).length)) ∧ RdL (rK .i64) sx (some ⟨b190, 0, none⟩) (([st172.1] : List Int).length) ([st172.1] : List Int)), D 3 = true → (Env.get e 21 = some (.pointer (some ⟨b5, 1, none⟩))), D 4 = true → (Env.get e 22 = some (.int .i64 p0.2.1)), D 5 = true → (∃ (a199 : Option Addr) (c199 : Nat), Env.get e 23 = some (.slice a199 r196.length c199) ∧ RdL (rK .i64) sx a199 c199 r196), D 6 = true → (Env.get e 24 = some (.pointer (some ⟨b5, 0, none⟩))), D 7 = true → (Env.get e 25 = some (.slice a1 p0.1.length c1)), D 8 = true → (∃ (a206 : Option Addr) (c206 : Nat), Env.get e 26 = some (.slice a206 r203.length c206) ∧ RdL (rK .i64) sx a206 c206 r203), D 9 = true → ∀ (a206 : Option Addr) (c206 : Nat), Env.get e 26 = some (.slice a206 r203.length c206) → (Env.get e 7 = some (.slice a206 r203.length c206))]) (by kernel_rfl) (by kernel_rfl) (by kernel_rfl) ?_ ?_ ?_
        · intro sz mz
          exact ⟨mz, (Sub.cons rfl (Sub.cons rfl (Sub.cons rfl (Sub.cons rfl (Sub.cons rfl Sub.nil))))), nofun, nofun, nofun, nofun, nofun, nofun, nofun, nofun, nofun, nofun, trivial⟩
        · refine ⟨?_, ?_, ?_, ?_, ?_, ?_, ?_, ?_, ?_, ?_, trivial⟩
          · rintro D e s187 ⟨im, ib, i⟩ hk hf ha
            have bx5 := bx5.mv im no_No
            have kn : Kn e [(1, .pointer (some ⟨b5, 0, none⟩))] := ⟨(ib 1 _ rfl), trivial⟩
            refine L.kns _ kn ?_
            refine L.lg (j := 0) (cs := [.slice a1 p0.1.length c1, .int .i64 p0.2.1, .slice a2 p0.2.2.1.length c2, .slice a3 p0.2.2.2.length c3]) bx5.mem ag31 Wt.no rfl rfl rfl rfl rfl ?_
            refine L.nil ?_
            exact X.dk kn ⟨im, Sub.fresh ib rfl, i.u 0 (fun _ => rfl)⟩
          · rintro D e s188 ⟨im, ib, i⟩ hk hf ha
            have kn : Kn e [(5, .int .i64 st172.1)] := ⟨(ib 5 _ rfl), trivial⟩
            refine L.kns _ kn ?_
            refine L.mv Wt.no rfl rfl ?_
            refine L.nil ?_
            exact X.dk kn ⟨im, Sub.fresh ib rfl, i.u 1 (fun _ => rfl)⟩
          · rintro D e s189 ⟨im, ib, i⟩ hk hf ha
            have g1_ := (i.p 1) (ha.at 1 rfl)
            have kn : Kn e [(19, .int .i64 st172.1)] := ⟨g1_, trivial⟩
            refine L.kns _ kn ?_
            refine L.bsE (k := 1) (cs := [.int .i64 st172.1]) 0 bs28 (Nat.le_of_ble_eq_true rfl) Wt.no rfl rfl rfl rfl ?_
            intro b190 s191 m192 bx190
            have h190 := Bx.rdL (r := (rK .i64)) (xs := ([st172.1] : List Int)) bx190 ⟨[.int .i64 st172.1], _, rfl, rfl, rfl⟩ (Nat.le_of_ble_eq_true rfl)
            refine L.nil ?_
            exact X.dk kn ⟨im.trans m192.no, Sub.fresh ib rfl, ((i.u 2 (fun _ => ⟨b190, rfl, h190⟩)).u 5 (fun z => let ⟨a199, c199, q, h199⟩ := (i.p 5) z; ⟨a199, c199, q, (h199.mono (m192.le no_No))⟩)).u 8 (fun z => let ⟨a206, c206, q, h206⟩ := (i.p 8) z; ⟨a206, c206, q, (h206.mono (m192.le no_No))⟩)⟩
          · rintro D e s193 ⟨im, ib, i⟩ hk hf ha
            have kn : Kn e [(1, .pointer (some ⟨b5, 0, none⟩))] := ⟨(ib 1 _ rfl), trivial⟩
            refine L.kns _ kn ?_
            refine L.fa fa31_1 Wt.no rfl rfl ?_
            refine L.nil ?_
            exact X.dk kn ⟨im, Sub.fresh ib rfl, i.u 3 (fun _ => rfl)⟩
          · rintro D e s194 ⟨im, ib, i⟩ hk hf ha
            have g3_ := (i.p 3) (ha.at 3 rfl)
            have bx5 := bx5.mv im no_No
            have kn : Kn e [(21, .pointer (some ⟨b5, 1, none⟩))] := ⟨g3_, trivial⟩
            refine L.kns _ kn ?_
            refine L.ld (j := 1) bx5.mem nag3 Wt.no rfl rfl rfl rfl ?_
            refine L.nil ?_
            exact X.dk kn ⟨im, Sub.fresh ib rfl, i.u 4 (fun _ => rfl)⟩
          · rintro D e s195 ⟨im, ib, i⟩ hk hf ha
            have g4_ := (i.p 4) (ha.at 4 rfl)
            have kn : Kn e [(22, .int .i64 p0.2.1)] := ⟨g4_, trivial⟩
            refine L.kns _ kn ?_
            refine L.ca (vs := [.int .i64 p0.2.1]) cf20 rfl rfl Wt.no rfl (m_overseerref04_All_c (s := s195) (p0 := p0.2.1) (u0 := 0) er196) rfl ?_
            rintro _ s197 m198 ⟨a199, c199, rfl, h199⟩
            replace h199 := h199.p
            refine L.nil ?_
            exact X.dk kn ⟨im.trans m198.no, Sub.fresh ib rfl, ((i.u 2 (fun z => let ⟨b190, q, h190⟩ := (i.p 2) z; ⟨b190, q, (h190.mono (m198.le no_No))⟩)).u 5 (fun _ => ⟨a199, c199, rfl, h199⟩)).u 8 (fun z => let ⟨a206, c206, q, h206⟩ := (i.p 8) z; ⟨a206, c206, q, (h206.mono (m198.le no_No))⟩)⟩
          · rintro D e s200 ⟨im, ib, i⟩ hk hf ha
            have kn : Kn e [(1, .pointer (some ⟨b5, 0, none⟩))] := ⟨(ib 1 _ rfl), trivial⟩
            refine L.kns _ kn ?_
            refine L.fa fa31_0 Wt.no rfl rfl ?_
            refine L.nil ?_
            exact X.dk kn ⟨im, Sub.fresh ib rfl, i.u 6 (fun _ => rfl)⟩
          · rintro D e s201 ⟨im, ib, i⟩ hk hf ha
            have g6_ := (i.p 6) (ha.at 6 rfl)
            have bx5 := bx5.mv im no_No
            have kn : Kn e [(24, .pointer (some ⟨b5, 0, none⟩))] := ⟨g6_, trivial⟩
            refine L.kns _ kn ?_
            refine L.ld (j := 0) bx5.mem nag28 Wt.no rfl rfl rfl rfl ?_
            refine L.nil ?_
            exact X.dk kn ⟨im, Sub.fresh ib rfl, i.u 7 (fun _ => rfl)⟩
          · rintro D e s202 ⟨im, ib, i⟩ hk hf ha
            have g0_ := (i.p 0) (ha.at 0 rfl)
            obtain ⟨b190, g2_, h190⟩ := (i.p 2) (ha.at 2 rfl)
            obtain ⟨a199, c199, g5_, h199⟩ := (i.p 5) (ha.at 5 rfl)
            have g7_ := (i.p 7) (ha.at 7 rfl)
            have h1 := h1.mono (im.le no_No)
            have h2 := h2.mono (im.le no_No)
            have h3 := h3.mono (im.le no_No)
            have kn : Kn e [(18, .agg #[.slice a1 p0.1.length c1, .int .i64 p0.2.1, .slice a2 p0.2.2.1.length c2, .slice a3 p0.2.2.2.length c3]), (20, .slice (some ⟨b190, 0, none⟩) ([st172.1] : List Int).length (([st172.1] : List Int).length)), (23, .slice a199 r196.length c199), (25, .slice a1 p0.1.length c1)] := ⟨g0_, g2_, g5_, g7_, trivial⟩
            refine L.kns _ kn ?_
            refine L.ca (vs := [.agg #[.slice a1 p0.1.length c1, .int .i64 p0.2.1, .slice a2 p0.2.2.1.length c2, .slice a3 p0.2.2.2.length c3], .slice (some ⟨b190, 0, none⟩) ([st172.1] : List Int).length (([st172.1] : List Int).length), .slice a199 r196.length c199, .slice a1 p0.1.length c1]) cf59 rfl rfl Wt.no rfl (m_overseerref04_From_c (s := s202) (p0 := p0) (p1 := ([st172.1] : List Int)) (p2 := r196) (p3 := p0.1) h1 h2 h3 h190 h199 h1 er203) rfl ?_
            rintro _ s204 m205 ⟨a206, c206, rfl, h206⟩
            refine L.nil ?_
            exact X.dk kn ⟨im.trans m205.no, Sub.fresh ib rfl, (((i.u 2 (fun z => let ⟨b190, q, h190⟩ := (i.p 2) z; ⟨b190, q, (h190.mono (m205.le no_No))⟩)).u 5 (fun z => let ⟨a199, c199, q, h199⟩ := (i.p 5) z; ⟨a199, c199, q, (h199.mono (m205.le no_No))⟩)).u 8 (fun _ => ⟨a206, c206, rfl, h206⟩)).u 9 (fun z => Bool.noConfusion ((hf 9 (Nat.le_of_ble_eq_true rfl) rfl).symm.trans z))⟩
          · rintro D e s207 ⟨im, ib, i⟩ hk hf ha
            obtain ⟨a206, c206, g8_, h206⟩ := (i.p 8) (ha.at 8 rfl)
            have kn : Kn e [(26, .slice a206 r203.length c206)] := ⟨g8_, trivial⟩
            refine L.kns _ kn ?_
            refine L.as Wt.no rfl rfl ?_
            refine L.nil ?_
            exact X.dk kn ⟨im, Sub.fresh ib rfl, i.u 9 (fun _ _ _ q8 => by cases g8_.symm.trans q8; exact rfl)⟩
        · rintro D e s208 hD ⟨im, ib, i⟩
          obtain ⟨a206, c206, g8_, h206⟩ := (i.p 8) (hD 8 rfl)
          have g9_ := (i.p 9) (hD 9 rfl) a206 c206 g8_
          have h10 := h10.mono (im.le no_No)
          have h12 := h12.mv im no_No no_No
          have bx5 := bx5.mv im no_No
          have h1 := h1.mono (im.le no_No)
          have h2 := h2.mono (im.le no_No)
          have h3 := h3.mono (im.le no_No)
          have m0 := m0.trans im.no
          refine X.sub (e' := [(7, .slice a206 r203.length c206), (6, .slice none 0 0), (5, .int .i64 st172.1), (4, .slice a10 st172.2.1.length c10), (3, .slice a12 st172.2.2.length c12), (1, .pointer (some ⟨b5, 0, none⟩))]) ?_ (Sub.cons g9_ (Sub.cons (ib 6 _ rfl) (Sub.cons (ib 5 _ rfl) (Sub.cons (ib 4 _ rfl) (Sub.cons (ib 3 _ rfl) (Sub.cons (ib 1 _ rfl) Sub.nil))))))
          refine X.seqN ?_
          refine E.seq ?_
          refine E.seq ?_
          refine E.reg ?_
          refine L.as Wt.no rfl rfl ?_
          refine L.nil ?_
          refine X.seqN ?_
          refine E.block ?_
          obtain ⟨o268, eo268, hm⟩ := bindS hm
          refine E.cut (x := .exit 2) (fun e w => ∃ (s274 : Sig) (a270 : Option Addr) (c270 : Nat) (a272 : Option Addr) (c272 : Nat), Mv (Up N No) s s274 ∧ RdL (rK .i64) s274 a270 c270 o268.1 ∧ RdL (rK .i64) s274 a272 c272 o268.2 ∧ RowT (rL (rK .i64)) s274 (N + 1) 28 a12 c12 st172.2.2 ∧ RdL (rK .i64) s274 a1 c1 p0.1 ∧ RdL (rK .i64) s274 a2 c2 p0.2.2.1 ∧ RdL (rP (rK .i64) (rP (rK .i64) (rK .i64))) s274 a3 c3 p0.2.2.2 ∧ Bx s274 (N + 0) b5 #[.slice a1 p0.1.length c1, .int .i64 p0.2.1, .slice a2 p0.2.2.1.length c2, .slice a3 p0.2.2.2.length c3] 31 ∧ e = [(6, .slice a270 o268.1.length c270), (5, .int .i64 st172.1), (4, .slice a272 o268.2.length c272), (3, .slice a12 st172.2.2.length c12), (1, .pointer (some ⟨b5, 0, none⟩))] ∧ w = s274.w) ?_ ?_
          · rintro _ _ ⟨s274, a270, c270, a272, c272, m0, h270, h272, h12, h1, h2, h3, bx5, rfl, rfl⟩
            refine X.blkE ?_
            refine X.seqN ?_
            refine E.reg ?_
            refine L.mv Wt.no rfl rfl ?_
            refine L.mv Wt.no rfl rfl ?_
            refine L.bsE (k := 1) (cs := [.slice a270 o268.1.length c270]) 0 bs65 (Nat.le_of_ble_eq_true rfl) Wt.no rfl rfl rfl rfl ?_
            intro b275 s276 m277 bx275
            replace m0 := m0.trans m277.no
            replace h272 := h272.mono (m277.le no_No)
            replace h12 := h12.mv m277 no_No no_No
            replace bx5 := bx5.mv m277 no_No
            replace h1 := h1.mono (m277.le no_No)
            replace h2 := h2.mono (m277.le no_No)
            replace h3 := h3.mono (m277.le no_No)
            replace h270 := h270.mono (m277.le no_No)
            have h275 := Bx.rdL (r := (rL (rK .i64))) (xs := ([o268.1] : List (List Int))) bx275 ⟨[.slice a270 o268.1.length c270], _, rfl, ⟨_, _, rfl, h270⟩, rfl⟩ (Nat.le_of_ble_eq_true rfl)
            obtain ⟨x278, ex278, hm⟩ := bindS hm
            refine L.ap (r := (rL (rK .i64))) Try.underlying65 el28 rfl (tgp hN) h12 h275.wk Wt.no rfl rfl ex278 rfl ?_
            intro a279 c279 s280 m281 h279
            replace m0 := m0.trans (m281.one up)
            replace h272 := h272.mono (m281.le (tg0 hN))
            replace bx5 := bx5.mv m281 (tgN (by decide))
            replace h1 := h1.mono (m281.le (tg0 hN))
            replace h2 := h2.mono (m281.le (tg0 hN))
            replace h3 := h3.mono (m281.le (tg0 hN))
            refine L.as Wt.no rfl rfl ?_
            refine L.nil ?_
            refine X.blkN ?_
            exact X.sub (Jj183 _ _ ⟨s280, o268.2, x278, a272, c272, a279, c279, hm, m0, h272, h279, h1, h2, h3, bx5, rfl, rfl⟩) (Sub.cons rfl (Sub.cons rfl (Sub.cons rfl (Sub.cons rfl Sub.nil))))
          intro K282
          refine E.iter (fun (st268 : Int × List Int × List Int) (e : List (Nat × Value)) (w : World) => ∃ (s273 : Sig) (a211 : Option Addr) (c211 : Nat) (a213 : Option Addr) (c213 : Nat), Mv (Up N No) s s273 ∧ RdL (rK .i64) s273 a206 c206 r203 ∧ RdL (rK .i64) s273 a211 c211 st268.2.1 ∧ RdL (rK .i64) s273 a213 c213 st268.2.2 ∧ RowT (rL (rK .i64)) s273 (N + 1) 28 a12 c12 st172.2.2 ∧ RdL (rK .i64) s273 a1 c1 p0.1 ∧ RdL (rK .i64) s273 a2 c2 p0.2.2.1 ∧ RdL (rP (rK .i64) (rP (rK .i64) (rK .i64))) s273 a3 c3 p0.2.2.2 ∧ Bx s273 (N + 0) b5 #[.slice a1 p0.1.length c1, .int .i64 p0.2.1, .slice a2 p0.2.2.1.length c2, .slice a3 p0.2.2.2.length c3] 31 ∧ e = [(8, .int .i64 st268.1), (7, .slice a206 r203.length c206), (6, .slice a211 st268.2.1.length c211), (5, .int .i64 st172.1), (4, .slice a213 st268.2.2.length c213), (3, .slice a12 st172.2.2.length c12), (1, .pointer (some ⟨b5, 0, none⟩))] ∧ w = s273.w) eo268 ⟨s208, none, 0, a10, c10, m0, h206, RdL.nil, h10, h12, h1, h2, h3, bx5, rfl, rfl⟩ (Sub.cons rfl (Sub.cons rfl (Sub.cons rfl (Sub.cons rfl (Sub.cons rfl (Sub.cons rfl (Sub.cons rfl Sub.nil))))))) ?_
          rintro st268 res268 hm ih268 ho268 _ _ ⟨s273, a211, c211, a213, c213, m0, h206, h211, h213, h12, h1, h2, h3, bx5, rfl, rfl⟩
          unfold m_overseerref04_Components_l2 at hm
          refine E.seq ?_
          refine E.seq ?_
          refine E.reg ?_
          refine L.mv Wt.no rfl rfl ?_
          refine L.mv Wt.no rfl rfl ?_
          refine L.len sl28 Wt.no rfl rfl ?_
          refine L.bi Wt.no rfl rfl rfl rfl ?_
          refine L.nil ?_
          refine X.seqN ?_
          rcases ifS hm with ⟨hc, hm⟩ | ⟨hc, hm⟩
          · refine E.cT rfl hc ?_
            refine E.skip ?_
            refine X.seqN ?_
            refine E.seqJ (fun e w => ∃ (s287 : Sig) (l283 : List Int) (l285 : List Int) (a284 : Option Addr) (c284 : Nat) (a286 : Option Addr) (c286 : Nat), m_overseerref04_Components_j2 st268 l283 l285 = some res268 ∧ Mv (Up N No) s s287 ∧ RdL (rK .i64) s287 a284 c284 l283 ∧ RdL (rK .i64) s287 a286 c286 l285 ∧ RdL (rK .i64) s287 a206 c206 r203 ∧ RowT (rL (rK .i64)) s287 (N + 1) 28 a12 c12 st172.2.2 ∧ RdL (rK .i64) s287 a1 c1 p0.1 ∧ RdL (rK .i64) s287 a2 c2 p0.2.2.1 ∧ RdL (rP (rK .i64) (rP (rK .i64) (rK .i64))) s287 a3 c3 p0.2.2.2 ∧ Bx s287 (N + 0) b5 #[.slice a1 p0.1.length c1, .int .i64 p0.2.1, .slice a2 p0.2.2.1.length c2, .slice a3 p0.2.2.2.length c3] 31 ∧ e = [(4, .slice a284 l283.length c284), (6, .slice a286 l285.length c286), (8, .int .i64 st268.1), (7, .slice a206 r203.length c206), (5, .int .i64 st172.1), (3, .slice a12 st172.2.2.length c12), (1, .pointer (some ⟨b5, 0, none⟩))] ∧ w = s287.w) ?_ ?_
            · rintro _ _ ⟨s287, l283, l285, a284, c284, a286, c286, hm, m0, h284, h286, h206, h12, h1, h2, h3, bx5, rfl, rfl⟩
              unfold m_overseerref04_Components_j2 at hm
              refine E.reg ?_
              refine L.mv Wt.no rfl rfl ?_
              refine L.bi Wt.no rfl rfl rfl rfl ?_
              refine L.as Wt.no rfl rfl ?_
              refine L.nil ?_
              exact X.sub (ih268 _ (Option.some.inj hm).symm _ _ ⟨s287, a286, c286, a284, c284, m0, h206, h286, h284, h12, h1, h2, h3, bx5, rfl, rfl⟩) (Sub.cons rfl (Sub.cons rfl (Sub.cons rfl (Sub.cons rfl (Sub.cons rfl (Sub.cons rfl (Sub.cons rfl Sub.nil)))))))
            · intro Jj288
              refine E.block ?_
              refine E.seq ?_
              obtain ⟨x293, ex293, hm⟩ := bindS hm
              obtain ⟨r303, er303, hm⟩ := bindS hm
              obtain ⟨r310, er310, hm⟩ := bindS hm
              obtain ⟨r316, er316, hm⟩ := bindS hm
              refine E.draw [[], [], [], [1, 2], [1, 2, 3], [1, 2, 3, 4], [], [6], [6, 7], [], [9], [0, 1, 2, 3, 4, 5, 6, 7, 8, 9, 10], [], [0, 1, 2, 3, 4, 5, 6, 7, 8, 9, 10, 11, 12]] (fun D e sx => Mv No s273 sx ∧ Sub [(8, .int .i64 st268.1), (7, .slice a206 r203.length c206), (6, .slice a211 st268.2.1.length c211), (5, .int .i64 st172.1), (4, .slice a213 st268.2.2.length c213), (3, .slice a12 st172.2.2.length c12), (1, .pointer (some ⟨b5, 0, none⟩))] e ∧ AllP [D 0 = true → (Env.get e 33 = some (.agg #[.slice a1 p0.1.length c1, .int .i64 p0.2.1, .slice a2 p0.2.2.1.length c2, .slice a3 p0.2.2.2.length c3])), D 1 = true → (Env.get e 34 = some (.slice a206 r203.length c206)), D 2 = true → (Env.get e 35 = some (.int .i64 st268.1)), D 3 = true → (∃ (b294 : Nat) (o294 : Nat), Env.get e 36 = some (.pointer (some ⟨b294, o294, none⟩)) ∧ Mem sx 0 b294 o294 [.int .i64 x293]), D 4 = true → (Env.get e 37 = some (.int .i64 x293)), D 5 = true → (∃ (b297 : Nat), Env.get e 38 = some (.slice (some ⟨b297, 0, none⟩) ([x293] : List Int).length (([x293] : List Int).length)) ∧ RdL (rK .i64) sx (some ⟨b297, 0, none⟩) (([x293] : List Int).length) ([x293] : List Int)), D 6 = true → (Env.get e 39 = some (.pointer (some ⟨b5, 1, none⟩))), D 7 = true → (Env.get e 40 = some (.int .i64 p0.2.1)), D 8 = true → (∃ (a306 : Option Addr) (c306 : Nat), Env.get e 41 = some (.slice a306 r303.length c306) ∧ RdL (rK .i64) sx a306 c306 r303), D 9 = true → (Env.get e 42 = some (.pointer (some ⟨b5, 0, none⟩))), D 10 = true → (Env.get e 43 = some (.slice a1 p0.1.length c1)), D 11 = true → (∃ (a313 : Option Addr) (c313 : Nat), Env.get e 44 = some (.slice a313 r310.length c313) ∧ RdL (rK .i64) sx a313 c313 r310), D 12 = true → (Env.get e 45 = some (.int .i64 st172.1)), D 13 = true → (Env.get e 46 = some (.bool r316))]) (by kernel_rfl) (by kernel_rfl) (by kernel_rfl) ?_ ?_ ?_
              · intro sz mz
                exact ⟨mz, (Sub.cons rfl (Sub.cons rfl (Sub.cons rfl (Sub.cons rfl (Sub.cons rfl (Sub.cons rfl (Sub.cons rfl Sub.nil))))))), nofun, nofun, nofun, nofun, nofun, nofun, nofun, nofun, nofun, nofun, nofun, nofun, nofun, nofun, trivial⟩
              · refine ⟨?_, ?_, ?_, ?_, ?_, ?_, ?_, ?_, ?_, ?_, ?_, ?_, ?_, ?_, trivial⟩
                · rintro D e s289 ⟨im, ib, i⟩ hk hf ha
                  have bx5 := bx5.mv im no_No
                  have kn : Kn e [(1, .pointer (some ⟨b5, 0, none⟩))] := ⟨(ib 1 _ rfl), trivial⟩
                  refine L.kns _ kn ?_
                  refine L.lg (j := 0) (cs := [.slice a1 p0.1.length c1, .int .i64 p0.2.1, .slice a2 p0.2.2.1.length c2, .slice a3 p0.2.2.2.length c3]) bx5.mem ag31 Wt.no rfl rfl rfl rfl rfl ?_
                  refine L.nil ?_
                  exact X.dk kn ⟨im, Sub.fresh ib rfl, i.u 0 (fun _ => rfl)⟩
                · rintro D e s290 ⟨im, ib, i⟩ hk hf ha
                  have kn : Kn e [(7, .slice a206 r203.length c206)] := ⟨(ib 7 _ rfl), trivial⟩
                  refine L.kns _ kn ?_
                  refine L.mv Wt.no rfl rfl ?_
                  refine L.nil ?_
                  exact X.dk kn ⟨im, Sub.fresh ib rfl, i.u 1 (fun _ => rfl)⟩
                · rintro D e s291 ⟨im, ib, i⟩ hk hf ha
                  have kn : Kn e [(8, .int .i64 st268.1)] := ⟨(ib 8 _ rfl), trivial⟩
                  refine L.kns _ kn ?_
                  refine L.mv Wt.no rfl rfl ?_
                  refine L.nil ?_
                  exact X.dk kn ⟨im, Sub.fresh ib rfl, i.u 2 (fun _ => rfl)⟩
                · rintro D e s292 ⟨im, ib, i⟩ hk hf ha
                  have g1_ := (i.p 1) (ha.at 1 rfl)
                  have g2_ := (i.p 2) (ha.at 2 rfl)
                  have h206 := h206.mono (im.le no_No)
                  have kn : Kn e [(34, .slice a206 r203.length c206), (35, .int .i64 st268.1)] := ⟨g1_, g2_, trivial⟩
                  refine L.kns _ kn ?_
                  refine L.ix (r := (rK .i64)) sl28 h206 Wt.no rfl rfl ex293 rfl ?_
                  rintro b294 o294 cc294 me294 rd294
                  obtain rfl := rd294
                  refine L.nil ?_
                  exact X.dk kn ⟨im, Sub.fresh ib rfl, i.u 3 (fun _ => ⟨b294, o294, rfl, me294⟩)⟩
                · rintro D e s295 ⟨im, ib, i⟩ hk hf ha
                  obtain ⟨b294, o294, g3_, me294⟩ := (i.p 3) (ha.at 3 rfl)
                  have kn : Kn e [(36, .pointer (some ⟨b294, o294, none⟩))] := ⟨g3_, trivial⟩
                  refine L.kns _ kn ?_
                  refine L.ld (j := 0) me294 nag3 Wt.no rfl rfl rfl rfl ?_
                  refine L.nil ?_
                  exact X.dk kn ⟨im, Sub.fresh ib rfl, i.u 4 (fun _ => rfl)⟩
                · rintro D e s296 ⟨im, ib, i⟩ hk hf ha
                  have g4_ := (i.p 4) (ha.at 4 rfl)
                  have kn : Kn e [(37, .int .i64 x293)] := ⟨g4_, trivial⟩
                  refine L.kns _ kn ?_
                  refine L.bsE (k := 1) (cs := [.int .i64 x293]) 0 bs28 (Nat.le_of_ble_eq_true rfl) Wt.no rfl rfl rfl rfl ?_
                  intro b297 s298 m299 bx297
                  have h297 := Bx.rdL (r := (rK .i64)) (xs := ([x293] : List Int)) bx297 ⟨[.int .i64 x293], _, rfl, rfl, rfl⟩ (Nat.le_of_ble_eq_true rfl)
                  refine L.nil ?_
                  exact X.dk kn ⟨im.trans m299.no, Sub.fresh ib rfl, (((i.u 3 (fun z => let ⟨b294, o294, q, me294⟩ := (i.p 3) z; ⟨b294, o294, q, (me294.mv m299 no_No)⟩)).u 5 (fun _ => ⟨b297, rfl, h297⟩)).u 8 (fun z => let ⟨a306, c306, q, h306⟩ := (i.p 8) z; ⟨a306, c306, q, (h306.mono (m299.le no_No))⟩)).u 11 (fun z => let ⟨a313, c313, q, h313⟩ := (i.p 11) z; ⟨a313, c313, q, (h313.mono (m299.le no_No))⟩)⟩
                · rintro D e s300 ⟨im, ib, i⟩ hk hf ha
                  have kn : Kn e [(1, .pointer (some ⟨b5, 0, none⟩))] := ⟨(ib 1 _ rfl), trivial⟩
                  refine L.kns _ kn ?_
                  refine L.fa fa31_1 Wt.no rfl rfl ?_
                  refine L.nil ?_
                  exact X.dk kn ⟨im, Sub.fresh ib rfl, i.u 6 (fun _ => rfl)⟩
                · rintro D e s301 ⟨im, ib, i⟩ hk hf ha
                  have g6_ := (i.p 6) (ha.at 6 rfl)
                  have bx5 := bx5.mv im no_No
                  have kn : Kn e [(39, .pointer (some ⟨b5, 1, none⟩))] := ⟨g6_, trivial⟩
                  refine L.kns _ kn ?_
                  refine L.ld (j := 1) bx5.mem nag3 Wt.no rfl rfl rfl rfl ?_
                  refine L.nil ?_
                  exact X.dk kn ⟨im, Sub.fresh ib rfl, i.u 7 (fun _ => rfl)⟩
                · rintro D e s302 ⟨im, ib, i⟩ hk hf ha
                  have g7_ := (i.p 7) (ha.at 7 rfl)
                  have kn : Kn e [(40, .int .i64 p0.2.1)] := ⟨g7_, trivial⟩
                  refine L.kns _ kn ?_
                  refine L.ca (vs := [.int .i64 p0.2.1]) cf20 rfl rfl Wt.no rfl (m_overseerref04_All_c (s := s302) (p0 := p0.2.1) (u0 := 0) er303) rfl ?_
                  rintro _ s304 m305 ⟨a306, c306, rfl, h306⟩
                  replace h306 := h306.p
                  refine L.nil ?_
                  exact X.dk kn ⟨im.trans m305.no, Sub.fresh ib rfl, (((i.u 3 (fun z => let ⟨b294, o294, q, me294⟩ := (i.p 3) z; ⟨b294, o294, q, (me294.mv m305 no_No)⟩)).u 5 (fun z => let ⟨b297, q, h297⟩ := (i.p 5) z; ⟨b297, q, (h297.mono (m305.le no_No))⟩)).u 8 (fun _ => ⟨a306, c306, rfl, h306⟩)).u 11 (fun z => let ⟨a313, c313, q, h313⟩ := (i.p 11) z; ⟨a313, c313, q, (h313.mono (m305.le no_No))⟩)⟩
                · rintro D e s307 ⟨im, ib, i⟩ hk hf ha
                  have kn : Kn e [(1, .pointer (some ⟨b5, 0, none⟩))] := ⟨(ib 1 _ rfl), trivial⟩
                  refine L.kns _ kn ?_
                  refine L.fa fa31_0 Wt.no rfl rfl ?_
                  refine L.nil ?_
                  exact X.dk kn ⟨im, Sub.fresh ib rfl, i.u 9 (fun _ => rfl)⟩
                · rintro D e s308 ⟨im, ib, i⟩ hk hf ha
                  have g9_ := (i.p 9) (ha.at 9 rfl)
                  have bx5 := bx5.mv im no_No
                  have kn : Kn e [(42, .pointer (some ⟨b5, 0, none⟩))] := ⟨g9_, trivial⟩
                  refine L.kns _ kn ?_
                  refine L.ld (j := 0) bx5.mem nag28 Wt.no rfl rfl rfl rfl ?_
                  refine L.nil ?_
                  exact X.dk kn ⟨im, Sub.fresh ib rfl, i.u 10 (fun _ => rfl)⟩
                · rintro D e s309 ⟨im, ib, i⟩ hk hf ha
                  have g0_ := (i.p 0) (ha.at 0 rfl)
                  obtain ⟨b297, g5_, h297⟩ := (i.p 5) (ha.at 5 rfl)
                  obtain ⟨a306, c306, g8_, h306⟩ := (i.p 8) (ha.at 8 rfl)
                  have g10_ := (i.p 10) (ha.at 10 rfl)
                  have h1 := h1.mono (im.le no_No)
                  have h2 := h2.mono (im.le no_No)
                  have h3 := h3.mono (im.le no_No)
                  have kn : Kn e [(33, .agg #[.slice a1 p0.1.length c1, .int .i64 p0.2.1, .slice a2 p0.2.2.1.length c2, .slice a3 p0.2.2.2.length c3]), (38, .slice (some ⟨b297, 0, none⟩) ([x293] : List Int).length (([x293] : List Int).length)), (41, .slice a306 r303.length c306), (43, .slice a1 p0.1.length c1)] := ⟨g0_, g5_, g8_, g10_, trivial⟩
                  refine L.kns _ kn ?_
                  refine L.ca (vs := [.agg #[.slice a1 p0.1.length c1, .int .i64 p0.2.1, .slice a2 p0.2.2.1.length c2, .slice a3 p0.2.2.2.length c3], .slice (some ⟨b297, 0, none⟩) ([x293] : List Int).length (([x293] : List Int).length), .slice a306 r303.length c306, .slice a1 p0.1.length c1]) cf59 rfl rfl Wt.no rfl (m_overseerref04_From_c (s := s309) (p0 := p0) (p1 := ([x293] : List Int)) (p2 := r303) (p3 := p0.1) h1 h2 h3 h297 h306 h1 er310) rfl ?_
                  rintro _ s311 m312 ⟨a313, c313, rfl, h313⟩
                  refine L.nil ?_
                  exact X.dk kn ⟨im.trans m312.no, Sub.fresh ib rfl, (((i.u 3 (fun z => let ⟨b294, o294, q, me294⟩ := (i.p 3) z; ⟨b294, o294, q, (me294.mv m312 no_No)⟩)).u 5 (fun z => let ⟨b297, q, h297⟩ := (i.p 5) z; ⟨b297, q, (h297.mono (m312.le no_No))⟩)).u 8 (fun z => let ⟨a306, c306, q, h306⟩ := (i.p 8) z; ⟨a306, c306, q, (h306.mono (m312.le no_No))⟩)).u 11 (fun _ => ⟨a313, c313, rfl, h313⟩)⟩
                · rintro D e s314 ⟨im, ib, i⟩ hk hf ha
                  have kn : Kn e [(5, .int .i64 st172.1)] := ⟨(ib 5 _ rfl), trivial⟩
                  refine L.kns _ kn ?_
                  refine L.mv Wt.no rfl rfl ?_
                  refine L.nil ?_
                  exact X.dk kn ⟨im, Sub.fresh ib rfl, i.u 12 (fun _ => rfl)⟩
                · rintro D e s315 ⟨im, ib, i⟩ hk hf ha
                  obtain ⟨a313, c313, g11_, h313⟩ := (i.p 11) (ha.at 11 rfl)
                  have g12_ := (i.p 12) (ha.at 12 rfl)
                  have kn : Kn e [(44, .slice a313 r310.length c313), (45, .int .i64 st172.1)] := ⟨g11_, g12_, trivial⟩
                  refine L.kns _ kn ?_
                  refine L.ca (vs := [.slice a313 r310.length c313, .int .i64 st172.1]) cf50 rfl rfl Wt.no rfl (m_overseerref04_has_c (s := s315) (p0 := r310) (p1 := st172.1) h313 er316) rfl ?_
                  rintro _ s317 m318 rfl
                  refine L.nil ?_
                  exact X.dk kn ⟨im.trans m318.no, Sub.fresh ib rfl, ((((i.u 3 (fun z => let ⟨b294, o294, q, me294⟩ := (i.p 3) z; ⟨b294, o294, q, (me294.mv m318 no_No)⟩)).u 5 (fun z => let ⟨b297, q, h297⟩ := (i.p 5) z; ⟨b297, q, (h297.mono (m318.le no_No))⟩)).u 8 (fun z => let ⟨a306, c306, q, h306⟩ := (i.p 8) z; ⟨a306, c306, q, (h306.mono (m318.le no_No))⟩)).u 11 (fun z => let ⟨a313, c313, q, h313⟩ := (i.p 11) z; ⟨a313, c313, q, (h313.mono (m318.le no_No))⟩)).u 13 (fun _ => rfl)⟩
              · rintro D e s319 hD ⟨im, ib, i⟩
                have g13_ := (i.p 13) (hD 13 rfl)
                have h206 := h206.mono (im.le no_No)
                have h211 := h211.mono (im.le no_No)
                have h213 := h213.mono (im.le no_No)
                have h12 := h12.mv im no_No no_No
                have bx5 := bx5.mv im no_No
                have h1 := h1.mono (im.le no_No)
                have h2 := h2.mono (im.le no_No)
                have h3 := h3.mono (im.le no_No)
                have m0 := m0.trans im.no
                refine X.sub (e' := [(46, .bool r316), (8, .int .i64 st268.1), (7, .slice a206 r203.length c206), (6, .slice a211 st268.2.1.length c211), (5, .int .i64 st172.1), (4, .slice a213 st268.2.2.length c213), (3, .slice a12 st172.2.2.length c12), (1, .pointer (some ⟨b5, 0, none⟩))]) ?_ (Sub.cons g13_ (Sub.cons (ib 8 _ rfl) (Sub.cons (ib 7 _ rfl) (Sub.cons (ib 6 _ rfl) (Sub.cons (ib 5 _ rfl) (Sub.cons (ib 4 _ rfl) (Sub.cons (ib 3 _ rfl) (Sub.cons (ib 1 _ rfl) Sub.nil))))))))
                refine X.seqN ?_
                rcases ifS hm with ⟨hc, hm⟩ | ⟨hc, hm⟩
                · refine E.cT rfl hc ?_
                  refine E.seq ?_
                  refine E.reg ?_
                  refine L.mv Wt.no rfl rfl ?_
                  refine L.mv Wt.no rfl rfl ?_
                  refine L.mv Wt.no rfl rfl ?_
                  obtain ⟨x320, ex320, hm⟩ := bindS hm
                  refine L.ix (r := (rK .i64)) sl28 h206 Wt.no rfl rfl ex320 rfl ?_
                  rintro b321 o321 cc321 me321 rd321
                  obtain rfl := rd321
                  refine L.ld (j := 0) me321 nag3 Wt.no rfl rfl rfl rfl ?_
                  obtain ⟨r322, er322, hm⟩ := bindS hm
                  refine L.ca (vs := [.slice a211 st268.2.1.length c211, .int .i64 x320]) cf51 rfl rfl Wt.no rfl (m_overseerref04_add_c (s := s319) (p0 := st268.2.1) (p1 := x320) h211 er322) rfl ?_
                  rintro _ s323 m324 ⟨a325, c325, rfl, h325⟩
                  replace m0 := m0.trans m324.no
                  replace h12 := h12.mv m324 no_No no_No
                  replace h213 := h213.mono (m324.le no_No)
                  replace h206 := h206.mono (m324.le no_No)
                  replace bx5 := bx5.mv m324 no_No
                  replace h1 := h1.mono (m324.le no_No)
                  replace h2 := h2.mono (m324.le no_No)
                  replace h3 := h3.mono (m324.le no_No)
                  refine L.as Wt.no rfl rfl ?_
                  refine L.nil ?_
                  refine X.seqN ?_
                  refine E.reg ?_
                  refine L.mv Wt.no rfl rfl ?_
                  refine L.mv Wt.no rfl rfl ?_
                  refine L.mv Wt.no rfl rfl ?_
                  obtain ⟨x326, ex326, hm⟩ := bindS hm
                  refine L.ix (r := (rK .i64)) sl28 h206 Wt.no rfl rfl ex326 rfl ?_
                  rintro b327 o327 cc327 me327 rd327
                  obtain rfl := rd327
                  refine L.ld (j := 0) me327 nag3 Wt.no rfl rfl rfl rfl ?_
                  obtain ⟨r328, er328, hm⟩ := bindS hm
                  refine L.ca (vs := [.slice a213 st268.2.2.length c213, .int .i64 x326]) cf51 rfl rfl Wt.no rfl (m_overseerref04_add_c (s := s323) (p0 := st268.2.2) (p1 := x326) h213 er328) rfl ?_
                  rintro _ s329 m330 ⟨a331, c331, rfl, h331⟩
                  replace m0 := m0.trans m330.no
                  replace h12 := h12.mv m330 no_No no_No
                  replace h325 := h325.mono (m330.le no_No)
                  replace h206 := h206.mono (m330.le no_No)
                  replace bx5 := bx5.mv m330 no_No
                  replace h1 := h1.mono (m330.le no_No)
                  replace h2 := h2.mono (m330.le no_No)
                  replace h3 := h3.mono (m330.le no_No)
                  refine L.as Wt.no rfl rfl ?_
                  refine L.nil ?_
                  refine X.blkN ?_
                  exact X.sub (Jj288 _ _ ⟨s329, r328, r322, a331, c331, a325, c325, hm, m0, h331, h325, h206, h12, h1, h2, h3, bx5, rfl, rfl⟩) (Sub.cons rfl (Sub.cons rfl (Sub.cons rfl (Sub.cons rfl (Sub.cons rfl (Sub.cons rfl (Sub.cons rfl Sub.nil)))))))
                · refine E.cF rfl hc ?_
                  refine E.skip ?_
                  refine X.blkN ?_
                  exact X.sub (Jj288 _ _ ⟨s319, st268.2.2, st268.2.1, a213, c213, a211, c211, hm, m0, h213, h211, h206, h12, h1, h2, h3, bx5, rfl, rfl⟩) (Sub.cons rfl (Sub.cons rfl (Sub.cons rfl (Sub.cons rfl (Sub.cons rfl (Sub.cons rfl (Sub.cons rfl Sub.nil)))))))
          · refine E.cF rfl hc ?_
            refine E.exit ?_
            refine X.seqX ?_
            refine X.seqX ?_
            have hx := ho268 _ (Option.some.inj hm).symm
            subst hx
            exact X.sub (K282 _ _ ⟨s273, a211, c211, a213, c213, m0, h211, h213, h12, h1, h2, h3, bx5, rfl, rfl⟩) (Sub.cons rfl (Sub.cons rfl (Sub.cons rfl (Sub.cons rfl (Sub.cons rfl Sub.nil)))))
  · refine E.cF rfl hc ?_
    refine E.exit ?_
    refine X.seqX ?_
    refine X.seqX ?_
    have hx := ho172 _ (Option.some.inj hm).symm
    subst hx
    exact X.sub (K177 _ _ ⟨s175, a12, c12, m0, h12, rfl, rfl⟩) (Sub.cons rfl Sub.nil)

theorem ag25 : Ag Try.prog 25 26 := Ag.mk' Try.underlying25 rfl (by kernel_rfl)
theorem cf12 : Cf Try.prog 12 := Cf.mk Try.func12 (by kernel_rfl) (by kernel_rfl)
theorem cf13 : Cf Try.prog 13 := Cf.mk Try.func13 (by kernel_rfl) (by kernel_rfl)
theorem cf40 : Cf Try.prog 40 := Cf.mk Try.func40 (by kernel_rfl) (by kernel_rfl)
theorem cf41 : Cf Try.prog 41 := Cf.mk Try.func41 (by kernel_rfl) (by kernel_rfl)
noncomputable def m_overseerlaw04_ReachComponents_l1 (r18 : List (List Int) × Int) (r22 : List (List Int)) (st51 : Int) : Option (Int ⊕ (Unit ⊕ Unit)) :=
  if decide (st51 < (r18.1.length : Int)) then
    (idx r18.1 st51).bind fun x62 =>
    (idx r22 st51).bind fun x70 =>
    (m_overseerlaw04_same x62 x70).bind fun r76 =>
    if (!r76) then
      some (.inr (.inr (())))
    else
      some (.inl (W (st51 + 1)))
  else
    some (.inr (.inl ()))
/-- What overseerlaw04.ReachComponents computes. -/
noncomputable def m_overseerlaw04_ReachComponents (p0 : Int × Int × ((Int × Int × Int × Int) × (Int × Int × Int × Int) × (Int × Int × Int × Int) × (Int × Int × Int × Int) × (Int × Int × Int × Int) × (Int × Int × Int × Int))) : Option Bool :=
  (m_overseerlaw04_known).bind fun r4 =>
  if (!r4) then
    some false
  else
    (m_overseerlaw04_Make p0).bind fun r7 =>
    (m_reach_Components r7).bind fun r18 =>
    (m_overseerref04_Components r7).bind fun r22 =>
    if ((r18.2 != 0) || ((r18.1.length : Int) != (r22.length : Int))) then
      some false
    else
      (iter (m_overseerlaw04_ReachComponents_l1 r18 r22) 0).bind fun o51 =>
      match o51 with
      | .inl u53 =>
        some true
      | .inr (u56) =>
        some false
set_option maxRecDepth 100000 in
set_option maxHeartbeats 8000000 in
theorem m_overseerlaw04_ReachComponents_c {s : Sig} {p0 : Int × Int × ((Int × Int × Int × Int) × (Int × Int × Int × Int) × (Int × Int × Int × Int) × (Int × Int × Int × Int) × (Int × Int × Int × Int) × (Int × Int × Int × Int))} {r : Bool} (hm : m_overseerlaw04_ReachComponents p0 = some r) :
    Calls Try.prog 10 #[.agg #[.int .u8 p0.1, .int .u8 p0.2.1, .int .u8 p0.2.2.1.1, .int .u8 p0.2.2.1.2.1, .int .u8 p0.2.2.1.2.2.1, .int .u8 p0.2.2.1.2.2.2, .int .u8 p0.2.2.2.1.1, .int .u8 p0.2.2.2.1.2.1, .int .u8 p0.2.2.2.1.2.2.1, .int .u8 p0.2.2.2.1.2.2.2, .int .u8 p0.2.2.2.2.1.1, .int .u8 p0.2.2.2.2.1.2.1, .int .u8 p0.2.2.2.2.1.2.2.1, .int .u8 p0.2.2.2.2.1.2.2.2, .int .u8 p0.2.2.2.2.2.1.1, .int .u8 p0.2.2.2.2.2.1.2.1, .int .u8 p0.2.2.2.2.2.1.2.2.1, .int .u8 p0.2.2.2.2.2.1.2.2.2, .int .u8 p0.2.2.2.2.2.2.1.1, .int .u8 p0.2.2.2.2.2.2.1.2.1, .int .u8 p0.2.2.2.2.2.2.1.2.2.1, .int .u8 p0.2.2.2.2.2.2.1.2.2.2, .int .u8 p0.2.2.2.2.2.2.2.1, .int .u8 p0.2.2.2.2.2.2.2.2.1, .int .u8 p0.2.2.2.2.2.2.2.2.2.1, .int .u8 p0.2.2.2.2.2.2.2.2.2.2]] s.w (RetS No s fun v s' => v = .bool r) := by
  unfold m_overseerlaw04_ReachComponents at hm
  obtain ⟨N, hN, hNb⟩ := s.fresh
  have m0 : Mv (Up N No) s s := Mv.refl _ _
  refine E.entry (vs := [.agg #[.int .u8 p0.1, .int .u8 p0.2.1, .int .u8 p0.2.2.1.1, .int .u8 p0.2.2.1.2.1, .int .u8 p0.2.2.1.2.2.1, .int .u8 p0.2.2.1.2.2.2, .int .u8 p0.2.2.2.1.1, .int .u8 p0.2.2.2.1.2.1, .int .u8 p0.2.2.2.1.2.2.1, .int .u8 p0.2.2.2.1.2.2.2, .int .u8 p0.2.2.2.2.1.1, .int .u8 p0.2.2.2.2.1.2.1, .int .u8 p0.2.2.2.2.1.2.2.1, .int .u8 p0.2.2.2.2.1.2.2.2, .int .u8 p0.2.2.2.2.2.1.1, .int .u8 p0.2.2.2.2.2.1.2.1, .int .u8 p0.2.2.2.2.2.1.2.2.1, .int .u8 p0.2.2.2.2.2.1.2.2.2, .int .u8 p0.2.2.2.2.2.2.1.1, .int .u8 p0.2.2.2.2.2.2.1.2.1, .int .u8 p0.2.2.2.2.2.2.1.2.2.1, .int .u8 p0.2.2.2.2.2.2.1.2.2.2, .int .u8 p0.2.2.2.2.2.2.2.1, .int .u8 p0.2.2.2.2.2.2.2.2.1, .int .u8 p0.2.2.2.2.2.2.2.2.2.1, .int .u8 p0.2.2.2.2.2.2.2.2.2.2]]) (e := [(0, .agg #[.int .u8 p0.1, .int .u8 p0.2.1, .int .u8 p0.2.2.1.1, .int .u8 p0.2.2.1.2.1, .int .u8 p0.2.2.1.2.2.1, .int .u8 p0.2.2.1.2.2.2, .int .u8 p0.2.2.2.1.1, .int .u8 p0.2.2.2.1.2.1, .int .u8 p0.2.2.2.1.2.2.1, .int .u8 p0.2.2.2.1.2.2.2, .int .u8 p0.2.2.2.2.1.1, .int .u8 p0.2.2.2.2.1.2.1, .int .u8 p0.2.2.2.2.1.2.2.1, .int .u8 p0.2.2.2.2.1.2.2.2, .int .u8 p0.2.2.2.2.2.1.1, .int .u8 p0.2.2.2.2.2.1.2.1, .int .u8 p0.2.2.2.2.2.1.2.2.1, .int .u8 p0.2.2.2.2.2.1.2.2.2, .int .u8 p0.2.2.2.2.2.2.1.1, .int .u8 p0.2.2.2.2.2.2.1.2.1, .int .u8 p0.2.2.2.2.2.2.1.2.2.1, .int .u8 p0.2.2.2.2.2.2.1.2.2.2, .int .u8 p0.2.2.2.2.2.2.2.1, .int .u8 p0.2.2.2.2.2.2.2.2.1, .int .u8 p0.2.2.2.2.2.2.2.2.2.1, .int .u8 p0.2.2.2.2.2.2.2.2.2.2])]) Try.func10 rfl Try.ntmps10 rfl rfl ?_
  refine E.seq ?_
  refine E.reg ?_
  refine L.box (N + 0) Wt.no rfl rfl rfl ?_
  intro b1 s2 m3 bx1
  replace m0 := m0.trans m3.no
  refine L.as Wt.no rfl rfl ?_
  refine L.nil ?_
  refine X.seqN ?_
  refine E.seq ?_
  refine E.seq ?_
  refine E.reg ?_
  obtain ⟨r4, er4, hm⟩ := bindS hm
  refine L.ca (vs := []) cf12 rfl rfl Wt.no rfl (m_overseerlaw04_known_c (s := s2) er4) rfl ?_
  rintro _ s5 m6 rfl
  replace m0 := m0.trans m6.no
  replace bx1 := bx1.mv m6 no_No
  refine L.not Wt.no rfl rfl ?_
  refine L.nil ?_
  refine X.seqN ?_
  rcases ifS hm with ⟨hc, hm⟩ | ⟨hc, hm⟩
  · refine E.cT rfl hc ?_
    refine E.seq ?_
    refine E.reg ?_
    refine L.as Wt.no rfl rfl ?_
    refine L.nil ?_
    refine X.seqN ?_
    refine E.ret ?_
    refine X.seqR ?_
    obtain rfl := Option.some.inj hm
    exact X.rt (.inl rfl) Try.results10 (Rs.tmp rfl Rs.nil) rfl ⟨_, (s5).ren N (fun _ => 0), rfl, rfl, m0.ren hNb, rfl⟩
  · refine E.cF rfl hc ?_
    refine E.skip ?_
    refine X.seqN ?_
    refine E.seq ?_
    refine E.reg ?_
    refine L.lg (j := 0) (cs := [.int .u8 p0.1, .int .u8 p0.2.1, .int .u8 p0.2.2.1.1, .int .u8 p0.2.2.1.2.1, .int .u8 p0.2.2.1.2.2.1, .int .u8 p0.2.2.1.2.2.2, .int .u8 p0.2.2.2.1.1, .int .u8 p0.2.2.2.1.2.1, .int .u8 p0.2.2.2.1.2.2.1, .int .u8 p0.2.2.2.1.2.2.2, .int .u8 p0.2.2.2.2.1.1, .int .u8 p0.2.2.2.2.1.2.1, .int .u8 p0.2.2.2.2.1.2.2.1, .int .u8 p0.2.2.2.2.1.2.2.2, .int .u8 p0.2.2.2.2.2.1.1, .int .u8 p0.2.2.2.2.2.1.2.1, .int .u8 p0.2.2.2.2.2.1.2.2.1, .int .u8 p0.2.2.2.2.2.1.2.2.2, .int .u8 p0.2.2.2.2.2.2.1.1, .int .u8 p0.2.2.2.2.2.2.1.2.1, .int .u8 p0.2.2.2.2.2.2.1.2.2.1, .int .u8 p0.2.2.2.2.2.2.1.2.2.2, .int .u8 p0.2.2.2.2.2.2.2.1, .int .u8 p0.2.2.2.2.2.2.2.2.1, .int .u8 p0.2.2.2.2.2.2.2.2.2.1, .int .u8 p0.2.2.2.2.2.2.2.2.2.2]) bx1.mem ag25 Wt.no rfl rfl rfl rfl rfl ?_
    obtain ⟨r7, er7, hm⟩ := bindS hm
    refine L.ca (vs := [.agg #[.int .u8 p0.1, .int .u8 p0.2.1, .int .u8 p0.2.2.1.1, .int .u8 p0.2.2.1.2.1, .int .u8 p0.2.2.1.2.2.1, .int .u8 p0.2.2.1.2.2.2, .int .u8 p0.2.2.2.1.1, .int .u8 p0.2.2.2.1.2.1, .int .u8 p0.2.2.2.1.2.2.1, .int .u8 p0.2.2.2.1.2.2.2, .int .u8 p0.2.2.2.2.1.1, .int .u8 p0.2.2.2.2.1.2.1, .int .u8 p0.2.2.2.2.1.2.2.1, .int .u8 p0.2.2.2.2.1.2.2.2, .int .u8 p0.2.2.2.2.2.1.1, .int .u8 p0.2.2.2.2.2.1.2.1, .int .u8 p0.2.2.2.2.2.1.2.2.1, .int .u8 p0.2.2.2.2.2.1.2.2.2, .int .u8 p0.2.2.2.2.2.2.1.1, .int .u8 p0.2.2.2.2.2.2.1.2.1, .int .u8 p0.2.2.2.2.2.2.1.2.2.1, .int .u8 p0.2.2.2.2.2.2.1.2.2.2, .int .u8 p0.2.2.2.2.2.2.2.1, .int .u8 p0.2.2.2.2.2.2.2.2.1, .int .u8 p0.2.2.2.2.2.2.2.2.2.1, .int .u8 p0.2.2.2.2.2.2.2.2.2.2]]) cf13 rfl rfl Wt.no rfl (m_overseerlaw04_Make_c (s := s5) (p0 := p0) (u1 := 0) (u2 := 0) er7) rfl ?_
    rintro _ s8 m9 ⟨a10, c10, a11, c11, a12, c12, rfl, h10, h11, h12⟩
    replace h11 := h11.p
    replace h12 := h12.p
    replace m0 := m0.trans m9.no
    refine L.al (N + 1) zz31 rfl Wt.no rfl ?_
    intro b13 s14 m15 bx13
    replace m0 := m0.trans m15.no
    replace h10 := h10.mono (m15.le no_No)
    replace h11 := h11.mono (m15.le no_No)
    replace h12 := h12.mono (m15.le no_No)
    refine L.st (c := [.slice a10 r7.1.length c10, .int .i64 r7.2.1, .slice a11 r7.2.2.1.length c11, .slice a12 r7.2.2.2.length c12]) (cs' := #[.slice a10 r7.1.length c10, .int .i64 r7.2.1, .slice a11 r7.2.2.1.length c11, .slice a12 r7.2.2.2.length c12]) bx13 ag31.sz Wt.no rfl rfl rfl rfl rfl (Nat.le_of_ble_eq_true rfl) rfl ?_
    intro s16 m17 bx13
    replace m0 := m0.trans (m17.one up)
    replace h10 := h10.mono (m17.le (tg0 hN))
    replace h11 := h11.mono (m17.le (tg0 hN))
    replace h12 := h12.mono (m17.le (tg0 hN))
    refine L.nil ?_
    refine X.seqN ?_
    refine E.seq ?_
    refine E.reg ?_
    refine L.lg (j := 0) (cs := [.slice a10 r7.1.length c10, .int .i64 r7.2.1, .slice a11 r7.2.2.1.length c11, .slice a12 r7.2.2.2.length c12]) bx13.mem ag31 Wt.no rfl rfl rfl rfl rfl ?_
    obtain ⟨r18, er18, hm⟩ := bindS hm
    refine L.ca (vs := [.agg #[.slice a10 r7.1.length c10, .int .i64 r7.2.1, .slice a11 r7.2.2.1.length c11, .slice a12 r7.2.2.2.length c12]]) cf40 rfl rfl Wt.no rfl (m_reach_Components_c (s := s16) (p0 := r7) (u0 := 0) h10 h11 h12 er18) rfl ?_
    rintro _ s19 m20 ⟨a21, c21, rfl, h21⟩
    replace h21 := h21.p
    replace m0 := m0.trans m20.no
    replace bx13 := bx13.mv m20 no_No
    replace h10 := h10.mono (m20.le no_No)
    replace h11 := h11.mono (m20.le no_No)
    replace h12 := h12.mono (m20.le no_No)
    refine L.mv Wt.no rfl rfl ?_
    refine L.ex Wt.no rfl rfl rfl ?_
    refine L.ex Wt.no rfl rfl rfl ?_
    refine L.as Wt.no rfl rfl ?_
    refine L.as Wt.no rfl rfl ?_
    refine L.nil ?_
    refine X.seqN ?_
    refine E.seq ?_
    refine E.reg ?_
    refine L.lg (j := 0) (cs := [.slice a10 r7.1.length c10, .int .i64 r7.2.1, .slice a11 r7.2.2.1.length c11, .slice a12 r7.2.2.2.length c12]) bx13.mem ag31 Wt.no rfl rfl rfl rfl rfl ?_
    obtain ⟨r22, er22, hm⟩ := bindS hm
    refine L.ca (vs := [.agg #[.slice a10 r7.1.length c10, .int .i64 r7.2.1, .slice a11 r7.2.2.1.length c11, .slice a12 r7.2.2.2.length c12]]) cf41 rfl rfl Wt.no rfl (m_overseerref04_Components_c (s := s19) (p0 := r7) (u0 := 0) h10 h11 h12 er22) rfl ?_
    rintro _ s23 m24 ⟨a25, c25, rfl, h25⟩
    replace h25 := h25.p
    replace m0 := m0.trans m24.no
    replace h21 := h21.mono (m24.le no_No)
    refine L.as Wt.no rfl rfl ?_
    refine L.nil ?_
    refine X.seqN ?_
    refine E.seq ?_
    refine E.seq ?_
    refine E.reg ?_
    refine L.mv Wt.no rfl rfl ?_
    refine L.bi Wt.no rfl rfl rfl rfl ?_
    refine L.mv Wt.no rfl rfl ?_
    refine L.cut 6 (fun e w => ∃ (v26 : Bool), ((r18.2 != 0) || ((r18.1.length : Int) != (r22.length : Int))) = v26 ∧ e = (27, .bool v26) :: [(6, .slice a25 r22.length c25), (4, .slice a21 r18.1.length c21)] ∧ w = s23.w) ?_ ?_
    · rintro _ _ ⟨v26, rfl, rfl, rfl⟩
      refine L.nil ?_
      refine X.seqN ?_
      rcases ifS hm with ⟨hc, hm⟩ | ⟨hc, hm⟩
      · refine E.cT rfl hc ?_
        refine E.seq ?_
        refine E.reg ?_
        refine L.as Wt.no rfl rfl ?_
        refine L.nil ?_
        refine X.seqN ?_
        refine E.ret ?_
        refine X.seqR ?_
        obtain rfl := Option.some.inj hm
        exact X.rt (.inl rfl) Try.results10 (Rs.tmp rfl Rs.nil) rfl ⟨_, (s23).ren N (fun _ => 0), rfl, rfl, m0.ren hNb, rfl⟩
      · refine E.cF rfl hc ?_
        refine E.skip ?_
        refine X.seqN ?_
        refine E.seq ?_
        refine E.seq ?_
        refine E.reg ?_
        refine L.as Wt.no rfl rfl ?_
        refine L.nil ?_
        refine X.seqN ?_
        refine E.block ?_
        obtain ⟨o51, eo51, hm⟩ := bindS hm
        refine E.cut (x := .exit 0) (fun e w => ∃ (s54 : Sig) (u53 : Unit), o51 = .inl u53 ∧ Mv (Up N No) s s54 ∧ e = [] ∧ w = s54.w) ?_ ?_
        · rintro _ _ ⟨s54, u53, rfl, m0, rfl, rfl⟩
          dsimp only at hm
          refine X.blkE ?_
          refine X.seqN ?_
          refine E.seq ?_
          refine E.reg ?_
          refine L.as Wt.no rfl rfl ?_
          refine L.nil ?_
          refine X.seqN ?_
          refine E.ret ?_
          obtain rfl := Option.some.inj hm
          exact X.rt (.inl rfl) Try.results10 (Rs.tmp rfl Rs.nil) rfl ⟨_, (s54).ren N (fun _ => 0), rfl, rfl, m0.ren hNb, rfl⟩
        intro K55
        refine E.cut (x := .ret) (fun e w => ∃ (s57 : Sig) (u56 : Unit), o51 = .inr (u56) ∧ Mv (Up N No) s s57 ∧ e = [(2, .bool false)] ∧ w = s57.w) ?_ ?_
        · rintro _ _ ⟨s57, u56, rfl, m0, rfl, rfl⟩
          dsimp only at hm
          refine X.blkR ?_
          refine X.seqR ?_
          obtain rfl := Option.some.inj hm
          exact X.rt (.inl rfl) Try.results10 (Rs.tmp rfl Rs.nil) rfl ⟨_, (s57).ren N (fun _ => 0), rfl, rfl, m0.ren hNb, rfl⟩
        intro K58
        refine E.iter (fun (st51 : Int) (e : List (Nat × Value)) (w : World) => ∃ (s52 : Sig), Mv (Up N No) s s52 ∧ RdL (rL (rK .i64)) s52 a25 c25 r22 ∧ RdL (rL (rK .i64)) s52 a21 c21 r18.1 ∧ e = [(7, .int .i64 st51), (6, .slice a25 r22.length c25), (4, .slice a21 r18.1.length c21)] ∧ w = s52.w) eo51 ⟨s23, m0, h25, h21, rfl, rfl⟩ (Sub.cons rfl (Sub.cons rfl (Sub.cons rfl Sub.nil))) ?_
        rintro st51 res51 hm ih51 ho51 _ _ ⟨s52, m0, h25, h21, rfl, rfl⟩
        unfold m_overseerlaw04_ReachComponents_l1 at hm
        refine E.seq ?_
        refine E.seq ?_
        refine E.reg ?_
        refine L.mv Wt.no rfl rfl ?_
        refine L.mv Wt.no rfl rfl ?_
        refine L.len sl65 Wt.no rfl rfl ?_
        refine L.bi Wt.no rfl rfl rfl rfl ?_
        refine L.nil ?_
        refine X.seqN ?_
        rcases ifS hm with ⟨hc, hm⟩ | ⟨hc, hm⟩
        · refine E.cT rfl hc ?_
          refine E.skip ?_
          refine X.seqN ?_
          refine E.seq ?_
          refine E.block ?_
          refine E.seq ?_
          obtain ⟨x62, ex62, hm⟩ := bindS hm
          obtain ⟨x70, ex70, hm⟩ := bindS hm
          obtain ⟨r76, er76, hm⟩ := bindS hm
          refine E.draw [[], [], [0, 1], [0, 1, 2], [], [], [4, 5], [4, 5, 6], [0, 1, 2, 3, 4, 5, 6, 7], [0, 1, 2, 3, 4, 5, 6, 7, 8]] (fun D e sx => Mv No s52 sx ∧ Sub [(7, .int .i64 st51), (6, .slice a25 r22.length c25), (4, .slice a21 r18.1.length c21)] e ∧ AllP [D 0 = true → (Env.get e 34 = some (.slice a21 r18.1.length c21)), D 1 = true → (Env.get e 35 = some (.int .i64 st51)), D 2 = true → (∃ (b63 : Nat) (o63 : Nat) (a64 : Option Addr) (c64 : Nat), Env.get e 36 = some (.pointer (some ⟨b63, o63, none⟩)) ∧ Mem sx 0 b63 o63 [.slice a64 x62.length c64] ∧ RdL (rK .i64) sx a64 c64 x62), D 3 = true → (∃ (a66 : Option Addr) (c66 : Nat), Env.get e 37 = some (.slice a66 x62.length c66) ∧ RdL (rK .i64) sx a66 c66 x62), D 4 = true → (Env.get e 38 = some (.slice a25 r22.length c25)), D 5 = true → (Env.get e 39 = some (.int .i64 st51)), D 6 = true → (∃ (b71 : Nat) (o71 : Nat) (a72 : Option Addr) (c72 : Nat), Env.get e 40 = some (.pointer (some ⟨b71, o71, none⟩)) ∧ Mem sx 0 b71 o71 [.slice a72 x70.length c72] ∧ RdL (rK .i64) sx a72 c72 x70), D 7 = true → (∃ (a74 : Option Addr) (c74 : Nat), Env.get e 41 = some (.slice a74 x70.length c74) ∧ RdL (rK .i64) sx a74 c74 x70), D 8 = true → (Env.get e 42 = some (.bool r76)), D 9 = true → (Env.get e 43 = some (.bool (!r76)))]) (by kernel_rfl) (by kernel_rfl) (by kernel_rfl) ?_ ?_ ?_
          · intro sz mz
            exact ⟨mz, (Sub.cons rfl (Sub.cons rfl (Sub.cons rfl Sub.nil))), nofun, nofun, nofun, nofun, nofun, nofun, nofun, nofun, nofun, nofun, trivial⟩
          · refine ⟨?_, ?_, ?_, ?_, ?_, ?_, ?_, ?_, ?_, ?_, trivial⟩
            · rintro D e s59 ⟨im, ib, i⟩ hk hf ha
              have kn : Kn e [(4, .slice a21 r18.1.length c21)] := ⟨(ib 4 _ rfl), trivial⟩
              refine L.kns _ kn ?_
              refine L.mv Wt.no rfl rfl ?_
              refine L.nil ?_
              exact X.dk kn ⟨im, Sub.fresh ib rfl, i.u 0 (fun _ => rfl)⟩
            · rintro D e s60 ⟨im, ib, i⟩ hk hf ha
              have kn : Kn e [(7, .int .i64 st51)] := ⟨(ib 7 _ rfl), trivial⟩
              refine L.kns _ kn ?_
              refine L.mv Wt.no rfl rfl ?_
              refine L.nil ?_
              exact X.dk kn ⟨im, Sub.fresh ib rfl, i.u 1 (fun _ => rfl)⟩
            · rintro D e s61 ⟨im, ib, i⟩ hk hf ha
              have g0_ := (i.p 0) (ha.at 0 rfl)
              have g1_ := (i.p 1) (ha.at 1 rfl)
              have h21 := h21.mono (im.le no_No)
              have kn : Kn e [(34, .slice a21 r18.1.length c21), (35, .int .i64 st51)] := ⟨g0_, g1_, trivial⟩
              refine L.kns _ kn ?_
              refine L.ix (r := (rL (rK .i64))) sl65 h21 Wt.no rfl rfl ex62 rfl ?_
              rintro b63 o63 cc63 me63 rd63
              obtain ⟨a64, c64, rfl, h64⟩ := rd63
              refine L.nil ?_
              exact X.dk kn ⟨im, Sub.fresh ib rfl, i.u 2 (fun _ => ⟨b63, o63, a64, c64, rfl, me63, h64⟩)⟩
            · rintro D e s65 ⟨im, ib, i⟩ hk hf ha
              obtain ⟨b63, o63, a64, c64, g2_, me63, h64⟩ := (i.p 2) (ha.at 2 rfl)
              have kn : Kn e [(36, .pointer (some ⟨b63, o63, none⟩))] := ⟨g2_, trivial⟩
              refine L.kns _ kn ?_
              refine L.ld (j := 0) me63 nag28 Wt.no rfl rfl rfl rfl ?_
              obtain ⟨a66, c66, ea66, ec66, h66⟩ : ∃ a c, a = a64 ∧ c = c64 ∧ RdL (rK .i64) s65 a c x62 := ⟨_, _, rfl, rfl, h64⟩
              subst ea66 ec66
              refine L.nil ?_
              exact X.dk kn ⟨im, Sub.fresh ib rfl, i.u 3 (fun _ => ⟨a66, c66, rfl, h66⟩)⟩
            · rintro D e s67 ⟨im, ib, i⟩ hk hf ha
              have kn : Kn e [(6, .slice a25 r22.length c25)] := ⟨(ib 6 _ rfl), trivial⟩
              refine L.kns _ kn ?_
              refine L.mv Wt.no rfl rfl ?_
              refine L.nil ?_
              exact X.dk kn ⟨im, Sub.fresh ib rfl, i.u 4 (fun _ => rfl)⟩
            · rintro D e s68 ⟨im, ib, i⟩ hk hf ha
              have kn : Kn e [(7, .int .i64 st51)] := ⟨(ib 7 _ rfl), trivial⟩
              refine L.kns _ kn ?_
              refine L.mv Wt.no rfl rfl ?_
              refine L.nil ?_
              exact X.dk kn ⟨im, Sub.fresh ib rfl, i.u 5 (fun _ => rfl)⟩
            · rintro D e s69 ⟨im, ib, i⟩ hk hf ha
              have g4_ := (i.p 4) (ha.at 4 rfl)
              have g5_ := (i.p 5) (ha.at 5 rfl)
              have h25 := h25.mono (im.le no_No)
              have kn : Kn e [(38, .slice a25 r22.length c25), (39, .int .i64 st51)] := ⟨g4_, g5_, trivial⟩
              refine L.kns _ kn ?_
              refine L.ix (r := (rL (rK .i64))) sl65 h25 Wt.no rfl rfl ex70 rfl ?_
              rintro b71 o71 cc71 me71 rd71
              obtain ⟨a72, c72, rfl, h72⟩ := rd71
              refine L.nil ?_
              exact X.dk kn ⟨im, Sub.fresh ib rfl, i.u 6 (fun _ => ⟨b71, o71, a72, c72, rfl, me71, h72⟩)⟩
            · rintro D e s73 ⟨im, ib, i⟩ hk hf ha
              obtain ⟨b71, o71, a72, c72, g6_, me71, h72⟩ := (i.p 6) (ha.at 6 rfl)
              have kn : Kn e [(40, .pointer (some ⟨b71, o71, none⟩))] := ⟨g6_, trivial⟩
              refine L.kns _ kn ?_
              refine L.ld (j := 0) me71 nag28 Wt.no rfl rfl rfl rfl ?_
              obtain ⟨a74, c74, ea74, ec74, h74⟩ : ∃ a c, a = a72 ∧ c = c72 ∧ RdL (rK .i64) s73 a c x70 := ⟨_, _, rfl, rfl, h72⟩
              subst ea74 ec74
              refine L.nil ?_
              exact X.dk kn ⟨im, Sub.fresh ib rfl, i.u 7 (fun _ => ⟨a74, c74, rfl, h74⟩)⟩
            · rintro D e s75 ⟨im, ib, i⟩ hk hf ha
              obtain ⟨a66, c66, g3_, h66⟩ := (i.p 3) (ha.at 3 rfl)
              obtain ⟨a74, c74, g7_, h74⟩ := (i.p 7) (ha.at 7 rfl)
              have kn : Kn e [(37, .slice a66 x62.length c66), (41, .slice a74 x70.length c74)] := ⟨g3_, g7_, trivial⟩
              refine L.kns _ kn ?_
              refine L.ca (vs := [.slice a66 x62.length c66, .slice a74 x70.length c74]) cf19 rfl rfl Wt.no rfl (m_overseerlaw04_same_c (s := s75) (p0 := x62) (p1 := x70) h66 h74 er76) rfl ?_
              rintro _ s77 m78 rfl
              refine L.nil ?_
              exact X.dk kn ⟨im.trans m78.no, Sub.fresh ib rfl, ((((i.u 2 (fun z => let ⟨b63, o63, a64, c64, q, me63, h64⟩ := (i.p 2) z; ⟨b63, o63, a64, c64, q, (me63.mv m78 no_No), (h64.mono (m78.le no_No))⟩)).u 3 (fun z => let ⟨a66, c66, q, h66⟩ := (i.p 3) z; ⟨a66, c66, q, (h66.mono (m78.le no_No))⟩)).u 6 (fun z => let ⟨b71, o71, a72, c72, q, me71, h72⟩ := (i.p 6) z; ⟨b71, o71, a72, c72, q, (me71.mv m78 no_No), (h72.mono (m78.le no_No))⟩)).u 7 (fun z => let ⟨a74, c74, q, h74⟩ := (i.p 7) z; ⟨a74, c74, q, (h74.mono (m78.le no_No))⟩)).u 8 (fun _ => rfl)⟩
            · rintro D e s79 ⟨im, ib, i⟩ hk hf ha
              have g8_ := (i.p 8) (ha.at 8 rfl)
              have kn : Kn e [(42, .bool r76)] := ⟨g8_, trivial⟩
              refine L.kns _ kn ?_
              refine L.not Wt.no rfl rfl ?_
              refine L.nil ?_
              exact X.dk kn ⟨im, Sub.fresh ib rfl, i.u 9 (fun _ => rfl)⟩
          · rintro D e s80 hD ⟨im, ib, i⟩
            have g9_ := (i.p 9) (hD 9 rfl)
            have h25 := h25.mono (im.le no_No)
            have h21 := h21.mono (im.le no_No)
            have m0 := m0.trans im.no
            refine X.sub (e' := [(43, .bool (!r76)), (7, .int .i64 st51), (6, .slice a25 r22.length c25), (4, .slice a21 r18.1.length c21)]) ?_ (Sub.cons g9_ (Sub.cons (ib 7 _ rfl) (Sub.cons (ib 6 _ rfl) (Sub.cons (ib 4 _ rfl) Sub.nil))))
            refine X.seqN ?_
            rcases ifS hm with ⟨hc, hm⟩ | ⟨hc, hm⟩
            · refine E.cT rfl hc ?_
              refine E.seq ?_
              refine E.reg ?_
              refine L.as Wt.no rfl rfl ?_
              refine L.nil ?_
              refine X.seqN ?_
              refine E.ret ?_
              refine X.blkR ?_
              refine X.seqR ?_
              refine X.seqR ?_
              have hx := ho51 _ (Option.some.inj hm).symm
              exact X.sub (K58 _ _ ⟨s80, (), hx.symm, m0, rfl, rfl⟩) (Sub.cons rfl Sub.nil)
            · refine E.cF rfl hc ?_
              refine E.skip ?_
              refine X.blkN ?_
              refine X.seqN ?_
              refine E.reg ?_
              refine L.mv Wt.no rfl rfl ?_
              refine L.bi Wt.no rfl rfl rfl rfl ?_
              refine L.as Wt.no rfl rfl ?_
              refine L.nil ?_
              exact X.sub (ih51 _ (Option.some.inj hm).symm _ _ ⟨s80, m0, h25, h21, rfl, rfl⟩) (Sub.cons rfl (Sub.cons rfl (Sub.cons rfl Sub.nil)))
        · refine E.cF rfl hc ?_
          refine E.exit ?_
          refine X.seqX ?_
          refine X.seqX ?_
          have hx := ho51 _ (Option.some.inj hm).symm
          exact X.sub (K55 _ _ ⟨s52, (), hx.symm, m0, rfl, rfl⟩) Sub.nil
    · intro J81
      rcases Bool.eq_false_or_eq_true (r18.2 != 0) with hc | hc
      · refine L.know (d := 21) rfl hc ?_
        refine L.skip rfl rfl rfl rfl ?_
        refine L.skip rfl rfl rfl rfl ?_
        refine L.skip rfl rfl rfl rfl ?_
        refine L.skip rfl rfl rfl rfl ?_
        refine L.skip rfl rfl rfl rfl ?_
        refine L.pkT Wt.no rfl rfl rfl rfl ?_
        exact L.sub (Sub.cons rfl (Sub.cons rfl (Sub.cons rfl Sub.nil))) (J81 _ _ ⟨true, (orT hc).symm, rfl, rfl⟩)
      · refine L.know (d := 21) rfl hc ?_
        refine L.mv (Wt.mk rfl rfl) rfl rfl ?_
        refine L.len sl65 (Wt.mk rfl rfl) rfl rfl ?_
        refine L.mv (Wt.mk rfl rfl) rfl rfl ?_
        refine L.len sl65 (Wt.mk rfl rfl) rfl rfl ?_
        refine L.bi (Wt.mk rfl rfl) rfl rfl rfl rfl ?_
        refine L.pkF Wt.no rfl rfl rfl rfl ?_
        exact L.sub (Sub.cons rfl (Sub.cons rfl (Sub.cons rfl Sub.nil))) (J81 _ _ ⟨((r18.1.length : Int) != (r22.length : Int)), (orF hc).symm, rfl, rfl⟩)

end Go.Proofs.Ythchkddhibhenaa

namespace Go.Proofs.Ythchkddhibhenaa

/-- The rank of a word: words in shortlex order have rising ranks. -/
def wval (u : List Int) : Int := u.foldl (fun acc e => 33 * acc + e + 1) 0
theorem wval_snoc (u : List Int) (e : Int) : wval (u ++ [e]) = 33 * wval u + e + 1 := by simp [wval, List.foldl_append]
def Evs (u : List Int) : Prop := ∀ e ∈ u, 0 ≤ e ∧ e < 32
theorem Evs.nil : Evs [] := fun e h => by cases h
theorem Evs.snoc {u : List Int} {e : Int} (h : Evs u) (h0 : 0 ≤ e) (h1 : e < 32) : Evs (u ++ [e]) := by
  intro x hx
  rcases List.mem_append.1 hx with h2 | h2
  · exact h x h2
  · rw [List.mem_singleton.1 h2]; exact ⟨h0, h1⟩
theorem Evs.of_snoc {u : List Int} {e : Int} (h : Evs (u ++ [e])) : Evs u ∧ 0 ≤ e ∧ e < 32 :=
  ⟨fun x hx => h x (List.mem_append_left _ hx), h e (by simp)⟩
/-- Induction at the end of a list. -/
theorem snoc_ind {α : Type} {P : List α → Prop} (h0 : P []) (h1 : ∀ u e, P u → P (u ++ [e])) (u : List α) : P u := by
  have h2 : ∀ n (u : List α), u.length = n → P u := by
    intro n
    induction n with
    | zero => intro u hu; rw [List.eq_nil_of_length_eq_zero hu]; exact h0
    | succ n ih =>
      intro u hu
      rcases List.eq_nil_or_concat u with rfl | ⟨l, b, rfl⟩
      · cases hu
      · have hl : l.length = n := by simpa using hu
        simpa using h1 l b (ih l hl)
  exact h2 _ u rfl
theorem wval_nonneg (u : List Int) : Evs u → 0 ≤ wval u := by
  refine snoc_ind (P := fun u => Evs u → 0 ≤ wval u) (fun _ => Int.le_refl 0) (fun u e ih h => ?_) u
  have h1 := h.of_snoc
  have := ih h1.1
  rw [wval_snoc]; omega
/-- A word leads from s to t. -/
def Leads (es : List Ed) (perm : Ed → Bool) (s : Int) : List Int → Int → Prop
  | [], t => s = t
  | e :: u, t => ∃ x ∈ es, x.f = s ∧ x.e = e ∧ perm x = true ∧ Leads es perm x.t u t
theorem Leads.snoc {es : List Ed} {perm : Ed → Bool} : ∀ {u : List Int} {s t : Int}, Leads es perm s u t → ∀ {x : Ed}, x ∈ es → x.f = t → perm x = true → Leads es perm s (u ++ [x.e]) x.t
  | [], s, t, h, x, hx, hf, hp => ⟨x, hx, by rw [hf]; exact h.symm, rfl, hp, rfl⟩
  | e :: u, s, t, ⟨y, hy, h1, h2, h3, h4⟩, x, hx, hf, hp => ⟨y, hy, h1, h2, h3, h4.snoc hx hf hp⟩
theorem Leads.of_snoc {es : List Ed} {perm : Ed → Bool} {e : Int} : ∀ {u : List Int} {s t : Int}, Leads es perm s (u ++ [e]) t → ∃ x ∈ es, Leads es perm s u x.f ∧ x.e = e ∧ x.t = t ∧ perm x = true
  | [], s, t, ⟨y, hy, h1, h2, h3, h4⟩ => ⟨y, hy, h1.symm, h2, h4, h3⟩
  | a :: u, s, t, ⟨y, hy, h1, h2, h3, h4⟩ => by
    obtain ⟨x, hx, g1, g2, g3, g4⟩ := Leads.of_snoc (u := u) h4
    exact ⟨x, hx, ⟨y, hy, h1, h2, h3, g1⟩, g2, g3, g4⟩
/-- The events of the edges. -/
def EvEs (es : List Ed) : Prop := ∀ x ∈ es, 0 ≤ x.e ∧ x.e < 32
theorem Leads.evs {es : List Ed} {perm : Ed → Bool} (he : EvEs es) : ∀ {u : List Int} {s t : Int}, Leads es perm s u t → Evs u
  | [], _, _, _ => Evs.nil
  | e :: u, s, t, ⟨y, hy, h1, h2, h3, h4⟩ => by
    intro z hz
    rcases List.mem_cons.1 hz with rfl | hz
    · rw [← h2]; exact he y hy
    · exact Leads.evs he h4 z hz

/-- What a search has found so far: words with rising ranks, none above b. -/
structure Found (es : List Ed) (perm : Ed → Bool) (s : Int) (L : List (List Int × Int)) (b : Int) : Prop where
  lead : ∀ r ∈ L, Leads es perm s r.1 r.2
  sorted : ∀ j k : Nat, j < k → ∀ r r' : List Int × Int, L[j]? = some r → L[k]? = some r' → wval r.1 < wval r'.1
  bd : ∀ r ∈ L, wval r.1 ≤ b
/-- The edges of all places below i have been followed. -/
def Followed (es : List Ed) (perm : Ed → Bool) (L : List (List Int × Int)) (m i : Nat) : Prop :=
  ∀ j : Nat, j < i → ∀ r : List Int × Int, L[j]? = some r → ∀ x ∈ es, x.f = r.2 → perm x = true → ∃ k : Nat, m ≤ k ∧ ∃ r' : List Int × Int, L[k]? = some r' ∧ r'.2 = x.t ∧ wval r'.1 ≤ 33 * wval r.1 + x.e + 1

section
variable {es : List Ed} {perm : Ed → Bool} {s : Int} {L : List (List Int × Int)} {b : Int} {m i : Nat}
theorem Found.push (h : Found es perm s L b) {w : List Int} {t : Int} (hl : Leads es perm s w t) (hb : b < wval w) : Found es perm s (L ++ [(w, t)]) (wval w) := by
  refine ⟨fun r hr => ?_, fun j k hjk r r' hj hk => ?_, fun r hr => ?_⟩
  · rcases List.mem_append.1 hr with h1 | h1
    · exact h.lead r h1
    · rw [List.mem_singleton.1 h1]; exact hl
  · by_cases hk2 : k < L.length
    · rw [List.getElem?_append_left hk2] at hk
      rw [List.getElem?_append_left (by omega)] at hj
      exact h.sorted j k hjk r r' hj hk
    · rw [List.getElem?_append_right (by omega)] at hk
      have h3 : k - L.length = 0 := by
        by_cases h4 : k - L.length = 0
        · exact h4
        · rw [List.getElem?_eq_none (by simp; omega)] at hk; cases hk
      rw [h3] at hk
      simp only [List.getElem?_cons_zero, Option.some.injEq] at hk
      subst hk
      rw [List.getElem?_append_left (by omega)] at hj
      have := h.bd r (List.mem_of_getElem? hj)
      dsimp only; omega
  · rcases List.mem_append.1 hr with h1 | h1
    · have := h.bd r h1; omega
    · rw [List.mem_singleton.1 h1]; exact Int.le_refl _
theorem Found.mono (h : Found es perm s L b) {j k : Nat} (hjk : j ≤ k) {r r' : List Int × Int} (hj : L[j]? = some r) (hk : L[k]? = some r') : wval r.1 ≤ wval r'.1 := by
  by_cases e : j = k
  · subst e; rw [hj] at hk; cases hk; exact Int.le_refl _
  · exact Int.le_of_lt (h.sorted j k (by omega) r r' hj hk)
theorem Followed.append (h : Followed es perm L m i) (hi : i ≤ L.length) (M : List (List Int × Int)) : Followed es perm (L ++ M) m i := by
  intro j hj r hr x hx hf hp
  rw [List.getElem?_append_left (by omega)] at hr
  obtain ⟨k, hk, r', hr', h1, h2⟩ := h j hj r hr x hx hf hp
  refine ⟨k, hk, r', ?_, h1, h2⟩
  rw [List.getElem?_append_left (by have := (List.getElem?_eq_some_iff.1 hr').1; omega)]
  exact hr'
/-- Where each word leads that has been tried. -/
theorem Followed.place (he : EvEs es) (hF : Found es perm s L b) (hC : Followed es perm L m i) (h0 : L[0]? = some ([], s)) (u : List Int) :
    ∀ t, Leads es perm s u t → (∃ (k : Nat) (r : List Int × Int), (u = [] ∨ m ≤ k) ∧ L[k]? = some r ∧ r.2 = t ∧ wval r.1 ≤ wval u) ∨ (∃ r : List Int × Int, L[i]? = some r ∧ wval r.1 < wval u) ∨ L.length ≤ i := by
  induction u using snoc_ind with
  | h0 =>
    intro t ht
    refine .inl ⟨0, _, .inl rfl, h0, ht, Int.le_refl _⟩
  | h1 u e ih =>
    intro t ht
    by_cases hil : L.length ≤ i
    · exact .inr (.inr hil)
    obtain ⟨x, hx, g1, rfl, rfl, g4⟩ := ht.of_snoc
    have hxe := he x hx
    have hi : L[i]? = some L[i] := List.getElem?_eq_getElem (by omega)
    have hu := wval_nonneg u (g1.evs he)
    rcases ih x.f g1 with ⟨k, r, hk0, hk, hr, hle⟩ | ⟨r, hk, hle⟩ | h3
    · by_cases hki : k < i
      · obtain ⟨k', hk', r', h1, h2, h3⟩ := hC k hki r hk x hx hr.symm g4
        refine .inl ⟨k', r', .inr hk', h1, h2, ?_⟩
        rw [wval_snoc]; omega
      · refine .inr (.inl ⟨_, hi, ?_⟩)
        have := hF.mono (show i ≤ k by omega) hi hk
        rw [wval_snoc]; omega
    · refine .inr (.inl ⟨r, hk, ?_⟩)
      rw [wval_snoc]; omega
    · exact .inr (.inr h3)
/-- The same where all have been followed. -/
theorem Followed.all (_he : EvEs es) (hC : Followed es perm L m L.length) (h0 : L[0]? = some ([], s)) (u : List Int) :
    ∀ t, Leads es perm s u t → ∃ (k : Nat) (r : List Int × Int), (u = [] ∨ m ≤ k) ∧ L[k]? = some r ∧ r.2 = t ∧ wval r.1 ≤ wval u := by
  induction u using snoc_ind with
  | h0 =>
    intro t ht
    exact ⟨0, _, .inl rfl, h0, ht, Int.le_refl _⟩
  | h1 u e ih =>
    intro t ht
    obtain ⟨x, hx, g1, rfl, rfl, g4⟩ := ht.of_snoc
    obtain ⟨k, r, hk0, hk, hr, hle⟩ := ih x.f g1
    obtain ⟨k', hk', r', h1, h2, h3⟩ := hC k (List.getElem?_eq_some_iff.1 hk).1 r hk x hx hr.symm g4
    refine ⟨k', r', .inr hk', h1, h2, ?_⟩
    rw [wval_snoc]; omega

/-- The least word that leads to a state that is wanted, of at least so many events. -/
structure Least (es : List Ed) (perm : Ed → Bool) (want : Int → Bool) (s : Int) (least : Nat) (w : List Int) : Prop where
  ev : Evs w
  len : least ≤ w.length
  leads : ∃ t, Leads es perm s w t ∧ want t = true
  le : ∀ u t, Leads es perm s u t → want t = true → least ≤ u.length → wval w ≤ wval u
/-- A search that looks at a state when its turn comes. -/
theorem Found.least {want : Int → Bool} (he : EvEs es) (hF : Found es perm s L b) (hC : Followed es perm L 0 i) (h0 : L[0]? = some ([], s)) {r : List Int × Int} (hi : L[i]? = some r) (hw : want r.2 = true)
    (hn : ∀ j : Nat, j < i → ∀ r : List Int × Int, L[j]? = some r → want r.2 = false) : Least es perm want s 0 r.1 := by
  have hl := hF.lead r (List.mem_of_getElem? hi)
  refine ⟨hl.evs he, Nat.zero_le _, ⟨_, hl, hw⟩, fun u t hu ht _ => ?_⟩
  rcases hC.place he hF h0 u t hu with ⟨k, r', hk0, hk, hr, hle⟩ | ⟨r', hk, hle⟩ | h3
  · by_cases hki : k < i
    · have := hn k hki r' hk
      rw [hr, ht] at this; cases this
    · have := hF.mono (show i ≤ k by omega) hi hk; omega
  · rw [hi] at hk; cases hk; omega
  · have := (List.getElem?_eq_some_iff.1 hi).1; omega
theorem Followed.none {want : Int → Bool} (he : EvEs es) (hC : Followed es perm L 0 L.length) (h0 : L[0]? = some ([], s)) (hn : ∀ (j : Nat) (r : List Int × Int), L[j]? = some r → want r.2 = false) :
    ∀ u t, Leads es perm s u t → want t = false := by
  intro u t hu
  obtain ⟨k, r, _, hk, rfl, _⟩ := hC.all he h0 u t hu
  exact hn k r hk
end
end Go.Proofs.Ythchkddhibhenaa

namespace Go.Proofs.Ythchkddhibhenaa

/-- One edge stands before another. -/
def edLt (x y : Ed) : Prop := x.f < y.f ∨ (x.f = y.f ∧ x.e < y.e)
def Sorted (es : List Ed) : Prop := es.Pairwise edLt
theorem drop_count : ∀ (es : List Ed), es.Pairwise (fun x y => x.f ≤ y.f) → ∀ s : Int, es.drop (es.countP fun x => decide (x.f < s)) = es.filter fun x => !decide (x.f < s)
  | [], _, _ => rfl
  | x :: l, h, s => by
    obtain ⟨h1, h2⟩ := List.pairwise_cons.1 h
    by_cases hx : x.f < s
    · rw [List.countP_cons_of_pos (by simpa using hx), List.drop_succ_cons, drop_count l h2 s, List.filter_cons_of_neg (by simpa using hx)]
    · have h3 : ∀ y ∈ l, ¬ y.f < s := fun y hy => by have := h1 y hy; omega
      have h4 : l.countP (fun x => decide (x.f < s)) = 0 := by
        rw [List.countP_eq_zero]; intro y hy; simpa using h3 y hy
      rw [List.countP_cons_of_neg (by simpa using hx), h4, List.drop_zero]
      symm
      rw [List.filter_eq_self]
      intro y hy
      rcases List.mem_cons.1 hy with rfl | hy
      · simpa using hx
      · simpa using h3 y hy
theorem take_count : ∀ (es : List Ed), es.Pairwise (fun x y => x.f ≤ y.f) → ∀ s : Int, es.take (es.countP fun x => decide (x.f < s)) = es.filter fun x => decide (x.f < s)
  | [], _, _ => rfl
  | x :: l, h, s => by
    obtain ⟨h1, h2⟩ := List.pairwise_cons.1 h
    by_cases hx : x.f < s
    · rw [List.countP_cons_of_pos (by simpa using hx), List.take_succ_cons, take_count l h2 s, List.filter_cons_of_pos (by simpa using hx)]
    · have h3 : ∀ y ∈ l, ¬ y.f < s := fun y hy => by have := h1 y hy; omega
      have h4 : l.countP (fun x => decide (x.f < s)) = 0 := by
        rw [List.countP_eq_zero]; intro y hy; simpa using h3 y hy
      rw [List.countP_cons_of_neg (by simpa using hx), h4, List.take_zero]
      symm
      rw [List.filter_eq_nil_iff]
      intro y hy
      rcases List.mem_cons.1 hy with rfl | hy
      · simpa using hx
      · simpa using h3 y hy
theorem Sorted.le {es : List Ed} (h : Sorted es) : es.Pairwise (fun x y => x.f ≤ y.f) := List.Pairwise.imp (fun {x y} (h : edLt x y) => by unfold edLt at h; omega) h
/-- The edges of a state, as a filter. -/
theorem subOf_eq {es : List Ed} (h : Sorted es) (s : Int) : subOf es s = es.filter fun x => decide (x.f = s) := by
  have h1 := take_count es h.le (s + 1)
  have h2 : (es.filter fun x => decide (x.f < s + 1)).Pairwise (fun x y => x.f ≤ y.f) := h.le.filter _
  have h3 := drop_count _ h2 s
  have h4 : (es.filter fun x => decide (x.f < s + 1)).countP (fun x => decide (x.f < s)) = es.countP fun x => decide (x.f < s) := by
    rw [List.countP_filter]
    apply List.countP_congr
    intro x _
    simp only [Bool.and_eq_true, decide_eq_true_eq]
    omega
  rw [h4, ← h1, List.drop_take] at h3
  rw [subOf, edSub, fstN, fstN, h3, h1, List.filter_filter]
  apply List.filter_congr
  intro x _
  rw [Bool.eq_iff_iff]
  simp only [Bool.and_eq_true, Bool.not_eq_true', decide_eq_true_eq, decide_eq_false_iff_not]
  omega

theorem back_push {steps : List St} {y : St} (hp : ∀ j (h : j < steps.length), -1 ≤ steps[j].p ∧ steps[j].p < j) : ∀ (f k : Nat), k < steps.length → back (steps ++ [y]) f k = back steps f k
  | 0, _, _ => rfl
  | f + 1, k, hk => by
    rw [back, back, Int.toNat_natCast, List.getElem?_append_left hk, List.getElem?_eq_getElem hk]
    dsimp only
    split
    · rename_i h0
      have := hp k hk
      obtain ⟨p, hpe⟩ := Int.eq_ofNat_of_zero_le h0
      rw [hpe] at this ⊢
      rw [back_push hp f p (by omega)]
    · rfl

/-- The steps of the search and the words that they stand for. -/
structure PW (es : List Ed) (perm : Ed → Bool) (from_ n i : Nat) (seen : List Bool) (steps : List St) (L : List (List Int × Int)) (b : Int) : Prop where
  pok : POk n seen steps
  len : steps.length = L.length
  st : ∀ (k : Nat) (r : List Int × Int), L[k]? = some r → ∃ x, steps[k]? = some x ∧ x.s = r.2 ∧ ∀ f, k < f → back steps f k = r.1.reverse
  seen : ∀ t : Nat, t < n → seen[t]? = some true → ∃ (k : Nat) (r : List Int × Int), L[k]? = some r ∧ r.2 = t
  found : Found es perm from_ L b
  follow : Followed es perm L 0 i
  zero : L[0]? = some ([], (from_ : Int))
  lt : i ≤ L.length

/-- The edges of one state are followed. -/
theorem PW.fold {es : List Ed} {perm : Ed → Bool} {from_ n i : Nat} (hes : ∀ x ∈ es, 0 ≤ x.t ∧ x.t < (n : Int)) (he : EvEs es) (r : List Int × Int) : ∀ (l done : List Ed) {seen : List Bool} {steps : List St} {L : List (List Int × Int)} {b : Int},
    PW es perm from_ n i seen steps L b → L[i]? = some r → es.filter (fun x => decide (x.f = r.2)) = done ++ l → l.Pairwise (fun x y => x.e < y.e) → (∀ x ∈ l, b < 33 * wval r.1 + x.e + 1) → b ≤ 33 * wval r.1 + 32 →
    (∀ x ∈ done, perm x = true → ∃ (k : Nat) (r' : List Int × Int), L[k]? = some r' ∧ r'.2 = x.t ∧ wval r'.1 ≤ 33 * wval r.1 + x.e + 1) →
    ∃ L' b', PW es perm from_ n (i + 1) (l.foldl (pStep perm i) (seen, steps)).1 (l.foldl (pStep perm i) (seen, steps)).2 L' b' ∧ b' ≤ 33 * wval r.1 + 32 ∧ ∃ M, L' = L ++ M
  | [], done, seen, steps, L, b, h, hi, hf, hs, hb, hb2, hd => by
    refine ⟨L, b, ⟨h.pok, h.len, h.st, h.seen, h.found, fun j hj r' hr x hx hxf hp => ?_, h.zero, ?_⟩, hb2, [], (List.append_nil _).symm⟩
    · by_cases hji : j < i
      · exact h.follow j hji r' hr x hx hxf hp
      · obtain rfl : j = i := by omega
        rw [hi] at hr
        cases hr
        have hmem : x ∈ done := by
          have : x ∈ es.filter (fun x => decide (x.f = r.2)) := List.mem_filter.2 ⟨hx, by simpa using hxf⟩
          rw [hf, List.append_nil] at this
          exact this
        obtain ⟨k, r', h1, h2, h3⟩ := hd x hmem hp
        exact ⟨k, Nat.zero_le _, r', h1, h2, h3⟩
    · have := (List.getElem?_eq_some_iff.1 hi).1; omega
  | x :: l, done, seen, steps, L, b, h, hi, hf, hs, hb, hb2, hd => by
    obtain ⟨hs1, hs2⟩ := List.pairwise_cons.1 hs
    have hxm : x ∈ es.filter (fun x => decide (x.f = r.2)) := by rw [hf]; simp
    obtain ⟨hxe, hxf⟩ := List.mem_filter.1 hxm
    have hxf : x.f = r.2 := by simpa using hxf
    have hxt := hes x hxe
    have hxv := he x hxe
    have hxb := hb x (List.mem_cons_self ..)
    have hf' : es.filter (fun x => decide (x.f = r.2)) = (done ++ [x]) ++ l := by rw [hf]; simp
    have hil : i < L.length := (List.getElem?_eq_some_iff.1 hi).1
    rw [List.foldl_cons]
    have hlt : x.t.toNat < seen.length := by rw [h.pok.len]; omega
    have hsv : seen[x.t.toNat]? = some seen[x.t.toNat] := List.getElem?_eq_getElem hlt
    by_cases hc : seen[x.t.toNat]?.getD true = false ∧ perm x = true
    · have hst : pStep perm i (seen, steps) x = (seen.set x.t.toNat true, steps ++ [⟨x.t, i, x.e⟩]) := by unfold pStep; rw [if_pos hc]
      have hsf : seen[x.t.toNat]? = some false := by
        have := hc.1; rw [hsv] at this ⊢; simpa using this
      have hpok := h.pok.push (i := i) (by rw [h.len]; exact hil) x.t x.e hxt.1 hxt.2 hsf
      have hlead : Leads es perm from_ r.1 r.2 := h.found.lead r (List.mem_of_getElem? hi)
      have hF := h.found.push (hlead.snoc hxe hxf hc.2) (by rw [wval_snoc]; omega)
      rw [wval_snoc] at hF
      rw [hst]
      have hnew : PW es perm from_ n i (seen.set x.t.toNat true) (steps ++ [⟨x.t, i, x.e⟩]) (L ++ [(r.1 ++ [x.e], x.t)]) (33 * wval r.1 + x.e + 1) := by
        refine ⟨hpok, by simp [h.len], ?_, ?_, hF, h.follow.append h.lt _, ?_, ?_⟩
        · intro k r' hr'
          by_cases hk : k < L.length
          · rw [List.getElem?_append_left hk] at hr'
            obtain ⟨y, h1, h2, h3⟩ := h.st k r' hr'
            refine ⟨y, by rw [List.getElem?_append_left (by rw [h.len]; exact hk)]; exact h1, h2, fun f hf => ?_⟩
            rw [back_push h.pok.parent f k (by rw [h.len]; exact hk)]
            exact h3 f hf
          · have hkl : k = L.length := by
              have := (List.getElem?_eq_some_iff.1 hr').1; simp at this; omega
            subst hkl
            rw [List.getElem?_append_right (Nat.le_refl _), Nat.sub_self] at hr'
            simp only [List.getElem?_cons_zero, Option.some.injEq] at hr'
            subst hr'
            refine ⟨⟨x.t, i, x.e⟩, by rw [List.getElem?_append_right (by rw [h.len]; exact Nat.le_refl _), h.len, Nat.sub_self]; rfl, rfl, fun f hf => ?_⟩
            obtain ⟨f', rfl⟩ : ∃ f', f = f' + 1 := ⟨f - 1, by omega⟩
            obtain ⟨y, h1, h2, h3⟩ := h.st i r hi
            rw [back, Int.toNat_natCast, List.getElem?_append_right (by rw [h.len]; exact Nat.le_refl _), h.len, Nat.sub_self]
            simp only [List.getElem?_cons_zero]
            rw [if_pos (by omega), back_push h.pok.parent f' i (by rw [h.len]; exact hil), h3 f' (by omega)]
            simp
        · intro t ht hseen
          by_cases htx : x.t.toNat = t
          · exact ⟨L.length, (r.1 ++ [x.e], x.t), by simp, by dsimp only; omega⟩
          · rw [List.getElem?_set_ne htx] at hseen
            obtain ⟨k, r', h1, h2⟩ := h.seen t ht hseen
            exact ⟨k, r', by rw [List.getElem?_append_left (List.getElem?_eq_some_iff.1 h1).1]; exact h1, h2⟩
        · rw [List.getElem?_append_left (by omega)]; exact h.zero
        · have := h.lt; simp; omega
      obtain ⟨L', b', g1, g2, M, g3⟩ := PW.fold hes he r l (done ++ [x]) hnew (by rw [List.getElem?_append_left hil]; exact hi) hf' hs2 (fun y hy => by have := hs1 y hy; omega) (by omega) (fun y hy hp => by
        rcases List.mem_append.1 hy with hy | hy
        · obtain ⟨k, r', h1, h2, h3⟩ := hd y hy hp
          exact ⟨k, r', by rw [List.getElem?_append_left (List.getElem?_eq_some_iff.1 h1).1]; exact h1, h2, h3⟩
        · rw [List.mem_singleton.1 hy]
          exact ⟨L.length, (r.1 ++ [x.e], x.t), by simp, rfl, by rw [wval_snoc]; exact Int.le_refl _⟩)
      exact ⟨L', b', g1, g2, [(r.1 ++ [x.e], x.t)] ++ M, by rw [g3, List.append_assoc]⟩
    · have hst : pStep perm i (seen, steps) x = (seen, steps) := by unfold pStep; rw [if_neg hc]
      rw [hst]
      refine PW.fold hes he r l (done ++ [x]) h hi hf' hs2 (fun y hy => hb y (List.mem_cons_of_mem _ hy)) hb2 (fun y hy hp => ?_)
      rcases List.mem_append.1 hy with hy | hy
      · exact hd y hy hp
      · rw [List.mem_singleton.1 hy] at hp ⊢
        have hst : seen[x.t.toNat]? = some true := by
          rw [hsv] at hc ⊢
          simp only [Option.getD_some] at hc
          cases hb : seen[x.t.toNat] with
          | true => rfl
          | false => exact absurd ⟨hb, hp⟩ hc
        obtain ⟨k, r', h1, h2⟩ := h.seen x.t.toNat (by omega) hst
        refine ⟨k, r', h1, by omega, ?_⟩
        have := h.found.bd r' (List.mem_of_getElem? h1)
        omega

/-- What the search gives. -/
def BfsSays (es : List Ed) (perm : Ed → Bool) (want : Int → Bool) (from_ : Nat) : Option (List St × Nat) → Prop
  | some r => ∃ w, back r.1 (r.2 + 1) r.2 = w.reverse ∧ Least es perm want from_ 0 w
  | none => ∀ u t, Leads es perm from_ u t → want t = false
theorem PW.bfs {es : List Ed} {perm : Ed → Bool} {want : Int → Bool} {from_ n : Nat} (hso : Sorted es) (hes : ∀ x ∈ es, 0 ≤ x.t ∧ x.t < (n : Int)) (he : EvEs es) : ∀ (f i : Nat) {seen : List Bool} {steps : List St} {L : List (List Int × Int)} {b : Int},
    PW es perm from_ n i seen steps L b → n + 1 - i ≤ f → (∀ r, L[i]? = some r → b ≤ 33 * wval r.1) → (∀ j, j < i → ∀ r : List Int × Int, L[j]? = some r → want r.2 = false) →
    BfsSays es perm want from_ (Go.Proofs.Ythchkddhibhenaa.bfs (subOf es) want perm f i seen steps)
  | 0, i, seen, steps, L, b, h, hf, _, _ => by
    have h1 := h.pok.le
    have h2 := h.len
    have h3 := h.lt
    omega
  | f + 1, i, seen, steps, L, b, h, hf, hb, hn => by
    by_cases hi : i < steps.length
    · have hiL : i < L.length := by rw [← h.len]; exact hi
      have hr : L[i]? = some L[i] := List.getElem?_eq_getElem hiL
      obtain ⟨x, h1, h2, h3⟩ := h.st i L[i] hr
      rw [List.getElem?_eq_getElem hi] at h1
      cases h1
      cases hw : want steps[i].s with
      | true =>
        rw [bfs_found hi hw]
        exact ⟨L[i].1, h3 (i + 1) (by omega), h.found.least he h.follow h.zero hr (by rw [← h2]; exact hw) hn⟩
      | false =>
        rw [bfs_next hi hw, subOf_eq hso]
        have hpw : (es.filter fun x => decide (x.f = L[i].2)).Pairwise (fun x y => x.e < y.e) := by
          have h4 : (es.filter fun x => decide (x.f = L[i].2)).Pairwise edLt := List.Pairwise.filter _ hso
          refine List.Pairwise.imp_of_mem ?_ h4
          intro x y hx hy hxy
          have e1 := (List.mem_filter.1 hx).2
          have e2 := (List.mem_filter.1 hy).2
          simp only [decide_eq_true_eq] at e1 e2
          unfold edLt at hxy
          omega
        have hb1 := hb _ hr
        obtain ⟨L', b', g1, g2, M, rfl⟩ := PW.fold hes he L[i] (es.filter fun x => decide (x.f = L[i].2)) [] h hr (by simp) hpw (fun x hx => by have := he x (List.mem_filter.1 hx).1; omega) (by omega) (fun x hx => by cases hx)
        rw [h2]
        refine PW.bfs hso hes he f (i + 1) g1 (by omega) (fun r' hr' => ?_) (fun j hj r' hr' => ?_)
        · have h5 := g1.found.sorted i (i + 1) (by omega) L[i] r' (by rw [List.getElem?_append_left hiL]; exact hr) hr'
          omega
        · by_cases hji : j < i
          · rw [List.getElem?_append_left (by omega)] at hr'
            exact hn j hji r' hr'
          · obtain rfl : j = i := by omega
            rw [List.getElem?_append_left hiL, hr] at hr'
            cases hr'
            rw [← h2]; exact hw
    · rw [bfs_end (by omega)]
      have hil : i = L.length := by have := h.lt; have := h.len; omega
      subst hil
      exact h.follow.none he h.zero (fun j r hr => hn j (List.getElem?_eq_some_iff.1 hr).1 r hr)
end Go.Proofs.Ythchkddhibhenaa

namespace Go.Proofs.Ythchkddhibhenaa

/-- A target is reached by k edges. -/
def ReachIn (es : List Ed) (tg : List Int) : Nat → Int → Prop
  | 0, s => s ∈ tg
  | k + 1, s => ∃ x ∈ es, x.f = s ∧ ReachIn es tg k x.t
/-- What holds of the distances while backward searches. -/
structure BD (es : List Ed) (tg : List Int) (n : Nat) (ds q : List Int) (c : Int) : Prop where
  ok : BOk n ds q
  fit : ∀ i, i < n → 0 ≤ ds.getD i 0 → ∃ k : Nat, ds.getD i 0 = k ∧ ReachIn es tg k i
  top : ∀ i, i < n → ds.getD i 0 ≤ c + 1
  low : ∀ s ∈ q, c ≤ ds.getD s.toNat 0
  srt : q.Pairwise fun s t => ds.getD s.toNat 0 ≤ ds.getD t.toNat 0
  done : ∀ x ∈ es, 0 ≤ ds.getD x.t.toNat 0 → x.t ∈ q ∨ (0 ≤ ds.getD x.f.toNat 0 ∧ ds.getD x.f.toNat 0 ≤ ds.getD x.t.toNat 0 + 1)
  tgt : ∀ s ∈ tg, ds.getD s.toNat 0 = 0
  bnd : ∀ i, i < n → ds.getD i 0 ≤ n - negs ds

section
variable {es : List Ed} {tg : List Int} {n : Nat}
theorem getD_set_at {ds : List Int} {p : Nat} {d : Int} (h : p < ds.length) : (ds.set p d).getD p 0 = d := by
  rw [List.getD_eq_getElem?_getD, List.getElem?_set_self h]; rfl
/-- The state of a search while the edges into s are followed: all but those in l. -/
structure BDs (es : List Ed) (tg : List Int) (n : Nat) (s : Nat) (c : Int) (ds q l : List Int) : Prop where
  ok : BOk n ds q
  at_ : ds.getD s 0 = c
  c0 : 0 ≤ c
  fit : ∀ i, i < n → 0 ≤ ds.getD i 0 → ∃ k : Nat, ds.getD i 0 = k ∧ ReachIn es tg k i
  top : ∀ i, i < n → ds.getD i 0 ≤ c + 1
  low : ∀ s ∈ q, c ≤ ds.getD s.toNat 0
  srt : q.Pairwise fun s t => ds.getD s.toNat 0 ≤ ds.getD t.toNat 0
  done : ∀ x ∈ es, 0 ≤ ds.getD x.t.toNat 0 → x.t ∈ q ∨ (x.t = s ∧ x.f ∈ l) ∨ (0 ≤ ds.getD x.f.toNat 0 ∧ ds.getD x.f.toNat 0 ≤ ds.getD x.t.toNat 0 + 1)
  tgt : ∀ s ∈ tg, ds.getD s.toNat 0 = 0
  bnd : ∀ i, i < n → ds.getD i 0 ≤ n - negs ds
theorem BDs.fold (hes : ∀ x ∈ es, 0 ≤ x.f ∧ x.f < (n : Int) ∧ 0 ≤ x.t ∧ x.t < (n : Int)) (htg : ∀ s ∈ tg, 0 ≤ s ∧ s < (n : Int)) {s : Nat} (hs : s < n) {c : Int} : ∀ (l : List Int) {ds q : List Int}, BDs es tg n s c ds q l → (∀ p ∈ l, ∃ x ∈ es, x.f = p ∧ x.t = s) →
    BDs es tg n s c (l.foldl (bStep s) (ds, q)).1 (l.foldl (bStep s) (ds, q)).2 []
  | [], _, _, h, _ => h
  | p :: l, ds, q, h, hp => by
    rw [List.foldl_cons]
    obtain ⟨x, hx, rfl, hxt⟩ := hp p (List.mem_cons_self ..)
    have hxr := hes x hx
    have hl := h.ok.len
    by_cases hneg : ds.getD x.f.toNat 0 < 0
    · have hst : bStep s (ds, q) x.f = (ds.set x.f.toNat (ds.getD s 0 + 1), q ++ [x.f]) := by unfold bStep; rw [if_pos hneg]
      have hstep := h.ok.step hs (by rw [h.at_]; exact h.c0) x.f hxr.1 hxr.2.1
      rw [hst] at hstep ⊢
      rw [h.at_] at hstep ⊢
      have hne : x.f.toNat ≠ s := by
        intro e; rw [e, h.at_] at hneg; have := h.c0; omega
      have hfl : x.f.toNat < ds.length := by omega
      have hself : (ds.set x.f.toNat (c + 1)).getD x.f.toNat 0 = c + 1 := getD_set_at hfl
      have hother : ∀ i, i ≠ x.f.toNat → (ds.set x.f.toNat (c + 1)).getD i 0 = ds.getD i 0 := fun i hi => getD_set_ne (fun e => hi e.symm)
      have hc0 := h.c0
      obtain ⟨k, hk1, hk2⟩ := h.fit s hs (by rw [h.at_]; exact h.c0)
      rw [h.at_] at hk1
      have hq : ∀ t ∈ q, t.toNat ≠ x.f.toNat := by
        intro t ht e
        have := h.ok.nn t ht
        rw [e] at this; omega
      refine BDs.fold hes htg hs l ⟨hstep.1, by rw [hother s (Ne.symm hne)]; exact h.at_, h.c0, ?_, ?_, ?_, ?_, ?_, ?_, ?_⟩ (fun p hp' => hp p (List.mem_cons_of_mem _ hp'))
      · intro i hi h0
        by_cases e : i = x.f.toNat
        · subst e
          rw [hself]
          refine ⟨k + 1, by omega, x, hx, by omega, ?_⟩
          rw [hxt]; exact hk2
        · rw [hother i e] at h0 ⊢; exact h.fit i hi h0
      · intro i hi
        by_cases e : i = x.f.toNat
        · subst e; rw [hself]; exact Int.le_refl _
        · rw [hother i e]; exact h.top i hi
      · intro t ht
        rcases List.mem_append.1 ht with ht | ht
        · rw [hother _ (hq t ht)]; exact h.low t ht
        · rw [List.mem_singleton.1 ht, hself]; omega
      · rw [List.pairwise_append]
        refine ⟨List.Pairwise.imp_of_mem (fun {a b} ha hb hab => ?_) h.srt, List.pairwise_singleton _ _, fun a ha b hb => ?_⟩
        · rw [hother _ (hq a ha), hother _ (hq b hb)]; exact hab
        · rw [List.mem_singleton.1 hb, hself, hother _ (hq a ha)]
          have h1 := h.ok.qr a ha
          exact h.top a.toNat (by omega)
      · intro y hy h0
        by_cases e : y.t.toNat = x.f.toNat
        · have : y.t = x.f := by have := hes y hy; omega
          exact .inl (by rw [this]; simp)
        · rw [hother _ e] at h0 ⊢
          rcases h.done y hy h0 with h1 | ⟨h1, h2⟩ | ⟨h1, h2⟩
          · exact .inl (List.mem_append_left _ h1)
          · rcases List.mem_cons.1 h2 with h2 | h2
            · refine .inr (.inr ?_)
              rw [h2, hself, h1, Int.toNat_natCast, h.at_]; omega
            · exact .inr (.inl ⟨h1, h2⟩)
          · refine .inr (.inr ?_)
            by_cases e2 : y.f.toNat = x.f.toNat
            · rw [e2] at h1; omega
            · rw [hother _ e2]; exact ⟨h1, h2⟩
      · intro t ht
        have := h.tgt t ht
        by_cases e : t.toNat = x.f.toNat
        · rw [e] at this; omega
        · rw [hother _ e]; exact this
      · intro i hi
        have h9 : negs (ds.set x.f.toNat (c + 1)) + 1 = negs ds := negs_set hfl (by rw [List.getD_eq_getElem?_getD, List.getElem?_eq_getElem hfl] at hneg; exact hneg) (by omega)
        have h8 := h.bnd s hs
        rw [h.at_] at h8
        by_cases e : i = x.f.toNat
        · subst e; rw [hself]; omega
        · rw [hother i e]; have := h.bnd i hi; omega
    · have hst : bStep s (ds, q) x.f = (ds, q) := by unfold bStep; rw [if_neg hneg]
      rw [hst]
      refine BDs.fold hes htg hs l ⟨h.ok, h.at_, h.c0, h.fit, h.top, h.low, h.srt, ?_, h.tgt, h.bnd⟩ (fun p hp' => hp p (List.mem_cons_of_mem _ hp'))
      intro y hy h0
      rcases h.done y hy h0 with h1 | ⟨h1, h2⟩ | h1
      · exact .inl h1
      · rcases List.mem_cons.1 h2 with h2 | h2
        · refine .inr (.inr ?_)
          rw [h2, h1, Int.toNat_natCast, h.at_]
          exact ⟨by omega, h.top _ (by omega)⟩
        · exact .inr (.inl ⟨h1, h2⟩)
      · exact .inr (.inr h1)
theorem BD.bwd (hes : ∀ x ∈ es, 0 ≤ x.f ∧ x.f < (n : Int) ∧ 0 ≤ x.t ∧ x.t < (n : Int)) (htg : ∀ s ∈ tg, 0 ≤ s ∧ s < (n : Int)) : ∀ (f : Nat) {ds q : List Int} {c : Int}, BD es tg n ds q c → 2 * negs ds + q.length < f →
    ∃ c', BD es tg n (Go.Proofs.Ythchkddhibhenaa.bwd (inL es) f ds q) [] c'
  | 0, _, _, _, _, hf => absurd hf (by omega)
  | f + 1, ds, [], c, h, _ => ⟨c, h⟩
  | f + 1, ds, s :: q, c, h, hf => by
    rw [Go.Proofs.Ythchkddhibhenaa.bwd]
    have hs := h.ok.qr s (List.mem_cons_self ..)
    have h0 := h.ok.nn s (List.mem_cons_self ..)
    have hc := h.low s (List.mem_cons_self ..)
    obtain ⟨hs1, hs2⟩ := List.pairwise_cons.1 h.srt
    have h1 : BDs es tg n s.toNat (ds.getD s.toNat 0) ds q (inL es s.toNat) := by
      refine ⟨h.ok.pop, rfl, h0, h.fit, fun i hi => ?_, hs1, hs2, fun x hx hx0 => ?_, h.tgt, h.bnd⟩
      · have := h.top i hi; omega
      · rcases h.done x hx hx0 with h2 | h2
        · rcases List.mem_cons.1 h2 with h2 | h2
          · refine .inr (.inl ⟨by omega, ?_⟩)
            unfold inL
            exact List.mem_map.2 ⟨x, List.mem_filter.2 ⟨hx, by rw [h2]; simp; omega⟩, rfl⟩
          · exact .inl h2
        · exact .inr (.inr h2)
    have h2 := h1.fold hes htg (by omega) (inL es s.toNat) (fun p hp => inL_mem hp)
    have h3 := BOk.fold (show s.toNat < n by omega) (inL es s.toNat) h.ok.pop h0 (inL_range hes)
    refine BD.bwd hes htg f (c := ds.getD s.toNat 0) ⟨h2.ok, h2.fit, h2.top, h2.low, h2.srt, fun x hx hx0 => ?_, h2.tgt, h2.bnd⟩ ?_
    · rcases h2.done x hx hx0 with h4 | ⟨_, h4⟩ | h4
      · exact .inl h4
      · cases h4
      · exact .inr h4
    · have := h3.2.2
      simp only [List.length_cons] at hf
      omega
end
end Go.Proofs.Ythchkddhibhenaa

namespace Go.Proofs.Ythchkddhibhenaa
open Go Go.RowKit
theorem W_of {x : Int} (h0 : -9223372036854775808 ≤ x) (h1 : x < 9223372036854775808) : W x = x := IntWalk.i64_in _ (by omega)
theorem W_nat {k : Nat} (h : k < 9223372036854775808) : W (k : Int) = k := W_of (by omega) (by omega)
theorem idx_at {α : Type} {xs : List α} {i : Nat} (h : i < xs.length) : idx xs (i : Int) = some xs[i] := by rw [idx_nat, List.getElem?_eq_getElem h]
theorem iter_of {S O : Type} {f : S → Option (S ⊕ O)} {s : S} {o : O} {n : Nat} (hn : n ≤ 18446744073709551616) (h : iterF f n s = some o) : iter f s = some o := by
  have mono : ∀ (n m : Nat) (s : S), n ≤ m → iterF f n s = some o → iterF f m s = some o := by
    intro n
    induction n with
    | zero => intro m s _ h; cases h
    | succ n ih =>
      intro m s hm h
      obtain ⟨k, rfl⟩ : ∃ k, m = k + 1 := ⟨m - 1, by omega⟩
      rw [iterF_succ] at h ⊢
      split at h
      · cases h
      · rename_i h1; exact ih k _ (by omega) h
      · rename_i h1; exact h
  exact mono n _ s hn h
/-- A loop with an invariant. -/
theorem iter_inv {S O : Type} {f : S → Option (S ⊕ O)} (P : Nat → S → Prop) (Q : O → Prop) : ∀ (n i : Nat), n < i + 18446744073709551616 → (∀ i s, i < n → P i s → (∃ s', f s = some (.inl s') ∧ P (i + 1) s') ∨ ∃ o, f s = some (.inr o) ∧ Q o) → (∀ s, P n s → ∃ o, f s = some (.inr o) ∧ Q o) → i ≤ n →
    ∀ s, P i s → ∃ o, iter f s = some o ∧ Q o := by
  have key : ∀ (n : Nat), (∀ i s, i < n → P i s → (∃ s', f s = some (.inl s') ∧ P (i + 1) s') ∨ ∃ o, f s = some (.inr o) ∧ Q o) → (∀ s, P n s → ∃ o, f s = some (.inr o) ∧ Q o) → ∀ (j i : Nat), i + j = n → ∀ s, P i s → ∃ o, iterF f (j + 1) s = some o ∧ Q o := by
    intro n step fin j
    induction j with
    | zero =>
      intro i hi s h
      obtain rfl : i = n := by omega
      obtain ⟨o, h1, h2⟩ := fin s h
      exact ⟨o, by rw [iterF_succ, h1], h2⟩
    | succ j ih =>
      intro i hi s h
      rcases step i s (by omega) h with ⟨s', h1, h2⟩ | ⟨o, h1, h2⟩
      · obtain ⟨o, h3, h4⟩ := ih (i + 1) (by omega) s' h2
        exact ⟨o, by rw [iterF_succ, h1]; exact h3, h4⟩
      · exact ⟨o, by rw [iterF_succ, h1], h2⟩
  intro n i hn step fin hi s h
  obtain ⟨o, h1, h2⟩ := key n step fin (n - i) i (by omega) s h
  exact ⟨o, iter_of (by omega) h1, h2⟩
theorem nxt {i : Nat} (h : i < 4611686018427387904) : W ((i : Int) + 1) = ((i + 1 : Nat) : Int) := by rw [show (i : Int) + 1 = ((i + 1 : Nat) : Int) by omega, W_nat (by omega)]
theorem ct_lt {i n : Nat} (h : i < n) : decide ((i : Int) < (n : Int)) = true := by simp; omega
theorem ct_ge {n : Nat} : ¬ decide ((n : Int) < (n : Int)) = true := by simp
def allL (n : Nat) : List Int := (List.range n).map fun (i : Nat) => (i : Int)
theorem allL_succ (n : Nat) : allL (n + 1) = allL n ++ [(n : Int)] := by simp [allL, List.range_succ]
theorem allL_len (n : Nat) : (allL n).length = n := by simp [allL]
theorem upd_at {α : Type} {xs : List α} {i : Nat} {y : α} (h : i < xs.length) : upd xs (i : Int) y = some (xs.set i y) := by
  unfold upd
  rw [if_pos ⟨by omega, by omega⟩, Int.toNat_natCast]
/-- An error, as the printed loops hand it on. -/
def errO (e : Int) : Unit ⊕ Int := if e = 0 then .inl () else .inr e
theorem checkSet_go {xs : List Int} {n : Int} (hl : xs.length < 4611686018427387904) : ∀ (j i : Nat), i + j = xs.length →
    iterF (m_automaton_checkSet_l1 xs n) (j + 1) (i : Int) = some (errO (setErr n (prevAt xs i) (xs.drop i))) := by
  intro j
  induction j with
  | zero =>
    intro i hi
    have e : xs.drop i = [] := List.drop_of_length_le (by omega)
    rw [iterF_succ, m_automaton_checkSet_l1, if_neg (by simp; omega), e]
    rfl
  | succ j ih =>
    intro i hi
    have hlt : i < xs.length := by omega
    rw [iterF_succ, m_automaton_checkSet_l1, if_pos (by simp; omega), idx_at hlt, Option.bind_some]
    by_cases h1 : xs[i] < 0 ∨ n ≤ xs[i]
    · rw [if_pos (by simpa using h1), setErr_2 hlt h1]
      rfl
    · rw [if_neg (by simpa using h1)]
      by_cases h0 : 0 < i
      · rw [if_pos (by simp; omega), show (i : Int) - 1 = ((i - 1 : Nat) : Int) by omega, W_nat (by omega), idx_at (show i - 1 < xs.length by omega), Option.bind_some, Option.bind_some]
        by_cases h2 : xs[i] ≤ xs[i - 1]
        · rw [if_pos (by simpa using h2), setErr_5 hlt h1 h0 h2]
          rfl
        · rw [if_neg (by simpa using h2), show (i : Int) + 1 = ((i + 1 : Nat) : Int) by omega, W_nat (by omega), setErr_next hlt h1 (fun _ => by omega)]
          exact ih (i + 1) (by omega)
      · rw [if_neg (by simp; omega), Option.bind_some, if_neg (by simp), show (i : Int) + 1 = ((i + 1 : Nat) : Int) by omega, W_nat (by omega), setErr_next hlt h1 (fun h => absurd h h0)]
        exact ih (i + 1) (by omega)
theorem checkSet_eq {xs : List Int} {n : Int} (hl : xs.length < 4611686018427387904) : m_automaton_checkSet xs n = some (setErr n none xs) := by
  have h : iter (m_automaton_checkSet_l1 xs n) 0 = some (errO (setErr n none xs)) := iter_of (by omega) (checkSet_go (n := n) hl xs.length 0 (by omega))
  rw [m_automaton_checkSet, h, Option.bind_some]
  by_cases h0 : setErr n none xs = 0
  · rw [h0]; rfl
  · rw [errO, if_neg h0]
theorem index_go {xs : List Int} {x : Int} (hl : xs.length < 4611686018427387904) : ∀ (j i : Nat), i + j = xs.length →
    ∃ o, iterF (m_slices_Index_int_l1 xs x) (j + 1) (i : Int) = some o ∧ ((o = .inl () ∧ x ∉ xs.drop i) ∨ ∃ k : Nat, i ≤ k ∧ o = .inr (k : Int) ∧ x ∈ xs.drop i) := by
  intro j
  induction j with
  | zero =>
    intro i hi
    have e : xs.drop i = [] := List.drop_of_length_le (by omega)
    refine ⟨.inl (), ?_, .inl ⟨rfl, by rw [e]; simp⟩⟩
    rw [iterF_succ, m_slices_Index_int_l1, if_neg (by simp; omega)]
  | succ j ih =>
    intro i hi
    have hlt : i < xs.length := by omega
    rw [iterF_succ, m_slices_Index_int_l1, if_pos (by simp; omega), idx_at hlt, Option.bind_some]
    by_cases h1 : x = xs[i]
    · rw [if_pos (by simpa using h1)]
      exact ⟨_, rfl, .inr ⟨i, Nat.le_refl _, rfl, by rw [List.drop_eq_getElem_cons hlt, h1]; exact List.mem_cons_self⟩⟩
    · rw [if_neg (by simpa using h1), show (i : Int) + 1 = ((i + 1 : Nat) : Int) by omega, W_nat (by omega)]
      obtain ⟨o, h2, h3⟩ := ih (i + 1) (by omega)
      refine ⟨o, h2, ?_⟩
      rw [List.drop_eq_getElem_cons hlt]
      rcases h3 with ⟨h4, h5⟩ | ⟨k, h4, h5, h6⟩
      · exact .inl ⟨h4, fun hc => (List.mem_cons.1 hc).elim h1 h5⟩
      · exact .inr ⟨k, by omega, h5, List.mem_cons_of_mem _ h6⟩
theorem contains_eq {xs : List Int} {x : Int} (hl : xs.length < 4611686018427387904) : m_slices_Contains_int xs x = some (hasB xs x) := by
  obtain ⟨o, h1, h2⟩ := index_go (x := x) hl xs.length 0 (by omega)
  have h : iter (m_slices_Index_int_l1 xs x) 0 = some o := iter_of (by omega) h1
  rw [m_slices_Contains_int, m_slices_Index_int, h, Option.bind_some]
  rcases h2 with ⟨rfl, h4⟩ | ⟨k, _, rfl, h4⟩
  · rw [hasB_false.2 (by simpa using h4)]; rfl
  · rw [hasB_true.2 (by simpa using h4)]
    show some (decide ((k : Int) ≥ 0)) = some true
    simp
/-- An edge as the printed functions have it. -/
def edP (x : Ed) : Int × Int × Int := (x.f, x.e, x.t)
def autP (a : Aut) : List Int × Int × List Int × List (Int × Int × Int) := (a.al, a.n, a.ms, a.es.map edP)
def prevE (es : List Ed) (k : Nat) : Option Ed := if k = 0 then none else es[k - 1]?
theorem edErr_dropP {al : List Int} {n : Int} {es : List Ed} {k : Nat} (hk : k < es.length) : edErr al n (prevE es k) (es.drop k) =
    if (es[k].f < 0 ∨ n ≤ es[k].f ∨ es[k].t < 0 ∨ n ≤ es[k].t) then 2 else if hasB al es[k].e = false then 9 else if (∃ q, prevE es k = some q ∧ (es[k].f < q.f ∨ (es[k].f = q.f ∧ es[k].e ≤ q.e))) then 5 else edErr al n (prevE es (k + 1)) (es.drop (k + 1)) := by
  rw [List.drop_eq_getElem_cons hk, edErr]
  congr 3
  simp [prevE, List.getElem?_eq_getElem hk]
theorem edges_go {a : Aut} (hl : a.es.length < 4611686018427387904) (hal : a.al.length < 4611686018427387904) : ∀ (j i : Nat), i + j = a.es.length →
    iterF (m_automaton_checkEdges_l1 (autP a)) (j + 1) (i : Int) = some (errO (edErr a.al a.n (prevE a.es i) (a.es.drop i))) := by
  have hlen : (autP a).2.2.2.length = a.es.length := by simp [autP]
  have hat : ∀ (i : Nat) (h : i < a.es.length), idx (autP a).2.2.2 (i : Int) = some (edP a.es[i]) := fun i h => by
    rw [idx_at (by rw [hlen]; exact h)]; simp [autP]
  intro j
  induction j with
  | zero =>
    intro i hi
    have e : a.es.drop i = [] := List.drop_of_length_le (by omega)
    rw [iterF_succ, m_automaton_checkEdges_l1, if_neg (by rw [hlen]; simp; omega), e]
    rfl
  | succ j ih =>
    intro i hi
    have hlt : i < a.es.length := by omega
    have hnext : m_automaton_checkEdges_j1 (i : Int) = some (.inl ((i + 1 : Nat) : Int)) := by
      rw [m_automaton_checkEdges_j1, show (i : Int) + 1 = ((i + 1 : Nat) : Int) by omega, W_nat (by omega)]
    rw [iterF_succ, m_automaton_checkEdges_l1, if_pos (by rw [hlen]; simp; omega), hat i hlt, Option.bind_some, edErr_dropP hlt]
    by_cases h1 : a.es[i].f < 0 ∨ a.n ≤ a.es[i].f ∨ a.es[i].t < 0 ∨ a.n ≤ a.es[i].t
    · rw [if_pos (by simp only [Bool.or_eq_true, decide_eq_true_eq]; show ((a.es[i].f < 0 ∨ a.es[i].f ≥ a.n) ∨ a.es[i].t < 0) ∨ a.es[i].t ≥ a.n; omega), if_pos h1]
      rfl
    · rw [if_neg (by simp only [Bool.or_eq_true, decide_eq_true_eq]; show ¬ (((a.es[i].f < 0 ∨ a.es[i].f ≥ a.n) ∨ a.es[i].t < 0) ∨ a.es[i].t ≥ a.n); omega), if_neg h1]
      rw [show m_slices_Contains_int (autP a).1 (edP a.es[i]).2.1 = some (hasB a.al a.es[i].e) from contains_eq hal, Option.bind_some]
      cases h2 : hasB a.al a.es[i].e with
      | false => rfl
      | true =>
        rw [if_neg (show ¬ (!true) = true by simp), if_neg (show ¬ (true = false) by simp)]
        by_cases h0 : i = 0
        · subst h0
          rw [if_pos (by simp), hnext, if_neg (by rintro ⟨q, hq, _⟩; simp [prevE] at hq)]
          exact ih 1 (by omega)
        · have hp : prevE a.es i = some a.es[i - 1] := by rw [prevE, if_neg h0, List.getElem?_eq_getElem (by omega)]
          rw [if_neg (by simp; omega), show (i : Int) - 1 = ((i - 1 : Nat) : Int) by omega, W_nat (by omega), hat (i - 1) (by omega), Option.bind_some]
          by_cases h3 : a.es[i].f < a.es[i - 1].f ∨ (a.es[i].f = a.es[i - 1].f ∧ a.es[i].e ≤ a.es[i - 1].e)
          · rw [if_pos (by simp only [Bool.or_eq_true, Bool.and_eq_true, decide_eq_true_eq, beq_iff_eq]; exact h3), if_pos ⟨_, hp, h3⟩]
            rfl
          · rw [if_neg (by simp only [Bool.or_eq_true, Bool.and_eq_true, decide_eq_true_eq, beq_iff_eq]; exact h3), hnext, if_neg (by rintro ⟨q, hq, h4⟩; rw [hp] at hq; cases hq; exact h3 h4)]
            exact ih (i + 1) (by omega)
theorem check_eq {a : Aut} (hl : a.es.length < 4611686018427387904) (hal : a.al.length < 4611686018427387904) (hms : a.ms.length < 4611686018427387904) : m_automaton_Check (autP a) = some a.err := by
  have h : iter (m_automaton_checkEdges_l1 (autP a)) 0 = some (errO (edErr a.al a.n none a.es)) := iter_of (by omega) (edges_go hl hal a.es.length 0 (by omega))
  have he : m_automaton_checkEdges (autP a) = some (edErr a.al a.n none a.es) := by
    rw [m_automaton_checkEdges, h, Option.bind_some]
    by_cases h0 : edErr a.al a.n none a.es = 0
    · rw [h0]; rfl
    · rw [errO, if_neg h0]
  rw [m_automaton_Check, show m_automaton_checkSet (autP a).1 32 = some (setErr 32 none a.al) from checkSet_eq hal, Option.bind_some, Aut.err]
  by_cases h1 : (setErr 32 none a.al != 0) = true
  · rw [if_pos h1, if_pos h1]
  · rw [if_neg h1, if_neg h1]
    by_cases h2 : a.n < 0
    · rw [if_pos (show decide ((autP a).2.1 < 0) = true from decide_eq_true h2), if_pos h2]
    · rw [if_neg (show ¬ decide ((autP a).2.1 < 0) = true from fun e => h2 (of_decide_eq_true e)), if_neg h2]
      by_cases h3 : 4096 < a.n
      · rw [if_pos (show decide ((autP a).2.1 > 4096) = true from decide_eq_true h3), if_pos h3]
      · rw [if_neg (show ¬ decide ((autP a).2.1 > 4096) = true from fun e => h3 (of_decide_eq_true e)), if_neg h3, show m_automaton_checkSet (autP a).2.2.1 (autP a).2.1 = some (setErr a.n none a.ms) from checkSet_eq hms, Option.bind_some]
        by_cases h4 : (setErr a.n none a.ms != 0) = true
        · rw [if_pos h4, if_pos h4]
        · rw [if_neg h4, if_neg h4, he]
          rfl
abbrev Inc (xs : List Int) : Prop := xs.Pairwise (· < ·)
theorem setErr_ok {n : Int} : ∀ {p : Option Int} {xs : List Int}, xs.Pairwise (· < ·) → (∀ x ∈ xs, 0 ≤ x ∧ x < n) → (∀ q, p = some q → ∀ x ∈ xs, q < x) → setErr n p xs = 0
  | _, [], _, _, _ => rfl
  | p, x :: xs, h, hr, hp => by
    obtain ⟨h1, h2⟩ := List.pairwise_cons.1 h
    have h3 := hr x (List.mem_cons_self ..)
    rw [setErr, if_neg (by omega), if_neg ?_]
    · exact setErr_ok h2 (fun y hy => hr y (List.mem_cons_of_mem _ hy)) (fun q hq y hy => by cases hq; exact h1 y hy)
    · rintro ⟨q, hq, hle⟩
      have := hp q hq x (List.mem_cons_self ..)
      omega
theorem edErr_ok {al : List Int} {n : Int} : ∀ {p : Option Ed} {es : List Ed}, Sorted es → (∀ x ∈ es, 0 ≤ x.f ∧ x.f < n ∧ 0 ≤ x.t ∧ x.t < n ∧ hasB al x.e = true) → (∀ q, p = some q → ∀ x ∈ es, edLt q x) → edErr al n p es = 0
  | _, [], _, _, _ => rfl
  | p, x :: xs, h, hr, hp => by
    obtain ⟨h1, h2⟩ := List.pairwise_cons.1 h
    have h3 := hr x (List.mem_cons_self ..)
    rw [edErr, if_neg (by omega), if_neg (by rw [h3.2.2.2.2]; simp), if_neg ?_]
    · exact edErr_ok h2 (fun y hy => hr y (List.mem_cons_of_mem _ hy)) (fun q hq y hy => by cases hq; exact h1 y hy)
    · rintro ⟨q, hq, hle⟩
      have := hp q hq x (List.mem_cons_self ..)
      unfold edLt at this
      omega
theorem autP_toAut (a : AutT) : autP (toAut a) = a := by
  obtain ⟨x, y, z, es⟩ := a
  simp only [autP, toAut, List.map_map]
  rw [show (edP ∘ toEd) = id from rfl, List.map_id]
/-- A right automaton of n states, with short lists. -/
structure Right (a : AutT) (n : Nat) : Prop where
  nn : a.2.1 = (n : Int)
  nl : n ≤ 4096
  ali : Inc a.1
  alr : ∀ x ∈ a.1, 0 ≤ x ∧ x < 32
  msi : Inc a.2.2.1
  msr : ∀ x ∈ a.2.2.1, 0 ≤ x ∧ x < (n : Int)
  es : ∀ x ∈ a.2.2.2, 0 ≤ x.1 ∧ x.1 < (n : Int) ∧ 0 ≤ x.2.2 ∧ x.2.2 < (n : Int) ∧ x.2.1 ∈ a.1
  so : a.2.2.2.Pairwise fun x y => x.1 < y.1 ∨ (x.1 = y.1 ∧ x.2.1 < y.2.1)
  l1 : a.1.length ≤ 1000000
  l2 : a.2.2.1.length ≤ 1000000
  l3 : a.2.2.2.length ≤ 1000000
namespace Right
variable {a : AutT} {n : Nat}
theorem sorted (h : Right a n) : Sorted (a.2.2.2.map toEd) := by
  unfold Sorted
  rw [List.pairwise_map]
  exact h.so
theorem ein (h : Right a n) : ∀ x ∈ a.2.2.2.map toEd, 0 ≤ x.f ∧ x.f < (n : Int) ∧ 0 ≤ x.t ∧ x.t < (n : Int) := fun x hx => by
  obtain ⟨y, hy, rfl⟩ := List.mem_map.1 hx
  have := h.es y hy
  exact ⟨this.1, this.2.1, this.2.2.1, this.2.2.2.1⟩
theorem evs (h : Right a n) : EvEs (a.2.2.2.map toEd) := fun x hx => by
  obtain ⟨y, hy, rfl⟩ := List.mem_map.1 hx
  exact h.alr _ (h.es y hy).2.2.2.2
theorem err (h : Right a n) : (toAut a).err = 0 := by
  have h1 : setErr 32 none (toAut a).al = 0 := setErr_ok h.ali h.alr (fun q hq => by cases hq)
  have hn : (toAut a).n = n := h.nn
  have h2 : setErr (toAut a).n none (toAut a).ms = 0 := by rw [hn]; exact setErr_ok h.msi h.msr (fun q hq => by cases hq)
  have h3 : edErr (toAut a).al (toAut a).n none (toAut a).es = 0 := by
    rw [hn]
    refine edErr_ok h.sorted (fun x hx => ?_) (fun q hq => by cases hq)
    obtain ⟨y, hy, rfl⟩ := List.mem_map.1 hx
    have := h.es y hy
    exact ⟨this.1, this.2.1, this.2.2.1, this.2.2.2.1, hasB_true.2 this.2.2.2.2⟩
  have := h.nl
  unfold Aut.err
  rw [h1, if_neg (by decide), if_neg (by rw [hn]; omega), if_neg (by rw [hn]; omega), h2, if_neg (by decide), h3]
theorem check (h : Right a n) : m_automaton_Check a = some 0 := by
  have h1 := h.l1
  have h2 := h.l2
  have h3 := h.l3
  have := check_eq (a := toAut a) (by simp [toAut]; omega) (by simp [toAut]; omega) (by simp [toAut]; omega)
  rwa [autP_toAut, h.err] at this
end Right
theorem inc_len {n : Nat} : ∀ {xs : List Int} {lo : Int}, Inc xs → (∀ x ∈ xs, lo ≤ x ∧ x < (n : Int)) → 0 ≤ lo → xs.length ≤ n - lo.toNat
  | [], _, _, _, _ => Nat.zero_le _
  | x :: xs, lo, h, hr, h0 => by
    obtain ⟨h1, h2⟩ := List.pairwise_cons.1 h
    have hx := hr x (List.mem_cons_self ..)
    have := inc_len (n := n) (lo := x + 1) h2 (fun y hy => ⟨by have := h1 y hy; omega, (hr y (List.mem_cons_of_mem _ hy)).2⟩) (by omega)
    rw [List.length_cons]
    omega
theorem nodup_len : ∀ (N : Nat) (l : List Nat), l.Nodup → (∀ x ∈ l, x < N) → l.length ≤ N
  | 0, [], _, _ => Nat.le_refl _
  | 0, x :: l, _, h => absurd (h x (List.mem_cons_self ..)) (by omega)
  | N + 1, l, hn, h => by
    by_cases hm : N ∈ l
    · have h1 := nodup_len N (l.erase N) (hn.erase N) (fun x hx => by
        have h2 := (hn.mem_erase_iff).1 hx
        have := h x h2.2
        omega)
      rw [List.length_erase_of_mem hm] at h1
      omega
    · have h1 := nodup_len N l hn (fun x hx => by
        have := h x hx
        have : x ≠ N := fun e => hm (e ▸ hx)
        omega)
      omega
theorem allL_has {n : Nat} {s : Int} (h0 : 0 ≤ s) (h1 : s < n) : hasB (allL n) s = true := by
  rw [hasB_true]
  exact List.mem_map.2 ⟨s.toNat, List.mem_range.2 (by omega), by omega⟩
abbrev edsOf (p : AutT) : List Ed := p.2.2.2.map toEd
abbrev Four := Int × Int × Int × Int
abbrev DesT := Int × Int × (Four × Four × Four × Four × Four × Four)
/-- The edges of a description. -/
def desL (d : DesT) : List Int := [d.2.2.1.1, d.2.2.1.2.1, d.2.2.1.2.2.1, d.2.2.1.2.2.2, d.2.2.2.1.1, d.2.2.2.1.2.1, d.2.2.2.1.2.2.1, d.2.2.2.1.2.2.2, d.2.2.2.2.1.1, d.2.2.2.2.1.2.1, d.2.2.2.2.1.2.2.1, d.2.2.2.2.1.2.2.2, d.2.2.2.2.2.1.1, d.2.2.2.2.2.1.2.1, d.2.2.2.2.2.1.2.2.1, d.2.2.2.2.2.1.2.2.2, d.2.2.2.2.2.2.1.1, d.2.2.2.2.2.2.1.2.1, d.2.2.2.2.2.2.1.2.2.1, d.2.2.2.2.2.2.1.2.2.2, d.2.2.2.2.2.2.2.1, d.2.2.2.2.2.2.2.2.1, d.2.2.2.2.2.2.2.2.2.1, d.2.2.2.2.2.2.2.2.2.2]
/-- What holds of the edges while Make makes them: state i, event j. -/
structure ME (n : Nat) (i j : Nat) (E : List (Int × Int × Int)) : Prop where
  er : ∀ x ∈ E, 0 ≤ x.1 ∧ x.1 ≤ (i : Int) ∧ 0 ≤ x.2.1 ∧ x.2.1 < 4 ∧ 0 ≤ x.2.2 ∧ x.2.2 < (n : Int)
  es : ∀ x ∈ E, x.1 = (i : Int) → x.2.1 < (j : Int)
  so : E.Pairwise fun x y => x.1 < y.1 ∨ (x.1 = y.1 ∧ x.2.1 < y.2.1)
  el : E.length ≤ 4 * i + j
theorem ME.push {n i j : Nat} {E : List (Int × Int × Int)} {q : Int} (h : ME n i j E) (hj : j < 4) (h0 : 0 ≤ q) (h1 : q < (n : Int)) : ME n i (j + 1) (E ++ [((i : Int), (j : Int), q)]) := by
  refine ⟨fun x hx => ?_, fun x hx e => ?_, ?_, by have := h.el; rw [List.length_append, List.length_singleton]; omega⟩
  · rcases List.mem_append.1 hx with hx | hx
    · exact h.er x hx
    · rw [List.mem_singleton.1 hx]; exact ⟨by dsimp only; omega, by dsimp only; omega, by dsimp only; omega, by dsimp only; omega, h0, h1⟩
  · rcases List.mem_append.1 hx with hx | hx
    · have := h.es x hx e; omega
    · rw [List.mem_singleton.1 hx]; dsimp only; omega
  · rw [List.pairwise_append]
    refine ⟨h.so, List.pairwise_singleton _ _, fun a ha b hb => ?_⟩
    rw [List.mem_singleton.1 hb]
    have h2 := h.er a ha
    by_cases e : a.1 = (i : Int)
    · exact .inr ⟨e, h.es a ha e⟩
    · exact .inl (by dsimp only; omega)
theorem ME.skip {n i j : Nat} {E : List (Int × Int × Int)} (h : ME n i j E) : ME n i (j + 1) E := ⟨h.er, fun x hx e => by have := h.es x hx e; omega, h.so, by have := h.el; omega⟩
theorem ME.next {n i : Nat} {E : List (Int × Int × Int)} (h : ME n i 4 E) : ME n (i + 1) 0 E := ⟨fun x hx => by have := h.er x hx; omega, fun x hx e => by have := h.er x hx; omega, h.so, by have := h.el; omega⟩
theorem make_inner {d : DesT} {n i : Nat} (hn : W (1 + W (d.1.tmod 6)) = (n : Int)) (hi : i < 6) {M : List Int} {E : List (Int × Int × Int)} (hE : ME n i 0 E) : ∃ E', iter (m_overseerlaw04_Make_l2 d ((i : Int), M, E)) (0, E) = some E' ∧ ME n i 4 E' := by
  refine iter_inv (f := m_overseerlaw04_Make_l2 d ((i : Int), M, E)) (fun j s => s.1 = (j : Int) ∧ ME n i j s.2) (fun o => ME n i 4 o) 4 0 (by omega) (fun j s hj ⟨e1, g1⟩ => ?_) (fun s ⟨e1, g1⟩ => ?_) (Nat.zero_le _) (0, E) ⟨rfl, hE⟩
  · obtain ⟨k, E⟩ := s
    dsimp only at e1 g1
    subst e1
    have hj2 : ∀ u, m_overseerlaw04_Make_j2 ((j : Int), E) u = some (.inl (((j + 1 : Nat) : Int), u)) := fun u => by
      rw [m_overseerlaw04_Make_j2]; dsimp only; rw [nxt (by omega)]
    left
    rw [m_overseerlaw04_Make_l2]
    dsimp only
    rw [if_pos (by simp; omega), show rng (i : Int) 6 = some () by unfold rng; rw [if_pos (by simp; omega)], Option.bind_some, show rng (j : Int) 4 = some () by unfold rng; rw [if_pos (by simp; omega)], Option.bind_some]
    obtain ⟨x, hx⟩ : ∃ x, (desL d)[(i : Int).toNat * 4 + (j : Int).toNat * 1]? = some x := ⟨_, List.getElem?_eq_getElem (by simp [desL]; omega)⟩
    unfold desL at hx
    rw [hx, Option.bind_some, hn]
    have hx1 : -7 < x.tmod 7 := Int.lt_tmod_of_pos x (by omega)
    have hx2 : x.tmod 7 < 7 := Int.tmod_lt_of_pos x (by omega)
    rw [W_of (x := x.tmod 7) (by omega) (by omega), W_of (x := x.tmod 7 - 1) (by omega) (by omega)]
    have hel := g1.el
    by_cases hc : 0 ≤ x.tmod 7 - 1 ∧ x.tmod 7 - 1 < (n : Int)
    · rw [if_pos (by simp; omega), app_eq (by simp; omega), Option.bind_some, hj2]
      exact ⟨_, rfl, rfl, g1.push hj hc.1 hc.2⟩
    · rw [if_neg (by simp; omega), hj2]
      exact ⟨_, rfl, rfl, g1.skip⟩
  · obtain ⟨k, E⟩ := s
    dsimp only at e1 g1
    subst e1
    refine ⟨E, ?_, g1⟩
    rw [m_overseerlaw04_Make_l2]
    dsimp only
    rw [if_neg (by simp)]
theorem make_ex {d : DesT} (h0 : 0 ≤ d.1) : ∃ a n, m_overseerlaw04_Make d = some a ∧ 1 ≤ n ∧ n ≤ 6 ∧ Right a n ∧ a.1 = [0, 1, 2, 3] ∧ a.2.2.2.length ≤ 24 := by
  have ht0 := Int.tmod_nonneg 6 h0
  have ht1 : d.1.tmod 6 < 6 := Int.tmod_lt_of_pos d.1 (by omega)
  obtain ⟨n, hn⟩ : ∃ n : Nat, 1 + d.1.tmod 6 = (n : Int) := ⟨(1 + d.1.tmod 6).toNat, by omega⟩
  have hW : W (1 + W (d.1.tmod 6)) = (n : Int) := by rw [W_of (x := d.1.tmod 6) (by omega) (by omega), W_of (by omega) (by omega), hn]
  obtain ⟨o, h1, h2⟩ := iter_inv (f := m_overseerlaw04_Make_l1 d) (fun i s => i ≤ n ∧ s.1 = (i : Int) ∧ Inc s.2.1 ∧ (∀ x ∈ s.2.1, 0 ≤ x ∧ x < (i : Int)) ∧ ME n i 0 s.2.2) (fun o => Inc o.1 ∧ (∀ x ∈ o.1, 0 ≤ x ∧ x < (n : Int)) ∧ ME n n 0 o.2) n 0 (by omega) (fun i s hi ⟨_, e1, g1, g2, g3⟩ => by
      obtain ⟨k, M, E⟩ := s
      dsimp only at e1 g1 g2 g3
      subst e1
      obtain ⟨E', g4, g5⟩ := make_inner (M := M) hW (show i < 6 by omega) g3
      have hMl := inc_len (n := i) (lo := 0) g1 g2 (Int.le_refl _)
      have hj1 : ∀ M', m_overseerlaw04_Make_j1 d ((i : Int), M, E) M' = some (.inl (((i + 1 : Nat) : Int), M', E')) := fun M' => by
        rw [m_overseerlaw04_Make_j1]; dsimp only; rw [g4, Option.bind_some, nxt (by omega)]
      left
      rw [m_overseerlaw04_Make_l1]
      dsimp only
      rw [hW, if_pos (ct_lt hi), show ng (i : Int) = some () from if_neg (by omega), Option.bind_some]
      split
      · rw [app_eq (by simp; omega), Option.bind_some, hj1]
        refine ⟨_, rfl, by omega, rfl, ?_, fun x hx => ?_, g5.next⟩
        · dsimp only
          unfold Inc at g1 ⊢
          rw [List.pairwise_append]
          exact ⟨g1, List.pairwise_singleton _ _, fun a ha b hb => by rw [List.mem_singleton.1 hb]; exact (g2 a ha).2⟩
        · dsimp only at hx
          rcases List.mem_append.1 hx with hx | hx
          · have := g2 x hx; omega
          · rw [List.mem_singleton.1 hx]; omega
      · rw [hj1]
        exact ⟨_, rfl, by omega, rfl, g1, fun x hx => by have := g2 x hx; omega, g5.next⟩) (fun s ⟨_, e1, g1, g2, g3⟩ => by
      obtain ⟨k, M, E⟩ := s
      dsimp only at e1 g1 g2 g3
      subst e1
      refine ⟨(M, E), ?_, g1, g2, g3⟩
      rw [m_overseerlaw04_Make_l1]
      dsimp only
      rw [hW, if_neg ct_ge]) (Nat.zero_le _) (0, [], []) ⟨Nat.zero_le _, rfl, List.Pairwise.nil, fun x hx => (by cases hx), fun x hx => (by cases hx), fun x hx => (by cases hx), List.Pairwise.nil, by simp⟩
  obtain ⟨g1, g2, g3⟩ := h2
  have hMl := inc_len (n := n) (lo := 0) g1 g2 (Int.le_refl _)
  have hel := g3.el
  refine ⟨([0, 1, 2, 3], (n : Int), o), n, by rw [m_overseerlaw04_Make, h1, hW]; rfl, by omega, by omega, ⟨rfl, by omega, ?_, ?_, g1, g2, fun x hx => ?_, g3.so, by simp, by dsimp only; omega, by dsimp only; omega⟩, rfl, by dsimp only; omega⟩
  · dsimp only; unfold Inc; decide
  · intro x hx
    have : x = 0 ∨ x = 1 ∨ x = 2 ∨ x = 3 := by simpa using hx
    omega
  · have := g3.er x hx
    have h3 := g3.es x hx
    refine ⟨this.1, ?_, this.2.2.2.2.1, this.2.2.2.2.2, ?_⟩
    · rcases Int.lt_or_le x.1 (n : Int) with h4 | h4
      · exact h4
      · have := h3 (by omega); omega
    · show x.2.1 ∈ [0, 1, 2, 3]
      have h5 : x.2.1 = 0 ∨ x.2.1 = 1 ∨ x.2.1 = 2 ∨ x.2.1 = 3 := by omega
      rcases h5 with h | h | h | h <;> rw [h] <;> decide
def Gd (fl : List Bool) (s : Int) : Prop := fl.getD s.toNat false = true
theorem mid_filter {α : Type} (q : α → Bool) : ∀ (xs : List α) (i j : Nat), i ≤ j → j ≤ xs.length → (∀ k (h : k < xs.length), q xs[k] = decide (i ≤ k ∧ k < j)) → (xs.take j).drop i = xs.filter q := by
  intro xs i j hij hj h
  have e1 : xs = xs.take i ++ ((xs.take j).drop i ++ xs.drop j) := by
    have h1 : (xs.take j).take i = xs.take i := by rw [List.take_take, Nat.min_eq_left hij]
    rw [← List.append_assoc, ← h1, List.take_append_drop, List.take_append_drop]
  have f1 : (xs.take i).filter q = [] := by
    refine List.filter_eq_nil_iff.2 fun x hx => ?_
    obtain ⟨k, hk, rfl⟩ := List.mem_iff_getElem.1 hx
    rw [List.length_take] at hk
    rw [List.getElem_take, h k (by omega)]
    simp; omega
  have f2 : ((xs.take j).drop i).filter q = (xs.take j).drop i := by
    refine List.filter_eq_self.2 fun x hx => ?_
    obtain ⟨k, hk, rfl⟩ := List.mem_iff_getElem.1 hx
    rw [List.length_drop, List.length_take] at hk
    rw [List.getElem_drop, List.getElem_take, h (i + k) (by omega)]
    simp; omega
  have f3 : (xs.drop j).filter q = [] := by
    refine List.filter_eq_nil_iff.2 fun x hx => ?_
    obtain ⟨k, hk, rfl⟩ := List.mem_iff_getElem.1 hx
    rw [List.length_drop] at hk
    rw [List.getElem_drop, h (j + k) (by omega)]
    simp
  conv => rhs; rw [e1]
  rw [List.filter_append, List.filter_append, f1, f2, f3]
  simp

/-- A list in which the elements with p stand ahead of the others. -/
theorem down_lt {α : Type} (p : α → Bool) : ∀ (xs : List α), (xs.Pairwise fun x y => p y = true → p x = true) → ∀ k (h : k < xs.length), p xs[k] = decide (k < xs.countP p)
  | [], _, k, h => by simp at h
  | x :: xs, hp, k, h => by
    rw [List.pairwise_cons] at hp
    cases hx : p x with
    | true =>
      rw [List.countP_cons_of_pos hx]
      cases k with
      | zero => simp [hx]
      | succ k =>
        rw [List.getElem_cons_succ, down_lt p xs hp.2 k (by simpa using h)]
        simp
    | false =>
      have h0 : xs.countP p = 0 := List.countP_eq_zero.2 fun y hy hpy => by have := hp.1 y hy hpy; rw [hx] at this; cases this
      rw [List.countP_cons_of_neg (by simp [hx]), h0]
      cases k with
      | zero => simp [hx]
      | succ k =>
        rw [List.getElem_cons_succ, down_lt p xs hp.2 k (by simpa using h), h0]
        simp
theorem countP_lt (i : Int) : ∀ es : List (Int × Int × Int), (es.countP fun x => decide (x.1 + 1 = i + 1)) + (es.countP fun x => decide (x.1 < i)) = es.countP fun x => decide (x.1 < i + 1)
  | [] => rfl
  | x :: es => by
    have := countP_lt i es
    simp only [List.countP_cons, decide_eq_true_eq]
    rcases Int.lt_trichotomy x.1 i with h | h | h
    · rw [if_neg (by omega), if_pos h, if_pos (by omega)]; omega
    · rw [if_pos (by omega), if_neg (by omega), if_pos (by omega)]; omega
    · rw [if_neg (by omega), if_neg (by omega), if_neg (by omega)]; omega
/-- The places of a state's edges. -/
structure FsOk (a : AutT) (n : Nat) (fs : List Int) (F : Nat → Nat) : Prop where
  len : fs.length = n + 1
  val : ∀ s (h : s < fs.length), fs[s] = (F s : Int)
  mono : ∀ q, q < n → F q ≤ F (q + 1) ∧ F (q + 1) ≤ a.2.2.2.length
  out : ∀ q, q < n → (a.2.2.2.take (F (q + 1))).drop (F q) = a.2.2.2.filter fun x => x.1 == (q : Int)
theorem newGraph_full {a : AutT} {n : Nat} (hr : Right a n) : ∃ fs F, m_reach_newGraph a = some (a, fs) ∧ FsOk a n fs F := by
  have hn := hr.nl
  have hl := hr.l3
  have hnn := hr.nn
  have hW : ∀ i : Nat, i ≤ n → W ((i : Int) + 1) = ((i + 1 : Nat) : Int) := fun i hi => nxt (by omega)
  obtain ⟨o, h1, ho, hv⟩ := iter_inv (f := m_reach_newGraph_l1 a) (fun i s => s.1 = (i : Int) ∧ s.2.length = n + 1 ∧ ∀ u (_ : u < s.2.length), s.2[u] = (((a.2.2.2.take i).countP fun x => decide (x.1 + 1 = (u : Int)) : Nat) : Int)) (fun o => o.length = n + 1 ∧ ∀ u (_ : u < o.length), o[u] = ((a.2.2.2.countP fun x => decide (x.1 + 1 = (u : Int)) : Nat) : Int)) a.2.2.2.length 0 (by omega) (fun i s hi ⟨e1, g1, g2⟩ => by
      obtain ⟨k, fs⟩ := s
      dsimp only at e1 g1 g2
      subst e1
      have hx := hr.es _ (List.getElem_mem hi)
      obtain ⟨f, hf⟩ : ∃ f : Nat, a.2.2.2[i].1 = f := ⟨a.2.2.2[i].1.toNat, by omega⟩
      have hfn : f < n := by omega
      have hc : ((a.2.2.2.take i).countP fun x => decide (x.1 + 1 = ((f + 1 : Nat) : Int))) ≤ i := Nat.le_trans List.countP_le_length (by rw [List.length_take]; omega)
      refine .inl ⟨(((i + 1 : Nat) : Int), fs.set (f + 1) (W (fs[f + 1]'(by omega) + 1))), ?_, rfl, by simp [g1], fun u hu => ?_⟩
      · rw [m_reach_newGraph_l1]
        dsimp only
        rw [if_pos (ct_lt hi), idx_at hi, Option.bind_some, hf, hW f (by omega), idx_at (by omega), Option.bind_some, Option.bind_some, upd_at (by omega), Option.bind_some, nxt (by omega)]
      · have hu2 : u < fs.length := by simpa using hu
        rw [List.take_succ_eq_append_getElem hi, List.countP_append, List.countP_singleton, hf]
        dsimp only
        rw [List.getElem_set]
        by_cases h : f + 1 = u
        · subst h
          rw [if_pos rfl, g2, nxt (by omega), if_pos (by simp)]
        · rw [if_neg h, g2, if_neg (by simp; omega)]
          rfl) (fun s ⟨e1, g1, g2⟩ => by
      obtain ⟨k, fs⟩ := s
      dsimp only at e1 g1 g2
      subst e1
      refine ⟨fs, ?_, g1, by rw [List.take_length] at g2; exact g2⟩
      rw [m_reach_newGraph_l1]
      dsimp only
      rw [if_neg ct_ge]) (Nat.zero_le _) (0, List.replicate (n + 1) 0) ⟨rfl, by simp, fun u hu => by simp⟩
  have hle : ∀ p : Int × Int × Int → Bool, a.2.2.2.countP p ≤ 1000000 := fun p => Nat.le_trans List.countP_le_length hl
  obtain ⟨o2, h2, ho2, hv2⟩ := iter_inv (f := m_reach_newGraph_l2 a) (fun i s => s.1 = (i : Int) ∧ s.2.length = n + 1 ∧ ∀ u (_ : u < s.2.length), s.2[u] = if u ≤ i then ((a.2.2.2.countP fun x => decide (x.1 < (u : Int)) : Nat) : Int) else ((a.2.2.2.countP fun x => decide (x.1 + 1 = (u : Int)) : Nat) : Int)) (fun o => o.length = n + 1 ∧ ∀ u (_ : u < o.length), o[u] = ((a.2.2.2.countP fun x => decide (x.1 < (u : Int)) : Nat) : Int)) n 0 (by omega) (fun i s hi ⟨e1, g1, g2⟩ => by
      obtain ⟨k, fs⟩ := s
      dsimp only at e1 g1 g2
      subst e1
      refine .inl ⟨(((i + 1 : Nat) : Int), fs.set (i + 1) (W (fs[i + 1]'(by omega) + fs[i]'(by omega)))), ?_, rfl, by simp [g1], fun u hu => ?_⟩
      · rw [m_reach_newGraph_l2]
        dsimp only
        rw [hnn, if_pos (by simp; omega), hW i (by omega), idx_at (by omega), Option.bind_some, idx_at (by omega), Option.bind_some, Option.bind_some, upd_at (by omega), Option.bind_some]
      · have hu2 : u < fs.length := by simpa using hu
        dsimp only
        rw [List.getElem_set]
        by_cases h : i + 1 = u
        · subst h
          have e3 := countP_lt (i : Int) a.2.2.2
          have e4 := hle fun x => decide (x.1 < (i : Int) + 1)
          rw [if_pos rfl, if_pos (Nat.le_refl _), g2, g2, if_neg (by omega), if_pos (Nat.le_refl _), show ((i + 1 : Nat) : Int) = (i : Int) + 1 from rfl, W_of (by omega) (by omega)]
          omega
        · rw [if_neg h, g2]
          by_cases h3 : u ≤ i
          · rw [if_pos h3, if_pos (by omega)]
          · rw [if_neg h3, if_neg (by omega)]) (fun s ⟨e1, g1, g2⟩ => by
      obtain ⟨k, fs⟩ := s
      dsimp only at e1 g1 g2
      subst e1
      refine ⟨fs, ?_, g1, fun u hu => by rw [g2 u hu, if_pos (by omega)]⟩
      rw [m_reach_newGraph_l2]
      dsimp only
      rw [hnn, if_neg (by simp)]) (Nat.zero_le _) (0, o) ⟨rfl, ho, fun u hu => by
      rw [hv u hu]
      by_cases h : u ≤ 0
      · rw [if_pos h]
        obtain rfl : u = 0 := by omega
        rw [List.countP_eq_zero.2 fun x hx => by have := hr.es x hx; simp; omega, List.countP_eq_zero.2 fun x hx => by have := hr.es x hx; simp; omega]
      · rw [if_neg h]⟩
  have hmono : ∀ q : Nat, (a.2.2.2.countP fun x => decide (x.1 < (q : Int))) ≤ a.2.2.2.countP fun x => decide (x.1 < ((q + 1 : Nat) : Int)) := fun q => by
    have e3 := countP_lt (q : Int) a.2.2.2
    rw [show ((q + 1 : Nat) : Int) = (q : Int) + 1 from rfl]; omega
  refine ⟨o2, fun s => a.2.2.2.countP fun x => decide (x.1 < (s : Int)), ?_, ho2, hv2, fun q _ => ⟨hmono q, List.countP_le_length⟩, fun q hq => ?_⟩
  · rw [m_reach_newGraph, hnn, hW n (Nat.le_refl _), mkL_eq (by omega) (by omega), Option.bind_some, Int.toNat_natCast, h1, Option.bind_some, h2]
    rfl
  · have hdn : ∀ (u : Nat) k (h : k < a.2.2.2.length), decide (a.2.2.2[k].1 < (u : Int)) = decide (k < a.2.2.2.countP fun x => decide (x.1 < (u : Int))) := fun u k h => down_lt (fun x => decide (x.1 < (u : Int))) a.2.2.2 (hr.so.imp fun {x y} hxy hy => by simp at hy ⊢; omega) k h
    exact mid_filter (fun x : Int × Int × Int => x.1 == (q : Int)) a.2.2.2 (a.2.2.2.countP fun x => decide (x.1 < (q : Int))) (a.2.2.2.countP fun x => decide (x.1 < ((q + 1 : Nat) : Int))) (hmono q) List.countP_le_length (fun k h => by
      have d1 := hdn q k h
      have d2 := hdn (q + 1) k h
      rw [decide_eq_decide] at d1 d2
      rw [Bool.eq_iff_iff, beq_iff_eq, decide_eq_true_eq]
      omega)
theorem rng_inv {S : Type} {f : Nat → S → Option S} (P : Nat → S → Prop) {N : Nat} (hs : ∀ k s, k < N → P k s → ∃ s', f k s = some s' ∧ P (k + 1) s') : ∀ (m k : Nat) (s : S), k + m = N → P k s → ∃ o, rngF f m k s = some o ∧ P N o
  | 0, k, s, e, h => ⟨s, rfl, by rw [← e]; exact h⟩
  | m + 1, k, s, e, h => by
    obtain ⟨s', h1, h2⟩ := hs k s (by omega) h
    obtain ⟨o, h3, h4⟩ := rng_inv P hs m (k + 1) s' (by omega) h2
    exact ⟨o, by rw [rngF, h1]; exact h3, h4⟩
end Go.Proofs.Ythchkddhibhenaa

namespace Go.Proofs.Ythchkddhibhenaa
open Go Go.RowKit Go.ChangeShapes Go.WideShapes Go.Deep

/-- Data of a type, wherever they are read, lie so in cells. -/
def Op (P : Program) {α : Type} (r : Rep α) (Q : α → Prop) (t : TypeId) : Prop :=
  ∀ (H : Type) (enc : TypeId × Value → H) (w : World) (fuel : Nat) (cs : List Value) (x : DataW H × List MemPlace), DataW.trod enc P w 0 (fun _ => true) true fuel t cs = some x → ∃ y : α, r.rd ⟨w, fun _ => 0⟩ cs y ∧ Q y
section
variable {P : Program} {α β : Type} {r : Rep α} {q : Rep β} {Q : α → Prop} {R : β → Prop} {t e : TypeId}
theorem Op.int {k : IntKind} (ht : P.underlying t = some (.int k)) : Op P (rK k) (fun n => k.min ≤ n ∧ n ≤ k.max) t := by
  intro H enc w fuel cs x h
  obtain ⟨n, h1, h2, h3⟩ := DataW.trod_int ht h
  refine ⟨n, h1, ?_⟩
  simpa [Lit.wf] using h3
theorem Op.bool (ht : P.underlying t = some .bool) : Op P rB (fun _ => True) t := by
  intro H enc w fuel cs x h
  obtain ⟨b, h1, h2⟩ := DataW.trod_bool ht h
  exact ⟨b, h1, trivial⟩
/-- The cells of a struct, one type each. -/
theorem op_agg {w : World} {base : Nat} {v : Value} {fs : Array Field} {ts : List TypeId} (ht : P.underlying t = some (.struct fs)) (hts : P.cellTypes P.depth t = some ts) (hsz : P.cellsOf t = ts.length) (hok : Value.okWide P w .any base t v) :
    ∃ cs, v = .agg cs ∧ cs.size = ts.length ∧ ∀ (i : Nat) (u : TypeId), ts[i]? = some u → ∃ c : Value, cs[i]? = some c ∧ Cell.okWide P w .any base u c := by
  simp only [Value.okWide, ht] at hok
  obtain ⟨cs, rfl, h1, ts', h2, h3, h4⟩ := hok
  rw [hts] at h2
  cases h2
  refine ⟨cs, rfl, by omega, fun i u hu => ?_⟩
  have hlt : i < ts.length := (List.getElem?_eq_some_iff.1 hu).1
  obtain ⟨u', g1, g2⟩ := h4 i cs[i] (Array.getElem?_eq_getElem (by omega))
  rw [Nat.mod_eq_of_lt hlt, hu] at g1
  cases g1
  exact ⟨_, Array.getElem?_eq_getElem (by omega), g2⟩
end
end Go.Proofs.Ythchkddhibhenaa

namespace Go.Proofs.Ythchkddhibhenaa
open Go Go.ChangeShapes Go.WideShapes Go.ChangeAt Go.RowKit Go.Deep

theorem Try.own : ownKnob Try.prog.godebug = none := by kernel_rfl
theorem Try.laidOut : laidOutB Try.prog = true := by kernel_rfl

section
variable {H : Type} {enc : TypeId × Value → H}
/-- Types whose values may be carried. -/
def carryB (P : Program) (ts : List TypeId) : Bool := ts.all fun t => P.readableRec t && decide (t < P.types.size)
/-- All arguments read as they did. -/
theorem trodAll_carry {P : Program} (hl : laidOutB P = true) {W W' : World} (hb : Below W.heap.size W W') {sp : Nat → Bool} : ∀ {ts : List TypeId} {vs : List Value} {ds : List (DataW H)} {ps : List MemPlace}, carryB P ts = true →
    DataW.TrodAll enc P W 0 (fun _ => true) true ts vs ds ps → (∀ x ∈ ps, x.block < W.heap.size) → (∀ x ∈ ps, sp x.block = true) → DataW.TrodAll enc P W' 0 sp true ts vs ds ps
  | [], [], [], _, _, h, _, _ => h
  | [], _ :: _, _, _, _, h, _, _ => h.elim
  | [], [], _ :: _, _, _, h, _, _ => h.elim
  | t :: ts, [], _, _, _, h, _, _ => h.elim
  | t :: ts, _ :: _, [], _, _, h, _, _ => h.elim
  | t :: ts, v :: vs, d :: ds, ps, hc, ⟨p, q, h1, h2, e⟩, hlt, hsp => by
    subst e
    unfold carryB at hc
    rw [List.all_cons, Bool.and_eq_true, Bool.and_eq_true] at hc
    exact ⟨p, q, WideElems.Trod_stays hl hc.1.1 (of_decide_eq_true hc.1.2) h1 (fun x hx => hb.same (hlt x (List.mem_append_left _ hx))) (fun x hx => hsp x (List.mem_append_left _ hx)),
      trodAll_carry hl hb hc.2 h2 (fun x hx => hlt x (List.mem_append_right _ hx)) (fun x hx => hsp x (List.mem_append_right _ hx)), rfl⟩

/-- A law's end: it has returned a bool, and nothing that was there has turned. -/
theorem law_post {P : Program} (hl : laidOutB P = true) {f : Func} {s : ChangeSpec} {apart fresh handsOn again : Bool} {W W' : World} {args : Array Value} {ds : List (DataW H)} {before : List MemPlace} {tb : TypeId} {b : Bool}
    (hW : DataW.Whole enc P f.params.toList s.vars apart W args.toList ds [] before) (hv : s.vars = []) (hc : carryB P f.params.toList = true) (hrt : f.resultTypes = #[tb]) (ht : P.underlying tb = some .bool)
    (hr : (s.fn H (ds ++ [])).results = [.lit (.bool b)]) (ha : (s.fn H (ds ++ [])).args = ds) (hvn : (s.fn H (ds ++ [])).vars = []) (hb : Below W.heap.size W W') :
    s.post enc P f apart fresh handsOn again W args (.bool b) W' := by
  have hlt : ∀ p ∈ before, p.block < W.heap.size := fun p hp => hW.lt p hp
  have hWc := hW
  obtain ⟨p, q, hA, hV, rfl, hz, hn⟩ := hWc
  rw [hv] at hV
  obtain ⟨-, rfl⟩ := trodVars_none hV
  rw [List.append_nil] at hlt hz hn
  have hargs : ∀ sp : Nat → Bool, (∀ x ∈ p, sp x.block = true) → DataW.TrodAll enc P W' 0 sp true f.params.toList args.toList (s.fn H (ds ++ [])).args p := fun sp hsp => by
    rw [ha]; exact trodAll_carry hl hb hc hA hlt hsp
  have hres : ∀ (b0 : Nat) (sp : Nat → Bool) (hd : Bool), DataW.TrodAll enc P W' b0 sp hd f.resultTypes.toList ((Value.bool b).resultList f.resultTypes.size) (s.fn H (ds ++ [])).results [] := fun _ _ _ => by
    rw [hr, hrt]; exact trodAll_mk1 (shut_bool ht b)
  have hvars : ∀ sp : Nat → Bool, DataW.TrodVars enc P W' sp s.vars (s.fn H (ds ++ [])).vars [] := fun sp => by rw [hv, hvn]; rfl
  have hold : ∀ x ∈ p, (fun b => decide (b < W.heap.size)) x.block = true := fun x hx => by simpa using hlt x hx
  refine ⟨ds, [], p ++ [], [], p, [], hW, hres _ _ _, hargs _ hold, hvars _, World.keptBut_mono (fun x hx => ?_) (hb.frame (· ∈ p)), fun _ => ?_⟩
  · exact ⟨by rwa [List.append_nil], Or.inr (.inl hx)⟩
  · have hok := ok_one (f := f) (W' := W') (by rw [hrt]) rfl (okWide_bool_mk (W' := W') ht b)
    refine ⟨hok, _, _, ([] ++ p) ++ [], ⟨[] ++ p, [], trodAll_append (hargs _ (fun _ _ => rfl)) (hres _ _ _), hvars _, rfl, ?_, ?_⟩, ?_⟩
    · intro b0 off hp
      have hin : MemPlace.cell b0 off ∈ p := by simpa using hp
      rw [hb.frozen (hlt _ hin)]
      exact hz b0 off hin
    · intro hap
      simpa using hn hap
    · intro x hx _
      simpa using hx
end

set_option maxRecDepth 100000 in
/-- A cell of a byte. -/
theorem cell_u8 {w : World} {r : Reach} {base : Nat} {v : Value} (h : Cell.okWide Try.prog w r base 5 v) : ∃ n : Int, v = .int .u8 n ∧ 0 ≤ n ∧ n < 256 := by
  simp only [Cell.okWide, Try.underlying5] at h
  cases v <;> simp_all [Cell.ok]
  rename_i k n
  obtain ⟨rfl, h2⟩ := h
  simp [IntKind.has, IntKind.min, IntKind.max, IntKind.signed, IntKind.bits] at h2
  omega

section
variable {H : Type} {enc : TypeId × Value → H} {w : World} {base : Nat} {v : Value} {d : DataW H} {ps : List MemPlace}
/-- The types of a description's cells. -/
def smT : List TypeId := List.replicate 26 5
theorem sm_types : Try.prog.cellTypes Try.prog.depth 25 = some smT := by kernel_rfl
theorem sm_cells : Try.prog.cellsOf 25 = smT.length := by kernel_rfl
theorem sm_at (i : Nat) (hi : i < 26) : smT[i]? = some 5 := by unfold smT; rw [List.getElem?_replicate, if_pos hi]
set_option maxRecDepth 100000 in
/-- A description. -/
theorem arg_small (hok : Value.okWide Try.prog w .any base 25 v) : ∃ p : DesT, 0 ≤ p.1 ∧ v = .agg #[.int .u8 p.1, .int .u8 p.2.1, .int .u8 p.2.2.1.1, .int .u8 p.2.2.1.2.1, .int .u8 p.2.2.1.2.2.1, .int .u8 p.2.2.1.2.2.2, .int .u8 p.2.2.2.1.1, .int .u8 p.2.2.2.1.2.1, .int .u8 p.2.2.2.1.2.2.1, .int .u8 p.2.2.2.1.2.2.2, .int .u8 p.2.2.2.2.1.1, .int .u8 p.2.2.2.2.1.2.1, .int .u8 p.2.2.2.2.1.2.2.1, .int .u8 p.2.2.2.2.1.2.2.2, .int .u8 p.2.2.2.2.2.1.1, .int .u8 p.2.2.2.2.2.1.2.1, .int .u8 p.2.2.2.2.2.1.2.2.1, .int .u8 p.2.2.2.2.2.1.2.2.2, .int .u8 p.2.2.2.2.2.2.1.1, .int .u8 p.2.2.2.2.2.2.1.2.1, .int .u8 p.2.2.2.2.2.2.1.2.2.1, .int .u8 p.2.2.2.2.2.2.1.2.2.2, .int .u8 p.2.2.2.2.2.2.2.1, .int .u8 p.2.2.2.2.2.2.2.2.1, .int .u8 p.2.2.2.2.2.2.2.2.2.1, .int .u8 p.2.2.2.2.2.2.2.2.2.2] := by
  obtain ⟨cs, rfl, h1, h2⟩ := op_agg Try.underlying25 sm_types sm_cells hok
  have h1' : cs.size = 26 := h1
  obtain ⟨f, hf⟩ := choose_lt (α := Int) (n := 26) (p := fun i n => cs[i]? = some (.int .u8 n) ∧ 0 ≤ n ∧ n < 256) (fun i hi => by
    obtain ⟨c, g1, g2⟩ := h2 i 5 (sm_at i hi)
    obtain ⟨n, rfl, g3⟩ := cell_u8 g2
    exact ⟨n, g1, g3⟩)
  have hcs : cs = ((List.range 26).map fun i => Value.int .u8 (f i)).toArray := by
    apply Array.ext_getElem?
    intro i
    by_cases hi : i < 26
    · rw [(hf i hi).1]; simp [hi]
    · rw [Array.getElem?_eq_none (by omega), Array.getElem?_eq_none (by simp; omega)]
  exact ⟨(f 0, f 1, ((f 2, f 3, f 4, f 5), (f 6, f 7, f 8, f 9), (f 10, f 11, f 12, f 13), (f 14, f 15, f 16, f 17), (f 18, f 19, f 20, f 21), (f 22, f 23, f 24, f 25))), (hf 0 (by omega)).2.1, by rw [hcs]; rfl⟩
end
end Go.Proofs.Ythchkddhibhenaa

namespace Go.Proofs.Ythchkddhibhenaa
theorem int_nodup_len {n : Nat} {l : List Int} (hn : l.Nodup) (hr : ∀ x ∈ l, 0 ≤ x ∧ x < (n : Int)) : l.length ≤ n := by
  have h := nodup_len n (l.map Int.toNat) (by
    unfold List.Nodup
    rw [List.pairwise_map]
    refine List.Pairwise.imp_of_mem (fun {x y} hx hy hxy e => hxy ?_) hn
    have := hr x hx
    have := hr y hy
    omega) (fun x hx => by
    obtain ⟨y, hy, rfl⟩ := List.mem_map.1 hx
    have := hr y hy
    omega)
  simpa using h
/-- Increasing lists with the same elements are one. -/
theorem inc_ext : ∀ {xs ys : List Int}, Inc xs → Inc ys → (∀ x, x ∈ xs ↔ x ∈ ys) → xs = ys
  | [], [], _, _, _ => rfl
  | [], y :: ys, _, _, h => by have := (h y).2 (List.mem_cons_self ..); cases this
  | x :: xs, [], _, _, h => by have := (h x).1 (List.mem_cons_self ..); cases this
  | x :: xs, y :: ys, hx, hy, h => by
    obtain ⟨x1, x2⟩ := List.pairwise_cons.1 hx
    obtain ⟨y1, y2⟩ := List.pairwise_cons.1 hy
    have e : x = y := by
      rcases List.mem_cons.1 ((h x).1 (List.mem_cons_self ..)) with h1 | h1
      · exact h1
      · rcases List.mem_cons.1 ((h y).2 (List.mem_cons_self ..)) with h2 | h2
        · exact h2.symm
        · have := x1 y h2
          have := y1 x h1
          omega
    subst e
    rw [inc_ext x2 y2 (fun z => ?_)]
    constructor
    · intro hz
      rcases List.mem_cons.1 ((h z).1 (List.mem_cons_of_mem _ hz)) with h1 | h1
      · have := x1 z hz; omega
      · exact h1
    · intro hz
      rcases List.mem_cons.1 ((h z).2 (List.mem_cons_of_mem _ hz)) with h1 | h1
      · have := y1 z hz; omega
      · exact h1
theorem Gd_true {fl : List Bool} {k : Nat} {s : Int} (_h0 : 0 ≤ s) (hk : k < fl.length) : Gd (fl.set k true) s ↔ Gd fl s ∨ s.toNat = k := by
  unfold Gd
  by_cases e : k = s.toNat
  · subst e
    rw [List.getD_eq_getElem?_getD, List.getElem?_set_self hk]
    exact ⟨fun _ => .inr rfl, fun _ => rfl⟩
  · rw [List.getD_eq_getElem?_getD, List.getElem?_set_ne e, ← List.getD_eq_getElem?_getD]
    exact ⟨.inl, fun h => h.elim id (fun h => absurd h.symm e)⟩

/-- One state leads to another. -/
inductive RchC (es : List Ed) : Int → Int → Prop
  | refl (s : Int) : RchC es s s
  | step {x : Ed} {t : Int} (hx : x ∈ es) (h : RchC es x.t t) : RchC es x.f t
theorem RchC.trans {es : List Ed} {a b c : Int} (h : RchC es a b) (h' : RchC es b c) : RchC es a c := by
  induction h with
  | refl s => exact h'
  | step hx _ ih => exact .step hx (ih h')
theorem RchC.edge {es : List Ed} {x : Ed} (hx : x ∈ es) : RchC es x.f x.t := .step hx (.refl _)
/-- Both lead to each other. -/
def Scc (es : List Ed) (a b : Int) : Prop := RchC es a b ∧ RchC es b a
theorem Scc.refl (es : List Ed) (a : Int) : Scc es a a := ⟨.refl _, .refl _⟩
theorem Scc.symm {es : List Ed} {a b : Int} (h : Scc es a b) : Scc es b a := ⟨h.2, h.1⟩
theorem Scc.trans {es : List Ed} {a b c : Int} (h : Scc es a b) (h' : Scc es b c) : Scc es a c := ⟨h.1.trans h'.1, h'.2.trans h.2⟩
/-- The order in which a search in depth finishes the states. -/
structure FinOrd (es : List Ed) (L : List Int) : Prop where
  nd : L.Nodup
  good : ∀ (i : Nat) (hi : i < L.length), ∀ y ∈ L.take (i + 1), ∀ x ∈ es, x.f = y → x.t ∈ L.take (i + 1) ∨ (x.t ∈ L ∧ RchC es x.t L[i])
/-- A path either stays within the first states, or leaves them by an edge. -/
theorem RchC.leave {es : List Ed} {A : List Int} {a b : Int} (h : RchC es a b) (ha : a ∈ A) : b ∈ A ∨ ∃ x ∈ es, x.f ∈ A ∧ x.t ∉ A ∧ RchC es a x.f ∧ RchC es x.t b := by
  induction h with
  | refl s => exact .inl ha
  | @step x t hx h ih =>
    by_cases hm : x.t ∈ A
    · rcases ih hm with h1 | ⟨y, hy, h2, h3, h4, h5⟩
      · exact .inl h1
      · exact .inr ⟨y, hy, h2, h3, .step hx h4, h5⟩
    · exact .inr ⟨x, hx, ha, hm, .refl _, h⟩
/-- Of the states that are connected with u, one finishes no earlier than what u leads to. -/
theorem FinOrd.last {es : List Ed} {L : List Int} (h : FinOrd es L) : ∀ (d i : Nat) (hi : i < L.length), L.length - i ≤ d → ∀ v, RchC es L[i] v → ∃ (k : Nat) (hk : k < L.length), Scc es L[k] L[i] ∧ v ∈ L.take (k + 1)
  | 0, i, hi, hd, _, _ => by omega
  | d + 1, i, hi, hd, v, hv => by
    have hm : L[i] ∈ L.take (i + 1) := by
      rw [List.take_succ_eq_append_getElem hi]
      exact List.mem_append_right _ (List.mem_singleton.2 rfl)
    rcases hv.leave hm with h1 | ⟨x, hx, h2, h3, h4, h5⟩
    · exact ⟨i, hi, Scc.refl _ _, h1⟩
    · rcases h.good i hi x.f h2 x hx rfl with h6 | ⟨h6, h7⟩
      · exact absurd h6 h3
      · obtain ⟨j, hj, hje⟩ := List.mem_iff_getElem.1 h6
        have hji : i < j := by
          rcases Nat.lt_or_ge i j with h8 | h8
          · exact h8
          · exact absurd (by rw [← hje]; exact List.mem_iff_getElem.2 ⟨j, by rw [List.length_take]; omega, by rw [List.getElem_take]⟩) h3
        rw [← hje] at h5 h7
        obtain ⟨k, hk, h9, h10⟩ := h.last d j hj (by omega) v h5
        refine ⟨k, hk, h9.trans ⟨h7, ?_⟩, h10⟩
        rw [hje]
        exact h4.trans (RchC.edge hx)
/-- A set of states that is a union of components, of which the last one that finishes is r: what leads to r within it is connected with r. -/
theorem FinOrd.root {es : List Ed} {L : List Int} (h : FinOrd es L) {U : Int → Prop} (hU : ∀ a b, Scc es a b → U a → U b) {r : Nat} (hr : r < L.length) (hlast : ∀ (k : Nat) (hk : k < L.length), U L[k] → k ≤ r) {u : Int} (hu : U u) (huL : u ∈ L) (hur : RchC es u L[r]) : Scc es u L[r] := by
  obtain ⟨i, hi, rfl⟩ := List.mem_iff_getElem.1 huL
  obtain ⟨k, hk, h1, h2⟩ := h.last (L.length - i) i hi (Nat.le_refl _) _ hur
  have hkr := hlast k hk (hU _ _ h1.symm hu)
  obtain ⟨j, hj, hje⟩ := List.mem_iff_getElem.1 h2
  rw [List.length_take] at hj
  rw [List.getElem_take] at hje
  have hjr : j = r := by
    rcases Nat.lt_trichotomy j r with h3 | h3 | h3
    · exact absurd hje (List.pairwise_iff_getElem.1 h.nd j r (by omega) hr h3)
    · exact h3
    · exact absurd hje.symm (List.pairwise_iff_getElem.1 h.nd r j hr (by omega) h3)
  have hkr2 : k = r := by omega
  subst hkr2
  exact h1.symm

/-- The places of the search: a state and the edges of it that are left. -/
abbrev Stk := List (Int × List Ed)
def outE (es : List Ed) (s : Int) : List Ed := es.filter fun x => decide (x.f = s)
/-- The states on the stack and those that are finished. -/
abbrev held (st : Stk) (ord : List Int) : List Int := st.map (·.1) ++ ord
/-- What holds while the search goes on. -/
structure FIC (es : List Ed) (n : Nat) (st : Stk) (seen : List Bool) (ord : List Int) : Prop where
  len : seen.length = n
  rng : ∀ t ∈ held st ord, 0 ≤ t ∧ t < (n : Int)
  nd : (held st ord).Nodup
  seen : ∀ t, 0 ≤ t → t < (n : Int) → (Gd seen t ↔ t ∈ held st ord)
  fin : ∀ y ∈ ord, ∀ x ∈ es, x.f = y → x.t ∈ held st ord
  own : ∀ p ∈ st, ∀ x ∈ p.2, x ∈ es ∧ x.f = p.1
  stk : ∀ p ∈ st, ∀ x ∈ es, x.f = p.1 → x ∈ p.2 ∨ x.t ∈ held st ord
  path : (st.map (·.1)).Pairwise (fun a b => RchC es b a)
  good : ∀ (i : Nat) (hi : i < ord.length), ∀ y ∈ ord.take (i + 1), ∀ x ∈ es, x.f = y → x.t ∈ ord.take (i + 1) ∨ (x.t ∈ held st ord ∧ RchC es x.t ord[i])
theorem held_pop {s : Int} {r : List Ed} {st : Stk} {ord : List Int} (t : Int) : t ∈ held st (ord ++ [s]) ↔ t ∈ held ((s, r) :: st) ord := by
  simp only [held, List.map_cons, List.mem_append, List.mem_cons, List.not_mem_nil, or_false]
  constructor
  · rintro (h | h | h)
    · exact .inl (.inr h)
    · exact .inr h
    · exact .inl (.inl h)
  · rintro ((h | h) | h)
    · exact .inr (.inr h)
    · exact .inl h
    · exact .inr (.inl h)
section
variable {es : List Ed} {n : Nat} {st : Stk} {seen : List Bool} {ord : List Int}
/-- A state is finished. -/
theorem FIC.pop {s : Int} (h : FIC es n ((s, []) :: st) seen ord) : FIC es n st seen (ord ++ [s]) := by
  have hp := fun t => held_pop (s := s) (r := []) (st := st) (ord := ord) t
  have hnd := h.nd
  simp only [held, List.map_cons, List.cons_append, List.nodup_cons] at hnd
  have hpath := h.path
  rw [List.map_cons, List.pairwise_cons] at hpath
  have hs0 := h.stk (s, []) (List.mem_cons_self ..)
  refine ⟨h.len, fun t ht => h.rng t ((hp t).1 ht), ?_, fun t h0 h1 => (h.seen t h0 h1).trans (hp _).symm, fun y hy x hx hf => ?_, fun p hp' => h.own p (List.mem_cons_of_mem _ hp'), fun p hp' x hx hf => (h.stk p (List.mem_cons_of_mem _ hp') x hx hf).imp id (fun h2 => (hp _).2 h2), hpath.2, fun i hi y hy x hx hf => ?_⟩
  · show (st.map (·.1) ++ (ord ++ [s])).Nodup
    rw [← List.append_assoc, List.nodup_append]
    refine ⟨hnd.2, by simp, fun a ha b hb e => ?_⟩
    rw [List.mem_singleton.1 hb] at e
    exact hnd.1 (e ▸ ha)
  · rcases List.mem_append.1 hy with h1 | h1
    · exact (hp _).2 (h.fin y h1 x hx hf)
    · rw [List.mem_singleton.1 h1] at hf
      rcases hs0 x hx hf with h2 | h2
      · cases h2
      · exact (hp _).2 h2
  · rcases Nat.lt_or_ge i ord.length with h1 | h1
    · rw [List.take_append_of_le_length (by omega)] at hy ⊢
      rcases h.good i h1 y hy x hx hf with h2 | ⟨h2, h3⟩
      · exact .inl h2
      · refine .inr ⟨(hp _).2 h2, ?_⟩
        rw [List.getElem_append_left h1]
        exact h3
    · have hil : i = ord.length := by rw [List.length_append, List.length_singleton] at hi; omega
      subst hil
      rw [List.take_of_length_le (by simp)] at hy ⊢
      have hx2 : x.t ∈ held ((s, []) :: st) ord := by
        rcases List.mem_append.1 hy with h2 | h2
        · exact h.fin y h2 x hx hf
        · rw [List.mem_singleton.1 h2] at hf
          rcases hs0 x hx hf with h3 | h3
          · cases h3
          · exact h3
      have hx3 := (hp _).2 hx2
      rcases List.mem_append.1 hx3 with h2 | h2
      · right
        refine ⟨hx3, ?_⟩
        rw [List.getElem_append_right (by omega)]
        simp only [Nat.sub_self, List.getElem_cons_zero]
        exact hpath.1 _ h2
      · exact .inl h2
/-- An edge to a state that has been seen. -/
theorem FIC.skip {s : Int} {x : Ed} {rem : List Ed} (h : FIC es n ((s, x :: rem) :: st) seen ord) (hx : x.t ∈ held ((s, x :: rem) :: st) ord) : FIC es n ((s, rem) :: st) seen ord := by
  refine ⟨h.len, h.rng, h.nd, h.seen, h.fin, fun p hp y hy => ?_, fun p hp y hy hf => ?_, h.path, h.good⟩
  · rcases List.mem_cons.1 hp with rfl | hp
    · exact h.own (s, x :: rem) (List.mem_cons_self ..) y (List.mem_cons_of_mem _ hy)
    · exact h.own p (List.mem_cons_of_mem _ hp) y hy
  · rcases List.mem_cons.1 hp with rfl | hp
    · rcases h.stk (s, x :: rem) (List.mem_cons_self ..) y hy hf with h1 | h1
      · rcases List.mem_cons.1 h1 with rfl | h1
        · exact .inr hx
        · exact .inl h1
      · exact .inr h1
    · exact h.stk p (List.mem_cons_of_mem _ hp) y hy hf
/-- A state is come to. -/
theorem FIC.enter {t : Int} (h : FIC es n st seen ord) (h0 : 0 ≤ t) (h1 : t < (n : Int)) (hn : t ∉ held st ord) (hr : ∀ s ∈ st.map (·.1), RchC es s t) : FIC es n ((t, outE es t) :: st) (seen.set t.toNat true) ord := by
  have hsub : ∀ u, u ∈ held st ord → u ∈ held ((t, outE es t) :: st) ord := fun u hu => List.mem_cons_of_mem _ hu
  refine ⟨by rw [List.length_set]; exact h.len, fun u hu => ?_, List.nodup_cons.2 ⟨hn, h.nd⟩, fun u hu0 hu1 => ?_, fun y hy x hx hf => hsub _ (h.fin y hy x hx hf), fun p hp x hx => ?_, fun p hp x hx hf => ?_, List.pairwise_cons.2 ⟨fun s hs => hr s hs, h.path⟩, fun i hi y hy x hx hf => (h.good i hi y hy x hx hf).imp id (fun ⟨a, b⟩ => ⟨hsub _ a, b⟩)⟩
  · rcases List.mem_cons.1 hu with rfl | hu
    · exact ⟨h0, h1⟩
    · exact h.rng u hu
  · rw [Gd_true hu0 (by rw [h.len]; omega), h.seen u hu0 hu1]
    constructor
    · rintro (h2 | h2)
      · exact hsub _ h2
      · have : u = t := by omega
        rw [this]
        exact List.mem_cons_self ..
    · intro h2
      rcases List.mem_cons.1 h2 with rfl | h2
      · exact .inr rfl
      · exact .inl h2
  · rcases List.mem_cons.1 hp with rfl | hp
    · have := List.mem_filter.1 hx
      exact ⟨this.1, by simpa using this.2⟩
    · exact h.own p hp x hx
  · rcases List.mem_cons.1 hp with rfl | hp
    · exact .inl (List.mem_filter.2 ⟨hx, by simpa using hf⟩)
    · exact (h.stk p hp x hx hf).imp id (hsub _)
theorem FIC.push {s : Int} {x : Ed} {rem : List Ed} (h : FIC es n ((s, x :: rem) :: st) seen ord) (h0 : 0 ≤ x.t) (h1 : x.t < (n : Int)) (hn : x.t ∉ held ((s, x :: rem) :: st) ord) : FIC es n ((x.t, outE es x.t) :: (s, rem) :: st) (seen.set x.t.toNat true) ord := by
  have hx := h.own (s, x :: rem) (List.mem_cons_self ..) x (List.mem_cons_self ..)
  have hpath := h.path
  rw [List.map_cons, List.pairwise_cons] at hpath
  have hst : ∀ u ∈ s :: st.map (·.1), RchC es u x.t := by
    intro u hu
    have he : RchC es s x.t := by have := RchC.edge hx.1; rwa [hx.2] at this
    rcases List.mem_cons.1 hu with rfl | hu
    · exact he
    · exact (hpath.1 u hu).trans he
  have he := h.enter h0 h1 hn hst
  refine ⟨he.len, he.rng, he.nd, he.seen, he.fin, fun p hp y hy => ?_, fun p hp y hy hf => ?_, he.path, he.good⟩
  · rcases List.mem_cons.1 hp with rfl | hp
    · exact he.own _ (List.mem_cons_self ..) y hy
    · rcases List.mem_cons.1 hp with rfl | hp
      · exact h.own (s, x :: rem) (List.mem_cons_self ..) y (List.mem_cons_of_mem _ hy)
      · exact h.own p (List.mem_cons_of_mem _ hp) y hy
  · rcases List.mem_cons.1 hp with rfl | hp
    · exact he.stk _ (List.mem_cons_self ..) y hy hf
    · rcases List.mem_cons.1 hp with rfl | hp
      · rcases he.stk (s, x :: rem) (List.mem_cons_of_mem _ (List.mem_cons_self ..)) y hy hf with h3 | h3
        · rcases List.mem_cons.1 h3 with rfl | h3
          · exact .inr (List.mem_cons_self ..)
          · exact .inl h3
        · exact .inr h3
      · exact he.stk p (List.mem_cons_of_mem _ (List.mem_cons_of_mem _ hp)) y hy hf
end
/-- The search. -/
def dfsL (es : List Ed) : Nat → Stk → List Bool → List Int → List Bool × List Int
  | 0, _, seen, ord => (seen, ord)
  | _ + 1, [], seen, ord => (seen, ord)
  | f + 1, (s, []) :: st, seen, ord => dfsL es f st seen (ord ++ [s])
  | f + 1, (s, x :: rem) :: st, seen, ord => if seen.getD x.t.toNat false = true then dfsL es f ((s, rem) :: st) seen ord else dfsL es f ((x.t, outE es x.t) :: (s, rem) :: st) (seen.set x.t.toNat true) ord
/-- How much is left to do. -/
def leftL (es : List Ed) (n : Nat) (st : Stk) (seen : List Bool) : Nat := (st.map fun p => p.2.length + 1).sum + ((List.range n).map fun t => if seen.getD t false = true then 0 else (outE es (t : Int)).length + 2).sum
theorem sum_set {n : Nat} {seen : List Bool} {g : Nat → Nat} (hl : seen.length = n) {t : Nat} (ht : t < n) (hs : seen.getD t false = false) : ∀ k, k ≤ n → ((List.range k).map fun i => if (seen.set t true).getD i false = true then 0 else g i).sum + (if t < k then g t else 0) = ((List.range k).map fun i => if seen.getD i false = true then 0 else g i).sum
  | 0, _ => by simp
  | k + 1, hk => by
    have ih := sum_set (g := g) hl ht hs k (by omega)
    rw [List.range_succ, List.map_append, List.map_append, List.sum_append, List.sum_append, ← ih]
    simp only [List.map_cons, List.map_nil, List.sum_cons, List.sum_nil, Nat.add_zero]
    by_cases e : t = k
    · subst e
      rw [List.getD_eq_getElem?_getD, List.getElem?_set_self (by omega), hs]
      simp
    · rw [show (seen.set t true).getD k false = seen.getD k false by rw [List.getD_eq_getElem?_getD, List.getElem?_set_ne e, ← List.getD_eq_getElem?_getD]]
      by_cases h1 : t < k
      · have h2 : t < k + 1 := by omega
        simp only [h1, h2, if_true]
        omega
      · have h2 : ¬ t < k + 1 := by omega
        simp only [h1, h2, if_false]
        omega
theorem leftL_enter {es : List Ed} {n : Nat} {st : Stk} {seen : List Bool} (hl : seen.length = n) {t : Int} (h0 : 0 ≤ t) (h1 : t < (n : Int)) (hs : seen.getD t.toNat false = false) : leftL es n ((t, outE es t) :: st) (seen.set t.toNat true) + 1 = leftL es n st seen := by
  have h := sum_set (g := fun t => (outE es (t : Int)).length + 2) hl (t := t.toNat) (by omega) hs n (Nat.le_refl _)
  rw [if_pos (by omega), Int.toNat_of_nonneg h0] at h
  unfold leftL
  rw [List.map_cons, List.sum_cons]
  dsimp only at h ⊢
  omega
/-- The search ends, with no state left on the stack. -/
theorem dfs_says {es : List Ed} {n : Nat} (hes : ∀ x ∈ es, 0 ≤ x.t ∧ x.t < (n : Int)) : ∀ (f : Nat) (st : Stk) (seen : List Bool) (ord : List Int), FIC es n st seen ord → leftL es n st seen ≤ f →
    FIC es n [] (dfsL es f st seen ord).1 (dfsL es f st seen ord).2 ∧ (∀ t ∈ held st ord, t ∈ (dfsL es f st seen ord).2)
  | 0, [], seen, ord, h, _ => ⟨h, fun t ht => ht⟩
  | 0, p :: st, seen, ord, _, hf => by
    unfold leftL at hf
    rw [List.map_cons, List.sum_cons] at hf
    omega
  | f + 1, [], seen, ord, h, _ => ⟨h, fun t ht => ht⟩
  | f + 1, (s, []) :: st, seen, ord, h, hf => by
    have hf2 : leftL es n st seen ≤ f := by
      unfold leftL at hf ⊢
      rw [List.map_cons, List.sum_cons] at hf
      dsimp only at hf
      simp only [List.length_nil] at hf
      omega
    obtain ⟨h1, h2⟩ := dfs_says hes f st seen (ord ++ [s]) h.pop hf2
    rw [dfsL]
    exact ⟨h1, fun t ht => h2 t ((held_pop t).2 ht)⟩
  | f + 1, (s, x :: rem) :: st, seen, ord, h, hf => by
    have hx := h.own (s, x :: rem) (List.mem_cons_self ..) x (List.mem_cons_self ..)
    have hr := hes x hx.1
    have hs := h.seen x.t hr.1 hr.2
    have hm : leftL es n ((s, x :: rem) :: st) seen = leftL es n ((s, rem) :: st) seen + 1 := by
      unfold leftL
      rw [List.map_cons, List.sum_cons, List.map_cons, List.sum_cons]
      dsimp only
      rw [List.length_cons]
      omega
    rw [dfsL]
    by_cases hg : seen.getD x.t.toNat false = true
    · rw [if_pos hg]
      obtain ⟨h1, h2⟩ := dfs_says hes f ((s, rem) :: st) seen ord (h.skip (hs.1 hg)) (by omega)
      exact ⟨h1, h2⟩
    · rw [if_neg hg]
      have hle := leftL_enter (es := es) (st := (s, rem) :: st) h.len hr.1 hr.2 (by simpa using hg)
      obtain ⟨h1, h2⟩ := dfs_says hes f ((x.t, outE es x.t) :: (s, rem) :: st) (seen.set x.t.toNat true) ord (h.push hr.1 hr.2 (fun e => hg (hs.2 e))) (by omega)
      exact ⟨h1, fun t ht => h2 t (List.mem_cons_of_mem _ ht)⟩
/-- All states in the order in which they are finished. -/
def ordStep (es : List Ed) (n : Nat) (S : List Bool × List Int) (s : Nat) : List Bool × List Int :=
  if S.1.getD s false = true then S else dfsL es (leftL es n [((s : Int), outE es (s : Int))] (S.1.set s true)) [((s : Int), outE es (s : Int))] (S.1.set s true) S.2
def orderF (es : List Ed) (n : Nat) : List Bool × List Int := (List.range n).foldl (ordStep es n) (List.replicate n false, [])
theorem order_fold {es : List Ed} {n : Nat} (hes : ∀ x ∈ es, 0 ≤ x.t ∧ x.t < (n : Int)) : ∀ (k : Nat), k ≤ n →
    FIC es n [] ((List.range k).foldl (ordStep es n) (List.replicate n false, [])).1 ((List.range k).foldl (ordStep es n) (List.replicate n false, [])).2 ∧ ∀ t, t < k → (t : Int) ∈ ((List.range k).foldl (ordStep es n) (List.replicate n false, [])).2
  | 0, _ => by
    refine ⟨⟨by simp, fun t ht => (by cases ht), List.nodup_nil, fun t h0 h1 => ?_, fun y hy => (by cases hy), fun p hp => (by cases hp), fun p hp => (by cases hp), List.Pairwise.nil, fun i hi => (by cases hi)⟩, fun t ht => absurd ht (Nat.not_lt_zero _)⟩
    unfold Gd
    have e : (List.replicate n false).getD t.toNat false = false := by
      rw [List.getD_eq_getElem?_getD, List.getElem?_replicate]
      split <;> rfl
    simp only [List.range_zero, List.foldl_nil]
    rw [e]
    simp [held]
  | k + 1, hk => by
    obtain ⟨h1, h2⟩ := order_fold hes k (by omega)
    rw [List.range_succ, List.foldl_append]
    simp only [List.foldl_cons, List.foldl_nil]
    generalize (List.range k).foldl (ordStep es n) (List.replicate n false, []) = S at *
    have hs := h1.seen (k : Int) (by omega) (by omega)
    unfold ordStep
    by_cases hg : S.1.getD k false = true
    · rw [if_pos hg]
      refine ⟨h1, fun t ht => ?_⟩
      by_cases e : t = k
      · subst e
        have := hs.1 (by unfold Gd; rw [Int.toNat_natCast]; exact hg)
        simpa [held] using this
      · exact h2 t (by omega)
    · rw [if_neg hg]
      have hn : (k : Int) ∉ held [] S.2 := fun e => hg (by have := hs.2 e; unfold Gd at this; rwa [Int.toNat_natCast] at this)
      have he := h1.enter (t := (k : Int)) (by omega) (by omega) hn (fun s hs => by cases hs)
      rw [Int.toNat_natCast] at he
      obtain ⟨h3, h4⟩ := dfs_says hes _ _ _ _ he (Nat.le_refl _)
      refine ⟨h3, fun t ht => ?_⟩
      by_cases e : t = k
      · subst e
        exact h4 _ (List.mem_cons_self ..)
      · exact h4 _ (List.mem_cons_of_mem _ (by simpa [held] using h2 t (by omega)))
/-- The order of finishing is one. -/
theorem order_says {es : List Ed} {n : Nat} (hes : ∀ x ∈ es, 0 ≤ x.t ∧ x.t < (n : Int)) : FinOrd es (orderF es n).2 ∧ (∀ t ∈ (orderF es n).2, 0 ≤ t ∧ t < (n : Int)) ∧ ∀ t, t < n → (t : Int) ∈ (orderF es n).2 := by
  obtain ⟨h1, h2⟩ := order_fold hes n (Nat.le_refl _)
  have hheld : ∀ t, t ∈ held [] (orderF es n).2 ↔ t ∈ (orderF es n).2 := fun t => by simp [held]
  have hnd := h1.nd
  refine ⟨⟨hnd, fun i hi y hy x hx hf => ?_⟩, fun t ht => h1.rng t ((hheld t).2 ht), h2⟩
  exact (h1.good i hi y hy x hx hf).imp id (fun ⟨a, b⟩ => ⟨(hheld _).1 a, b⟩)

/-- A state that leads to the group is looked at. -/
def grpStep (S : List Bool × List Int) (p : Int) : List Bool × List Int := if S.1.getD p.toNat false = true then S else (S.1.set p.toNat true, S.2 ++ [p])
def preds (es : List Ed) (t : Int) : List Int := (es.filter fun x => decide (x.t = t)).map Ed.f
def grpLoop (es : List Ed) : Nat → Nat → List Bool × List Int → List Bool × List Int
  | 0, _, S => S
  | f + 1, i, S => if i < S.2.length then grpLoop es f (i + 1) ((preds es (S.2.getD i 0)).foldl grpStep S) else S
/-- The edges from states that have no class yet. -/
def freeE (es : List Ed) (cls : List Bool) : List Ed := es.filter fun x => !cls.getD x.f.toNat false
/-- What holds while a group grows; cls0: the classes before it. -/
structure GrpI (es : List Ed) (n : Nat) (cls0 : List Bool) (root : Int) (S : List Bool × List Int) : Prop where
  len : S.1.length = n
  rng : ∀ t ∈ S.2, 0 ≤ t ∧ t < (n : Int)
  nd : S.2.Nodup
  cls : ∀ t, 0 ≤ t → t < (n : Int) → (Gd S.1 t ↔ Gd cls0 t ∨ t ∈ S.2)
  new : ∀ t ∈ S.2, ¬ Gd cls0 t ∧ RchC (freeE es cls0) t root
  root : root ∈ S.2
theorem GrpI.step {es : List Ed} {n : Nat} {cls0 : List Bool} {root : Int} {S : List Bool × List Int} (h : GrpI es n cls0 root S) {x : Ed} (hx : x ∈ es) (ht : x.t ∈ S.2) (h0 : 0 ≤ x.f) (h1 : x.f < (n : Int)) :
    GrpI es n cls0 root (grpStep S x.f) ∧ Gd (grpStep S x.f).1 x.f ∧ (∃ l, (grpStep S x.f).2 = S.2 ++ l) ∧ ∀ t, Gd S.1 t → 0 ≤ t → Gd (grpStep S x.f).1 t := by
  unfold grpStep
  by_cases hg : S.1.getD x.f.toNat false = true
  · rw [if_pos hg]
    exact ⟨h, hg, ⟨[], (List.append_nil _).symm⟩, fun t h _ => h⟩
  · rw [if_neg hg]
    have hc := h.cls x.f h0 h1
    have hl : x.f.toNat < S.1.length := by rw [h.len]; omega
    have hfr : ¬ Gd cls0 x.f := fun e => hg (hc.2 (.inl e))
    have hnot : x.f ∉ S.2 := fun e => hg (hc.2 (.inr e))
    have hfe : x ∈ freeE es cls0 := List.mem_filter.2 ⟨hx, by unfold Gd at hfr; simpa using hfr⟩
    refine ⟨⟨by rw [List.length_set]; exact h.len, fun t ht' => ?_, ?_, fun t ha hb => ?_, fun t ht' => ?_, List.mem_append_left _ h.root⟩, (Gd_true h0 hl).2 (.inr rfl), ⟨_, rfl⟩, fun t ht' ha => (Gd_true ha hl).2 (.inl ht')⟩
    · rcases List.mem_append.1 ht' with h2 | h2
      · exact h.rng t h2
      · rw [List.mem_singleton.1 h2]; exact ⟨h0, h1⟩
    · rw [List.nodup_append]
      exact ⟨h.nd, by simp, fun a ha b hb e => by rw [List.mem_singleton.1 hb] at e; exact hnot (e ▸ ha)⟩
    · rw [Gd_true ha hl, h.cls t ha hb, List.mem_append, List.mem_singleton]
      constructor
      · rintro ((h2 | h2) | h2)
        · exact .inl h2
        · exact .inr (.inl h2)
        · exact .inr (.inr (by omega))
      · rintro (h2 | h2 | h2)
        · exact .inl (.inl h2)
        · exact .inl (.inr h2)
        · exact .inr (by rw [h2])
    · rcases List.mem_append.1 ht' with h2 | h2
      · exact h.new t h2
      · rw [List.mem_singleton.1 h2]
        exact ⟨hfr, .step hfe (h.new _ ht).2⟩
theorem grp_fold {es : List Ed} {n : Nat} {cls0 : List Bool} {root : Int} (hes : ∀ x ∈ es, 0 ≤ x.f ∧ x.f < (n : Int)) {t : Int} : ∀ (l : List Ed) (S : List Bool × List Int), GrpI es n cls0 root S → t ∈ S.2 → (∀ x ∈ l, x ∈ es ∧ x.t = t) →
    GrpI es n cls0 root ((l.map Ed.f).foldl grpStep S) ∧ (∀ x ∈ l, Gd ((l.map Ed.f).foldl grpStep S).1 x.f) ∧ (∃ r, ((l.map Ed.f).foldl grpStep S).2 = S.2 ++ r) ∧ ∀ u, Gd S.1 u → 0 ≤ u → Gd ((l.map Ed.f).foldl grpStep S).1 u
  | [], S, h, _, _ => ⟨h, fun x hx => (by cases hx), ⟨[], (List.append_nil _).symm⟩, fun u h _ => h⟩
  | x :: l, S, h, ht, hl => by
    have hx := hl x (List.mem_cons_self ..)
    have hr := hes x hx.1
    obtain ⟨h1, h2, ⟨r, h3⟩, h4⟩ := h.step hx.1 (by rw [hx.2]; exact ht) hr.1 hr.2
    obtain ⟨h5, h6, ⟨r2, h7⟩, h8⟩ := grp_fold hes l _ h1 (by rw [h3]; exact List.mem_append_left _ ht) (fun y hy => hl y (List.mem_cons_of_mem _ hy))
    rw [List.map_cons, List.foldl_cons]
    refine ⟨h5, fun y hy => ?_, ⟨r ++ r2, by rw [h7, h3, List.append_assoc]⟩, fun u hu h0 => h8 u (h4 u hu h0) h0⟩
    rcases List.mem_cons.1 hy with rfl | hy
    · exact h8 _ h2 hr.1
    · exact h6 y hy
/-- The group is what leads to the root through states without a class. -/
theorem grp_loop {es : List Ed} {n : Nat} {cls0 : List Bool} {root : Int} (hes : ∀ x ∈ es, 0 ≤ x.f ∧ x.f < (n : Int)) : ∀ (f i : Nat) (S : List Bool × List Int), GrpI es n cls0 root S → (∀ k, k < i → k < S.2.length → ∀ x ∈ es, some x.t = S.2[k]? → Gd S.1 x.f) → n + 1 ≤ i + f →
    GrpI es n cls0 root (grpLoop es f i S) ∧ ∀ x ∈ es, x.t ∈ (grpLoop es f i S).2 → Gd (grpLoop es f i S).1 x.f
  | 0, i, S, h, hd, hf => by
    have := int_nodup_len h.nd h.rng
    rw [grpLoop]
    refine ⟨h, fun x hx ht => ?_⟩
    obtain ⟨k, hk, hke⟩ := List.mem_iff_getElem.1 ht
    exact hd k (by omega) hk x hx (by rw [List.getElem?_eq_getElem hk, hke])
  | f + 1, i, S, h, hd, hf => by
    rw [grpLoop]
    by_cases hi : i < S.2.length
    · rw [if_pos hi]
      have hg : S.2.getD i 0 = S.2[i] := by rw [List.getD_eq_getElem?_getD, List.getElem?_eq_getElem hi]; rfl
      have hm : S.2.getD i 0 ∈ S.2 := by rw [hg]; exact List.getElem_mem hi
      obtain ⟨h1, h2, ⟨r, h3⟩, h4⟩ := grp_fold hes (es.filter fun x => decide (x.t = S.2.getD i 0)) S h hm (fun x hx => by
        have := List.mem_filter.1 hx
        exact ⟨this.1, by simpa using this.2⟩)
      refine grp_loop hes f (i + 1) _ h1 (fun k hk hkl x hx he => ?_) (by omega)
      have hkS : k < S.2.length := by omega
      show Gd ((preds es (S.2.getD i 0)).foldl grpStep S).1 x.f
      have he2 : some x.t = S.2[k]? := by
        rw [he]
        show ((preds es (S.2.getD i 0)).foldl grpStep S).2[k]? = _
        unfold preds
        rw [h3, List.getElem?_append_left hkS]
      by_cases e : k = i
      · subst e
        rw [List.getElem?_eq_getElem hkS] at he2
        exact h2 x (List.mem_filter.2 ⟨hx, by rw [hg]; simpa using Option.some.inj he2⟩)
      · exact h4 _ (hd k (by omega) hkS x hx he2) (hes x hx).1
    · rw [if_neg hi]
      refine ⟨h, fun x hx ht => ?_⟩
      obtain ⟨k, hk, hke⟩ := List.mem_iff_getElem.1 ht
      exact hd k (by omega) hk x hx (by rw [List.getElem?_eq_getElem hk, hke])
theorem RchC.mono {es es' : List Ed} (h : ∀ x ∈ es, x ∈ es') {a b : Int} (hr : RchC es a b) : RchC es' a b := by
  induction hr with
  | refl s => exact .refl s
  | step hx _ ih => exact .step (h _ hx) ih
theorem grp_start {es : List Ed} {n : Nat} {cls0 : List Bool} {root : Int} (hes : ∀ x ∈ es, 0 ≤ x.f ∧ x.f < (n : Int)) (hl : cls0.length = n) (h0 : 0 ≤ root) (h1 : root < (n : Int)) (hr : ¬ Gd cls0 root) : GrpI es n cls0 root (cls0.set root.toNat true, [root]) := by
  refine ⟨by rw [List.length_set]; exact hl, fun t ht => ?_, by simp, fun t ha hb => ?_, fun t ht => ?_, List.mem_singleton.2 rfl⟩
  · rw [List.mem_singleton.1 ht]; exact ⟨h0, h1⟩
  · rw [Gd_true ha (by omega), List.mem_singleton]
    constructor
    · rintro (h2 | h2)
      · exact .inl h2
      · exact .inr (by omega)
    · rintro (h2 | h2)
      · exact .inl h2
      · exact .inr (by rw [h2])
  · rw [List.mem_singleton.1 ht]; exact ⟨hr, .refl _⟩
/-- The group that is found from a root. -/
theorem grp_says {es : List Ed} {n : Nat} {cls0 : List Bool} {root : Int} (hes : ∀ x ∈ es, 0 ≤ x.f ∧ x.f < (n : Int)) (hl : cls0.length = n) (h0 : 0 ≤ root) (h1 : root < (n : Int)) (hr : ¬ Gd cls0 root) :
    GrpI es n cls0 root (grpLoop es (n + 1) 0 (cls0.set root.toNat true, [root])) ∧ ∀ t, RchC (freeE es cls0) t root → t ∈ (grpLoop es (n + 1) 0 (cls0.set root.toNat true, [root])).2 := by
  have hs : GrpI es n cls0 root (cls0.set root.toNat true, [root]) := by
    refine ⟨by rw [List.length_set]; exact hl, fun t ht => ?_, by simp, fun t ha hb => ?_, fun t ht => ?_, List.mem_singleton.2 rfl⟩
    · rw [List.mem_singleton.1 ht]; exact ⟨h0, h1⟩
    · rw [Gd_true ha (by omega), List.mem_singleton]
      constructor
      · rintro (h2 | h2)
        · exact .inl h2
        · exact .inr (by omega)
      · rintro (h2 | h2)
        · exact .inl h2
        · exact .inr (by rw [h2])
    · rw [List.mem_singleton.1 ht]; exact ⟨hr, .refl _⟩
  obtain ⟨h2, h3⟩ := grp_loop hes (n + 1) 0 _ hs (fun k hk => absurd hk (Nat.not_lt_zero _)) (by omega)
  refine ⟨h2, fun t ht => ?_⟩
  generalize grpLoop es (n + 1) 0 (cls0.set root.toNat true, [root]) = R at *
  have key : ∀ s u, RchC (freeE es cls0) s u → u = root → s ∈ R.2 := by
    intro s u hu
    induction hu with
    | refl s => intro e; rw [e]; exact h2.root
    | @step x u hx hu ih =>
      intro e
      have hm := List.mem_filter.1 hx
      have h4 := ih e
      have hx0 := hes x hm.1
      have h5 := h3 x hm.1 h4
      rcases (h2.cls x.f hx0.1 hx0.2).1 h5 with h6 | h6
      · exfalso
        have h7 := hm.2
        unfold Gd at h6
        rw [h6] at h7
        cases h7
      · exact h6
  exact key t root ht rfl

/-- A root is looked at. -/
def cmpStep (es : List Ed) (n : Nat) (S : List Bool × List (List Int)) (root : Int) : List Bool × List (List Int) :=
  if S.1.getD root.toNat false = true then S else ((grpLoop es (n + 1) 0 (S.1.set root.toNat true, [root])).1, S.2 ++ [(grpLoop es (n + 1) 0 (S.1.set root.toNat true, [root])).2])
def compF (es : List Ed) (n : Nat) : List (List Int) := ((orderF es n).2.reverse.foldl (cmpStep es n) (List.replicate n false, [])).2
/-- A class of states. -/
structure IsScc (es : List Ed) (n : Nat) (G : List Int) : Prop where
  nd : G.Nodup
  rng : ∀ t ∈ G, 0 ≤ t ∧ t < (n : Int)
  ex : ∃ r ∈ G, ∀ t, 0 ≤ t → t < (n : Int) → (t ∈ G ↔ Scc es t r)
structure CIC (es : List Ed) (n : Nat) (S : List Bool × List (List Int)) : Prop where
  len : S.1.length = n
  cls : ∀ t, 0 ≤ t → t < (n : Int) → (Gd S.1 t ↔ ∃ G ∈ S.2, t ∈ G)
  scc : ∀ G ∈ S.2, IsScc es n G
  dis : S.2.Pairwise (fun G H => ∀ t ∈ G, t ∉ H)
theorem RchC.rng {es : List Ed} {n : Nat} (hes : ∀ x ∈ es, 0 ≤ x.t ∧ x.t < (n : Int)) {a b : Int} (h : RchC es a b) (ha : 0 ≤ a ∧ a < (n : Int)) : 0 ≤ b ∧ b < (n : Int) := by
  induction h with
  | refl s => exact ha
  | step hx _ ih => exact ih (hes _ hx)
theorem RchC.free {es : List Ed} {cls : List Bool} {a b : Int} (h : RchC es a b) : (∀ q, RchC es a q → RchC es q b → ¬ Gd cls q) → RchC (freeE es cls) a b := by
  induction h with
  | refl s => intro _; exact .refl s
  | @step x t hx h ih =>
    intro hq
    have h1 := hq x.f (.refl _) (.step hx h)
    have hm : x ∈ freeE es cls := List.mem_filter.2 ⟨hx, by unfold Gd at h1; simpa using h1⟩
    exact .step hm (ih (fun q h2 h3 => hq q (.step hx h2) h3))
theorem CIC.step {es : List Ed} {n : Nat} {S : List Bool × List (List Int)} {L : List Int} (hes : ∀ x ∈ es, 0 ≤ x.f ∧ x.f < (n : Int) ∧ 0 ≤ x.t ∧ x.t < (n : Int)) (hL : FinOrd es L) (hLr : ∀ t ∈ L, 0 ≤ t ∧ t < (n : Int)) (hLa : ∀ t, 0 ≤ t → t < (n : Int) → t ∈ L)
    (h : CIC es n S) {m : Nat} (hm : m < L.length) (hlater : ∀ (j : Nat) (hj : j < L.length), m < j → Gd S.1 L[j]) : CIC es n (cmpStep es n S L[m]) ∧ (∀ (j : Nat) (hj : j < L.length), m ≤ j → Gd (cmpStep es n S L[m]).1 L[j]) := by
  have hr := hLr _ (List.getElem_mem hm)
  unfold cmpStep
  by_cases hg : S.1.getD L[m].toNat false = true
  · rw [if_pos hg]
    refine ⟨h, fun j hj hmj => ?_⟩
    by_cases e : m = j
    · subst e; exact hg
    · exact hlater j hj (by omega)
  · rw [if_neg hg]
    obtain ⟨h1, h2⟩ := grp_says (fun x hx => ⟨(hes x hx).1, (hes x hx).2.1⟩) h.len hr.1 hr.2 hg
    generalize grpLoop es (n + 1) 0 (S.1.set L[m].toNat true, [L[m]]) = R at *
    have hU : ∀ a b, Scc es a b → (0 ≤ a ∧ a < (n : Int) ∧ ¬ Gd S.1 a) → (0 ≤ b ∧ b < (n : Int) ∧ ¬ Gd S.1 b) := by
      rintro a b hab ⟨ha0, ha1, ha⟩
      have hb := hab.1.rng (fun x hx => (hes x hx).2.2) ⟨ha0, ha1⟩
      refine ⟨hb.1, hb.2, fun hgb => ha ?_⟩
      obtain ⟨G, hG, hbG⟩ := (h.cls b hb.1 hb.2).1 hgb
      obtain ⟨r, _, hr2⟩ := (h.scc G hG).ex
      exact (h.cls a ha0 ha1).2 ⟨G, hG, (hr2 a ha0 ha1).2 (hab.trans ((hr2 b hb.1 hb.2).1 hbG))⟩
    have hmem : ∀ t, 0 ≤ t → t < (n : Int) → (t ∈ R.2 ↔ Scc es t L[m]) := by
      intro t ht0 ht1
      constructor
      · intro ht
        obtain ⟨h3, h4⟩ := h1.new t ht
        exact hL.root (U := fun a => 0 ≤ a ∧ a < (n : Int) ∧ ¬ Gd S.1 a) hU hm (fun k hk hku => by
          rcases Nat.lt_or_ge m k with h5 | h5
          · exact absurd (hlater k hk h5) hku.2.2
          · exact h5) ⟨ht0, ht1, h3⟩ (hLa t ht0 ht1) (h4.mono (fun x hx => (List.mem_filter.1 hx).1))
      · intro hs
        refine h2 t (hs.1.free (fun q hq1 hq2 => ?_))
        exact (hU L[m] q ⟨hs.2.trans hq1, hq2⟩ ⟨hr.1, hr.2, hg⟩).2.2
    refine ⟨⟨h1.len, fun t ht0 ht1 => ?_, fun G hG => ?_, ?_⟩, fun j hj hmj => ?_⟩
    · rw [h1.cls t ht0 ht1, h.cls t ht0 ht1]
      constructor
      · rintro (⟨G, hG, ht⟩ | ht)
        · exact ⟨G, List.mem_append_left _ hG, ht⟩
        · exact ⟨R.2, List.mem_append_right _ (List.mem_singleton.2 rfl), ht⟩
      · rintro ⟨G, hG, ht⟩
        rcases List.mem_append.1 hG with h3 | h3
        · exact .inl ⟨G, h3, ht⟩
        · rw [List.mem_singleton.1 h3] at ht; exact .inr ht
    · rcases List.mem_append.1 hG with h3 | h3
      · exact h.scc G h3
      · rw [List.mem_singleton.1 h3]
        exact ⟨h1.nd, h1.rng, L[m], h1.root, hmem⟩
    · rw [List.pairwise_append]
      refine ⟨h.dis, List.pairwise_singleton _ _, fun G hG H hH t ht => ?_⟩
      rw [List.mem_singleton.1 hH]
      intro htR
      have hrt := h1.rng t htR
      exact (h1.new t htR).1 ((h.cls t hrt.1 hrt.2).2 ⟨G, hG, ht⟩)
    · have hjr := hLr _ (List.getElem_mem hj)
      refine (h1.cls _ hjr.1 hjr.2).2 ?_
      by_cases e : m = j
      · subst e; exact .inr h1.root
      · exact .inl (hlater j hj (by omega))
theorem comp_fold {es : List Ed} {n : Nat} {L : List Int} (hes : ∀ x ∈ es, 0 ≤ x.f ∧ x.f < (n : Int) ∧ 0 ≤ x.t ∧ x.t < (n : Int)) (hL : FinOrd es L) (hLr : ∀ t ∈ L, 0 ≤ t ∧ t < (n : Int)) (hLa : ∀ t, 0 ≤ t → t < (n : Int) → t ∈ L) : ∀ (d : Nat), d ≤ L.length →
    CIC es n ((L.drop (L.length - d)).reverse.foldl (cmpStep es n) (List.replicate n false, [])) ∧ ∀ (j : Nat) (hj : j < L.length), L.length - d ≤ j → Gd ((L.drop (L.length - d)).reverse.foldl (cmpStep es n) (List.replicate n false, [])).1 L[j]
  | 0, _ => by
    rw [Nat.sub_zero, List.drop_length]
    refine ⟨⟨by simp, fun t h0 h1 => ?_, fun G hG => (by cases hG), List.Pairwise.nil⟩, fun j hj h => by omega⟩
    have e : (List.replicate n false).getD t.toNat false = false := by
      rw [List.getD_eq_getElem?_getD, List.getElem?_replicate]
      split <;> rfl
    simp only [List.reverse_nil, List.foldl_nil]
    unfold Gd
    rw [e]
    simp
  | d + 1, hd => by
    obtain ⟨h1, h2⟩ := comp_fold hes hL hLr hLa d (by omega)
    have hm : L.length - (d + 1) < L.length := by omega
    have hdr : L.drop (L.length - (d + 1)) = L[L.length - (d + 1)] :: L.drop (L.length - d) := by
      rw [List.drop_eq_getElem_cons hm]
      congr 2
      omega
    rw [hdr, List.reverse_cons, List.foldl_append]
    simp only [List.foldl_cons, List.foldl_nil]
    exact h1.step hes hL hLr hLa hm (fun j hj hmj => h2 j hj (by omega))
/-- The groups are the classes of the states. -/
theorem comp_says {es : List Ed} {n : Nat} (hes : ∀ x ∈ es, 0 ≤ x.f ∧ x.f < (n : Int) ∧ 0 ≤ x.t ∧ x.t < (n : Int)) : (∀ G ∈ compF es n, IsScc es n G) ∧ (compF es n).Pairwise (fun G H => ∀ t ∈ G, t ∉ H) ∧ ∀ t, 0 ≤ t → t < (n : Int) → ∃ G ∈ compF es n, t ∈ G := by
  obtain ⟨h1, h2, h3⟩ := order_says (fun x hx => (hes x hx).2.2)
  have hLa : ∀ t, 0 ≤ t → t < (n : Int) → t ∈ (orderF es n).2 := fun t h0 h4 => by
    have := h3 t.toNat (by omega)
    rwa [Int.toNat_of_nonneg h0] at this
  obtain ⟨h4, h5⟩ := comp_fold hes h1 h2 hLa (orderF es n).2.length (Nat.le_refl _)
  rw [Nat.sub_self, List.drop_zero] at h4 h5
  refine ⟨h4.scc, h4.dis, fun t h0 h6 => ?_⟩
  obtain ⟨j, hj, hje⟩ := List.mem_iff_getElem.1 (hLa t h0 h6)
  have := h5 j hj (Nat.zero_le _)
  rw [hje] at this
  exact (h4.cls t h0 h6).1 this

/-- The components, each in order, in the order of their first states. -/
structure CompSpec (es : List Ed) (n : Nat) (Cs : List (List Int)) : Prop where
  inc : ∀ C ∈ Cs, Inc C
  scc : ∀ C ∈ Cs, IsScc es n C
  all : ∀ t, 0 ≤ t → t < (n : Int) → ∃ C ∈ Cs, t ∈ C
  ord : Cs.Pairwise (fun C D => C.headD 0 < D.headD 0)
theorem inc_head {C : List Int} (h : Inc C) {t : Int} (ht : t ∈ C) : C.headD 0 ∈ C ∧ C.headD 0 ≤ t := by
  cases C with
  | nil => cases ht
  | cons c C =>
    refine ⟨List.mem_cons_self .., ?_⟩
    show c ≤ t
    rcases List.mem_cons.1 ht with rfl | h1
    · exact Int.le_refl _
    · have := (List.pairwise_cons.1 h).1 t h1; omega
theorem IsScc.same {es : List Ed} {n : Nat} {C D : List Int} (h : IsScc es n C) (h' : IsScc es n D) (hC : Inc C) (hD : Inc D) {t : Int} (ht : t ∈ C) (ht' : t ∈ D) : C = D := by
  obtain ⟨r, _, hr⟩ := h.ex
  obtain ⟨q, _, hq⟩ := h'.ex
  have htr := h.rng t ht
  have h1 := (hr t htr.1 htr.2).1 ht
  have h2 := (hq t htr.1 htr.2).1 ht'
  refine inc_ext hC hD (fun s => ⟨fun hs => ?_, fun hs => ?_⟩)
  · have hsr := h.rng s hs
    exact (hq s hsr.1 hsr.2).2 (((hr s hsr.1 hsr.2).1 hs).trans (h1.symm.trans h2))
  · have hsr := h'.rng s hs
    exact (hr s hsr.1 hsr.2).2 (((hq s hsr.1 hsr.2).1 hs).trans (h2.symm.trans h1))
theorem IsScc.ne {es : List Ed} {n : Nat} {C : List Int} (h : IsScc es n C) : ∃ t, t ∈ C := by
  obtain ⟨r, hr, _⟩ := h.ex
  exact ⟨r, hr⟩
/-- There is one such list alone. -/
theorem comp_unique {es : List Ed} {n : Nat} {Cs Ds : List (List Int)} (h : CompSpec es n Cs) (h' : CompSpec es n Ds) : Cs = Ds := by
  have hsub : ∀ {Cs Ds : List (List Int)}, CompSpec es n Cs → CompSpec es n Ds → ∀ C ∈ Cs, C ∈ Ds := by
    intro Cs Ds h h' C hC
    obtain ⟨t, ht⟩ := (h.scc C hC).ne
    have htr := (h.scc C hC).rng t ht
    obtain ⟨D, hD, htD⟩ := h'.all t htr.1 htr.2
    rw [(h.scc C hC).same (h'.scc D hD) (h.inc C hC) (h'.inc D hD) ht htD]
    exact hD
  have key : ∀ (Cs Ds : List (List Int)), Cs.Pairwise (fun C D => C.headD 0 < D.headD 0) → Ds.Pairwise (fun C D => C.headD 0 < D.headD 0) → (∀ C, C ∈ Cs ↔ C ∈ Ds) → Cs = Ds := by
    intro Cs
    induction Cs with
    | nil =>
      intro Ds _ _ he
      cases Ds with
      | nil => rfl
      | cons D Ds => have := (he D).2 (List.mem_cons_self ..); cases this
    | cons C Cs ih =>
      intro Ds hp hq he
      cases Ds with
      | nil => have := (he C).1 (List.mem_cons_self ..); cases this
      | cons D Ds =>
        obtain ⟨hp1, hp2⟩ := List.pairwise_cons.1 hp
        obtain ⟨hq1, hq2⟩ := List.pairwise_cons.1 hq
        have hCD : C = D := by
          rcases List.mem_cons.1 ((he C).1 (List.mem_cons_self ..)) with h1 | h1
          · exact h1
          · rcases List.mem_cons.1 ((he D).2 (List.mem_cons_self ..)) with h2 | h2
            · exact h2.symm
            · have := hq1 C h1; have := hp1 D h2; omega
        subst hCD
        rw [ih Ds hp2 hq2 (fun E => ?_)]
        have hE := he E
        rw [List.mem_cons, List.mem_cons] at hE
        constructor
        · intro h1
          rcases hE.1 (.inr h1) with h2 | h2
          · rw [h2] at h1; have := hp1 C h1; omega
          · exact h2
        · intro h1
          rcases hE.2 (.inr h1) with h2 | h2
          · rw [h2] at h1; have := hq1 C h1; omega
          · exact h2
  exact key Cs Ds h.ord h'.ord (fun C => ⟨hsub h h' C, hsub h' h C⟩)

/-- The groups in order are the components. -/
theorem compSpec_of {es : List Ed} {n : Nat} {Gs Cs : List (List Int)} (hG : ∀ G ∈ Gs, IsScc es n G) (hall : ∀ t, 0 ≤ t → t < (n : Int) → ∃ G ∈ Gs, t ∈ G)
    (h1 : ∀ C ∈ Cs, Inc C ∧ ∃ G ∈ Gs, ∀ t, t ∈ C ↔ t ∈ G) (h2 : ∀ G ∈ Gs, ∃ C ∈ Cs, ∀ t, t ∈ C ↔ t ∈ G) (h3 : Cs.Pairwise (fun C D => C.headD 0 < D.headD 0)) : CompSpec es n Cs := by
  refine ⟨fun C hC => (h1 C hC).1, fun C hC => ?_, fun t h0 h4 => ?_, h3⟩
  · obtain ⟨hi, G, hGm, hGt⟩ := h1 C hC
    have hs := hG G hGm
    obtain ⟨r, hr, hr2⟩ := hs.ex
    exact ⟨List.Pairwise.imp (fun {a b} (h : a < b) => by omega) hi, fun t ht => hs.rng t ((hGt t).1 ht), r, (hGt r).2 hr, fun t h5 h6 => (hGt t).trans (hr2 t h5 h6)⟩
  · obtain ⟨G, hGm, ht⟩ := hall t h0 h4
    obtain ⟨C, hC, hCt⟩ := h2 G hGm
    exact ⟨C, hC, (hCt t).2 ht⟩
end Go.Proofs.Ythchkddhibhenaa

