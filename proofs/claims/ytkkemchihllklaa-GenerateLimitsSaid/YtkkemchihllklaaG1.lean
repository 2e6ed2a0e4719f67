/- What some functions compute, as plain functions (m_..), and that the code computes it. Written by gen.py. -/
import Derived.Test.YtkkemchihllklaaRg
import Derived.Test.YtkkemchihllklaaMn
import Derived.Test.YtkkemchihllklaaProg
namespace Go.Proofs.Ytkkemchihllklaa
open Go Go.RowKit
theorem ag26 : Ag Try.prog 26 4 := Ag.mk' Try.underlying26 rfl (by kernel_rfl)
theorem bs23 : Bs Try.prog 23 3 1 [.int .i64 0] := Bs.mk' Try.underlying23 (by kernel_rfl) (by kernel_rfl) rfl
theorem bs24 : Bs Try.prog 24 28 3 [.int .i64 0, .int .i64 0, .int .i64 0] := Bs.mk' Try.underlying24 (by kernel_rfl) (by kernel_rfl) rfl
theorem el28 : El Try.prog 28 3 24 := El.mk' (z := .agg #[.int .i64 0, .int .i64 0, .int .i64 0]) (by kernel_rfl) (by kernel_rfl) (by kernel_rfl) rfl
theorem el3 : El Try.prog 3 1 8 := El.mk' (z := .int .i64 0) (by kernel_rfl) (by kernel_rfl) (by kernel_rfl) rfl
theorem pl26 : Pl Try.prog 26 [(0, 1), (1, 1), (2, 1), (3, 1)] [.slice none 0 0, .int .i64 0, .slice none 0 0, .slice none 0 0] := Pl.str Try.underlying26 (by kernel_rfl) (by kernel_rfl)
theorem pl28 : Pl Try.prog 28 [(0, 1), (1, 1), (2, 1)] [.int .i64 0, .int .i64 0, .int .i64 0] := Pl.str Try.underlying28 (by kernel_rfl) (by kernel_rfl)
theorem zz26 : (Try.prog.info? 26).bind (·.zero) = some (.agg #[.slice none 0 0, .int .i64 0, .slice none 0 0, .slice none 0 0]) := by kernel_rfl
/-- What overseerlaw53.example computes. -/
noncomputable def m_overseerlaw53_example : Option (List Int × Int × List Int × (List (Int × Int × Int))) :=
  some (([3, 5] : List Int), 2, ([0] : List Int), ([(0, 3, 1), (1, 5, 0)] : List (Int × Int × Int)))
set_option maxRecDepth 100000 in
set_option maxHeartbeats 8000000 in
theorem m_overseerlaw53_example_c {s : Sig} {r : (List Int × Int × List Int × (List (Int × Int × Int)))} (hm : m_overseerlaw53_example = some r) :
    Calls Try.prog 38 #[] s.w (RetS No s fun v s' => ∃ (a1 : Option Addr) (c1 : Nat) (a2 : Option Addr) (c2 : Nat) (a3 : Option Addr) (c3 : Nat), v = .agg #[.slice a1 r.1.length c1, .int .i64 r.2.1, .slice a2 r.2.2.1.length c2, .slice a3 r.2.2.2.length c3] ∧ RdL (rK .i64) s' a1 c1 r.1 ∧ RdL (rK .i64) s' a2 c2 r.2.2.1 ∧ RdL (rP (rK .i64) (rP (rK .i64) (rK .i64))) s' a3 c3 r.2.2.2) := by
  unfold m_overseerlaw53_example at hm
  obtain ⟨N, hN, hNb⟩ := s.fresh
  have m0 : Mv (Up N No) s s := Mv.refl _ _
  refine E.entry (vs := []) (e := []) Try.func38 rfl Try.ntmps38 rfl rfl ?_
  refine E.seq ?_
  refine E.reg ?_
  refine L.al (N + 0) zz26 rfl Wt.no rfl ?_
  intro b4 s5 m6 bx4
  replace m0 := m0.trans m6.no
  refine L.nil ?_
  refine X.seqN ?_
  refine E.seq ?_
  refine E.reg ?_
  refine L.bsE (k := 2) (cs := [.int .i64 3, .int .i64 5]) 0 bs23 (Nat.le_of_ble_eq_true rfl) Wt.no rfl rfl rfl rfl ?_
  intro b7 s8 m9 bx7
  replace m0 := m0.trans m9.no
  replace bx4 := bx4.mv m9 no_No
  have h7 := Bx.rdL (r := (rK .i64)) (xs := ([3, 5] : List Int)) bx7 ⟨[.int .i64 3], _, rfl, rfl, ⟨[.int .i64 5], _, rfl, rfl, rfl⟩⟩ (Nat.le_of_ble_eq_true rfl)
  refine L.bsE (k := 1) (cs := [.int .i64 0]) 0 bs23 (Nat.le_of_ble_eq_true rfl) Wt.no rfl rfl rfl rfl ?_
  intro b10 s11 m12 bx10
  replace m0 := m0.trans m12.no
  replace h7 := h7.mono (m12.le no_No)
  replace bx4 := bx4.mv m12 no_No
  have h10 := Bx.rdL (r := (rK .i64)) (xs := ([0] : List Int)) bx10 ⟨[.int .i64 0], _, rfl, rfl, rfl⟩ (Nat.le_of_ble_eq_true rfl)
  refine L.bu (cs := [.int .i64 0, .int .i64 3, .int .i64 1]) pl28 Wt.no rfl rfl rfl ?_
  refine L.bu (cs := [.int .i64 1, .int .i64 5, .int .i64 0]) pl28 Wt.no rfl rfl rfl ?_
  refine L.bsE (k := 2) (cs := [.int .i64 0, .int .i64 3, .int .i64 1, .int .i64 1, .int .i64 5, .int .i64 0]) 0 bs24 (Nat.le_of_ble_eq_true rfl) Wt.no rfl rfl rfl rfl ?_
  intro b13 s14 m15 bx13
  replace m0 := m0.trans m15.no
  replace h7 := h7.mono (m15.le no_No)
  replace h10 := h10.mono (m15.le no_No)
  replace bx4 := bx4.mv m15 no_No
  have h13 := Bx.rdL (r := (rP (rK .i64) (rP (rK .i64) (rK .i64)))) (xs := ([(0, 3, 1), (1, 5, 0)] : List (Int × Int × Int))) bx13 ⟨[.int .i64 0, .int .i64 3, .int .i64 1], _, rfl, ⟨[.int .i64 0], [.int .i64 3, .int .i64 1], rfl, rfl, ⟨[.int .i64 3], [.int .i64 1], rfl, rfl, rfl⟩⟩, ⟨[.int .i64 1, .int .i64 5, .int .i64 0], _, rfl, ⟨[.int .i64 1], [.int .i64 5, .int .i64 0], rfl, rfl, ⟨[.int .i64 5], [.int .i64 0], rfl, rfl, rfl⟩⟩, rfl⟩⟩ (Nat.le_of_ble_eq_true rfl)
  refine L.bu (cs := [.slice (some ⟨b7, 0, none⟩) ([3, 5] : List Int).length (([3, 5] : List Int).length), .int .i64 2, .slice (some ⟨b10, 0, none⟩) ([0] : List Int).length (([0] : List Int).length), .slice (some ⟨b13, 0, none⟩) ([(0, 3, 1), (1, 5, 0)] : List (Int × Int × Int)).length (([(0, 3, 1), (1, 5, 0)] : List (Int × Int × Int)).length)]) pl26 Wt.no rfl rfl rfl ?_
  refine L.st (c := [.slice (some ⟨b7, 0, none⟩) ([3, 5] : List Int).length (([3, 5] : List Int).length), .int .i64 2, .slice (some ⟨b10, 0, none⟩) ([0] : List Int).length (([0] : List Int).length), .slice (some ⟨b13, 0, none⟩) ([(0, 3, 1), (1, 5, 0)] : List (Int × Int × Int)).length (([(0, 3, 1), (1, 5, 0)] : List (Int × Int × Int)).length)]) (cs' := #[.slice (some ⟨b7, 0, none⟩) ([3, 5] : List Int).length (([3, 5] : List Int).length), .int .i64 2, .slice (some ⟨b10, 0, none⟩) ([0] : List Int).length (([0] : List Int).length), .slice (some ⟨b13, 0, none⟩) ([(0, 3, 1), (1, 5, 0)] : List (Int × Int × Int)).length (([(0, 3, 1), (1, 5, 0)] : List (Int × Int × Int)).length)]) bx4 ag26.sz Wt.no rfl rfl rfl rfl rfl (Nat.le_of_ble_eq_true rfl) rfl ?_
  intro s16 m17 bx4
  replace m0 := m0.trans (m17.one up)
  replace h7 := h7.mono (m17.le (tg0 hN))
  replace h10 := h10.mono (m17.le (tg0 hN))
  replace h13 := h13.mono (m17.le (tg0 hN))
  refine L.nil ?_
  refine X.seqN ?_
  refine E.ret ?_
  obtain rfl := Option.some.inj hm
  exact X.rt (.inl rfl) Try.results38 (Rs.cell rfl bx4 ag26 rfl Rs.nil) rfl ⟨_, (s16).ren N (fun _ => 0), rfl, rfl, m0.ren hNb, ⟨(some ⟨b7, 0, none⟩), ([3, 5] : List Int).length, (some ⟨b10, 0, none⟩), ([0] : List Int).length, (some ⟨b13, 0, none⟩), ([(0, 3, 1), (1, 5, 0)] : List (Int × Int × Int)).length, rfl, (h7.ren hN), (h10.ren hN), (h13.ren hN)⟩⟩

theorem nag3 : NAg Try.prog 3 := NAg.mk' Try.underlying3 rfl (by kernel_rfl)
theorem sl23 : Sl Try.prog 23 3 1 := Sl.mk' Try.underlying23 (by kernel_rfl)
noncomputable def m_automaton_checkSet_l1 (p0 : List Int) (p1 : Int) (st13 : Int) : Option (Int ⊕ (Unit ⊕ Int)) :=
  if decide (st13 < (p0.length : Int)) then
    (idx p0 st13).bind fun x22 =>
    if ((decide (x22 < 0)) || (decide (x22 ≥ p1))) then
      some (.inr (.inr (2)))
    else
      (if decide (st13 > 0) then
        (idx p0 (W (st13 - 1))).bind fun x28 =>
        some (decide (x22 ≤ x28))
      else
        some false).bind fun b25 =>
      if b25 then
        some (.inr (.inr (5)))
      else
        some (.inl (W (st13 + 1)))
  else
    some (.inr (.inl ()))
/-- What automaton.checkSet computes. -/
noncomputable def m_automaton_checkSet (p0 : List Int) (p1 : Int) : Option Int :=
  (iter (m_automaton_checkSet_l1 p0 p1) 0).bind fun o13 =>
  match o13 with
  | .inl u16 =>
    some 0
  | .inr (u19) =>
    some u19
set_option maxRecDepth 100000 in
set_option maxHeartbeats 8000000 in
theorem m_automaton_checkSet_c {s : Sig} {p0 : List Int} {p1 : Int} {a1 : Option Addr} {c1 : Nat} {r : Int} (h1 : RdL (rK .i64) s a1 c1 p0) (hm : m_automaton_checkSet p0 p1 = some r) :
    Calls Try.prog 61 #[.slice a1 p0.length c1, .int .i64 p1] s.w (RetS No s fun v s' => v = .int .i64 r) := by
  unfold m_automaton_checkSet at hm
  obtain ⟨N, hN, hNb⟩ := s.fresh
  have m0 : Mv (Up N No) s s := Mv.refl _ _
  refine E.entry (vs := [.slice a1 p0.length c1, .int .i64 p1]) (e := [(0, .slice a1 p0.length c1), (1, .int .i64 p1)]) Try.func61 rfl Try.ntmps61 rfl rfl ?_
  refine E.seq ?_
  refine E.reg ?_
  refine L.as Wt.no rfl rfl ?_
  refine L.nil ?_
  refine X.seqN ?_
  refine E.seq ?_
  refine E.seq ?_
  refine E.reg ?_
  refine L.mv Wt.no rfl rfl ?_
  refine L.len sl23 Wt.no rfl rfl ?_
  refine L.mv Wt.no rfl rfl ?_
  refine L.nil ?_
  refine X.seqN ?_
  refine E.block ?_
  obtain ⟨o13, eo13, hm⟩ := bindS hm
  refine E.cut (x := .exit 0) (fun e w => ∃ (s17 : Sig) (u16 : Unit), o13 = .inl u16 ∧ Mv (Up N No) s s17 ∧ e = [] ∧ w = s17.w) ?_ ?_
  · rintro _ _ ⟨s17, u16, rfl, m0, rfl, rfl⟩
    dsimp only at hm
    refine X.blkE ?_
    refine X.seqN ?_
    refine E.seq ?_
    refine E.reg ?_
    refine L.as Wt.no rfl rfl ?_
    refine L.nil ?_
    refine X.seqN ?_
    refine E.ret ?_
    obtain rfl := Option.some.inj hm
    exact X.rt (.inl rfl) Try.results61 (Rs.tmp rfl Rs.nil) rfl ⟨_, (s17).ren N (fun _ => 0), rfl, rfl, m0.ren hNb, rfl⟩
  intro K18
  refine E.cut (x := .ret) (fun e w => ∃ (s20 : Sig) (u19 : Int), o13 = .inr (u19) ∧ Mv (Up N No) s s20 ∧ e = [(4, .int .i64 u19)] ∧ w = s20.w) ?_ ?_
  · rintro _ _ ⟨s20, u19, rfl, m0, rfl, rfl⟩
    dsimp only at hm
    refine X.blkR ?_
    refine X.seqR ?_
    obtain rfl := Option.some.inj hm
    exact X.rt (.inl rfl) Try.results61 (Rs.tmp rfl Rs.nil) rfl ⟨_, (s20).ren N (fun _ => 0), rfl, rfl, m0.ren hNb, rfl⟩
  intro K21
  refine E.iter (fun (st13 : Int) (e : List (Nat × Value)) (w : World) => ∃ (s15 : Sig), Mv (Up N No) s s15 ∧ RdL (rK .i64) s15 a1 c1 p0 ∧ e = [(9, .int .i64 st13), (8, .int .i64 (p0.length : Int)), (7, .slice a1 p0.length c1), (0, .slice a1 p0.length c1), (1, .int .i64 p1)] ∧ w = s15.w) eo13 ⟨s, m0, h1, rfl, rfl⟩ (Sub.cons rfl (Sub.cons rfl (Sub.cons rfl (Sub.cons rfl (Sub.cons rfl Sub.nil))))) ?_
  rintro st13 res13 hm ih13 ho13 _ _ ⟨s15, m0, h1, rfl, rfl⟩
  unfold m_automaton_checkSet_l1 at hm
  refine E.seq ?_
  refine E.reg ?_
  refine L.bi Wt.no rfl rfl rfl rfl ?_
  refine L.nil ?_
  refine X.seqN ?_
  refine E.seq ?_
  rcases ifS hm with ⟨hc, hm⟩ | ⟨hc, hm⟩
  · refine E.cT rfl hc ?_
    refine E.skip ?_
    refine X.seqN ?_
    refine E.seq ?_
    refine E.block ?_
    refine E.seq ?_
    refine E.reg ?_
    refine L.mv Wt.no rfl rfl ?_
    obtain ⟨x22, ex22, hm⟩ := bindS hm
    refine L.ix (r := (rK .i64)) sl23 h1 Wt.no rfl rfl ex22 rfl ?_
    rintro b23 o23 cc23 me23 rd23
    obtain rfl := rd23
    refine L.ld (j := 0) me23 nag3 Wt.no rfl rfl rfl rfl ?_
    refine L.as Wt.no rfl rfl ?_
    refine L.as Wt.no rfl rfl ?_
    refine L.nil ?_
    refine X.seqN ?_
    refine E.block ?_
    refine E.seq ?_
    refine E.reg ?_
    refine L.mv Wt.no rfl rfl ?_
    refine L.bi Wt.no rfl rfl rfl rfl ?_
    refine L.mv Wt.no rfl rfl ?_
    refine L.cut 4 (fun e w => ∃ (v24 : Bool), ((decide (x22 < 0)) || (decide (x22 ≥ p1))) = v24 ∧ e = (21, .bool v24) :: [(6, .int .i64 x22), (5, .int .i64 st13), (9, .int .i64 st13), (8, .int .i64 (p0.length : Int)), (7, .slice a1 p0.length c1), (0, .slice a1 p0.length c1), (1, .int .i64 p1)] ∧ w = s15.w) ?_ ?_
    · rintro _ _ ⟨v24, rfl, rfl, rfl⟩
      refine L.as Wt.no rfl rfl ?_
      refine L.nil ?_
      refine X.seqN ?_
      rcases ifS hm with ⟨hc, hm⟩ | ⟨hc, hm⟩
      · refine E.cT rfl hc ?_
        refine E.seq ?_
        refine E.reg ?_
        refine L.as Wt.no rfl rfl ?_
        refine L.nil ?_
        refine X.seqN ?_
        refine E.ret ?_
        refine X.blkR ?_
        refine X.blkR ?_
        refine X.seqR ?_
        refine X.seqR ?_
        have hx := ho13 _ (Option.some.inj hm).symm
        exact X.sub (K21 _ _ ⟨s15, 2, hx.symm, m0, rfl, rfl⟩) (Sub.cons rfl Sub.nil)
      · refine E.cF rfl hc ?_
        refine E.seq ?_
        refine E.reg ?_
        refine L.mv Wt.no rfl rfl ?_
        refine L.bi Wt.no rfl rfl rfl rfl ?_
        refine L.mv Wt.no rfl rfl ?_
        obtain ⟨b25, eb25, hm⟩ := bindS hm
        refine L.cut 8 (fun e w => ∃ (v26 : Bool), b25 = v26 ∧ e = (33, .bool v26) :: [(9, .int .i64 st13), (8, .int .i64 (p0.length : Int)), (7, .slice a1 p0.length c1), (0, .slice a1 p0.length c1), (1, .int .i64 p1)] ∧ w = s15.w) ?_ ?_
        · rintro _ _ ⟨v26, rfl, rfl, rfl⟩
          refine L.as Wt.no rfl rfl ?_
          refine L.nil ?_
          refine X.seqN ?_
          rcases ifS hm with ⟨hc, hm⟩ | ⟨hc, hm⟩
          · refine E.cT rfl hc ?_
            refine E.seq ?_
            refine E.reg ?_
            refine L.as Wt.no rfl rfl ?_
            refine L.nil ?_
            refine X.seqN ?_
            refine E.ret ?_
            refine X.blkR ?_
            refine X.blkR ?_
            refine X.seqR ?_
            refine X.seqR ?_
            have hx := ho13 _ (Option.some.inj hm).symm
            exact X.sub (K21 _ _ ⟨s15, 5, hx.symm, m0, rfl, rfl⟩) (Sub.cons rfl Sub.nil)
          · refine E.cF rfl hc ?_
            refine E.skip ?_
            refine X.blkN ?_
            refine X.blkN ?_
            refine X.seqN ?_
            refine E.reg ?_
            refine L.bi Wt.no rfl rfl rfl rfl ?_
            refine L.mv Wt.no rfl rfl ?_
            refine L.nil ?_
            exact X.sub (ih13 _ (Option.some.inj hm).symm _ _ ⟨s15, m0, h1, rfl, rfl⟩) (Sub.cons rfl (Sub.cons rfl (Sub.cons rfl (Sub.cons rfl (Sub.cons rfl Sub.nil)))))
        · intro J27
          rcases ifS eb25 with ⟨hc, hm⟩ | ⟨hc, hm⟩
          · refine L.know (d := 25) rfl hc ?_
            refine L.mv (Wt.mk rfl rfl) rfl rfl ?_
            refine L.mv (Wt.mk rfl rfl) rfl rfl ?_
            refine L.mv (Wt.mk rfl rfl) rfl rfl ?_
            refine L.bi (Wt.mk rfl rfl) rfl rfl rfl rfl ?_
            obtain ⟨x28, ex28, hm⟩ := bindS hm
            refine L.ix (r := (rK .i64)) sl23 h1 (Wt.mk rfl rfl) rfl rfl ex28 rfl ?_
            rintro b29 o29 cc29 me29 rd29
            obtain rfl := rd29
            refine L.ld (j := 0) me29 nag3 (Wt.mk rfl rfl) rfl rfl rfl rfl ?_
            refine L.bi (Wt.mk rfl rfl) rfl rfl rfl rfl ?_
            refine L.pkT Wt.no rfl rfl rfl rfl ?_
            exact L.sub (Sub.cons rfl (Sub.cons rfl (Sub.cons rfl (Sub.cons rfl (Sub.cons rfl (Sub.cons rfl Sub.nil)))))) (J27 _ _ ⟨(decide (x22 ≤ x28)), (Option.some.inj hm).symm, rfl, rfl⟩)
          · refine L.know (d := 25) rfl hc ?_
            refine L.skip rfl rfl rfl rfl ?_
            refine L.skip rfl rfl rfl rfl ?_
            refine L.skip rfl rfl rfl rfl ?_
            refine L.skip rfl rfl rfl rfl ?_
            refine L.skip rfl rfl rfl rfl ?_
            refine L.skip rfl rfl rfl rfl ?_
            refine L.skip rfl rfl rfl rfl ?_
            refine L.pkF Wt.no rfl rfl rfl rfl ?_
            exact L.sub (Sub.cons rfl (Sub.cons rfl (Sub.cons rfl (Sub.cons rfl (Sub.cons rfl (Sub.cons rfl Sub.nil)))))) (J27 _ _ ⟨false, (Option.some.inj hm).symm, rfl, rfl⟩)
    · intro J30
      rcases Bool.eq_false_or_eq_true (decide (x22 < 0)) with hc | hc
      · refine L.know (d := 17) rfl hc ?_
        refine L.skip rfl rfl rfl rfl ?_
        refine L.skip rfl rfl rfl rfl ?_
        refine L.skip rfl rfl rfl rfl ?_
        refine L.pkT Wt.no rfl rfl rfl rfl ?_
        exact L.sub (Sub.cons rfl (Sub.cons rfl (Sub.cons rfl (Sub.cons rfl (Sub.cons rfl (Sub.cons rfl (Sub.cons rfl (Sub.cons rfl Sub.nil)))))))) (J30 _ _ ⟨true, (orT hc).symm, rfl, rfl⟩)
      · refine L.know (d := 17) rfl hc ?_
        refine L.mv (Wt.mk rfl rfl) rfl rfl ?_
        refine L.mv (Wt.mk rfl rfl) rfl rfl ?_
        refine L.bi (Wt.mk rfl rfl) rfl rfl rfl rfl ?_
        refine L.pkF Wt.no rfl rfl rfl rfl ?_
        exact L.sub (Sub.cons rfl (Sub.cons rfl (Sub.cons rfl (Sub.cons rfl (Sub.cons rfl (Sub.cons rfl (Sub.cons rfl (Sub.cons rfl Sub.nil)))))))) (J30 _ _ ⟨(decide (x22 ≥ p1)), (orF hc).symm, rfl, rfl⟩)
  · refine E.cF rfl hc ?_
    refine E.exit ?_
    refine X.seqX ?_
    refine X.seqX ?_
    have hx := ho13 _ (Option.some.inj hm).symm
    exact X.sub (K18 _ _ ⟨s15, (), hx.symm, m0, rfl, rfl⟩) Sub.nil

noncomputable def m_slices_Index_int_l1 (p0 : List Int) (p1 : Int) (st6 : Int) : Option (Int ⊕ (Unit ⊕ Int)) :=
  if decide (st6 < (p0.length : Int)) then
    (idx p0 st6).bind fun x15 =>
    if (p1 == x15) then
      some (.inr (.inr (st6)))
    else
      some (.inl (W (st6 + 1)))
  else
    some (.inr (.inl ()))
/-- What slices.Index<<>int,int> computes. -/
noncomputable def m_slices_Index_int (p0 : List Int) (p1 : Int) : Option Int :=
  (iter (m_slices_Index_int_l1 p0 p1) 0).bind fun o6 =>
  match o6 with
  | .inl u9 =>
    some (-1)
  | .inr (u12) =>
    some u12
set_option maxRecDepth 100000 in
set_option maxHeartbeats 8000000 in
theorem m_slices_Index_int_c {s : Sig} {p0 : List Int} {p1 : Int} {a1 : Option Addr} {c1 : Nat} {r : Int} (h1 : RdL (rK .i64) s a1 c1 p0) (hm : m_slices_Index_int p0 p1 = some r) :
    Calls Try.prog 53 #[.slice a1 p0.length c1, .int .i64 p1] s.w (RetS No s fun v s' => v = .int .i64 r) := by
  unfold m_slices_Index_int at hm
  obtain ⟨N, hN, hNb⟩ := s.fresh
  have m0 : Mv (Up N No) s s := Mv.refl _ _
  refine E.entry (vs := [.slice a1 p0.length c1, .int .i64 p1]) (e := [(0, .slice a1 p0.length c1), (1, .int .i64 p1)]) Try.func53 rfl Try.ntmps53 rfl rfl ?_
  refine E.seq ?_
  refine E.reg ?_
  refine L.as Wt.no rfl rfl ?_
  refine L.nil ?_
  refine X.seqN ?_
  refine E.seq ?_
  refine E.seq ?_
  refine E.reg ?_
  refine L.mv Wt.no rfl rfl ?_
  refine L.len sl23 Wt.no rfl rfl ?_
  refine L.mv Wt.no rfl rfl ?_
  refine L.nil ?_
  refine X.seqN ?_
  refine E.block ?_
  obtain ⟨o6, eo6, hm⟩ := bindS hm
  refine E.cut (x := .exit 0) (fun e w => ∃ (s10 : Sig) (u9 : Unit), o6 = .inl u9 ∧ Mv (Up N No) s s10 ∧ e = [] ∧ w = s10.w) ?_ ?_
  · rintro _ _ ⟨s10, u9, rfl, m0, rfl, rfl⟩
    dsimp only at hm
    refine X.blkE ?_
    refine X.seqN ?_
    refine E.seq ?_
    refine E.reg ?_
    refine L.as Wt.no rfl rfl ?_
    refine L.nil ?_
    refine X.seqN ?_
    refine E.ret ?_
    obtain rfl := Option.some.inj hm
    exact X.rt (.inl rfl) Try.results53 (Rs.tmp rfl Rs.nil) rfl ⟨_, (s10).ren N (fun _ => 0), rfl, rfl, m0.ren hNb, rfl⟩
  intro K11
  refine E.cut (x := .ret) (fun e w => ∃ (s13 : Sig) (u12 : Int), o6 = .inr (u12) ∧ Mv (Up N No) s s13 ∧ e = [(4, .int .i64 u12)] ∧ w = s13.w) ?_ ?_
  · rintro _ _ ⟨s13, u12, rfl, m0, rfl, rfl⟩
    dsimp only at hm
    refine X.blkR ?_
    refine X.seqR ?_
    obtain rfl := Option.some.inj hm
    exact X.rt (.inl rfl) Try.results53 (Rs.tmp rfl Rs.nil) rfl ⟨_, (s13).ren N (fun _ => 0), rfl, rfl, m0.ren hNb, rfl⟩
  intro K14
  refine E.iter (fun (st6 : Int) (e : List (Nat × Value)) (w : World) => ∃ (s8 : Sig), Mv (Up N No) s s8 ∧ RdL (rK .i64) s8 a1 c1 p0 ∧ e = [(8, .int .i64 st6), (7, .int .i64 (p0.length : Int)), (0, .slice a1 p0.length c1), (1, .int .i64 p1)] ∧ w = s8.w) eo6 ⟨s, m0, h1, rfl, rfl⟩ (Sub.cons rfl (Sub.cons rfl (Sub.cons rfl (Sub.cons rfl Sub.nil)))) ?_
  rintro st6 res6 hm ih6 ho6 _ _ ⟨s8, m0, h1, rfl, rfl⟩
  unfold m_slices_Index_int_l1 at hm
  refine E.seq ?_
  refine E.reg ?_
  refine L.bi Wt.no rfl rfl rfl rfl ?_
  refine L.nil ?_
  refine X.seqN ?_
  refine E.seq ?_
  rcases ifS hm with ⟨hc, hm⟩ | ⟨hc, hm⟩
  · refine E.cT rfl hc ?_
    refine E.skip ?_
    refine X.seqN ?_
    refine E.seq ?_
    refine E.block ?_
    refine E.seq ?_
    refine E.reg ?_
    refine L.mv Wt.no rfl rfl ?_
    refine L.as Wt.no rfl rfl ?_
    refine L.nil ?_
    refine X.seqN ?_
    refine E.seq ?_
    refine E.reg ?_
    refine L.mv Wt.no rfl rfl ?_
    refine L.mv Wt.no rfl rfl ?_
    refine L.mv Wt.no rfl rfl ?_
    obtain ⟨x15, ex15, hm⟩ := bindS hm
    refine L.ix (r := (rK .i64)) sl23 h1 Wt.no rfl rfl ex15 rfl ?_
    rintro b16 o16 cc16 me16 rd16
    obtain rfl := rd16
    refine L.ld (j := 0) me16 nag3 Wt.no rfl rfl rfl rfl ?_
    refine L.bi Wt.no rfl rfl rfl rfl ?_
    refine L.nil ?_
    refine X.seqN ?_
    rcases ifS hm with ⟨hc, hm⟩ | ⟨hc, hm⟩
    · refine E.cT rfl hc ?_
      refine E.seq ?_
      refine E.reg ?_
      refine L.mv Wt.no rfl rfl ?_
      refine L.as Wt.no rfl rfl ?_
      refine L.nil ?_
      refine X.seqN ?_
      refine E.ret ?_
      refine X.blkR ?_
      refine X.seqR ?_
      refine X.seqR ?_
      have hx := ho6 _ (Option.some.inj hm).symm
      exact X.sub (K14 _ _ ⟨s8, st6, hx.symm, m0, rfl, rfl⟩) (Sub.cons rfl Sub.nil)
    · refine E.cF rfl hc ?_
      refine E.skip ?_
      refine X.blkN ?_
      refine X.seqN ?_
      refine E.reg ?_
      refine L.bi Wt.no rfl rfl rfl rfl ?_
      refine L.mv Wt.no rfl rfl ?_
      refine L.nil ?_
      exact X.sub (ih6 _ (Option.some.inj hm).symm _ _ ⟨s8, m0, h1, rfl, rfl⟩) (Sub.cons rfl (Sub.cons rfl (Sub.cons rfl (Sub.cons rfl Sub.nil))))
  · refine E.cF rfl hc ?_
    refine E.exit ?_
    refine X.seqX ?_
    refine X.seqX ?_
    have hx := ho6 _ (Option.some.inj hm).symm
    exact X.sub (K11 _ _ ⟨s8, (), hx.symm, m0, rfl, rfl⟩) Sub.nil

theorem cf53 : Cf Try.prog 53 := Cf.mk Try.func53 (by kernel_rfl) (by kernel_rfl)
/-- What slices.Contains<<>int,int> computes. -/
noncomputable def m_slices_Contains_int (p0 : List Int) (p1 : Int) : Option Bool :=
  (m_slices_Index_int p0 p1).bind fun r2 =>
  some (decide (r2 ≥ 0))
set_option maxRecDepth 100000 in
set_option maxHeartbeats 8000000 in
theorem m_slices_Contains_int_c {s : Sig} {p0 : List Int} {p1 : Int} {a1 : Option Addr} {c1 : Nat} {r : Bool} (h1 : RdL (rK .i64) s a1 c1 p0) (hm : m_slices_Contains_int p0 p1 = some r) :
    Calls Try.prog 23 #[.slice a1 p0.length c1, .int .i64 p1] s.w (RetS No s fun v s' => v = .bool r) := by
  unfold m_slices_Contains_int at hm
  obtain ⟨N, hN, hNb⟩ := s.fresh
  have m0 : Mv (Up N No) s s := Mv.refl _ _
  refine E.entry (vs := [.slice a1 p0.length c1, .int .i64 p1]) (e := [(0, .slice a1 p0.length c1), (1, .int .i64 p1)]) Try.func23 rfl Try.ntmps23 rfl rfl ?_
  refine E.seq ?_
  refine E.reg ?_
  refine L.as Wt.no rfl rfl ?_
  refine L.nil ?_
  refine X.seqN ?_
  refine E.seq ?_
  refine E.reg ?_
  refine L.mv Wt.no rfl rfl ?_
  refine L.mv Wt.no rfl rfl ?_
  obtain ⟨r2, er2, hm⟩ := bindS hm
  refine L.ca (vs := [.slice a1 p0.length c1, .int .i64 p1]) cf53 rfl rfl Wt.no rfl (m_slices_Index_int_c (s := s) (p0 := p0) (p1 := p1) h1 er2) rfl ?_
  rintro _ s3 m4 rfl
  replace m0 := m0.trans m4.no
  refine L.bi Wt.no rfl rfl rfl rfl ?_
  refine L.as Wt.no rfl rfl ?_
  refine L.nil ?_
  refine X.seqN ?_
  refine E.ret ?_
  obtain rfl := Option.some.inj hm
  exact X.rt (.inl rfl) Try.results23 (Rs.tmp rfl Rs.nil) rfl ⟨_, (s3).ren N (fun _ => 0), rfl, rfl, m0.ren hNb, rfl⟩

theorem ag28 : Ag Try.prog 28 3 := Ag.mk' Try.underlying28 rfl (by kernel_rfl)
theorem cf23 : Cf Try.prog 23 := Cf.mk Try.func23 (by kernel_rfl) (by kernel_rfl)
theorem fa26_0 : FA Try.prog 26 0 0 := FA.mk Try.underlying26 rfl rfl ⟨1, by decide, by kernel_rfl⟩
theorem fa26_1 : FA Try.prog 26 1 1 := FA.mk Try.underlying26 rfl rfl ⟨1, by decide, by kernel_rfl⟩
theorem fa26_3 : FA Try.prog 26 3 3 := FA.mk Try.underlying26 rfl rfl ⟨1, by decide, by kernel_rfl⟩
theorem fa28_0 : FA Try.prog 28 0 0 := FA.mk Try.underlying28 rfl rfl ⟨1, by decide, by kernel_rfl⟩
theorem fa28_1 : FA Try.prog 28 1 1 := FA.mk Try.underlying28 rfl rfl ⟨1, by decide, by kernel_rfl⟩
theorem fa28_2 : FA Try.prog 28 2 2 := FA.mk Try.underlying28 rfl rfl ⟨1, by decide, by kernel_rfl⟩
theorem nag23 : NAg Try.prog 23 := NAg.mk' Try.underlying23 rfl (by kernel_rfl)
theorem nag24 : NAg Try.prog 24 := NAg.mk' Try.underlying24 rfl (by kernel_rfl)
theorem sl24 : Sl Try.prog 24 28 3 := Sl.mk' Try.underlying24 (by kernel_rfl)
theorem zz28 : (Try.prog.info? 28).bind (·.zero) = some (.agg #[.int .i64 0, .int .i64 0, .int .i64 0]) := by kernel_rfl
noncomputable def m_automaton_checkEdges_j1 (st38 : Int) : Option (Int ⊕ (Unit ⊕ Int)) :=
  some (.inl (W (st38 + 1)))
noncomputable def m_automaton_checkEdges_l1 (p0 : List Int × Int × List Int × (List (Int × Int × Int))) (st38 : Int) : Option (Int ⊕ (Unit ⊕ Int)) :=
  if decide (st38 < (p0.2.2.2.length : Int)) then
    (idx p0.2.2.2 st38).bind fun x49 =>
    if ((((decide (x49.1 < 0)) || (decide (x49.1 ≥ p0.2.1))) || (decide (x49.2.2 < 0))) || (decide (x49.2.2 ≥ p0.2.1))) then
      some (.inr (.inr (2)))
    else
      (m_slices_Contains_int p0.1 x49.2.1).bind fun r59 =>
      if (!r59) then
        some (.inr (.inr (9)))
      else
        if (st38 == 0) then
          m_automaton_checkEdges_j1 st38
        else
          (idx p0.2.2.2 (W (st38 - 1))).bind fun x62 =>
          if ((decide (x49.1 < x62.1)) || ((x49.1 == x62.1) && (decide (x49.2.1 ≤ x62.2.1)))) then
            some (.inr (.inr (5)))
          else
            m_automaton_checkEdges_j1 st38
  else
    some (.inr (.inl ()))
/-- What automaton.checkEdges computes. -/
noncomputable def m_automaton_checkEdges (p0 : List Int × Int × List Int × (List (Int × Int × Int))) : Option Int :=
  (iter (m_automaton_checkEdges_l1 p0) 0).bind fun o38 =>
  match o38 with
  | .inl u41 =>
    some 0
  | .inr (u44) =>
    some u44
set_option maxRecDepth 100000 in
set_option maxHeartbeats 8000000 in
theorem m_automaton_checkEdges_c {s : Sig} {p0 : List Int × Int × List Int × (List (Int × Int × Int))} {a1 : Option Addr} {c1 : Nat} {a2 : Option Addr} {c2 : Nat} {a3 : Option Addr} {c3 : Nat} {r : Int} (h1 : RdL (rK .i64) s a1 c1 p0.1) (h2 : RdL (rK .i64) s a2 c2 p0.2.2.1) (h3 : RdL (rP (rK .i64) (rP (rK .i64) (rK .i64))) s a3 c3 p0.2.2.2) (hm : m_automaton_checkEdges p0 = some r) :
    Calls Try.prog 62 #[.agg #[.slice a1 p0.1.length c1, .int .i64 p0.2.1, .slice a2 p0.2.2.1.length c2, .slice a3 p0.2.2.2.length c3]] s.w (RetS No s fun v s' => v = .int .i64 r) := by
  unfold m_automaton_checkEdges at hm
  obtain ⟨N, hN, hNb⟩ := s.fresh
  have m0 : Mv (Up N No) s s := Mv.refl _ _
  refine E.entry (vs := [.agg #[.slice a1 p0.1.length c1, .int .i64 p0.2.1, .slice a2 p0.2.2.1.length c2, .slice a3 p0.2.2.2.length c3]]) (e := [(0, .agg #[.slice a1 p0.1.length c1, .int .i64 p0.2.1, .slice a2 p0.2.2.1.length c2, .slice a3 p0.2.2.2.length c3])]) Try.func62 rfl Try.ntmps62 rfl rfl ?_
  refine E.seq ?_
  refine E.reg ?_
  refine L.box (N + 0) Wt.no rfl rfl rfl ?_
  intro b4 s5 m6 bx4
  replace m0 := m0.trans m6.no
  replace h1 := h1.mono (m6.le no_No)
  replace h2 := h2.mono (m6.le no_No)
  replace h3 := h3.mono (m6.le no_No)
  refine L.as Wt.no rfl rfl ?_
  refine L.nil ?_
  refine X.seqN ?_
  refine E.seq ?_
  refine E.seq ?_
  refine E.reg ?_
  refine L.fa fa26_3 Wt.no rfl rfl ?_
  refine L.ld (j := 3) bx4.mem nag24 Wt.no rfl rfl rfl rfl ?_
  refine L.len sl24 Wt.no rfl rfl ?_
  refine L.mv Wt.no rfl rfl ?_
  refine L.nil ?_
  refine X.seqN ?_
  refine E.block ?_
  obtain ⟨o38, eo38, hm⟩ := bindS hm
  refine E.cut (x := .exit 0) (fun e w => ∃ (s42 : Sig) (u41 : Unit), o38 = .inl u41 ∧ Mv (Up N No) s s42 ∧ e = [] ∧ w = s42.w) ?_ ?_
  · rintro _ _ ⟨s42, u41, rfl, m0, rfl, rfl⟩
    dsimp only at hm
    refine X.blkE ?_
    refine X.seqN ?_
    refine E.seq ?_
    refine E.reg ?_
    refine L.as Wt.no rfl rfl ?_
    refine L.nil ?_
    refine X.seqN ?_
    refine E.ret ?_
    obtain rfl := Option.some.inj hm
    exact X.rt (.inl rfl) Try.results62 (Rs.tmp rfl Rs.nil) rfl ⟨_, (s42).ren N (fun _ => 0), rfl, rfl, m0.ren hNb, rfl⟩
  intro K43
  refine E.cut (x := .ret) (fun e w => ∃ (s45 : Sig) (u44 : Int), o38 = .inr (u44) ∧ Mv (Up N No) s s45 ∧ e = [(2, .int .i64 u44)] ∧ w = s45.w) ?_ ?_
  · rintro _ _ ⟨s45, u44, rfl, m0, rfl, rfl⟩
    dsimp only at hm
    refine X.blkR ?_
    refine X.seqR ?_
    obtain rfl := Option.some.inj hm
    exact X.rt (.inl rfl) Try.results62 (Rs.tmp rfl Rs.nil) rfl ⟨_, (s45).ren N (fun _ => 0), rfl, rfl, m0.ren hNb, rfl⟩
  intro K46
  refine E.iter (fun (st38 : Int) (e : List (Nat × Value)) (w : World) => ∃ (s40 : Sig), Mv (Up N No) s s40 ∧ RdL (rP (rK .i64) (rP (rK .i64) (rK .i64))) s40 a3 c3 p0.2.2.2 ∧ RdL (rK .i64) s40 a1 c1 p0.1 ∧ RdL (rK .i64) s40 a2 c2 p0.2.2.1 ∧ Bx s40 (N + 0) b4 #[.slice a1 p0.1.length c1, .int .i64 p0.2.1, .slice a2 p0.2.2.1.length c2, .slice a3 p0.2.2.2.length c3] 26 ∧ e = [(9, .int .i64 st38), (8, .int .i64 (p0.2.2.2.length : Int)), (7, .slice a3 p0.2.2.2.length c3), (1, .pointer (some ⟨b4, 0, none⟩))] ∧ w = s40.w) eo38 ⟨s5, m0, h3, h1, h2, bx4, rfl, rfl⟩ (Sub.cons rfl (Sub.cons rfl (Sub.cons rfl (Sub.cons rfl Sub.nil)))) ?_
  rintro st38 res38 hm ih38 ho38 _ _ ⟨s40, m0, h3, h1, h2, bx4, rfl, rfl⟩
  unfold m_automaton_checkEdges_l1 at hm
  refine E.seq ?_
  refine E.reg ?_
  refine L.bi Wt.no rfl rfl rfl rfl ?_
  refine L.nil ?_
  refine X.seqN ?_
  refine E.seq ?_
  rcases ifS hm with ⟨hc, hm⟩ | ⟨hc, hm⟩
  · refine E.cT rfl hc ?_
    refine E.skip ?_
    refine X.seqN ?_
    refine E.seqJ (fun e w => ∃ (s47 : Sig), m_automaton_checkEdges_j1 st38 = some res38 ∧ Mv (Up N No) s s47 ∧ RdL (rP (rK .i64) (rP (rK .i64) (rK .i64))) s47 a3 c3 p0.2.2.2 ∧ RdL (rK .i64) s47 a1 c1 p0.1 ∧ RdL (rK .i64) s47 a2 c2 p0.2.2.1 ∧ Bx s47 (N + 0) b4 #[.slice a1 p0.1.length c1, .int .i64 p0.2.1, .slice a2 p0.2.2.1.length c2, .slice a3 p0.2.2.2.length c3] 26 ∧ e = [(9, .int .i64 st38), (8, .int .i64 (p0.2.2.2.length : Int)), (7, .slice a3 p0.2.2.2.length c3), (1, .pointer (some ⟨b4, 0, none⟩))] ∧ w = s47.w) ?_ ?_
    · rintro _ _ ⟨s47, hm, m0, h3, h1, h2, bx4, rfl, rfl⟩
      unfold m_automaton_checkEdges_j1 at hm
      refine E.reg ?_
      refine L.bi Wt.no rfl rfl rfl rfl ?_
      refine L.mv Wt.no rfl rfl ?_
      refine L.nil ?_
      exact X.sub (ih38 _ (Option.some.inj hm).symm _ _ ⟨s47, m0, h3, h1, h2, bx4, rfl, rfl⟩) (Sub.cons rfl (Sub.cons rfl (Sub.cons rfl (Sub.cons rfl Sub.nil))))
    · intro Jj48
      refine E.block ?_
      refine E.seq ?_
      refine E.reg ?_
      refine L.mv Wt.no rfl rfl ?_
      obtain ⟨x49, ex49, hm⟩ := bindS hm
      refine L.ix (r := (rP (rK .i64) (rP (rK .i64) (rK .i64)))) sl24 h3 Wt.no rfl rfl ex49 rfl ?_
      rintro b50 o50 cc50 me50 rd50
      obtain ⟨_, _, rfl, rfl, ⟨_, _, rfl, rfl, rfl⟩⟩ := rd50
      refine L.lg (j := 0) (cs := [.int .i64 x49.1, .int .i64 x49.2.1, .int .i64 x49.2.2]) me50 ag28 Wt.no rfl rfl rfl rfl rfl ?_
      refine L.al (N + 1) zz28 rfl Wt.no rfl ?_
      intro b51 s52 m53 bx51
      replace m0 := m0.trans m53.no
      replace h3 := h3.mono (m53.le no_No)
      replace bx4 := bx4.mv m53 no_No
      replace h1 := h1.mono (m53.le no_No)
      replace h2 := h2.mono (m53.le no_No)
      refine L.as Wt.no rfl rfl ?_
      refine L.st (c := [.int .i64 x49.1, .int .i64 x49.2.1, .int .i64 x49.2.2]) (cs' := #[.int .i64 x49.1, .int .i64 x49.2.1, .int .i64 x49.2.2]) bx51 ag28.sz Wt.no rfl rfl rfl rfl rfl (Nat.le_of_ble_eq_true rfl) rfl ?_
      intro s54 m55 bx51
      replace m0 := m0.trans (m55.one up)
      replace h3 := h3.mono (m55.le (tg0 hN))
      replace bx4 := bx4.mv m55 (tgN (by decide))
      replace h1 := h1.mono (m55.le (tg0 hN))
      replace h2 := h2.mono (m55.le (tg0 hN))
      refine L.nil ?_
      refine X.seqN ?_
      refine E.seq ?_
      refine E.block ?_
      refine E.seq ?_
      refine E.reg ?_
      refine L.fa fa28_0 Wt.no rfl rfl ?_
      refine L.ld (j := 0) bx51.mem nag3 Wt.no rfl rfl rfl rfl ?_
      refine L.bi Wt.no rfl rfl rfl rfl ?_
      refine L.mv Wt.no rfl rfl ?_
      refine L.cut 6 (fun e w => ∃ (v56 : Bool), ((decide (x49.1 < 0)) || (decide (x49.1 ≥ p0.2.1))) = v56 ∧ e = (24, .bool v56) :: [(3, .int .i64 st38), (4, .pointer (some ⟨b51, 0, none⟩)), (9, .int .i64 st38), (8, .int .i64 (p0.2.2.2.length : Int)), (7, .slice a3 p0.2.2.2.length c3), (1, .pointer (some ⟨b4, 0, none⟩))] ∧ w = s54.w) ?_ ?_
      · rintro _ _ ⟨v56, rfl, rfl, rfl⟩
        refine L.mv Wt.no rfl rfl ?_
        refine L.cut 4 (fun e w => ∃ (v57 : Bool), (((decide (x49.1 < 0)) || (decide (x49.1 ≥ p0.2.1))) || (decide (x49.2.2 < 0))) = v57 ∧ e = (29, .bool v57) :: [(3, .int .i64 st38), (4, .pointer (some ⟨b51, 0, none⟩)), (9, .int .i64 st38), (8, .int .i64 (p0.2.2.2.length : Int)), (7, .slice a3 p0.2.2.2.length c3), (1, .pointer (some ⟨b4, 0, none⟩))] ∧ w = s54.w) ?_ ?_
        · rintro _ _ ⟨v57, rfl, rfl, rfl⟩
          refine L.mv Wt.no rfl rfl ?_
          refine L.cut 6 (fun e w => ∃ (v58 : Bool), ((((decide (x49.1 < 0)) || (decide (x49.1 ≥ p0.2.1))) || (decide (x49.2.2 < 0))) || (decide (x49.2.2 ≥ p0.2.1))) = v58 ∧ e = (36, .bool v58) :: [(3, .int .i64 st38), (4, .pointer (some ⟨b51, 0, none⟩)), (9, .int .i64 st38), (8, .int .i64 (p0.2.2.2.length : Int)), (7, .slice a3 p0.2.2.2.length c3), (1, .pointer (some ⟨b4, 0, none⟩))] ∧ w = s54.w) ?_ ?_
          · rintro _ _ ⟨v58, rfl, rfl, rfl⟩
            refine L.as Wt.no rfl rfl ?_
            refine L.nil ?_
            refine X.seqN ?_
            rcases ifS hm with ⟨hc, hm⟩ | ⟨hc, hm⟩
            · refine E.cT rfl hc ?_
              refine E.seq ?_
              refine E.reg ?_
              refine L.as Wt.no rfl rfl ?_
              refine L.nil ?_
              refine X.seqN ?_
              refine E.ret ?_
              refine X.blkR ?_
              refine X.seqR ?_
              refine X.blkR ?_
              refine X.seqR ?_
              refine X.seqR ?_
              have hx := ho38 _ (Option.some.inj hm).symm
              exact X.sub (K46 _ _ ⟨s54, 2, hx.symm, m0, rfl, rfl⟩) (Sub.cons rfl Sub.nil)
            · refine E.cF rfl hc ?_
              refine E.seq ?_
              refine E.reg ?_
              refine L.fa fa26_0 Wt.no rfl rfl ?_
              refine L.ld (j := 0) bx4.mem nag23 Wt.no rfl rfl rfl rfl ?_
              refine L.fa fa28_1 Wt.no rfl rfl ?_
              refine L.ld (j := 1) bx51.mem nag3 Wt.no rfl rfl rfl rfl ?_
              obtain ⟨r59, er59, hm⟩ := bindS hm
              refine L.ca (vs := [.slice a1 p0.1.length c1, .int .i64 x49.2.1]) cf23 rfl rfl Wt.no rfl (m_slices_Contains_int_c (s := s54) (p0 := p0.1) (p1 := x49.2.1) h1 er59) rfl ?_
              rintro _ s60 m61 rfl
              replace m0 := m0.trans m61.no
              replace h3 := h3.mono (m61.le no_No)
              replace bx4 := bx4.mv m61 no_No
              replace h1 := h1.mono (m61.le no_No)
              replace h2 := h2.mono (m61.le no_No)
              replace bx51 := bx51.mv m61 no_No
              refine L.not Wt.no rfl rfl ?_
              refine L.as Wt.no rfl rfl ?_
              refine L.nil ?_
              refine X.seqN ?_
              rcases ifS hm with ⟨hc, hm⟩ | ⟨hc, hm⟩
              · refine E.cT rfl hc ?_
                refine E.seq ?_
                refine E.reg ?_
                refine L.as Wt.no rfl rfl ?_
                refine L.nil ?_
                refine X.seqN ?_
                refine E.ret ?_
                refine X.blkR ?_
                refine X.seqR ?_
                refine X.blkR ?_
                refine X.seqR ?_
                refine X.seqR ?_
                have hx := ho38 _ (Option.some.inj hm).symm
                exact X.sub (K46 _ _ ⟨s60, 9, hx.symm, m0, rfl, rfl⟩) (Sub.cons rfl Sub.nil)
              · refine E.cF rfl hc ?_
                refine E.skip ?_
                refine X.blkN ?_
                refine X.seqN ?_
                refine E.seq ?_
                refine E.seq ?_
                refine E.reg ?_
                refine L.mv Wt.no rfl rfl ?_
                refine L.bi Wt.no rfl rfl rfl rfl ?_
                refine L.nil ?_
                refine X.seqN ?_
                rcases ifS hm with ⟨hc, hm⟩ | ⟨hc, hm⟩
                · refine E.cT rfl hc ?_
                  refine E.exit ?_
                  refine X.seqX ?_
                  refine X.blkE ?_
                  exact X.sub (Jj48 _ _ ⟨s60, hm, m0, h3, h1, h2, bx4, rfl, rfl⟩) (Sub.cons rfl (Sub.cons rfl (Sub.cons rfl (Sub.cons rfl Sub.nil))))
                · refine E.cF rfl hc ?_
                  refine E.skip ?_
                  refine X.seqN ?_
                  refine E.seq ?_
                  refine E.reg ?_
                  refine L.fa fa26_3 Wt.no rfl rfl ?_
                  refine L.ld (j := 3) bx4.mem nag24 Wt.no rfl rfl rfl rfl ?_
                  refine L.mv Wt.no rfl rfl ?_
                  refine L.bi Wt.no rfl rfl rfl rfl ?_
                  obtain ⟨x62, ex62, hm⟩ := bindS hm
                  refine L.ix (r := (rP (rK .i64) (rP (rK .i64) (rK .i64)))) sl24 h3 Wt.no rfl rfl ex62 rfl ?_
                  rintro b63 o63 cc63 me63 rd63
                  obtain ⟨_, _, rfl, rfl, ⟨_, _, rfl, rfl, rfl⟩⟩ := rd63
                  refine L.lg (j := 0) (cs := [.int .i64 x62.1, .int .i64 x62.2.1, .int .i64 x62.2.2]) me63 ag28 Wt.no rfl rfl rfl rfl rfl ?_
                  refine L.al (N + 2) zz28 rfl Wt.no rfl ?_
                  intro b64 s65 m66 bx64
                  replace m0 := m0.trans m66.no
                  replace h3 := h3.mono (m66.le no_No)
                  replace bx4 := bx4.mv m66 no_No
                  replace h1 := h1.mono (m66.le no_No)
                  replace h2 := h2.mono (m66.le no_No)
                  replace bx51 := bx51.mv m66 no_No
                  refine L.st (c := [.int .i64 x62.1, .int .i64 x62.2.1, .int .i64 x62.2.2]) (cs' := #[.int .i64 x62.1, .int .i64 x62.2.1, .int .i64 x62.2.2]) bx64 ag28.sz Wt.no rfl rfl rfl rfl rfl (Nat.le_of_ble_eq_true rfl) rfl ?_
                  intro s67 m68 bx64
                  replace m0 := m0.trans (m68.one up)
                  replace h3 := h3.mono (m68.le (tg0 hN))
                  replace bx4 := bx4.mv m68 (tgN (by decide))
                  replace h1 := h1.mono (m68.le (tg0 hN))
                  replace h2 := h2.mono (m68.le (tg0 hN))
                  replace bx51 := bx51.mv m68 (tgN (by decide))
                  refine L.nil ?_
                  refine X.seqN ?_
                  refine E.seq ?_
                  refine E.reg ?_
                  refine L.fa fa28_0 Wt.no rfl rfl ?_
                  refine L.ld (j := 0) bx51.mem nag3 Wt.no rfl rfl rfl rfl ?_
                  refine L.fa fa28_0 Wt.no rfl rfl ?_
                  refine L.ld (j := 0) bx64.mem nag3 Wt.no rfl rfl rfl rfl ?_
                  refine L.bi Wt.no rfl rfl rfl rfl ?_
                  refine L.mv Wt.no rfl rfl ?_
                  refine L.cut 13 (fun e w => ∃ (v69 : Bool), ((decide (x49.1 < x62.1)) || ((x49.1 == x62.1) && (decide (x49.2.1 ≤ x62.2.1)))) = v69 ∧ e = (70, .bool v69) :: [(9, .int .i64 st38), (8, .int .i64 (p0.2.2.2.length : Int)), (7, .slice a3 p0.2.2.2.length c3), (1, .pointer (some ⟨b4, 0, none⟩))] ∧ w = s67.w) ?_ ?_
                  · rintro _ _ ⟨v69, rfl, rfl, rfl⟩
                    refine L.nil ?_
                    refine X.seqN ?_
                    rcases ifS hm with ⟨hc, hm⟩ | ⟨hc, hm⟩
                    · refine E.cT rfl hc ?_
                      refine E.seq ?_
                      refine E.reg ?_
                      refine L.as Wt.no rfl rfl ?_
                      refine L.nil ?_
                      refine X.seqN ?_
                      refine E.ret ?_
                      refine X.blkR ?_
                      refine X.seqR ?_
                      refine X.seqR ?_
                      have hx := ho38 _ (Option.some.inj hm).symm
                      exact X.sub (K46 _ _ ⟨s67, 5, hx.symm, m0, rfl, rfl⟩) (Sub.cons rfl Sub.nil)
                    · refine E.cF rfl hc ?_
                      refine E.skip ?_
                      refine X.blkN ?_
                      exact X.sub (Jj48 _ _ ⟨s67, hm, m0, h3, h1, h2, bx4, rfl, rfl⟩) (Sub.cons rfl (Sub.cons rfl (Sub.cons rfl (Sub.cons rfl Sub.nil))))
                  · intro J70
                    rcases Bool.eq_false_or_eq_true (decide (x49.1 < x62.1)) with hc | hc
                    · refine L.know (d := 57) rfl hc ?_
                      refine L.skip rfl rfl rfl rfl ?_
                      refine L.skip rfl rfl rfl rfl ?_
                      refine L.skip rfl rfl rfl rfl ?_
                      refine L.skip rfl rfl rfl rfl ?_
                      refine L.skip rfl rfl rfl rfl ?_
                      refine L.skip rfl rfl rfl rfl ?_
                      refine L.skipU rfl rfl rfl ?_
                      refine L.skipU rfl rfl rfl ?_
                      refine L.skipU rfl rfl rfl ?_
                      refine L.skipU rfl rfl rfl ?_
                      refine L.skipU rfl rfl rfl ?_
                      refine L.skip rfl rfl rfl rfl ?_
                      refine L.pkT Wt.no rfl rfl rfl rfl ?_
                      exact L.sub (Sub.cons rfl (Sub.cons rfl (Sub.cons rfl (Sub.cons rfl (Sub.cons rfl Sub.nil))))) (J70 _ _ ⟨true, (orT hc).symm, rfl, rfl⟩)
                    · refine L.know (d := 57) rfl hc ?_
                      refine L.fa fa28_0 (Wt.mk rfl rfl) rfl rfl ?_
                      refine L.ld (j := 0) bx51.mem nag3 (Wt.mk rfl rfl) rfl rfl rfl rfl ?_
                      refine L.fa fa28_0 (Wt.mk rfl rfl) rfl rfl ?_
                      refine L.ld (j := 0) bx64.mem nag3 (Wt.mk rfl rfl) rfl rfl rfl rfl ?_
                      refine L.bi (Wt.mk rfl rfl) rfl rfl rfl rfl ?_
                      refine L.mv (Wt.mk rfl rfl) rfl rfl ?_
                      refine L.cut 6 (fun e w => ∃ (v71 : Bool), ((x49.1 == x62.1) && (decide (x49.2.1 ≤ x62.2.1))) = v71 ∧ e = (69, .bool v71) :: [(57, .bool false), (9, .int .i64 st38), (8, .int .i64 (p0.2.2.2.length : Int)), (7, .slice a3 p0.2.2.2.length c3), (1, .pointer (some ⟨b4, 0, none⟩))] ∧ w = s67.w) ?_ ?_
                      · rintro _ _ ⟨v71, rfl, rfl, rfl⟩
                        refine L.pkF Wt.no rfl rfl rfl rfl ?_
                        exact L.sub (Sub.cons rfl (Sub.cons rfl (Sub.cons rfl (Sub.cons rfl (Sub.cons rfl Sub.nil))))) (J70 _ _ ⟨((x49.1 == x62.1) && (decide (x49.2.1 ≤ x62.2.1))), (orF hc).symm, rfl, rfl⟩)
                      · intro J72
                        rcases Bool.eq_false_or_eq_true (x49.1 == x62.1) with hc | hc
                        · refine L.know (d := 63) rfl hc ?_
                          refine L.fa fa28_1 (Wt.mk rfl rfl) rfl rfl ?_
                          refine L.ld (j := 1) bx51.mem nag3 (Wt.mk rfl rfl) rfl rfl rfl rfl ?_
                          refine L.fa fa28_1 (Wt.mk rfl rfl) rfl rfl ?_
                          refine L.ld (j := 1) bx64.mem nag3 (Wt.mk rfl rfl) rfl rfl rfl rfl ?_
                          refine L.bi (Wt.mk rfl rfl) rfl rfl rfl rfl ?_
                          refine L.pkT (Wt.mk rfl rfl) rfl rfl rfl rfl ?_
                          exact L.sub (Sub.cons rfl (Sub.cons rfl (Sub.cons rfl (Sub.cons rfl (Sub.cons rfl (Sub.cons rfl Sub.nil)))))) (J72 _ _ ⟨(decide (x49.2.1 ≤ x62.2.1)), (andT hc).symm, rfl, rfl⟩)
                        · refine L.know (d := 63) rfl hc ?_
                          refine L.skip rfl rfl rfl rfl ?_
                          refine L.skip rfl rfl rfl rfl ?_
                          refine L.skip rfl rfl rfl rfl ?_
                          refine L.skip rfl rfl rfl rfl ?_
                          refine L.skip rfl rfl rfl rfl ?_
                          refine L.pkF (Wt.mk rfl rfl) rfl rfl rfl rfl ?_
                          exact L.sub (Sub.cons rfl (Sub.cons rfl (Sub.cons rfl (Sub.cons rfl (Sub.cons rfl (Sub.cons rfl Sub.nil)))))) (J72 _ _ ⟨false, (andF hc).symm, rfl, rfl⟩)
          · intro J73
            rcases Bool.eq_false_or_eq_true (((decide (x49.1 < 0)) || (decide (x49.1 ≥ p0.2.1))) || (decide (x49.2.2 < 0))) with hc | hc
            · refine L.know (d := 30) rfl hc ?_
              refine L.skip rfl rfl rfl rfl ?_
              refine L.skip rfl rfl rfl rfl ?_
              refine L.skip rfl rfl rfl rfl ?_
              refine L.skip rfl rfl rfl rfl ?_
              refine L.skip rfl rfl rfl rfl ?_
              refine L.pkT Wt.no rfl rfl rfl rfl ?_
              exact L.sub (Sub.cons rfl (Sub.cons rfl (Sub.cons rfl (Sub.cons rfl (Sub.cons rfl (Sub.cons rfl (Sub.cons rfl Sub.nil))))))) (J73 _ _ ⟨true, (orT hc).symm, rfl, rfl⟩)
            · refine L.know (d := 30) rfl hc ?_
              refine L.fa fa28_2 (Wt.mk rfl rfl) rfl rfl ?_
              refine L.ld (j := 2) bx51.mem nag3 (Wt.mk rfl rfl) rfl rfl rfl rfl ?_
              refine L.fa fa26_1 (Wt.mk rfl rfl) rfl rfl ?_
              refine L.ld (j := 1) bx4.mem nag3 (Wt.mk rfl rfl) rfl rfl rfl rfl ?_
              refine L.bi (Wt.mk rfl rfl) rfl rfl rfl rfl ?_
              refine L.pkF Wt.no rfl rfl rfl rfl ?_
              exact L.sub (Sub.cons rfl (Sub.cons rfl (Sub.cons rfl (Sub.cons rfl (Sub.cons rfl (Sub.cons rfl (Sub.cons rfl Sub.nil))))))) (J73 _ _ ⟨(decide (x49.2.2 ≥ p0.2.1)), (orF hc).symm, rfl, rfl⟩)
        · intro J74
          rcases Bool.eq_false_or_eq_true ((decide (x49.1 < 0)) || (decide (x49.1 ≥ p0.2.1))) with hc | hc
          · refine L.know (d := 25) rfl hc ?_
            refine L.skip rfl rfl rfl rfl ?_
            refine L.skip rfl rfl rfl rfl ?_
            refine L.skip rfl rfl rfl rfl ?_
            refine L.pkT Wt.no rfl rfl rfl rfl ?_
            exact L.sub (Sub.cons rfl (Sub.cons rfl (Sub.cons rfl (Sub.cons rfl (Sub.cons rfl (Sub.cons rfl (Sub.cons rfl Sub.nil))))))) (J74 _ _ ⟨true, (orT hc).symm, rfl, rfl⟩)
          · refine L.know (d := 25) rfl hc ?_
            refine L.fa fa28_2 (Wt.mk rfl rfl) rfl rfl ?_
            refine L.ld (j := 2) bx51.mem nag3 (Wt.mk rfl rfl) rfl rfl rfl rfl ?_
            refine L.bi (Wt.mk rfl rfl) rfl rfl rfl rfl ?_
            refine L.pkF Wt.no rfl rfl rfl rfl ?_
            exact L.sub (Sub.cons rfl (Sub.cons rfl (Sub.cons rfl (Sub.cons rfl (Sub.cons rfl (Sub.cons rfl (Sub.cons rfl Sub.nil))))))) (J74 _ _ ⟨(decide (x49.2.2 < 0)), (orF hc).symm, rfl, rfl⟩)
      · intro J75
        rcases Bool.eq_false_or_eq_true (decide (x49.1 < 0)) with hc | hc
        · refine L.know (d := 18) rfl hc ?_
          refine L.skip rfl rfl rfl rfl ?_
          refine L.skip rfl rfl rfl rfl ?_
          refine L.skip rfl rfl rfl rfl ?_
          refine L.skip rfl rfl rfl rfl ?_
          refine L.skip rfl rfl rfl rfl ?_
          refine L.pkT Wt.no rfl rfl rfl rfl ?_
          exact L.sub (Sub.cons rfl (Sub.cons rfl (Sub.cons rfl (Sub.cons rfl (Sub.cons rfl (Sub.cons rfl (Sub.cons rfl Sub.nil))))))) (J75 _ _ ⟨true, (orT hc).symm, rfl, rfl⟩)
        · refine L.know (d := 18) rfl hc ?_
          refine L.fa fa28_0 (Wt.mk rfl rfl) rfl rfl ?_
          refine L.ld (j := 0) bx51.mem nag3 (Wt.mk rfl rfl) rfl rfl rfl rfl ?_
          refine L.fa fa26_1 (Wt.mk rfl rfl) rfl rfl ?_
          refine L.ld (j := 1) bx4.mem nag3 (Wt.mk rfl rfl) rfl rfl rfl rfl ?_
          refine L.bi (Wt.mk rfl rfl) rfl rfl rfl rfl ?_
          refine L.pkF Wt.no rfl rfl rfl rfl ?_
          exact L.sub (Sub.cons rfl (Sub.cons rfl (Sub.cons rfl (Sub.cons rfl (Sub.cons rfl (Sub.cons rfl (Sub.cons rfl Sub.nil))))))) (J75 _ _ ⟨(decide (x49.1 ≥ p0.2.1)), (orF hc).symm, rfl, rfl⟩)
  · refine E.cF rfl hc ?_
    refine E.exit ?_
    refine X.seqX ?_
    refine X.seqX ?_
    have hx := ho38 _ (Option.some.inj hm).symm
    exact X.sub (K43 _ _ ⟨s40, (), hx.symm, m0, rfl, rfl⟩) Sub.nil

theorem cf61 : Cf Try.prog 61 := Cf.mk Try.func61 (by kernel_rfl) (by kernel_rfl)
theorem cf62 : Cf Try.prog 62 := Cf.mk Try.func62 (by kernel_rfl) (by kernel_rfl)
theorem fa26_2 : FA Try.prog 26 2 2 := FA.mk Try.underlying26 rfl rfl ⟨1, by decide, by kernel_rfl⟩
/-- What automaton.Check computes. -/
noncomputable def m_automaton_Check (p0 : List Int × Int × List Int × (List (Int × Int × Int))) : Option Int :=
  (m_automaton_checkSet p0.1 32).bind fun r7 =>
  if (r7 != 0) then
    some r7
  else
    if decide (p0.2.1 < 0) then
      some 2
    else
      if decide (p0.2.1 > 4096) then
        some 3
      else
        (m_automaton_checkSet p0.2.2.1 p0.2.1).bind fun r10 =>
        if (r10 != 0) then
          some r10
        else
          (m_automaton_checkEdges p0).bind fun r13 =>
          some r13
set_option maxRecDepth 100000 in
set_option maxHeartbeats 8000000 in
theorem m_automaton_Check_c {s : Sig} {p0 : List Int × Int × List Int × (List (Int × Int × Int))} {a1 : Option Addr} {c1 : Nat} {a2 : Option Addr} {c2 : Nat} {a3 : Option Addr} {c3 : Nat} {r : Int} (h1 : RdL (rK .i64) s a1 c1 p0.1) (h2 : RdL (rK .i64) s a2 c2 p0.2.2.1) (h3 : RdL (rP (rK .i64) (rP (rK .i64) (rK .i64))) s a3 c3 p0.2.2.2) (hm : m_automaton_Check p0 = some r) :
    Calls Try.prog 33 #[.agg #[.slice a1 p0.1.length c1, .int .i64 p0.2.1, .slice a2 p0.2.2.1.length c2, .slice a3 p0.2.2.2.length c3]] s.w (RetS No s fun v s' => v = .int .i64 r) := by
  unfold m_automaton_Check at hm
  obtain ⟨N, hN, hNb⟩ := s.fresh
  have m0 : Mv (Up N No) s s := Mv.refl _ _
  refine E.entry (vs := [.agg #[.slice a1 p0.1.length c1, .int .i64 p0.2.1, .slice a2 p0.2.2.1.length c2, .slice a3 p0.2.2.2.length c3]]) (e := [(0, .agg #[.slice a1 p0.1.length c1, .int .i64 p0.2.1, .slice a2 p0.2.2.1.length c2, .slice a3 p0.2.2.2.length c3])]) Try.func33 rfl Try.ntmps33 rfl rfl ?_
  refine E.seq ?_
  refine E.reg ?_
  refine L.box (N + 0) Wt.no rfl rfl rfl ?_
  intro b4 s5 m6 bx4
  replace m0 := m0.trans m6.no
  replace h1 := h1.mono (m6.le no_No)
  replace h2 := h2.mono (m6.le no_No)
  replace h3 := h3.mono (m6.le no_No)
  refine L.as Wt.no rfl rfl ?_
  refine L.nil ?_
  refine X.seqN ?_
  refine E.seq ?_
  refine E.seq ?_
  refine E.reg ?_
  refine L.fa fa26_0 Wt.no rfl rfl ?_
  refine L.ld (j := 0) bx4.mem nag23 Wt.no rfl rfl rfl rfl ?_
  obtain ⟨r7, er7, hm⟩ := bindS hm
  refine L.ca (vs := [.slice a1 p0.1.length c1, .int .i64 32]) cf61 rfl rfl Wt.no rfl (m_automaton_checkSet_c (s := s5) (p0 := p0.1) (p1 := 32) h1 er7) rfl ?_
  rintro _ s8 m9 rfl
  replace m0 := m0.trans m9.no
  replace bx4 := bx4.mv m9 no_No
  replace h1 := h1.mono (m9.le no_No)
  replace h2 := h2.mono (m9.le no_No)
  replace h3 := h3.mono (m9.le no_No)
  refine L.as Wt.no rfl rfl ?_
  refine L.nil ?_
  refine X.seqN ?_
  refine E.seq ?_
  refine E.reg ?_
  refine L.mv Wt.no rfl rfl ?_
  refine L.bi Wt.no rfl rfl rfl rfl ?_
  refine L.nil ?_
  refine X.seqN ?_
  rcases ifS hm with ⟨hc, hm⟩ | ⟨hc, hm⟩
  · refine E.cT rfl hc ?_
    refine E.seq ?_
    refine E.reg ?_
    refine L.mv Wt.no rfl rfl ?_
    refine L.as Wt.no rfl rfl ?_
    refine L.nil ?_
    refine X.seqN ?_
    refine E.ret ?_
    refine X.seqR ?_
    obtain rfl := Option.some.inj hm
    exact X.rt (.inl rfl) Try.results33 (Rs.tmp rfl Rs.nil) rfl ⟨_, (s8).ren N (fun _ => 0), rfl, rfl, m0.ren hNb, rfl⟩
  · refine E.cF rfl hc ?_
    refine E.skip ?_
    refine X.seqN ?_
    refine E.seq ?_
    refine E.block ?_
    refine E.seq ?_
    refine E.reg ?_
    refine L.fa fa26_1 Wt.no rfl rfl ?_
    refine L.ld (j := 1) bx4.mem nag3 Wt.no rfl rfl rfl rfl ?_
    refine L.bi Wt.no rfl rfl rfl rfl ?_
    refine L.as Wt.no rfl rfl ?_
    refine L.nil ?_
    refine X.seqN ?_
    rcases ifS hm with ⟨hc, hm⟩ | ⟨hc, hm⟩
    · refine E.cT rfl hc ?_
      refine E.seq ?_
      refine E.reg ?_
      refine L.as Wt.no rfl rfl ?_
      refine L.nil ?_
      refine X.seqN ?_
      refine E.ret ?_
      refine X.blkR ?_
      refine X.seqR ?_
      obtain rfl := Option.some.inj hm
      exact X.rt (.inl rfl) Try.results33 (Rs.tmp rfl Rs.nil) rfl ⟨_, (s8).ren N (fun _ => 0), rfl, rfl, m0.ren hNb, rfl⟩
    · refine E.cF rfl hc ?_
      refine E.seq ?_
      refine E.reg ?_
      refine L.fa fa26_1 Wt.no rfl rfl ?_
      refine L.ld (j := 1) bx4.mem nag3 Wt.no rfl rfl rfl rfl ?_
      refine L.bi Wt.no rfl rfl rfl rfl ?_
      refine L.as Wt.no rfl rfl ?_
      refine L.nil ?_
      refine X.seqN ?_
      rcases ifS hm with ⟨hc, hm⟩ | ⟨hc, hm⟩
      · refine E.cT rfl hc ?_
        refine E.seq ?_
        refine E.reg ?_
        refine L.as Wt.no rfl rfl ?_
        refine L.nil ?_
        refine X.seqN ?_
        refine E.ret ?_
        refine X.blkR ?_
        refine X.seqR ?_
        obtain rfl := Option.some.inj hm
        exact X.rt (.inl rfl) Try.results33 (Rs.tmp rfl Rs.nil) rfl ⟨_, (s8).ren N (fun _ => 0), rfl, rfl, m0.ren hNb, rfl⟩
      · refine E.cF rfl hc ?_
        refine E.skip ?_
        refine X.blkN ?_
        refine X.seqN ?_
        refine E.seq ?_
        refine E.seq ?_
        refine E.reg ?_
        refine L.fa fa26_2 Wt.no rfl rfl ?_
        refine L.ld (j := 2) bx4.mem nag23 Wt.no rfl rfl rfl rfl ?_
        refine L.fa fa26_1 Wt.no rfl rfl ?_
        refine L.ld (j := 1) bx4.mem nag3 Wt.no rfl rfl rfl rfl ?_
        obtain ⟨r10, er10, hm⟩ := bindS hm
        refine L.ca (vs := [.slice a2 p0.2.2.1.length c2, .int .i64 p0.2.1]) cf61 rfl rfl Wt.no rfl (m_automaton_checkSet_c (s := s8) (p0 := p0.2.2.1) (p1 := p0.2.1) h2 er10) rfl ?_
        rintro _ s11 m12 rfl
        replace m0 := m0.trans m12.no
        replace bx4 := bx4.mv m12 no_No
        replace h1 := h1.mono (m12.le no_No)
        replace h2 := h2.mono (m12.le no_No)
        replace h3 := h3.mono (m12.le no_No)
        refine L.as Wt.no rfl rfl ?_
        refine L.nil ?_
        refine X.seqN ?_
        refine E.seq ?_
        refine E.reg ?_
        refine L.mv Wt.no rfl rfl ?_
        refine L.bi Wt.no rfl rfl rfl rfl ?_
        refine L.nil ?_
        refine X.seqN ?_
        rcases ifS hm with ⟨hc, hm⟩ | ⟨hc, hm⟩
        · refine E.cT rfl hc ?_
          refine E.seq ?_
          refine E.reg ?_
          refine L.mv Wt.no rfl rfl ?_
          refine L.as Wt.no rfl rfl ?_
          refine L.nil ?_
          refine X.seqN ?_
          refine E.ret ?_
          refine X.seqR ?_
          obtain rfl := Option.some.inj hm
          exact X.rt (.inl rfl) Try.results33 (Rs.tmp rfl Rs.nil) rfl ⟨_, (s11).ren N (fun _ => 0), rfl, rfl, m0.ren hNb, rfl⟩
        · refine E.cF rfl hc ?_
          refine E.skip ?_
          refine X.seqN ?_
          refine E.seq ?_
          refine E.reg ?_
          refine L.lg (j := 0) (cs := [.slice a1 p0.1.length c1, .int .i64 p0.2.1, .slice a2 p0.2.2.1.length c2, .slice a3 p0.2.2.2.length c3]) bx4.mem ag26 Wt.no rfl rfl rfl rfl rfl ?_
          obtain ⟨r13, er13, hm⟩ := bindS hm
          refine L.ca (vs := [.agg #[.slice a1 p0.1.length c1, .int .i64 p0.2.1, .slice a2 p0.2.2.1.length c2, .slice a3 p0.2.2.2.length c3]]) cf62 rfl rfl Wt.no rfl (m_automaton_checkEdges_c (s := s11) (p0 := p0) h1 h2 h3 er13) rfl ?_
          rintro _ s14 m15 rfl
          replace m0 := m0.trans m15.no
          refine L.as Wt.no rfl rfl ?_
          refine L.nil ?_
          refine X.seqN ?_
          refine E.ret ?_
          obtain rfl := Option.some.inj hm
          exact X.rt (.inl rfl) Try.results33 (Rs.tmp rfl Rs.nil) rfl ⟨_, (s14).ren N (fun _ => 0), rfl, rfl, m0.ren hNb, rfl⟩

noncomputable def m_alphabet_CheckSet_l1 (p0 : List Int) (p1 : Int) (st13 : Int) : Option (Int ⊕ (Unit ⊕ Int)) :=
  if decide (st13 < (p0.length : Int)) then
    (idx p0 st13).bind fun x22 =>
    if ((decide (x22 < 0)) || (decide (x22 ≥ p1))) then
      some (.inr (.inr (2)))
    else
      (if decide (st13 > 0) then
        (idx p0 (W (st13 - 1))).bind fun x28 =>
        some (decide (x22 ≤ x28))
      else
        some false).bind fun b25 =>
      if b25 then
        some (.inr (.inr (5)))
      else
        some (.inl (W (st13 + 1)))
  else
    some (.inr (.inl ()))
/-- What alphabet.CheckSet computes. -/
noncomputable def m_alphabet_CheckSet (p0 : List Int) (p1 : Int) : Option Int :=
  (iter (m_alphabet_CheckSet_l1 p0 p1) 0).bind fun o13 =>
  match o13 with
  | .inl u16 =>
    some 0
  | .inr (u19) =>
    some u19
set_option maxRecDepth 100000 in
set_option maxHeartbeats 8000000 in
theorem m_alphabet_CheckSet_c {s : Sig} {p0 : List Int} {p1 : Int} {a1 : Option Addr} {c1 : Nat} {r : Int} (h1 : RdL (rK .i64) s a1 c1 p0) (hm : m_alphabet_CheckSet p0 p1 = some r) :
    Calls Try.prog 28 #[.slice a1 p0.length c1, .int .i64 p1] s.w (RetS No s fun v s' => v = .int .i64 r) := by
  unfold m_alphabet_CheckSet at hm
  obtain ⟨N, hN, hNb⟩ := s.fresh
  have m0 : Mv (Up N No) s s := Mv.refl _ _
  refine E.entry (vs := [.slice a1 p0.length c1, .int .i64 p1]) (e := [(0, .slice a1 p0.length c1), (1, .int .i64 p1)]) Try.func28 rfl Try.ntmps28 rfl rfl ?_
  refine E.seq ?_
  refine E.reg ?_
  refine L.as Wt.no rfl rfl ?_
  refine L.nil ?_
  refine X.seqN ?_
  refine E.seq ?_
  refine E.seq ?_
  refine E.reg ?_
  refine L.mv Wt.no rfl rfl ?_
  refine L.len sl23 Wt.no rfl rfl ?_
  refine L.mv Wt.no rfl rfl ?_
  refine L.nil ?_
  refine X.seqN ?_
  refine E.block ?_
  obtain ⟨o13, eo13, hm⟩ := bindS hm
  refine E.cut (x := .exit 0) (fun e w => ∃ (s17 : Sig) (u16 : Unit), o13 = .inl u16 ∧ Mv (Up N No) s s17 ∧ e = [] ∧ w = s17.w) ?_ ?_
  · rintro _ _ ⟨s17, u16, rfl, m0, rfl, rfl⟩
    dsimp only at hm
    refine X.blkE ?_
    refine X.seqN ?_
    refine E.seq ?_
    refine E.reg ?_
    refine L.as Wt.no rfl rfl ?_
    refine L.nil ?_
    refine X.seqN ?_
    refine E.ret ?_
    obtain rfl := Option.some.inj hm
    exact X.rt (.inl rfl) Try.results28 (Rs.tmp rfl Rs.nil) rfl ⟨_, (s17).ren N (fun _ => 0), rfl, rfl, m0.ren hNb, rfl⟩
  intro K18
  refine E.cut (x := .ret) (fun e w => ∃ (s20 : Sig) (u19 : Int), o13 = .inr (u19) ∧ Mv (Up N No) s s20 ∧ e = [(4, .int .i64 u19)] ∧ w = s20.w) ?_ ?_
  · rintro _ _ ⟨s20, u19, rfl, m0, rfl, rfl⟩
    dsimp only at hm
    refine X.blkR ?_
    refine X.seqR ?_
    obtain rfl := Option.some.inj hm
    exact X.rt (.inl rfl) Try.results28 (Rs.tmp rfl Rs.nil) rfl ⟨_, (s20).ren N (fun _ => 0), rfl, rfl, m0.ren hNb, rfl⟩
  intro K21
  refine E.iter (fun (st13 : Int) (e : List (Nat × Value)) (w : World) => ∃ (s15 : Sig), Mv (Up N No) s s15 ∧ RdL (rK .i64) s15 a1 c1 p0 ∧ e = [(9, .int .i64 st13), (8, .int .i64 (p0.length : Int)), (7, .slice a1 p0.length c1), (0, .slice a1 p0.length c1), (1, .int .i64 p1)] ∧ w = s15.w) eo13 ⟨s, m0, h1, rfl, rfl⟩ (Sub.cons rfl (Sub.cons rfl (Sub.cons rfl (Sub.cons rfl (Sub.cons rfl Sub.nil))))) ?_
  rintro st13 res13 hm ih13 ho13 _ _ ⟨s15, m0, h1, rfl, rfl⟩
  unfold m_alphabet_CheckSet_l1 at hm
  refine E.seq ?_
  refine E.reg ?_
  refine L.bi Wt.no rfl rfl rfl rfl ?_
  refine L.nil ?_
  refine X.seqN ?_
  refine E.seq ?_
  rcases ifS hm with ⟨hc, hm⟩ | ⟨hc, hm⟩
  · refine E.cT rfl hc ?_
    refine E.skip ?_
    refine X.seqN ?_
    refine E.seq ?_
    refine E.block ?_
    refine E.seq ?_
    refine E.reg ?_
    refine L.mv Wt.no rfl rfl ?_
    obtain ⟨x22, ex22, hm⟩ := bindS hm
    refine L.ix (r := (rK .i64)) sl23 h1 Wt.no rfl rfl ex22 rfl ?_
    rintro b23 o23 cc23 me23 rd23
    obtain rfl := rd23
    refine L.ld (j := 0) me23 nag3 Wt.no rfl rfl rfl rfl ?_
    refine L.as Wt.no rfl rfl ?_
    refine L.as Wt.no rfl rfl ?_
    refine L.nil ?_
    refine X.seqN ?_
    refine E.seq ?_
    refine E.seq ?_
    refine E.reg ?_
    refine L.mv Wt.no rfl rfl ?_
    refine L.bi Wt.no rfl rfl rfl rfl ?_
    refine L.mv Wt.no rfl rfl ?_
    refine L.cut 4 (fun e w => ∃ (v24 : Bool), ((decide (x22 < 0)) || (decide (x22 ≥ p1))) = v24 ∧ e = (20, .bool v24) :: [(6, .int .i64 x22), (5, .int .i64 st13), (9, .int .i64 st13), (8, .int .i64 (p0.length : Int)), (7, .slice a1 p0.length c1), (0, .slice a1 p0.length c1), (1, .int .i64 p1)] ∧ w = s15.w) ?_ ?_
    · rintro _ _ ⟨v24, rfl, rfl, rfl⟩
      refine L.nil ?_
      refine X.seqN ?_
      rcases ifS hm with ⟨hc, hm⟩ | ⟨hc, hm⟩
      · refine E.cT rfl hc ?_
        refine E.seq ?_
        refine E.reg ?_
        refine L.as Wt.no rfl rfl ?_
        refine L.nil ?_
        refine X.seqN ?_
        refine E.ret ?_
        refine X.seqR ?_
        refine X.blkR ?_
        refine X.seqR ?_
        refine X.seqR ?_
        have hx := ho13 _ (Option.some.inj hm).symm
        exact X.sub (K21 _ _ ⟨s15, 2, hx.symm, m0, rfl, rfl⟩) (Sub.cons rfl Sub.nil)
      · refine E.cF rfl hc ?_
        refine E.skip ?_
        refine X.seqN ?_
        refine E.seq ?_
        refine E.reg ?_
        refine L.mv Wt.no rfl rfl ?_
        refine L.bi Wt.no rfl rfl rfl rfl ?_
        refine L.mv Wt.no rfl rfl ?_
        obtain ⟨b25, eb25, hm⟩ := bindS hm
        refine L.cut 8 (fun e w => ∃ (v26 : Bool), b25 = v26 ∧ e = (31, .bool v26) :: [(9, .int .i64 st13), (8, .int .i64 (p0.length : Int)), (7, .slice a1 p0.length c1), (0, .slice a1 p0.length c1), (1, .int .i64 p1)] ∧ w = s15.w) ?_ ?_
        · rintro _ _ ⟨v26, rfl, rfl, rfl⟩
          refine L.nil ?_
          refine X.seqN ?_
          rcases ifS hm with ⟨hc, hm⟩ | ⟨hc, hm⟩
          · refine E.cT rfl hc ?_
            refine E.seq ?_
            refine E.reg ?_
            refine L.as Wt.no rfl rfl ?_
            refine L.nil ?_
            refine X.seqN ?_
            refine E.ret ?_
            refine X.blkR ?_
            refine X.seqR ?_
            refine X.seqR ?_
            have hx := ho13 _ (Option.some.inj hm).symm
            exact X.sub (K21 _ _ ⟨s15, 5, hx.symm, m0, rfl, rfl⟩) (Sub.cons rfl Sub.nil)
          · refine E.cF rfl hc ?_
            refine E.skip ?_
            refine X.blkN ?_
            refine X.seqN ?_
            refine E.reg ?_
            refine L.bi Wt.no rfl rfl rfl rfl ?_
            refine L.mv Wt.no rfl rfl ?_
            refine L.nil ?_
            exact X.sub (ih13 _ (Option.some.inj hm).symm _ _ ⟨s15, m0, h1, rfl, rfl⟩) (Sub.cons rfl (Sub.cons rfl (Sub.cons rfl (Sub.cons rfl (Sub.cons rfl Sub.nil)))))
        · intro J27
          rcases ifS eb25 with ⟨hc, hm⟩ | ⟨hc, hm⟩
          · refine L.know (d := 23) rfl hc ?_
            refine L.mv (Wt.mk rfl rfl) rfl rfl ?_
            refine L.mv (Wt.mk rfl rfl) rfl rfl ?_
            refine L.mv (Wt.mk rfl rfl) rfl rfl ?_
            refine L.bi (Wt.mk rfl rfl) rfl rfl rfl rfl ?_
            obtain ⟨x28, ex28, hm⟩ := bindS hm
            refine L.ix (r := (rK .i64)) sl23 h1 (Wt.mk rfl rfl) rfl rfl ex28 rfl ?_
            rintro b29 o29 cc29 me29 rd29
            obtain rfl := rd29
            refine L.ld (j := 0) me29 nag3 (Wt.mk rfl rfl) rfl rfl rfl rfl ?_
            refine L.bi (Wt.mk rfl rfl) rfl rfl rfl rfl ?_
            refine L.pkT Wt.no rfl rfl rfl rfl ?_
            exact L.sub (Sub.cons rfl (Sub.cons rfl (Sub.cons rfl (Sub.cons rfl (Sub.cons rfl (Sub.cons rfl Sub.nil)))))) (J27 _ _ ⟨(decide (x22 ≤ x28)), (Option.some.inj hm).symm, rfl, rfl⟩)
          · refine L.know (d := 23) rfl hc ?_
            refine L.skip rfl rfl rfl rfl ?_
            refine L.skip rfl rfl rfl rfl ?_
            refine L.skip rfl rfl rfl rfl ?_
            refine L.skip rfl rfl rfl rfl ?_
            refine L.skip rfl rfl rfl rfl ?_
            refine L.skip rfl rfl rfl rfl ?_
            refine L.skip rfl rfl rfl rfl ?_
            refine L.pkF Wt.no rfl rfl rfl rfl ?_
            exact L.sub (Sub.cons rfl (Sub.cons rfl (Sub.cons rfl (Sub.cons rfl (Sub.cons rfl (Sub.cons rfl Sub.nil)))))) (J27 _ _ ⟨false, (Option.some.inj hm).symm, rfl, rfl⟩)
    · intro J30
      rcases Bool.eq_false_or_eq_true (decide (x22 < 0)) with hc | hc
      · refine L.know (d := 16) rfl hc ?_
        refine L.skip rfl rfl rfl rfl ?_
        refine L.skip rfl rfl rfl rfl ?_
        refine L.skip rfl rfl rfl rfl ?_
        refine L.pkT Wt.no rfl rfl rfl rfl ?_
        exact L.sub (Sub.cons rfl (Sub.cons rfl (Sub.cons rfl (Sub.cons rfl (Sub.cons rfl (Sub.cons rfl (Sub.cons rfl (Sub.cons rfl Sub.nil)))))))) (J30 _ _ ⟨true, (orT hc).symm, rfl, rfl⟩)
      · refine L.know (d := 16) rfl hc ?_
        refine L.mv (Wt.mk rfl rfl) rfl rfl ?_
        refine L.mv (Wt.mk rfl rfl) rfl rfl ?_
        refine L.bi (Wt.mk rfl rfl) rfl rfl rfl rfl ?_
        refine L.pkF Wt.no rfl rfl rfl rfl ?_
        exact L.sub (Sub.cons rfl (Sub.cons rfl (Sub.cons rfl (Sub.cons rfl (Sub.cons rfl (Sub.cons rfl (Sub.cons rfl (Sub.cons rfl Sub.nil)))))))) (J30 _ _ ⟨(decide (x22 ≥ p1)), (orF hc).symm, rfl, rfl⟩)
  · refine E.cF rfl hc ?_
    refine E.exit ?_
    refine X.seqX ?_
    refine X.seqX ?_
    have hx := ho13 _ (Option.some.inj hm).symm
    exact X.sub (K18 _ _ ⟨s15, (), hx.symm, m0, rfl, rfl⟩) Sub.nil

end Go.Proofs.Ytkkemchihllklaa
