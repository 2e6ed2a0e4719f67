/- Parts of the proof, without what nothing here names. -/
import Derived.Test.YtkkemchihllklaaProg
import Derived.Test.YtkkemchihllklaaQFlw1
namespace Go.Proofs.Ytkkemchihllklaa
open Go Go.RowKit
theorem ag26 : Ag Try.prog 26 4 := Ag.mk' Try.underlying26 rfl (by kernel_rfl)
theorem bs23 : Bs Try.prog 23 3 1 [.int .i64 0] := Bs.mk' Try.underlying23 (by kernel_rfl) (by kernel_rfl) rfl
theorem bs24 : Bs Try.prog 24 28 3 [.int .i64 0, .int .i64 0, .int .i64 0] := Bs.mk' Try.underlying24 (by kernel_rfl) (by kernel_rfl) rfl
theorem el28 : El Try.prog 28 3 24 := El.mk' (z := .agg #[.int .i64 0, .int .i64 0, .int .i64 0]) (by kernel_rfl) (by kernel_rfl) (by kernel_rfl) rfl
theorem el3 : El Try.prog 3 1 8 := El.mk' (z := .int .i64 0) (by kernel_rfl) (by kernel_rfl) (by kernel_rfl) rfl
theorem pl26 : Pl Try.prog 26 [(0, 1), (1, 1), (2, 1), (3, 1)] [.slice none 0 0, .int .i64 0, .slice none 0 0, .slice none 0 0] := Pl.str Try.underlying26 (by kernel_rfl) (by kernel_rfl)
theorem pl28 : Pl Try.prog 28 [(0, 1), (1, 1), (2, 1)] [.int .i64 0, .int .i64 0, .int .i64 0] := Pl.str Try.underlying28 (by kernel_rfl) (by kernel_rfl)
theorem zz26 : (Try.prog.info? 26).bind (·.zero) = some (.agg #[.slice none 0 0, .int .i64 0, .slice none 0 0, .slice none 0 0]) := by kernel_rfl
/-- What overseerlaw53.example computes. -/
noncomputable def m_overseerlaw53_example : Option (List Int × Int × List Int × (List (Int × Int × Int))) :=
  some (([3, 5] : List Int), 2, ([0] : List Int), ([(0, 3, 1), (1, 5, 0)] : List (Int × Int × Int)))
set_option maxRecDepth 100000 in
set_option maxHeartbeats 8000000 in
theorem m_overseerlaw53_example_c {s : Sig} {r : (List Int × Int × List Int × (List (Int × Int × Int)))} (hm : m_overseerlaw53_example = some r) :
    Calls Try.prog 38 #[] s.w (RetS No s fun v s' => ∃ (a1 : Option Addr) (c1 : Nat) (a2 : Option Addr) (c2 : Nat) (a3 : Option Addr) (c3 : Nat), v = .agg #[.slice a1 r.1.length c1, .int .i64 r.2.1, .slice a2 r.2.2.1.length c2, .slice a3 r.2.2.2.length c3] ∧ RdL (rK .i64) s' a1 c1 r.1 ∧ RdL (rK .i64) s' a2 c2 r.2.2.1 ∧ RdL (rP (rK .i64) (rP (rK .i64) (rK .i64))) s' a3 c3 r.2.2.2) := by
 unfold m_overseerlaw53_example at hm
 obtain ⟨N, hN, hNb⟩ := s.fresh
 have m0 : Mv (Up N No) s s := Mv.refl _ _
 refine E.entry Try.func38 rfl Try.ntmps38 rfl rfl (E.seq (E.reg (L.al (N + 0) zz26 rfl Wt.no rfl fun b4 s5 m6 bx4 => ?_)))
 replace m0 := m0.trans m6.no
 refine L.nil (X.seqN (E.seq (E.reg (L.bsE (k := 2) (cs := [.int .i64 3, .int .i64 5]) 0 bs23 (Nat.le_of_ble_eq_true rfl) Wt.no rfl rfl rfl rfl fun b7 s8 m9 bx7 => ?_))))
 replace m0 := m0.trans m9.no
 replace bx4 := bx4.mv m9 no_No
 have h7 := Bx.rdL (r := (rK .i64)) (xs := ([3, 5] : List Int)) bx7 ⟨[.int .i64 3], _, rfl, rfl, ⟨[.int .i64 5], _, rfl, rfl, rfl⟩⟩ (Nat.le_of_ble_eq_true rfl)
 refine L.bsE (k := 1) (cs := [.int .i64 0]) 0 bs23 (Nat.le_of_ble_eq_true rfl) Wt.no rfl rfl rfl rfl fun b10 s11 m12 bx10 => ?_
 replace m0 := m0.trans m12.no
 replace h7 := h7.mono (m12.le no_No)
 replace bx4 := bx4.mv m12 no_No
 have h10 := Bx.rdL (r := (rK .i64)) (xs := ([0] : List Int)) bx10 ⟨[.int .i64 0], _, rfl, rfl, rfl⟩ (Nat.le_of_ble_eq_true rfl)
 refine L.bu (cs := [.int .i64 0, .int .i64 3, .int .i64 1]) pl28 Wt.no rfl rfl rfl (L.bu (cs := [.int .i64 1, .int .i64 5, .int .i64 0]) pl28 Wt.no rfl rfl rfl (L.bsE (k := 2) (cs := [.int .i64 0, .int .i64 3, .int .i64 1, .int .i64 1, .int .i64 5, .int .i64 0]) 0 bs24 (Nat.le_of_ble_eq_true rfl) Wt.no rfl rfl rfl rfl fun b13 s14 m15 bx13 => ?_))
 replace m0 := m0.trans m15.no
 replace h7 := h7.mono (m15.le no_No)
 replace h10 := h10.mono (m15.le no_No)
 replace bx4 := bx4.mv m15 no_No
 have h13 := Bx.rdL (r := (rP (rK .i64) (rP (rK .i64) (rK .i64)))) (xs := ([(0, 3, 1), (1, 5, 0)] : List (Int × Int × Int))) bx13 ⟨[.int .i64 0, .int .i64 3, .int .i64 1], _, rfl, ⟨[.int .i64 0], [.int .i64 3, .int .i64 1], rfl, rfl, ⟨[.int .i64 3], [.int .i64 1], rfl, rfl, rfl⟩⟩, ⟨[.int .i64 1, .int .i64 5, .int .i64 0], _, rfl, ⟨[.int .i64 1], [.int .i64 5, .int .i64 0], rfl, rfl, ⟨[.int .i64 5], [.int .i64 0], rfl, rfl, rfl⟩⟩, rfl⟩⟩ (Nat.le_of_ble_eq_true rfl)
 refine L.bu (cs := [.slice (some ⟨b7, 0, none⟩) ([3, 5] : List Int).length (([3, 5] : List Int).length), .int .i64 2, .slice (some ⟨b10, 0, none⟩) ([0] : List Int).length (([0] : List Int).length), .slice (some ⟨b13, 0, none⟩) ([(0, 3, 1), (1, 5, 0)] : List (Int × Int × Int)).length (([(0, 3, 1), (1, 5, 0)] : List (Int × Int × Int)).length)]) pl26 Wt.no rfl rfl rfl (L.st (c := [.slice (some ⟨b7, 0, none⟩) ([3, 5] : List Int).length (([3, 5] : List Int).length), .int .i64 2, .slice (some ⟨b10, 0, none⟩) ([0] : List Int).length (([0] : List Int).length), .slice (some ⟨b13, 0, none⟩) ([(0, 3, 1), (1, 5, 0)] : List (Int × Int × Int)).length (([(0, 3, 1), (1, 5, 0)] : List (Int × Int × Int)).length)]) (cs' := #[.slice (some ⟨b7, 0, none⟩) ([3, 5] : List Int).length (([3, 5] : List Int).length), .int .i64 2, .slice (some ⟨b10, 0, none⟩) ([0] : List Int).length (([0] : List Int).length), .slice (some ⟨b13, 0, none⟩) ([(0, 3, 1), (1, 5, 0)] : List (Int × Int × Int)).length (([(0, 3, 1), (1, 5, 0)] : List (Int × Int × Int)).length)]) bx4 ag26.sz Wt.no rfl rfl rfl rfl rfl (Nat.le_of_ble_eq_true rfl) rfl fun s16 m17 bx4 => ?_)
 replace m0 := m0.trans (m17.one up)
 replace h7 := h7.mono (m17.le (tg0 hN))
 replace h10 := h10.mono (m17.le (tg0 hN))
 replace h13 := h13.mono (m17.le (tg0 hN))
 refine L.nil (X.seqN (E.ret ?_))
 obtain rfl := Option.some.inj hm
 exact X.rt (.inl rfl) Try.results38 (Rs.cell rfl bx4 ag26 rfl Rs.nil) rfl ⟨_, (s16).ren N (fun _ => 0), rfl, rfl, m0.ren hNb, ⟨(some ⟨b7, 0, none⟩), ([3, 5] : List Int).length, (some ⟨b10, 0, none⟩), ([0] : List Int).length, (some ⟨b13, 0, none⟩), ([(0, 3, 1), (1, 5, 0)] : List (Int × Int × Int)).length, rfl, (h7.ren hN), (h10.ren hN), (h13.ren hN)⟩⟩

theorem nag3 : NAg Try.prog 3 := NAg.mk' Try.underlying3 rfl (by kernel_rfl)
theorem sl23 : Sl Try.prog 23 3 1 := Sl.mk' Try.underlying23 (by kernel_rfl)
noncomputable def m_automaton_checkSet_l1 (p0 : List Int) (p1 : Int) (st13 : Int) : Option (Int ⊕ (Unit ⊕ Int)) :=
  if decide (st13 < (p0.length : Int)) then
    (idx p0 st13).bind fun x22 =>
    if ((decide (x22 < 0)) || (decide (x22 ≥ p1))) then
      some (.inr (.inr (2)))
    else
      (if decide (st13 > 0) then
        (idx p0 (W (st13 - 1))).bind fun x28 =>
        some (decide (x22 ≤ x28))
      else
        some false).bind fun b25 =>
      if b25 then
        some (.inr (.inr (5)))
      else
        some (.inl (W (st13 + 1)))
  else
    some (.inr (.inl ()))
/-- What automaton.checkSet computes. -/
noncomputable def m_automaton_checkSet (p0 : List Int) (p1 : Int) : Option Int :=
  (iter (m_automaton_checkSet_l1 p0 p1) 0).bind fun o13 =>
  match o13 with
  | .inl u16 =>
    some 0
  | .inr (u19) =>
    some u19
set_option maxRecDepth 100000 in
set_option maxHeartbeats 8000000 in
theorem m_automaton_checkSet_c {s : Sig} {p0 : List Int} {p1 : Int} {a1 : Option Addr} {c1 : Nat} {r : Int} (h1 : RdL (rK .i64) s a1 c1 p0) (hm : m_automaton_checkSet p0 p1 = some r) :
    Calls Try.prog 61 #[.slice a1 p0.length c1, .int .i64 p1] s.w (RetS No s fun v s' => v = .int .i64 r) := by
 unfold m_automaton_checkSet at hm
 obtain ⟨N, hN, hNb⟩ := s.fresh
 have m0 : Mv (Up N No) s s := Mv.refl _ _
 refine E.entry Try.func61 rfl Try.ntmps61 rfl rfl (E.seq (E.reg (L.as Wt.no rfl rfl (L.nil (X.seqN (E.seq (E.seq (E.reg (L.mv Wt.no rfl rfl (L.len sl23 Wt.no rfl rfl (L.mv Wt.no rfl rfl (L.nil (X.seqN (E.block ?_))))))))))))))
 obtain ⟨o13, eo13, hm⟩ := bindS hm
 refine E.cut (x := .exit 0) (fun e w => ∃ (s17 : Sig) (u16 : Unit), o13 = .inl u16 ∧ Mv (Up N No) s s17 ∧ e = [] ∧ w = s17.w) ?_ ?_
 ·rintro _ _ ⟨s17, u16, rfl, m0, rfl, rfl⟩
  dsimp only at hm
  refine X.blkE (X.seqN (E.seq (E.reg (L.as Wt.no rfl rfl (L.nil (X.seqN (E.ret ?_)))))))
  obtain rfl := Option.some.inj hm
  exact X.rt (.inl rfl) Try.results61 (Rs.tmp rfl Rs.nil) rfl ⟨_, (s17).ren N (fun _ => 0), rfl, rfl, m0.ren hNb, rfl⟩
 intro K18
 refine E.cut (x := .ret) (fun e w => ∃ (s20 : Sig) (u19 : Int), o13 = .inr (u19) ∧ Mv (Up N No) s s20 ∧ e = [(4, .int .i64 u19)] ∧ w = s20.w) ?_ ?_
 ·rintro _ _ ⟨s20, u19, rfl, m0, rfl, rfl⟩
  dsimp only at hm
  refine X.blkR (X.seqR ?_)
  obtain rfl := Option.some.inj hm
  exact X.rt (.inl rfl) Try.results61 (Rs.tmp rfl Rs.nil) rfl ⟨_, (s20).ren N (fun _ => 0), rfl, rfl, m0.ren hNb, rfl⟩
 intro K21
 refine E.iter (fun (st13 : Int) (e : List (Nat × Value)) (w : World) => ∃ (s15 : Sig), Mv (Up N No) s s15 ∧ RdL (rK .i64) s15 a1 c1 p0 ∧ e = [(9, .int .i64 st13), (8, .int .i64 (p0.length : Int)), (7, .slice a1 p0.length c1), (0, .slice a1 p0.length c1), (1, .int .i64 p1)] ∧ w = s15.w) eo13 ⟨s, m0, h1, rfl, rfl⟩ (Sub.rf rfl) ?_
 rintro st13 res13 hm ih13 ho13 _ _ ⟨s15, m0, h1, rfl, rfl⟩
 unfold m_automaton_checkSet_l1 at hm
 refine E.seq (E.reg (L.bi Wt.no rfl rfl rfl rfl (L.nil (X.seqN (E.seq ?_)))))
 rcases ifS hm with ⟨hc, hm⟩ | ⟨hc, hm⟩
 ·refine E.cT rfl hc (E.skip (X.seqN (E.seq (E.block (E.seq (E.reg (L.mv Wt.no rfl rfl ?_)))))))
  obtain ⟨x22, ex22, hm⟩ := bindS hm
  refine L.ix (r := (rK .i64)) sl23 h1 Wt.no rfl rfl ex22 rfl fun b23 o23 cc23 me23 rd23 => ?_
  obtain rfl := rd23
  refine L.ld (j := 0) me23 nag3 Wt.no rfl rfl rfl rfl (L.as Wt.no rfl rfl (L.as Wt.no rfl rfl (L.nil (X.seqN (E.block (E.seq (E.reg (L.mv Wt.no rfl rfl (L.bi Wt.no rfl rfl rfl rfl (L.mv Wt.no rfl rfl (L.cut 4 (fun e w => ∃ (v24 : Bool), ((decide (x22 < 0)) || (decide (x22 ≥ p1))) = v24 ∧ e = (21, .bool v24) :: [(6, .int .i64 x22), (5, .int .i64 st13), (9, .int .i64 st13), (8, .int .i64 (p0.length : Int)), (7, .slice a1 p0.length c1), (0, .slice a1 p0.length c1), (1, .int .i64 p1)] ∧ w = s15.w) ?_ ?_)))))))))))
  ·rintro _ _ ⟨v24, rfl, rfl, rfl⟩
   refine L.as Wt.no rfl rfl (L.nil (X.seqN ?_))
   rcases ifS hm with ⟨hc, hm⟩ | ⟨hc, hm⟩
   ·refine E.cT rfl hc (E.seq (E.reg (L.as Wt.no rfl rfl (L.nil (X.seqN (E.ret (X.blkR (X.blkR (X.seqR (X.seqR ?_))))))))))
    have hx := ho13 _ (Option.some.inj hm).symm
    exact X.sub (K21 _ _ ⟨s15, 2, hx.symm, m0, rfl, rfl⟩) (Sub.rf rfl)
   ·refine E.cF rfl hc (E.seq (E.reg (L.mv Wt.no rfl rfl (L.bi Wt.no rfl rfl rfl rfl (L.mv Wt.no rfl rfl ?_)))))
    obtain ⟨b25, eb25, hm⟩ := bindS hm
    refine L.cut 8 (fun e w => ∃ (v26 : Bool), b25 = v26 ∧ e = (33, .bool v26) :: [(9, .int .i64 st13), (8, .int .i64 (p0.length : Int)), (7, .slice a1 p0.length c1), (0, .slice a1 p0.length c1), (1, .int .i64 p1)] ∧ w = s15.w) ?_ ?_
    ·rintro _ _ ⟨v26, rfl, rfl, rfl⟩
     refine L.as Wt.no rfl rfl (L.nil (X.seqN ?_))
     rcases ifS hm with ⟨hc, hm⟩ | ⟨hc, hm⟩
     ·refine E.cT rfl hc (E.seq (E.reg (L.as Wt.no rfl rfl (L.nil (X.seqN (E.ret (X.blkR (X.blkR (X.seqR (X.seqR ?_))))))))))
      have hx := ho13 _ (Option.some.inj hm).symm
      exact X.sub (K21 _ _ ⟨s15, 5, hx.symm, m0, rfl, rfl⟩) (Sub.rf rfl)
     ·exact E.cF rfl hc (E.skip (X.blkN (X.blkN (X.seqN (E.reg (L.bi Wt.no rfl rfl rfl rfl (L.mv Wt.no rfl rfl (L.nil (X.sub (ih13 _ (Option.some.inj hm).symm _ _ ⟨s15, m0, h1, rfl, rfl⟩) (Sub.rf rfl))))))))))
    ·intro J27
     rcases ifS eb25 with ⟨hc, hm⟩ | ⟨hc, hm⟩
     ·refine L.know (d := 25) rfl hc (L.mv (Wt.mk rfl rfl) rfl rfl (L.mv (Wt.mk rfl rfl) rfl rfl (L.mv (Wt.mk rfl rfl) rfl rfl (L.bi (Wt.mk rfl rfl) rfl rfl rfl rfl ?_))))
      obtain ⟨x28, ex28, hm⟩ := bindS hm
      refine L.ix (r := (rK .i64)) sl23 h1 (Wt.mk rfl rfl) rfl rfl ex28 rfl fun b29 o29 cc29 me29 rd29 => ?_
      obtain rfl := rd29
      exact L.ld (j := 0) me29 nag3 (Wt.mk rfl rfl) rfl rfl rfl rfl (L.bi (Wt.mk rfl rfl) rfl rfl rfl rfl (L.pkT Wt.no rfl rfl rfl rfl (L.sb (J27 _ _ ⟨(decide (x22 ≤ x28)), (Option.some.inj hm).symm, rfl, rfl⟩) rfl)))
     ·exact L.know (d := 25) rfl hc (L.skip rfl rfl rfl rfl (L.skip rfl rfl rfl rfl (L.skip rfl rfl rfl rfl (L.skip rfl rfl rfl rfl (L.skip rfl rfl rfl rfl (L.skip rfl rfl rfl rfl (L.skip rfl rfl rfl rfl (L.pkF Wt.no rfl rfl rfl rfl (L.sb (J27 _ _ ⟨false, (Option.some.inj hm).symm, rfl, rfl⟩) rfl)))))))))
  ·intro J30
   rcases Bool.eq_false_or_eq_true (decide (x22 < 0)) with hc | hc
   ·exact L.know (d := 17) rfl hc (L.skip rfl rfl rfl rfl (L.skip rfl rfl rfl rfl (L.skip rfl rfl rfl rfl (L.pkT Wt.no rfl rfl rfl rfl (L.sb (J30 _ _ ⟨true, (orT hc).symm, rfl, rfl⟩) rfl)))))
   ·exact L.know (d := 17) rfl hc (L.mv (Wt.mk rfl rfl) rfl rfl (L.mv (Wt.mk rfl rfl) rfl rfl (L.bi (Wt.mk rfl rfl) rfl rfl rfl rfl (L.pkF Wt.no rfl rfl rfl rfl (L.sb (J30 _ _ ⟨(decide (x22 ≥ p1)), (orF hc).symm, rfl, rfl⟩) rfl)))))
 ·refine E.cF rfl hc (E.exit (X.seqX (X.seqX ?_)))
  have hx := ho13 _ (Option.some.inj hm).symm
  exact X.sub (K18 _ _ ⟨s15, (), hx.symm, m0, rfl, rfl⟩) Sub.nil

noncomputable def m_slices_Index_int_l1 (p0 : List Int) (p1 : Int) (st6 : Int) : Option (Int ⊕ (Unit ⊕ Int)) :=
  if decide (st6 < (p0.length : Int)) then
    (idx p0 st6).bind fun x15 =>
    if (p1 == x15) then
      some (.inr (.inr (st6)))
    else
      some (.inl (W (st6 + 1)))
  else
    some (.inr (.inl ()))
/-- What slices.Index<<>int,int> computes. -/
noncomputable def m_slices_Index_int (p0 : List Int) (p1 : Int) : Option Int :=
  (iter (m_slices_Index_int_l1 p0 p1) 0).bind fun o6 =>
  match o6 with
  | .inl u9 =>
    some (-1)
  | .inr (u12) =>
    some u12
set_option maxRecDepth 100000 in
set_option maxHeartbeats 8000000 in
theorem m_slices_Index_int_c {s : Sig} {p0 : List Int} {p1 : Int} {a1 : Option Addr} {c1 : Nat} {r : Int} (h1 : RdL (rK .i64) s a1 c1 p0) (hm : m_slices_Index_int p0 p1 = some r) :
    Calls Try.prog 53 #[.slice a1 p0.length c1, .int .i64 p1] s.w (RetS No s fun v s' => v = .int .i64 r) := by
 unfold m_slices_Index_int at hm
 obtain ⟨N, hN, hNb⟩ := s.fresh
 have m0 : Mv (Up N No) s s := Mv.refl _ _
 refine E.entry Try.func53 rfl Try.ntmps53 rfl rfl (E.seq (E.reg (L.as Wt.no rfl rfl (L.nil (X.seqN (E.seq (E.seq (E.reg (L.mv Wt.no rfl rfl (L.len sl23 Wt.no rfl rfl (L.mv Wt.no rfl rfl (L.nil (X.seqN (E.block ?_))))))))))))))
 obtain ⟨o6, eo6, hm⟩ := bindS hm
 refine E.cut (x := .exit 0) (fun e w => ∃ (s10 : Sig) (u9 : Unit), o6 = .inl u9 ∧ Mv (Up N No) s s10 ∧ e = [] ∧ w = s10.w) ?_ ?_
 ·rintro _ _ ⟨s10, u9, rfl, m0, rfl, rfl⟩
  dsimp only at hm
  refine X.blkE (X.seqN (E.seq (E.reg (L.as Wt.no rfl rfl (L.nil (X.seqN (E.ret ?_)))))))
  obtain rfl := Option.some.inj hm
  exact X.rt (.inl rfl) Try.results53 (Rs.tmp rfl Rs.nil) rfl ⟨_, (s10).ren N (fun _ => 0), rfl, rfl, m0.ren hNb, rfl⟩
 intro K11
 refine E.cut (x := .ret) (fun e w => ∃ (s13 : Sig) (u12 : Int), o6 = .inr (u12) ∧ Mv (Up N No) s s13 ∧ e = [(4, .int .i64 u12)] ∧ w = s13.w) ?_ ?_
 ·rintro _ _ ⟨s13, u12, rfl, m0, rfl, rfl⟩
  dsimp only at hm
  refine X.blkR (X.seqR ?_)
  obtain rfl := Option.some.inj hm
  exact X.rt (.inl rfl) Try.results53 (Rs.tmp rfl Rs.nil) rfl ⟨_, (s13).ren N (fun _ => 0), rfl, rfl, m0.ren hNb, rfl⟩
 intro K14
 refine E.iter (fun (st6 : Int) (e : List (Nat × Value)) (w : World) => ∃ (s8 : Sig), Mv (Up N No) s s8 ∧ RdL (rK .i64) s8 a1 c1 p0 ∧ e = [(8, .int .i64 st6), (7, .int .i64 (p0.length : Int)), (0, .slice a1 p0.length c1), (1, .int .i64 p1)] ∧ w = s8.w) eo6 ⟨s, m0, h1, rfl, rfl⟩ (Sub.rf rfl) ?_
 rintro st6 res6 hm ih6 ho6 _ _ ⟨s8, m0, h1, rfl, rfl⟩
 unfold m_slices_Index_int_l1 at hm
 refine E.seq (E.reg (L.bi Wt.no rfl rfl rfl rfl (L.nil (X.seqN (E.seq ?_)))))
 rcases ifS hm with ⟨hc, hm⟩ | ⟨hc, hm⟩
 ·refine E.cT rfl hc (E.skip (X.seqN (E.seq (E.block (E.seq (E.reg (L.mv Wt.no rfl rfl (L.as Wt.no rfl rfl (L.nil (X.seqN (E.seq (E.reg (L.mv Wt.no rfl rfl (L.mv Wt.no rfl rfl (L.mv Wt.no rfl rfl ?_)))))))))))))))
  obtain ⟨x15, ex15, hm⟩ := bindS hm
  refine L.ix (r := (rK .i64)) sl23 h1 Wt.no rfl rfl ex15 rfl fun b16 o16 cc16 me16 rd16 => ?_
  obtain rfl := rd16
  refine L.ld (j := 0) me16 nag3 Wt.no rfl rfl rfl rfl (L.bi Wt.no rfl rfl rfl rfl (L.nil (X.seqN ?_)))
  rcases ifS hm with ⟨hc, hm⟩ | ⟨hc, hm⟩
  ·refine E.cT rfl hc (E.seq (E.reg (L.mv Wt.no rfl rfl (L.as Wt.no rfl rfl (L.nil (X.seqN (E.ret (X.blkR (X.seqR (X.seqR ?_))))))))))
   have hx := ho6 _ (Option.some.inj hm).symm
   exact X.sub (K14 _ _ ⟨s8, st6, hx.symm, m0, rfl, rfl⟩) (Sub.rf rfl)
  ·exact E.cF rfl hc (E.skip (X.blkN (X.seqN (E.reg (L.bi Wt.no rfl rfl rfl rfl (L.mv Wt.no rfl rfl (L.nil (X.sub (ih6 _ (Option.some.inj hm).symm _ _ ⟨s8, m0, h1, rfl, rfl⟩) (Sub.rf rfl)))))))))
 ·refine E.cF rfl hc (E.exit (X.seqX (X.seqX ?_)))
  have hx := ho6 _ (Option.some.inj hm).symm
  exact X.sub (K11 _ _ ⟨s8, (), hx.symm, m0, rfl, rfl⟩) Sub.nil

theorem cf53 : Cf Try.prog 53 := Cf.mk Try.func53 (by kernel_rfl) (by kernel_rfl)
/-- What slices.Contains<<>int,int> computes. -/
noncomputable def m_slices_Contains_int (p0 : List Int) (p1 : Int) : Option Bool :=
  (m_slices_Index_int p0 p1).bind fun r2 =>
  some (decide (r2 ≥ 0))
set_option maxRecDepth 100000 in
set_option maxHeartbeats 8000000 in
theorem m_slices_Contains_int_c {s : Sig} {p0 : List Int} {p1 : Int} {a1 : Option Addr} {c1 : Nat} {r : Bool} (h1 : RdL (rK .i64) s a1 c1 p0) (hm : m_slices_Contains_int p0 p1 = some r) :
    Calls Try.prog 23 #[.slice a1 p0.length c1, .int .i64 p1] s.w (RetS No s fun v s' => v = .bool r) := by
 unfold m_slices_Contains_int at hm
 obtain ⟨N, hN, hNb⟩ := s.fresh
 have m0 : Mv (Up N No) s s := Mv.refl _ _
 refine E.entry Try.func23 rfl Try.ntmps23 rfl rfl (E.seq (E.reg (L.as Wt.no rfl rfl (L.nil (X.seqN (E.seq (E.reg (L.mv Wt.no rfl rfl (L.mv Wt.no rfl rfl ?_)))))))))
 obtain ⟨r2, er2, hm⟩ := bindS hm
 refine L.ca cf53 rfl rfl Wt.no rfl (m_slices_Index_int_c (s := s) (p0 := p0) (p1 := p1) h1 er2) rfl ?_
 rintro _ s3 m4 rfl
 replace m0 := m0.trans m4.no
 refine L.bi Wt.no rfl rfl rfl rfl (L.as Wt.no rfl rfl (L.nil (X.seqN (E.ret ?_))))
 obtain rfl := Option.some.inj hm
 exact X.rt (.inl rfl) Try.results23 (Rs.tmp rfl Rs.nil) rfl ⟨_, (s3).ren N (fun _ => 0), rfl, rfl, m0.ren hNb, rfl⟩

theorem ag28 : Ag Try.prog 28 3 := Ag.mk' Try.underlying28 rfl (by kernel_rfl)
theorem cf23 : Cf Try.prog 23 := Cf.mk Try.func23 (by kernel_rfl) (by kernel_rfl)
theorem fa26_0 : FA Try.prog 26 0 0 := FA.mk Try.underlying26 rfl rfl ⟨1, by decide, by kernel_rfl⟩
theorem fa26_1 : FA Try.prog 26 1 1 := FA.mk Try.underlying26 rfl rfl ⟨1, by decide, by kernel_rfl⟩
theorem fa26_3 : FA Try.prog 26 3 3 := FA.mk Try.underlying26 rfl rfl ⟨1, by decide, by kernel_rfl⟩
theorem fa28_0 : FA Try.prog 28 0 0 := FA.mk Try.underlying28 rfl rfl ⟨1, by decide, by kernel_rfl⟩
theorem fa28_1 : FA Try.prog 28 1 1 := FA.mk Try.underlying28 rfl rfl ⟨1, by decide, by kernel_rfl⟩
theorem fa28_2 : FA Try.prog 28 2 2 := FA.mk Try.underlying28 rfl rfl ⟨1, by decide, by kernel_rfl⟩
theorem nag23 : NAg Try.prog 23 := NAg.mk' Try.underlying23 rfl (by kernel_rfl)
theorem nag24 : NAg Try.prog 24 := NAg.mk' Try.underlying24 rfl (by kernel_rfl)
theorem sl24 : Sl Try.prog 24 28 3 := Sl.mk' Try.underlying24 (by kernel_rfl)
theorem zz28 : (Try.prog.info? 28).bind (·.zero) = some (.agg #[.int .i64 0, .int .i64 0, .int .i64 0]) := by kernel_rfl
noncomputable def m_automaton_checkEdges_j1 (st38 : Int) : Option (Int ⊕ (Unit ⊕ Int)) :=
  some (.inl (W (st38 + 1)))
noncomputable def m_automaton_checkEdges_l1 (p0 : List Int × Int × List Int × (List (Int × Int × Int))) (st38 : Int) : Option (Int ⊕ (Unit ⊕ Int)) :=
  if decide (st38 < (p0.2.2.2.length : Int)) then
    (idx p0.2.2.2 st38).bind fun x49 =>
    if ((((decide (x49.1 < 0)) || (decide (x49.1 ≥ p0.2.1))) || (decide (x49.2.2 < 0))) || (decide (x49.2.2 ≥ p0.2.1))) then
      some (.inr (.inr (2)))
    else
      (m_slices_Contains_int p0.1 x49.2.1).bind fun r59 =>
      if (!r59) then
        some (.inr (.inr (9)))
      else
        if (st38 == 0) then
          m_automaton_checkEdges_j1 st38
        else
          (idx p0.2.2.2 (W (st38 - 1))).bind fun x62 =>
          if ((decide (x49.1 < x62.1)) || ((x49.1 == x62.1) && (decide (x49.2.1 ≤ x62.2.1)))) then
            some (.inr (.inr (5)))
          else
            m_automaton_checkEdges_j1 st38
  else
    some (.inr (.inl ()))
/-- What automaton.checkEdges computes. -/
noncomputable def m_automaton_checkEdges (p0 : List Int × Int × List Int × (List (Int × Int × Int))) : Option Int :=
  (iter (m_automaton_checkEdges_l1 p0) 0).bind fun o38 =>
  match o38 with
  | .inl u41 =>
    some 0
  | .inr (u44) =>
    some u44
set_option maxRecDepth 100000 in
set_option maxHeartbeats 8000000 in
theorem m_automaton_checkEdges_c {s : Sig} {p0 : List Int × Int × List Int × (List (Int × Int × Int))} {a1 : Option Addr} {c1 : Nat} {a2 : Option Addr} {c2 : Nat} {a3 : Option Addr} {c3 : Nat} {r : Int} (h1 : RdL (rK .i64) s a1 c1 p0.1) (h2 : RdL (rK .i64) s a2 c2 p0.2.2.1) (h3 : RdL (rP (rK .i64) (rP (rK .i64) (rK .i64))) s a3 c3 p0.2.2.2) (hm : m_automaton_checkEdges p0 = some r) :
    Calls Try.prog 62 #[.agg #[.slice a1 p0.1.length c1, .int .i64 p0.2.1, .slice a2 p0.2.2.1.length c2, .slice a3 p0.2.2.2.length c3]] s.w (RetS No s fun v s' => v = .int .i64 r) := by
 unfold m_automaton_checkEdges at hm
 obtain ⟨N, hN, hNb⟩ := s.fresh
 have m0 : Mv (Up N No) s s := Mv.refl _ _
 refine E.entry Try.func62 rfl Try.ntmps62 rfl rfl (E.seq (E.reg (L.box (N + 0) Wt.no rfl rfl rfl fun b4 s5 m6 bx4 => ?_)))
 replace m0 := m0.trans m6.no
 replace h1 := h1.mono (m6.le no_No)
 replace h2 := h2.mono (m6.le no_No)
 replace h3 := h3.mono (m6.le no_No)
 refine L.as Wt.no rfl rfl (L.nil (X.seqN (E.seq (E.seq (E.reg (L.fa fa26_3 Wt.no rfl rfl (L.ld (j := 3) bx4.mem nag24 Wt.no rfl rfl rfl rfl (L.len sl24 Wt.no rfl rfl (L.mv Wt.no rfl rfl (L.nil (X.seqN (E.block ?_))))))))))))
 obtain ⟨o38, eo38, hm⟩ := bindS hm
 refine E.cut (x := .exit 0) (fun e w => ∃ (s42 : Sig) (u41 : Unit), o38 = .inl u41 ∧ Mv (Up N No) s s42 ∧ e = [] ∧ w = s42.w) ?_ ?_
 ·rintro _ _ ⟨s42, u41, rfl, m0, rfl, rfl⟩
  dsimp only at hm
  refine X.blkE (X.seqN (E.seq (E.reg (L.as Wt.no rfl rfl (L.nil (X.seqN (E.ret ?_)))))))
  obtain rfl := Option.some.inj hm
  exact X.rt (.inl rfl) Try.results62 (Rs.tmp rfl Rs.nil) rfl ⟨_, (s42).ren N (fun _ => 0), rfl, rfl, m0.ren hNb, rfl⟩
 intro K43
 refine E.cut (x := .ret) (fun e w => ∃ (s45 : Sig) (u44 : Int), o38 = .inr (u44) ∧ Mv (Up N No) s s45 ∧ e = [(2, .int .i64 u44)] ∧ w = s45.w) ?_ ?_
 ·rintro _ _ ⟨s45, u44, rfl, m0, rfl, rfl⟩
  dsimp only at hm
  refine X.blkR (X.seqR ?_)
  obtain rfl := Option.some.inj hm
  exact X.rt (.inl rfl) Try.results62 (Rs.tmp rfl Rs.nil) rfl ⟨_, (s45).ren N (fun _ => 0), rfl, rfl, m0.ren hNb, rfl⟩
 intro K46
 refine E.iter (fun (st38 : Int) (e : List (Nat × Value)) (w : World) => ∃ (s40 : Sig), Mv (Up N No) s s40 ∧ RdL (rP (rK .i64) (rP (rK .i64) (rK .i64))) s40 a3 c3 p0.2.2.2 ∧ RdL (rK .i64) s40 a1 c1 p0.1 ∧ RdL (rK .i64) s40 a2 c2 p0.2.2.1 ∧ Bx s40 (N + 0) b4 #[.slice a1 p0.1.length c1, .int .i64 p0.2.1, .slice a2 p0.2.2.1.length c2, .slice a3 p0.2.2.2.length c3] 26 ∧ e = [(9, .int .i64 st38), (8, .int .i64 (p0.2.2.2.length : Int)), (7, .slice a3 p0.2.2.2.length c3), (1, .pointer (some ⟨b4, 0, none⟩))] ∧ w = s40.w) eo38 ⟨s5, m0, h3, h1, h2, bx4, rfl, rfl⟩ (Sub.rf rfl) ?_
 rintro st38 res38 hm ih38 ho38 _ _ ⟨s40, m0, h3, h1, h2, bx4, rfl, rfl⟩
 unfold m_automaton_checkEdges_l1 at hm
 refine E.seq (E.reg (L.bi Wt.no rfl rfl rfl rfl (L.nil (X.seqN (E.seq ?_)))))
 rcases ifS hm with ⟨hc, hm⟩ | ⟨hc, hm⟩
 ·refine E.cT rfl hc (E.skip (X.seqN (E.seqJ (fun e w => ∃ (s47 : Sig), m_automaton_checkEdges_j1 st38 = some res38 ∧ Mv (Up N No) s s47 ∧ RdL (rP (rK .i64) (rP (rK .i64) (rK .i64))) s47 a3 c3 p0.2.2.2 ∧ RdL (rK .i64) s47 a1 c1 p0.1 ∧ RdL (rK .i64) s47 a2 c2 p0.2.2.1 ∧ Bx s47 (N + 0) b4 #[.slice a1 p0.1.length c1, .int .i64 p0.2.1, .slice a2 p0.2.2.1.length c2, .slice a3 p0.2.2.2.length c3] 26 ∧ e = [(9, .int .i64 st38), (8, .int .i64 (p0.2.2.2.length : Int)), (7, .slice a3 p0.2.2.2.length c3), (1, .pointer (some ⟨b4, 0, none⟩))] ∧ w = s47.w) ?_ ?_)))
  ·rintro _ _ ⟨s47, hm, m0, h3, h1, h2, bx4, rfl, rfl⟩
   unfold m_automaton_checkEdges_j1 at hm
   exact E.reg (L.bi Wt.no rfl rfl rfl rfl (L.mv Wt.no rfl rfl (L.nil (X.sub (ih38 _ (Option.some.inj hm).symm _ _ ⟨s47, m0, h3, h1, h2, bx4, rfl, rfl⟩) (Sub.rf rfl)))))
  ·intro Jj48
   refine E.block (E.seq (E.reg (L.mv Wt.no rfl rfl ?_)))
   obtain ⟨x49, ex49, hm⟩ := bindS hm
   refine L.ix (r := (rP (rK .i64) (rP (rK .i64) (rK .i64)))) sl24 h3 Wt.no rfl rfl ex49 rfl fun b50 o50 cc50 me50 rd50 => ?_
   obtain ⟨_, _, rfl, rfl, ⟨_, _, rfl, rfl, rfl⟩⟩ := rd50
   refine L.lg (j := 0) (cs := [.int .i64 x49.1, .int .i64 x49.2.1, .int .i64 x49.2.2]) me50 ag28 Wt.no rfl rfl rfl rfl rfl (L.al (N + 1) zz28 rfl Wt.no rfl fun b51 s52 m53 bx51 => ?_)
   replace m0 := m0.trans m53.no
   replace h3 := h3.mono (m53.le no_No)
   replace bx4 := bx4.mv m53 no_No
   replace h1 := h1.mono (m53.le no_No)
   replace h2 := h2.mono (m53.le no_No)
   refine L.as Wt.no rfl rfl (L.st (c := [.int .i64 x49.1, .int .i64 x49.2.1, .int .i64 x49.2.2]) (cs' := #[.int .i64 x49.1, .int .i64 x49.2.1, .int .i64 x49.2.2]) bx51 ag28.sz Wt.no rfl rfl rfl rfl rfl (Nat.le_of_ble_eq_true rfl) rfl fun s54 m55 bx51 => ?_)
   replace m0 := m0.trans (m55.one up)
   replace h3 := h3.mono (m55.le (tg0 hN))
   replace bx4 := bx4.mv m55 (tgN (by decide))
   replace h1 := h1.mono (m55.le (tg0 hN))
   replace h2 := h2.mono (m55.le (tg0 hN))
   refine L.nil (X.seqN (E.seq (E.block (E.seq (E.reg (L.fa fa28_0 Wt.no rfl rfl (L.ld (j := 0) bx51.mem nag3 Wt.no rfl rfl rfl rfl (L.bi Wt.no rfl rfl rfl rfl (L.mv Wt.no rfl rfl (L.cut 6 (fun e w => ∃ (v56 : Bool), ((decide (x49.1 < 0)) || (decide (x49.1 ≥ p0.2.1))) = v56 ∧ e = (24, .bool v56) :: [(3, .int .i64 st38), (4, .pointer (some ⟨b51, 0, none⟩)), (9, .int .i64 st38), (8, .int .i64 (p0.2.2.2.length : Int)), (7, .slice a3 p0.2.2.2.length c3), (1, .pointer (some ⟨b4, 0, none⟩))] ∧ w = s54.w) ?_ ?_))))))))))
   ·rintro _ _ ⟨v56, rfl, rfl, rfl⟩
    refine L.mv Wt.no rfl rfl (L.cut 4 (fun e w => ∃ (v57 : Bool), (((decide (x49.1 < 0)) || (decide (x49.1 ≥ p0.2.1))) || (decide (x49.2.2 < 0))) = v57 ∧ e = (29, .bool v57) :: [(3, .int .i64 st38), (4, .pointer (some ⟨b51, 0, none⟩)), (9, .int .i64 st38), (8, .int .i64 (p0.2.2.2.length : Int)), (7, .slice a3 p0.2.2.2.length c3), (1, .pointer (some ⟨b4, 0, none⟩))] ∧ w = s54.w) ?_ ?_)
    ·rintro _ _ ⟨v57, rfl, rfl, rfl⟩
     refine L.mv Wt.no rfl rfl (L.cut 6 (fun e w => ∃ (v58 : Bool), ((((decide (x49.1 < 0)) || (decide (x49.1 ≥ p0.2.1))) || (decide (x49.2.2 < 0))) || (decide (x49.2.2 ≥ p0.2.1))) = v58 ∧ e = (36, .bool v58) :: [(3, .int .i64 st38), (4, .pointer (some ⟨b51, 0, none⟩)), (9, .int .i64 st38), (8, .int .i64 (p0.2.2.2.length : Int)), (7, .slice a3 p0.2.2.2.length c3), (1, .pointer (some ⟨b4, 0, none⟩))] ∧ w = s54.w) ?_ ?_)
     ·rintro _ _ ⟨v58, rfl, rfl, rfl⟩
      refine L.as Wt.no rfl rfl (L.nil (X.seqN ?_))
      rcases ifS hm with ⟨hc, hm⟩ | ⟨hc, hm⟩
      ·refine E.cT rfl hc (E.seq (E.reg (L.as Wt.no rfl rfl (L.nil (X.seqN (E.ret (X.blkR (X.seqR (X.blkR (X.seqR (X.seqR ?_)))))))))))
       have hx := ho38 _ (Option.some.inj hm).symm
       exact X.sub (K46 _ _ ⟨s54, 2, hx.symm, m0, rfl, rfl⟩) (Sub.rf rfl)
      ·refine E.cF rfl hc (E.seq (E.reg (L.fa fa26_0 Wt.no rfl rfl (L.ld (j := 0) bx4.mem nag23 Wt.no rfl rfl rfl rfl (L.fa fa28_1 Wt.no rfl rfl (L.ld (j := 1) bx51.mem nag3 Wt.no rfl rfl rfl rfl ?_))))))
       obtain ⟨r59, er59, hm⟩ := bindS hm
       refine L.ca cf23 rfl rfl Wt.no rfl (m_slices_Contains_int_c (s := s54) (p0 := p0.1) (p1 := x49.2.1) h1 er59) rfl ?_
       rintro _ s60 m61 rfl
       replace m0 := m0.trans m61.no
       replace h3 := h3.mono (m61.le no_No)
       replace bx4 := bx4.mv m61 no_No
       replace h1 := h1.mono (m61.le no_No)
       replace h2 := h2.mono (m61.le no_No)
       replace bx51 := bx51.mv m61 no_No
       refine L.not Wt.no rfl rfl (L.as Wt.no rfl rfl (L.nil (X.seqN ?_)))
       rcases ifS hm with ⟨hc, hm⟩ | ⟨hc, hm⟩
       ·refine E.cT rfl hc (E.seq (E.reg (L.as Wt.no rfl rfl (L.nil (X.seqN (E.ret (X.blkR (X.seqR (X.blkR (X.seqR (X.seqR ?_)))))))))))
        have hx := ho38 _ (Option.some.inj hm).symm
        exact X.sub (K46 _ _ ⟨s60, 9, hx.symm, m0, rfl, rfl⟩) (Sub.rf rfl)
       ·refine E.cF rfl hc (E.skip (X.blkN (X.seqN (E.seq (E.seq (E.reg (L.mv Wt.no rfl rfl (L.bi Wt.no rfl rfl rfl rfl (L.nil (X.seqN ?_))))))))))
        rcases ifS hm with ⟨hc, hm⟩ | ⟨hc, hm⟩
        ·exact E.cT rfl hc (E.exit (X.seqX (X.blkE (X.sub (Jj48 _ _ ⟨s60, hm, m0, h3, h1, h2, bx4, rfl, rfl⟩) (Sub.rf rfl)))))
        ·refine E.cF rfl hc (E.skip (X.seqN (E.seq (E.reg (L.fa fa26_3 Wt.no rfl rfl (L.ld (j := 3) bx4.mem nag24 Wt.no rfl rfl rfl rfl (L.mv Wt.no rfl rfl (L.bi Wt.no rfl rfl rfl rfl ?_))))))))
         obtain ⟨x62, ex62, hm⟩ := bindS hm
         refine L.ix (r := (rP (rK .i64) (rP (rK .i64) (rK .i64)))) sl24 h3 Wt.no rfl rfl ex62 rfl fun b63 o63 cc63 me63 rd63 => ?_
         obtain ⟨_, _, rfl, rfl, ⟨_, _, rfl, rfl, rfl⟩⟩ := rd63
         refine L.lg (j := 0) (cs := [.int .i64 x62.1, .int .i64 x62.2.1, .int .i64 x62.2.2]) me63 ag28 Wt.no rfl rfl rfl rfl rfl (L.al (N + 2) zz28 rfl Wt.no rfl fun b64 s65 m66 bx64 => ?_)
         replace m0 := m0.trans m66.no
         replace h3 := h3.mono (m66.le no_No)
         replace bx4 := bx4.mv m66 no_No
         replace h1 := h1.mono (m66.le no_No)
         replace h2 := h2.mono (m66.le no_No)
         replace bx51 := bx51.mv m66 no_No
         refine L.st (c := [.int .i64 x62.1, .int .i64 x62.2.1, .int .i64 x62.2.2]) (cs' := #[.int .i64 x62.1, .int .i64 x62.2.1, .int .i64 x62.2.2]) bx64 ag28.sz Wt.no rfl rfl rfl rfl rfl (Nat.le_of_ble_eq_true rfl) rfl fun s67 m68 bx64 => ?_
         replace m0 := m0.trans (m68.one up)
         replace h3 := h3.mono (m68.le (tg0 hN))
         replace bx4 := bx4.mv m68 (tgN (by decide))
         replace h1 := h1.mono (m68.le (tg0 hN))
         replace h2 := h2.mono (m68.le (tg0 hN))
         replace bx51 := bx51.mv m68 (tgN (by decide))
         refine L.nil (X.seqN (E.seq (E.reg (L.fa fa28_0 Wt.no rfl rfl (L.ld (j := 0) bx51.mem nag3 Wt.no rfl rfl rfl rfl (L.fa fa28_0 Wt.no rfl rfl (L.ld (j := 0) bx64.mem nag3 Wt.no rfl rfl rfl rfl (L.bi Wt.no rfl rfl rfl rfl (L.mv Wt.no rfl rfl (L.cut 13 (fun e w => ∃ (v69 : Bool), ((decide (x49.1 < x62.1)) || ((x49.1 == x62.1) && (decide (x49.2.1 ≤ x62.2.1)))) = v69 ∧ e = (70, .bool v69) :: [(9, .int .i64 st38), (8, .int .i64 (p0.2.2.2.length : Int)), (7, .slice a3 p0.2.2.2.length c3), (1, .pointer (some ⟨b4, 0, none⟩))] ∧ w = s67.w) ?_ ?_))))))))))
         ·rintro _ _ ⟨v69, rfl, rfl, rfl⟩
          refine L.nil (X.seqN ?_)
          rcases ifS hm with ⟨hc, hm⟩ | ⟨hc, hm⟩
          ·refine E.cT rfl hc (E.seq (E.reg (L.as Wt.no rfl rfl (L.nil (X.seqN (E.ret (X.blkR (X.seqR (X.seqR ?_)))))))))
           have hx := ho38 _ (Option.some.inj hm).symm
           exact X.sub (K46 _ _ ⟨s67, 5, hx.symm, m0, rfl, rfl⟩) (Sub.rf rfl)
          ·exact E.cF rfl hc (E.skip (X.blkN (X.sub (Jj48 _ _ ⟨s67, hm, m0, h3, h1, h2, bx4, rfl, rfl⟩) (Sub.rf rfl))))
         ·intro J70
          rcases Bool.eq_false_or_eq_true (decide (x49.1 < x62.1)) with hc | hc
          ·exact L.know (d := 57) rfl hc (L.skip rfl rfl rfl rfl (L.skip rfl rfl rfl rfl (L.skip rfl rfl rfl rfl (L.skip rfl rfl rfl rfl (L.skip rfl rfl rfl rfl (L.skip rfl rfl rfl rfl (L.skipU rfl rfl rfl (L.skipU rfl rfl rfl (L.skipU rfl rfl rfl (L.skipU rfl rfl rfl (L.skipU rfl rfl rfl (L.skip rfl rfl rfl rfl (L.pkT Wt.no rfl rfl rfl rfl (L.sb (J70 _ _ ⟨true, (orT hc).symm, rfl, rfl⟩) rfl))))))))))))))
          ·refine L.know (d := 57) rfl hc (L.fa fa28_0 (Wt.mk rfl rfl) rfl rfl (L.ld (j := 0) bx51.mem nag3 (Wt.mk rfl rfl) rfl rfl rfl rfl (L.fa fa28_0 (Wt.mk rfl rfl) rfl rfl (L.ld (j := 0) bx64.mem nag3 (Wt.mk rfl rfl) rfl rfl rfl rfl (L.bi (Wt.mk rfl rfl) rfl rfl rfl rfl (L.mv (Wt.mk rfl rfl) rfl rfl (L.cut 6 (fun e w => ∃ (v71 : Bool), ((x49.1 == x62.1) && (decide (x49.2.1 ≤ x62.2.1))) = v71 ∧ e = (69, .bool v71) :: [(57, .bool false), (9, .int .i64 st38), (8, .int .i64 (p0.2.2.2.length : Int)), (7, .slice a3 p0.2.2.2.length c3), (1, .pointer (some ⟨b4, 0, none⟩))] ∧ w = s67.w) ?_ ?_)))))))
           ·rintro _ _ ⟨v71, rfl, rfl, rfl⟩
            exact L.pkF Wt.no rfl rfl rfl rfl (L.sb (J70 _ _ ⟨((x49.1 == x62.1) && (decide (x49.2.1 ≤ x62.2.1))), (orF hc).symm, rfl, rfl⟩) rfl)
           ·intro J72
            rcases Bool.eq_false_or_eq_true (x49.1 == x62.1) with hc | hc
            ·exact L.know (d := 63) rfl hc (L.fa fa28_1 (Wt.mk rfl rfl) rfl rfl (L.ld (j := 1) bx51.mem nag3 (Wt.mk rfl rfl) rfl rfl rfl rfl (L.fa fa28_1 (Wt.mk rfl rfl) rfl rfl (L.ld (j := 1) bx64.mem nag3 (Wt.mk rfl rfl) rfl rfl rfl rfl (L.bi (Wt.mk rfl rfl) rfl rfl rfl rfl (L.pkT (Wt.mk rfl rfl) rfl rfl rfl rfl (L.sb (J72 _ _ ⟨(decide (x49.2.1 ≤ x62.2.1)), (andT hc).symm, rfl, rfl⟩) rfl)))))))
            ·exact L.know (d := 63) rfl hc (L.skip rfl rfl rfl rfl (L.skip rfl rfl rfl rfl (L.skip rfl rfl rfl rfl (L.skip rfl rfl rfl rfl (L.skip rfl rfl rfl rfl (L.pkF (Wt.mk rfl rfl) rfl rfl rfl rfl (L.sb (J72 _ _ ⟨false, (andF hc).symm, rfl, rfl⟩) rfl)))))))
     ·intro J73
      rcases Bool.eq_false_or_eq_true (((decide (x49.1 < 0)) || (decide (x49.1 ≥ p0.2.1))) || (decide (x49.2.2 < 0))) with hc | hc
      ·exact L.know (d := 30) rfl hc (L.skip rfl rfl rfl rfl (L.skip rfl rfl rfl rfl (L.skip rfl rfl rfl rfl (L.skip rfl rfl rfl rfl (L.skip rfl rfl rfl rfl (L.pkT Wt.no rfl rfl rfl rfl (L.sb (J73 _ _ ⟨true, (orT hc).symm, rfl, rfl⟩) rfl)))))))
      ·exact L.know (d := 30) rfl hc (L.fa fa28_2 (Wt.mk rfl rfl) rfl rfl (L.ld (j := 2) bx51.mem nag3 (Wt.mk rfl rfl) rfl rfl rfl rfl (L.fa fa26_1 (Wt.mk rfl rfl) rfl rfl (L.ld (j := 1) bx4.mem nag3 (Wt.mk rfl rfl) rfl rfl rfl rfl (L.bi (Wt.mk rfl rfl) rfl rfl rfl rfl (L.pkF Wt.no rfl rfl rfl rfl (L.sb (J73 _ _ ⟨(decide (x49.2.2 ≥ p0.2.1)), (orF hc).symm, rfl, rfl⟩) rfl)))))))
    ·intro J74
     rcases Bool.eq_false_or_eq_true ((decide (x49.1 < 0)) || (decide (x49.1 ≥ p0.2.1))) with hc | hc
     ·exact L.know (d := 25) rfl hc (L.skip rfl rfl rfl rfl (L.skip rfl rfl rfl rfl (L.skip rfl rfl rfl rfl (L.pkT Wt.no rfl rfl rfl rfl (L.sb (J74 _ _ ⟨true, (orT hc).symm, rfl, rfl⟩) rfl)))))
     ·exact L.know (d := 25) rfl hc (L.fa fa28_2 (Wt.mk rfl rfl) rfl rfl (L.ld (j := 2) bx51.mem nag3 (Wt.mk rfl rfl) rfl rfl rfl rfl (L.bi (Wt.mk rfl rfl) rfl rfl rfl rfl (L.pkF Wt.no rfl rfl rfl rfl (L.sb (J74 _ _ ⟨(decide (x49.2.2 < 0)), (orF hc).symm, rfl, rfl⟩) rfl)))))
   ·intro J75
    rcases Bool.eq_false_or_eq_true (decide (x49.1 < 0)) with hc | hc
    ·exact L.know (d := 18) rfl hc (L.skip rfl rfl rfl rfl (L.skip rfl rfl rfl rfl (L.skip rfl rfl rfl rfl (L.skip rfl rfl rfl rfl (L.skip rfl rfl rfl rfl (L.pkT Wt.no rfl rfl rfl rfl (L.sb (J75 _ _ ⟨true, (orT hc).symm, rfl, rfl⟩) rfl)))))))
    ·exact L.know (d := 18) rfl hc (L.fa fa28_0 (Wt.mk rfl rfl) rfl rfl (L.ld (j := 0) bx51.mem nag3 (Wt.mk rfl rfl) rfl rfl rfl rfl (L.fa fa26_1 (Wt.mk rfl rfl) rfl rfl (L.ld (j := 1) bx4.mem nag3 (Wt.mk rfl rfl) rfl rfl rfl rfl (L.bi (Wt.mk rfl rfl) rfl rfl rfl rfl (L.pkF Wt.no rfl rfl rfl rfl (L.sb (J75 _ _ ⟨(decide (x49.1 ≥ p0.2.1)), (orF hc).symm, rfl, rfl⟩) rfl)))))))
 ·refine E.cF rfl hc (E.exit (X.seqX (X.seqX ?_)))
  have hx := ho38 _ (Option.some.inj hm).symm
  exact X.sub (K43 _ _ ⟨s40, (), hx.symm, m0, rfl, rfl⟩) Sub.nil

theorem cf61 : Cf Try.prog 61 := Cf.mk Try.func61 (by kernel_rfl) (by kernel_rfl)
theorem cf62 : Cf Try.prog 62 := Cf.mk Try.func62 (by kernel_rfl) (by kernel_rfl)
theorem fa26_2 : FA Try.prog 26 2 2 := FA.mk Try.underlying26 rfl rfl ⟨1, by decide, by kernel_rfl⟩
/-- What automaton.Check computes. -/
noncomputable def m_automaton_Check (p0 : List Int × Int × List Int × (List (Int × Int × Int))) : Option Int :=
  (m_automaton_checkSet p0.1 32).bind fun r7 =>
  if (r7 != 0) then
    some r7
  else
    if decide (p0.2.1 < 0) then
      some 2
    else
      if decide (p0.2.1 > 4096) then
        some 3
      else
        (m_automaton_checkSet p0.2.2.1 p0.2.1).bind fun r10 =>
        if (r10 != 0) then
          some r10
        else
          (m_automaton_checkEdges p0).bind fun r13 =>
          some r13
set_option maxRecDepth 100000 in
set_option maxHeartbeats 8000000 in
theorem m_automaton_Check_c {s : Sig} {p0 : List Int × Int × List Int × (List (Int × Int × Int))} {a1 : Option Addr} {c1 : Nat} {a2 : Option Addr} {c2 : Nat} {a3 : Option Addr} {c3 : Nat} {r : Int} (h1 : RdL (rK .i64) s a1 c1 p0.1) (h2 : RdL (rK .i64) s a2 c2 p0.2.2.1) (h3 : RdL (rP (rK .i64) (rP (rK .i64) (rK .i64))) s a3 c3 p0.2.2.2) (hm : m_automaton_Check p0 = some r) :
    Calls Try.prog 33 #[.agg #[.slice a1 p0.1.length c1, .int .i64 p0.2.1, .slice a2 p0.2.2.1.length c2, .slice a3 p0.2.2.2.length c3]] s.w (RetS No s fun v s' => v = .int .i64 r) := by
 unfold m_automaton_Check at hm
 obtain ⟨N, hN, hNb⟩ := s.fresh
 have m0 : Mv (Up N No) s s := Mv.refl _ _
 refine E.entry Try.func33 rfl Try.ntmps33 rfl rfl (E.seq (E.reg (L.box (N + 0) Wt.no rfl rfl rfl fun b4 s5 m6 bx4 => ?_)))
 replace m0 := m0.trans m6.no
 replace h1 := h1.mono (m6.le no_No)
 replace h2 := h2.mono (m6.le no_No)
 replace h3 := h3.mono (m6.le no_No)
 refine L.as Wt.no rfl rfl (L.nil (X.seqN (E.seq (E.seq (E.reg (L.fa fa26_0 Wt.no rfl rfl (L.ld (j := 0) bx4.mem nag23 Wt.no rfl rfl rfl rfl ?_)))))))
 obtain ⟨r7, er7, hm⟩ := bindS hm
 refine L.ca cf61 rfl rfl Wt.no rfl (m_automaton_checkSet_c (s := s5) (p0 := p0.1) (p1 := 32) h1 er7) rfl ?_
 rintro _ s8 m9 rfl
 replace m0 := m0.trans m9.no
 replace bx4 := bx4.mv m9 no_No
 replace h1 := h1.mono (m9.le no_No)
 replace h2 := h2.mono (m9.le no_No)
 replace h3 := h3.mono (m9.le no_No)
 refine L.as Wt.no rfl rfl (L.nil (X.seqN (E.seq (E.reg (L.mv Wt.no rfl rfl (L.bi Wt.no rfl rfl rfl rfl (L.nil (X.seqN ?_))))))))
 rcases ifS hm with ⟨hc, hm⟩ | ⟨hc, hm⟩
 ·refine E.cT rfl hc (E.seq (E.reg (L.mv Wt.no rfl rfl (L.as Wt.no rfl rfl (L.nil (X.seqN (E.ret (X.seqR ?_))))))))
  obtain rfl := Option.some.inj hm
  exact X.rt (.inl rfl) Try.results33 (Rs.tmp rfl Rs.nil) rfl ⟨_, (s8).ren N (fun _ => 0), rfl, rfl, m0.ren hNb, rfl⟩
 ·refine E.cF rfl hc (E.skip (X.seqN (E.seq (E.block (E.seq (E.reg (L.fa fa26_1 Wt.no rfl rfl (L.ld (j := 1) bx4.mem nag3 Wt.no rfl rfl rfl rfl (L.bi Wt.no rfl rfl rfl rfl (L.as Wt.no rfl rfl (L.nil (X.seqN ?_))))))))))))
  rcases ifS hm with ⟨hc, hm⟩ | ⟨hc, hm⟩
  ·refine E.cT rfl hc (E.seq (E.reg (L.as Wt.no rfl rfl (L.nil (X.seqN (E.ret (X.blkR (X.seqR ?_))))))))
   obtain rfl := Option.some.inj hm
   exact X.rt (.inl rfl) Try.results33 (Rs.tmp rfl Rs.nil) rfl ⟨_, (s8).ren N (fun _ => 0), rfl, rfl, m0.ren hNb, rfl⟩
  ·refine E.cF rfl hc (E.seq (E.reg (L.fa fa26_1 Wt.no rfl rfl (L.ld (j := 1) bx4.mem nag3 Wt.no rfl rfl rfl rfl (L.bi Wt.no rfl rfl rfl rfl (L.as Wt.no rfl rfl (L.nil (X.seqN ?_))))))))
   rcases ifS hm with ⟨hc, hm⟩ | ⟨hc, hm⟩
   ·refine E.cT rfl hc (E.seq (E.reg (L.as Wt.no rfl rfl (L.nil (X.seqN (E.ret (X.blkR (X.seqR ?_))))))))
    obtain rfl := Option.some.inj hm
    exact X.rt (.inl rfl) Try.results33 (Rs.tmp rfl Rs.nil) rfl ⟨_, (s8).ren N (fun _ => 0), rfl, rfl, m0.ren hNb, rfl⟩
   ·refine E.cF rfl hc (E.skip (X.blkN (X.seqN (E.seq (E.seq (E.reg (L.fa fa26_2 Wt.no rfl rfl (L.ld (j := 2) bx4.mem nag23 Wt.no rfl rfl rfl rfl (L.fa fa26_1 Wt.no rfl rfl (L.ld (j := 1) bx4.mem nag3 Wt.no rfl rfl rfl rfl ?_))))))))))
    obtain ⟨r10, er10, hm⟩ := bindS hm
    refine L.ca cf61 rfl rfl Wt.no rfl (m_automaton_checkSet_c (s := s8) (p0 := p0.2.2.1) (p1 := p0.2.1) h2 er10) rfl ?_
    rintro _ s11 m12 rfl
    replace m0 := m0.trans m12.no
    replace bx4 := bx4.mv m12 no_No
    replace h1 := h1.mono (m12.le no_No)
    replace h2 := h2.mono (m12.le no_No)
    replace h3 := h3.mono (m12.le no_No)
    refine L.as Wt.no rfl rfl (L.nil (X.seqN (E.seq (E.reg (L.mv Wt.no rfl rfl (L.bi Wt.no rfl rfl rfl rfl (L.nil (X.seqN ?_))))))))
    rcases ifS hm with ⟨hc, hm⟩ | ⟨hc, hm⟩
    ·refine E.cT rfl hc (E.seq (E.reg (L.mv Wt.no rfl rfl (L.as Wt.no rfl rfl (L.nil (X.seqN (E.ret (X.seqR ?_))))))))
     obtain rfl := Option.some.inj hm
     exact X.rt (.inl rfl) Try.results33 (Rs.tmp rfl Rs.nil) rfl ⟨_, (s11).ren N (fun _ => 0), rfl, rfl, m0.ren hNb, rfl⟩
    ·refine E.cF rfl hc (E.skip (X.seqN (E.seq (E.reg (L.lg (j := 0) (cs := [.slice a1 p0.1.length c1, .int .i64 p0.2.1, .slice a2 p0.2.2.1.length c2, .slice a3 p0.2.2.2.length c3]) bx4.mem ag26 Wt.no rfl rfl rfl rfl rfl ?_)))))
     obtain ⟨r13, er13, hm⟩ := bindS hm
     refine L.ca cf62 rfl rfl Wt.no rfl (m_automaton_checkEdges_c (s := s11) (p0 := p0) h1 h2 h3 er13) rfl ?_
     rintro _ s14 m15 rfl
     replace m0 := m0.trans m15.no
     refine L.as Wt.no rfl rfl (L.nil (X.seqN (E.ret ?_)))
     obtain rfl := Option.some.inj hm
     exact X.rt (.inl rfl) Try.results33 (Rs.tmp rfl Rs.nil) rfl ⟨_, (s14).ren N (fun _ => 0), rfl, rfl, m0.ren hNb, rfl⟩

noncomputable def m_alphabet_CheckSet_l1 (p0 : List Int) (p1 : Int) (st13 : Int) : Option (Int ⊕ (Unit ⊕ Int)) :=
  if decide (st13 < (p0.length : Int)) then
    (idx p0 st13).bind fun x22 =>
    if ((decide (x22 < 0)) || (decide (x22 ≥ p1))) then
      some (.inr (.inr (2)))
    else
      (if decide (st13 > 0) then
        (idx p0 (W (st13 - 1))).bind fun x28 =>
        some (decide (x22 ≤ x28))
      else
        some false).bind fun b25 =>
      if b25 then
        some (.inr (.inr (5)))
      else
        some (.inl (W (st13 + 1)))
  else
    some (.inr (.inl ()))
/-- What alphabet.CheckSet computes. -/
noncomputable def m_alphabet_CheckSet (p0 : List Int) (p1 : Int) : Option Int :=
  (iter (m_alphabet_CheckSet_l1 p0 p1) 0).bind fun o13 =>
  match o13 with
  | .inl u16 =>
    some 0
  | .inr (u19) =>
    some u19
set_option maxRecDepth 100000 in
set_option maxHeartbeats 8000000 in
theorem m_alphabet_CheckSet_c {s : Sig} {p0 : List Int} {p1 : Int} {a1 : Option Addr} {c1 : Nat} {r : Int} (h1 : RdL (rK .i64) s a1 c1 p0) (hm : m_alphabet_CheckSet p0 p1 = some r) :
    Calls Try.prog 28 #[.slice a1 p0.length c1, .int .i64 p1] s.w (RetS No s fun v s' => v = .int .i64 r) := by
 unfold m_alphabet_CheckSet at hm
 obtain ⟨N, hN, hNb⟩ := s.fresh
 have m0 : Mv (Up N No) s s := Mv.refl _ _
 refine E.entry Try.func28 rfl Try.ntmps28 rfl rfl (E.seq (E.reg (L.as Wt.no rfl rfl (L.nil (X.seqN (E.seq (E.seq (E.reg (L.mv Wt.no rfl rfl (L.len sl23 Wt.no rfl rfl (L.mv Wt.no rfl rfl (L.nil (X.seqN (E.block ?_))))))))))))))
 obtain ⟨o13, eo13, hm⟩ := bindS hm
 refine E.cut (x := .exit 0) (fun e w => ∃ (s17 : Sig) (u16 : Unit), o13 = .inl u16 ∧ Mv (Up N No) s s17 ∧ e = [] ∧ w = s17.w) ?_ ?_
 ·rintro _ _ ⟨s17, u16, rfl, m0, rfl, rfl⟩
  dsimp only at hm
  refine X.blkE (X.seqN (E.seq (E.reg (L.as Wt.no rfl rfl (L.nil (X.seqN (E.ret ?_)))))))
  obtain rfl := Option.some.inj hm
  exact X.rt (.inl rfl) Try.results28 (Rs.tmp rfl Rs.nil) rfl ⟨_, (s17).ren N (fun _ => 0), rfl, rfl, m0.ren hNb, rfl⟩
 intro K18
 refine E.cut (x := .ret) (fun e w => ∃ (s20 : Sig) (u19 : Int), o13 = .inr (u19) ∧ Mv (Up N No) s s20 ∧ e = [(4, .int .i64 u19)] ∧ w = s20.w) ?_ ?_
 ·rintro _ _ ⟨s20, u19, rfl, m0, rfl, rfl⟩
  dsimp only at hm
  refine X.blkR (X.seqR ?_)
  obtain rfl := Option.some.inj hm
  exact X.rt (.inl rfl) Try.results28 (Rs.tmp rfl Rs.nil) rfl ⟨_, (s20).ren N (fun _ => 0), rfl, rfl, m0.ren hNb, rfl⟩
 intro K21
 refine E.iter (fun (st13 : Int) (e : List (Nat × Value)) (w : World) => ∃ (s15 : Sig), Mv (Up N No) s s15 ∧ RdL (rK .i64) s15 a1 c1 p0 ∧ e = [(9, .int .i64 st13), (8, .int .i64 (p0.length : Int)), (7, .slice a1 p0.length c1), (0, .slice a1 p0.length c1), (1, .int .i64 p1)] ∧ w = s15.w) eo13 ⟨s, m0, h1, rfl, rfl⟩ (Sub.rf rfl) ?_
 rintro st13 res13 hm ih13 ho13 _ _ ⟨s15, m0, h1, rfl, rfl⟩
 unfold m_alphabet_CheckSet_l1 at hm
 refine E.seq (E.reg (L.bi Wt.no rfl rfl rfl rfl (L.nil (X.seqN (E.seq ?_)))))
 rcases ifS hm with ⟨hc, hm⟩ | ⟨hc, hm⟩
 ·refine E.cT rfl hc (E.skip (X.seqN (E.seq (E.block (E.seq (E.reg (L.mv Wt.no rfl rfl ?_)))))))
  obtain ⟨x22, ex22, hm⟩ := bindS hm
  refine L.ix (r := (rK .i64)) sl23 h1 Wt.no rfl rfl ex22 rfl fun b23 o23 cc23 me23 rd23 => ?_
  obtain rfl := rd23
  refine L.ld (j := 0) me23 nag3 Wt.no rfl rfl rfl rfl (L.as Wt.no rfl rfl (L.as Wt.no rfl rfl (L.nil (X.seqN (E.seq (E.seq (E.reg (L.mv Wt.no rfl rfl (L.bi Wt.no rfl rfl rfl rfl (L.mv Wt.no rfl rfl (L.cut 4 (fun e w => ∃ (v24 : Bool), ((decide (x22 < 0)) || (decide (x22 ≥ p1))) = v24 ∧ e = (20, .bool v24) :: [(6, .int .i64 x22), (5, .int .i64 st13), (9, .int .i64 st13), (8, .int .i64 (p0.length : Int)), (7, .slice a1 p0.length c1), (0, .slice a1 p0.length c1), (1, .int .i64 p1)] ∧ w = s15.w) ?_ ?_)))))))))))
  ·rintro _ _ ⟨v24, rfl, rfl, rfl⟩
   refine L.nil (X.seqN ?_)
   rcases ifS hm with ⟨hc, hm⟩ | ⟨hc, hm⟩
   ·refine E.cT rfl hc (E.seq (E.reg (L.as Wt.no rfl rfl (L.nil (X.seqN (E.ret (X.seqR (X.blkR (X.seqR (X.seqR ?_))))))))))
    have hx := ho13 _ (Option.some.inj hm).symm
    exact X.sub (K21 _ _ ⟨s15, 2, hx.symm, m0, rfl, rfl⟩) (Sub.rf rfl)
   ·refine E.cF rfl hc (E.skip (X.seqN (E.seq (E.reg (L.mv Wt.no rfl rfl (L.bi Wt.no rfl rfl rfl rfl (L.mv Wt.no rfl rfl ?_)))))))
    obtain ⟨b25, eb25, hm⟩ := bindS hm
    refine L.cut 8 (fun e w => ∃ (v26 : Bool), b25 = v26 ∧ e = (31, .bool v26) :: [(9, .int .i64 st13), (8, .int .i64 (p0.length : Int)), (7, .slice a1 p0.length c1), (0, .slice a1 p0.length c1), (1, .int .i64 p1)] ∧ w = s15.w) ?_ ?_
    ·rintro _ _ ⟨v26, rfl, rfl, rfl⟩
     refine L.nil (X.seqN ?_)
     rcases ifS hm with ⟨hc, hm⟩ | ⟨hc, hm⟩
     ·refine E.cT rfl hc (E.seq (E.reg (L.as Wt.no rfl rfl (L.nil (X.seqN (E.ret (X.blkR (X.seqR (X.seqR ?_)))))))))
      have hx := ho13 _ (Option.some.inj hm).symm
      exact X.sub (K21 _ _ ⟨s15, 5, hx.symm, m0, rfl, rfl⟩) (Sub.rf rfl)
     ·exact E.cF rfl hc (E.skip (X.blkN (X.seqN (E.reg (L.bi Wt.no rfl rfl rfl rfl (L.mv Wt.no rfl rfl (L.nil (X.sub (ih13 _ (Option.some.inj hm).symm _ _ ⟨s15, m0, h1, rfl, rfl⟩) (Sub.rf rfl)))))))))
    ·intro J27
     rcases ifS eb25 with ⟨hc, hm⟩ | ⟨hc, hm⟩
     ·refine L.know (d := 23) rfl hc (L.mv (Wt.mk rfl rfl) rfl rfl (L.mv (Wt.mk rfl rfl) rfl rfl (L.mv (Wt.mk rfl rfl) rfl rfl (L.bi (Wt.mk rfl rfl) rfl rfl rfl rfl ?_))))
      obtain ⟨x28, ex28, hm⟩ := bindS hm
      refine L.ix (r := (rK .i64)) sl23 h1 (Wt.mk rfl rfl) rfl rfl ex28 rfl fun b29 o29 cc29 me29 rd29 => ?_
      obtain rfl := rd29
      exact L.ld (j := 0) me29 nag3 (Wt.mk rfl rfl) rfl rfl rfl rfl (L.bi (Wt.mk rfl rfl) rfl rfl rfl rfl (L.pkT Wt.no rfl rfl rfl rfl (L.sb (J27 _ _ ⟨(decide (x22 ≤ x28)), (Option.some.inj hm).symm, rfl, rfl⟩) rfl)))
     ·exact L.know (d := 23) rfl hc (L.skip rfl rfl rfl rfl (L.skip rfl rfl rfl rfl (L.skip rfl rfl rfl rfl (L.skip rfl rfl rfl rfl (L.skip rfl rfl rfl rfl (L.skip rfl rfl rfl rfl (L.skip rfl rfl rfl rfl (L.pkF Wt.no rfl rfl rfl rfl (L.sb (J27 _ _ ⟨false, (Option.some.inj hm).symm, rfl, rfl⟩) rfl)))))))))
  ·intro J30
   rcases Bool.eq_false_or_eq_true (decide (x22 < 0)) with hc | hc
   ·exact L.know (d := 16) rfl hc (L.skip rfl rfl rfl rfl (L.skip rfl rfl rfl rfl (L.skip rfl rfl rfl rfl (L.pkT Wt.no rfl rfl rfl rfl (L.sb (J30 _ _ ⟨true, (orT hc).symm, rfl, rfl⟩) rfl)))))
   ·exact L.know (d := 16) rfl hc (L.mv (Wt.mk rfl rfl) rfl rfl (L.mv (Wt.mk rfl rfl) rfl rfl (L.bi (Wt.mk rfl rfl) rfl rfl rfl rfl (L.pkF Wt.no rfl rfl rfl rfl (L.sb (J30 _ _ ⟨(decide (x22 ≥ p1)), (orF hc).symm, rfl, rfl⟩) rfl)))))
 ·refine E.cF rfl hc (E.exit (X.seqX (X.seqX ?_)))
  have hx := ho13 _ (Option.some.inj hm).symm
  exact X.sub (K18 _ _ ⟨s15, (), hx.symm, m0, rfl, rfl⟩) Sub.nil

end Go.Proofs.Ytkkemchihllklaa

namespace Go.Proofs.Ytkkemchihllklaa
open Go Go.RowKit
noncomputable def m_alphabet_merge_j4 (p2 : Bool → Bool → Option Bool) (st170 : List Int × List Int × List Int) (b177 : Bool) (b180 : Bool) (l183 : List Int) (l188 : List Int) (n190 : Int) : Option ((List Int × List Int × List Int) ⊕ (List Int)) :=
  (p2 b177 b180).bind fun r193 =>
  if r193 then
    (app st170.1 ([n190] : List Int)).bind fun x199 =>
    some (.inl (x199, l183, l188))
  else
    some (.inl (st170.1, l183, l188))
noncomputable def m_alphabet_merge_j3 (p2 : Bool → Bool → Option Bool) (st170 : List Int × List Int × List Int) (b177 : Bool) (b180 : Bool) (l183 : List Int) (n185 : Int) : Option ((List Int × List Int × List Int) ⊕ (List Int)) :=
  if b180 then
    (idx st170.2.2 0).bind fun x205 =>
    (slc st170.2.2 1 (st170.2.2.length : Int)).bind fun x210 =>
    m_alphabet_merge_j4 p2 st170 b177 b180 l183 x210 x205
  else
    m_alphabet_merge_j4 p2 st170 b177 b180 l183 st170.2.2 n185
noncomputable def m_alphabet_merge_j2 (p2 : Bool → Bool → Option Bool) (st170 : List Int × List Int × List Int) (b177 : Bool) (b180 : Bool) : Option ((List Int × List Int × List Int) ⊕ (List Int)) :=
  if b177 then
    (idx st170.2.1 0).bind fun x217 =>
    (slc st170.2.1 1 (st170.2.1.length : Int)).bind fun x222 =>
    m_alphabet_merge_j3 p2 st170 b177 b180 x222 x217
  else
    m_alphabet_merge_j3 p2 st170 b177 b180 st170.2.1 0
noncomputable def m_alphabet_merge_j1 (p2 : Bool → Bool → Option Bool) (st170 : List Int × List Int × List Int) (b177 : Bool) : Option ((List Int × List Int × List Int) ⊕ (List Int)) :=
  if decide ((st170.2.2.length : Int) > 0) then
    if ((st170.2.1.length : Int) == 0) then
      m_alphabet_merge_j2 p2 st170 b177 true
    else
      (idx st170.2.2 0).bind fun x250 =>
      (idx st170.2.1 0).bind fun x255 =>
      m_alphabet_merge_j2 p2 st170 b177 (decide (x250 ≤ x255))
  else
    m_alphabet_merge_j2 p2 st170 b177 false
noncomputable def m_alphabet_merge_l1 (p2 : Bool → Bool → Option Bool) (st170 : List Int × List Int × List Int) : Option ((List Int × List Int × List Int) ⊕ (List Int)) :=
  if ((decide ((st170.2.1.length : Int) > 0)) || (decide ((st170.2.2.length : Int) > 0))) then
    if decide ((st170.2.1.length : Int) > 0) then
      if ((st170.2.2.length : Int) == 0) then
        m_alphabet_merge_j1 p2 st170 true
      else
        (idx st170.2.1 0).bind fun x301 =>
        (idx st170.2.2 0).bind fun x306 =>
        m_alphabet_merge_j1 p2 st170 (decide (x301 ≤ x306))
    else
      m_alphabet_merge_j1 p2 st170 false
  else
    some (.inr st170.1)
/-- What alphabet.merge computes. -/
noncomputable def m_alphabet_merge (p0 : List Int) (p1 : List Int) (p2 : Bool → Bool → Option Bool) : Option (List Int) :=
  (iter (m_alphabet_merge_l1 p2) (([] : List Int), p0, p1)).bind fun o170 =>
  some o170
set_option maxRecDepth 100000 in
set_option maxHeartbeats 8000000 in
theorem m_alphabet_merge_c {s : Sig} {p0 : List Int} {p1 : List Int} {p2 : Bool → Bool → Option Bool} {a1 : Option Addr} {c1 : Nat} {a2 : Option Addr} {c2 : Nat} {vp2 : Value} {u0 : Nat} {r : List Int} (h1 : RdL (rK .i64) s a1 c1 p0) (h2 : RdL (rK .i64) s a2 c2 p1) (hp2 : FV2 Try.prog s vp2 (fun (x0 : Bool) (x1 : Bool) => [.bool x0, .bool x1]) (fun (r : Bool) => .bool r) p2) (hm : m_alphabet_merge p0 p1 p2 = some r) :
    Calls Try.prog 78 #[.slice a1 p0.length c1, .slice a2 p1.length c2, vp2] s.w (RetS No s fun v s' => ∃ (a3 : Option Addr) (c3 : Nat), v = .slice a3 r.length c3 ∧ RowT (rK .i64) s' u0 3 a3 c3 r) := by
 unfold m_alphabet_merge at hm
 obtain ⟨N, hN, hNb⟩ := s.fresh
 have m0 : Mv (Up N No) s s := Mv.refl _ _
 refine E.entry Try.func78 rfl Try.ntmps78 rfl rfl (E.seq (E.reg (L.as Wt.no rfl rfl (L.nil (X.seqN (E.seq (E.reg (L.as Wt.no rfl rfl (L.nil (X.seqN (E.seq (E.block ?_))))))))))))
 obtain ⟨o170, eo170, hm⟩ := bindS hm
 refine E.cut (x := .exit 0) (fun e w => ∃ (s174 : Sig) (a172 : Option Addr) (c172 : Nat), Mv (Up N No) s s174 ∧ RowT (rK .i64) s174 (N + 0) 3 a172 c172 o170 ∧ e = [(7, .slice a172 o170.length c172)] ∧ w = s174.w) ?_ ?_
 ·rintro _ _ ⟨s174, a172, c172, m0, h172, rfl, rfl⟩
  refine X.blkE (X.seqN (E.seq (E.reg (L.mv Wt.no rfl rfl (L.as Wt.no rfl rfl (L.nil (X.seqN (E.ret ?_))))))))
  obtain rfl := Option.some.inj hm
  exact X.rt (.inl rfl) Try.results78 (Rs.tmp rfl Rs.nil) rfl ⟨_, (s174).ren N (fun k => cond (Nat.beq k 0) u0 (0)), rfl, rfl, m0.ren hNb, ⟨a172, c172, rfl, (h172.ren hN)⟩⟩
 intro K175
 refine E.iter (fun (st170 : List Int × List Int × List Int) (e : List (Nat × Value)) (w : World) => ∃ (s173 : Sig) (a5 : Option Addr) (c5 : Nat) (a7 : Option Addr) (c7 : Nat) (a9 : Option Addr) (c9 : Nat), Mv (Up N No) s s173 ∧ RowT (rK .i64) s173 (N + 0) 3 a5 c5 st170.1 ∧ RdL (rK .i64) s173 a7 c7 st170.2.1 ∧ RdL (rK .i64) s173 a9 c9 st170.2.2 ∧ FV2 Try.prog s173 vp2 (fun (x0 : Bool) (x1 : Bool) => [.bool x0, .bool x1]) (fun (r : Bool) => .bool r) p2 ∧ e = [(7, .slice a5 st170.1.length c5), (0, .slice a7 st170.2.1.length c7), (1, .slice a9 st170.2.2.length c9), (2, vp2)] ∧ w = s173.w) eo170 ⟨s, none, 0, a1, c1, a2, c2, m0, RowT.nil, h1, h2, hp2, rfl, rfl⟩ (Sub.rf rfl) ?_
 rintro st170 res170 hm ih170 ho170 _ _ ⟨s173, a5, c5, a7, c7, a9, c9, m0, h5, h7, h9, hp2, rfl, rfl⟩
 unfold m_alphabet_merge_l1 at hm
 refine E.seq (E.seq (E.reg (L.mv Wt.no rfl rfl (L.len sl23 Wt.no rfl rfl (L.bi Wt.no rfl rfl rfl rfl (L.mv Wt.no rfl rfl (L.cut 4 (fun e w => ∃ (v176 : Bool), ((decide ((st170.2.1.length : Int) > 0)) || (decide ((st170.2.2.length : Int) > 0))) = v176 ∧ e = (18, .bool v176) :: [(7, .slice a5 st170.1.length c5), (0, .slice a7 st170.2.1.length c7), (1, .slice a9 st170.2.2.length c9), (2, vp2)] ∧ w = s173.w) ?_ ?_)))))))
 ·rintro _ _ ⟨v176, rfl, rfl, rfl⟩
  refine L.nil (X.seqN ?_)
  rcases ifS hm with ⟨hc, hm⟩ | ⟨hc, hm⟩
  ·refine E.cT rfl hc (E.skip (X.seqN (E.block (E.seqJ (fun e w => ∃ (s178 : Sig) (b177 : Bool), m_alphabet_merge_j1 p2 st170 b177 = some res170 ∧ Mv (Up N No) s s178 ∧ RowT (rK .i64) s178 (N + 0) 3 a5 c5 st170.1 ∧ RdL (rK .i64) s178 a7 c7 st170.2.1 ∧ RdL (rK .i64) s178 a9 c9 st170.2.2 ∧ FV2 Try.prog s178 vp2 (fun (x0 : Bool) (x1 : Bool) => [.bool x0, .bool x1]) (fun (r : Bool) => .bool r) p2 ∧ e = [(8, .bool b177), (7, .slice a5 st170.1.length c5), (0, .slice a7 st170.2.1.length c7), (1, .slice a9 st170.2.2.length c9), (2, vp2)] ∧ w = s178.w) ?_ ?_))))
   ·rintro _ _ ⟨s178, b177, hm, m0, h5, h7, h9, hp2, rfl, rfl⟩
    unfold m_alphabet_merge_j1 at hm
    refine E.seqJ (fun e w => ∃ (s181 : Sig) (b180 : Bool), m_alphabet_merge_j2 p2 st170 b177 b180 = some res170 ∧ Mv (Up N No) s s181 ∧ RowT (rK .i64) s181 (N + 0) 3 a5 c5 st170.1 ∧ RdL (rK .i64) s181 a7 c7 st170.2.1 ∧ RdL (rK .i64) s181 a9 c9 st170.2.2 ∧ FV2 Try.prog s181 vp2 (fun (x0 : Bool) (x1 : Bool) => [.bool x0, .bool x1]) (fun (r : Bool) => .bool r) p2 ∧ e = [(9, .bool b180), (8, .bool b177), (7, .slice a5 st170.1.length c5), (0, .slice a7 st170.2.1.length c7), (1, .slice a9 st170.2.2.length c9), (2, vp2)] ∧ w = s181.w) ?_ ?_
    ·rintro _ _ ⟨s181, b180, hm, m0, h5, h7, h9, hp2, rfl, rfl⟩
     unfold m_alphabet_merge_j2 at hm
     refine E.seq (E.reg (L.as Wt.no rfl rfl (L.nil (X.seqN (E.seqJ (fun e w => ∃ (s186 : Sig) (l183 : List Int) (n185 : Int) (a184 : Option Addr) (c184 : Nat), m_alphabet_merge_j3 p2 st170 b177 b180 l183 n185 = some res170 ∧ Mv (Up N No) s s186 ∧ RdL (rK .i64) s186 a184 c184 l183 ∧ RowT (rK .i64) s186 (N + 0) 3 a5 c5 st170.1 ∧ RdL (rK .i64) s186 a9 c9 st170.2.2 ∧ FV2 Try.prog s186 vp2 (fun (x0 : Bool) (x1 : Bool) => [.bool x0, .bool x1]) (fun (r : Bool) => .bool r) p2 ∧ e = [(0, .slice a184 l183.length c184), (10, .int .i64 n185), (9, .bool b180), (8, .bool b177), (7, .slice a5 st170.1.length c5), (1, .slice a9 st170.2.2.length c9), (2, vp2)] ∧ w = s186.w) ?_ ?_)))))
     ·rintro _ _ ⟨s186, l183, n185, a184, c184, hm, m0, h184, h5, h9, hp2, rfl, rfl⟩
      unfold m_alphabet_merge_j3 at hm
      refine E.seqJ (fun e w => ∃ (s191 : Sig) (l188 : List Int) (n190 : Int) (a189 : Option Addr) (c189 : Nat), m_alphabet_merge_j4 p2 st170 b177 b180 l183 l188 n190 = some res170 ∧ Mv (Up N No) s s191 ∧ RdL (rK .i64) s191 a189 c189 l188 ∧ RdL (rK .i64) s191 a184 c184 l183 ∧ RowT (rK .i64) s191 (N + 0) 3 a5 c5 st170.1 ∧ FV2 Try.prog s191 vp2 (fun (x0 : Bool) (x1 : Bool) => [.bool x0, .bool x1]) (fun (r : Bool) => .bool r) p2 ∧ e = [(1, .slice a189 l188.length c189), (10, .int .i64 n190), (0, .slice a184 l183.length c184), (9, .bool b180), (8, .bool b177), (7, .slice a5 st170.1.length c5), (2, vp2)] ∧ w = s191.w) ?_ ?_
      ·rintro _ _ ⟨s191, l188, n190, a189, c189, hm, m0, h189, h184, h5, hp2, rfl, rfl⟩
       unfold m_alphabet_merge_j4 at hm
       refine E.seq (E.reg (L.mv Wt.no rfl rfl (L.mv Wt.no rfl rfl (L.mv Wt.no rfl rfl ?_))))
       obtain ⟨r193, er193, hm⟩ := bindS hm
       refine L.fv2 (y := b177) (z := b180) hp2 rfl rfl Wt.no rfl rfl er193 rfl fun s194 m195 => ?_
       replace m0 := m0.trans m195.no
       replace h184 := h184.mono (m195.le no_No)
       replace h189 := h189.mono (m195.le no_No)
       replace hp2 := hp2.mono (m195.le no_No)
       replace h5 := h5.mv m195 no_No no_No
       refine L.nil (X.seqN ?_)
       rcases ifS hm with ⟨hc, hm⟩ | ⟨hc, hm⟩
       ·refine E.cT rfl hc (E.reg (L.mv Wt.no rfl rfl (L.mv Wt.no rfl rfl (L.bsE (k := 1) (cs := [.int .i64 n190]) 0 bs23 (Nat.le_of_ble_eq_true rfl) Wt.no rfl rfl rfl rfl fun b196 s197 m198 bx196 => ?_))))
        replace m0 := m0.trans m198.no
        replace h184 := h184.mono (m198.le no_No)
        replace h189 := h189.mono (m198.le no_No)
        replace hp2 := hp2.mono (m198.le no_No)
        replace h5 := h5.mv m198 no_No no_No
        have h196 := Bx.rdL (r := (rK .i64)) (xs := ([n190] : List Int)) bx196 ⟨[.int .i64 n190], _, rfl, rfl, rfl⟩ (Nat.le_of_ble_eq_true rfl)
        obtain ⟨x199, ex199, hm⟩ := bindS hm
        refine L.ap (r := (rK .i64)) Try.underlying23 el3 rfl (tgp hN) h5 h196.wk Wt.no rfl rfl ex199 rfl fun a200 c200 s201 m202 h200 => ?_
        replace m0 := m0.trans (m202.one up)
        replace h184 := h184.mono (m202.le (tg0 hN))
        replace h189 := h189.mono (m202.le (tg0 hN))
        replace hp2 := hp2.mono (m202.le (tg0 hN))
        exact L.as Wt.no rfl rfl (L.nil (X.blkN (X.sub (ih170 _ (Option.some.inj hm).symm _ _ ⟨s201, a200, c200, a184, c184, a189, c189, m0, h200, h184, h189, hp2, rfl, rfl⟩) (Sub.rf rfl))))
       ·exact E.cF rfl hc (E.skip (X.blkN (X.sub (ih170 _ (Option.some.inj hm).symm _ _ ⟨s194, a5, c5, a184, c184, a189, c189, m0, h5, h184, h189, hp2, rfl, rfl⟩) (Sub.rf rfl))))
      ·intro Jj192
       refine E.seq (E.reg (L.mv Wt.no rfl rfl (L.nil (X.seqN ?_))))
       rcases ifS hm with ⟨hc, hm⟩ | ⟨hc, hm⟩
       ·refine E.cT rfl hc ?_
        obtain ⟨x205, ex205, hm⟩ := bindS hm
        obtain ⟨x210, ex210, hm⟩ := bindS hm
        refine E.draw [[], [0], [0, 1], [], [3], [0, 1, 2], [0, 1, 2, 3, 4, 5]] (fun D e sx => Mv No s186 sx ∧ Sub [(0, .slice a184 l183.length c184), (9, .bool b180), (8, .bool b177), (7, .slice a5 st170.1.length c5), (2, vp2)] e ∧ (D 6 = false → Env.get e 1 = some (.slice a9 st170.2.2.length c9)) ∧ (D 0 = true → (Env.get e 60 = some (.slice a9 st170.2.2.length c9))) ∧ (D 1 = true → (∃ (b206 : Nat) (o206 : Nat), Env.get e 61 = some (.pointer (some ⟨b206, o206, none⟩)) ∧ Mem sx 0 b206 o206 [.int .i64 x205])) ∧ (D 2 = true → (Env.get e 62 = some (.int .i64 x205))) ∧ (D 3 = true → (Env.get e 63 = some (.slice a9 st170.2.2.length c9))) ∧ (D 4 = true → (∃ (a211 : Option Addr) (c211 : Nat), Env.get e 64 = some (.slice a211 x210.length c211) ∧ RdL (rK .i64) sx a211 c211 x210)) ∧ (D 5 = true → (Env.get e 10 = some (.int .i64 x205))) ∧ (D 6 = true → ∀ (a211 : Option Addr) (c211 : Nat), Env.get e 64 = some (.slice a211 x210.length c211) → (Env.get e 1 = some (.slice a211 x210.length c211)))) (by kernel_rfl) (by kernel_rfl) (by kernel_rfl) ?_ ?_ ?_
        ·intro sz mz
         exact ⟨mz, (Sub.rf rfl), fun _ => rfl, nofun, nofun, nofun, nofun, nofun, nofun, nofun⟩
        ·refine ⟨?_, ?_, ?_, ?_, ?_, ?_, ?_, trivial⟩
         ·rintro D e s203 ⟨im, ib, i0, i1, t_⟩ hk hf ha
          have kn : Kn e [(1, .slice a9 st170.2.2.length c9)] := ⟨(i0 (hf 6 (Nat.le_of_ble_eq_true rfl) rfl)), trivial⟩
          exact L.kns _ kn (L.mv Wt.no rfl rfl (L.nil (X.dk kn ⟨im, Sub.fresh ib rfl, i0, fun _ => rfl, t_⟩)))
         ·rintro D e s204 ⟨im, ib, i0, i1, i2, t_⟩ hk hf ha
          obtain ⟨d0, -⟩ := ha
          have g0_ := i1 d0
          have h9 := h9.mono (im.le no_No)
          have kn : Kn e [(60, .slice a9 st170.2.2.length c9)] := ⟨g0_, trivial⟩
          refine L.kns _ kn (L.ix (r := (rK .i64)) sl23 h9 Wt.no rfl rfl ex205 rfl fun b206 o206 cc206 me206 rd206 => ?_)
          obtain rfl := rd206
          exact L.nil (X.dk kn ⟨im, Sub.fresh ib rfl, i0, i1, fun _ => ⟨b206, o206, rfl, me206⟩, t_⟩)
         ·rintro D e s207 ⟨im, ib, i0, i1, i2, i3, t_⟩ hk hf ha
          obtain ⟨d0, d1, -⟩ := ha
          obtain ⟨b206, o206, g1_, me206⟩ := i2 d1
          have kn : Kn e [(61, .pointer (some ⟨b206, o206, none⟩))] := ⟨g1_, trivial⟩
          exact L.kns _ kn (L.ld (j := 0) me206 nag3 Wt.no rfl rfl rfl rfl (L.nil (X.dk kn ⟨im, Sub.fresh ib rfl, i0, i1, i2, fun _ => rfl, t_⟩)))
         ·rintro D e s208 ⟨im, ib, i0, i1, i2, i3, i4, t_⟩ hk hf ha
          have kn : Kn e [(1, .slice a9 st170.2.2.length c9)] := ⟨(i0 (hf 6 (Nat.le_of_ble_eq_true rfl) rfl)), trivial⟩
          exact L.kns _ kn (L.mv Wt.no rfl rfl (L.nil (X.dk kn ⟨im, Sub.fresh ib rfl, i0, i1, i2, i3, fun _ => rfl, t_⟩)))
         ·rintro D e s209 ⟨im, ib, i0, i1, i2, i3, i4, i5, i6, i7⟩ hk hf ha
          obtain ⟨d3, -⟩ := ha
          have g3_ := i4 d3
          have h9 := h9.mono (im.le no_No)
          have kn : Kn e [(63, .slice a9 st170.2.2.length c9)] := ⟨g3_, trivial⟩
          exact L.kns _ kn (L.sf (r := (rK .i64)) sl23 h9 Wt.no rfl rfl ex210 rfl fun a211 c211 h211 => L.nil (X.dk kn ⟨im, Sub.fresh ib rfl, i0, i1, i2, i3, i4, fun _ => ⟨a211, c211, rfl, h211⟩, i6, fun z => Bool.noConfusion ((hf 6 (Nat.le_of_ble_eq_true rfl) rfl).symm.trans z)⟩))
         ·rintro D e s212 ⟨im, ib, i0, i1, i2, i3, i4, i5, i6, i7⟩ hk hf ha
          obtain ⟨d0, d1, d2, -⟩ := ha
          have g2_ := i3 d2
          have kn : Kn e [(62, .int .i64 x205)] := ⟨g2_, trivial⟩
          exact L.kns _ kn (L.as Wt.no rfl rfl (L.nil (X.dk kn ⟨im, Sub.fresh ib rfl, i0, i1, i2, i3, i4, i5, fun _ => rfl, i7⟩)))
         ·rintro D e s213 ⟨im, ib, i0, i1, i2, i3, i4, i5, i6, i7⟩ hk hf ha
          obtain ⟨d0, d1, d2, d3, d4, d5, -⟩ := ha
          obtain ⟨a211, c211, g4_, h211⟩ := i5 d4
          have kn : Kn e [(64, .slice a211 x210.length c211)] := ⟨g4_, trivial⟩
          exact L.kns _ kn (L.as Wt.no rfl rfl (L.nil (X.dk kn ⟨im, Sub.fresh ib rfl, fun z => Bool.noConfusion (show true = false from z), i1, i2, i3, i4, i5, i6, fun _ _ _ q4 => by cases g4_.symm.trans q4; exact rfl⟩)))
        ·rintro D e s214 hD ⟨im, ib, i0, i1, i2, i3, i4, i5, i6, i7⟩
         obtain ⟨a211, c211, g4_, h211⟩ := i5 (hD 4 rfl)
         have g5_ := i6 (hD 5 rfl)
         have g6_ := i7 (hD 6 rfl) a211 c211 g4_
         have h184 := h184.mono (im.le no_No)
         have h5 := h5.mv im no_No no_No
         have hp2 := hp2.mono (im.le no_No)
         have m0 := m0.trans im.no
         refine X.sub (e' := [(1, .slice a211 x210.length c211), (10, .int .i64 x205), (0, .slice a184 l183.length c184), (9, .bool b180), (8, .bool b177), (7, .slice a5 st170.1.length c5), (2, vp2)]) ?_ (Sub.cons g6_ (Sub.cons g5_ (Sub.cons (ib 0 _ rfl) (Sub.cons (ib 9 _ rfl) (Sub.cons (ib 8 _ rfl) (Sub.cons (ib 7 _ rfl) (Sub.cons (ib 2 _ rfl) Sub.nil)))))))
         exact X.sub (Jj192 _ _ ⟨s214, x210, x205, a211, c211, hm, m0, h211, h184, h5, hp2, rfl, rfl⟩) (Sub.rf rfl)
       ·exact E.cF rfl hc (E.skip (X.sub (Jj192 _ _ ⟨s186, st170.2.2, n185, a9, c9, hm, m0, h9, h184, h5, hp2, rfl, rfl⟩) (Sub.rf rfl)))
     ·intro Jj187
      refine E.seq (E.reg (L.mv Wt.no rfl rfl (L.nil (X.seqN ?_))))
      rcases ifS hm with ⟨hc, hm⟩ | ⟨hc, hm⟩
      ·refine E.cT rfl hc ?_
       obtain ⟨x217, ex217, hm⟩ := bindS hm
       obtain ⟨x222, ex222, hm⟩ := bindS hm
       refine E.draw [[], [0], [0, 1], [], [3], [0, 1, 2], [0, 1, 2, 3, 4, 5]] (fun D e sx => Mv No s181 sx ∧ Sub [(9, .bool b180), (8, .bool b177), (7, .slice a5 st170.1.length c5), (1, .slice a9 st170.2.2.length c9), (2, vp2)] e ∧ (D 6 = false → Env.get e 0 = some (.slice a7 st170.2.1.length c7)) ∧ (D 0 = true → (Env.get e 54 = some (.slice a7 st170.2.1.length c7))) ∧ (D 1 = true → (∃ (b218 : Nat) (o218 : Nat), Env.get e 55 = some (.pointer (some ⟨b218, o218, none⟩)) ∧ Mem sx 0 b218 o218 [.int .i64 x217])) ∧ (D 2 = true → (Env.get e 56 = some (.int .i64 x217))) ∧ (D 3 = true → (Env.get e 57 = some (.slice a7 st170.2.1.length c7))) ∧ (D 4 = true → (∃ (a223 : Option Addr) (c223 : Nat), Env.get e 58 = some (.slice a223 x222.length c223) ∧ RdL (rK .i64) sx a223 c223 x222)) ∧ (D 5 = true → (Env.get e 10 = some (.int .i64 x217))) ∧ (D 6 = true → ∀ (a223 : Option Addr) (c223 : Nat), Env.get e 58 = some (.slice a223 x222.length c223) → (Env.get e 0 = some (.slice a223 x222.length c223)))) (by kernel_rfl) (by kernel_rfl) (by kernel_rfl) ?_ ?_ ?_
       ·intro sz mz
        exact ⟨mz, (Sub.rf rfl), fun _ => rfl, nofun, nofun, nofun, nofun, nofun, nofun, nofun⟩
       ·refine ⟨?_, ?_, ?_, ?_, ?_, ?_, ?_, trivial⟩
        ·rintro D e s215 ⟨im, ib, i0, i1, t_⟩ hk hf ha
         have kn : Kn e [(0, .slice a7 st170.2.1.length c7)] := ⟨(i0 (hf 6 (Nat.le_of_ble_eq_true rfl) rfl)), trivial⟩
         exact L.kns _ kn (L.mv Wt.no rfl rfl (L.nil (X.dk kn ⟨im, Sub.fresh ib rfl, i0, fun _ => rfl, t_⟩)))
        ·rintro D e s216 ⟨im, ib, i0, i1, i2, t_⟩ hk hf ha
         obtain ⟨d0, -⟩ := ha
         have g0_ := i1 d0
         have h7 := h7.mono (im.le no_No)
         have kn : Kn e [(54, .slice a7 st170.2.1.length c7)] := ⟨g0_, trivial⟩
         refine L.kns _ kn (L.ix (r := (rK .i64)) sl23 h7 Wt.no rfl rfl ex217 rfl fun b218 o218 cc218 me218 rd218 => ?_)
         obtain rfl := rd218
         exact L.nil (X.dk kn ⟨im, Sub.fresh ib rfl, i0, i1, fun _ => ⟨b218, o218, rfl, me218⟩, t_⟩)
        ·rintro D e s219 ⟨im, ib, i0, i1, i2, i3, t_⟩ hk hf ha
         obtain ⟨d0, d1, -⟩ := ha
         obtain ⟨b218, o218, g1_, me218⟩ := i2 d1
         have kn : Kn e [(55, .pointer (some ⟨b218, o218, none⟩))] := ⟨g1_, trivial⟩
         exact L.kns _ kn (L.ld (j := 0) me218 nag3 Wt.no rfl rfl rfl rfl (L.nil (X.dk kn ⟨im, Sub.fresh ib rfl, i0, i1, i2, fun _ => rfl, t_⟩)))
        ·rintro D e s220 ⟨im, ib, i0, i1, i2, i3, i4, t_⟩ hk hf ha
         have kn : Kn e [(0, .slice a7 st170.2.1.length c7)] := ⟨(i0 (hf 6 (Nat.le_of_ble_eq_true rfl) rfl)), trivial⟩
         exact L.kns _ kn (L.mv Wt.no rfl rfl (L.nil (X.dk kn ⟨im, Sub.fresh ib rfl, i0, i1, i2, i3, fun _ => rfl, t_⟩)))
        ·rintro D e s221 ⟨im, ib, i0, i1, i2, i3, i4, i5, i6, i7⟩ hk hf ha
         obtain ⟨d3, -⟩ := ha
         have g3_ := i4 d3
         have h7 := h7.mono (im.le no_No)
         have kn : Kn e [(57, .slice a7 st170.2.1.length c7)] := ⟨g3_, trivial⟩
         exact L.kns _ kn (L.sf (r := (rK .i64)) sl23 h7 Wt.no rfl rfl ex222 rfl fun a223 c223 h223 => L.nil (X.dk kn ⟨im, Sub.fresh ib rfl, i0, i1, i2, i3, i4, fun _ => ⟨a223, c223, rfl, h223⟩, i6, fun z => Bool.noConfusion ((hf 6 (Nat.le_of_ble_eq_true rfl) rfl).symm.trans z)⟩))
        ·rintro D e s224 ⟨im, ib, i0, i1, i2, i3, i4, i5, i6, i7⟩ hk hf ha
         obtain ⟨d0, d1, d2, -⟩ := ha
         have g2_ := i3 d2
         have kn : Kn e [(56, .int .i64 x217)] := ⟨g2_, trivial⟩
         exact L.kns _ kn (L.as Wt.no rfl rfl (L.nil (X.dk kn ⟨im, Sub.fresh ib rfl, i0, i1, i2, i3, i4, i5, fun _ => rfl, i7⟩)))
        ·rintro D e s225 ⟨im, ib, i0, i1, i2, i3, i4, i5, i6, i7⟩ hk hf ha
         obtain ⟨d0, d1, d2, d3, d4, d5, -⟩ := ha
         obtain ⟨a223, c223, g4_, h223⟩ := i5 d4
         have kn : Kn e [(58, .slice a223 x222.length c223)] := ⟨g4_, trivial⟩
         exact L.kns _ kn (L.as Wt.no rfl rfl (L.nil (X.dk kn ⟨im, Sub.fresh ib rfl, fun z => Bool.noConfusion (show true = false from z), i1, i2, i3, i4, i5, i6, fun _ _ _ q4 => by cases g4_.symm.trans q4; exact rfl⟩)))
       ·rintro D e s226 hD ⟨im, ib, i0, i1, i2, i3, i4, i5, i6, i7⟩
        obtain ⟨a223, c223, g4_, h223⟩ := i5 (hD 4 rfl)
        have g5_ := i6 (hD 5 rfl)
        have g6_ := i7 (hD 6 rfl) a223 c223 g4_
        have h5 := h5.mv im no_No no_No
        have h9 := h9.mono (im.le no_No)
        have hp2 := hp2.mono (im.le no_No)
        have m0 := m0.trans im.no
        refine X.sub (e' := [(0, .slice a223 x222.length c223), (10, .int .i64 x217), (9, .bool b180), (8, .bool b177), (7, .slice a5 st170.1.length c5), (1, .slice a9 st170.2.2.length c9), (2, vp2)]) ?_ (Sub.cons g6_ (Sub.cons g5_ (Sub.cons (ib 9 _ rfl) (Sub.cons (ib 8 _ rfl) (Sub.cons (ib 7 _ rfl) (Sub.cons (ib 1 _ rfl) (Sub.cons (ib 2 _ rfl) Sub.nil)))))))
        exact X.sub (Jj187 _ _ ⟨s226, x222, x217, a223, c223, hm, m0, h223, h5, h9, hp2, rfl, rfl⟩) (Sub.rf rfl)
      ·exact E.cF rfl hc (E.skip (X.sub (Jj187 _ _ ⟨s181, st170.2.1, 0, a7, c7, hm, m0, h7, h5, h9, hp2, rfl, rfl⟩) (Sub.rf rfl)))
    ·intro Jj182
     rcases ifS hm with ⟨hc231, hm⟩ | ⟨hc231, hm⟩
     ·have _ := hN
      rcases ifS hm with ⟨hc236, hm⟩ | ⟨hc236, hm⟩
      ·have _ := hN
       refine E.draw [[], [0], [0, 1], [0, 1, 2], [0, 1, 2, 3], [0, 1, 2, 3, 4], [0, 1, 2, 3, 4, 5], [0, 1, 2, 3, 4, 5, 6], [0, 1, 2, 3, 4, 5, 6, 7], [0, 1, 2, 3, 4, 5, 6, 7, 8], [0, 1, 2, 3, 4, 5, 6, 7, 8, 9], [0, 1, 2, 3, 4, 5, 6, 7], [0, 1, 2, 3, 4, 5, 6, 7, 11], [0, 1, 2, 3, 4, 5, 6, 7, 11, 12], [0, 1, 2, 3, 4, 5, 6, 7, 8, 9, 10, 11, 12, 13], [0, 1, 2, 3, 4, 5, 6, 7, 8, 9, 10, 11, 12, 13, 14], [0, 1, 2, 3, 4, 5, 6, 7, 8, 9, 10, 11, 12, 13, 14, 15], [0, 1, 2, 3, 4, 5, 6, 7, 8, 9, 10, 11, 12, 13, 14, 15, 16]] (fun D e sx => Mv No s178 sx ∧ Sub [(8, .bool b177), (7, .slice a5 st170.1.length c5), (0, .slice a7 st170.2.1.length c7), (1, .slice a9 st170.2.2.length c9), (2, vp2)] e ∧ (D 0 = true → (Env.get e 36 = some (.slice a9 st170.2.2.length c9))) ∧ (D 1 = true → (Env.get e 37 = some (.int .i64 (st170.2.2.length : Int)))) ∧ (D 2 = true → (Env.get e 38 = some (.bool (decide ((st170.2.2.length : Int) > 0))))) ∧ (D 3 = true → (Env.get e 39 = some (.bool (decide ((st170.2.2.length : Int) > 0))))) ∧ (D 4 = true → (Env.get e 40 = some (.slice a7 st170.2.1.length c7))) ∧ (D 5 = true → (Env.get e 41 = some (.int .i64 (st170.2.1.length : Int)))) ∧ (D 6 = true → (Env.get e 42 = some (.bool ((st170.2.1.length : Int) == 0)))) ∧ (D 7 = true → (Env.get e 43 = some (.bool ((st170.2.1.length : Int) == 0)))) ∧ (D 8 = true → (Env.get e 44 = some undef)) ∧ (D 9 = true → (Env.get e 45 = some undef)) ∧ (D 10 = true → (Env.get e 46 = some undef)) ∧ (D 11 = true → (Env.get e 47 = some undef)) ∧ (D 12 = true → (Env.get e 48 = some undef)) ∧ (D 13 = true → (Env.get e 49 = some undef)) ∧ (D 14 = true → (Env.get e 50 = some undef)) ∧ (D 15 = true → (Env.get e 51 = some (.bool true))) ∧ (D 16 = true → (Env.get e 52 = some (.bool true))) ∧ (D 17 = true → (Env.get e 9 = some (.bool true)))) (by kernel_rfl) (by kernel_rfl) (by kernel_rfl) ?_ ?_ ?_
       ·intro sz mz
        exact ⟨mz, (Sub.rf rfl), nofun, nofun, nofun, nofun, nofun, nofun, nofun, nofun, nofun, nofun, nofun, nofun, nofun, nofun, nofun, nofun, nofun, nofun⟩
       ·refine ⟨?_, ?_, ?_, ?_, ?_, ?_, ?_, ?_, ?_, ?_, ?_, ?_, ?_, ?_, ?_, ?_, ?_, ?_, trivial⟩
        ·rintro D e s227 ⟨im, ib, i0, t_⟩ hk hf ha
         have kn : Kn e [(1, .slice a9 st170.2.2.length c9)] := ⟨(ib 1 _ rfl), trivial⟩
         exact L.kns _ kn (L.mv Wt.no rfl rfl (L.nil (X.dk kn ⟨im, Sub.fresh ib rfl, fun _ => rfl, t_⟩)))
        ·rintro D e s228 ⟨im, ib, i0, i1, t_⟩ hk hf ha
         obtain ⟨d0, -⟩ := ha
         have g0_ := i0 d0
         have kn : Kn e [(36, .slice a9 st170.2.2.length c9)] := ⟨g0_, trivial⟩
         exact L.kns _ kn (L.len sl23 Wt.no rfl rfl (L.nil (X.dk kn ⟨im, Sub.fresh ib rfl, i0, fun _ => rfl, t_⟩)))
        ·rintro D e s229 ⟨im, ib, i0, i1, i2, t_⟩ hk hf ha
         obtain ⟨d0, d1, -⟩ := ha
         have g1_ := i1 d1
         have kn : Kn e [(37, .int .i64 (st170.2.2.length : Int))] := ⟨g1_, trivial⟩
         exact L.kns _ kn (L.bi Wt.no rfl rfl rfl rfl (L.nil (X.dk kn ⟨im, Sub.fresh ib rfl, i0, i1, fun _ => rfl, t_⟩)))
        ·rintro D e s230 ⟨im, ib, i0, i1, i2, i3, t_⟩ hk hf ha
         obtain ⟨d0, d1, d2, -⟩ := ha
         have g2_ := i2 d2
         have kn : Kn e [(38, .bool (decide ((st170.2.2.length : Int) > 0)))] := ⟨g2_, trivial⟩
         exact L.kns _ kn (L.mv Wt.no rfl rfl (L.nil (X.dk kn ⟨im, Sub.fresh ib rfl, i0, i1, i2, fun _ => rfl, t_⟩)))
        ·rintro D e s232 ⟨im, ib, i0, i1, i2, i3, i4, t_⟩ hk hf ha
         obtain ⟨d0, d1, d2, d3, -⟩ := ha
         have g3_ := i3 d3
         rw [hc231] at g3_
         have kn : Kn e [(0, .slice a7 st170.2.1.length c7), (39, .bool true)] := ⟨(ib 0 _ rfl), g3_, trivial⟩
         exact L.kns _ kn (L.mv (Wt.mk rfl rfl) rfl rfl (L.nil (X.dk kn ⟨im, Sub.fresh ib rfl, i0, i1, i2, i3, fun _ => rfl, t_⟩)))
        ·rintro D e s233 ⟨im, ib, i0, i1, i2, i3, i4, i5, t_⟩ hk hf ha
         obtain ⟨d0, d1, d2, d3, d4, -⟩ := ha
         have g3_ := i3 d3
         have g4_ := i4 d4
         rw [hc231] at g3_
         have kn : Kn e [(40, .slice a7 st170.2.1.length c7), (39, .bool true)] := ⟨g4_, g3_, trivial⟩
         exact L.kns _ kn (L.len sl23 (Wt.mk rfl rfl) rfl rfl (L.nil (X.dk kn ⟨im, Sub.fresh ib rfl, i0, i1, i2, i3, i4, fun _ => rfl, t_⟩)))
        ·rintro D e s234 ⟨im, ib, i0, i1, i2, i3, i4, i5, i6, t_⟩ hk hf ha
         obtain ⟨d0, d1, d2, d3, d4, d5, -⟩ := ha
         have g3_ := i3 d3
         have g5_ := i5 d5
         rw [hc231] at g3_
         have kn : Kn e [(41, .int .i64 (st170.2.1.length : Int)), (39, .bool true)] := ⟨g5_, g3_, trivial⟩
         exact L.kns _ kn (L.bi (Wt.mk rfl rfl) rfl rfl rfl rfl (L.nil (X.dk kn ⟨im, Sub.fresh ib rfl, i0, i1, i2, i3, i4, i5, fun _ => rfl, t_⟩)))
        ·rintro D e s235 ⟨im, ib, i0, i1, i2, i3, i4, i5, i6, i7, t_⟩ hk hf ha
         obtain ⟨d0, d1, d2, d3, d4, d5, d6, -⟩ := ha
         have g3_ := i3 d3
         have g6_ := i6 d6
         rw [hc231] at g3_
         have kn : Kn e [(42, .bool ((st170.2.1.length : Int) == 0)), (39, .bool true)] := ⟨g6_, g3_, trivial⟩
         exact L.kns _ kn (L.mv (Wt.mk rfl rfl) rfl rfl (L.nil (X.dk kn ⟨im, Sub.fresh ib rfl, i0, i1, i2, i3, i4, i5, i6, fun _ => rfl, t_⟩)))
        ·rintro D e s237 ⟨im, ib, i0, i1, i2, i3, i4, i5, i6, i7, i8, t_⟩ hk hf ha
         obtain ⟨d0, d1, d2, d3, d4, d5, d6, d7, -⟩ := ha
         have g7_ := i7 d7
         rw [hc236] at g7_
         have kn : Kn e [(1, .slice a9 st170.2.2.length c9), (43, .bool true)] := ⟨(ib 1 _ rfl), g7_, trivial⟩
         exact L.kns _ kn (L.skip rfl rfl rfl rfl (L.nil (X.dk kn ⟨im, Sub.fresh ib rfl, i0, i1, i2, i3, i4, i5, i6, i7, fun _ => rfl, t_⟩)))
        ·rintro D e s238 ⟨im, ib, i0, i1, i2, i3, i4, i5, i6, i7, i8, i9, t_⟩ hk hf ha
         obtain ⟨d0, d1, d2, d3, d4, d5, d6, d7, d8, -⟩ := ha
         have g7_ := i7 d7
         have g8_ := i8 d8
         rw [hc236] at g7_
         have kn : Kn e [(44, undef), (43, .bool true)] := ⟨g8_, g7_, trivial⟩
         exact L.kns _ kn (L.skip rfl rfl rfl rfl (L.nil (X.dk kn ⟨im, Sub.fresh ib rfl, i0, i1, i2, i3, i4, i5, i6, i7, i8, fun _ => rfl, t_⟩)))
        ·rintro D e s239 ⟨im, ib, i0, i1, i2, i3, i4, i5, i6, i7, i8, i9, i10, t_⟩ hk hf ha
         obtain ⟨d0, d1, d2, d3, d4, d5, d6, d7, d8, d9, -⟩ := ha
         have g7_ := i7 d7
         have g9_ := i9 d9
         rw [hc236] at g7_
         have kn : Kn e [(45, undef), (43, .bool true)] := ⟨g9_, g7_, trivial⟩
         exact L.kns _ kn (L.skip rfl rfl rfl rfl (L.nil (X.dk kn ⟨im, Sub.fresh ib rfl, i0, i1, i2, i3, i4, i5, i6, i7, i8, i9, fun _ => rfl, t_⟩)))
        ·rintro D e s240 ⟨im, ib, i0, i1, i2, i3, i4, i5, i6, i7, i8, i9, i10, i11, t_⟩ hk hf ha
         obtain ⟨d0, d1, d2, d3, d4, d5, d6, d7, -⟩ := ha
         have g7_ := i7 d7
         rw [hc236] at g7_
         have kn : Kn e [(0, .slice a7 st170.2.1.length c7), (43, .bool true)] := ⟨(ib 0 _ rfl), g7_, trivial⟩
         exact L.kns _ kn (L.skip rfl rfl rfl rfl (L.nil (X.dk kn ⟨im, Sub.fresh ib rfl, i0, i1, i2, i3, i4, i5, i6, i7, i8, i9, i10, fun _ => rfl, t_⟩)))
        ·rintro D e s241 ⟨im, ib, i0, i1, i2, i3, i4, i5, i6, i7, i8, i9, i10, i11, i12, t_⟩ hk hf ha
         obtain ⟨d0, d1, d2, d3, d4, d5, d6, d7, d11, -⟩ := ha
         have g7_ := i7 d7
         have g11_ := i11 d11
         rw [hc236] at g7_
         have kn : Kn e [(47, undef), (43, .bool true)] := ⟨g11_, g7_, trivial⟩
         exact L.kns _ kn (L.skip rfl rfl rfl rfl (L.nil (X.dk kn ⟨im, Sub.fresh ib rfl, i0, i1, i2, i3, i4, i5, i6, i7, i8, i9, i10, i11, fun _ => rfl, t_⟩)))
        ·rintro D e s242 ⟨im, ib, i0, i1, i2, i3, i4, i5, i6, i7, i8, i9, i10, i11, i12, i13, t_⟩ hk hf ha
         obtain ⟨d0, d1, d2, d3, d4, d5, d6, d7, d11, d12, -⟩ := ha
         have g7_ := i7 d7
         have g12_ := i12 d12
         rw [hc236] at g7_
         have kn : Kn e [(48, undef), (43, .bool true)] := ⟨g12_, g7_, trivial⟩
         exact L.kns _ kn (L.skip rfl rfl rfl rfl (L.nil (X.dk kn ⟨im, Sub.fresh ib rfl, i0, i1, i2, i3, i4, i5, i6, i7, i8, i9, i10, i11, i12, fun _ => rfl, t_⟩)))
        ·rintro D e s243 ⟨im, ib, i0, i1, i2, i3, i4, i5, i6, i7, i8, i9, i10, i11, i12, i13, i14, t_⟩ hk hf ha
         obtain ⟨d0, d1, d2, d3, d4, d5, d6, d7, d8, d9, d10, d11, d12, d13, -⟩ := ha
         have g7_ := i7 d7
         have g10_ := i10 d10
         have g13_ := i13 d13
         rw [hc236] at g7_
         have kn : Kn e [(46, undef), (49, undef), (43, .bool true)] := ⟨g10_, g13_, g7_, trivial⟩
         exact L.kns _ kn (L.skip rfl rfl rfl rfl (L.nil (X.dk kn ⟨im, Sub.fresh ib rfl, i0, i1, i2, i3, i4, i5, i6, i7, i8, i9, i10, i11, i12, i13, fun _ => rfl, t_⟩)))
        ·rintro D e s244 ⟨im, ib, i0, i1, i2, i3, i4, i5, i6, i7, i8, i9, i10, i11, i12, i13, i14, i15, t_⟩ hk hf ha
         obtain ⟨d0, d1, d2, d3, d4, d5, d6, d7, d8, d9, d10, d11, d12, d13, d14, -⟩ := ha
         have g3_ := i3 d3
         have g7_ := i7 d7
         have g14_ := i14 d14
         rw [hc236] at g7_
         rw [hc231] at g3_
         have kn : Kn e [(43, .bool true), (50, undef), (39, .bool true)] := ⟨g7_, g14_, g3_, trivial⟩
         exact L.kns _ kn (L.pkT (Wt.mk rfl rfl) rfl rfl rfl rfl (L.nil (X.dk kn ⟨im, Sub.fresh ib rfl, i0, i1, i2, i3, i4, i5, i6, i7, i8, i9, i10, i11, i12, i13, i14, fun _ => rfl, t_⟩)))
        ·rintro D e s245 ⟨im, ib, i0, i1, i2, i3, i4, i5, i6, i7, i8, i9, i10, i11, i12, i13, i14, i15, i16, i17⟩ hk hf ha
         obtain ⟨d0, d1, d2, d3, d4, d5, d6, d7, d8, d9, d10, d11, d12, d13, d14, d15, -⟩ := ha
         have g3_ := i3 d3
         have g15_ := i15 d15
         rw [hc231] at g3_
         have kn : Kn e [(39, .bool true), (51, .bool true)] := ⟨g3_, g15_, trivial⟩
         exact L.kns _ kn (L.pkT Wt.no rfl rfl rfl rfl (L.nil (X.dk kn ⟨im, Sub.fresh ib rfl, i0, i1, i2, i3, i4, i5, i6, i7, i8, i9, i10, i11, i12, i13, i14, i15, fun _ => rfl, i17⟩)))
        ·rintro D e s246 ⟨im, ib, i0, i1, i2, i3, i4, i5, i6, i7, i8, i9, i10, i11, i12, i13, i14, i15, i16, i17⟩ hk hf ha
         obtain ⟨d0, d1, d2, d3, d4, d5, d6, d7, d8, d9, d10, d11, d12, d13, d14, d15, d16, -⟩ := ha
         have g16_ := i16 d16
         have kn : Kn e [(52, .bool true)] := ⟨g16_, trivial⟩
         exact L.kns _ kn (L.as Wt.no rfl rfl (L.nil (X.dk kn ⟨im, Sub.fresh ib rfl, i0, i1, i2, i3, i4, i5, i6, i7, i8, i9, i10, i11, i12, i13, i14, i15, i16, fun _ => rfl⟩)))
       ·rintro D e s247 hD ⟨im, ib, i0, i1, i2, i3, i4, i5, i6, i7, i8, i9, i10, i11, i12, i13, i14, i15, i16, i17⟩
        have g17_ := i17 (hD 17 rfl)
        have h5 := h5.mv im no_No no_No
        have h7 := h7.mono (im.le no_No)
        have h9 := h9.mono (im.le no_No)
        have hp2 := hp2.mono (im.le no_No)
        have m0 := m0.trans im.no
        refine X.sub (e' := [(9, .bool true), (8, .bool b177), (7, .slice a5 st170.1.length c5), (0, .slice a7 st170.2.1.length c7), (1, .slice a9 st170.2.2.length c9), (2, vp2)]) ?_ (Sub.cons g17_ (Sub.cons (ib 8 _ rfl) (Sub.cons (ib 7 _ rfl) (Sub.cons (ib 0 _ rfl) (Sub.cons (ib 1 _ rfl) (Sub.cons (ib 2 _ rfl) Sub.nil))))))
        exact X.sub (Jj182 _ _ ⟨s247, true, hm, m0, h5, h7, h9, hp2, rfl, rfl⟩) (Sub.rf rfl)
      ·have _ := hN
       obtain ⟨x250, ex250, hm⟩ := bindS hm
       obtain ⟨x255, ex255, hm⟩ := bindS hm
       refine E.draw [[], [0], [0, 1], [0, 1, 2], [0, 1, 2, 3], [0, 1, 2, 3, 4], [0, 1, 2, 3, 4, 5], [0, 1, 2, 3, 4, 5, 6], [0, 1, 2, 3, 4, 5, 6, 7], [0, 1, 2, 3, 4, 5, 6, 7, 8], [0, 1, 2, 3, 4, 5, 6, 7, 8, 9], [0, 1, 2, 3, 4, 5, 6, 7], [0, 1, 2, 3, 4, 5, 6, 7, 11], [0, 1, 2, 3, 4, 5, 6, 7, 11, 12], [0, 1, 2, 3, 4, 5, 6, 7, 8, 9, 10, 11, 12, 13], [0, 1, 2, 3, 4, 5, 6, 7, 8, 9, 10, 11, 12, 13, 14], [0, 1, 2, 3, 4, 5, 6, 7, 8, 9, 10, 11, 12, 13, 14, 15], [0, 1, 2, 3, 4, 5, 6, 7, 8, 9, 10, 11, 12, 13, 14, 15, 16]] (fun D e sx => Mv No s178 sx ∧ Sub [(8, .bool b177), (7, .slice a5 st170.1.length c5), (0, .slice a7 st170.2.1.length c7), (1, .slice a9 st170.2.2.length c9), (2, vp2)] e ∧ (D 0 = true → (Env.get e 36 = some (.slice a9 st170.2.2.length c9))) ∧ (D 1 = true → (Env.get e 37 = some (.int .i64 (st170.2.2.length : Int)))) ∧ (D 2 = true → (Env.get e 38 = some (.bool (decide ((st170.2.2.length : Int) > 0))))) ∧ (D 3 = true → (Env.get e 39 = some (.bool (decide ((st170.2.2.length : Int) > 0))))) ∧ (D 4 = true → (Env.get e 40 = some (.slice a7 st170.2.1.length c7))) ∧ (D 5 = true → (Env.get e 41 = some (.int .i64 (st170.2.1.length : Int)))) ∧ (D 6 = true → (Env.get e 42 = some (.bool ((st170.2.1.length : Int) == 0)))) ∧ (D 7 = true → (Env.get e 43 = some (.bool ((st170.2.1.length : Int) == 0)))) ∧ (D 8 = true → (Env.get e 44 = some (.slice a9 st170.2.2.length c9))) ∧ (D 9 = true → (∃ (b251 : Nat) (o251 : Nat), Env.get e 45 = some (.pointer (some ⟨b251, o251, none⟩)) ∧ Mem sx 0 b251 o251 [.int .i64 x250])) ∧ (D 10 = true → (Env.get e 46 = some (.int .i64 x250))) ∧ (D 11 = true → (Env.get e 47 = some (.slice a7 st170.2.1.length c7))) ∧ (D 12 = true → (∃ (b256 : Nat) (o256 : Nat), Env.get e 48 = some (.pointer (some ⟨b256, o256, none⟩)) ∧ Mem sx 0 b256 o256 [.int .i64 x255])) ∧ (D 13 = true → (Env.get e 49 = some (.int .i64 x255))) ∧ (D 14 = true → (Env.get e 50 = some (.bool (decide (x250 ≤ x255))))) ∧ (D 15 = true → (Env.get e 51 = some (.bool (decide (x250 ≤ x255))))) ∧ (D 16 = true → (Env.get e 52 = some (.bool (decide (x250 ≤ x255))))) ∧ (D 17 = true → (Env.get e 9 = some (.bool (decide (x250 ≤ x255)))))) (by kernel_rfl) (by kernel_rfl) (by kernel_rfl) ?_ ?_ ?_
       ·intro sz mz
        exact ⟨mz, (Sub.rf rfl), nofun, nofun, nofun, nofun, nofun, nofun, nofun, nofun, nofun, nofun, nofun, nofun, nofun, nofun, nofun, nofun, nofun, nofun⟩
       ·refine ⟨?_, ?_, ?_, ?_, ?_, ?_, ?_, ?_, ?_, ?_, ?_, ?_, ?_, ?_, ?_, ?_, ?_, ?_, trivial⟩
        ·rintro D e s227 ⟨im, ib, i0, t_⟩ hk hf ha
         have kn : Kn e [(1, .slice a9 st170.2.2.length c9)] := ⟨(ib 1 _ rfl), trivial⟩
         exact L.kns _ kn (L.mv Wt.no rfl rfl (L.nil (X.dk kn ⟨im, Sub.fresh ib rfl, fun _ => rfl, t_⟩)))
        ·rintro D e s228 ⟨im, ib, i0, i1, t_⟩ hk hf ha
         obtain ⟨d0, -⟩ := ha
         have g0_ := i0 d0
         have kn : Kn e [(36, .slice a9 st170.2.2.length c9)] := ⟨g0_, trivial⟩
         exact L.kns _ kn (L.len sl23 Wt.no rfl rfl (L.nil (X.dk kn ⟨im, Sub.fresh ib rfl, i0, fun _ => rfl, t_⟩)))
        ·rintro D e s229 ⟨im, ib, i0, i1, i2, t_⟩ hk hf ha
         obtain ⟨d0, d1, -⟩ := ha
         have g1_ := i1 d1
         have kn : Kn e [(37, .int .i64 (st170.2.2.length : Int))] := ⟨g1_, trivial⟩
         exact L.kns _ kn (L.bi Wt.no rfl rfl rfl rfl (L.nil (X.dk kn ⟨im, Sub.fresh ib rfl, i0, i1, fun _ => rfl, t_⟩)))
        ·rintro D e s230 ⟨im, ib, i0, i1, i2, i3, t_⟩ hk hf ha
         obtain ⟨d0, d1, d2, -⟩ := ha
         have g2_ := i2 d2
         have kn : Kn e [(38, .bool (decide ((st170.2.2.length : Int) > 0)))] := ⟨g2_, trivial⟩
         exact L.kns _ kn (L.mv Wt.no rfl rfl (L.nil (X.dk kn ⟨im, Sub.fresh ib rfl, i0, i1, i2, fun _ => rfl, t_⟩)))
        ·rintro D e s232 ⟨im, ib, i0, i1, i2, i3, i4, t_⟩ hk hf ha
         obtain ⟨d0, d1, d2, d3, -⟩ := ha
         have g3_ := i3 d3
         rw [hc231] at g3_
         have kn : Kn e [(0, .slice a7 st170.2.1.length c7), (39, .bool true)] := ⟨(ib 0 _ rfl), g3_, trivial⟩
         exact L.kns _ kn (L.mv (Wt.mk rfl rfl) rfl rfl (L.nil (X.dk kn ⟨im, Sub.fresh ib rfl, i0, i1, i2, i3, fun _ => rfl, t_⟩)))
        ·rintro D e s233 ⟨im, ib, i0, i1, i2, i3, i4, i5, t_⟩ hk hf ha
         obtain ⟨d0, d1, d2, d3, d4, -⟩ := ha
         have g3_ := i3 d3
         have g4_ := i4 d4
         rw [hc231] at g3_
         have kn : Kn e [(40, .slice a7 st170.2.1.length c7), (39, .bool true)] := ⟨g4_, g3_, trivial⟩
         exact L.kns _ kn (L.len sl23 (Wt.mk rfl rfl) rfl rfl (L.nil (X.dk kn ⟨im, Sub.fresh ib rfl, i0, i1, i2, i3, i4, fun _ => rfl, t_⟩)))
        ·rintro D e s234 ⟨im, ib, i0, i1, i2, i3, i4, i5, i6, t_⟩ hk hf ha
         obtain ⟨d0, d1, d2, d3, d4, d5, -⟩ := ha
         have g3_ := i3 d3
         have g5_ := i5 d5
         rw [hc231] at g3_
         have kn : Kn e [(41, .int .i64 (st170.2.1.length : Int)), (39, .bool true)] := ⟨g5_, g3_, trivial⟩
         exact L.kns _ kn (L.bi (Wt.mk rfl rfl) rfl rfl rfl rfl (L.nil (X.dk kn ⟨im, Sub.fresh ib rfl, i0, i1, i2, i3, i4, i5, fun _ => rfl, t_⟩)))
        ·rintro D e s235 ⟨im, ib, i0, i1, i2, i3, i4, i5, i6, i7, t_⟩ hk hf ha
         obtain ⟨d0, d1, d2, d3, d4, d5, d6, -⟩ := ha
         have g3_ := i3 d3
         have g6_ := i6 d6
         rw [hc231] at g3_
         have kn : Kn e [(42, .bool ((st170.2.1.length : Int) == 0)), (39, .bool true)] := ⟨g6_, g3_, trivial⟩
         exact L.kns _ kn (L.mv (Wt.mk rfl rfl) rfl rfl (L.nil (X.dk kn ⟨im, Sub.fresh ib rfl, i0, i1, i2, i3, i4, i5, i6, fun _ => rfl, t_⟩)))
        ·rintro D e s248 ⟨im, ib, i0, i1, i2, i3, i4, i5, i6, i7, i8, t_⟩ hk hf ha
         obtain ⟨d0, d1, d2, d3, d4, d5, d6, d7, -⟩ := ha
         have g7_ := i7 d7
         rw [hc236] at g7_
         have kn : Kn e [(1, .slice a9 st170.2.2.length c9), (43, .bool false)] := ⟨(ib 1 _ rfl), g7_, trivial⟩
         exact L.kns _ kn (L.mv (Wt.mk rfl rfl) rfl rfl (L.nil (X.dk kn ⟨im, Sub.fresh ib rfl, i0, i1, i2, i3, i4, i5, i6, i7, fun _ => rfl, t_⟩)))
        ·rintro D e s249 ⟨im, ib, i0, i1, i2, i3, i4, i5, i6, i7, i8, i9, t_⟩ hk hf ha
         obtain ⟨d0, d1, d2, d3, d4, d5, d6, d7, d8, -⟩ := ha
         have g7_ := i7 d7
         have g8_ := i8 d8
         have h9 := h9.mono (im.le no_No)
         rw [hc236] at g7_
         have kn : Kn e [(44, .slice a9 st170.2.2.length c9), (43, .bool false)] := ⟨g8_, g7_, trivial⟩
         refine L.kns _ kn (L.ix (r := (rK .i64)) sl23 h9 (Wt.mk rfl rfl) rfl rfl ex250 rfl fun b251 o251 cc251 me251 rd251 => ?_)
         obtain rfl := rd251
         exact L.nil (X.dk kn ⟨im, Sub.fresh ib rfl, i0, i1, i2, i3, i4, i5, i6, i7, i8, fun _ => ⟨b251, o251, rfl, me251⟩, t_⟩)
        ·rintro D e s252 ⟨im, ib, i0, i1, i2, i3, i4, i5, i6, i7, i8, i9, i10, t_⟩ hk hf ha
         obtain ⟨d0, d1, d2, d3, d4, d5, d6, d7, d8, d9, -⟩ := ha
         have g7_ := i7 d7
         obtain ⟨b251, o251, g9_, me251⟩ := i9 d9
         rw [hc236] at g7_
         have kn : Kn e [(45, .pointer (some ⟨b251, o251, none⟩)), (43, .bool false)] := ⟨g9_, g7_, trivial⟩
         exact L.kns _ kn (L.ld (j := 0) me251 nag3 (Wt.mk rfl rfl) rfl rfl rfl rfl (L.nil (X.dk kn ⟨im, Sub.fresh ib rfl, i0, i1, i2, i3, i4, i5, i6, i7, i8, i9, fun _ => rfl, t_⟩)))
        ·rintro D e s253 ⟨im, ib, i0, i1, i2, i3, i4, i5, i6, i7, i8, i9, i10, i11, t_⟩ hk hf ha
         obtain ⟨d0, d1, d2, d3, d4, d5, d6, d7, -⟩ := ha
         have g7_ := i7 d7
         rw [hc236] at g7_
         have kn : Kn e [(0, .slice a7 st170.2.1.length c7), (43, .bool false)] := ⟨(ib 0 _ rfl), g7_, trivial⟩
         exact L.kns _ kn (L.mv (Wt.mk rfl rfl) rfl rfl (L.nil (X.dk kn ⟨im, Sub.fresh ib rfl, i0, i1, i2, i3, i4, i5, i6, i7, i8, i9, i10, fun _ => rfl, t_⟩)))
        ·rintro D e s254 ⟨im, ib, i0, i1, i2, i3, i4, i5, i6, i7, i8, i9, i10, i11, i12, t_⟩ hk hf ha
         obtain ⟨d0, d1, d2, d3, d4, d5, d6, d7, d11, -⟩ := ha
         have g7_ := i7 d7
         have g11_ := i11 d11
         have h7 := h7.mono (im.le no_No)
         rw [hc236] at g7_
         have kn : Kn e [(47, .slice a7 st170.2.1.length c7), (43, .bool false)] := ⟨g11_, g7_, trivial⟩
         refine L.kns _ kn (L.ix (r := (rK .i64)) sl23 h7 (Wt.mk rfl rfl) rfl rfl ex255 rfl fun b256 o256 cc256 me256 rd256 => ?_)
         obtain rfl := rd256
         exact L.nil (X.dk kn ⟨im, Sub.fresh ib rfl, i0, i1, i2, i3, i4, i5, i6, i7, i8, i9, i10, i11, fun _ => ⟨b256, o256, rfl, me256⟩, t_⟩)
        ·rintro D e s257 ⟨im, ib, i0, i1, i2, i3, i4, i5, i6, i7, i8, i9, i10, i11, i12, i13, t_⟩ hk hf ha
         obtain ⟨d0, d1, d2, d3, d4, d5, d6, d7, d11, d12, -⟩ := ha
         have g7_ := i7 d7
         obtain ⟨b256, o256, g12_, me256⟩ := i12 d12
         rw [hc236] at g7_
         have kn : Kn e [(48, .pointer (some ⟨b256, o256, none⟩)), (43, .bool false)] := ⟨g12_, g7_, trivial⟩
         exact L.kns _ kn (L.ld (j := 0) me256 nag3 (Wt.mk rfl rfl) rfl rfl rfl rfl (L.nil (X.dk kn ⟨im, Sub.fresh ib rfl, i0, i1, i2, i3, i4, i5, i6, i7, i8, i9, i10, i11, i12, fun _ => rfl, t_⟩)))
        ·rintro D e s258 ⟨im, ib, i0, i1, i2, i3, i4, i5, i6, i7, i8, i9, i10, i11, i12, i13, i14, t_⟩ hk hf ha
         obtain ⟨d0, d1, d2, d3, d4, d5, d6, d7, d8, d9, d10, d11, d12, d13, -⟩ := ha
         have g7_ := i7 d7
         have g10_ := i10 d10
         have g13_ := i13 d13
         rw [hc236] at g7_
         have kn : Kn e [(46, .int .i64 x250), (49, .int .i64 x255), (43, .bool false)] := ⟨g10_, g13_, g7_, trivial⟩
         exact L.kns _ kn (L.bi (Wt.mk rfl rfl) rfl rfl rfl rfl (L.nil (X.dk kn ⟨im, Sub.fresh ib rfl, i0, i1, i2, i3, i4, i5, i6, i7, i8, i9, i10, i11, i12, i13, fun _ => rfl, t_⟩)))
        ·rintro D e s259 ⟨im, ib, i0, i1, i2, i3, i4, i5, i6, i7, i8, i9, i10, i11, i12, i13, i14, i15, t_⟩ hk hf ha
         obtain ⟨d0, d1, d2, d3, d4, d5, d6, d7, d8, d9, d10, d11, d12, d13, d14, -⟩ := ha
         have g3_ := i3 d3
         have g7_ := i7 d7
         have g14_ := i14 d14
         rw [hc236] at g7_
         rw [hc231] at g3_
         have kn : Kn e [(43, .bool false), (50, .bool (decide (x250 ≤ x255))), (39, .bool true)] := ⟨g7_, g14_, g3_, trivial⟩
         exact L.kns _ kn (L.pkF (Wt.mk rfl rfl) rfl rfl rfl rfl (L.nil (X.dk kn ⟨im, Sub.fresh ib rfl, i0, i1, i2, i3, i4, i5, i6, i7, i8, i9, i10, i11, i12, i13, i14, fun _ => rfl, t_⟩)))
        ·rintro D e s260 ⟨im, ib, i0, i1, i2, i3, i4, i5, i6, i7, i8, i9, i10, i11, i12, i13, i14, i15, i16, i17⟩ hk hf ha
         obtain ⟨d0, d1, d2, d3, d4, d5, d6, d7, d8, d9, d10, d11, d12, d13, d14, d15, -⟩ := ha
         have g3_ := i3 d3
         have g15_ := i15 d15
         rw [hc231] at g3_
         have kn : Kn e [(39, .bool true), (51, .bool (decide (x250 ≤ x255)))] := ⟨g3_, g15_, trivial⟩
         exact L.kns _ kn (L.pkT Wt.no rfl rfl rfl rfl (L.nil (X.dk kn ⟨im, Sub.fresh ib rfl, i0, i1, i2, i3, i4, i5, i6, i7, i8, i9, i10, i11, i12, i13, i14, i15, fun _ => rfl, i17⟩)))
        ·rintro D e s261 ⟨im, ib, i0, i1, i2, i3, i4, i5, i6, i7, i8, i9, i10, i11, i12, i13, i14, i15, i16, i17⟩ hk hf ha
         obtain ⟨d0, d1, d2, d3, d4, d5, d6, d7, d8, d9, d10, d11, d12, d13, d14, d15, d16, -⟩ := ha
         have g16_ := i16 d16
         have kn : Kn e [(52, .bool (decide (x250 ≤ x255)))] := ⟨g16_, trivial⟩
         exact L.kns _ kn (L.as Wt.no rfl rfl (L.nil (X.dk kn ⟨im, Sub.fresh ib rfl, i0, i1, i2, i3, i4, i5, i6, i7, i8, i9, i10, i11, i12, i13, i14, i15, i16, fun _ => rfl⟩)))
       ·rintro D e s262 hD ⟨im, ib, i0, i1, i2, i3, i4, i5, i6, i7, i8, i9, i10, i11, i12, i13, i14, i15, i16, i17⟩
        have g17_ := i17 (hD 17 rfl)
        have h5 := h5.mv im no_No no_No
        have h7 := h7.mono (im.le no_No)
        have h9 := h9.mono (im.le no_No)
        have hp2 := hp2.mono (im.le no_No)
        have m0 := m0.trans im.no
        refine X.sub (e' := [(9, .bool (decide (x250 ≤ x255))), (8, .bool b177), (7, .slice a5 st170.1.length c5), (0, .slice a7 st170.2.1.length c7), (1, .slice a9 st170.2.2.length c9), (2, vp2)]) ?_ (Sub.cons g17_ (Sub.cons (ib 8 _ rfl) (Sub.cons (ib 7 _ rfl) (Sub.cons (ib 0 _ rfl) (Sub.cons (ib 1 _ rfl) (Sub.cons (ib 2 _ rfl) Sub.nil))))))
        exact X.sub (Jj182 _ _ ⟨s262, (decide (x250 ≤ x255)), hm, m0, h5, h7, h9, hp2, rfl, rfl⟩) (Sub.rf rfl)
     ·have _ := hN
      refine E.draw [[], [0], [0, 1], [0, 1, 2], [0, 1, 2, 3], [0, 1, 2, 3, 4], [0, 1, 2, 3, 4, 5], [0, 1, 2, 3, 4, 5, 6], [0, 1, 2, 3, 4, 5, 6, 7], [0, 1, 2, 3, 4, 5, 6, 7, 8], [0, 1, 2, 3, 4, 5, 6, 7, 8, 9], [0, 1, 2, 3, 4, 5, 6, 7], [0, 1, 2, 3, 4, 5, 6, 7, 11], [0, 1, 2, 3, 4, 5, 6, 7, 11, 12], [0, 1, 2, 3, 4, 5, 6, 7, 8, 9, 10, 11, 12, 13], [0, 1, 2, 3, 4, 5, 6, 7, 8, 9, 10, 11, 12, 13, 14], [0, 1, 2, 3, 4, 5, 6, 7, 8, 9, 10, 11, 12, 13, 14, 15], [0, 1, 2, 3, 4, 5, 6, 7, 8, 9, 10, 11, 12, 13, 14, 15, 16]] (fun D e sx => Mv No s178 sx ∧ Sub [(8, .bool b177), (7, .slice a5 st170.1.length c5), (0, .slice a7 st170.2.1.length c7), (1, .slice a9 st170.2.2.length c9), (2, vp2)] e ∧ (D 0 = true → (Env.get e 36 = some (.slice a9 st170.2.2.length c9))) ∧ (D 1 = true → (Env.get e 37 = some (.int .i64 (st170.2.2.length : Int)))) ∧ (D 2 = true → (Env.get e 38 = some (.bool (decide ((st170.2.2.length : Int) > 0))))) ∧ (D 3 = true → (Env.get e 39 = some (.bool (decide ((st170.2.2.length : Int) > 0))))) ∧ (D 4 = true → (Env.get e 40 = some undef)) ∧ (D 5 = true → (Env.get e 41 = some undef)) ∧ (D 6 = true → (Env.get e 42 = some undef)) ∧ (D 7 = true → (Env.get e 43 = some undef)) ∧ (D 8 = true → (Env.get e 44 = some undef)) ∧ (D 9 = true → (Env.get e 45 = some undef)) ∧ (D 10 = true → (Env.get e 46 = some undef)) ∧ (D 11 = true → (Env.get e 47 = some undef)) ∧ (D 12 = true → (Env.get e 48 = some undef)) ∧ (D 13 = true → (Env.get e 49 = some undef)) ∧ (D 14 = true → (Env.get e 50 = some undef)) ∧ (D 15 = true → (Env.get e 51 = some undef)) ∧ (D 16 = true → (Env.get e 52 = some (.bool false))) ∧ (D 17 = true → (Env.get e 9 = some (.bool false)))) (by kernel_rfl) (by kernel_rfl) (by kernel_rfl) ?_ ?_ ?_
      ·intro sz mz
       exact ⟨mz, (Sub.rf rfl), nofun, nofun, nofun, nofun, nofun, nofun, nofun, nofun, nofun, nofun, nofun, nofun, nofun, nofun, nofun, nofun, nofun, nofun⟩
      ·refine ⟨?_, ?_, ?_, ?_, ?_, ?_, ?_, ?_, ?_, ?_, ?_, ?_, ?_, ?_, ?_, ?_, ?_, ?_, trivial⟩
       ·rintro D e s227 ⟨im, ib, i0, t_⟩ hk hf ha
        have kn : Kn e [(1, .slice a9 st170.2.2.length c9)] := ⟨(ib 1 _ rfl), trivial⟩
        exact L.kns _ kn (L.mv Wt.no rfl rfl (L.nil (X.dk kn ⟨im, Sub.fresh ib rfl, fun _ => rfl, t_⟩)))
       ·rintro D e s228 ⟨im, ib, i0, i1, t_⟩ hk hf ha
        obtain ⟨d0, -⟩ := ha
        have g0_ := i0 d0
        have kn : Kn e [(36, .slice a9 st170.2.2.length c9)] := ⟨g0_, trivial⟩
        exact L.kns _ kn (L.len sl23 Wt.no rfl rfl (L.nil (X.dk kn ⟨im, Sub.fresh ib rfl, i0, fun _ => rfl, t_⟩)))
       ·rintro D e s229 ⟨im, ib, i0, i1, i2, t_⟩ hk hf ha
        obtain ⟨d0, d1, -⟩ := ha
        have g1_ := i1 d1
        have kn : Kn e [(37, .int .i64 (st170.2.2.length : Int))] := ⟨g1_, trivial⟩
        exact L.kns _ kn (L.bi Wt.no rfl rfl rfl rfl (L.nil (X.dk kn ⟨im, Sub.fresh ib rfl, i0, i1, fun _ => rfl, t_⟩)))
       ·rintro D e s230 ⟨im, ib, i0, i1, i2, i3, t_⟩ hk hf ha
        obtain ⟨d0, d1, d2, -⟩ := ha
        have g2_ := i2 d2
        have kn : Kn e [(38, .bool (decide ((st170.2.2.length : Int) > 0)))] := ⟨g2_, trivial⟩
        exact L.kns _ kn (L.mv Wt.no rfl rfl (L.nil (X.dk kn ⟨im, Sub.fresh ib rfl, i0, i1, i2, fun _ => rfl, t_⟩)))
       ·rintro D e s263 ⟨im, ib, i0, i1, i2, i3, i4, t_⟩ hk hf ha
        obtain ⟨d0, d1, d2, d3, -⟩ := ha
        have g3_ := i3 d3
        rw [hc231] at g3_
        have kn : Kn e [(0, .slice a7 st170.2.1.length c7), (39, .bool false)] := ⟨(ib 0 _ rfl), g3_, trivial⟩
        exact L.kns _ kn (L.skip rfl rfl rfl rfl (L.nil (X.dk kn ⟨im, Sub.fresh ib rfl, i0, i1, i2, i3, fun _ => rfl, t_⟩)))
       ·rintro D e s264 ⟨im, ib, i0, i1, i2, i3, i4, i5, t_⟩ hk hf ha
        obtain ⟨d0, d1, d2, d3, d4, -⟩ := ha
        have g3_ := i3 d3
        have g4_ := i4 d4
        rw [hc231] at g3_
        have kn : Kn e [(40, undef), (39, .bool false)] := ⟨g4_, g3_, trivial⟩
        exact L.kns _ kn (L.skip rfl rfl rfl rfl (L.nil (X.dk kn ⟨im, Sub.fresh ib rfl, i0, i1, i2, i3, i4, fun _ => rfl, t_⟩)))
       ·rintro D e s265 ⟨im, ib, i0, i1, i2, i3, i4, i5, i6, t_⟩ hk hf ha
        obtain ⟨d0, d1, d2, d3, d4, d5, -⟩ := ha
        have g3_ := i3 d3
        have g5_ := i5 d5
        rw [hc231] at g3_
        have kn : Kn e [(41, undef), (39, .bool false)] := ⟨g5_, g3_, trivial⟩
        exact L.kns _ kn (L.skip rfl rfl rfl rfl (L.nil (X.dk kn ⟨im, Sub.fresh ib rfl, i0, i1, i2, i3, i4, i5, fun _ => rfl, t_⟩)))
       ·rintro D e s266 ⟨im, ib, i0, i1, i2, i3, i4, i5, i6, i7, t_⟩ hk hf ha
        obtain ⟨d0, d1, d2, d3, d4, d5, d6, -⟩ := ha
        have g3_ := i3 d3
        have g6_ := i6 d6
        rw [hc231] at g3_
        have kn : Kn e [(42, undef), (39, .bool false)] := ⟨g6_, g3_, trivial⟩
        exact L.kns _ kn (L.skip rfl rfl rfl rfl (L.nil (X.dk kn ⟨im, Sub.fresh ib rfl, i0, i1, i2, i3, i4, i5, i6, fun _ => rfl, t_⟩)))
       ·rintro D e s267 ⟨im, ib, i0, i1, i2, i3, i4, i5, i6, i7, i8, t_⟩ hk hf ha
        obtain ⟨d0, d1, d2, d3, d4, d5, d6, d7, -⟩ := ha
        have g7_ := i7 d7
        have kn : Kn e [(1, .slice a9 st170.2.2.length c9), (43, undef)] := ⟨(ib 1 _ rfl), g7_, trivial⟩
        exact L.kns _ kn (L.skipU rfl rfl rfl (L.nil (X.dk kn ⟨im, Sub.fresh ib rfl, i0, i1, i2, i3, i4, i5, i6, i7, fun _ => rfl, t_⟩)))
       ·rintro D e s268 ⟨im, ib, i0, i1, i2, i3, i4, i5, i6, i7, i8, i9, t_⟩ hk hf ha
        obtain ⟨d0, d1, d2, d3, d4, d5, d6, d7, d8, -⟩ := ha
        have g7_ := i7 d7
        have g8_ := i8 d8
        have kn : Kn e [(44, undef), (43, undef)] := ⟨g8_, g7_, trivial⟩
        exact L.kns _ kn (L.skipU rfl rfl rfl (L.nil (X.dk kn ⟨im, Sub.fresh ib rfl, i0, i1, i2, i3, i4, i5, i6, i7, i8, fun _ => rfl, t_⟩)))
       ·rintro D e s269 ⟨im, ib, i0, i1, i2, i3, i4, i5, i6, i7, i8, i9, i10, t_⟩ hk hf ha
        obtain ⟨d0, d1, d2, d3, d4, d5, d6, d7, d8, d9, -⟩ := ha
        have g7_ := i7 d7
        have g9_ := i9 d9
        have kn : Kn e [(45, undef), (43, undef)] := ⟨g9_, g7_, trivial⟩
        exact L.kns _ kn (L.skipU rfl rfl rfl (L.nil (X.dk kn ⟨im, Sub.fresh ib rfl, i0, i1, i2, i3, i4, i5, i6, i7, i8, i9, fun _ => rfl, t_⟩)))
       ·rintro D e s270 ⟨im, ib, i0, i1, i2, i3, i4, i5, i6, i7, i8, i9, i10, i11, t_⟩ hk hf ha
        obtain ⟨d0, d1, d2, d3, d4, d5, d6, d7, -⟩ := ha
        have g7_ := i7 d7
        have kn : Kn e [(0, .slice a7 st170.2.1.length c7), (43, undef)] := ⟨(ib 0 _ rfl), g7_, trivial⟩
        exact L.kns _ kn (L.skipU rfl rfl rfl (L.nil (X.dk kn ⟨im, Sub.fresh ib rfl, i0, i1, i2, i3, i4, i5, i6, i7, i8, i9, i10, fun _ => rfl, t_⟩)))
       ·rintro D e s271 ⟨im, ib, i0, i1, i2, i3, i4, i5, i6, i7, i8, i9, i10, i11, i12, t_⟩ hk hf ha
        obtain ⟨d0, d1, d2, d3, d4, d5, d6, d7, d11, -⟩ := ha
        have g7_ := i7 d7
        have g11_ := i11 d11
        have kn : Kn e [(47, undef), (43, undef)] := ⟨g11_, g7_, trivial⟩
        exact L.kns _ kn (L.skipU rfl rfl rfl (L.nil (X.dk kn ⟨im, Sub.fresh ib rfl, i0, i1, i2, i3, i4, i5, i6, i7, i8, i9, i10, i11, fun _ => rfl, t_⟩)))
       ·rintro D e s272 ⟨im, ib, i0, i1, i2, i3, i4, i5, i6, i7, i8, i9, i10, i11, i12, i13, t_⟩ hk hf ha
        obtain ⟨d0, d1, d2, d3, d4, d5, d6, d7, d11, d12, -⟩ := ha
        have g7_ := i7 d7
        have g12_ := i12 d12
        have kn : Kn e [(48, undef), (43, undef)] := ⟨g12_, g7_, trivial⟩
        exact L.kns _ kn (L.skipU rfl rfl rfl (L.nil (X.dk kn ⟨im, Sub.fresh ib rfl, i0, i1, i2, i3, i4, i5, i6, i7, i8, i9, i10, i11, i12, fun _ => rfl, t_⟩)))
       ·rintro D e s273 ⟨im, ib, i0, i1, i2, i3, i4, i5, i6, i7, i8, i9, i10, i11, i12, i13, i14, t_⟩ hk hf ha
        obtain ⟨d0, d1, d2, d3, d4, d5, d6, d7, d8, d9, d10, d11, d12, d13, -⟩ := ha
        have g7_ := i7 d7
        have g10_ := i10 d10
        have g13_ := i13 d13
        have kn : Kn e [(46, undef), (49, undef), (43, undef)] := ⟨g10_, g13_, g7_, trivial⟩
        exact L.kns _ kn (L.skipU rfl rfl rfl (L.nil (X.dk kn ⟨im, Sub.fresh ib rfl, i0, i1, i2, i3, i4, i5, i6, i7, i8, i9, i10, i11, i12, i13, fun _ => rfl, t_⟩)))
       ·rintro D e s274 ⟨im, ib, i0, i1, i2, i3, i4, i5, i6, i7, i8, i9, i10, i11, i12, i13, i14, i15, t_⟩ hk hf ha
        obtain ⟨d0, d1, d2, d3, d4, d5, d6, d7, d8, d9, d10, d11, d12, d13, d14, -⟩ := ha
        have g3_ := i3 d3
        have g7_ := i7 d7
        have g14_ := i14 d14
        rw [hc231] at g3_
        have kn : Kn e [(43, undef), (50, undef), (39, .bool false)] := ⟨g7_, g14_, g3_, trivial⟩
        exact L.kns _ kn (L.skip rfl rfl rfl rfl (L.nil (X.dk kn ⟨im, Sub.fresh ib rfl, i0, i1, i2, i3, i4, i5, i6, i7, i8, i9, i10, i11, i12, i13, i14, fun _ => rfl, t_⟩)))
       ·rintro D e s275 ⟨im, ib, i0, i1, i2, i3, i4, i5, i6, i7, i8, i9, i10, i11, i12, i13, i14, i15, i16, i17⟩ hk hf ha
        obtain ⟨d0, d1, d2, d3, d4, d5, d6, d7, d8, d9, d10, d11, d12, d13, d14, d15, -⟩ := ha
        have g3_ := i3 d3
        have g15_ := i15 d15
        rw [hc231] at g3_
        have kn : Kn e [(39, .bool false), (51, undef)] := ⟨g3_, g15_, trivial⟩
        exact L.kns _ kn (L.pkF Wt.no rfl rfl rfl rfl (L.nil (X.dk kn ⟨im, Sub.fresh ib rfl, i0, i1, i2, i3, i4, i5, i6, i7, i8, i9, i10, i11, i12, i13, i14, i15, fun _ => rfl, i17⟩)))
       ·rintro D e s276 ⟨im, ib, i0, i1, i2, i3, i4, i5, i6, i7, i8, i9, i10, i11, i12, i13, i14, i15, i16, i17⟩ hk hf ha
        obtain ⟨d0, d1, d2, d3, d4, d5, d6, d7, d8, d9, d10, d11, d12, d13, d14, d15, d16, -⟩ := ha
        have g16_ := i16 d16
        have kn : Kn e [(52, .bool false)] := ⟨g16_, trivial⟩
        exact L.kns _ kn (L.as Wt.no rfl rfl (L.nil (X.dk kn ⟨im, Sub.fresh ib rfl, i0, i1, i2, i3, i4, i5, i6, i7, i8, i9, i10, i11, i12, i13, i14, i15, i16, fun _ => rfl⟩)))
      ·rintro D e s277 hD ⟨im, ib, i0, i1, i2, i3, i4, i5, i6, i7, i8, i9, i10, i11, i12, i13, i14, i15, i16, i17⟩
       have g17_ := i17 (hD 17 rfl)
       have h5 := h5.mv im no_No no_No
       have h7 := h7.mono (im.le no_No)
       have h9 := h9.mono (im.le no_No)
       have hp2 := hp2.mono (im.le no_No)
       have m0 := m0.trans im.no
       refine X.sub (e' := [(9, .bool false), (8, .bool b177), (7, .slice a5 st170.1.length c5), (0, .slice a7 st170.2.1.length c7), (1, .slice a9 st170.2.2.length c9), (2, vp2)]) ?_ (Sub.cons g17_ (Sub.cons (ib 8 _ rfl) (Sub.cons (ib 7 _ rfl) (Sub.cons (ib 0 _ rfl) (Sub.cons (ib 1 _ rfl) (Sub.cons (ib 2 _ rfl) Sub.nil))))))
       exact X.sub (Jj182 _ _ ⟨s277, false, hm, m0, h5, h7, h9, hp2, rfl, rfl⟩) (Sub.rf rfl)
   ·intro Jj179
    rcases ifS hm with ⟨hc282, hm⟩ | ⟨hc282, hm⟩
    ·have _ := hN
     rcases ifS hm with ⟨hc287, hm⟩ | ⟨hc287, hm⟩
     ·have _ := hN
      refine E.draw [[], [0], [0, 1], [0, 1, 2], [0, 1, 2, 3], [0, 1, 2, 3, 4], [0, 1, 2, 3, 4, 5], [0, 1, 2, 3, 4, 5, 6], [0, 1, 2, 3, 4, 5, 6, 7], [0, 1, 2, 3, 4, 5, 6, 7, 8], [0, 1, 2, 3, 4, 5, 6, 7, 8, 9], [0, 1, 2, 3, 4, 5, 6, 7], [0, 1, 2, 3, 4, 5, 6, 7, 11], [0, 1, 2, 3, 4, 5, 6, 7, 11, 12], [0, 1, 2, 3, 4, 5, 6, 7, 8, 9, 10, 11, 12, 13], [0, 1, 2, 3, 4, 5, 6, 7, 8, 9, 10, 11, 12, 13, 14], [0, 1, 2, 3, 4, 5, 6, 7, 8, 9, 10, 11, 12, 13, 14, 15], [0, 1, 2, 3, 4, 5, 6, 7, 8, 9, 10, 11, 12, 13, 14, 15, 16]] (fun D e sx => Mv No s173 sx ∧ Sub [(7, .slice a5 st170.1.length c5), (0, .slice a7 st170.2.1.length c7), (1, .slice a9 st170.2.2.length c9), (2, vp2)] e ∧ (D 0 = true → (Env.get e 19 = some (.slice a7 st170.2.1.length c7))) ∧ (D 1 = true → (Env.get e 20 = some (.int .i64 (st170.2.1.length : Int)))) ∧ (D 2 = true → (Env.get e 21 = some (.bool (decide ((st170.2.1.length : Int) > 0))))) ∧ (D 3 = true → (Env.get e 22 = some (.bool (decide ((st170.2.1.length : Int) > 0))))) ∧ (D 4 = true → (Env.get e 23 = some (.slice a9 st170.2.2.length c9))) ∧ (D 5 = true → (Env.get e 24 = some (.int .i64 (st170.2.2.length : Int)))) ∧ (D 6 = true → (Env.get e 25 = some (.bool ((st170.2.2.length : Int) == 0)))) ∧ (D 7 = true → (Env.get e 26 = some (.bool ((st170.2.2.length : Int) == 0)))) ∧ (D 8 = true → (Env.get e 27 = some undef)) ∧ (D 9 = true → (Env.get e 28 = some undef)) ∧ (D 10 = true → (Env.get e 29 = some undef)) ∧ (D 11 = true → (Env.get e 30 = some undef)) ∧ (D 12 = true → (Env.get e 31 = some undef)) ∧ (D 13 = true → (Env.get e 32 = some undef)) ∧ (D 14 = true → (Env.get e 33 = some undef)) ∧ (D 15 = true → (Env.get e 34 = some (.bool true))) ∧ (D 16 = true → (Env.get e 35 = some (.bool true))) ∧ (D 17 = true → (Env.get e 8 = some (.bool true)))) (by kernel_rfl) (by kernel_rfl) (by kernel_rfl) ?_ ?_ ?_
      ·intro sz mz
       exact ⟨mz, (Sub.rf rfl), nofun, nofun, nofun, nofun, nofun, nofun, nofun, nofun, nofun, nofun, nofun, nofun, nofun, nofun, nofun, nofun, nofun, nofun⟩
      ·refine ⟨?_, ?_, ?_, ?_, ?_, ?_, ?_, ?_, ?_, ?_, ?_, ?_, ?_, ?_, ?_, ?_, ?_, ?_, trivial⟩
       ·rintro D e s278 ⟨im, ib, i0, t_⟩ hk hf ha
        have kn : Kn e [(0, .slice a7 st170.2.1.length c7)] := ⟨(ib 0 _ rfl), trivial⟩
        exact L.kns _ kn (L.mv Wt.no rfl rfl (L.nil (X.dk kn ⟨im, Sub.fresh ib rfl, fun _ => rfl, t_⟩)))
       ·rintro D e s279 ⟨im, ib, i0, i1, t_⟩ hk hf ha
        obtain ⟨d0, -⟩ := ha
        have g0_ := i0 d0
        have kn : Kn e [(19, .slice a7 st170.2.1.length c7)] := ⟨g0_, trivial⟩
        exact L.kns _ kn (L.len sl23 Wt.no rfl rfl (L.nil (X.dk kn ⟨im, Sub.fresh ib rfl, i0, fun _ => rfl, t_⟩)))
       ·rintro D e s280 ⟨im, ib, i0, i1, i2, t_⟩ hk hf ha
        obtain ⟨d0, d1, -⟩ := ha
        have g1_ := i1 d1
        have kn : Kn e [(20, .int .i64 (st170.2.1.length : Int))] := ⟨g1_, trivial⟩
        exact L.kns _ kn (L.bi Wt.no rfl rfl rfl rfl (L.nil (X.dk kn ⟨im, Sub.fresh ib rfl, i0, i1, fun _ => rfl, t_⟩)))
       ·rintro D e s281 ⟨im, ib, i0, i1, i2, i3, t_⟩ hk hf ha
        obtain ⟨d0, d1, d2, -⟩ := ha
        have g2_ := i2 d2
        have kn : Kn e [(21, .bool (decide ((st170.2.1.length : Int) > 0)))] := ⟨g2_, trivial⟩
        exact L.kns _ kn (L.mv Wt.no rfl rfl (L.nil (X.dk kn ⟨im, Sub.fresh ib rfl, i0, i1, i2, fun _ => rfl, t_⟩)))
       ·rintro D e s283 ⟨im, ib, i0, i1, i2, i3, i4, t_⟩ hk hf ha
        obtain ⟨d0, d1, d2, d3, -⟩ := ha
        have g3_ := i3 d3
        rw [hc282] at g3_
        have kn : Kn e [(1, .slice a9 st170.2.2.length c9), (22, .bool true)] := ⟨(ib 1 _ rfl), g3_, trivial⟩
        exact L.kns _ kn (L.mv (Wt.mk rfl rfl) rfl rfl (L.nil (X.dk kn ⟨im, Sub.fresh ib rfl, i0, i1, i2, i3, fun _ => rfl, t_⟩)))
       ·rintro D e s284 ⟨im, ib, i0, i1, i2, i3, i4, i5, t_⟩ hk hf ha
        obtain ⟨d0, d1, d2, d3, d4, -⟩ := ha
        have g3_ := i3 d3
        have g4_ := i4 d4
        rw [hc282] at g3_
        have kn : Kn e [(23, .slice a9 st170.2.2.length c9), (22, .bool true)] := ⟨g4_, g3_, trivial⟩
        exact L.kns _ kn (L.len sl23 (Wt.mk rfl rfl) rfl rfl (L.nil (X.dk kn ⟨im, Sub.fresh ib rfl, i0, i1, i2, i3, i4, fun _ => rfl, t_⟩)))
       ·rintro D e s285 ⟨im, ib, i0, i1, i2, i3, i4, i5, i6, t_⟩ hk hf ha
        obtain ⟨d0, d1, d2, d3, d4, d5, -⟩ := ha
        have g3_ := i3 d3
        have g5_ := i5 d5
        rw [hc282] at g3_
        have kn : Kn e [(24, .int .i64 (st170.2.2.length : Int)), (22, .bool true)] := ⟨g5_, g3_, trivial⟩
        exact L.kns _ kn (L.bi (Wt.mk rfl rfl) rfl rfl rfl rfl (L.nil (X.dk kn ⟨im, Sub.fresh ib rfl, i0, i1, i2, i3, i4, i5, fun _ => rfl, t_⟩)))
       ·rintro D e s286 ⟨im, ib, i0, i1, i2, i3, i4, i5, i6, i7, t_⟩ hk hf ha
        obtain ⟨d0, d1, d2, d3, d4, d5, d6, -⟩ := ha
        have g3_ := i3 d3
        have g6_ := i6 d6
        rw [hc282] at g3_
        have kn : Kn e [(25, .bool ((st170.2.2.length : Int) == 0)), (22, .bool true)] := ⟨g6_, g3_, trivial⟩
        exact L.kns _ kn (L.mv (Wt.mk rfl rfl) rfl rfl (L.nil (X.dk kn ⟨im, Sub.fresh ib rfl, i0, i1, i2, i3, i4, i5, i6, fun _ => rfl, t_⟩)))
       ·rintro D e s288 ⟨im, ib, i0, i1, i2, i3, i4, i5, i6, i7, i8, t_⟩ hk hf ha
        obtain ⟨d0, d1, d2, d3, d4, d5, d6, d7, -⟩ := ha
        have g7_ := i7 d7
        rw [hc287] at g7_
        have kn : Kn e [(0, .slice a7 st170.2.1.length c7), (26, .bool true)] := ⟨(ib 0 _ rfl), g7_, trivial⟩
        exact L.kns _ kn (L.skip rfl rfl rfl rfl (L.nil (X.dk kn ⟨im, Sub.fresh ib rfl, i0, i1, i2, i3, i4, i5, i6, i7, fun _ => rfl, t_⟩)))
       ·rintro D e s289 ⟨im, ib, i0, i1, i2, i3, i4, i5, i6, i7, i8, i9, t_⟩ hk hf ha
        obtain ⟨d0, d1, d2, d3, d4, d5, d6, d7, d8, -⟩ := ha
        have g7_ := i7 d7
        have g8_ := i8 d8
        rw [hc287] at g7_
        have kn : Kn e [(27, undef), (26, .bool true)] := ⟨g8_, g7_, trivial⟩
        exact L.kns _ kn (L.skip rfl rfl rfl rfl (L.nil (X.dk kn ⟨im, Sub.fresh ib rfl, i0, i1, i2, i3, i4, i5, i6, i7, i8, fun _ => rfl, t_⟩)))
       ·rintro D e s290 ⟨im, ib, i0, i1, i2, i3, i4, i5, i6, i7, i8, i9, i10, t_⟩ hk hf ha
        obtain ⟨d0, d1, d2, d3, d4, d5, d6, d7, d8, d9, -⟩ := ha
        have g7_ := i7 d7
        have g9_ := i9 d9
        rw [hc287] at g7_
        have kn : Kn e [(28, undef), (26, .bool true)] := ⟨g9_, g7_, trivial⟩
        exact L.kns _ kn (L.skip rfl rfl rfl rfl (L.nil (X.dk kn ⟨im, Sub.fresh ib rfl, i0, i1, i2, i3, i4, i5, i6, i7, i8, i9, fun _ => rfl, t_⟩)))
       ·rintro D e s291 ⟨im, ib, i0, i1, i2, i3, i4, i5, i6, i7, i8, i9, i10, i11, t_⟩ hk hf ha
        obtain ⟨d0, d1, d2, d3, d4, d5, d6, d7, -⟩ := ha
        have g7_ := i7 d7
        rw [hc287] at g7_
        have kn : Kn e [(1, .slice a9 st170.2.2.length c9), (26, .bool true)] := ⟨(ib 1 _ rfl), g7_, trivial⟩
        exact L.kns _ kn (L.skip rfl rfl rfl rfl (L.nil (X.dk kn ⟨im, Sub.fresh ib rfl, i0, i1, i2, i3, i4, i5, i6, i7, i8, i9, i10, fun _ => rfl, t_⟩)))
       ·rintro D e s292 ⟨im, ib, i0, i1, i2, i3, i4, i5, i6, i7, i8, i9, i10, i11, i12, t_⟩ hk hf ha
        obtain ⟨d0, d1, d2, d3, d4, d5, d6, d7, d11, -⟩ := ha
        have g7_ := i7 d7
        have g11_ := i11 d11
        rw [hc287] at g7_
        have kn : Kn e [(30, undef), (26, .bool true)] := ⟨g11_, g7_, trivial⟩
        exact L.kns _ kn (L.skip rfl rfl rfl rfl (L.nil (X.dk kn ⟨im, Sub.fresh ib rfl, i0, i1, i2, i3, i4, i5, i6, i7, i8, i9, i10, i11, fun _ => rfl, t_⟩)))
       ·rintro D e s293 ⟨im, ib, i0, i1, i2, i3, i4, i5, i6, i7, i8, i9, i10, i11, i12, i13, t_⟩ hk hf ha
        obtain ⟨d0, d1, d2, d3, d4, d5, d6, d7, d11, d12, -⟩ := ha
        have g7_ := i7 d7
        have g12_ := i12 d12
        rw [hc287] at g7_
        have kn : Kn e [(31, undef), (26, .bool true)] := ⟨g12_, g7_, trivial⟩
        exact L.kns _ kn (L.skip rfl rfl rfl rfl (L.nil (X.dk kn ⟨im, Sub.fresh ib rfl, i0, i1, i2, i3, i4, i5, i6, i7, i8, i9, i10, i11, i12, fun _ => rfl, t_⟩)))
       ·rintro D e s294 ⟨im, ib, i0, i1, i2, i3, i4, i5, i6, i7, i8, i9, i10, i11, i12, i13, i14, t_⟩ hk hf ha
        obtain ⟨d0, d1, d2, d3, d4, d5, d6, d7, d8, d9, d10, d11, d12, d13, -⟩ := ha
        have g7_ := i7 d7
        have g10_ := i10 d10
        have g13_ := i13 d13
        rw [hc287] at g7_
        have kn : Kn e [(29, undef), (32, undef), (26, .bool true)] := ⟨g10_, g13_, g7_, trivial⟩
        exact L.kns _ kn (L.skip rfl rfl rfl rfl (L.nil (X.dk kn ⟨im, Sub.fresh ib rfl, i0, i1, i2, i3, i4, i5, i6, i7, i8, i9, i10, i11, i12, i13, fun _ => rfl, t_⟩)))
       ·rintro D e s295 ⟨im, ib, i0, i1, i2, i3, i4, i5, i6, i7, i8, i9, i10, i11, i12, i13, i14, i15, t_⟩ hk hf ha
        obtain ⟨d0, d1, d2, d3, d4, d5, d6, d7, d8, d9, d10, d11, d12, d13, d14, -⟩ := ha
        have g3_ := i3 d3
        have g7_ := i7 d7
        have g14_ := i14 d14
        rw [hc287] at g7_
        rw [hc282] at g3_
        have kn : Kn e [(26, .bool true), (33, undef), (22, .bool true)] := ⟨g7_, g14_, g3_, trivial⟩
        exact L.kns _ kn (L.pkT (Wt.mk rfl rfl) rfl rfl rfl rfl (L.nil (X.dk kn ⟨im, Sub.fresh ib rfl, i0, i1, i2, i3, i4, i5, i6, i7, i8, i9, i10, i11, i12, i13, i14, fun _ => rfl, t_⟩)))
       ·rintro D e s296 ⟨im, ib, i0, i1, i2, i3, i4, i5, i6, i7, i8, i9, i10, i11, i12, i13, i14, i15, i16, i17⟩ hk hf ha
        obtain ⟨d0, d1, d2, d3, d4, d5, d6, d7, d8, d9, d10, d11, d12, d13, d14, d15, -⟩ := ha
        have g3_ := i3 d3
        have g15_ := i15 d15
        rw [hc282] at g3_
        have kn : Kn e [(22, .bool true), (34, .bool true)] := ⟨g3_, g15_, trivial⟩
        exact L.kns _ kn (L.pkT Wt.no rfl rfl rfl rfl (L.nil (X.dk kn ⟨im, Sub.fresh ib rfl, i0, i1, i2, i3, i4, i5, i6, i7, i8, i9, i10, i11, i12, i13, i14, i15, fun _ => rfl, i17⟩)))
       ·rintro D e s297 ⟨im, ib, i0, i1, i2, i3, i4, i5, i6, i7, i8, i9, i10, i11, i12, i13, i14, i15, i16, i17⟩ hk hf ha
        obtain ⟨d0, d1, d2, d3, d4, d5, d6, d7, d8, d9, d10, d11, d12, d13, d14, d15, d16, -⟩ := ha
        have g16_ := i16 d16
        have kn : Kn e [(35, .bool true)] := ⟨g16_, trivial⟩
        exact L.kns _ kn (L.as Wt.no rfl rfl (L.nil (X.dk kn ⟨im, Sub.fresh ib rfl, i0, i1, i2, i3, i4, i5, i6, i7, i8, i9, i10, i11, i12, i13, i14, i15, i16, fun _ => rfl⟩)))
      ·rintro D e s298 hD ⟨im, ib, i0, i1, i2, i3, i4, i5, i6, i7, i8, i9, i10, i11, i12, i13, i14, i15, i16, i17⟩
       have g17_ := i17 (hD 17 rfl)
       have h5 := h5.mv im no_No no_No
       have h7 := h7.mono (im.le no_No)
       have h9 := h9.mono (im.le no_No)
       have hp2 := hp2.mono (im.le no_No)
       have m0 := m0.trans im.no
       refine X.sub (e' := [(8, .bool true), (7, .slice a5 st170.1.length c5), (0, .slice a7 st170.2.1.length c7), (1, .slice a9 st170.2.2.length c9), (2, vp2)]) ?_ (Sub.cons g17_ (Sub.cons (ib 7 _ rfl) (Sub.cons (ib 0 _ rfl) (Sub.cons (ib 1 _ rfl) (Sub.cons (ib 2 _ rfl) Sub.nil)))))
       exact X.sub (Jj179 _ _ ⟨s298, true, hm, m0, h5, h7, h9, hp2, rfl, rfl⟩) (Sub.rf rfl)
     ·have _ := hN
      obtain ⟨x301, ex301, hm⟩ := bindS hm
      obtain ⟨x306, ex306, hm⟩ := bindS hm
      refine E.draw [[], [0], [0, 1], [0, 1, 2], [0, 1, 2, 3], [0, 1, 2, 3, 4], [0, 1, 2, 3, 4, 5], [0, 1, 2, 3, 4, 5, 6], [0, 1, 2, 3, 4, 5, 6, 7], [0, 1, 2, 3, 4, 5, 6, 7, 8], [0, 1, 2, 3, 4, 5, 6, 7, 8, 9], [0, 1, 2, 3, 4, 5, 6, 7], [0, 1, 2, 3, 4, 5, 6, 7, 11], [0, 1, 2, 3, 4, 5, 6, 7, 11, 12], [0, 1, 2, 3, 4, 5, 6, 7, 8, 9, 10, 11, 12, 13], [0, 1, 2, 3, 4, 5, 6, 7, 8, 9, 10, 11, 12, 13, 14], [0, 1, 2, 3, 4, 5, 6, 7, 8, 9, 10, 11, 12, 13, 14, 15], [0, 1, 2, 3, 4, 5, 6, 7, 8, 9, 10, 11, 12, 13, 14, 15, 16]] (fun D e sx => Mv No s173 sx ∧ Sub [(7, .slice a5 st170.1.length c5), (0, .slice a7 st170.2.1.length c7), (1, .slice a9 st170.2.2.length c9), (2, vp2)] e ∧ (D 0 = true → (Env.get e 19 = some (.slice a7 st170.2.1.length c7))) ∧ (D 1 = true → (Env.get e 20 = some (.int .i64 (st170.2.1.length : Int)))) ∧ (D 2 = true → (Env.get e 21 = some (.bool (decide ((st170.2.1.length : Int) > 0))))) ∧ (D 3 = true → (Env.get e 22 = some (.bool (decide ((st170.2.1.length : Int) > 0))))) ∧ (D 4 = true → (Env.get e 23 = some (.slice a9 st170.2.2.length c9))) ∧ (D 5 = true → (Env.get e 24 = some (.int .i64 (st170.2.2.length : Int)))) ∧ (D 6 = true → (Env.get e 25 = some (.bool ((st170.2.2.length : Int) == 0)))) ∧ (D 7 = true → (Env.get e 26 = some (.bool ((st170.2.2.length : Int) == 0)))) ∧ (D 8 = true → (Env.get e 27 = some (.slice a7 st170.2.1.length c7))) ∧ (D 9 = true → (∃ (b302 : Nat) (o302 : Nat), Env.get e 28 = some (.pointer (some ⟨b302, o302, none⟩)) ∧ Mem sx 0 b302 o302 [.int .i64 x301])) ∧ (D 10 = true → (Env.get e 29 = some (.int .i64 x301))) ∧ (D 11 = true → (Env.get e 30 = some (.slice a9 st170.2.2.length c9))) ∧ (D 12 = true → (∃ (b307 : Nat) (o307 : Nat), Env.get e 31 = some (.pointer (some ⟨b307, o307, none⟩)) ∧ Mem sx 0 b307 o307 [.int .i64 x306])) ∧ (D 13 = true → (Env.get e 32 = some (.int .i64 x306))) ∧ (D 14 = true → (Env.get e 33 = some (.bool (decide (x301 ≤ x306))))) ∧ (D 15 = true → (Env.get e 34 = some (.bool (decide (x301 ≤ x306))))) ∧ (D 16 = true → (Env.get e 35 = some (.bool (decide (x301 ≤ x306))))) ∧ (D 17 = true → (Env.get e 8 = some (.bool (decide (x301 ≤ x306)))))) (by kernel_rfl) (by kernel_rfl) (by kernel_rfl) ?_ ?_ ?_
      ·intro sz mz
       exact ⟨mz, (Sub.rf rfl), nofun, nofun, nofun, nofun, nofun, nofun, nofun, nofun, nofun, nofun, nofun, nofun, nofun, nofun, nofun, nofun, nofun, nofun⟩
      ·refine ⟨?_, ?_, ?_, ?_, ?_, ?_, ?_, ?_, ?_, ?_, ?_, ?_, ?_, ?_, ?_, ?_, ?_, ?_, trivial⟩
       ·rintro D e s278 ⟨im, ib, i0, t_⟩ hk hf ha
        have kn : Kn e [(0, .slice a7 st170.2.1.length c7)] := ⟨(ib 0 _ rfl), trivial⟩
        exact L.kns _ kn (L.mv Wt.no rfl rfl (L.nil (X.dk kn ⟨im, Sub.fresh ib rfl, fun _ => rfl, t_⟩)))
       ·rintro D e s279 ⟨im, ib, i0, i1, t_⟩ hk hf ha
        obtain ⟨d0, -⟩ := ha
        have g0_ := i0 d0
        have kn : Kn e [(19, .slice a7 st170.2.1.length c7)] := ⟨g0_, trivial⟩
        exact L.kns _ kn (L.len sl23 Wt.no rfl rfl (L.nil (X.dk kn ⟨im, Sub.fresh ib rfl, i0, fun _ => rfl, t_⟩)))
       ·rintro D e s280 ⟨im, ib, i0, i1, i2, t_⟩ hk hf ha
        obtain ⟨d0, d1, -⟩ := ha
        have g1_ := i1 d1
        have kn : Kn e [(20, .int .i64 (st170.2.1.length : Int))] := ⟨g1_, trivial⟩
        exact L.kns _ kn (L.bi Wt.no rfl rfl rfl rfl (L.nil (X.dk kn ⟨im, Sub.fresh ib rfl, i0, i1, fun _ => rfl, t_⟩)))
       ·rintro D e s281 ⟨im, ib, i0, i1, i2, i3, t_⟩ hk hf ha
        obtain ⟨d0, d1, d2, -⟩ := ha
        have g2_ := i2 d2
        have kn : Kn e [(21, .bool (decide ((st170.2.1.length : Int) > 0)))] := ⟨g2_, trivial⟩
        exact L.kns _ kn (L.mv Wt.no rfl rfl (L.nil (X.dk kn ⟨im, Sub.fresh ib rfl, i0, i1, i2, fun _ => rfl, t_⟩)))
       ·rintro D e s283 ⟨im, ib, i0, i1, i2, i3, i4, t_⟩ hk hf ha
        obtain ⟨d0, d1, d2, d3, -⟩ := ha
        have g3_ := i3 d3
        rw [hc282] at g3_
        have kn : Kn e [(1, .slice a9 st170.2.2.length c9), (22, .bool true)] := ⟨(ib 1 _ rfl), g3_, trivial⟩
        exact L.kns _ kn (L.mv (Wt.mk rfl rfl) rfl rfl (L.nil (X.dk kn ⟨im, Sub.fresh ib rfl, i0, i1, i2, i3, fun _ => rfl, t_⟩)))
       ·rintro D e s284 ⟨im, ib, i0, i1, i2, i3, i4, i5, t_⟩ hk hf ha
        obtain ⟨d0, d1, d2, d3, d4, -⟩ := ha
        have g3_ := i3 d3
        have g4_ := i4 d4
        rw [hc282] at g3_
        have kn : Kn e [(23, .slice a9 st170.2.2.length c9), (22, .bool true)] := ⟨g4_, g3_, trivial⟩
        exact L.kns _ kn (L.len sl23 (Wt.mk rfl rfl) rfl rfl (L.nil (X.dk kn ⟨im, Sub.fresh ib rfl, i0, i1, i2, i3, i4, fun _ => rfl, t_⟩)))
       ·rintro D e s285 ⟨im, ib, i0, i1, i2, i3, i4, i5, i6, t_⟩ hk hf ha
        obtain ⟨d0, d1, d2, d3, d4, d5, -⟩ := ha
        have g3_ := i3 d3
        have g5_ := i5 d5
        rw [hc282] at g3_
        have kn : Kn e [(24, .int .i64 (st170.2.2.length : Int)), (22, .bool true)] := ⟨g5_, g3_, trivial⟩
        exact L.kns _ kn (L.bi (Wt.mk rfl rfl) rfl rfl rfl rfl (L.nil (X.dk kn ⟨im, Sub.fresh ib rfl, i0, i1, i2, i3, i4, i5, fun _ => rfl, t_⟩)))
       ·rintro D e s286 ⟨im, ib, i0, i1, i2, i3, i4, i5, i6, i7, t_⟩ hk hf ha
        obtain ⟨d0, d1, d2, d3, d4, d5, d6, -⟩ := ha
        have g3_ := i3 d3
        have g6_ := i6 d6
        rw [hc282] at g3_
        have kn : Kn e [(25, .bool ((st170.2.2.length : Int) == 0)), (22, .bool true)] := ⟨g6_, g3_, trivial⟩
        exact L.kns _ kn (L.mv (Wt.mk rfl rfl) rfl rfl (L.nil (X.dk kn ⟨im, Sub.fresh ib rfl, i0, i1, i2, i3, i4, i5, i6, fun _ => rfl, t_⟩)))
       ·rintro D e s299 ⟨im, ib, i0, i1, i2, i3, i4, i5, i6, i7, i8, t_⟩ hk hf ha
        obtain ⟨d0, d1, d2, d3, d4, d5, d6, d7, -⟩ := ha
        have g7_ := i7 d7
        rw [hc287] at g7_
        have kn : Kn e [(0, .slice a7 st170.2.1.length c7), (26, .bool false)] := ⟨(ib 0 _ rfl), g7_, trivial⟩
        exact L.kns _ kn (L.mv (Wt.mk rfl rfl) rfl rfl (L.nil (X.dk kn ⟨im, Sub.fresh ib rfl, i0, i1, i2, i3, i4, i5, i6, i7, fun _ => rfl, t_⟩)))
       ·rintro D e s300 ⟨im, ib, i0, i1, i2, i3, i4, i5, i6, i7, i8, i9, t_⟩ hk hf ha
        obtain ⟨d0, d1, d2, d3, d4, d5, d6, d7, d8, -⟩ := ha
        have g7_ := i7 d7
        have g8_ := i8 d8
        have h7 := h7.mono (im.le no_No)
        rw [hc287] at g7_
        have kn : Kn e [(27, .slice a7 st170.2.1.length c7), (26, .bool false)] := ⟨g8_, g7_, trivial⟩
        refine L.kns _ kn (L.ix (r := (rK .i64)) sl23 h7 (Wt.mk rfl rfl) rfl rfl ex301 rfl fun b302 o302 cc302 me302 rd302 => ?_)
        obtain rfl := rd302
        exact L.nil (X.dk kn ⟨im, Sub.fresh ib rfl, i0, i1, i2, i3, i4, i5, i6, i7, i8, fun _ => ⟨b302, o302, rfl, me302⟩, t_⟩)
       ·rintro D e s303 ⟨im, ib, i0, i1, i2, i3, i4, i5, i6, i7, i8, i9, i10, t_⟩ hk hf ha
        obtain ⟨d0, d1, d2, d3, d4, d5, d6, d7, d8, d9, -⟩ := ha
        have g7_ := i7 d7
        obtain ⟨b302, o302, g9_, me302⟩ := i9 d9
        rw [hc287] at g7_
        have kn : Kn e [(28, .pointer (some ⟨b302, o302, none⟩)), (26, .bool false)] := ⟨g9_, g7_, trivial⟩
        exact L.kns _ kn (L.ld (j := 0) me302 nag3 (Wt.mk rfl rfl) rfl rfl rfl rfl (L.nil (X.dk kn ⟨im, Sub.fresh ib rfl, i0, i1, i2, i3, i4, i5, i6, i7, i8, i9, fun _ => rfl, t_⟩)))
       ·rintro D e s304 ⟨im, ib, i0, i1, i2, i3, i4, i5, i6, i7, i8, i9, i10, i11, t_⟩ hk hf ha
        obtain ⟨d0, d1, d2, d3, d4, d5, d6, d7, -⟩ := ha
        have g7_ := i7 d7
        rw [hc287] at g7_
        have kn : Kn e [(1, .slice a9 st170.2.2.length c9), (26, .bool false)] := ⟨(ib 1 _ rfl), g7_, trivial⟩
        exact L.kns _ kn (L.mv (Wt.mk rfl rfl) rfl rfl (L.nil (X.dk kn ⟨im, Sub.fresh ib rfl, i0, i1, i2, i3, i4, i5, i6, i7, i8, i9, i10, fun _ => rfl, t_⟩)))
       ·rintro D e s305 ⟨im, ib, i0, i1, i2, i3, i4, i5, i6, i7, i8, i9, i10, i11, i12, t_⟩ hk hf ha
        obtain ⟨d0, d1, d2, d3, d4, d5, d6, d7, d11, -⟩ := ha
        have g7_ := i7 d7
        have g11_ := i11 d11
        have h9 := h9.mono (im.le no_No)
        rw [hc287] at g7_
        have kn : Kn e [(30, .slice a9 st170.2.2.length c9), (26, .bool false)] := ⟨g11_, g7_, trivial⟩
        refine L.kns _ kn (L.ix (r := (rK .i64)) sl23 h9 (Wt.mk rfl rfl) rfl rfl ex306 rfl fun b307 o307 cc307 me307 rd307 => ?_)
        obtain rfl := rd307
        exact L.nil (X.dk kn ⟨im, Sub.fresh ib rfl, i0, i1, i2, i3, i4, i5, i6, i7, i8, i9, i10, i11, fun _ => ⟨b307, o307, rfl, me307⟩, t_⟩)
       ·rintro D e s308 ⟨im, ib, i0, i1, i2, i3, i4, i5, i6, i7, i8, i9, i10, i11, i12, i13, t_⟩ hk hf ha
        obtain ⟨d0, d1, d2, d3, d4, d5, d6, d7, d11, d12, -⟩ := ha
        have g7_ := i7 d7
        obtain ⟨b307, o307, g12_, me307⟩ := i12 d12
        rw [hc287] at g7_
        have kn : Kn e [(31, .pointer (some ⟨b307, o307, none⟩)), (26, .bool false)] := ⟨g12_, g7_, trivial⟩
        exact L.kns _ kn (L.ld (j := 0) me307 nag3 (Wt.mk rfl rfl) rfl rfl rfl rfl (L.nil (X.dk kn ⟨im, Sub.fresh ib rfl, i0, i1, i2, i3, i4, i5, i6, i7, i8, i9, i10, i11, i12, fun _ => rfl, t_⟩)))
       ·rintro D e s309 ⟨im, ib, i0, i1, i2, i3, i4, i5, i6, i7, i8, i9, i10, i11, i12, i13, i14, t_⟩ hk hf ha
        obtain ⟨d0, d1, d2, d3, d4, d5, d6, d7, d8, d9, d10, d11, d12, d13, -⟩ := ha
        have g7_ := i7 d7
        have g10_ := i10 d10
        have g13_ := i13 d13
        rw [hc287] at g7_
        have kn : Kn e [(29, .int .i64 x301), (32, .int .i64 x306), (26, .bool false)] := ⟨g10_, g13_, g7_, trivial⟩
        exact L.kns _ kn (L.bi (Wt.mk rfl rfl) rfl rfl rfl rfl (L.nil (X.dk kn ⟨im, Sub.fresh ib rfl, i0, i1, i2, i3, i4, i5, i6, i7, i8, i9, i10, i11, i12, i13, fun _ => rfl, t_⟩)))
       ·rintro D e s310 ⟨im, ib, i0, i1, i2, i3, i4, i5, i6, i7, i8, i9, i10, i11, i12, i13, i14, i15, t_⟩ hk hf ha
        obtain ⟨d0, d1, d2, d3, d4, d5, d6, d7, d8, d9, d10, d11, d12, d13, d14, -⟩ := ha
        have g3_ := i3 d3
        have g7_ := i7 d7
        have g14_ := i14 d14
        rw [hc287] at g7_
        rw [hc282] at g3_
        have kn : Kn e [(26, .bool false), (33, .bool (decide (x301 ≤ x306))), (22, .bool true)] := ⟨g7_, g14_, g3_, trivial⟩
        exact L.kns _ kn (L.pkF (Wt.mk rfl rfl) rfl rfl rfl rfl (L.nil (X.dk kn ⟨im, Sub.fresh ib rfl, i0, i1, i2, i3, i4, i5, i6, i7, i8, i9, i10, i11, i12, i13, i14, fun _ => rfl, t_⟩)))
       ·rintro D e s311 ⟨im, ib, i0, i1, i2, i3, i4, i5, i6, i7, i8, i9, i10, i11, i12, i13, i14, i15, i16, i17⟩ hk hf ha
        obtain ⟨d0, d1, d2, d3, d4, d5, d6, d7, d8, d9, d10, d11, d12, d13, d14, d15, -⟩ := ha
        have g3_ := i3 d3
        have g15_ := i15 d15
        rw [hc282] at g3_
        have kn : Kn e [(22, .bool true), (34, .bool (decide (x301 ≤ x306)))] := ⟨g3_, g15_, trivial⟩
        exact L.kns _ kn (L.pkT Wt.no rfl rfl rfl rfl (L.nil (X.dk kn ⟨im, Sub.fresh ib rfl, i0, i1, i2, i3, i4, i5, i6, i7, i8, i9, i10, i11, i12, i13, i14, i15, fun _ => rfl, i17⟩)))
       ·rintro D e s312 ⟨im, ib, i0, i1, i2, i3, i4, i5, i6, i7, i8, i9, i10, i11, i12, i13, i14, i15, i16, i17⟩ hk hf ha
        obtain ⟨d0, d1, d2, d3, d4, d5, d6, d7, d8, d9, d10, d11, d12, d13, d14, d15, d16, -⟩ := ha
        have g16_ := i16 d16
        have kn : Kn e [(35, .bool (decide (x301 ≤ x306)))] := ⟨g16_, trivial⟩
        exact L.kns _ kn (L.as Wt.no rfl rfl (L.nil (X.dk kn ⟨im, Sub.fresh ib rfl, i0, i1, i2, i3, i4, i5, i6, i7, i8, i9, i10, i11, i12, i13, i14, i15, i16, fun _ => rfl⟩)))
      ·rintro D e s313 hD ⟨im, ib, i0, i1, i2, i3, i4, i5, i6, i7, i8, i9, i10, i11, i12, i13, i14, i15, i16, i17⟩
       have g17_ := i17 (hD 17 rfl)
       have h5 := h5.mv im no_No no_No
       have h7 := h7.mono (im.le no_No)
       have h9 := h9.mono (im.le no_No)
       have hp2 := hp2.mono (im.le no_No)
       have m0 := m0.trans im.no
       refine X.sub (e' := [(8, .bool (decide (x301 ≤ x306))), (7, .slice a5 st170.1.length c5), (0, .slice a7 st170.2.1.length c7), (1, .slice a9 st170.2.2.length c9), (2, vp2)]) ?_ (Sub.cons g17_ (Sub.cons (ib 7 _ rfl) (Sub.cons (ib 0 _ rfl) (Sub.cons (ib 1 _ rfl) (Sub.cons (ib 2 _ rfl) Sub.nil)))))
       exact X.sub (Jj179 _ _ ⟨s313, (decide (x301 ≤ x306)), hm, m0, h5, h7, h9, hp2, rfl, rfl⟩) (Sub.rf rfl)
    ·have _ := hN
     refine E.draw [[], [0], [0, 1], [0, 1, 2], [0, 1, 2, 3], [0, 1, 2, 3, 4], [0, 1, 2, 3, 4, 5], [0, 1, 2, 3, 4, 5, 6], [0, 1, 2, 3, 4, 5, 6, 7], [0, 1, 2, 3, 4, 5, 6, 7, 8], [0, 1, 2, 3, 4, 5, 6, 7, 8, 9], [0, 1, 2, 3, 4, 5, 6, 7], [0, 1, 2, 3, 4, 5, 6, 7, 11], [0, 1, 2, 3, 4, 5, 6, 7, 11, 12], [0, 1, 2, 3, 4, 5, 6, 7, 8, 9, 10, 11, 12, 13], [0, 1, 2, 3, 4, 5, 6, 7, 8, 9, 10, 11, 12, 13, 14], [0, 1, 2, 3, 4, 5, 6, 7, 8, 9, 10, 11, 12, 13, 14, 15], [0, 1, 2, 3, 4, 5, 6, 7, 8, 9, 10, 11, 12, 13, 14, 15, 16]] (fun D e sx => Mv No s173 sx ∧ Sub [(7, .slice a5 st170.1.length c5), (0, .slice a7 st170.2.1.length c7), (1, .slice a9 st170.2.2.length c9), (2, vp2)] e ∧ (D 0 = true → (Env.get e 19 = some (.slice a7 st170.2.1.length c7))) ∧ (D 1 = true → (Env.get e 20 = some (.int .i64 (st170.2.1.length : Int)))) ∧ (D 2 = true → (Env.get e 21 = some (.bool (decide ((st170.2.1.length : Int) > 0))))) ∧ (D 3 = true → (Env.get e 22 = some (.bool (decide ((st170.2.1.length : Int) > 0))))) ∧ (D 4 = true → (Env.get e 23 = some undef)) ∧ (D 5 = true → (Env.get e 24 = some undef)) ∧ (D 6 = true → (Env.get e 25 = some undef)) ∧ (D 7 = true → (Env.get e 26 = some undef)) ∧ (D 8 = true → (Env.get e 27 = some undef)) ∧ (D 9 = true → (Env.get e 28 = some undef)) ∧ (D 10 = true → (Env.get e 29 = some undef)) ∧ (D 11 = true → (Env.get e 30 = some undef)) ∧ (D 12 = true → (Env.get e 31 = some undef)) ∧ (D 13 = true → (Env.get e 32 = some undef)) ∧ (D 14 = true → (Env.get e 33 = some undef)) ∧ (D 15 = true → (Env.get e 34 = some undef)) ∧ (D 16 = true → (Env.get e 35 = some (.bool false))) ∧ (D 17 = true → (Env.get e 8 = some (.bool false)))) (by kernel_rfl) (by kernel_rfl) (by kernel_rfl) ?_ ?_ ?_
     ·intro sz mz
      exact ⟨mz, (Sub.rf rfl), nofun, nofun, nofun, nofun, nofun, nofun, nofun, nofun, nofun, nofun, nofun, nofun, nofun, nofun, nofun, nofun, nofun, nofun⟩
     ·refine ⟨?_, ?_, ?_, ?_, ?_, ?_, ?_, ?_, ?_, ?_, ?_, ?_, ?_, ?_, ?_, ?_, ?_, ?_, trivial⟩
      ·rintro D e s278 ⟨im, ib, i0, t_⟩ hk hf ha
       have kn : Kn e [(0, .slice a7 st170.2.1.length c7)] := ⟨(ib 0 _ rfl), trivial⟩
       exact L.kns _ kn (L.mv Wt.no rfl rfl (L.nil (X.dk kn ⟨im, Sub.fresh ib rfl, fun _ => rfl, t_⟩)))
      ·rintro D e s279 ⟨im, ib, i0, i1, t_⟩ hk hf ha
       obtain ⟨d0, -⟩ := ha
       have g0_ := i0 d0
       have kn : Kn e [(19, .slice a7 st170.2.1.length c7)] := ⟨g0_, trivial⟩
       exact L.kns _ kn (L.len sl23 Wt.no rfl rfl (L.nil (X.dk kn ⟨im, Sub.fresh ib rfl, i0, fun _ => rfl, t_⟩)))
      ·rintro D e s280 ⟨im, ib, i0, i1, i2, t_⟩ hk hf ha
       obtain ⟨d0, d1, -⟩ := ha
       have g1_ := i1 d1
       have kn : Kn e [(20, .int .i64 (st170.2.1.length : Int))] := ⟨g1_, trivial⟩
       exact L.kns _ kn (L.bi Wt.no rfl rfl rfl rfl (L.nil (X.dk kn ⟨im, Sub.fresh ib rfl, i0, i1, fun _ => rfl, t_⟩)))
      ·rintro D e s281 ⟨im, ib, i0, i1, i2, i3, t_⟩ hk hf ha
       obtain ⟨d0, d1, d2, -⟩ := ha
       have g2_ := i2 d2
       have kn : Kn e [(21, .bool (decide ((st170.2.1.length : Int) > 0)))] := ⟨g2_, trivial⟩
       exact L.kns _ kn (L.mv Wt.no rfl rfl (L.nil (X.dk kn ⟨im, Sub.fresh ib rfl, i0, i1, i2, fun _ => rfl, t_⟩)))
      ·rintro D e s314 ⟨im, ib, i0, i1, i2, i3, i4, t_⟩ hk hf ha
       obtain ⟨d0, d1, d2, d3, -⟩ := ha
       have g3_ := i3 d3
       rw [hc282] at g3_
       have kn : Kn e [(1, .slice a9 st170.2.2.length c9), (22, .bool false)] := ⟨(ib 1 _ rfl), g3_, trivial⟩
       exact L.kns _ kn (L.skip rfl rfl rfl rfl (L.nil (X.dk kn ⟨im, Sub.fresh ib rfl, i0, i1, i2, i3, fun _ => rfl, t_⟩)))
      ·rintro D e s315 ⟨im, ib, i0, i1, i2, i3, i4, i5, t_⟩ hk hf ha
       obtain ⟨d0, d1, d2, d3, d4, -⟩ := ha
       have g3_ := i3 d3
       have g4_ := i4 d4
       rw [hc282] at g3_
       have kn : Kn e [(23, undef), (22, .bool false)] := ⟨g4_, g3_, trivial⟩
       exact L.kns _ kn (L.skip rfl rfl rfl rfl (L.nil (X.dk kn ⟨im, Sub.fresh ib rfl, i0, i1, i2, i3, i4, fun _ => rfl, t_⟩)))
      ·rintro D e s316 ⟨im, ib, i0, i1, i2, i3, i4, i5, i6, t_⟩ hk hf ha
       obtain ⟨d0, d1, d2, d3, d4, d5, -⟩ := ha
       have g3_ := i3 d3
       have g5_ := i5 d5
       rw [hc282] at g3_
       have kn : Kn e [(24, undef), (22, .bool false)] := ⟨g5_, g3_, trivial⟩
       exact L.kns _ kn (L.skip rfl rfl rfl rfl (L.nil (X.dk kn ⟨im, Sub.fresh ib rfl, i0, i1, i2, i3, i4, i5, fun _ => rfl, t_⟩)))
      ·rintro D e s317 ⟨im, ib, i0, i1, i2, i3, i4, i5, i6, i7, t_⟩ hk hf ha
       obtain ⟨d0, d1, d2, d3, d4, d5, d6, -⟩ := ha
       have g3_ := i3 d3
       have g6_ := i6 d6
       rw [hc282] at g3_
       have kn : Kn e [(25, undef), (22, .bool false)] := ⟨g6_, g3_, trivial⟩
       exact L.kns _ kn (L.skip rfl rfl rfl rfl (L.nil (X.dk kn ⟨im, Sub.fresh ib rfl, i0, i1, i2, i3, i4, i5, i6, fun _ => rfl, t_⟩)))
      ·rintro D e s318 ⟨im, ib, i0, i1, i2, i3, i4, i5, i6, i7, i8, t_⟩ hk hf ha
       obtain ⟨d0, d1, d2, d3, d4, d5, d6, d7, -⟩ := ha
       have g7_ := i7 d7
       have kn : Kn e [(0, .slice a7 st170.2.1.length c7), (26, undef)] := ⟨(ib 0 _ rfl), g7_, trivial⟩
       exact L.kns _ kn (L.skipU rfl rfl rfl (L.nil (X.dk kn ⟨im, Sub.fresh ib rfl, i0, i1, i2, i3, i4, i5, i6, i7, fun _ => rfl, t_⟩)))
      ·rintro D e s319 ⟨im, ib, i0, i1, i2, i3, i4, i5, i6, i7, i8, i9, t_⟩ hk hf ha
       obtain ⟨d0, d1, d2, d3, d4, d5, d6, d7, d8, -⟩ := ha
       have g7_ := i7 d7
       have g8_ := i8 d8
       have kn : Kn e [(27, undef), (26, undef)] := ⟨g8_, g7_, trivial⟩
       exact L.kns _ kn (L.skipU rfl rfl rfl (L.nil (X.dk kn ⟨im, Sub.fresh ib rfl, i0, i1, i2, i3, i4, i5, i6, i7, i8, fun _ => rfl, t_⟩)))
      ·rintro D e s320 ⟨im, ib, i0, i1, i2, i3, i4, i5, i6, i7, i8, i9, i10, t_⟩ hk hf ha
       obtain ⟨d0, d1, d2, d3, d4, d5, d6, d7, d8, d9, -⟩ := ha
       have g7_ := i7 d7
       have g9_ := i9 d9
       have kn : Kn e [(28, undef), (26, undef)] := ⟨g9_, g7_, trivial⟩
       exact L.kns _ kn (L.skipU rfl rfl rfl (L.nil (X.dk kn ⟨im, Sub.fresh ib rfl, i0, i1, i2, i3, i4, i5, i6, i7, i8, i9, fun _ => rfl, t_⟩)))
      ·rintro D e s321 ⟨im, ib, i0, i1, i2, i3, i4, i5, i6, i7, i8, i9, i10, i11, t_⟩ hk hf ha
       obtain ⟨d0, d1, d2, d3, d4, d5, d6, d7, -⟩ := ha
       have g7_ := i7 d7
       have kn : Kn e [(1, .slice a9 st170.2.2.length c9), (26, undef)] := ⟨(ib 1 _ rfl), g7_, trivial⟩
       exact L.kns _ kn (L.skipU rfl rfl rfl (L.nil (X.dk kn ⟨im, Sub.fresh ib rfl, i0, i1, i2, i3, i4, i5, i6, i7, i8, i9, i10, fun _ => rfl, t_⟩)))
      ·rintro D e s322 ⟨im, ib, i0, i1, i2, i3, i4, i5, i6, i7, i8, i9, i10, i11, i12, t_⟩ hk hf ha
       obtain ⟨d0, d1, d2, d3, d4, d5, d6, d7, d11, -⟩ := ha
       have g7_ := i7 d7
       have g11_ := i11 d11
       have kn : Kn e [(30, undef), (26, undef)] := ⟨g11_, g7_, trivial⟩
       exact L.kns _ kn (L.skipU rfl rfl rfl (L.nil (X.dk kn ⟨im, Sub.fresh ib rfl, i0, i1, i2, i3, i4, i5, i6, i7, i8, i9, i10, i11, fun _ => rfl, t_⟩)))
      ·rintro D e s323 ⟨im, ib, i0, i1, i2, i3, i4, i5, i6, i7, i8, i9, i10, i11, i12, i13, t_⟩ hk hf ha
       obtain ⟨d0, d1, d2, d3, d4, d5, d6, d7, d11, d12, -⟩ := ha
       have g7_ := i7 d7
       have g12_ := i12 d12
       have kn : Kn e [(31, undef), (26, undef)] := ⟨g12_, g7_, trivial⟩
       exact L.kns _ kn (L.skipU rfl rfl rfl (L.nil (X.dk kn ⟨im, Sub.fresh ib rfl, i0, i1, i2, i3, i4, i5, i6, i7, i8, i9, i10, i11, i12, fun _ => rfl, t_⟩)))
      ·rintro D e s324 ⟨im, ib, i0, i1, i2, i3, i4, i5, i6, i7, i8, i9, i10, i11, i12, i13, i14, t_⟩ hk hf ha
       obtain ⟨d0, d1, d2, d3, d4, d5, d6, d7, d8, d9, d10, d11, d12, d13, -⟩ := ha
       have g7_ := i7 d7
       have g10_ := i10 d10
       have g13_ := i13 d13
       have kn : Kn e [(29, undef), (32, undef), (26, undef)] := ⟨g10_, g13_, g7_, trivial⟩
       exact L.kns _ kn (L.skipU rfl rfl rfl (L.nil (X.dk kn ⟨im, Sub.fresh ib rfl, i0, i1, i2, i3, i4, i5, i6, i7, i8, i9, i10, i11, i12, i13, fun _ => rfl, t_⟩)))
      ·rintro D e s325 ⟨im, ib, i0, i1, i2, i3, i4, i5, i6, i7, i8, i9, i10, i11, i12, i13, i14, i15, t_⟩ hk hf ha
       obtain ⟨d0, d1, d2, d3, d4, d5, d6, d7, d8, d9, d10, d11, d12, d13, d14, -⟩ := ha
       have g3_ := i3 d3
       have g7_ := i7 d7
       have g14_ := i14 d14
       rw [hc282] at g3_
       have kn : Kn e [(26, undef), (33, undef), (22, .bool false)] := ⟨g7_, g14_, g3_, trivial⟩
       exact L.kns _ kn (L.skip rfl rfl rfl rfl (L.nil (X.dk kn ⟨im, Sub.fresh ib rfl, i0, i1, i2, i3, i4, i5, i6, i7, i8, i9, i10, i11, i12, i13, i14, fun _ => rfl, t_⟩)))
      ·rintro D e s326 ⟨im, ib, i0, i1, i2, i3, i4, i5, i6, i7, i8, i9, i10, i11, i12, i13, i14, i15, i16, i17⟩ hk hf ha
       obtain ⟨d0, d1, d2, d3, d4, d5, d6, d7, d8, d9, d10, d11, d12, d13, d14, d15, -⟩ := ha
       have g3_ := i3 d3
       have g15_ := i15 d15
       rw [hc282] at g3_
       have kn : Kn e [(22, .bool false), (34, undef)] := ⟨g3_, g15_, trivial⟩
       exact L.kns _ kn (L.pkF Wt.no rfl rfl rfl rfl (L.nil (X.dk kn ⟨im, Sub.fresh ib rfl, i0, i1, i2, i3, i4, i5, i6, i7, i8, i9, i10, i11, i12, i13, i14, i15, fun _ => rfl, i17⟩)))
      ·rintro D e s327 ⟨im, ib, i0, i1, i2, i3, i4, i5, i6, i7, i8, i9, i10, i11, i12, i13, i14, i15, i16, i17⟩ hk hf ha
       obtain ⟨d0, d1, d2, d3, d4, d5, d6, d7, d8, d9, d10, d11, d12, d13, d14, d15, d16, -⟩ := ha
       have g16_ := i16 d16
       have kn : Kn e [(35, .bool false)] := ⟨g16_, trivial⟩
       exact L.kns _ kn (L.as Wt.no rfl rfl (L.nil (X.dk kn ⟨im, Sub.fresh ib rfl, i0, i1, i2, i3, i4, i5, i6, i7, i8, i9, i10, i11, i12, i13, i14, i15, i16, fun _ => rfl⟩)))
     ·rintro D e s328 hD ⟨im, ib, i0, i1, i2, i3, i4, i5, i6, i7, i8, i9, i10, i11, i12, i13, i14, i15, i16, i17⟩
      have g17_ := i17 (hD 17 rfl)
      have h5 := h5.mv im no_No no_No
      have h7 := h7.mono (im.le no_No)
      have h9 := h9.mono (im.le no_No)
      have hp2 := hp2.mono (im.le no_No)
      have m0 := m0.trans im.no
      refine X.sub (e' := [(8, .bool false), (7, .slice a5 st170.1.length c5), (0, .slice a7 st170.2.1.length c7), (1, .slice a9 st170.2.2.length c9), (2, vp2)]) ?_ (Sub.cons g17_ (Sub.cons (ib 7 _ rfl) (Sub.cons (ib 0 _ rfl) (Sub.cons (ib 1 _ rfl) (Sub.cons (ib 2 _ rfl) Sub.nil)))))
      exact X.sub (Jj179 _ _ ⟨s328, false, hm, m0, h5, h7, h9, hp2, rfl, rfl⟩) (Sub.rf rfl)
  ·refine E.cF rfl hc (E.exit (X.seqX (X.seqX ?_)))
   have hx := ho170 _ (Option.some.inj hm).symm
   subst hx
   exact X.sub (K175 _ _ ⟨s173, a5, c5, m0, h5, rfl, rfl⟩) (Sub.rf rfl)
 ·intro J329
  rcases Bool.eq_false_or_eq_true (decide ((st170.2.1.length : Int) > 0)) with hc | hc
  ·exact L.know (d := 14) rfl hc (L.skip rfl rfl rfl rfl (L.skip rfl rfl rfl rfl (L.skip rfl rfl rfl rfl (L.pkT Wt.no rfl rfl rfl rfl (L.sb (J329 _ _ ⟨true, (orT hc).symm, rfl, rfl⟩) rfl)))))
  ·exact L.know (d := 14) rfl hc (L.mv (Wt.mk rfl rfl) rfl rfl (L.len sl23 (Wt.mk rfl rfl) rfl rfl (L.bi (Wt.mk rfl rfl) rfl rfl rfl rfl (L.pkF Wt.no rfl rfl rfl rfl (L.sb (J329 _ _ ⟨(decide ((st170.2.2.length : Int) > 0)), (orF hc).symm, rfl, rfl⟩) rfl)))))

/-- What alphabet.Minus$1 computes. -/
noncomputable def m_alphabet_Minus_1 (p0 : Bool) (p1 : Bool) : Option Bool :=
  some (p0 && (!p1))
set_option maxRecDepth 100000 in
set_option maxHeartbeats 8000000 in
theorem m_alphabet_Minus_1_c {s : Sig} {p0 : Bool} {p1 : Bool} {r : Bool} (hm : m_alphabet_Minus_1 p0 p1 = some r) :
    Calls Try.prog 79 #[.bool p0, .bool p1] s.w (RetS No s fun v s' => v = .bool r) := by
 unfold m_alphabet_Minus_1 at hm
 obtain ⟨N, hN, hNb⟩ := s.fresh
 have m0 : Mv (Up N No) s s := Mv.refl _ _
 refine E.entry Try.func79 rfl Try.ntmps79 rfl rfl (E.seq (E.reg (L.as Wt.no rfl rfl (L.nil (X.seqN (E.seq (E.reg (L.mv Wt.no rfl rfl (L.mv Wt.no rfl rfl (L.cut 3 (fun e w => ∃ (v1 : Bool), (p0 && (!p1)) = v1 ∧ e = (9, .bool v1) :: [] ∧ w = s.w) ?_ ?_))))))))))
 ·rintro _ _ ⟨v1, rfl, rfl, rfl⟩
  refine L.as Wt.no rfl rfl (L.nil (X.seqN (E.ret ?_)))
  obtain rfl := Option.some.inj hm
  exact X.rt (.inl rfl) Try.results79 (Rs.tmp rfl Rs.nil) rfl ⟨_, (s).ren N (fun _ => 0), rfl, rfl, m0.ren hNb, rfl⟩
 ·intro J2
  rcases Bool.eq_false_or_eq_true p0 with hc | hc
  ·exact L.know (d := 6) rfl hc (L.mv (Wt.mk rfl rfl) rfl rfl (L.not (Wt.mk rfl rfl) rfl rfl (L.pkT Wt.no rfl rfl rfl rfl (L.sb (J2 _ _ ⟨(!p1), (andT hc).symm, rfl, rfl⟩) rfl))))
  ·exact L.know (d := 6) rfl hc (L.skip rfl rfl rfl rfl (L.skip rfl rfl rfl rfl (L.pkF Wt.no rfl rfl rfl rfl (L.sb (J2 _ _ ⟨false, (andF hc).symm, rfl, rfl⟩) rfl))))

theorem cf78 : Cf Try.prog 78 := Cf.mk Try.func78 (by kernel_rfl) (by kernel_rfl)
theorem cf79 : Cf Try.prog 79 := Cf.mk Try.func79 (by kernel_rfl) (by kernel_rfl)
theorem fv79 {s : Sig} : FV2 Try.prog s (.func (.func 79) #[] #[]) (fun (x0 : Bool) (x1 : Bool) => [.bool x0, .bool x1]) (fun r => .bool r) m_alphabet_Minus_1 := ⟨79, #[], #[], rfl, cf79, fun x0 x1 r hm s' hl => by have hh := m_alphabet_Minus_1_c (s := s') hm; simpa using hh⟩
/-- What alphabet.Minus computes. -/
noncomputable def m_alphabet_Minus (p0 : List Int) (p1 : List Int) : Option (List Int) :=
  (m_alphabet_merge p0 p1 m_alphabet_Minus_1).bind fun r4 =>
  some r4
set_option maxRecDepth 100000 in
set_option maxHeartbeats 8000000 in
theorem m_alphabet_Minus_c {s : Sig} {p0 : List Int} {p1 : List Int} {a1 : Option Addr} {c1 : Nat} {a2 : Option Addr} {c2 : Nat} {u0 : Nat} {r : List Int} (h1 : RdL (rK .i64) s a1 c1 p0) (h2 : RdL (rK .i64) s a2 c2 p1) (hm : m_alphabet_Minus p0 p1 = some r) :
    Calls Try.prog 68 #[.slice a1 p0.length c1, .slice a2 p1.length c2] s.w (RetS No s fun v s' => ∃ (a3 : Option Addr) (c3 : Nat), v = .slice a3 r.length c3 ∧ RowT (rK .i64) s' u0 3 a3 c3 r) := by
 unfold m_alphabet_Minus at hm
 obtain ⟨N, hN, hNb⟩ := s.fresh
 have m0 : Mv (Up N No) s s := Mv.refl _ _
 refine E.entry Try.func68 rfl Try.ntmps68 rfl rfl (E.seq (E.reg (L.as Wt.no rfl rfl (L.nil (X.seqN (E.seq (E.reg (L.mv Wt.no rfl rfl (L.mv Wt.no rfl rfl ?_)))))))))
 obtain ⟨r4, er4, hm⟩ := bindS hm
 refine L.ca cf78 rfl rfl Wt.no rfl (m_alphabet_merge_c (s := s) (p0 := p0) (p1 := p1) (p2 := m_alphabet_Minus_1) (u0 := (N + 0)) h1 h2 fv79 er4) rfl ?_
 rintro _ s5 m6 ⟨a7, c7, rfl, h7⟩
 replace m0 := m0.trans m6.no
 refine L.as Wt.no rfl rfl (L.nil (X.seqN (E.ret ?_)))
 obtain rfl := Option.some.inj hm
 exact X.rt (.inl rfl) Try.results68 (Rs.tmp rfl Rs.nil) rfl ⟨_, (s5).ren N (fun k => cond (Nat.beq k 0) u0 (0)), rfl, rfl, m0.ren hNb, ⟨a7, c7, rfl, (h7.ren hN)⟩⟩

theorem cf68 : Cf Try.prog 68 := Cf.mk Try.func68 (by kernel_rfl) (by kernel_rfl)
/-- What alphabet.Subset computes. -/
noncomputable def m_alphabet_Subset (p0 : List Int) (p1 : List Int) : Option Bool :=
  (m_alphabet_Minus p0 p1).bind fun r3 =>
  some ((r3.length : Int) == 0)
set_option maxRecDepth 100000 in
set_option maxHeartbeats 8000000 in
theorem m_alphabet_Subset_c {s : Sig} {p0 : List Int} {p1 : List Int} {a1 : Option Addr} {c1 : Nat} {a2 : Option Addr} {c2 : Nat} {r : Bool} (h1 : RdL (rK .i64) s a1 c1 p0) (h2 : RdL (rK .i64) s a2 c2 p1) (hm : m_alphabet_Subset p0 p1 = some r) :
    Calls Try.prog 39 #[.slice a1 p0.length c1, .slice a2 p1.length c2] s.w (RetS No s fun v s' => v = .bool r) := by
 unfold m_alphabet_Subset at hm
 obtain ⟨N, hN, hNb⟩ := s.fresh
 have m0 : Mv (Up N No) s s := Mv.refl _ _
 refine E.entry Try.func39 rfl Try.ntmps39 rfl rfl (E.seq (E.reg (L.as Wt.no rfl rfl (L.nil (X.seqN (E.seq (E.reg (L.mv Wt.no rfl rfl (L.mv Wt.no rfl rfl ?_)))))))))
 obtain ⟨r3, er3, hm⟩ := bindS hm
 refine L.ca cf68 rfl rfl Wt.no rfl (m_alphabet_Minus_c (s := s) (p0 := p0) (p1 := p1) (u0 := 0) h1 h2 er3) rfl ?_
 rintro _ s4 m5 ⟨a6, c6, rfl, h6⟩
 replace h6 := h6.p
 replace m0 := m0.trans m5.no
 refine L.len sl23 Wt.no rfl rfl (L.bi Wt.no rfl rfl rfl rfl (L.as Wt.no rfl rfl (L.nil (X.seqN (E.ret ?_)))))
 obtain rfl := Option.some.inj hm
 exact X.rt (.inl rfl) Try.results39 (Rs.tmp rfl Rs.nil) rfl ⟨_, (s4).ren N (fun _ => 0), rfl, rfl, m0.ren hNb, rfl⟩

theorem fa90_1 : FA Try.prog 90 1 1 := FA.mk Try.underlying90 rfl rfl ⟨1, by decide, by kernel_rfl⟩
theorem fa90_2 : FA Try.prog 90 2 2 := FA.mk Try.underlying90 rfl rfl ⟨1, by decide, by kernel_rfl⟩
/-- What generate.assembler).memory computes. -/
noncomputable def m_generate_assembler_memory (p0 : (List (Int × Int)) × Int × Int) (p1 : Int) : Option Int :=
  some (W ((W (p0.2.1 + p0.2.2)) + p1))
set_option maxRecDepth 100000 in
set_option maxHeartbeats 8000000 in
theorem m_generate_assembler_memory_c {s : Sig} {p0 : (List (Int × Int)) × Int × Int} {p1 : Int} {t0 : Nat} {a1 : Option Addr} {c1 : Nat} {b2 : Nat} {r : Int} (h1 : RdL (rP (rK .i64) (rK .i64)) s a1 c1 p0.1) (bx2 : Bx s t0 b2 #[.slice a1 p0.1.length c1, .int .i64 p0.2.1, .int .i64 p0.2.2] 90) (hm : m_generate_assembler_memory p0 p1 = some r) :
    Calls Try.prog 41 #[.pointer (some ⟨b2, 0, none⟩), .int .i64 p1] s.w (RetS No s fun v s' => v = .int .i64 r) := by
 unfold m_generate_assembler_memory at hm
 obtain ⟨N, hN, hNb, lt0, -⟩ := s.freshL [t0]
 have m0 : Mv (Up N No) s s := Mv.refl _ _
 refine E.entry Try.func41 rfl Try.ntmps41 rfl rfl (E.seq (E.reg (L.as Wt.no rfl rfl (L.nil (X.seqN (E.seq (E.draw [[], [0], [0, 1], [0, 1, 2], [], [4], [4, 5], [4, 5, 6], [0, 1, 2, 3, 4, 5, 6, 7], [], [0, 1, 2, 3, 4, 5, 6, 7, 8, 9], [0, 1, 2, 3, 4, 5, 6, 7, 8, 9, 10]] (fun D e sx => Mv No s sx ∧ Sub [(0, .pointer (some ⟨b2, 0, none⟩)), (1, .int .i64 p1)] e ∧ (D 0 = true → (Env.get e 5 = some (.pointer (some ⟨b2, 0, none⟩)))) ∧ (D 1 = true → (Env.get e 6 = some (.pointer (some ⟨b2, 0, none⟩)))) ∧ (D 2 = true → (Env.get e 7 = some (.pointer (some ⟨b2, 1, none⟩)))) ∧ (D 3 = true → (Env.get e 8 = some (.int .i64 p0.2.1))) ∧ (D 4 = true → (Env.get e 9 = some (.pointer (some ⟨b2, 0, none⟩)))) ∧ (D 5 = true → (Env.get e 10 = some (.pointer (some ⟨b2, 0, none⟩)))) ∧ (D 6 = true → (Env.get e 11 = some (.pointer (some ⟨b2, 2, none⟩)))) ∧ (D 7 = true → (Env.get e 12 = some (.int .i64 p0.2.2))) ∧ (D 8 = true → (Env.get e 13 = some (.int .i64 (W (p0.2.1 + p0.2.2))))) ∧ (D 9 = true → (Env.get e 14 = some (.int .i64 p1))) ∧ (D 10 = true → (Env.get e 15 = some (.int .i64 (W ((W (p0.2.1 + p0.2.2)) + p1))))) ∧ (D 11 = true → (Env.get e 4 = some (.int .i64 (W ((W (p0.2.1 + p0.2.2)) + p1)))))) (by kernel_rfl) (by kernel_rfl) (by kernel_rfl) ?_ ?_ ?_)))))))
 ·intro sz mz
  exact ⟨mz, (Sub.rf rfl), nofun, nofun, nofun, nofun, nofun, nofun, nofun, nofun, nofun, nofun, nofun, nofun⟩
 ·refine ⟨?_, ?_, ?_, ?_, ?_, ?_, ?_, ?_, ?_, ?_, ?_, ?_, trivial⟩
  ·rintro D e s3 ⟨im, ib, i0, t_⟩ hk hf ha
   have kn : Kn e [(0, .pointer (some ⟨b2, 0, none⟩))] := ⟨(ib 0 _ rfl), trivial⟩
   exact L.kns _ kn (L.mv Wt.no rfl rfl (L.nil (X.dk kn ⟨im, Sub.fresh ib rfl, fun _ => rfl, t_⟩)))
  ·rintro D e s4 ⟨im, ib, i0, i1, t_⟩ hk hf ha
   obtain ⟨d0, -⟩ := ha
   have g0_ := i0 d0
   have kn : Kn e [(5, .pointer (some ⟨b2, 0, none⟩))] := ⟨g0_, trivial⟩
   exact L.kns _ kn (L.nc Wt.no rfl rfl (L.nil (X.dk kn ⟨im, Sub.fresh ib rfl, i0, fun _ => rfl, t_⟩)))
  ·rintro D e s5 ⟨im, ib, i0, i1, i2, t_⟩ hk hf ha
   obtain ⟨d0, d1, -⟩ := ha
   have g1_ := i1 d1
   have kn : Kn e [(6, .pointer (some ⟨b2, 0, none⟩))] := ⟨g1_, trivial⟩
   exact L.kns _ kn (L.fa fa90_1 Wt.no rfl rfl (L.nil (X.dk kn ⟨im, Sub.fresh ib rfl, i0, i1, fun _ => rfl, t_⟩)))
  ·rintro D e s6 ⟨im, ib, i0, i1, i2, i3, t_⟩ hk hf ha
   obtain ⟨d0, d1, d2, -⟩ := ha
   have g2_ := i2 d2
   have bx2 := bx2.mv im no_No
   have kn : Kn e [(7, .pointer (some ⟨b2, 1, none⟩))] := ⟨g2_, trivial⟩
   exact L.kns _ kn (L.ld (j := 1) bx2.mem nag3 Wt.no rfl rfl rfl rfl (L.nil (X.dk kn ⟨im, Sub.fresh ib rfl, i0, i1, i2, fun _ => rfl, t_⟩)))
  ·rintro D e s7 ⟨im, ib, i0, i1, i2, i3, i4, t_⟩ hk hf ha
   have kn : Kn e [(0, .pointer (some ⟨b2, 0, none⟩))] := ⟨(ib 0 _ rfl), trivial⟩
   exact L.kns _ kn (L.mv Wt.no rfl rfl (L.nil (X.dk kn ⟨im, Sub.fresh ib rfl, i0, i1, i2, i3, fun _ => rfl, t_⟩)))
  ·rintro D e s8 ⟨im, ib, i0, i1, i2, i3, i4, i5, t_⟩ hk hf ha
   obtain ⟨d4, -⟩ := ha
   have g4_ := i4 d4
   have kn : Kn e [(9, .pointer (some ⟨b2, 0, none⟩))] := ⟨g4_, trivial⟩
   exact L.kns _ kn (L.nc Wt.no rfl rfl (L.nil (X.dk kn ⟨im, Sub.fresh ib rfl, i0, i1, i2, i3, i4, fun _ => rfl, t_⟩)))
  ·rintro D e s9 ⟨im, ib, i0, i1, i2, i3, i4, i5, i6, t_⟩ hk hf ha
   obtain ⟨d4, d5, -⟩ := ha
   have g5_ := i5 d5
   have kn : Kn e [(10, .pointer (some ⟨b2, 0, none⟩))] := ⟨g5_, trivial⟩
   exact L.kns _ kn (L.fa fa90_2 Wt.no rfl rfl (L.nil (X.dk kn ⟨im, Sub.fresh ib rfl, i0, i1, i2, i3, i4, i5, fun _ => rfl, t_⟩)))
  ·rintro D e s10 ⟨im, ib, i0, i1, i2, i3, i4, i5, i6, i7, t_⟩ hk hf ha
   obtain ⟨d4, d5, d6, -⟩ := ha
   have g6_ := i6 d6
   have bx2 := bx2.mv im no_No
   have kn : Kn e [(11, .pointer (some ⟨b2, 2, none⟩))] := ⟨g6_, trivial⟩
   exact L.kns _ kn (L.ld (j := 2) bx2.mem nag3 Wt.no rfl rfl rfl rfl (L.nil (X.dk kn ⟨im, Sub.fresh ib rfl, i0, i1, i2, i3, i4, i5, i6, fun _ => rfl, t_⟩)))
  ·rintro D e s11 ⟨im, ib, i0, i1, i2, i3, i4, i5, i6, i7, i8, t_⟩ hk hf ha
   obtain ⟨d0, d1, d2, d3, d4, d5, d6, d7, -⟩ := ha
   have g3_ := i3 d3
   have g7_ := i7 d7
   have kn : Kn e [(8, .int .i64 p0.2.1), (12, .int .i64 p0.2.2)] := ⟨g3_, g7_, trivial⟩
   exact L.kns _ kn (L.bi Wt.no rfl rfl rfl rfl (L.nil (X.dk kn ⟨im, Sub.fresh ib rfl, i0, i1, i2, i3, i4, i5, i6, i7, fun _ => rfl, t_⟩)))
  ·rintro D e s12 ⟨im, ib, i0, i1, i2, i3, i4, i5, i6, i7, i8, i9, t_⟩ hk hf ha
   have kn : Kn e [(1, .int .i64 p1)] := ⟨(ib 1 _ rfl), trivial⟩
   exact L.kns _ kn (L.mv Wt.no rfl rfl (L.nil (X.dk kn ⟨im, Sub.fresh ib rfl, i0, i1, i2, i3, i4, i5, i6, i7, i8, fun _ => rfl, t_⟩)))
  ·rintro D e s13 ⟨im, ib, i0, i1, i2, i3, i4, i5, i6, i7, i8, i9, i10, i11⟩ hk hf ha
   obtain ⟨d0, d1, d2, d3, d4, d5, d6, d7, d8, d9, -⟩ := ha
   have g8_ := i8 d8
   have g9_ := i9 d9
   have kn : Kn e [(13, .int .i64 (W (p0.2.1 + p0.2.2))), (14, .int .i64 p1)] := ⟨g8_, g9_, trivial⟩
   exact L.kns _ kn (L.bi Wt.no rfl rfl rfl rfl (L.nil (X.dk kn ⟨im, Sub.fresh ib rfl, i0, i1, i2, i3, i4, i5, i6, i7, i8, i9, fun _ => rfl, i11⟩)))
  ·rintro D e s14 ⟨im, ib, i0, i1, i2, i3, i4, i5, i6, i7, i8, i9, i10, i11⟩ hk hf ha
   obtain ⟨d0, d1, d2, d3, d4, d5, d6, d7, d8, d9, d10, -⟩ := ha
   have g10_ := i10 d10
   have kn : Kn e [(15, .int .i64 (W ((W (p0.2.1 + p0.2.2)) + p1)))] := ⟨g10_, trivial⟩
   exact L.kns _ kn (L.as Wt.no rfl rfl (L.nil (X.dk kn ⟨im, Sub.fresh ib rfl, i0, i1, i2, i3, i4, i5, i6, i7, i8, i9, i10, fun _ => rfl⟩)))
 ·rintro D e s15 hD ⟨im, ib, i0, i1, i2, i3, i4, i5, i6, i7, i8, i9, i10, i11⟩
  have g11_ := i11 (hD 11 rfl)
  have m0 := m0.trans im.no
  refine X.sub (e' := [(4, .int .i64 (W ((W (p0.2.1 + p0.2.2)) + p1)))]) ?_ (Sub.cons g11_ Sub.nil)
  refine X.seqN (E.ret ?_)
  obtain rfl := Option.some.inj hm
  exact X.rt (.inl rfl) Try.results41 (Rs.tmp rfl Rs.nil) rfl ⟨_, (s15).ren N (fun _ => 0), rfl, rfl, m0.ren hNb, rfl⟩

/-- What generate.assembler).output computes. -/
noncomputable def m_generate_assembler_output (p0 : (List (Int × Int)) × Int × Int) (p1 : Int) : Option Int :=
  some (W (p0.2.1 + p1))
set_option maxRecDepth 100000 in
set_option maxHeartbeats 8000000 in
theorem m_generate_assembler_output_c {s : Sig} {p0 : (List (Int × Int)) × Int × Int} {p1 : Int} {t0 : Nat} {a1 : Option Addr} {c1 : Nat} {b2 : Nat} {r : Int} (h1 : RdL (rP (rK .i64) (rK .i64)) s a1 c1 p0.1) (bx2 : Bx s t0 b2 #[.slice a1 p0.1.length c1, .int .i64 p0.2.1, .int .i64 p0.2.2] 90) (hm : m_generate_assembler_output p0 p1 = some r) :
    Calls Try.prog 42 #[.pointer (some ⟨b2, 0, none⟩), .int .i64 p1] s.w (RetS No s fun v s' => v = .int .i64 r) := by
 unfold m_generate_assembler_output at hm
 obtain ⟨N, hN, hNb, lt0, -⟩ := s.freshL [t0]
 have m0 : Mv (Up N No) s s := Mv.refl _ _
 refine E.entry Try.func42 rfl Try.ntmps42 rfl rfl (E.seq (E.reg (L.as Wt.no rfl rfl (L.nil (X.seqN (E.seq (E.reg (L.mv Wt.no rfl rfl (L.nc Wt.no rfl rfl (L.fa fa90_1 Wt.no rfl rfl (L.ld (j := 1) bx2.mem nag3 Wt.no rfl rfl rfl rfl (L.mv Wt.no rfl rfl (L.bi Wt.no rfl rfl rfl rfl (L.as Wt.no rfl rfl (L.nil (X.seqN (E.ret ?_)))))))))))))))))
 obtain rfl := Option.some.inj hm
 exact X.rt (.inl rfl) Try.results42 (Rs.tmp rfl Rs.nil) rfl ⟨_, (s).ren N (fun _ => 0), rfl, rfl, m0.ren hNb, rfl⟩

theorem ag117 : Ag Try.prog 117 2 := Ag.mk' Try.underlying117 rfl (by kernel_rfl)
theorem bs30 : Bs Try.prog 30 119 2 [.int .i64 0, .int .i64 0] := Bs.mk' Try.underlying30 (by kernel_rfl) (by kernel_rfl) rfl
theorem el119 : El Try.prog 119 2 16 := El.mk' (z := .agg #[.int .i64 0, .int .i64 0]) (by kernel_rfl) (by kernel_rfl) (by kernel_rfl) rfl
theorem fa90_0 : FA Try.prog 90 0 0 := FA.mk Try.underlying90 rfl rfl ⟨1, by decide, by kernel_rfl⟩
theorem ia117 : IA Try.prog 117 2 1 := IA.mk Try.underlying117 (by kernel_rfl)
theorem nag30 : NAg Try.prog 30 := NAg.mk' Try.underlying30 rfl (by kernel_rfl)
theorem pl119 : Pl Try.prog 119 [(0, 1), (1, 1)] [.int .i64 0, .int .i64 0] := Pl.str Try.underlying119 (by kernel_rfl) (by kernel_rfl)
theorem sl134 : Sl Try.prog 134 117 2 := Sl.mk' Try.underlying134 (by kernel_rfl)
theorem zz117 : (Try.prog.info? 117).bind (·.zero) = some (.agg #[.int .i64 0, .int .i64 0]) := by kernel_rfl
noncomputable def m_generate_assembler_put_l1 (p1 : List (Int × Int)) (st43 : Int × (List (Int × Int))) : Option ((Int × (List (Int × Int))) ⊕ (List (Int × Int))) :=
  if decide (st43.1 < (p1.length : Int)) then
    (idx p1 st43.1).bind fun x49 =>
    (app st43.2 ([x49] : List (Int × Int))).bind fun x71 =>
    some (.inl (W (st43.1 + 1), x71))
  else
    some (.inr st43.2)
/-- What generate.assembler).put computes. -/
noncomputable def m_generate_assembler_put (p0 : (List (Int × Int)) × Int × Int) (p1 : List (Int × Int)) : Option ((List (Int × Int)) × Int × Int) :=
  (iter (m_generate_assembler_put_l1 p1) (0, p0.1)).bind fun o43 =>
  some (o43, p0.2)
set_option maxRecDepth 100000 in
set_option maxHeartbeats 8000000 in
theorem m_generate_assembler_put_c {s : Sig} {p0 : (List (Int × Int)) × Int × Int} {p1 : List (Int × Int)} {t0 : Nat} {t0_0 : Nat} {a1 : Option Addr} {c1 : Nat} {b2 : Nat} {a3 : Option Addr} {c3 : Nat} {r : ((List (Int × Int)) × Int × Int)} (nt0_t0_0 : t0 ≠ t0_0) (nt0_0_t0 : t0_0 ≠ t0) (zt0 : 0 < t0) (zt0_0 : 0 < t0_0) (h1 : RowT (rP (rK .i64) (rK .i64)) s t0_0 119 a1 c1 p0.1) (bx2 : Bx s t0 b2 #[.slice a1 p0.1.length c1, .int .i64 p0.2.1, .int .i64 p0.2.2] 90) (h3 : RdL (rP (rK .i64) (rK .i64)) s a3 c3 p1) (hm : m_generate_assembler_put p0 p1 = some r) :
    Calls Try.prog 69 #[.pointer (some ⟨b2, 0, none⟩), .slice a3 p1.length c3] s.w (RetS (fun t => t = t0 ∨ t = t0_0) s fun v s' => ∃ (a4 : Option Addr) (c4 : Nat), v = .tuple #[] ∧ Bx s' t0 b2 #[.slice a4 r.1.length c4, .int .i64 r.2.1, .int .i64 r.2.2] 90 ∧ RowT (rP (rK .i64) (rK .i64)) s' t0_0 119 a4 c4 r.1) := by
 unfold m_generate_assembler_put at hm
 obtain ⟨N, hN, hNb, lt0, lt0_0, -⟩ := s.freshL [t0, t0_0]
 have m0 : Mv (Up N (fun t => t = t0 ∨ t = t0_0)) s s := Mv.refl _ _
 refine E.entry Try.func69 rfl Try.ntmps69 rfl rfl (E.seq (E.reg (L.mv Wt.no rfl rfl (L.len sl134 Wt.no rfl rfl (L.mv Wt.no rfl rfl (L.nil (X.seqN (E.block ?_))))))))
 obtain ⟨o43, eo43, hm⟩ := bindS hm
 refine E.cut (x := .exit 0) (fun e w => ∃ (s47 : Sig) (a45 : Option Addr) (c45 : Nat), Mv (Up N (fun t => t = t0 ∨ t = t0_0)) s s47 ∧ RowT (rP (rK .i64) (rK .i64)) s47 t0_0 119 a45 c45 o43 ∧ Bx s47 t0 b2 #[.slice a45 o43.length c45, .int .i64 p0.2.1, .int .i64 p0.2.2] 90 ∧ e = [] ∧ w = s47.w) ?_ ?_
 ·rintro _ _ ⟨s47, a45, c45, m0, h45, bx2, rfl, rfl⟩
  refine X.blkE ?_
  obtain rfl := Option.some.inj hm
  exact X.rt (.inr rfl) Try.results69 Rs.nil rfl ⟨_, (s47).ren N (fun _ => 0), rfl, rfl, m0.ren hNb, ⟨a45, c45, rfl, (bx2.renV lt0), (h45.renV hN lt0_0)⟩⟩
 intro K48
 refine E.iter (fun (st43 : Int × (List (Int × Int))) (e : List (Nat × Value)) (w : World) => ∃ (s46 : Sig) (a7 : Option Addr) (c7 : Nat), Mv (Up N (fun t => t = t0 ∨ t = t0_0)) s s46 ∧ RdL (rP (rK .i64) (rK .i64)) s46 a3 c3 p1 ∧ RowT (rP (rK .i64) (rK .i64)) s46 t0_0 119 a7 c7 st43.2 ∧ Bx s46 t0 b2 #[.slice a7 st43.2.length c7, .int .i64 p0.2.1, .int .i64 p0.2.2] 90 ∧ e = [(8, .int .i64 st43.1), (7, .int .i64 (p1.length : Int)), (6, .slice a3 p1.length c3), (0, .pointer (some ⟨b2, 0, none⟩))] ∧ w = s46.w) eo43 ⟨s, a1, c1, m0, h3, h1, bx2, rfl, rfl⟩ (Sub.rf rfl) ?_
 rintro st43 res43 hm ih43 ho43 _ _ ⟨s46, a7, c7, m0, h3, h7, bx2, rfl, rfl⟩
 unfold m_generate_assembler_put_l1 at hm
 refine E.seq (E.reg (L.bi Wt.no rfl rfl rfl rfl (L.nil (X.seqN (E.seq ?_)))))
 rcases ifS hm with ⟨hc, hm⟩ | ⟨hc, hm⟩
 ·refine E.cT rfl hc (E.skip (X.seqN (E.seq (E.block (E.seq (E.reg ?_))))))
  obtain ⟨x49, ex49, hm⟩ := bindS hm
  refine L.ix (r := (rP (rK .i64) (rK .i64))) sl134 h3 Wt.no rfl rfl ex49 rfl fun b50 o50 cc50 me50 rd50 => ?_
  obtain ⟨_, _, rfl, rfl, rfl⟩ := rd50
  refine L.lg (j := 0) (cs := [.int .i64 x49.1, .int .i64 x49.2]) me50 ag117 Wt.no rfl rfl rfl rfl rfl (L.al (N + 0) zz117 rfl Wt.no rfl fun b51 s52 m53 bx51 => ?_)
  replace m0 := m0.trans m53.no
  replace h3 := h3.mono (m53.le no_No)
  replace bx2 := bx2.mv m53 no_No
  replace h7 := h7.mv m53 no_No no_No
  refine L.st (c := [.int .i64 x49.1, .int .i64 x49.2]) (cs' := #[.int .i64 x49.1, .int .i64 x49.2]) bx51 ag117.sz Wt.no rfl rfl rfl rfl rfl (Nat.le_of_ble_eq_true rfl) rfl fun s54 m55 bx51 => ?_
  replace m0 := m0.trans (m55.one up)
  replace h3 := h3.mono (m55.le (tg0 hN))
  replace bx2 := bx2.mv m55 (tgV lt0)
  replace h7 := h7.mv m55 (tgV lt0_0) (tg0 hN)
  refine L.nil (X.seqN ?_)
  obtain ⟨x71, ex71, hm⟩ := bindS hm
  refine E.draw [[], [], [1], [1, 2], [1, 2, 3], [], [5], [], [7], [5, 6, 7, 8], [5, 6, 7, 8, 9], [1, 2, 3, 4, 5, 6, 7, 8, 9, 10], [0, 1, 2, 3, 4, 5, 6, 7, 8, 9, 10, 11], [0, 1, 2, 3, 4, 5, 6, 7, 8, 9, 10, 11, 12], [0, 1, 2, 3, 4, 5, 6, 7, 8, 9, 10, 11, 12, 13]] (fun D e sx => Mv (fun t => t = t0 ∨ t = t0_0) s54 sx ∧ Sub [(5, .pointer (some ⟨b51, 0, none⟩)), (8, .int .i64 st43.1), (7, .int .i64 (p1.length : Int)), (6, .slice a3 p1.length c3), (0, .pointer (some ⟨b2, 0, none⟩))] e ∧ (D 0 = true → (Env.get e 12 = some (.pointer (some ⟨b2, 0, none⟩)))) ∧ (D 1 = true → (Env.get e 13 = some (.pointer (some ⟨b2, 0, none⟩)))) ∧ (D 2 = true → (Env.get e 14 = some (.pointer (some ⟨b2, 0, none⟩)))) ∧ (D 3 = true → (Env.get e 15 = some (.pointer (some ⟨b2, 0, none⟩)))) ∧ (D 4 = true → (Env.get e 16 = some (.slice a7 st43.2.length c7))) ∧ (D 5 = true → (Env.get e 17 = some (.pointer (some ⟨b51, 0, none⟩)))) ∧ (D 6 = true → (Env.get e 18 = some (.int .i64 x49.1))) ∧ (D 7 = true → (Env.get e 19 = some (.pointer (some ⟨b51, 1, none⟩)))) ∧ (D 8 = true → (Env.get e 20 = some (.int .i64 x49.2))) ∧ (D 9 = true → (Env.get e 21 = some (.agg #[.int .i64 x49.1, .int .i64 x49.2]))) ∧ (D 10 = true → (∃ (b67 : Nat), Env.get e 22 = some (.slice (some ⟨b67, 0, none⟩) ([x49] : List (Int × Int)).length (([x49] : List (Int × Int)).length)) ∧ RdL (rP (rK .i64) (rK .i64)) sx (some ⟨b67, 0, none⟩) (([x49] : List (Int × Int)).length) ([x49] : List (Int × Int)))) ∧ (D 11 = true → (∃ (a72 : Option Addr) (c72 : Nat), Env.get e 23 = some (.slice a72 x71.length c72))) ∧ (D 12 = true → (Env.get e 24 = some (.pointer (some ⟨b2, 0, none⟩)))) ∧ (D 13 = true → (Env.get e 25 = some (.pointer (some ⟨b2, 0, none⟩)))) ∧ (D 14 = false → Bx sx t0 b2 #[.slice a7 st43.2.length c7, .int .i64 p0.2.1, .int .i64 p0.2.2] 90) ∧ (D 14 = true → ∀ (a72 : Option Addr) (c72 : Nat), Env.get e 23 = some (.slice a72 x71.length c72) → Bx sx t0 b2 #[.slice a72 x71.length c72, .int .i64 p0.2.1, .int .i64 p0.2.2] 90) ∧ (D 11 = false → RowT (rP (rK .i64) (rK .i64)) sx t0_0 119 a7 c7 st43.2) ∧ (D 11 = true → ∀ (a72 : Option Addr) (c72 : Nat), Env.get e 23 = some (.slice a72 x71.length c72) → RowT (rP (rK .i64) (rK .i64)) sx t0_0 119 a72 c72 x71)) (by kernel_rfl) (by kernel_rfl) (by kernel_rfl) ?_ ?_ ?_
  ·intro sz mz
   exact ⟨mz.no, (Sub.rf rfl), nofun, nofun, nofun, nofun, nofun, nofun, nofun, nofun, nofun, nofun, nofun, nofun, nofun, nofun, fun _ => bx2.mv mz no_No, nofun, fun _ => h7.mv mz no_No no_No, nofun⟩
  ·refine ⟨?_, ?_, ?_, ?_, ?_, ?_, ?_, ?_, ?_, ?_, ?_, ?_, ?_, ?_, ?_, trivial⟩
   ·rintro D e s56 ⟨im, ib, i0, t_⟩ hk hf ha
    have kn : Kn e [(0, .pointer (some ⟨b2, 0, none⟩))] := ⟨(ib 0 _ rfl), trivial⟩
    exact L.kns _ kn (L.mv Wt.no rfl rfl (L.nil (X.dk kn ⟨im, Sub.fresh ib rfl, fun _ => rfl, t_⟩)))
   ·rintro D e s57 ⟨im, ib, i0, i1, t_⟩ hk hf ha
    have kn : Kn e [(0, .pointer (some ⟨b2, 0, none⟩))] := ⟨(ib 0 _ rfl), trivial⟩
    exact L.kns _ kn (L.mv Wt.no rfl rfl (L.nil (X.dk kn ⟨im, Sub.fresh ib rfl, i0, fun _ => rfl, t_⟩)))
   ·rintro D e s58 ⟨im, ib, i0, i1, i2, t_⟩ hk hf ha
    obtain ⟨d1, -⟩ := ha
    have g1_ := i1 d1
    have kn : Kn e [(13, .pointer (some ⟨b2, 0, none⟩))] := ⟨g1_, trivial⟩
    exact L.kns _ kn (L.nc Wt.no rfl rfl (L.nil (X.dk kn ⟨im, Sub.fresh ib rfl, i0, i1, fun _ => rfl, t_⟩)))
   ·rintro D e s59 ⟨im, ib, i0, i1, i2, i3, t_⟩ hk hf ha
    obtain ⟨d1, d2, -⟩ := ha
    have g2_ := i2 d2
    have kn : Kn e [(14, .pointer (some ⟨b2, 0, none⟩))] := ⟨g2_, trivial⟩
    exact L.kns _ kn (L.fa fa90_0 Wt.no rfl rfl (L.nil (X.dk kn ⟨im, Sub.fresh ib rfl, i0, i1, i2, fun _ => rfl, t_⟩)))
   ·rintro D e s60 ⟨im, ib, i0, i1, i2, i3, i4, i5, i6, i7, i8, i9, i10, i11, i12, i13, i14, t_⟩ hk hf ha
    obtain ⟨d1, d2, d3, -⟩ := ha
    have g3_ := i3 d3
    obtain bx2 := i14 (hf 14 (Nat.le_of_ble_eq_true rfl) rfl)
    have kn : Kn e [(15, .pointer (some ⟨b2, 0, none⟩))] := ⟨g3_, trivial⟩
    exact L.kns _ kn (L.ld (j := 0) bx2.mem nag30 Wt.no rfl rfl rfl rfl (L.nil (X.dk kn ⟨im, Sub.fresh ib rfl, i0, i1, i2, i3, fun _ => rfl, i5, i6, i7, i8, i9, i10, i11, i12, i13, i14, t_⟩)))
   ·rintro D e s61 ⟨im, ib, i0, i1, i2, i3, i4, i5, t_⟩ hk hf ha
    have kn : Kn e [(5, .pointer (some ⟨b51, 0, none⟩))] := ⟨(ib 5 _ rfl), trivial⟩
    exact L.kns _ kn (L.ia ia117 Wt.no rfl rfl rfl rfl (L.nil (X.dk kn ⟨im, Sub.fresh ib rfl, i0, i1, i2, i3, i4, fun _ => rfl, t_⟩)))
   ·rintro D e s62 ⟨im, ib, i0, i1, i2, i3, i4, i5, i6, t_⟩ hk hf ha
    obtain ⟨d5, -⟩ := ha
    have g5_ := i5 d5
    have bx51 := bx51.mv im (nor (tgW lt0) (tgW lt0_0))
    have kn : Kn e [(17, .pointer (some ⟨b51, 0, none⟩))] := ⟨g5_, trivial⟩
    exact L.kns _ kn (L.ld (j := 0) bx51.mem nag3 Wt.no rfl rfl rfl rfl (L.nil (X.dk kn ⟨im, Sub.fresh ib rfl, i0, i1, i2, i3, i4, i5, fun _ => rfl, t_⟩)))
   ·rintro D e s63 ⟨im, ib, i0, i1, i2, i3, i4, i5, i6, i7, t_⟩ hk hf ha
    have kn : Kn e [(5, .pointer (some ⟨b51, 0, none⟩))] := ⟨(ib 5 _ rfl), trivial⟩
    exact L.kns _ kn (L.ia ia117 Wt.no rfl rfl rfl rfl (L.nil (X.dk kn ⟨im, Sub.fresh ib rfl, i0, i1, i2, i3, i4, i5, i6, fun _ => rfl, t_⟩)))
   ·rintro D e s64 ⟨im, ib, i0, i1, i2, i3, i4, i5, i6, i7, i8, t_⟩ hk hf ha
    obtain ⟨d7, -⟩ := ha
    have g7_ := i7 d7
    have bx51 := bx51.mv im (nor (tgW lt0) (tgW lt0_0))
    have kn : Kn e [(19, .pointer (some ⟨b51, 1, none⟩))] := ⟨g7_, trivial⟩
    exact L.kns _ kn (L.ld (j := 1) bx51.mem nag3 Wt.no rfl rfl rfl rfl (L.nil (X.dk kn ⟨im, Sub.fresh ib rfl, i0, i1, i2, i3, i4, i5, i6, i7, fun _ => rfl, t_⟩)))
   ·rintro D e s65 ⟨im, ib, i0, i1, i2, i3, i4, i5, i6, i7, i8, i9, t_⟩ hk hf ha
    obtain ⟨d5, d6, d7, d8, -⟩ := ha
    have g6_ := i6 d6
    have g8_ := i8 d8
    have kn : Kn e [(18, .int .i64 x49.1), (20, .int .i64 x49.2)] := ⟨g6_, g8_, trivial⟩
    exact L.kns _ kn (L.bu (cs := [.int .i64 x49.1, .int .i64 x49.2]) pl119 Wt.no rfl rfl rfl (L.nil (X.dk kn ⟨im, Sub.fresh ib rfl, i0, i1, i2, i3, i4, i5, i6, i7, i8, fun _ => rfl, t_⟩)))
   ·rintro D e s66 ⟨im, ib, i0, i1, i2, i3, i4, i5, i6, i7, i8, i9, i10, i11, i12, i13, i14, i15, i16, i17⟩ hk hf ha
    obtain ⟨d5, d6, d7, d8, d9, -⟩ := ha
    have g9_ := i9 d9
    have kn : Kn e [(21, .agg #[.int .i64 x49.1, .int .i64 x49.2])] := ⟨g9_, trivial⟩
    refine L.kns _ kn (L.bsE (k := 1) (cs := [.int .i64 x49.1, .int .i64 x49.2]) 0 bs30 (Nat.le_of_ble_eq_true rfl) Wt.no rfl rfl rfl rfl fun b67 s68 m69 bx67 => ?_)
    have h67 := Bx.rdL (r := (rP (rK .i64) (rK .i64))) (xs := ([x49] : List (Int × Int))) bx67 ⟨[.int .i64 x49.1, .int .i64 x49.2], _, rfl, ⟨[.int .i64 x49.1], [.int .i64 x49.2], rfl, rfl, rfl⟩, rfl⟩ (Nat.le_of_ble_eq_true rfl)
    exact L.nil (X.dk kn ⟨im.trans m69.no, Sub.fresh ib rfl, i0, i1, i2, i3, i4, i5, i6, i7, i8, i9, fun _ => ⟨b67, rfl, h67⟩, i11, i12, i13, fun z2 => ((i14 z2).mv m69 no_No), fun z a72 c72 q11 => ((i15 z a72 c72 q11).mv m69 no_No), fun z2 => ((i16 z2).mv m69 no_No no_No), fun z a72 c72 q11 => ((i17 z a72 c72 q11).mv m69 no_No no_No)⟩)
   ·rintro D e s70 ⟨im, ib, i0, i1, i2, i3, i4, i5, i6, i7, i8, i9, i10, i11, i12, i13, i14, i15, i16, i17⟩ hk hf ha
    obtain ⟨d1, d2, d3, d4, d5, d6, d7, d8, d9, d10, -⟩ := ha
    have g4_ := i4 d4
    obtain ⟨b67, g10_, h67⟩ := i10 d10
    obtain h7 := i16 hk
    have kn : Kn e [(16, .slice a7 st43.2.length c7), (22, .slice (some ⟨b67, 0, none⟩) ([x49] : List (Int × Int)).length (([x49] : List (Int × Int)).length))] := ⟨g4_, g10_, trivial⟩
    exact L.kns _ kn (L.ap (r := (rP (rK .i64) (rK .i64))) Try.underlying30 el119 rfl (tgpV zt0_0) h7 h67.wk Wt.no rfl rfl ex71 rfl fun a72 c72 s73 m74 h72 => L.nil (X.dk kn ⟨im.trans (m74.one (.inr rfl)), Sub.fresh ib rfl, i0, i1, i2, i3, i4, i5, i6, i7, i8, i9, fun z => let ⟨b67, q, h67⟩ := i10 z; ⟨b67, q, (h67.mono (m74.le (tgz zt0_0)))⟩, fun _ => ⟨a72, c72, rfl⟩, i12, i13, fun z2 => ((i14 z2).mv m74 nt0_t0_0), fun z => Bool.noConfusion ((hf 14 (Nat.le_of_ble_eq_true rfl) rfl).symm.trans z), fun z => Bool.noConfusion (show true = false from z), fun _ _ _ q11 => by cases (show some (.slice a72 x71.length c72 : Value) = some _ from q11); exact h72⟩))
   ·rintro D e s75 ⟨im, ib, i0, i1, i2, i3, i4, i5, i6, i7, i8, i9, i10, i11, i12, t_⟩ hk hf ha
    obtain ⟨d0, d1, d2, d3, d4, d5, d6, d7, d8, d9, d10, d11, -⟩ := ha
    have g0_ := i0 d0
    have kn : Kn e [(12, .pointer (some ⟨b2, 0, none⟩))] := ⟨g0_, trivial⟩
    exact L.kns _ kn (L.nc Wt.no rfl rfl (L.nil (X.dk kn ⟨im, Sub.fresh ib rfl, i0, i1, i2, i3, i4, i5, i6, i7, i8, i9, i10, i11, fun _ => rfl, t_⟩)))
   ·rintro D e s76 ⟨im, ib, i0, i1, i2, i3, i4, i5, i6, i7, i8, i9, i10, i11, i12, i13, t_⟩ hk hf ha
    obtain ⟨d0, d1, d2, d3, d4, d5, d6, d7, d8, d9, d10, d11, d12, -⟩ := ha
    have g12_ := i12 d12
    have kn : Kn e [(24, .pointer (some ⟨b2, 0, none⟩))] := ⟨g12_, trivial⟩
    exact L.kns _ kn (L.fa fa90_0 Wt.no rfl rfl (L.nil (X.dk kn ⟨im, Sub.fresh ib rfl, i0, i1, i2, i3, i4, i5, i6, i7, i8, i9, i10, i11, i12, fun _ => rfl, t_⟩)))
   ·rintro D e s77 ⟨im, ib, i0, i1, i2, i3, i4, i5, i6, i7, i8, i9, i10, i11, i12, i13, i14, i15, i16, i17⟩ hk hf ha
    obtain ⟨d0, d1, d2, d3, d4, d5, d6, d7, d8, d9, d10, d11, d12, d13, -⟩ := ha
    obtain ⟨a72, c72, g11_⟩ := i11 d11
    have g13_ := i13 d13
    obtain bx2 := i14 hk
    have kn : Kn e [(25, .pointer (some ⟨b2, 0, none⟩)), (23, .slice a72 x71.length c72)] := ⟨g13_, g11_, trivial⟩
    exact L.kns _ kn (L.st (c := [.slice a72 x71.length c72]) (cs' := #[.slice a72 x71.length c72, .int .i64 p0.2.1, .int .i64 p0.2.2]) bx2 nag30.sz Wt.no rfl rfl rfl rfl rfl (Nat.le_of_ble_eq_true rfl) rfl fun s78 m79 bx2 => L.nil (X.dn kn ⟨im.trans (m79.one (.inl rfl)), ib, i0, i1, i2, i3, i4, i5, i6, i7, i8, i9, fun z => let ⟨b67, q, h67⟩ := i10 z; ⟨b67, q, (h67.mono (m79.le (tgz zt0)))⟩, i11, i12, i13, fun z => Bool.noConfusion (show true = false from z), fun _ _ _ q11 => by cases g11_.symm.trans q11; exact bx2, fun z2 => ((i16 z2).mv m79 nt0_0_t0 (tgz zt0)), fun z a72 c72 q11 => ((i17 z a72 c72 q11).mv m79 nt0_0_t0 (tgz zt0))⟩))
  ·rintro D e s80 hD ⟨im, ib, i0, i1, i2, i3, i4, i5, i6, i7, i8, i9, i10, i11, i12, i13, i14, i15, i16, i17⟩
   obtain ⟨a72, c72, g11_⟩ := i11 (hD 11 rfl)
   obtain bx2 := i15 (hD 14 rfl) a72 c72 g11_
   obtain h72 := i17 (hD 11 rfl) a72 c72 g11_
   have h3 := h3.mono (im.le (nor (tgz zt0) (tgz zt0_0)))
   have m0 := m0.trans (im.weak fun _ e => by rcases e with e | e; (rw [e]; exact (.inr (.inl rfl))); (rw [e]; exact (.inr (.inr rfl))))
   refine X.sub (e' := [(8, .int .i64 st43.1), (7, .int .i64 (p1.length : Int)), (6, .slice a3 p1.length c3), (0, .pointer (some ⟨b2, 0, none⟩))]) ?_ (Sub.cons (ib 8 _ rfl) (Sub.cons (ib 7 _ rfl) (Sub.cons (ib 6 _ rfl) (Sub.cons (ib 0 _ rfl) Sub.nil))))
   exact X.blkN (X.seqN (E.reg (L.bi Wt.no rfl rfl rfl rfl (L.mv Wt.no rfl rfl (L.nil (X.sub (ih43 _ (Option.some.inj hm).symm _ _ ⟨s80, a72, c72, m0, h3, h72, bx2, rfl, rfl⟩) (Sub.rf rfl)))))))
 ·refine E.cF rfl hc (E.exit (X.seqX (X.seqX ?_)))
  have hx := ho43 _ (Option.some.inj hm).symm
  subst hx
  exact X.sub (K48 _ _ ⟨s46, a7, c7, m0, h7, bx2, rfl, rfl⟩) Sub.nil

end Go.Proofs.Ytkkemchihllklaa

