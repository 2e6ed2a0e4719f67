/- Parts of the proof, without what nothing here names. -/
import Derived.Test.YthchkddhibhenaaProg
import Derived.Shelf.Sort.Plain
import Derived.Shelf.Slices.In.SortNone
import Derived.Shelf.SlSortCmp.NoneTotal
import Derived.Ground.SlsfProg
import Derived.Test.YthchkddhibhenaaQcm2
namespace Go.Proofs.Ythchkddhibhenaa
open Go Go.RowKit
theorem ag31 : Ag Try.prog 31 4 := Ag.mk' Try.underlying31 rfl (by kernel_rfl)
theorem bs28 : Bs Try.prog 28 3 1 [.int .i64 0] := Bs.mk' Try.underlying28 (by kernel_rfl) (by kernel_rfl) rfl
theorem bs29 : Bs Try.prog 29 45 3 [.int .i64 0, .int .i64 0, .int .i64 0] := Bs.mk' Try.underlying29 (by kernel_rfl) (by kernel_rfl) rfl
theorem el3 : El Try.prog 3 1 8 := El.mk' (z := .int .i64 0) (by kernel_rfl) (by kernel_rfl) (by kernel_rfl) rfl
theorem el45 : El Try.prog 45 3 24 := El.mk' (z := .agg #[.int .i64 0, .int .i64 0, .int .i64 0]) (by kernel_rfl) (by kernel_rfl) (by kernel_rfl) rfl
theorem pl31 : Pl Try.prog 31 [(0, 1), (1, 1), (2, 1), (3, 1)] [.slice none 0 0, .int .i64 0, .slice none 0 0, .slice none 0 0] := Pl.str Try.underlying31 (by kernel_rfl) (by kernel_rfl)
theorem pl45 : Pl Try.prog 45 [(0, 1), (1, 1), (2, 1)] [.int .i64 0, .int .i64 0, .int .i64 0] := Pl.str Try.underlying45 (by kernel_rfl) (by kernel_rfl)
theorem zz31 : (Try.prog.info? 31).bind (·.zero) = some (.agg #[.slice none 0 0, .int .i64 0, .slice none 0 0, .slice none 0 0]) := by kernel_rfl
/-- What overseerlaw04.example computes. -/
noncomputable def m_overseerlaw04_example : Option (List Int × Int × List Int × (List (Int × Int × Int))) :=
  some (([0, 1] : List Int), 4, ([1] : List Int), ([(0, 0, 1), (0, 1, 2), (1, 0, 1), (2, 0, 3), (3, 1, 2)] : List (Int × Int × Int)))
set_option maxRecDepth 100000 in
set_option maxHeartbeats 8000000 in
theorem m_overseerlaw04_example_c {s : Sig} {r : (List Int × Int × List Int × (List (Int × Int × Int)))} (hm : m_overseerlaw04_example = some r) :
    Calls Try.prog 46 #[] s.w (RetS No s fun v s' => ∃ (a1 : Option Addr) (c1 : Nat) (a2 : Option Addr) (c2 : Nat) (a3 : Option Addr) (c3 : Nat), v = .agg #[.slice a1 r.1.length c1, .int .i64 r.2.1, .slice a2 r.2.2.1.length c2, .slice a3 r.2.2.2.length c3] ∧ RdL (rK .i64) s' a1 c1 r.1 ∧ RdL (rK .i64) s' a2 c2 r.2.2.1 ∧ RdL (rP (rK .i64) (rP (rK .i64) (rK .i64))) s' a3 c3 r.2.2.2) := by
  unfold m_overseerlaw04_example at hm
  obtain ⟨N, hN, hNb⟩ := s.fresh
  have m0 : Mv (Up N No) s s := Mv.refl _ _
  refine E.entry (vs := []) (e := []) Try.func46 rfl Try.ntmps46 rfl rfl ?_
  refine E.seq ?_
  refine E.reg ?_
  refine L.al (N + 0) zz31 rfl Wt.no rfl ?_
  intro b4 s5 m6 bx4
  replace m0 := m0.trans m6.no
  refine L.nil ?_
  refine X.seqN ?_
  refine E.seq ?_
  refine E.reg ?_
  refine L.bsE (k := 2) (cs := [.int .i64 0, .int .i64 1]) 0 bs28 (Nat.le_of_ble_eq_true rfl) Wt.no rfl rfl rfl rfl ?_
  intro b7 s8 m9 bx7
  replace m0 := m0.trans m9.no
  replace bx4 := bx4.mv m9 no_No
  have h7 := Bx.rdL (r := (rK .i64)) (xs := ([0, 1] : List Int)) bx7 ⟨[.int .i64 0], _, rfl, rfl, ⟨[.int .i64 1], _, rfl, rfl, rfl⟩⟩ (Nat.le_of_ble_eq_true rfl)
  refine L.bsE (k := 1) (cs := [.int .i64 1]) 0 bs28 (Nat.le_of_ble_eq_true rfl) Wt.no rfl rfl rfl rfl ?_
  intro b10 s11 m12 bx10
  replace m0 := m0.trans m12.no
  replace h7 := h7.mono (m12.le no_No)
  replace bx4 := bx4.mv m12 no_No
  have h10 := Bx.rdL (r := (rK .i64)) (xs := ([1] : List Int)) bx10 ⟨[.int .i64 1], _, rfl, rfl, rfl⟩ (Nat.le_of_ble_eq_true rfl)
  refine L.bu (cs := [.int .i64 0, .int .i64 0, .int .i64 1]) pl45 Wt.no rfl rfl rfl ?_
  refine L.bu (cs := [.int .i64 0, .int .i64 1, .int .i64 2]) pl45 Wt.no rfl rfl rfl ?_
  refine L.bu (cs := [.int .i64 1, .int .i64 0, .int .i64 1]) pl45 Wt.no rfl rfl rfl ?_
  refine L.bu (cs := [.int .i64 2, .int .i64 0, .int .i64 3]) pl45 Wt.no rfl rfl rfl ?_
  refine L.bu (cs := [.int .i64 3, .int .i64 1, .int .i64 2]) pl45 Wt.no rfl rfl rfl ?_
  refine L.bsE (k := 5) (cs := [.int .i64 0, .int .i64 0, .int .i64 1, .int .i64 0, .int .i64 1, .int .i64 2, .int .i64 1, .int .i64 0, .int .i64 1, .int .i64 2, .int .i64 0, .int .i64 3, .int .i64 3, .int .i64 1, .int .i64 2]) 0 bs29 (Nat.le_of_ble_eq_true rfl) Wt.no rfl rfl rfl rfl ?_
  intro b13 s14 m15 bx13
  replace m0 := m0.trans m15.no
  replace h7 := h7.mono (m15.le no_No)
  replace h10 := h10.mono (m15.le no_No)
  replace bx4 := bx4.mv m15 no_No
  have h13 := Bx.rdL (r := (rP (rK .i64) (rP (rK .i64) (rK .i64)))) (xs := ([(0, 0, 1), (0, 1, 2), (1, 0, 1), (2, 0, 3), (3, 1, 2)] : List (Int × Int × Int))) bx13 ⟨[.int .i64 0, .int .i64 0, .int .i64 1], _, rfl, ⟨[.int .i64 0], [.int .i64 0, .int .i64 1], rfl, rfl, ⟨[.int .i64 0], [.int .i64 1], rfl, rfl, rfl⟩⟩, ⟨[.int .i64 0, .int .i64 1, .int .i64 2], _, rfl, ⟨[.int .i64 0], [.int .i64 1, .int .i64 2], rfl, rfl, ⟨[.int .i64 1], [.int .i64 2], rfl, rfl, rfl⟩⟩, ⟨[.int .i64 1, .int .i64 0, .int .i64 1], _, rfl, ⟨[.int .i64 1], [.int .i64 0, .int .i64 1], rfl, rfl, ⟨[.int .i64 0], [.int .i64 1], rfl, rfl, rfl⟩⟩, ⟨[.int .i64 2, .int .i64 0, .int .i64 3], _, rfl, ⟨[.int .i64 2], [.int .i64 0, .int .i64 3], rfl, rfl, ⟨[.int .i64 0], [.int .i64 3], rfl, rfl, rfl⟩⟩, ⟨[.int .i64 3, .int .i64 1, .int .i64 2], _, rfl, ⟨[.int .i64 3], [.int .i64 1, .int .i64 2], rfl, rfl, ⟨[.int .i64 1], [.int .i64 2], rfl, rfl, rfl⟩⟩, rfl⟩⟩⟩⟩⟩ (Nat.le_of_ble_eq_true rfl)
  refine L.bu (cs := [.slice (some ⟨b7, 0, none⟩) ([0, 1] : List Int).length (([0, 1] : List Int).length), .int .i64 4, .slice (some ⟨b10, 0, none⟩) ([1] : List Int).length (([1] : List Int).length), .slice (some ⟨b13, 0, none⟩) ([(0, 0, 1), (0, 1, 2), (1, 0, 1), (2, 0, 3), (3, 1, 2)] : List (Int × Int × Int)).length (([(0, 0, 1), (0, 1, 2), (1, 0, 1), (2, 0, 3), (3, 1, 2)] : List (Int × Int × Int)).length)]) pl31 Wt.no rfl rfl rfl ?_
  refine L.st (c := [.slice (some ⟨b7, 0, none⟩) ([0, 1] : List Int).length (([0, 1] : List Int).length), .int .i64 4, .slice (some ⟨b10, 0, none⟩) ([1] : List Int).length (([1] : List Int).length), .slice (some ⟨b13, 0, none⟩) ([(0, 0, 1), (0, 1, 2), (1, 0, 1), (2, 0, 3), (3, 1, 2)] : List (Int × Int × Int)).length (([(0, 0, 1), (0, 1, 2), (1, 0, 1), (2, 0, 3), (3, 1, 2)] : List (Int × Int × Int)).length)]) (cs' := #[.slice (some ⟨b7, 0, none⟩) ([0, 1] : List Int).length (([0, 1] : List Int).length), .int .i64 4, .slice (some ⟨b10, 0, none⟩) ([1] : List Int).length (([1] : List Int).length), .slice (some ⟨b13, 0, none⟩) ([(0, 0, 1), (0, 1, 2), (1, 0, 1), (2, 0, 3), (3, 1, 2)] : List (Int × Int × Int)).length (([(0, 0, 1), (0, 1, 2), (1, 0, 1), (2, 0, 3), (3, 1, 2)] : List (Int × Int × Int)).length)]) bx4 ag31.sz Wt.no rfl rfl rfl rfl rfl (Nat.le_of_ble_eq_true rfl) rfl ?_
  intro s16 m17 bx4
  replace m0 := m0.trans (m17.one up)
  replace h7 := h7.mono (m17.le (tg0 hN))
  replace h10 := h10.mono (m17.le (tg0 hN))
  replace h13 := h13.mono (m17.le (tg0 hN))
  refine L.nil ?_
  refine X.seqN ?_
  refine E.ret ?_
  obtain rfl := Option.some.inj hm
  exact X.rt (.inl rfl) Try.results46 (Rs.cell rfl bx4 ag31 rfl Rs.nil) rfl ⟨_, (s16).ren N (fun _ => 0), rfl, rfl, m0.ren hNb, ⟨(some ⟨b7, 0, none⟩), ([0, 1] : List Int).length, (some ⟨b10, 0, none⟩), ([1] : List Int).length, (some ⟨b13, 0, none⟩), ([(0, 0, 1), (0, 1, 2), (1, 0, 1), (2, 0, 3), (3, 1, 2)] : List (Int × Int × Int)).length, rfl, (h7.ren hN), (h10.ren hN), (h13.ren hN)⟩⟩

theorem nag3 : NAg Try.prog 3 := NAg.mk' Try.underlying3 rfl (by kernel_rfl)
theorem sl28 : Sl Try.prog 28 3 1 := Sl.mk' Try.underlying28 (by kernel_rfl)
noncomputable def m_automaton_checkSet_l1 (p0 : List Int) (p1 : Int) (st13 : Int) : Option (Int ⊕ (Unit ⊕ Int)) :=
  if decide (st13 < (p0.length : Int)) then
    (idx p0 st13).bind fun x22 =>
    if ((decide (x22 < 0)) || (decide (x22 ≥ p1))) then
      some (.inr (.inr (2)))
    else
      (if decide (st13 > 0) then
        (idx p0 (W (st13 - 1))).bind fun x28 =>
        some (decide (x22 ≤ x28))
      else
        some false).bind fun b25 =>
      if b25 then
        some (.inr (.inr (5)))
      else
        some (.inl (W (st13 + 1)))
  else
    some (.inr (.inl ()))
/-- What automaton.checkSet computes. -/
noncomputable def m_automaton_checkSet (p0 : List Int) (p1 : Int) : Option Int :=
  (iter (m_automaton_checkSet_l1 p0 p1) 0).bind fun o13 =>
  match o13 with
  | .inl u16 =>
    some 0
  | .inr (u19) =>
    some u19
set_option maxRecDepth 100000 in
set_option maxHeartbeats 8000000 in
theorem m_automaton_checkSet_c {s : Sig} {p0 : List Int} {p1 : Int} {a1 : Option Addr} {c1 : Nat} {r : Int} (h1 : RdL (rK .i64) s a1 c1 p0) (hm : m_automaton_checkSet p0 p1 = some r) :
    Calls Try.prog 77 #[.slice a1 p0.length c1, .int .i64 p1] s.w (RetS No s fun v s' => v = .int .i64 r) := by
  unfold m_automaton_checkSet at hm
  obtain ⟨N, hN, hNb⟩ := s.fresh
  have m0 : Mv (Up N No) s s := Mv.refl _ _
  refine E.entry (vs := [.slice a1 p0.length c1, .int .i64 p1]) (e := [(0, .slice a1 p0.length c1), (1, .int .i64 p1)]) Try.func77 rfl Try.ntmps77 rfl rfl ?_
  refine E.seq ?_
  refine E.reg ?_
  refine L.as Wt.no rfl rfl ?_
  refine L.nil ?_
  refine X.seqN ?_
  refine E.seq ?_
  refine E.seq ?_
  refine E.reg ?_
  refine L.mv Wt.no rfl rfl ?_
  refine L.len sl28 Wt.no rfl rfl ?_
  refine L.mv Wt.no rfl rfl ?_
  refine L.nil ?_
  refine X.seqN ?_
  refine E.block ?_
  obtain ⟨o13, eo13, hm⟩ := bindS hm
  refine E.cut (x := .exit 0) (fun e w => ∃ (s17 : Sig) (u16 : Unit), o13 = .inl u16 ∧ Mv (Up N No) s s17 ∧ e = [] ∧ w = s17.w) ?_ ?_
  · rintro _ _ ⟨s17, u16, rfl, m0, rfl, rfl⟩
    dsimp only at hm
    refine X.blkE ?_
    refine X.seqN ?_
    refine E.seq ?_
    refine E.reg ?_
    refine L.as Wt.no rfl rfl ?_
    refine L.nil ?_
    refine X.seqN ?_
    refine E.ret ?_
    obtain rfl := Option.some.inj hm
    exact X.rt (.inl rfl) Try.results77 (Rs.tmp rfl Rs.nil) rfl ⟨_, (s17).ren N (fun _ => 0), rfl, rfl, m0.ren hNb, rfl⟩
  intro K18
  refine E.cut (x := .ret) (fun e w => ∃ (s20 : Sig) (u19 : Int), o13 = .inr (u19) ∧ Mv (Up N No) s s20 ∧ e = [(4, .int .i64 u19)] ∧ w = s20.w) ?_ ?_
  · rintro _ _ ⟨s20, u19, rfl, m0, rfl, rfl⟩
    dsimp only at hm
    refine X.blkR ?_
    refine X.seqR ?_
    obtain rfl := Option.some.inj hm
    exact X.rt (.inl rfl) Try.results77 (Rs.tmp rfl Rs.nil) rfl ⟨_, (s20).ren N (fun _ => 0), rfl, rfl, m0.ren hNb, rfl⟩
  intro K21
  refine E.iter (fun (st13 : Int) (e : List (Nat × Value)) (w : World) => ∃ (s15 : Sig), Mv (Up N No) s s15 ∧ RdL (rK .i64) s15 a1 c1 p0 ∧ e = [(9, .int .i64 st13), (8, .int .i64 (p0.length : Int)), (7, .slice a1 p0.length c1), (0, .slice a1 p0.length c1), (1, .int .i64 p1)] ∧ w = s15.w) eo13 ⟨s, m0, h1, rfl, rfl⟩ (Sub.cons rfl (Sub.cons rfl (Sub.cons rfl (Sub.cons rfl (Sub.cons rfl Sub.nil))))) ?_
  rintro st13 res13 hm ih13 ho13 _ _ ⟨s15, m0, h1, rfl, rfl⟩
  unfold m_automaton_checkSet_l1 at hm
  refine E.seq ?_
  refine E.reg ?_
  refine L.bi Wt.no rfl rfl rfl rfl ?_
  refine L.nil ?_
  refine X.seqN ?_
  refine E.seq ?_
  rcases ifS hm with ⟨hc, hm⟩ | ⟨hc, hm⟩
  · refine E.cT rfl hc ?_
    refine E.skip ?_
    refine X.seqN ?_
    refine E.seq ?_
    refine E.block ?_
    refine E.seq ?_
    refine E.reg ?_
    refine L.mv Wt.no rfl rfl ?_
    obtain ⟨x22, ex22, hm⟩ := bindS hm
    refine L.ix (r := (rK .i64)) sl28 h1 Wt.no rfl rfl ex22 rfl ?_
    rintro b23 o23 cc23 me23 rd23
    obtain rfl := rd23
    refine L.ld (j := 0) me23 nag3 Wt.no rfl rfl rfl rfl ?_
    refine L.as Wt.no rfl rfl ?_
    refine L.as Wt.no rfl rfl ?_
    refine L.nil ?_
    refine X.seqN ?_
    refine E.block ?_
    refine E.seq ?_
    refine E.reg ?_
    refine L.mv Wt.no rfl rfl ?_
    refine L.bi Wt.no rfl rfl rfl rfl ?_
    refine L.mv Wt.no rfl rfl ?_
    refine L.cut 4 (fun e w => ∃ (v24 : Bool), ((decide (x22 < 0)) || (decide (x22 ≥ p1))) = v24 ∧ e = (21, .bool v24) :: [(6, .int .i64 x22), (5, .int .i64 st13), (9, .int .i64 st13), (8, .int .i64 (p0.length : Int)), (7, .slice a1 p0.length c1), (0, .slice a1 p0.length c1), (1, .int .i64 p1)] ∧ w = s15.w) ?_ ?_
    · rintro _ _ ⟨v24, rfl, rfl, rfl⟩
      refine L.as Wt.no rfl rfl ?_
      refine L.nil ?_
      refine X.seqN ?_
      rcases ifS hm with ⟨hc, hm⟩ | ⟨hc, hm⟩
      · refine E.cT rfl hc ?_
        refine E.seq ?_
        refine E.reg ?_
        refine L.as Wt.no rfl rfl ?_
        refine L.nil ?_
        refine X.seqN ?_
        refine E.ret ?_
        refine X.blkR ?_
        refine X.blkR ?_
        refine X.seqR ?_
        refine X.seqR ?_
        have hx := ho13 _ (Option.some.inj hm).symm
        exact X.sub (K21 _ _ ⟨s15, 2, hx.symm, m0, rfl, rfl⟩) (Sub.cons rfl Sub.nil)
      · refine E.cF rfl hc ?_
        refine E.seq ?_
        refine E.reg ?_
        refine L.mv Wt.no rfl rfl ?_
        refine L.bi Wt.no rfl rfl rfl rfl ?_
        refine L.mv Wt.no rfl rfl ?_
        obtain ⟨b25, eb25, hm⟩ := bindS hm
        refine L.cut 8 (fun e w => ∃ (v26 : Bool), b25 = v26 ∧ e = (33, .bool v26) :: [(9, .int .i64 st13), (8, .int .i64 (p0.length : Int)), (7, .slice a1 p0.length c1), (0, .slice a1 p0.length c1), (1, .int .i64 p1)] ∧ w = s15.w) ?_ ?_
        · rintro _ _ ⟨v26, rfl, rfl, rfl⟩
          refine L.as Wt.no rfl rfl ?_
          refine L.nil ?_
          refine X.seqN ?_
          rcases ifS hm with ⟨hc, hm⟩ | ⟨hc, hm⟩
          · refine E.cT rfl hc ?_
            refine E.seq ?_
            refine E.reg ?_
            refine L.as Wt.no rfl rfl ?_
            refine L.nil ?_
            refine X.seqN ?_
            refine E.ret ?_
            refine X.blkR ?_
            refine X.blkR ?_
            refine X.seqR ?_
            refine X.seqR ?_
            have hx := ho13 _ (Option.some.inj hm).symm
            exact X.sub (K21 _ _ ⟨s15, 5, hx.symm, m0, rfl, rfl⟩) (Sub.cons rfl Sub.nil)
          · refine E.cF rfl hc ?_
            refine E.skip ?_
            refine X.blkN ?_
            refine X.blkN ?_
            refine X.seqN ?_
            refine E.reg ?_
            refine L.bi Wt.no rfl rfl rfl rfl ?_
            refine L.mv Wt.no rfl rfl ?_
            refine L.nil ?_
            exact X.sub (ih13 _ (Option.some.inj hm).symm _ _ ⟨s15, m0, h1, rfl, rfl⟩) (Sub.cons rfl (Sub.cons rfl (Sub.cons rfl (Sub.cons rfl (Sub.cons rfl Sub.nil)))))
        · intro J27
          rcases ifS eb25 with ⟨hc, hm⟩ | ⟨hc, hm⟩
          · refine L.know (d := 25) rfl hc ?_
            refine L.mv (Wt.mk rfl rfl) rfl rfl ?_
            refine L.mv (Wt.mk rfl rfl) rfl rfl ?_
            refine L.mv (Wt.mk rfl rfl) rfl rfl ?_
            refine L.bi (Wt.mk rfl rfl) rfl rfl rfl rfl ?_
            obtain ⟨x28, ex28, hm⟩ := bindS hm
            refine L.ix (r := (rK .i64)) sl28 h1 (Wt.mk rfl rfl) rfl rfl ex28 rfl ?_
            rintro b29 o29 cc29 me29 rd29
            obtain rfl := rd29
            refine L.ld (j := 0) me29 nag3 (Wt.mk rfl rfl) rfl rfl rfl rfl ?_
            refine L.bi (Wt.mk rfl rfl) rfl rfl rfl rfl ?_
            refine L.pkT Wt.no rfl rfl rfl rfl ?_
            exact L.sub (Sub.cons rfl (Sub.cons rfl (Sub.cons rfl (Sub.cons rfl (Sub.cons rfl (Sub.cons rfl Sub.nil)))))) (J27 _ _ ⟨(decide (x22 ≤ x28)), (Option.some.inj hm).symm, rfl, rfl⟩)
          · refine L.know (d := 25) rfl hc ?_
            refine L.skip rfl rfl rfl rfl ?_
            refine L.skip rfl rfl rfl rfl ?_
            refine L.skip rfl rfl rfl rfl ?_
            refine L.skip rfl rfl rfl rfl ?_
            refine L.skip rfl rfl rfl rfl ?_
            refine L.skip rfl rfl rfl rfl ?_
            refine L.skip rfl rfl rfl rfl ?_
            refine L.pkF Wt.no rfl rfl rfl rfl ?_
            exact L.sub (Sub.cons rfl (Sub.cons rfl (Sub.cons rfl (Sub.cons rfl (Sub.cons rfl (Sub.cons rfl Sub.nil)))))) (J27 _ _ ⟨false, (Option.some.inj hm).symm, rfl, rfl⟩)
    · intro J30
      rcases Bool.eq_false_or_eq_true (decide (x22 < 0)) with hc | hc
      · refine L.know (d := 17) rfl hc ?_
        refine L.skip rfl rfl rfl rfl ?_
        refine L.skip rfl rfl rfl rfl ?_
        refine L.skip rfl rfl rfl rfl ?_
        refine L.pkT Wt.no rfl rfl rfl rfl ?_
        exact L.sub (Sub.cons rfl (Sub.cons rfl (Sub.cons rfl (Sub.cons rfl (Sub.cons rfl (Sub.cons rfl (Sub.cons rfl (Sub.cons rfl Sub.nil)))))))) (J30 _ _ ⟨true, (orT hc).symm, rfl, rfl⟩)
      · refine L.know (d := 17) rfl hc ?_
        refine L.mv (Wt.mk rfl rfl) rfl rfl ?_
        refine L.mv (Wt.mk rfl rfl) rfl rfl ?_
        refine L.bi (Wt.mk rfl rfl) rfl rfl rfl rfl ?_
        refine L.pkF Wt.no rfl rfl rfl rfl ?_
        exact L.sub (Sub.cons rfl (Sub.cons rfl (Sub.cons rfl (Sub.cons rfl (Sub.cons rfl (Sub.cons rfl (Sub.cons rfl (Sub.cons rfl Sub.nil)))))))) (J30 _ _ ⟨(decide (x22 ≥ p1)), (orF hc).symm, rfl, rfl⟩)
  · refine E.cF rfl hc ?_
    refine E.exit ?_
    refine X.seqX ?_
    refine X.seqX ?_
    have hx := ho13 _ (Option.some.inj hm).symm
    exact X.sub (K18 _ _ ⟨s15, (), hx.symm, m0, rfl, rfl⟩) Sub.nil

noncomputable def m_slices_Index_int_l1 (p0 : List Int) (p1 : Int) (st6 : Int) : Option (Int ⊕ (Unit ⊕ Int)) :=
  if decide (st6 < (p0.length : Int)) then
    (idx p0 st6).bind fun x15 =>
    if (p1 == x15) then
      some (.inr (.inr (st6)))
    else
      some (.inl (W (st6 + 1)))
  else
    some (.inr (.inl ()))
/-- What slices.Index<<>int,int> computes. -/
noncomputable def m_slices_Index_int (p0 : List Int) (p1 : Int) : Option Int :=
  (iter (m_slices_Index_int_l1 p0 p1) 0).bind fun o6 =>
  match o6 with
  | .inl u9 =>
    some (-1)
  | .inr (u12) =>
    some u12
set_option maxRecDepth 100000 in
set_option maxHeartbeats 8000000 in
theorem m_slices_Index_int_c {s : Sig} {p0 : List Int} {p1 : Int} {a1 : Option Addr} {c1 : Nat} {r : Int} (h1 : RdL (rK .i64) s a1 c1 p0) (hm : m_slices_Index_int p0 p1 = some r) :
    Calls Try.prog 80 #[.slice a1 p0.length c1, .int .i64 p1] s.w (RetS No s fun v s' => v = .int .i64 r) := by
  unfold m_slices_Index_int at hm
  obtain ⟨N, hN, hNb⟩ := s.fresh
  have m0 : Mv (Up N No) s s := Mv.refl _ _
  refine E.entry (vs := [.slice a1 p0.length c1, .int .i64 p1]) (e := [(0, .slice a1 p0.length c1), (1, .int .i64 p1)]) Try.func80 rfl Try.ntmps80 rfl rfl ?_
  refine E.seq ?_
  refine E.reg ?_
  refine L.as Wt.no rfl rfl ?_
  refine L.nil ?_
  refine X.seqN ?_
  refine E.seq ?_
  refine E.seq ?_
  refine E.reg ?_
  refine L.mv Wt.no rfl rfl ?_
  refine L.len sl28 Wt.no rfl rfl ?_
  refine L.mv Wt.no rfl rfl ?_
  refine L.nil ?_
  refine X.seqN ?_
  refine E.block ?_
  obtain ⟨o6, eo6, hm⟩ := bindS hm
  refine E.cut (x := .exit 0) (fun e w => ∃ (s10 : Sig) (u9 : Unit), o6 = .inl u9 ∧ Mv (Up N No) s s10 ∧ e = [] ∧ w = s10.w) ?_ ?_
  · rintro _ _ ⟨s10, u9, rfl, m0, rfl, rfl⟩
    dsimp only at hm
    refine X.blkE ?_
    refine X.seqN ?_
    refine E.seq ?_
    refine E.reg ?_
    refine L.as Wt.no rfl rfl ?_
    refine L.nil ?_
    refine X.seqN ?_
    refine E.ret ?_
    obtain rfl := Option.some.inj hm
    exact X.rt (.inl rfl) Try.results80 (Rs.tmp rfl Rs.nil) rfl ⟨_, (s10).ren N (fun _ => 0), rfl, rfl, m0.ren hNb, rfl⟩
  intro K11
  refine E.cut (x := .ret) (fun e w => ∃ (s13 : Sig) (u12 : Int), o6 = .inr (u12) ∧ Mv (Up N No) s s13 ∧ e = [(4, .int .i64 u12)] ∧ w = s13.w) ?_ ?_
  · rintro _ _ ⟨s13, u12, rfl, m0, rfl, rfl⟩
    dsimp only at hm
    refine X.blkR ?_
    refine X.seqR ?_
    obtain rfl := Option.some.inj hm
    exact X.rt (.inl rfl) Try.results80 (Rs.tmp rfl Rs.nil) rfl ⟨_, (s13).ren N (fun _ => 0), rfl, rfl, m0.ren hNb, rfl⟩
  intro K14
  refine E.iter (fun (st6 : Int) (e : List (Nat × Value)) (w : World) => ∃ (s8 : Sig), Mv (Up N No) s s8 ∧ RdL (rK .i64) s8 a1 c1 p0 ∧ e = [(8, .int .i64 st6), (7, .int .i64 (p0.length : Int)), (0, .slice a1 p0.length c1), (1, .int .i64 p1)] ∧ w = s8.w) eo6 ⟨s, m0, h1, rfl, rfl⟩ (Sub.cons rfl (Sub.cons rfl (Sub.cons rfl (Sub.cons rfl Sub.nil)))) ?_
  rintro st6 res6 hm ih6 ho6 _ _ ⟨s8, m0, h1, rfl, rfl⟩
  unfold m_slices_Index_int_l1 at hm
  refine E.seq ?_
  refine E.reg ?_
  refine L.bi Wt.no rfl rfl rfl rfl ?_
  refine L.nil ?_
  refine X.seqN ?_
  refine E.seq ?_
  rcases ifS hm with ⟨hc, hm⟩ | ⟨hc, hm⟩
  · refine E.cT rfl hc ?_
    refine E.skip ?_
    refine X.seqN ?_
    refine E.seq ?_
    refine E.block ?_
    refine E.seq ?_
    refine E.reg ?_
    refine L.mv Wt.no rfl rfl ?_
    refine L.as Wt.no rfl rfl ?_
    refine L.nil ?_
    refine X.seqN ?_
    refine E.seq ?_
    refine E.reg ?_
    refine L.mv Wt.no rfl rfl ?_
    refine L.mv Wt.no rfl rfl ?_
    refine L.mv Wt.no rfl rfl ?_
    obtain ⟨x15, ex15, hm⟩ := bindS hm
    refine L.ix (r := (rK .i64)) sl28 h1 Wt.no rfl rfl ex15 rfl ?_
    rintro b16 o16 cc16 me16 rd16
    obtain rfl := rd16
    refine L.ld (j := 0) me16 nag3 Wt.no rfl rfl rfl rfl ?_
    refine L.bi Wt.no rfl rfl rfl rfl ?_
    refine L.nil ?_
    refine X.seqN ?_
    rcases ifS hm with ⟨hc, hm⟩ | ⟨hc, hm⟩
    · refine E.cT rfl hc ?_
      refine E.seq ?_
      refine E.reg ?_
      refine L.mv Wt.no rfl rfl ?_
      refine L.as Wt.no rfl rfl ?_
      refine L.nil ?_
      refine X.seqN ?_
      refine E.ret ?_
      refine X.blkR ?_
      refine X.seqR ?_
      refine X.seqR ?_
      have hx := ho6 _ (Option.some.inj hm).symm
      exact X.sub (K14 _ _ ⟨s8, st6, hx.symm, m0, rfl, rfl⟩) (Sub.cons rfl Sub.nil)
    · refine E.cF rfl hc ?_
      refine E.skip ?_
      refine X.blkN ?_
      refine X.seqN ?_
      refine E.reg ?_
      refine L.bi Wt.no rfl rfl rfl rfl ?_
      refine L.mv Wt.no rfl rfl ?_
      refine L.nil ?_
      exact X.sub (ih6 _ (Option.some.inj hm).symm _ _ ⟨s8, m0, h1, rfl, rfl⟩) (Sub.cons rfl (Sub.cons rfl (Sub.cons rfl (Sub.cons rfl Sub.nil))))
  · refine E.cF rfl hc ?_
    refine E.exit ?_
    refine X.seqX ?_
    refine X.seqX ?_
    have hx := ho6 _ (Option.some.inj hm).symm
    exact X.sub (K11 _ _ ⟨s8, (), hx.symm, m0, rfl, rfl⟩) Sub.nil

theorem cf80 : Cf Try.prog 80 := Cf.mk Try.func80 (by kernel_rfl) (by kernel_rfl)
/-- What slices.Contains<<>int,int> computes. -/
noncomputable def m_slices_Contains_int (p0 : List Int) (p1 : Int) : Option Bool :=
  (m_slices_Index_int p0 p1).bind fun r2 =>
  some (decide (r2 ≥ 0))
set_option maxRecDepth 100000 in
set_option maxHeartbeats 8000000 in
theorem m_slices_Contains_int_c {s : Sig} {p0 : List Int} {p1 : Int} {a1 : Option Addr} {c1 : Nat} {r : Bool} (h1 : RdL (rK .i64) s a1 c1 p0) (hm : m_slices_Contains_int p0 p1 = some r) :
    Calls Try.prog 57 #[.slice a1 p0.length c1, .int .i64 p1] s.w (RetS No s fun v s' => v = .bool r) := by
  unfold m_slices_Contains_int at hm
  obtain ⟨N, hN, hNb⟩ := s.fresh
  have m0 : Mv (Up N No) s s := Mv.refl _ _
  refine E.entry (vs := [.slice a1 p0.length c1, .int .i64 p1]) (e := [(0, .slice a1 p0.length c1), (1, .int .i64 p1)]) Try.func57 rfl Try.ntmps57 rfl rfl ?_
  refine E.seq ?_
  refine E.reg ?_
  refine L.as Wt.no rfl rfl ?_
  refine L.nil ?_
  refine X.seqN ?_
  refine E.seq ?_
  refine E.reg ?_
  refine L.mv Wt.no rfl rfl ?_
  refine L.mv Wt.no rfl rfl ?_
  obtain ⟨r2, er2, hm⟩ := bindS hm
  refine L.ca (vs := [.slice a1 p0.length c1, .int .i64 p1]) cf80 rfl rfl Wt.no rfl (m_slices_Index_int_c (s := s) (p0 := p0) (p1 := p1) h1 er2) rfl ?_
  rintro _ s3 m4 rfl
  replace m0 := m0.trans m4.no
  refine L.bi Wt.no rfl rfl rfl rfl ?_
  refine L.as Wt.no rfl rfl ?_
  refine L.nil ?_
  refine X.seqN ?_
  refine E.ret ?_
  obtain rfl := Option.some.inj hm
  exact X.rt (.inl rfl) Try.results57 (Rs.tmp rfl Rs.nil) rfl ⟨_, (s3).ren N (fun _ => 0), rfl, rfl, m0.ren hNb, rfl⟩

theorem ag45 : Ag Try.prog 45 3 := Ag.mk' Try.underlying45 rfl (by kernel_rfl)
theorem cf57 : Cf Try.prog 57 := Cf.mk Try.func57 (by kernel_rfl) (by kernel_rfl)
theorem fa31_0 : FA Try.prog 31 0 0 := FA.mk Try.underlying31 rfl rfl ⟨1, by decide, by kernel_rfl⟩
theorem fa31_1 : FA Try.prog 31 1 1 := FA.mk Try.underlying31 rfl rfl ⟨1, by decide, by kernel_rfl⟩
theorem fa31_3 : FA Try.prog 31 3 3 := FA.mk Try.underlying31 rfl rfl ⟨1, by decide, by kernel_rfl⟩
theorem fa45_0 : FA Try.prog 45 0 0 := FA.mk Try.underlying45 rfl rfl ⟨1, by decide, by kernel_rfl⟩
theorem fa45_1 : FA Try.prog 45 1 1 := FA.mk Try.underlying45 rfl rfl ⟨1, by decide, by kernel_rfl⟩
theorem fa45_2 : FA Try.prog 45 2 2 := FA.mk Try.underlying45 rfl rfl ⟨1, by decide, by kernel_rfl⟩
theorem nag28 : NAg Try.prog 28 := NAg.mk' Try.underlying28 rfl (by kernel_rfl)
theorem nag29 : NAg Try.prog 29 := NAg.mk' Try.underlying29 rfl (by kernel_rfl)
theorem sl29 : Sl Try.prog 29 45 3 := Sl.mk' Try.underlying29 (by kernel_rfl)
theorem zz45 : (Try.prog.info? 45).bind (·.zero) = some (.agg #[.int .i64 0, .int .i64 0, .int .i64 0]) := by kernel_rfl
noncomputable def m_automaton_checkEdges_j1 (st38 : Int) : Option (Int ⊕ (Unit ⊕ Int)) :=
  some (.inl (W (st38 + 1)))
noncomputable def m_automaton_checkEdges_l1 (p0 : List Int × Int × List Int × (List (Int × Int × Int))) (st38 : Int) : Option (Int ⊕ (Unit ⊕ Int)) :=
  if decide (st38 < (p0.2.2.2.length : Int)) then
    (idx p0.2.2.2 st38).bind fun x49 =>
    if ((((decide (x49.1 < 0)) || (decide (x49.1 ≥ p0.2.1))) || (decide (x49.2.2 < 0))) || (decide (x49.2.2 ≥ p0.2.1))) then
      some (.inr (.inr (2)))
    else
      (m_slices_Contains_int p0.1 x49.2.1).bind fun r59 =>
      if (!r59) then
        some (.inr (.inr (9)))
      else
        if (st38 == 0) then
          m_automaton_checkEdges_j1 st38
        else
          (idx p0.2.2.2 (W (st38 - 1))).bind fun x62 =>
          if ((decide (x49.1 < x62.1)) || ((x49.1 == x62.1) && (decide (x49.2.1 ≤ x62.2.1)))) then
            some (.inr (.inr (5)))
          else
            m_automaton_checkEdges_j1 st38
  else
    some (.inr (.inl ()))
/-- What automaton.checkEdges computes. -/
noncomputable def m_automaton_checkEdges (p0 : List Int × Int × List Int × (List (Int × Int × Int))) : Option Int :=
  (iter (m_automaton_checkEdges_l1 p0) 0).bind fun o38 =>
  match o38 with
  | .inl u41 =>
    some 0
  | .inr (u44) =>
    some u44
set_option maxRecDepth 100000 in
set_option maxHeartbeats 8000000 in
theorem m_automaton_checkEdges_c {s : Sig} {p0 : List Int × Int × List Int × (List (Int × Int × Int))} {a1 : Option Addr} {c1 : Nat} {a2 : Option Addr} {c2 : Nat} {a3 : Option Addr} {c3 : Nat} {r : Int} (h1 : RdL (rK .i64) s a1 c1 p0.1) (h2 : RdL (rK .i64) s a2 c2 p0.2.2.1) (h3 : RdL (rP (rK .i64) (rP (rK .i64) (rK .i64))) s a3 c3 p0.2.2.2) (hm : m_automaton_checkEdges p0 = some r) :
    Calls Try.prog 78 #[.agg #[.slice a1 p0.1.length c1, .int .i64 p0.2.1, .slice a2 p0.2.2.1.length c2, .slice a3 p0.2.2.2.length c3]] s.w (RetS No s fun v s' => v = .int .i64 r) := by
  unfold m_automaton_checkEdges at hm
  obtain ⟨N, hN, hNb⟩ := s.fresh
  have m0 : Mv (Up N No) s s := Mv.refl _ _
  refine E.entry (vs := [.agg #[.slice a1 p0.1.length c1, .int .i64 p0.2.1, .slice a2 p0.2.2.1.length c2, .slice a3 p0.2.2.2.length c3]]) (e := [(0, .agg #[.slice a1 p0.1.length c1, .int .i64 p0.2.1, .slice a2 p0.2.2.1.length c2, .slice a3 p0.2.2.2.length c3])]) Try.func78 rfl Try.ntmps78 rfl rfl ?_
  refine E.seq ?_
  refine E.reg ?_
  refine L.box (N + 0) Wt.no rfl rfl rfl ?_
  intro b4 s5 m6 bx4
  replace m0 := m0.trans m6.no
  replace h1 := h1.mono (m6.le no_No)
  replace h2 := h2.mono (m6.le no_No)
  replace h3 := h3.mono (m6.le no_No)
  refine L.as Wt.no rfl rfl ?_
  refine L.nil ?_
  refine X.seqN ?_
  refine E.seq ?_
  refine E.seq ?_
  refine E.reg ?_
  refine L.fa fa31_3 Wt.no rfl rfl ?_
  refine L.ld (j := 3) bx4.mem nag29 Wt.no rfl rfl rfl rfl ?_
  refine L.len sl29 Wt.no rfl rfl ?_
  refine L.mv Wt.no rfl rfl ?_
  refine L.nil ?_
  refine X.seqN ?_
  refine E.block ?_
  obtain ⟨o38, eo38, hm⟩ := bindS hm
  refine E.cut (x := .exit 0) (fun e w => ∃ (s42 : Sig) (u41 : Unit), o38 = .inl u41 ∧ Mv (Up N No) s s42 ∧ e = [] ∧ w = s42.w) ?_ ?_
  · rintro _ _ ⟨s42, u41, rfl, m0, rfl, rfl⟩
    dsimp only at hm
    refine X.blkE ?_
    refine X.seqN ?_
    refine E.seq ?_
    refine E.reg ?_
    refine L.as Wt.no rfl rfl ?_
    refine L.nil ?_
    refine X.seqN ?_
    refine E.ret ?_
    obtain rfl := Option.some.inj hm
    exact X.rt (.inl rfl) Try.results78 (Rs.tmp rfl Rs.nil) rfl ⟨_, (s42).ren N (fun _ => 0), rfl, rfl, m0.ren hNb, rfl⟩
  intro K43
  refine E.cut (x := .ret) (fun e w => ∃ (s45 : Sig) (u44 : Int), o38 = .inr (u44) ∧ Mv (Up N No) s s45 ∧ e = [(2, .int .i64 u44)] ∧ w = s45.w) ?_ ?_
  · rintro _ _ ⟨s45, u44, rfl, m0, rfl, rfl⟩
    dsimp only at hm
    refine X.blkR ?_
    refine X.seqR ?_
    obtain rfl := Option.some.inj hm
    exact X.rt (.inl rfl) Try.results78 (Rs.tmp rfl Rs.nil) rfl ⟨_, (s45).ren N (fun _ => 0), rfl, rfl, m0.ren hNb, rfl⟩
  intro K46
  refine E.iter (fun (st38 : Int) (e : List (Nat × Value)) (w : World) => ∃ (s40 : Sig), Mv (Up N No) s s40 ∧ RdL (rP (rK .i64) (rP (rK .i64) (rK .i64))) s40 a3 c3 p0.2.2.2 ∧ RdL (rK .i64) s40 a1 c1 p0.1 ∧ RdL (rK .i64) s40 a2 c2 p0.2.2.1 ∧ Bx s40 (N + 0) b4 #[.slice a1 p0.1.length c1, .int .i64 p0.2.1, .slice a2 p0.2.2.1.length c2, .slice a3 p0.2.2.2.length c3] 31 ∧ e = [(9, .int .i64 st38), (8, .int .i64 (p0.2.2.2.length : Int)), (7, .slice a3 p0.2.2.2.length c3), (1, .pointer (some ⟨b4, 0, none⟩))] ∧ w = s40.w) eo38 ⟨s5, m0, h3, h1, h2, bx4, rfl, rfl⟩ (Sub.cons rfl (Sub.cons rfl (Sub.cons rfl (Sub.cons rfl Sub.nil)))) ?_
  rintro st38 res38 hm ih38 ho38 _ _ ⟨s40, m0, h3, h1, h2, bx4, rfl, rfl⟩
  unfold m_automaton_checkEdges_l1 at hm
  refine E.seq ?_
  refine E.reg ?_
  refine L.bi Wt.no rfl rfl rfl rfl ?_
  refine L.nil ?_
  refine X.seqN ?_
  refine E.seq ?_
  rcases ifS hm with ⟨hc, hm⟩ | ⟨hc, hm⟩
  · refine E.cT rfl hc ?_
    refine E.skip ?_
    refine X.seqN ?_
    refine E.seqJ (fun e w => ∃ (s47 : Sig), m_automaton_checkEdges_j1 st38 = some res38 ∧ Mv (Up N No) s s47 ∧ RdL (rP (rK .i64) (rP (rK .i64) (rK .i64))) s47 a3 c3 p0.2.2.2 ∧ RdL (rK .i64) s47 a1 c1 p0.1 ∧ RdL (rK .i64) s47 a2 c2 p0.2.2.1 ∧ Bx s47 (N + 0) b4 #[.slice a1 p0.1.length c1, .int .i64 p0.2.1, .slice a2 p0.2.2.1.length c2, .slice a3 p0.2.2.2.length c3] 31 ∧ e = [(9, .int .i64 st38), (8, .int .i64 (p0.2.2.2.length : Int)), (7, .slice a3 p0.2.2.2.length c3), (1, .pointer (some ⟨b4, 0, none⟩))] ∧ w = s47.w) ?_ ?_
    · rintro _ _ ⟨s47, hm, m0, h3, h1, h2, bx4, rfl, rfl⟩
      unfold m_automaton_checkEdges_j1 at hm
      refine E.reg ?_
      refine L.bi Wt.no rfl rfl rfl rfl ?_
      refine L.mv Wt.no rfl rfl ?_
      refine L.nil ?_
      exact X.sub (ih38 _ (Option.some.inj hm).symm _ _ ⟨s47, m0, h3, h1, h2, bx4, rfl, rfl⟩) (Sub.cons rfl (Sub.cons rfl (Sub.cons rfl (Sub.cons rfl Sub.nil))))
    · intro Jj48
      refine E.block ?_
      refine E.seq ?_
      refine E.reg ?_
      refine L.mv Wt.no rfl rfl ?_
      obtain ⟨x49, ex49, hm⟩ := bindS hm
      refine L.ix (r := (rP (rK .i64) (rP (rK .i64) (rK .i64)))) sl29 h3 Wt.no rfl rfl ex49 rfl ?_
      rintro b50 o50 cc50 me50 rd50
      obtain ⟨_, _, rfl, rfl, ⟨_, _, rfl, rfl, rfl⟩⟩ := rd50
      refine L.lg (j := 0) (cs := [.int .i64 x49.1, .int .i64 x49.2.1, .int .i64 x49.2.2]) me50 ag45 Wt.no rfl rfl rfl rfl rfl ?_
      refine L.al (N + 1) zz45 rfl Wt.no rfl ?_
      intro b51 s52 m53 bx51
      replace m0 := m0.trans m53.no
      replace h3 := h3.mono (m53.le no_No)
      replace bx4 := bx4.mv m53 no_No
      replace h1 := h1.mono (m53.le no_No)
      replace h2 := h2.mono (m53.le no_No)
      refine L.as Wt.no rfl rfl ?_
      refine L.st (c := [.int .i64 x49.1, .int .i64 x49.2.1, .int .i64 x49.2.2]) (cs' := #[.int .i64 x49.1, .int .i64 x49.2.1, .int .i64 x49.2.2]) bx51 ag45.sz Wt.no rfl rfl rfl rfl rfl (Nat.le_of_ble_eq_true rfl) rfl ?_
      intro s54 m55 bx51
      replace m0 := m0.trans (m55.one up)
      replace h3 := h3.mono (m55.le (tg0 hN))
      replace bx4 := bx4.mv m55 (tgN (by decide))
      replace h1 := h1.mono (m55.le (tg0 hN))
      replace h2 := h2.mono (m55.le (tg0 hN))
      refine L.nil ?_
      refine X.seqN ?_
      refine E.seq ?_
      refine E.block ?_
      refine E.seq ?_
      refine E.reg ?_
      refine L.fa fa45_0 Wt.no rfl rfl ?_
      refine L.ld (j := 0) bx51.mem nag3 Wt.no rfl rfl rfl rfl ?_
      refine L.bi Wt.no rfl rfl rfl rfl ?_
      refine L.mv Wt.no rfl rfl ?_
      refine L.cut 6 (fun e w => ∃ (v56 : Bool), ((decide (x49.1 < 0)) || (decide (x49.1 ≥ p0.2.1))) = v56 ∧ e = (24, .bool v56) :: [(3, .int .i64 st38), (4, .pointer (some ⟨b51, 0, none⟩)), (9, .int .i64 st38), (8, .int .i64 (p0.2.2.2.length : Int)), (7, .slice a3 p0.2.2.2.length c3), (1, .pointer (some ⟨b4, 0, none⟩))] ∧ w = s54.w) ?_ ?_
      · rintro _ _ ⟨v56, rfl, rfl, rfl⟩
        refine L.mv Wt.no rfl rfl ?_
        refine L.cut 4 (fun e w => ∃ (v57 : Bool), (((decide (x49.1 < 0)) || (decide (x49.1 ≥ p0.2.1))) || (decide (x49.2.2 < 0))) = v57 ∧ e = (29, .bool v57) :: [(3, .int .i64 st38), (4, .pointer (some ⟨b51, 0, none⟩)), (9, .int .i64 st38), (8, .int .i64 (p0.2.2.2.length : Int)), (7, .slice a3 p0.2.2.2.length c3), (1, .pointer (some ⟨b4, 0, none⟩))] ∧ w = s54.w) ?_ ?_
        · rintro _ _ ⟨v57, rfl, rfl, rfl⟩
          refine L.mv Wt.no rfl rfl ?_
          refine L.cut 6 (fun e w => ∃ (v58 : Bool), ((((decide (x49.1 < 0)) || (decide (x49.1 ≥ p0.2.1))) || (decide (x49.2.2 < 0))) || (decide (x49.2.2 ≥ p0.2.1))) = v58 ∧ e = (36, .bool v58) :: [(3, .int .i64 st38), (4, .pointer (some ⟨b51, 0, none⟩)), (9, .int .i64 st38), (8, .int .i64 (p0.2.2.2.length : Int)), (7, .slice a3 p0.2.2.2.length c3), (1, .pointer (some ⟨b4, 0, none⟩))] ∧ w = s54.w) ?_ ?_
          · rintro _ _ ⟨v58, rfl, rfl, rfl⟩
            refine L.as Wt.no rfl rfl ?_
            refine L.nil ?_
            refine X.seqN ?_
            rcases ifS hm with ⟨hc, hm⟩ | ⟨hc, hm⟩
            · refine E.cT rfl hc ?_
              refine E.seq ?_
              refine E.reg ?_
              refine L.as Wt.no rfl rfl ?_
              refine L.nil ?_
              refine X.seqN ?_
              refine E.ret ?_
              refine X.blkR ?_
              refine X.seqR ?_
              refine X.blkR ?_
              refine X.seqR ?_
              refine X.seqR ?_
              have hx := ho38 _ (Option.some.inj hm).symm
              exact X.sub (K46 _ _ ⟨s54, 2, hx.symm, m0, rfl, rfl⟩) (Sub.cons rfl Sub.nil)
            · refine E.cF rfl hc ?_
              refine E.seq ?_
              refine E.reg ?_
              refine L.fa fa31_0 Wt.no rfl rfl ?_
              refine L.ld (j := 0) bx4.mem nag28 Wt.no rfl rfl rfl rfl ?_
              refine L.fa fa45_1 Wt.no rfl rfl ?_
              refine L.ld (j := 1) bx51.mem nag3 Wt.no rfl rfl rfl rfl ?_
              obtain ⟨r59, er59, hm⟩ := bindS hm
              refine L.ca (vs := [.slice a1 p0.1.length c1, .int .i64 x49.2.1]) cf57 rfl rfl Wt.no rfl (m_slices_Contains_int_c (s := s54) (p0 := p0.1) (p1 := x49.2.1) h1 er59) rfl ?_
              rintro _ s60 m61 rfl
              replace m0 := m0.trans m61.no
              replace h3 := h3.mono (m61.le no_No)
              replace bx4 := bx4.mv m61 no_No
              replace h1 := h1.mono (m61.le no_No)
              replace h2 := h2.mono (m61.le no_No)
              replace bx51 := bx51.mv m61 no_No
              refine L.not Wt.no rfl rfl ?_
              refine L.as Wt.no rfl rfl ?_
              refine L.nil ?_
              refine X.seqN ?_
              rcases ifS hm with ⟨hc, hm⟩ | ⟨hc, hm⟩
              · refine E.cT rfl hc ?_
                refine E.seq ?_
                refine E.reg ?_
                refine L.as Wt.no rfl rfl ?_
                refine L.nil ?_
                refine X.seqN ?_
                refine E.ret ?_
                refine X.blkR ?_
                refine X.seqR ?_
                refine X.blkR ?_
                refine X.seqR ?_
                refine X.seqR ?_
                have hx := ho38 _ (Option.some.inj hm).symm
                exact X.sub (K46 _ _ ⟨s60, 9, hx.symm, m0, rfl, rfl⟩) (Sub.cons rfl Sub.nil)
              · refine E.cF rfl hc ?_
                refine E.skip ?_
                refine X.blkN ?_
                refine X.seqN ?_
                refine E.seq ?_
                refine E.seq ?_
                refine E.reg ?_
                refine L.mv Wt.no rfl rfl ?_
                refine L.bi Wt.no rfl rfl rfl rfl ?_
                refine L.nil ?_
                refine X.seqN ?_
                rcases ifS hm with ⟨hc, hm⟩ | ⟨hc, hm⟩
                · refine E.cT rfl hc ?_
                  refine E.exit ?_
                  refine X.seqX ?_
                  refine X.blkE ?_
                  exact X.sub (Jj48 _ _ ⟨s60, hm, m0, h3, h1, h2, bx4, rfl, rfl⟩) (Sub.cons rfl (Sub.cons rfl (Sub.cons rfl (Sub.cons rfl Sub.nil))))
                · refine E.cF rfl hc ?_
                  refine E.skip ?_
                  refine X.seqN ?_
                  refine E.seq ?_
                  refine E.reg ?_
                  refine L.fa fa31_3 Wt.no rfl rfl ?_
                  refine L.ld (j := 3) bx4.mem nag29 Wt.no rfl rfl rfl rfl ?_
                  refine L.mv Wt.no rfl rfl ?_
                  refine L.bi Wt.no rfl rfl rfl rfl ?_
                  obtain ⟨x62, ex62, hm⟩ := bindS hm
                  refine L.ix (r := (rP (rK .i64) (rP (rK .i64) (rK .i64)))) sl29 h3 Wt.no rfl rfl ex62 rfl ?_
                  rintro b63 o63 cc63 me63 rd63
                  obtain ⟨_, _, rfl, rfl, ⟨_, _, rfl, rfl, rfl⟩⟩ := rd63
                  refine L.lg (j := 0) (cs := [.int .i64 x62.1, .int .i64 x62.2.1, .int .i64 x62.2.2]) me63 ag45 Wt.no rfl rfl rfl rfl rfl ?_
                  refine L.al (N + 2) zz45 rfl Wt.no rfl ?_
                  intro b64 s65 m66 bx64
                  replace m0 := m0.trans m66.no
                  replace h3 := h3.mono (m66.le no_No)
                  replace bx4 := bx4.mv m66 no_No
                  replace h1 := h1.mono (m66.le no_No)
                  replace h2 := h2.mono (m66.le no_No)
                  replace bx51 := bx51.mv m66 no_No
                  refine L.st (c := [.int .i64 x62.1, .int .i64 x62.2.1, .int .i64 x62.2.2]) (cs' := #[.int .i64 x62.1, .int .i64 x62.2.1, .int .i64 x62.2.2]) bx64 ag45.sz Wt.no rfl rfl rfl rfl rfl (Nat.le_of_ble_eq_true rfl) rfl ?_
                  intro s67 m68 bx64
                  replace m0 := m0.trans (m68.one up)
                  replace h3 := h3.mono (m68.le (tg0 hN))
                  replace bx4 := bx4.mv m68 (tgN (by decide))
                  replace h1 := h1.mono (m68.le (tg0 hN))
                  replace h2 := h2.mono (m68.le (tg0 hN))
                  replace bx51 := bx51.mv m68 (tgN (by decide))
                  refine L.nil ?_
                  refine X.seqN ?_
                  refine E.seq ?_
                  refine E.reg ?_
                  refine L.fa fa45_0 Wt.no rfl rfl ?_
                  refine L.ld (j := 0) bx51.mem nag3 Wt.no rfl rfl rfl rfl ?_
                  refine L.fa fa45_0 Wt.no rfl rfl ?_
                  refine L.ld (j := 0) bx64.mem nag3 Wt.no rfl rfl rfl rfl ?_
                  refine L.bi Wt.no rfl rfl rfl rfl ?_
                  refine L.mv Wt.no rfl rfl ?_
                  refine L.cut 13 (fun e w => ∃ (v69 : Bool), ((decide (x49.1 < x62.1)) || ((x49.1 == x62.1) && (decide (x49.2.1 ≤ x62.2.1)))) = v69 ∧ e = (70, .bool v69) :: [(9, .int .i64 st38), (8, .int .i64 (p0.2.2.2.length : Int)), (7, .slice a3 p0.2.2.2.length c3), (1, .pointer (some ⟨b4, 0, none⟩))] ∧ w = s67.w) ?_ ?_
                  · rintro _ _ ⟨v69, rfl, rfl, rfl⟩
                    refine L.nil ?_
                    refine X.seqN ?_
                    rcases ifS hm with ⟨hc, hm⟩ | ⟨hc, hm⟩
                    · refine E.cT rfl hc ?_
                      refine E.seq ?_
                      refine E.reg ?_
                      refine L.as Wt.no rfl rfl ?_
                      refine L.nil ?_
                      refine X.seqN ?_
                      refine E.ret ?_
                      refine X.blkR ?_
                      refine X.seqR ?_
                      refine X.seqR ?_
                      have hx := ho38 _ (Option.some.inj hm).symm
                      exact X.sub (K46 _ _ ⟨s67, 5, hx.symm, m0, rfl, rfl⟩) (Sub.cons rfl Sub.nil)
                    · refine E.cF rfl hc ?_
                      refine E.skip ?_
                      refine X.blkN ?_
                      exact X.sub (Jj48 _ _ ⟨s67, hm, m0, h3, h1, h2, bx4, rfl, rfl⟩) (Sub.cons rfl (Sub.cons rfl (Sub.cons rfl (Sub.cons rfl Sub.nil))))
                  · intro J70
                    rcases Bool.eq_false_or_eq_true (decide (x49.1 < x62.1)) with hc | hc
                    · refine L.know (d := 57) rfl hc ?_
                      refine L.skip rfl rfl rfl rfl ?_
                      refine L.skip rfl rfl rfl rfl ?_
                      refine L.skip rfl rfl rfl rfl ?_
                      refine L.skip rfl rfl rfl rfl ?_
                      refine L.skip rfl rfl rfl rfl ?_
                      refine L.skip rfl rfl rfl rfl ?_
                      refine L.skipU rfl rfl rfl ?_
                      refine L.skipU rfl rfl rfl ?_
                      refine L.skipU rfl rfl rfl ?_
                      refine L.skipU rfl rfl rfl ?_
                      refine L.skipU rfl rfl rfl ?_
                      refine L.skip rfl rfl rfl rfl ?_
                      refine L.pkT Wt.no rfl rfl rfl rfl ?_
                      exact L.sub (Sub.cons rfl (Sub.cons rfl (Sub.cons rfl (Sub.cons rfl (Sub.cons rfl Sub.nil))))) (J70 _ _ ⟨true, (orT hc).symm, rfl, rfl⟩)
                    · refine L.know (d := 57) rfl hc ?_
                      refine L.fa fa45_0 (Wt.mk rfl rfl) rfl rfl ?_
                      refine L.ld (j := 0) bx51.mem nag3 (Wt.mk rfl rfl) rfl rfl rfl rfl ?_
                      refine L.fa fa45_0 (Wt.mk rfl rfl) rfl rfl ?_
                      refine L.ld (j := 0) bx64.mem nag3 (Wt.mk rfl rfl) rfl rfl rfl rfl ?_
                      refine L.bi (Wt.mk rfl rfl) rfl rfl rfl rfl ?_
                      refine L.mv (Wt.mk rfl rfl) rfl rfl ?_
                      refine L.cut 6 (fun e w => ∃ (v71 : Bool), ((x49.1 == x62.1) && (decide (x49.2.1 ≤ x62.2.1))) = v71 ∧ e = (69, .bool v71) :: [(57, .bool false), (9, .int .i64 st38), (8, .int .i64 (p0.2.2.2.length : Int)), (7, .slice a3 p0.2.2.2.length c3), (1, .pointer (some ⟨b4, 0, none⟩))] ∧ w = s67.w) ?_ ?_
                      · rintro _ _ ⟨v71, rfl, rfl, rfl⟩
                        refine L.pkF Wt.no rfl rfl rfl rfl ?_
                        exact L.sub (Sub.cons rfl (Sub.cons rfl (Sub.cons rfl (Sub.cons rfl (Sub.cons rfl Sub.nil))))) (J70 _ _ ⟨((x49.1 == x62.1) && (decide (x49.2.1 ≤ x62.2.1))), (orF hc).symm, rfl, rfl⟩)
                      · intro J72
                        rcases Bool.eq_false_or_eq_true (x49.1 == x62.1) with hc | hc
                        · refine L.know (d := 63) rfl hc ?_
                          refine L.fa fa45_1 (Wt.mk rfl rfl) rfl rfl ?_
                          refine L.ld (j := 1) bx51.mem nag3 (Wt.mk rfl rfl) rfl rfl rfl rfl ?_
                          refine L.fa fa45_1 (Wt.mk rfl rfl) rfl rfl ?_
                          refine L.ld (j := 1) bx64.mem nag3 (Wt.mk rfl rfl) rfl rfl rfl rfl ?_
                          refine L.bi (Wt.mk rfl rfl) rfl rfl rfl rfl ?_
                          refine L.pkT (Wt.mk rfl rfl) rfl rfl rfl rfl ?_
                          exact L.sub (Sub.cons rfl (Sub.cons rfl (Sub.cons rfl (Sub.cons rfl (Sub.cons rfl (Sub.cons rfl Sub.nil)))))) (J72 _ _ ⟨(decide (x49.2.1 ≤ x62.2.1)), (andT hc).symm, rfl, rfl⟩)
                        · refine L.know (d := 63) rfl hc ?_
                          refine L.skip rfl rfl rfl rfl ?_
                          refine L.skip rfl rfl rfl rfl ?_
                          refine L.skip rfl rfl rfl rfl ?_
                          refine L.skip rfl rfl rfl rfl ?_
                          refine L.skip rfl rfl rfl rfl ?_
                          refine L.pkF (Wt.mk rfl rfl) rfl rfl rfl rfl ?_
                          exact L.sub (Sub.cons rfl (Sub.cons rfl (Sub.cons rfl (Sub.cons rfl (Sub.cons rfl (Sub.cons rfl Sub.nil)))))) (J72 _ _ ⟨false, (andF hc).symm, rfl, rfl⟩)
          · intro J73
            rcases Bool.eq_false_or_eq_true (((decide (x49.1 < 0)) || (decide (x49.1 ≥ p0.2.1))) || (decide (x49.2.2 < 0))) with hc | hc
            · refine L.know (d := 30) rfl hc ?_
              refine L.skip rfl rfl rfl rfl ?_
              refine L.skip rfl rfl rfl rfl ?_
              refine L.skip rfl rfl rfl rfl ?_
              refine L.skip rfl rfl rfl rfl ?_
              refine L.skip rfl rfl rfl rfl ?_
              refine L.pkT Wt.no rfl rfl rfl rfl ?_
              exact L.sub (Sub.cons rfl (Sub.cons rfl (Sub.cons rfl (Sub.cons rfl (Sub.cons rfl (Sub.cons rfl (Sub.cons rfl Sub.nil))))))) (J73 _ _ ⟨true, (orT hc).symm, rfl, rfl⟩)
            · refine L.know (d := 30) rfl hc ?_
              refine L.fa fa45_2 (Wt.mk rfl rfl) rfl rfl ?_
              refine L.ld (j := 2) bx51.mem nag3 (Wt.mk rfl rfl) rfl rfl rfl rfl ?_
              refine L.fa fa31_1 (Wt.mk rfl rfl) rfl rfl ?_
              refine L.ld (j := 1) bx4.mem nag3 (Wt.mk rfl rfl) rfl rfl rfl rfl ?_
              refine L.bi (Wt.mk rfl rfl) rfl rfl rfl rfl ?_
              refine L.pkF Wt.no rfl rfl rfl rfl ?_
              exact L.sub (Sub.cons rfl (Sub.cons rfl (Sub.cons rfl (Sub.cons rfl (Sub.cons rfl (Sub.cons rfl (Sub.cons rfl Sub.nil))))))) (J73 _ _ ⟨(decide (x49.2.2 ≥ p0.2.1)), (orF hc).symm, rfl, rfl⟩)
        · intro J74
          rcases Bool.eq_false_or_eq_true ((decide (x49.1 < 0)) || (decide (x49.1 ≥ p0.2.1))) with hc | hc
          · refine L.know (d := 25) rfl hc ?_
            refine L.skip rfl rfl rfl rfl ?_
            refine L.skip rfl rfl rfl rfl ?_
            refine L.skip rfl rfl rfl rfl ?_
            refine L.pkT Wt.no rfl rfl rfl rfl ?_
            exact L.sub (Sub.cons rfl (Sub.cons rfl (Sub.cons rfl (Sub.cons rfl (Sub.cons rfl (Sub.cons rfl (Sub.cons rfl Sub.nil))))))) (J74 _ _ ⟨true, (orT hc).symm, rfl, rfl⟩)
          · refine L.know (d := 25) rfl hc ?_
            refine L.fa fa45_2 (Wt.mk rfl rfl) rfl rfl ?_
            refine L.ld (j := 2) bx51.mem nag3 (Wt.mk rfl rfl) rfl rfl rfl rfl ?_
            refine L.bi (Wt.mk rfl rfl) rfl rfl rfl rfl ?_
            refine L.pkF Wt.no rfl rfl rfl rfl ?_
            exact L.sub (Sub.cons rfl (Sub.cons rfl (Sub.cons rfl (Sub.cons rfl (Sub.cons rfl (Sub.cons rfl (Sub.cons rfl Sub.nil))))))) (J74 _ _ ⟨(decide (x49.2.2 < 0)), (orF hc).symm, rfl, rfl⟩)
      · intro J75
        rcases Bool.eq_false_or_eq_true (decide (x49.1 < 0)) with hc | hc
        · refine L.know (d := 18) rfl hc ?_
          refine L.skip rfl rfl rfl rfl ?_
          refine L.skip rfl rfl rfl rfl ?_
          refine L.skip rfl rfl rfl rfl ?_
          refine L.skip rfl rfl rfl rfl ?_
          refine L.skip rfl rfl rfl rfl ?_
          refine L.pkT Wt.no rfl rfl rfl rfl ?_
          exact L.sub (Sub.cons rfl (Sub.cons rfl (Sub.cons rfl (Sub.cons rfl (Sub.cons rfl (Sub.cons rfl (Sub.cons rfl Sub.nil))))))) (J75 _ _ ⟨true, (orT hc).symm, rfl, rfl⟩)
        · refine L.know (d := 18) rfl hc ?_
          refine L.fa fa45_0 (Wt.mk rfl rfl) rfl rfl ?_
          refine L.ld (j := 0) bx51.mem nag3 (Wt.mk rfl rfl) rfl rfl rfl rfl ?_
          refine L.fa fa31_1 (Wt.mk rfl rfl) rfl rfl ?_
          refine L.ld (j := 1) bx4.mem nag3 (Wt.mk rfl rfl) rfl rfl rfl rfl ?_
          refine L.bi (Wt.mk rfl rfl) rfl rfl rfl rfl ?_
          refine L.pkF Wt.no rfl rfl rfl rfl ?_
          exact L.sub (Sub.cons rfl (Sub.cons rfl (Sub.cons rfl (Sub.cons rfl (Sub.cons rfl (Sub.cons rfl (Sub.cons rfl Sub.nil))))))) (J75 _ _ ⟨(decide (x49.1 ≥ p0.2.1)), (orF hc).symm, rfl, rfl⟩)
  · refine E.cF rfl hc ?_
    refine E.exit ?_
    refine X.seqX ?_
    refine X.seqX ?_
    have hx := ho38 _ (Option.some.inj hm).symm
    exact X.sub (K43 _ _ ⟨s40, (), hx.symm, m0, rfl, rfl⟩) Sub.nil

theorem cf77 : Cf Try.prog 77 := Cf.mk Try.func77 (by kernel_rfl) (by kernel_rfl)
theorem cf78 : Cf Try.prog 78 := Cf.mk Try.func78 (by kernel_rfl) (by kernel_rfl)
theorem fa31_2 : FA Try.prog 31 2 2 := FA.mk Try.underlying31 rfl rfl ⟨1, by decide, by kernel_rfl⟩
/-- What automaton.Check computes. -/
noncomputable def m_automaton_Check (p0 : List Int × Int × List Int × (List (Int × Int × Int))) : Option Int :=
  (m_automaton_checkSet p0.1 32).bind fun r7 =>
  if (r7 != 0) then
    some r7
  else
    if decide (p0.2.1 < 0) then
      some 2
    else
      if decide (p0.2.1 > 4096) then
        some 3
      else
        (m_automaton_checkSet p0.2.2.1 p0.2.1).bind fun r10 =>
        if (r10 != 0) then
          some r10
        else
          (m_automaton_checkEdges p0).bind fun r13 =>
          some r13
set_option maxRecDepth 100000 in
set_option maxHeartbeats 8000000 in
theorem m_automaton_Check_c {s : Sig} {p0 : List Int × Int × List Int × (List (Int × Int × Int))} {a1 : Option Addr} {c1 : Nat} {a2 : Option Addr} {c2 : Nat} {a3 : Option Addr} {c3 : Nat} {r : Int} (h1 : RdL (rK .i64) s a1 c1 p0.1) (h2 : RdL (rK .i64) s a2 c2 p0.2.2.1) (h3 : RdL (rP (rK .i64) (rP (rK .i64) (rK .i64))) s a3 c3 p0.2.2.2) (hm : m_automaton_Check p0 = some r) :
    Calls Try.prog 43 #[.agg #[.slice a1 p0.1.length c1, .int .i64 p0.2.1, .slice a2 p0.2.2.1.length c2, .slice a3 p0.2.2.2.length c3]] s.w (RetS No s fun v s' => v = .int .i64 r) := by
  unfold m_automaton_Check at hm
  obtain ⟨N, hN, hNb⟩ := s.fresh
  have m0 : Mv (Up N No) s s := Mv.refl _ _
  refine E.entry (vs := [.agg #[.slice a1 p0.1.length c1, .int .i64 p0.2.1, .slice a2 p0.2.2.1.length c2, .slice a3 p0.2.2.2.length c3]]) (e := [(0, .agg #[.slice a1 p0.1.length c1, .int .i64 p0.2.1, .slice a2 p0.2.2.1.length c2, .slice a3 p0.2.2.2.length c3])]) Try.func43 rfl Try.ntmps43 rfl rfl ?_
  refine E.seq ?_
  refine E.reg ?_
  refine L.box (N + 0) Wt.no rfl rfl rfl ?_
  intro b4 s5 m6 bx4
  replace m0 := m0.trans m6.no
  replace h1 := h1.mono (m6.le no_No)
  replace h2 := h2.mono (m6.le no_No)
  replace h3 := h3.mono (m6.le no_No)
  refine L.as Wt.no rfl rfl ?_
  refine L.nil ?_
  refine X.seqN ?_
  refine E.seq ?_
  refine E.seq ?_
  refine E.reg ?_
  refine L.fa fa31_0 Wt.no rfl rfl ?_
  refine L.ld (j := 0) bx4.mem nag28 Wt.no rfl rfl rfl rfl ?_
  obtain ⟨r7, er7, hm⟩ := bindS hm
  refine L.ca (vs := [.slice a1 p0.1.length c1, .int .i64 32]) cf77 rfl rfl Wt.no rfl (m_automaton_checkSet_c (s := s5) (p0 := p0.1) (p1 := 32) h1 er7) rfl ?_
  rintro _ s8 m9 rfl
  replace m0 := m0.trans m9.no
  replace bx4 := bx4.mv m9 no_No
  replace h1 := h1.mono (m9.le no_No)
  replace h2 := h2.mono (m9.le no_No)
  replace h3 := h3.mono (m9.le no_No)
  refine L.as Wt.no rfl rfl ?_
  refine L.nil ?_
  refine X.seqN ?_
  refine E.seq ?_
  refine E.reg ?_
  refine L.mv Wt.no rfl rfl ?_
  refine L.bi Wt.no rfl rfl rfl rfl ?_
  refine L.nil ?_
  refine X.seqN ?_
  rcases ifS hm with ⟨hc, hm⟩ | ⟨hc, hm⟩
  · refine E.cT rfl hc ?_
    refine E.seq ?_
    refine E.reg ?_
    refine L.mv Wt.no rfl rfl ?_
    refine L.as Wt.no rfl rfl ?_
    refine L.nil ?_
    refine X.seqN ?_
    refine E.ret ?_
    refine X.seqR ?_
    obtain rfl := Option.some.inj hm
    exact X.rt (.inl rfl) Try.results43 (Rs.tmp rfl Rs.nil) rfl ⟨_, (s8).ren N (fun _ => 0), rfl, rfl, m0.ren hNb, rfl⟩
  · refine E.cF rfl hc ?_
    refine E.skip ?_
    refine X.seqN ?_
    refine E.seq ?_
    refine E.block ?_
    refine E.seq ?_
    refine E.reg ?_
    refine L.fa fa31_1 Wt.no rfl rfl ?_
    refine L.ld (j := 1) bx4.mem nag3 Wt.no rfl rfl rfl rfl ?_
    refine L.bi Wt.no rfl rfl rfl rfl ?_
    refine L.as Wt.no rfl rfl ?_
    refine L.nil ?_
    refine X.seqN ?_
    rcases ifS hm with ⟨hc, hm⟩ | ⟨hc, hm⟩
    · refine E.cT rfl hc ?_
      refine E.seq ?_
      refine E.reg ?_
      refine L.as Wt.no rfl rfl ?_
      refine L.nil ?_
      refine X.seqN ?_
      refine E.ret ?_
      refine X.blkR ?_
      refine X.seqR ?_
      obtain rfl := Option.some.inj hm
      exact X.rt (.inl rfl) Try.results43 (Rs.tmp rfl Rs.nil) rfl ⟨_, (s8).ren N (fun _ => 0), rfl, rfl, m0.ren hNb, rfl⟩
    · refine E.cF rfl hc ?_
      refine E.seq ?_
      refine E.reg ?_
      refine L.fa fa31_1 Wt.no rfl rfl ?_
      refine L.ld (j := 1) bx4.mem nag3 Wt.no rfl rfl rfl rfl ?_
      refine L.bi Wt.no rfl rfl rfl rfl ?_
      refine L.as Wt.no rfl rfl ?_
      refine L.nil ?_
      refine X.seqN ?_
      rcases ifS hm with ⟨hc, hm⟩ | ⟨hc, hm⟩
      · refine E.cT rfl hc ?_
        refine E.seq ?_
        refine E.reg ?_
        refine L.as Wt.no rfl rfl ?_
        refine L.nil ?_
        refine X.seqN ?_
        refine E.ret ?_
        refine X.blkR ?_
        refine X.seqR ?_
        obtain rfl := Option.some.inj hm
        exact X.rt (.inl rfl) Try.results43 (Rs.tmp rfl Rs.nil) rfl ⟨_, (s8).ren N (fun _ => 0), rfl, rfl, m0.ren hNb, rfl⟩
      · refine E.cF rfl hc ?_
        refine E.skip ?_
        refine X.blkN ?_
        refine X.seqN ?_
        refine E.seq ?_
        refine E.seq ?_
        refine E.reg ?_
        refine L.fa fa31_2 Wt.no rfl rfl ?_
        refine L.ld (j := 2) bx4.mem nag28 Wt.no rfl rfl rfl rfl ?_
        refine L.fa fa31_1 Wt.no rfl rfl ?_
        refine L.ld (j := 1) bx4.mem nag3 Wt.no rfl rfl rfl rfl ?_
        obtain ⟨r10, er10, hm⟩ := bindS hm
        refine L.ca (vs := [.slice a2 p0.2.2.1.length c2, .int .i64 p0.2.1]) cf77 rfl rfl Wt.no rfl (m_automaton_checkSet_c (s := s8) (p0 := p0.2.2.1) (p1 := p0.2.1) h2 er10) rfl ?_
        rintro _ s11 m12 rfl
        replace m0 := m0.trans m12.no
        replace bx4 := bx4.mv m12 no_No
        replace h1 := h1.mono (m12.le no_No)
        replace h2 := h2.mono (m12.le no_No)
        replace h3 := h3.mono (m12.le no_No)
        refine L.as Wt.no rfl rfl ?_
        refine L.nil ?_
        refine X.seqN ?_
        refine E.seq ?_
        refine E.reg ?_
        refine L.mv Wt.no rfl rfl ?_
        refine L.bi Wt.no rfl rfl rfl rfl ?_
        refine L.nil ?_
        refine X.seqN ?_
        rcases ifS hm with ⟨hc, hm⟩ | ⟨hc, hm⟩
        · refine E.cT rfl hc ?_
          refine E.seq ?_
          refine E.reg ?_
          refine L.mv Wt.no rfl rfl ?_
          refine L.as Wt.no rfl rfl ?_
          refine L.nil ?_
          refine X.seqN ?_
          refine E.ret ?_
          refine X.seqR ?_
          obtain rfl := Option.some.inj hm
          exact X.rt (.inl rfl) Try.results43 (Rs.tmp rfl Rs.nil) rfl ⟨_, (s11).ren N (fun _ => 0), rfl, rfl, m0.ren hNb, rfl⟩
        · refine E.cF rfl hc ?_
          refine E.skip ?_
          refine X.seqN ?_
          refine E.seq ?_
          refine E.reg ?_
          refine L.lg (j := 0) (cs := [.slice a1 p0.1.length c1, .int .i64 p0.2.1, .slice a2 p0.2.2.1.length c2, .slice a3 p0.2.2.2.length c3]) bx4.mem ag31 Wt.no rfl rfl rfl rfl rfl ?_
          obtain ⟨r13, er13, hm⟩ := bindS hm
          refine L.ca (vs := [.agg #[.slice a1 p0.1.length c1, .int .i64 p0.2.1, .slice a2 p0.2.2.1.length c2, .slice a3 p0.2.2.2.length c3]]) cf78 rfl rfl Wt.no rfl (m_automaton_checkEdges_c (s := s11) (p0 := p0) h1 h2 h3 er13) rfl ?_
          rintro _ s14 m15 rfl
          replace m0 := m0.trans m15.no
          refine L.as Wt.no rfl rfl ?_
          refine L.nil ?_
          refine X.seqN ?_
          refine E.ret ?_
          obtain rfl := Option.some.inj hm
          exact X.rt (.inl rfl) Try.results43 (Rs.tmp rfl Rs.nil) rfl ⟨_, (s14).ren N (fun _ => 0), rfl, rfl, m0.ren hNb, rfl⟩

theorem ag80 : Ag Try.prog 80 5 := Ag.mk' Try.underlying80 rfl (by kernel_rfl)
theorem fa80_1 : FA Try.prog 80 1 4 := FA.mk Try.underlying80 rfl rfl ⟨1, by decide, by kernel_rfl⟩
theorem pl80 : Pl Try.prog 80 [(0, 4), (4, 1)] [.slice none 0 0, .int .i64 0, .slice none 0 0, .slice none 0 0, .slice none 0 0] := Pl.str Try.underlying80 (by kernel_rfl) (by kernel_rfl)
theorem zr3 : Zr Try.prog (rK .i64) 3 8 (0 : Int) := Zr.mk' (v := .int .i64 0) (by kernel_rfl) (by kernel_rfl) (by kernel_rfl) (fun _ => rfl)
theorem zz80 : (Try.prog.info? 80).bind (·.zero) = some (.agg #[.slice none 0 0, .int .i64 0, .slice none 0 0, .slice none 0 0, .slice none 0 0]) := by kernel_rfl
noncomputable def m_reach_newGraph_l2 (p0 : List Int × Int × List Int × (List (Int × Int × Int))) (st82 : Int × List Int) : Option ((Int × List Int) ⊕ (List Int)) :=
  if decide (st82.1 < p0.2.1) then
    (idx st82.2 (W (st82.1 + 1))).bind fun x94 =>
    (idx st82.2 st82.1).bind fun x101 =>
    (idx st82.2 (W (st82.1 + 1))).bind fun x106 =>
    (upd st82.2 (W (st82.1 + 1)) (W (x94 + x101))).bind fun x109 =>
    some (.inl (W (st82.1 + 1), x109))
  else
    some (.inr st82.2)
noncomputable def m_reach_newGraph_l1 (p0 : List Int × Int × List Int × (List (Int × Int × Int))) (st50 : Int × List Int) : Option ((Int × List Int) ⊕ (List Int)) :=
  if decide (st50.1 < (p0.2.2.2.length : Int)) then
    (idx p0.2.2.2 st50.1).bind fun x114 =>
    (idx st50.2 (W (x114.1 + 1))).bind fun x121 =>
    (idx st50.2 (W (x114.1 + 1))).bind fun x123 =>
    (upd st50.2 (W (x114.1 + 1)) (W (x121 + 1))).bind fun x125 =>
    some (.inl (W (st50.1 + 1), x125))
  else
    some (.inr st50.2)
/-- What reach.newGraph computes. -/
noncomputable def m_reach_newGraph (p0 : List Int × Int × List Int × (List (Int × Int × Int))) : Option ((List Int × Int × List Int × (List (Int × Int × Int))) × List Int) :=
  (mkL (W (p0.2.1 + 1)) (0 : Int)).bind fun x19 =>
  (iter (m_reach_newGraph_l1 p0) (0, x19)).bind fun o50 =>
  (iter (m_reach_newGraph_l2 p0) (0, o50)).bind fun o82 =>
  some (p0, o82)
set_option maxRecDepth 100000 in
set_option maxHeartbeats 8000000 in
theorem m_reach_newGraph_c {s : Sig} {p0 : List Int × Int × List Int × (List (Int × Int × Int))} {a1 : Option Addr} {c1 : Nat} {a2 : Option Addr} {c2 : Nat} {a3 : Option Addr} {c3 : Nat} {u3 : Nat} {r : ((List Int × Int × List Int × (List (Int × Int × Int))) × List Int)} (h1 : RdL (rK .i64) s a1 c1 p0.1) (h2 : RdL (rK .i64) s a2 c2 p0.2.2.1) (h3 : RdL (rP (rK .i64) (rP (rK .i64) (rK .i64))) s a3 c3 p0.2.2.2) (hm : m_reach_newGraph p0 = some r) :
    Calls Try.prog 48 #[.agg #[.slice a1 p0.1.length c1, .int .i64 p0.2.1, .slice a2 p0.2.2.1.length c2, .slice a3 p0.2.2.2.length c3]] s.w (RetS No s fun v s' => ∃ (a4 : Option Addr) (c4 : Nat) (a5 : Option Addr) (c5 : Nat) (a6 : Option Addr) (c6 : Nat) (a7 : Option Addr) (c7 : Nat), v = .agg #[.slice a4 r.1.1.length c4, .int .i64 r.1.2.1, .slice a5 r.1.2.2.1.length c5, .slice a6 r.1.2.2.2.length c6, .slice a7 r.2.length c7] ∧ RdL (rK .i64) s' a4 c4 r.1.1 ∧ RdL (rK .i64) s' a5 c5 r.1.2.2.1 ∧ RdL (rP (rK .i64) (rP (rK .i64) (rK .i64))) s' a6 c6 r.1.2.2.2 ∧ RowT (rK .i64) s' u3 3 a7 c7 r.2) := by
  unfold m_reach_newGraph at hm
  obtain ⟨N, hN, hNb⟩ := s.fresh
  have m0 : Mv (Up N No) s s := Mv.refl _ _
  refine E.entry (vs := [.agg #[.slice a1 p0.1.length c1, .int .i64 p0.2.1, .slice a2 p0.2.2.1.length c2, .slice a3 p0.2.2.2.length c3]]) (e := [(0, .agg #[.slice a1 p0.1.length c1, .int .i64 p0.2.1, .slice a2 p0.2.2.1.length c2, .slice a3 p0.2.2.2.length c3])]) Try.func48 rfl Try.ntmps48 rfl rfl ?_
  refine E.seq ?_
  refine E.reg ?_
  refine L.box (N + 0) Wt.no rfl rfl rfl ?_
  intro b8 s9 m10 bx8
  replace m0 := m0.trans m10.no
  replace h1 := h1.mono (m10.le no_No)
  replace h2 := h2.mono (m10.le no_No)
  replace h3 := h3.mono (m10.le no_No)
  refine L.al (N + 1) zz80 rfl Wt.no rfl ?_
  intro b11 s12 m13 bx11
  replace m0 := m0.trans m13.no
  replace bx8 := bx8.mv m13 no_No
  replace h1 := h1.mono (m13.le no_No)
  replace h2 := h2.mono (m13.le no_No)
  replace h3 := h3.mono (m13.le no_No)
  refine L.nil ?_
  refine X.seqN ?_
  refine E.seq ?_
  obtain ⟨x19, ex19, hm⟩ := bindS hm
  refine E.draw [[], [], [1], [1, 2], [1, 2, 3], [0, 1, 2, 3, 4], [], [0, 1, 2, 3, 4, 5, 6]] (fun D e sx => Mv (One (N + 3)) s12 sx ∧ Sub [(2, .pointer (some ⟨b11, 0, none⟩)), (1, .pointer (some ⟨b8, 0, none⟩))] e ∧ AllP [D 0 = true → (Env.get e 7 = some (.agg #[.slice a1 p0.1.length c1, .int .i64 p0.2.1, .slice a2 p0.2.2.1.length c2, .slice a3 p0.2.2.2.length c3])), D 1 = true → (Env.get e 8 = some (.pointer (some ⟨b8, 1, none⟩))), D 2 = true → (Env.get e 9 = some (.int .i64 p0.2.1)), D 3 = true → (Env.get e 10 = some (.int .i64 (W (p0.2.1 + 1)))), D 4 = true → (∃ (b20 : Nat), Env.get e 11 = some (.slice (some ⟨b20, 0, none⟩) x19.length x19.length) ∧ RowT (rK .i64) sx (N + 2) 3 (some ⟨b20, 0, none⟩) x19.length x19), D 5 = true → ∀ (b20 : Nat), Env.get e 11 = some (.slice (some ⟨b20, 0, none⟩) x19.length x19.length) → (Env.get e 12 = some (.agg #[.slice a1 p0.1.length c1, .int .i64 p0.2.1, .slice a2 p0.2.2.1.length c2, .slice a3 p0.2.2.2.length c3, .slice (some ⟨b20, 0, none⟩) x19.length x19.length])), D 6 = true → (∃ (b25 : Nat), Env.get e 3 = some (.pointer (some ⟨b25, 0, none⟩))), D 6 = true → D 7 = false → ∀ (b25 : Nat), Env.get e 3 = some (.pointer (some ⟨b25, 0, none⟩)) → Bx sx (N + 3) b25 #[.slice none 0 0, .int .i64 0, .slice none 0 0, .slice none 0 0, .slice none 0 0] 80, D 7 = true → ∀ (b20 : Nat) (b25 : Nat), Env.get e 11 = some (.slice (some ⟨b20, 0, none⟩) x19.length x19.length) → Env.get e 3 = some (.pointer (some ⟨b25, 0, none⟩)) → Bx sx (N + 3) b25 #[.slice a1 p0.1.length c1, .int .i64 p0.2.1, .slice a2 p0.2.2.1.length c2, .slice a3 p0.2.2.2.length c3, .slice (some ⟨b20, 0, none⟩) x19.length x19.length] 80]) (by kernel_rfl) (by kernel_rfl) (by kernel_rfl) ?_ ?_ ?_
  · intro sz mz
    exact ⟨mz.no, (Sub.cons rfl (Sub.cons rfl Sub.nil)), nofun, nofun, nofun, nofun, nofun, nofun, nofun, nofun, nofun, trivial⟩
  · refine ⟨?_, ?_, ?_, ?_, ?_, ?_, ?_, ?_, trivial⟩
    · rintro D e s14 ⟨im, ib, i⟩ hk hf ha
      have bx8 := bx8.mv im (tgN (by decide))
      have kn : Kn e [(1, .pointer (some ⟨b8, 0, none⟩))] := ⟨(ib 1 _ rfl), trivial⟩
      refine L.kns _ kn ?_
      refine L.lg (j := 0) (cs := [.slice a1 p0.1.length c1, .int .i64 p0.2.1, .slice a2 p0.2.2.1.length c2, .slice a3 p0.2.2.2.length c3]) bx8.mem ag31 Wt.no rfl rfl rfl rfl rfl ?_
      refine L.nil ?_
      exact X.dk kn ⟨im, Sub.fresh ib rfl, i.u 0 (fun _ => rfl)⟩
    · rintro D e s15 ⟨im, ib, i⟩ hk hf ha
      have kn : Kn e [(1, .pointer (some ⟨b8, 0, none⟩))] := ⟨(ib 1 _ rfl), trivial⟩
      refine L.kns _ kn ?_
      refine L.fa fa31_1 Wt.no rfl rfl ?_
      refine L.nil ?_
      exact X.dk kn ⟨im, Sub.fresh ib rfl, i.u 1 (fun _ => rfl)⟩
    · rintro D e s16 ⟨im, ib, i⟩ hk hf ha
      have g1_ := (i.p 1) (ha.at 1 rfl)
      have bx8 := bx8.mv im (tgN (by decide))
      have kn : Kn e [(8, .pointer (some ⟨b8, 1, none⟩))] := ⟨g1_, trivial⟩
      refine L.kns _ kn ?_
      refine L.ld (j := 1) bx8.mem nag3 Wt.no rfl rfl rfl rfl ?_
      refine L.nil ?_
      exact X.dk kn ⟨im, Sub.fresh ib rfl, i.u 2 (fun _ => rfl)⟩
    · rintro D e s17 ⟨im, ib, i⟩ hk hf ha
      have g2_ := (i.p 2) (ha.at 2 rfl)
      have kn : Kn e [(9, .int .i64 p0.2.1)] := ⟨g2_, trivial⟩
      refine L.kns _ kn ?_
      refine L.bi Wt.no rfl rfl rfl rfl ?_
      refine L.nil ?_
      exact X.dk kn ⟨im, Sub.fresh ib rfl, i.u 3 (fun _ => rfl)⟩
    · rintro D e s18 ⟨im, ib, i⟩ hk hf ha
      have g3_ := (i.p 3) (ha.at 3 rfl)
      have kn : Kn e [(10, .int .i64 (W (p0.2.1 + 1)))] := ⟨g3_, trivial⟩
      refine L.kns _ kn ?_
      refine L.mk (z := (0 : Int)) (N + 2) Try.underlying28 zr3 rfl Wt.no rfl rfl ex19 rfl ?_
      intro b20 s21 m22 h20
      refine L.nil ?_
      exact X.dk kn ⟨im.trans m22.no, Sub.fresh ib rfl, (((i.u 4 (fun _ => ⟨b20, rfl, h20⟩)).u 5 (fun z => Bool.noConfusion ((hf 5 (Nat.le_of_ble_eq_true rfl) rfl).symm.trans z))).u 7 (fun z z2 b25 q6 => (((i.p 7) z z2 b25 q6).mv m22 no_No))).u 8 (fun z => Bool.noConfusion ((hf 7 (Nat.le_of_ble_eq_true rfl) rfl).symm.trans z))⟩
    · rintro D e s23 ⟨im, ib, i⟩ hk hf ha
      have g0_ := (i.p 0) (ha.at 0 rfl)
      obtain ⟨b20, g4_, h20⟩ := (i.p 4) (ha.at 4 rfl)
      have kn : Kn e [(7, .agg #[.slice a1 p0.1.length c1, .int .i64 p0.2.1, .slice a2 p0.2.2.1.length c2, .slice a3 p0.2.2.2.length c3]), (11, .slice (some ⟨b20, 0, none⟩) x19.length x19.length)] := ⟨g0_, g4_, trivial⟩
      refine L.kns _ kn ?_
      refine L.bu (cs := [.slice a1 p0.1.length c1, .int .i64 p0.2.1, .slice a2 p0.2.2.1.length c2, .slice a3 p0.2.2.2.length c3, .slice (some ⟨b20, 0, none⟩) x19.length x19.length]) pl80 Wt.no rfl rfl rfl ?_
      refine L.nil ?_
      exact X.dk kn ⟨im, Sub.fresh ib rfl, i.u 5 (fun _ _ q4 => by cases g4_.symm.trans q4; exact rfl)⟩
    · rintro D e s24 ⟨im, ib, i⟩ hk hf ha
      refine L.al (N + 3) zz80 rfl Wt.no rfl ?_
      intro b25 s26 m27 bx25
      refine L.nil ?_
      exact X.dr (s := s26) (e' := (3, .pointer (some ⟨b25, 0, none⟩)) :: e) (Sub.both (Sub.refl)) ⟨im.trans m27.no, Sub.fresh ib rfl, (((i.u 4 (fun z => let ⟨b20, q, h20⟩ := (i.p 4) z; ⟨b20, q, (h20.mv m27 no_No no_No)⟩)).u 6 (fun _ => ⟨b25, rfl⟩)).u 7 (fun _ _ _ q6 => by cases (show some (.pointer (some ⟨b25, 0, none⟩) : Value) = some _ from q6); exact bx25)).u 8 (fun z => Bool.noConfusion ((hf 7 (Nat.le_of_ble_eq_true rfl) rfl).symm.trans z))⟩
    · rintro D e s28 ⟨im, ib, i⟩ hk hf ha
      obtain ⟨b20, g4_, h20⟩ := (i.p 4) (ha.at 4 rfl)
      have g5_ := (i.p 5) (ha.at 5 rfl) b20 g4_
      obtain ⟨b25, g6_⟩ := (i.p 6) (ha.at 6 rfl)
      obtain bx25 := (i.p 7) (ha.at 6 rfl) hk b25 g6_
      have kn : Kn e [(3, .pointer (some ⟨b25, 0, none⟩)), (12, .agg #[.slice a1 p0.1.length c1, .int .i64 p0.2.1, .slice a2 p0.2.2.1.length c2, .slice a3 p0.2.2.2.length c3, .slice (some ⟨b20, 0, none⟩) x19.length x19.length])] := ⟨g6_, g5_, trivial⟩
      refine L.kns _ kn ?_
      refine L.st (c := [.slice a1 p0.1.length c1, .int .i64 p0.2.1, .slice a2 p0.2.2.1.length c2, .slice a3 p0.2.2.2.length c3, .slice (some ⟨b20, 0, none⟩) x19.length x19.length]) (cs' := #[.slice a1 p0.1.length c1, .int .i64 p0.2.1, .slice a2 p0.2.2.1.length c2, .slice a3 p0.2.2.2.length c3, .slice (some ⟨b20, 0, none⟩) x19.length x19.length]) bx25 ag80.sz Wt.no rfl rfl rfl rfl rfl (Nat.le_of_ble_eq_true rfl) rfl ?_
      intro s29 m30 bx25
      refine L.nil ?_
      exact X.dn kn ⟨im.trans (m30.one rfl), ib, ((i.u 4 (fun z => let ⟨b20, q, h20⟩ := (i.p 4) z; ⟨b20, q, (h20.mv m30 (tgN (by decide)) (tg0 hN))⟩)).u 7 (fun _ z => Bool.noConfusion (show true = false from z))).u 8 (fun _ _ _ q4 q6 => by cases g4_.symm.trans q4; cases g6_.symm.trans q6; exact bx25)⟩
  · rintro D e s31 hD ⟨im, ib, i⟩
    obtain ⟨b20, g4_, h20⟩ := (i.p 4) (hD 4 rfl)
    obtain ⟨b25, g6_⟩ := (i.p 6) (hD 6 rfl)
    obtain bx25 := (i.p 8) (hD 7 rfl) b20 b25 g4_ g6_
    have h1 := h1.mono (im.le (tg0 hN))
    have h2 := h2.mono (im.le (tg0 hN))
    have h3 := h3.mono (im.le (tg0 hN))
    have bx11 := bx11.mv im (tgN (by decide))
    have bx8 := bx8.mv im (tgN (by decide))
    have m0 := m0.trans (im.one up)
    refine X.sub (e' := [(3, .pointer (some ⟨b25, 0, none⟩)), (2, .pointer (some ⟨b11, 0, none⟩)), (1, .pointer (some ⟨b8, 0, none⟩))]) ?_ (Sub.cons g6_ (Sub.cons (ib 2 _ rfl) (Sub.cons (ib 1 _ rfl) Sub.nil)))
    refine X.seqN ?_
    refine E.seq ?_
    refine E.seq ?_
    refine E.reg ?_
    refine L.fa fa31_3 Wt.no rfl rfl ?_
    refine L.ld (j := 3) bx8.mem nag29 Wt.no rfl rfl rfl rfl ?_
    refine L.len sl29 Wt.no rfl rfl ?_
    refine L.mv Wt.no rfl rfl ?_
    refine L.nil ?_
    refine X.seqN ?_
    refine E.block ?_
    obtain ⟨o50, eo50, hm⟩ := bindS hm
    refine E.cut (x := .exit 0) (fun e w => ∃ (s53 : Sig), Mv (Up N No) s s53 ∧ RdL (rK .i64) s53 a1 c1 p0.1 ∧ RdL (rK .i64) s53 a2 c2 p0.2.2.1 ∧ RdL (rP (rK .i64) (rP (rK .i64) (rK .i64))) s53 a3 c3 p0.2.2.2 ∧ RowT (rK .i64) s53 (N + 2) 3 (some ⟨b20, 0, none⟩) x19.length o50 ∧ Bx s53 (N + 0) b8 #[.slice a1 p0.1.length c1, .int .i64 p0.2.1, .slice a2 p0.2.2.1.length c2, .slice a3 p0.2.2.2.length c3] 31 ∧ Bx s53 (N + 1) b11 #[.slice none 0 0, .int .i64 0, .slice none 0 0, .slice none 0 0, .slice none 0 0] 80 ∧ Bx s53 (N + 3) b25 #[.slice a1 p0.1.length c1, .int .i64 p0.2.1, .slice a2 p0.2.2.1.length c2, .slice a3 p0.2.2.2.length c3, .slice (some ⟨b20, 0, none⟩) o50.length x19.length] 80 ∧ e = [(3, .pointer (some ⟨b25, 0, none⟩)), (2, .pointer (some ⟨b11, 0, none⟩)), (1, .pointer (some ⟨b8, 0, none⟩))] ∧ w = s53.w) ?_ ?_
    · rintro _ _ ⟨s53, m0, h1, h2, h3, h20, bx8, bx11, bx25, rfl, rfl⟩
      refine X.blkE ?_
      refine X.seqN ?_
      refine E.seq ?_
      refine E.seq ?_
      refine E.reg ?_
      refine L.fa fa31_1 Wt.no rfl rfl ?_
      refine L.ld (j := 1) bx8.mem nag3 Wt.no rfl rfl rfl rfl ?_
      refine L.mv Wt.no rfl rfl ?_
      refine L.nil ?_
      refine X.seqN ?_
      refine E.block ?_
      obtain ⟨o82, eo82, hm⟩ := bindS hm
      refine E.cut (x := .exit 2) (fun e w => ∃ (s85 : Sig), Mv (Up N No) s s85 ∧ RdL (rK .i64) s85 a1 c1 p0.1 ∧ RdL (rK .i64) s85 a2 c2 p0.2.2.1 ∧ RdL (rP (rK .i64) (rP (rK .i64) (rK .i64))) s85 a3 c3 p0.2.2.2 ∧ RowT (rK .i64) s85 (N + 2) 3 (some ⟨b20, 0, none⟩) x19.length o82 ∧ Bx s85 (N + 1) b11 #[.slice none 0 0, .int .i64 0, .slice none 0 0, .slice none 0 0, .slice none 0 0] 80 ∧ Bx s85 (N + 3) b25 #[.slice a1 p0.1.length c1, .int .i64 p0.2.1, .slice a2 p0.2.2.1.length c2, .slice a3 p0.2.2.2.length c3, .slice (some ⟨b20, 0, none⟩) o82.length x19.length] 80 ∧ e = [(3, .pointer (some ⟨b25, 0, none⟩)), (2, .pointer (some ⟨b11, 0, none⟩))] ∧ w = s85.w) ?_ ?_
      · rintro _ _ ⟨s85, m0, h1, h2, h3, h20, bx11, bx25, rfl, rfl⟩
        refine X.blkE ?_
        refine X.seqN ?_
        refine E.seq ?_
        refine E.reg ?_
        refine L.lg (j := 0) (cs := [.slice a1 p0.1.length c1, .int .i64 p0.2.1, .slice a2 p0.2.2.1.length c2, .slice a3 p0.2.2.2.length c3, .slice (some ⟨b20, 0, none⟩) o82.length x19.length]) bx25.mem ag80 Wt.no rfl rfl rfl rfl rfl ?_
        refine L.st (c := [.slice a1 p0.1.length c1, .int .i64 p0.2.1, .slice a2 p0.2.2.1.length c2, .slice a3 p0.2.2.2.length c3, .slice (some ⟨b20, 0, none⟩) o82.length x19.length]) (cs' := #[.slice a1 p0.1.length c1, .int .i64 p0.2.1, .slice a2 p0.2.2.1.length c2, .slice a3 p0.2.2.2.length c3, .slice (some ⟨b20, 0, none⟩) o82.length x19.length]) bx11 ag80.sz Wt.no rfl rfl rfl rfl rfl (Nat.le_of_ble_eq_true rfl) rfl ?_
        intro s86 m87 bx11
        replace m0 := m0.trans (m87.one up)
        replace h1 := h1.mono (m87.le (tg0 hN))
        replace h2 := h2.mono (m87.le (tg0 hN))
        replace h3 := h3.mono (m87.le (tg0 hN))
        replace h20 := h20.mv m87 (tgN (by decide)) (tg0 hN)
        refine L.nil ?_
        refine X.seqN ?_
        refine E.ret ?_
        obtain rfl := Option.some.inj hm
        exact X.rt (.inl rfl) Try.results48 (Rs.cell rfl bx11 ag80 rfl Rs.nil) rfl ⟨_, (s86).ren N (fun k => cond (Nat.beq k 2) u3 (0)), rfl, rfl, m0.ren hNb, ⟨a1, c1, a2, c2, a3, c3, (some ⟨b20, 0, none⟩), x19.length, rfl, (h1.ren hN), (h2.ren hN), (h3.ren hN), (h20.ren hN)⟩⟩
      intro K88
      refine E.iter (fun (st82 : Int × List Int) (e : List (Nat × Value)) (w : World) => ∃ (s84 : Sig), Mv (Up N No) s s84 ∧ RdL (rK .i64) s84 a1 c1 p0.1 ∧ RdL (rK .i64) s84 a2 c2 p0.2.2.1 ∧ RdL (rP (rK .i64) (rP (rK .i64) (rK .i64))) s84 a3 c3 p0.2.2.2 ∧ RowT (rK .i64) s84 (N + 2) 3 (some ⟨b20, 0, none⟩) x19.length st82.2 ∧ Bx s84 (N + 1) b11 #[.slice none 0 0, .int .i64 0, .slice none 0 0, .slice none 0 0, .slice none 0 0] 80 ∧ Bx s84 (N + 3) b25 #[.slice a1 p0.1.length c1, .int .i64 p0.2.1, .slice a2 p0.2.2.1.length c2, .slice a3 p0.2.2.2.length c3, .slice (some ⟨b20, 0, none⟩) st82.2.length x19.length] 80 ∧ e = [(32, .int .i64 st82.1), (31, .int .i64 p0.2.1), (3, .pointer (some ⟨b25, 0, none⟩)), (2, .pointer (some ⟨b11, 0, none⟩))] ∧ w = s84.w) eo82 ⟨s53, m0, h1, h2, h3, h20, bx11, bx25, rfl, rfl⟩ (Sub.cons rfl (Sub.cons rfl (Sub.cons rfl (Sub.cons rfl Sub.nil)))) ?_
      rintro st82 res82 hm ih82 ho82 _ _ ⟨s84, m0, h1, h2, h3, h20, bx11, bx25, rfl, rfl⟩
      unfold m_reach_newGraph_l2 at hm
      refine E.seq ?_
      refine E.reg ?_
      refine L.bi Wt.no rfl rfl rfl rfl ?_
      refine L.nil ?_
      refine X.seqN ?_
      refine E.seq ?_
      rcases ifS hm with ⟨hc, hm⟩ | ⟨hc, hm⟩
      · refine E.cT rfl hc ?_
        refine E.skip ?_
        refine X.seqN ?_
        refine E.seq ?_
        refine E.block ?_
        refine E.seq ?_
        refine E.reg ?_
        refine L.mv Wt.no rfl rfl ?_
        refine L.as Wt.no rfl rfl ?_
        refine L.nil ?_
        refine X.seqN ?_
        obtain ⟨x94, ex94, hm⟩ := bindS hm
        obtain ⟨x101, ex101, hm⟩ := bindS hm
        obtain ⟨x106, ex106, hm⟩ := bindS hm
        obtain ⟨x109, ex109, hm⟩ := bindS hm
        have elx109 := upd_len ex109
        refine E.draw [[], [0], [], [2], [0, 1, 2, 3], [0, 1, 2, 3, 4], [], [6], [], [6, 7, 8], [6, 7, 8, 9], [0, 1, 2, 3, 4, 5, 6, 7, 8, 9, 10], [0, 1, 2, 3, 4, 5, 6, 7, 8, 9, 10, 11], [0, 1, 2, 3, 4, 5, 6, 7, 8, 9, 10, 11, 12]] (fun D e sx => Mv (One (N + 2)) s84 sx ∧ Sub [(6, .int .i64 st82.1), (32, .int .i64 st82.1), (31, .int .i64 p0.2.1), (3, .pointer (some ⟨b25, 0, none⟩)), (2, .pointer (some ⟨b11, 0, none⟩))] e ∧ AllP [D 0 = true → (Env.get e 35 = some (.pointer (some ⟨b25, 4, none⟩))), D 1 = true → (Env.get e 36 = some (.slice (some ⟨b20, 0, none⟩) st82.2.length x19.length)), D 2 = true → (Env.get e 37 = some (.int .i64 st82.1)), D 3 = true → (Env.get e 38 = some (.int .i64 (W (st82.1 + 1)))), D 4 = true → (∃ (b95 : Nat) (o95 : Nat), Env.get e 39 = some (.pointer (some ⟨b95, o95, none⟩)) ∧ Spot (some ⟨b20, 0, none⟩) (rK .i64).sz (W (st82.1 + 1)).toNat b95 o95), D 5 = true → (Env.get e 40 = some (.int .i64 x94)), D 6 = true → (Env.get e 41 = some (.pointer (some ⟨b25, 4, none⟩))), D 7 = true → (Env.get e 42 = some (.slice (some ⟨b20, 0, none⟩) st82.2.length x19.length)), D 8 = true → (Env.get e 43 = some (.int .i64 st82.1)), D 9 = true → (∃ (b102 : Nat) (o102 : Nat), Env.get e 44 = some (.pointer (some ⟨b102, o102, none⟩)) ∧ Spot (some ⟨b20, 0, none⟩) (rK .i64).sz (st82.1).toNat b102 o102), D 10 = true → (Env.get e 45 = some (.int .i64 x101)), D 11 = true → (Env.get e 46 = some (.int .i64 (W (x94 + x101)))), D 12 = true → (∃ (b107 : Nat) (o107 : Nat), Env.get e 47 = some (.pointer (some ⟨b107, o107, none⟩)) ∧ Spot (some ⟨b20, 0, none⟩) (rK .i64).sz (W (st82.1 + 1)).toNat b107 o107), D 13 = false → RowT (rK .i64) sx (N + 2) 3 (some ⟨b20, 0, none⟩) x19.length st82.2, D 13 = true → RowT (rK .i64) sx (N + 2) 3 (some ⟨b20, 0, none⟩) x19.length x109, D 4 = true → D 13 = false → ∀ (b95 : Nat) (o95 : Nat), Env.get e 39 = some (.pointer (some ⟨b95, o95, none⟩)) → Mem sx (N + 2) b95 o95 [.int .i64 x94], D 9 = true → D 13 = false → ∀ (b102 : Nat) (o102 : Nat), Env.get e 44 = some (.pointer (some ⟨b102, o102, none⟩)) → Mem sx (N + 2) b102 o102 [.int .i64 x101], D 12 = true → D 13 = false → ∀ (b107 : Nat) (o107 : Nat), Env.get e 47 = some (.pointer (some ⟨b107, o107, none⟩)) → Mem sx (N + 2) b107 o107 [.int .i64 x106]]) (by kernel_rfl) (by kernel_rfl) (by kernel_rfl) ?_ ?_ ?_
        · intro sz mz
          exact ⟨mz.no, (Sub.cons rfl (Sub.cons rfl (Sub.cons rfl (Sub.cons rfl (Sub.cons rfl Sub.nil))))), nofun, nofun, nofun, nofun, nofun, nofun, nofun, nofun, nofun, nofun, nofun, nofun, nofun, fun _ => h20.mv mz no_No no_No, nofun, nofun, nofun, nofun, trivial⟩
        · refine ⟨?_, ?_, ?_, ?_, ?_, ?_, ?_, ?_, ?_, ?_, ?_, ?_, ?_, ?_, trivial⟩
          · rintro D e s89 ⟨im, ib, i⟩ hk hf ha
            have kn : Kn e [(3, .pointer (some ⟨b25, 0, none⟩))] := ⟨(ib 3 _ rfl), trivial⟩
            refine L.kns _ kn ?_
            refine L.fa fa80_1 Wt.no rfl rfl ?_
            refine L.nil ?_
            exact X.dk kn ⟨im, Sub.fresh ib rfl, i.u 0 (fun _ => rfl)⟩
          · rintro D e s90 ⟨im, ib, i⟩ hk hf ha
            have g0_ := (i.p 0) (ha.at 0 rfl)
            have bx25 := bx25.mv im (tgN (by decide))
            have kn : Kn e [(35, .pointer (some ⟨b25, 4, none⟩))] := ⟨g0_, trivial⟩
            refine L.kns _ kn ?_
            refine L.ld (j := 4) bx25.mem nag28 Wt.no rfl rfl rfl rfl ?_
            refine L.nil ?_
            exact X.dk kn ⟨im, Sub.fresh ib rfl, i.u 1 (fun _ => rfl)⟩
          · rintro D e s91 ⟨im, ib, i⟩ hk hf ha
            have kn : Kn e [(6, .int .i64 st82.1)] := ⟨(ib 6 _ rfl), trivial⟩
            refine L.kns _ kn ?_
            refine L.mv Wt.no rfl rfl ?_
            refine L.nil ?_
            exact X.dk kn ⟨im, Sub.fresh ib rfl, i.u 2 (fun _ => rfl)⟩
          · rintro D e s92 ⟨im, ib, i⟩ hk hf ha
            have g2_ := (i.p 2) (ha.at 2 rfl)
            have kn : Kn e [(37, .int .i64 st82.1)] := ⟨g2_, trivial⟩
            refine L.kns _ kn ?_
            refine L.bi Wt.no rfl rfl rfl rfl ?_
            refine L.nil ?_
            exact X.dk kn ⟨im, Sub.fresh ib rfl, i.u 3 (fun _ => rfl)⟩
          · rintro D e s93 ⟨im, ib, i⟩ hk hf ha
            have g1_ := (i.p 1) (ha.at 1 rfl)
            have g3_ := (i.p 3) (ha.at 3 rfl)
            obtain h20 := (i.p 13) (hf 13 (Nat.le_of_ble_eq_true rfl) rfl)
            have kn : Kn e [(36, .slice (some ⟨b20, 0, none⟩) st82.2.length x19.length), (38, .int .i64 (W (st82.1 + 1)))] := ⟨g1_, g3_, trivial⟩
            refine L.kns _ kn ?_
            refine L.ir (r := (rK .i64)) sl28 h20 Wt.no rfl rfl ex94 rfl ?_
            rintro b95 o95 cc95 me95 rd95 sp95
            obtain rfl := rd95
            refine L.nil ?_
            exact X.dk kn ⟨im, Sub.fresh ib rfl, (i.u 4 (fun _ => ⟨b95, o95, rfl, sp95⟩)).u 15 (fun _ _ _ _ q4 => by cases (show some (.pointer (some ⟨b95, o95, none⟩) : Value) = some _ from q4); exact me95)⟩
          · rintro D e s96 ⟨im, ib, i⟩ hk hf ha
            obtain ⟨b95, o95, g4_, sp95⟩ := (i.p 4) (ha.at 4 rfl)
            have me95 := (i.p 15) (ha.at 4 rfl) (hf 13 (Nat.le_of_ble_eq_true rfl) rfl) b95 o95 g4_
            have kn : Kn e [(39, .pointer (some ⟨b95, o95, none⟩))] := ⟨g4_, trivial⟩
            refine L.kns _ kn ?_
            refine L.ld (j := 0) me95 nag3 Wt.no rfl rfl rfl rfl ?_
            refine L.nil ?_
            exact X.dk kn ⟨im, Sub.fresh ib rfl, i.u 5 (fun _ => rfl)⟩
          · rintro D e s97 ⟨im, ib, i⟩ hk hf ha
            have kn : Kn e [(3, .pointer (some ⟨b25, 0, none⟩))] := ⟨(ib 3 _ rfl), trivial⟩
            refine L.kns _ kn ?_
            refine L.fa fa80_1 Wt.no rfl rfl ?_
            refine L.nil ?_
            exact X.dk kn ⟨im, Sub.fresh ib rfl, i.u 6 (fun _ => rfl)⟩
          · rintro D e s98 ⟨im, ib, i⟩ hk hf ha
            have g6_ := (i.p 6) (ha.at 6 rfl)
            have bx25 := bx25.mv im (tgN (by decide))
            have kn : Kn e [(41, .pointer (some ⟨b25, 4, none⟩))] := ⟨g6_, trivial⟩
            refine L.kns _ kn ?_
            refine L.ld (j := 4) bx25.mem nag28 Wt.no rfl rfl rfl rfl ?_
            refine L.nil ?_
            exact X.dk kn ⟨im, Sub.fresh ib rfl, i.u 7 (fun _ => rfl)⟩
          · rintro D e s99 ⟨im, ib, i⟩ hk hf ha
            have kn : Kn e [(6, .int .i64 st82.1)] := ⟨(ib 6 _ rfl), trivial⟩
            refine L.kns _ kn ?_
            refine L.mv Wt.no rfl rfl ?_
            refine L.nil ?_
            exact X.dk kn ⟨im, Sub.fresh ib rfl, i.u 8 (fun _ => rfl)⟩
          · rintro D e s100 ⟨im, ib, i⟩ hk hf ha
            have g7_ := (i.p 7) (ha.at 7 rfl)
            have g8_ := (i.p 8) (ha.at 8 rfl)
            obtain h20 := (i.p 13) (hf 13 (Nat.le_of_ble_eq_true rfl) rfl)
            have kn : Kn e [(42, .slice (some ⟨b20, 0, none⟩) st82.2.length x19.length), (43, .int .i64 st82.1)] := ⟨g7_, g8_, trivial⟩
            refine L.kns _ kn ?_
            refine L.ir (r := (rK .i64)) sl28 h20 Wt.no rfl rfl ex101 rfl ?_
            rintro b102 o102 cc102 me102 rd102 sp102
            obtain rfl := rd102
            refine L.nil ?_
            exact X.dk kn ⟨im, Sub.fresh ib rfl, (i.u 9 (fun _ => ⟨b102, o102, rfl, sp102⟩)).u 16 (fun _ _ _ _ q9 => by cases (show some (.pointer (some ⟨b102, o102, none⟩) : Value) = some _ from q9); exact me102)⟩
          · rintro D e s103 ⟨im, ib, i⟩ hk hf ha
            obtain ⟨b102, o102, g9_, sp102⟩ := (i.p 9) (ha.at 9 rfl)
            have me102 := (i.p 16) (ha.at 9 rfl) (hf 13 (Nat.le_of_ble_eq_true rfl) rfl) b102 o102 g9_
            have kn : Kn e [(44, .pointer (some ⟨b102, o102, none⟩))] := ⟨g9_, trivial⟩
            refine L.kns _ kn ?_
            refine L.ld (j := 0) me102 nag3 Wt.no rfl rfl rfl rfl ?_
            refine L.nil ?_
            exact X.dk kn ⟨im, Sub.fresh ib rfl, i.u 10 (fun _ => rfl)⟩
          · rintro D e s104 ⟨im, ib, i⟩ hk hf ha
            have g5_ := (i.p 5) (ha.at 5 rfl)
            have g10_ := (i.p 10) (ha.at 10 rfl)
            have kn : Kn e [(40, .int .i64 x94), (45, .int .i64 x101)] := ⟨g5_, g10_, trivial⟩
            refine L.kns _ kn ?_
            refine L.bi Wt.no rfl rfl rfl rfl ?_
            refine L.nil ?_
            exact X.dk kn ⟨im, Sub.fresh ib rfl, i.u 11 (fun _ => rfl)⟩
          · rintro D e s105 ⟨im, ib, i⟩ hk hf ha
            have g1_ := (i.p 1) (ha.at 1 rfl)
            have g3_ := (i.p 3) (ha.at 3 rfl)
            obtain h20 := (i.p 13) (hf 13 (Nat.le_of_ble_eq_true rfl) rfl)
            have kn : Kn e [(36, .slice (some ⟨b20, 0, none⟩) st82.2.length x19.length), (38, .int .i64 (W (st82.1 + 1)))] := ⟨g1_, g3_, trivial⟩
            refine L.kns _ kn ?_
            refine L.ir (r := (rK .i64)) sl28 h20 Wt.no rfl rfl ex106 rfl ?_
            rintro b107 o107 cc107 me107 rd107 sp107
            obtain rfl := rd107
            refine L.nil ?_
            exact X.dk kn ⟨im, Sub.fresh ib rfl, (i.u 12 (fun _ => ⟨b107, o107, rfl, sp107⟩)).u 17 (fun _ _ _ _ q12 => by cases (show some (.pointer (some ⟨b107, o107, none⟩) : Value) = some _ from q12); exact me107)⟩
          · rintro D e s108 ⟨im, ib, i⟩ hk hf ha
            have g11_ := (i.p 11) (ha.at 11 rfl)
            obtain ⟨b107, o107, g12_, sp107⟩ := (i.p 12) (ha.at 12 rfl)
            obtain h20 := (i.p 13) hk
            have kn : Kn e [(47, .pointer (some ⟨b107, o107, none⟩)), (46, .int .i64 (W (x94 + x101)))] := ⟨g12_, g11_, trivial⟩
            refine L.kns _ kn ?_
            refine L.su (fo := 0) (c := [.int .i64 (W (x94 + x101))]) (z := W (x94 + x101)) h20 sp107 ex106 ex109 (tgp hN) nag3.sz Wt.no rfl rfl rfl rfl rfl rfl (fun c0 hc0 => by obtain rfl := hc0; exact rfl) ?_
            intro s110 m111 h20
            refine L.nil ?_
            exact X.dn kn ⟨im.trans (m111.one rfl), ib, (((((((i.u 4 (fun z => let ⟨b95, o95, q, sp95⟩ := (i.p 4) z; ⟨b95, o95, q, sp95⟩)).u 9 (fun z => let ⟨b102, o102, q, sp102⟩ := (i.p 9) z; ⟨b102, o102, q, sp102⟩)).u 12 (fun z => let ⟨b107, o107, q, sp107⟩ := (i.p 12) z; ⟨b107, o107, q, sp107⟩)).u 13 (fun z => Bool.noConfusion (show true = false from z))).u 14 (fun _ => by exact h20)).u 15 (fun _ y13 => Bool.noConfusion (show true = false from y13))).u 16 (fun _ y13 => Bool.noConfusion (show true = false from y13))).u 17 (fun _ y13 => Bool.noConfusion (show true = false from y13))⟩
        · rintro D e s112 hD ⟨im, ib, i⟩
          obtain h20 := (i.p 14) (hD 13 rfl)
          have bx25 := bx25.mv im (tgN (by decide))
          have h1 := h1.mono (im.le (tg0 hN))
          have h2 := h2.mono (im.le (tg0 hN))
          have h3 := h3.mono (im.le (tg0 hN))
          have bx11 := bx11.mv im (tgN (by decide))
          have m0 := m0.trans (im.one up)
          refine X.sub (e' := [(32, .int .i64 st82.1), (31, .int .i64 p0.2.1), (3, .pointer (some ⟨b25, 0, none⟩)), (2, .pointer (some ⟨b11, 0, none⟩))]) ?_ (Sub.cons (ib 32 _ rfl) (Sub.cons (ib 31 _ rfl) (Sub.cons (ib 3 _ rfl) (Sub.cons (ib 2 _ rfl) Sub.nil))))
          replace bx25 : Bx s112 (N + 3) b25 #[.slice a1 p0.1.length c1, .int .i64 p0.2.1, .slice a2 p0.2.2.1.length c2, .slice a3 p0.2.2.2.length c3, .slice (some ⟨b20, 0, none⟩) x109.length x19.length] 80 := by rw [elx109]; exact bx25
          refine X.blkN ?_
          refine X.seqN ?_
          refine E.reg ?_
          refine L.bi Wt.no rfl rfl rfl rfl ?_
          refine L.mv Wt.no rfl rfl ?_
          refine L.nil ?_
          exact X.sub (ih82 _ (Option.some.inj hm).symm _ _ ⟨s112, m0, h1, h2, h3, h20, bx11, bx25, rfl, rfl⟩) (Sub.cons rfl (Sub.cons rfl (Sub.cons rfl (Sub.cons rfl Sub.nil))))
      · refine E.cF rfl hc ?_
        refine E.exit ?_
        refine X.seqX ?_
        refine X.seqX ?_
        have hx := ho82 _ (Option.some.inj hm).symm
        subst hx
        exact X.sub (K88 _ _ ⟨s84, m0, h1, h2, h3, h20, bx11, bx25, rfl, rfl⟩) (Sub.cons rfl (Sub.cons rfl Sub.nil))
    intro K113
    refine E.iter (fun (st50 : Int × List Int) (e : List (Nat × Value)) (w : World) => ∃ (s52 : Sig), Mv (Up N No) s s52 ∧ RdL (rP (rK .i64) (rP (rK .i64) (rK .i64))) s52 a3 c3 p0.2.2.2 ∧ RdL (rK .i64) s52 a1 c1 p0.1 ∧ RdL (rK .i64) s52 a2 c2 p0.2.2.1 ∧ RowT (rK .i64) s52 (N + 2) 3 (some ⟨b20, 0, none⟩) x19.length st50.2 ∧ Bx s52 (N + 0) b8 #[.slice a1 p0.1.length c1, .int .i64 p0.2.1, .slice a2 p0.2.2.1.length c2, .slice a3 p0.2.2.2.length c3] 31 ∧ Bx s52 (N + 1) b11 #[.slice none 0 0, .int .i64 0, .slice none 0 0, .slice none 0 0, .slice none 0 0] 80 ∧ Bx s52 (N + 3) b25 #[.slice a1 p0.1.length c1, .int .i64 p0.2.1, .slice a2 p0.2.2.1.length c2, .slice a3 p0.2.2.2.length c3, .slice (some ⟨b20, 0, none⟩) st50.2.length x19.length] 80 ∧ e = [(16, .int .i64 st50.1), (15, .int .i64 (p0.2.2.2.length : Int)), (14, .slice a3 p0.2.2.2.length c3), (3, .pointer (some ⟨b25, 0, none⟩)), (2, .pointer (some ⟨b11, 0, none⟩)), (1, .pointer (some ⟨b8, 0, none⟩))] ∧ w = s52.w) eo50 ⟨s31, m0, h3, h1, h2, h20, bx8, bx11, bx25, rfl, rfl⟩ (Sub.cons rfl (Sub.cons rfl (Sub.cons rfl (Sub.cons rfl (Sub.cons rfl (Sub.cons rfl Sub.nil)))))) ?_
    rintro st50 res50 hm ih50 ho50 _ _ ⟨s52, m0, h3, h1, h2, h20, bx8, bx11, bx25, rfl, rfl⟩
    unfold m_reach_newGraph_l1 at hm
    refine E.seq ?_
    refine E.reg ?_
    refine L.bi Wt.no rfl rfl rfl rfl ?_
    refine L.nil ?_
    refine X.seqN ?_
    refine E.seq ?_
    rcases ifS hm with ⟨hc, hm⟩ | ⟨hc, hm⟩
    · refine E.cT rfl hc ?_
      refine E.skip ?_
      refine X.seqN ?_
      refine E.seq ?_
      refine E.block ?_
      refine E.seq ?_
      refine E.reg ?_
      obtain ⟨x114, ex114, hm⟩ := bindS hm
      refine L.ix (r := (rP (rK .i64) (rP (rK .i64) (rK .i64)))) sl29 h3 Wt.no rfl rfl ex114 rfl ?_
      rintro b115 o115 cc115 me115 rd115
      obtain ⟨_, _, rfl, rfl, ⟨_, _, rfl, rfl, rfl⟩⟩ := rd115
      refine L.lg (j := 0) (cs := [.int .i64 x114.1, .int .i64 x114.2.1, .int .i64 x114.2.2]) me115 ag45 Wt.no rfl rfl rfl rfl rfl ?_
      refine L.al (N + 4) zz45 rfl Wt.no rfl ?_
      intro b116 s117 m118 bx116
      replace m0 := m0.trans m118.no
      replace h3 := h3.mono (m118.le no_No)
      replace bx8 := bx8.mv m118 no_No
      replace h1 := h1.mono (m118.le no_No)
      replace h2 := h2.mono (m118.le no_No)
      replace bx11 := bx11.mv m118 no_No
      replace bx25 := bx25.mv m118 no_No
      replace h20 := h20.mv m118 no_No no_No
      refine L.st (c := [.int .i64 x114.1, .int .i64 x114.2.1, .int .i64 x114.2.2]) (cs' := #[.int .i64 x114.1, .int .i64 x114.2.1, .int .i64 x114.2.2]) bx116 ag45.sz Wt.no rfl rfl rfl rfl rfl (Nat.le_of_ble_eq_true rfl) rfl ?_
      intro s119 m120 bx116
      replace m0 := m0.trans (m120.one up)
      replace h3 := h3.mono (m120.le (tg0 hN))
      replace bx8 := bx8.mv m120 (tgN (by decide))
      replace h1 := h1.mono (m120.le (tg0 hN))
      replace h2 := h2.mono (m120.le (tg0 hN))
      replace bx11 := bx11.mv m120 (tgN (by decide))
      replace bx25 := bx25.mv m120 (tgN (by decide))
      replace h20 := h20.mv m120 (tgN (by decide)) (tg0 hN)
      refine L.nil ?_
      refine X.seqN ?_
      refine E.reg ?_
      refine L.fa fa80_1 Wt.no rfl rfl ?_
      refine L.ld (j := 4) bx25.mem nag28 Wt.no rfl rfl rfl rfl ?_
      refine L.fa fa45_0 Wt.no rfl rfl ?_
      refine L.ld (j := 0) bx116.mem nag3 Wt.no rfl rfl rfl rfl ?_
      refine L.bi Wt.no rfl rfl rfl rfl ?_
      obtain ⟨x121, ex121, hm⟩ := bindS hm
      refine L.ir (r := (rK .i64)) sl28 h20 Wt.no rfl rfl ex121 rfl ?_
      rintro b122 o122 cc122 me122 rd122 sp122
      obtain rfl := rd122
      refine L.ld (j := 0) me122 nag3 Wt.no rfl rfl rfl rfl ?_
      refine L.bi Wt.no rfl rfl rfl rfl ?_
      obtain ⟨x123, ex123, hm⟩ := bindS hm
      refine L.ir (r := (rK .i64)) sl28 h20 Wt.no rfl rfl ex123 rfl ?_
      rintro b124 o124 cc124 me124 rd124 sp124
      obtain rfl := rd124
      obtain ⟨x125, ex125, hm⟩ := bindS hm
      have elx125 := upd_len ex125
      refine L.su (fo := 0) (c := [.int .i64 (W (x121 + 1))]) (z := W (x121 + 1)) h20 sp124 ex123 ex125 (tgp hN) nag3.sz Wt.no rfl rfl rfl rfl rfl rfl (fun c0 hc0 => by obtain rfl := hc0; exact rfl) ?_
      intro s126 m127 h20
      replace m0 := m0.trans (m127.one up)
      replace h3 := h3.mono (m127.le (tg0 hN))
      replace bx8 := bx8.mv m127 (tgN (by decide))
      replace h1 := h1.mono (m127.le (tg0 hN))
      replace h2 := h2.mono (m127.le (tg0 hN))
      replace bx11 := bx11.mv m127 (tgN (by decide))
      replace bx25 := bx25.mv m127 (tgN (by decide))
      replace bx25 : Bx s126 (N + 3) b25 #[.slice a1 p0.1.length c1, .int .i64 p0.2.1, .slice a2 p0.2.2.1.length c2, .slice a3 p0.2.2.2.length c3, .slice (some ⟨b20, 0, none⟩) x125.length x19.length] 80 := by rw [elx125]; exact bx25
      refine L.nil ?_
      refine X.blkN ?_
      refine X.seqN ?_
      refine E.reg ?_
      refine L.bi Wt.no rfl rfl rfl rfl ?_
      refine L.mv Wt.no rfl rfl ?_
      refine L.nil ?_
      exact X.sub (ih50 _ (Option.some.inj hm).symm _ _ ⟨s126, m0, h3, h1, h2, h20, bx8, bx11, bx25, rfl, rfl⟩) (Sub.cons rfl (Sub.cons rfl (Sub.cons rfl (Sub.cons rfl (Sub.cons rfl (Sub.cons rfl Sub.nil))))))
    · refine E.cF rfl hc ?_
      refine E.exit ?_
      refine X.seqX ?_
      refine X.seqX ?_
      have hx := ho50 _ (Option.some.inj hm).symm
      subst hx
      exact X.sub (K113 _ _ ⟨s52, m0, h1, h2, h3, h20, bx8, bx11, bx25, rfl, rfl⟩) (Sub.cons rfl (Sub.cons rfl (Sub.cons rfl Sub.nil)))

end Go.Proofs.Ythchkddhibhenaa

namespace Go.Proofs.Ythchkddhibhenaa
open Go Go.RowKit
theorem cf43 : Cf Try.prog 43 := Cf.mk Try.func43 (by kernel_rfl) (by kernel_rfl)
theorem cf48 : Cf Try.prog 48 := Cf.mk Try.func48 (by kernel_rfl) (by kernel_rfl)
theorem cf49 : Cf Try.prog 49 := Cf.mk Try.func49 (by kernel_rfl) (by kernel_rfl)
noncomputable def m_reach_Coreachable_j1 (st49 : Int × List Int) (l55 : List Int) : Option ((Int × List Int) ⊕ (List Int)) :=
  some (.inl (W (st49.1 + 1), l55))
noncomputable def m_reach_Coreachable_l1 (r23 : List Int) (st49 : Int × List Int) : Option ((Int × List Int) ⊕ (List Int)) :=
  if decide (st49.1 < (r23.length : Int)) then
    (idx r23 st49.1).bind fun x59 =>
    if decide (x59 ≥ 0) then
      (app st49.2 ([st49.1] : List Int)).bind fun x64 =>
      m_reach_Coreachable_j1 st49 x64
    else
      m_reach_Coreachable_j1 st49 st49.2
  else
    some (.inr st49.2)
/-- What reach.Coreachable computes. -/
noncomputable def m_reach_Coreachable (p0 : List Int × Int × List Int × (List (Int × Int × Int))) : Option (List Int × Int) :=
  (m_automaton_Check p0).bind fun r8 =>
  if (r8 != 0) then
    some (([] : List Int), r8)
  else
    (m_reach_newGraph p0).bind fun r13 =>
    (m_reach_graph_backward r13 p0.2.2.1).bind fun r23 =>
    (iter (m_reach_Coreachable_l1 r23) (0, ([] : List Int))).bind fun o49 =>
    some (o49, 0)
set_option maxRecDepth 100000 in
set_option maxHeartbeats 8000000 in
theorem m_reach_Coreachable_c {s : Sig} {p0 : List Int × Int × List Int × (List (Int × Int × Int))} {a1 : Option Addr} {c1 : Nat} {a2 : Option Addr} {c2 : Nat} {a3 : Option Addr} {c3 : Nat} {u0 : Nat} {r : List Int × Int} (h1 : RdL (rK .i64) s a1 c1 p0.1) (h2 : RdL (rK .i64) s a2 c2 p0.2.2.1) (h3 : RdL (rP (rK .i64) (rP (rK .i64) (rK .i64))) s a3 c3 p0.2.2.2) (hm : m_reach_Coreachable p0 = some r) :
    Calls Try.prog 27 #[.agg #[.slice a1 p0.1.length c1, .int .i64 p0.2.1, .slice a2 p0.2.2.1.length c2, .slice a3 p0.2.2.2.length c3]] s.w (RetS No s fun v s' => ∃ (a4 : Option Addr) (c4 : Nat), v = .tuple #[.slice a4 r.1.length c4, .int .i64 r.2] ∧ RowT (rK .i64) s' u0 3 a4 c4 r.1) := by
  unfold m_reach_Coreachable at hm
  obtain ⟨N, hN, hNb⟩ := s.fresh
  have m0 : Mv (Up N No) s s := Mv.refl _ _
  refine E.entry (vs := [.agg #[.slice a1 p0.1.length c1, .int .i64 p0.2.1, .slice a2 p0.2.2.1.length c2, .slice a3 p0.2.2.2.length c3]]) (e := [(0, .agg #[.slice a1 p0.1.length c1, .int .i64 p0.2.1, .slice a2 p0.2.2.1.length c2, .slice a3 p0.2.2.2.length c3])]) Try.func27 rfl Try.ntmps27 rfl rfl ?_
  refine E.seq ?_
  refine E.reg ?_
  refine L.box (N + 0) Wt.no rfl rfl rfl ?_
  intro b5 s6 m7 bx5
  replace m0 := m0.trans m7.no
  replace h1 := h1.mono (m7.le no_No)
  replace h2 := h2.mono (m7.le no_No)
  replace h3 := h3.mono (m7.le no_No)
  refine L.as Wt.no rfl rfl ?_
  refine L.as Wt.no rfl rfl ?_
  refine L.nil ?_
  refine X.seqN ?_
  refine E.seq ?_
  refine E.seq ?_
  refine E.reg ?_
  refine L.lg (j := 0) (cs := [.slice a1 p0.1.length c1, .int .i64 p0.2.1, .slice a2 p0.2.2.1.length c2, .slice a3 p0.2.2.2.length c3]) bx5.mem ag31 Wt.no rfl rfl rfl rfl rfl ?_
  obtain ⟨r8, er8, hm⟩ := bindS hm
  refine L.ca (vs := [.agg #[.slice a1 p0.1.length c1, .int .i64 p0.2.1, .slice a2 p0.2.2.1.length c2, .slice a3 p0.2.2.2.length c3]]) cf43 rfl rfl Wt.no rfl (m_automaton_Check_c (s := s6) (p0 := p0) h1 h2 h3 er8) rfl ?_
  rintro _ s9 m10 rfl
  replace m0 := m0.trans m10.no
  replace bx5 := bx5.mv m10 no_No
  replace h1 := h1.mono (m10.le no_No)
  replace h2 := h2.mono (m10.le no_No)
  replace h3 := h3.mono (m10.le no_No)
  refine L.as Wt.no rfl rfl ?_
  refine L.nil ?_
  refine X.seqN ?_
  refine E.seq ?_
  refine E.reg ?_
  refine L.mv Wt.no rfl rfl ?_
  refine L.bi Wt.no rfl rfl rfl rfl ?_
  refine L.nil ?_
  refine X.seqN ?_
  rcases ifS hm with ⟨hc, hm⟩ | ⟨hc, hm⟩
  · refine E.cT rfl hc ?_
    refine E.seq ?_
    refine E.reg ?_
    refine L.mv Wt.no rfl rfl ?_
    refine L.as Wt.no rfl rfl ?_
    refine L.as Wt.no rfl rfl ?_
    refine L.nil ?_
    refine X.seqN ?_
    refine E.ret ?_
    refine X.seqR ?_
    obtain rfl := Option.some.inj hm
    exact X.rt (.inl rfl) Try.results27 (Rs.tmp rfl (Rs.tmp rfl Rs.nil)) rfl ⟨_, (s9).ren N (fun _ => 0), rfl, rfl, m0.ren hNb, ⟨none, 0, rfl, RowT.nil⟩⟩
  · refine E.cF rfl hc ?_
    refine E.skip ?_
    refine X.seqN ?_
    refine E.seq ?_
    refine E.reg ?_
    refine L.as Wt.no rfl rfl ?_
    refine L.nil ?_
    refine X.seqN ?_
    refine E.seq ?_
    refine E.seq ?_
    obtain ⟨r13, er13, hm⟩ := bindS hm
    obtain ⟨r23, er23, hm⟩ := bindS hm
    refine E.draw [[], [0], [], [2], [0, 1, 2, 3], [0, 1, 2, 3, 4], []] (fun D e sx => Mv No s9 sx ∧ Sub [(5, .slice none 0 0), (1, .pointer (some ⟨b5, 0, none⟩))] e ∧ AllP [D 0 = true → (Env.get e 13 = some (.agg #[.slice a1 p0.1.length c1, .int .i64 p0.2.1, .slice a2 p0.2.2.1.length c2, .slice a3 p0.2.2.2.length c3])), D 1 = true → (∃ (a16 : Option Addr) (c16 : Nat) (a17 : Option Addr) (c17 : Nat) (a18 : Option Addr) (c18 : Nat) (a19 : Option Addr) (c19 : Nat), Env.get e 14 = some (.agg #[.slice a16 r13.1.1.length c16, .int .i64 r13.1.2.1, .slice a17 r13.1.2.2.1.length c17, .slice a18 r13.1.2.2.2.length c18, .slice a19 r13.2.length c19]) ∧ RdL (rK .i64) sx a16 c16 r13.1.1 ∧ RdL (rK .i64) sx a17 c17 r13.1.2.2.1 ∧ RdL (rP (rK .i64) (rP (rK .i64) (rK .i64))) sx a18 c18 r13.1.2.2.2 ∧ RdL (rK .i64) sx a19 c19 r13.2), D 2 = true → (Env.get e 15 = some (.pointer (some ⟨b5, 2, none⟩))), D 3 = true → (Env.get e 16 = some (.slice a2 p0.2.2.1.length c2)), D 4 = true → (∃ (a26 : Option Addr) (c26 : Nat), Env.get e 17 = some (.slice a26 r23.length c26) ∧ RdL (rK .i64) sx a26 c26 r23), D 5 = true → (Env.get e 18 = some (.int .i64 (r23.length : Int))), D 6 = true → (Env.get e 19 = some (.int .i64 0))]) (by kernel_rfl) (by kernel_rfl) (by kernel_rfl) ?_ ?_ ?_
    · intro sz mz
      exact ⟨mz, (Sub.cons rfl (Sub.cons rfl Sub.nil)), nofun, nofun, nofun, nofun, nofun, nofun, nofun, trivial⟩
    · refine ⟨?_, ?_, ?_, ?_, ?_, ?_, ?_, trivial⟩
      · rintro D e s11 ⟨im, ib, i⟩ hk hf ha
        have bx5 := bx5.mv im no_No
        have kn : Kn e [(1, .pointer (some ⟨b5, 0, none⟩))] := ⟨(ib 1 _ rfl), trivial⟩
        refine L.kns _ kn ?_
        refine L.lg (j := 0) (cs := [.slice a1 p0.1.length c1, .int .i64 p0.2.1, .slice a2 p0.2.2.1.length c2, .slice a3 p0.2.2.2.length c3]) bx5.mem ag31 Wt.no rfl rfl rfl rfl rfl ?_
        refine L.nil ?_
        exact X.dk kn ⟨im, Sub.fresh ib rfl, i.u 0 (fun _ => rfl)⟩
      · rintro D e s12 ⟨im, ib, i⟩ hk hf ha
        have g0_ := (i.p 0) (ha.at 0 rfl)
        have h1 := h1.mono (im.le no_No)
        have h2 := h2.mono (im.le no_No)
        have h3 := h3.mono (im.le no_No)
        have kn : Kn e [(13, .agg #[.slice a1 p0.1.length c1, .int .i64 p0.2.1, .slice a2 p0.2.2.1.length c2, .slice a3 p0.2.2.2.length c3])] := ⟨g0_, trivial⟩
        refine L.kns _ kn ?_
        refine L.ca (vs := [.agg #[.slice a1 p0.1.length c1, .int .i64 p0.2.1, .slice a2 p0.2.2.1.length c2, .slice a3 p0.2.2.2.length c3]]) cf48 rfl rfl Wt.no rfl (m_reach_newGraph_c (s := s12) (p0 := p0) (u3 := 0) h1 h2 h3 er13) rfl ?_
        rintro _ s14 m15 ⟨a16, c16, a17, c17, a18, c18, a19, c19, rfl, h16, h17, h18, h19⟩
        replace h19 := h19.p
        refine L.nil ?_
        exact X.dk kn ⟨im.trans m15.no, Sub.fresh ib rfl, (i.u 1 (fun _ => ⟨a16, c16, a17, c17, a18, c18, a19, c19, rfl, h16, h17, h18, h19⟩)).u 4 (fun z => let ⟨a26, c26, q, h26⟩ := (i.p 4) z; ⟨a26, c26, q, (h26.mono (m15.le no_No))⟩)⟩
      · rintro D e s20 ⟨im, ib, i⟩ hk hf ha
        have kn : Kn e [(1, .pointer (some ⟨b5, 0, none⟩))] := ⟨(ib 1 _ rfl), trivial⟩
        refine L.kns _ kn ?_
        refine L.fa fa31_2 Wt.no rfl rfl ?_
        refine L.nil ?_
        exact X.dk kn ⟨im, Sub.fresh ib rfl, i.u 2 (fun _ => rfl)⟩
      · rintro D e s21 ⟨im, ib, i⟩ hk hf ha
        have g2_ := (i.p 2) (ha.at 2 rfl)
        have bx5 := bx5.mv im no_No
        have kn : Kn e [(15, .pointer (some ⟨b5, 2, none⟩))] := ⟨g2_, trivial⟩
        refine L.kns _ kn ?_
        refine L.ld (j := 2) bx5.mem nag28 Wt.no rfl rfl rfl rfl ?_
        refine L.nil ?_
        exact X.dk kn ⟨im, Sub.fresh ib rfl, i.u 3 (fun _ => rfl)⟩
      · rintro D e s22 ⟨im, ib, i⟩ hk hf ha
        obtain ⟨a16, c16, a17, c17, a18, c18, a19, c19, g1_, h16, h17, h18, h19⟩ := (i.p 1) (ha.at 1 rfl)
        have g3_ := (i.p 3) (ha.at 3 rfl)
        have h2 := h2.mono (im.le no_No)
        have kn : Kn e [(14, .agg #[.slice a16 r13.1.1.length c16, .int .i64 r13.1.2.1, .slice a17 r13.1.2.2.1.length c17, .slice a18 r13.1.2.2.2.length c18, .slice a19 r13.2.length c19]), (16, .slice a2 p0.2.2.1.length c2)] := ⟨g1_, g3_, trivial⟩
        refine L.kns _ kn ?_
        refine L.ca (vs := [.agg #[.slice a16 r13.1.1.length c16, .int .i64 r13.1.2.1, .slice a17 r13.1.2.2.1.length c17, .slice a18 r13.1.2.2.2.length c18, .slice a19 r13.2.length c19], .slice a2 p0.2.2.1.length c2]) cf49 rfl rfl Wt.no rfl (m_reach_graph_backward_c (s := s22) (p0 := r13) (p1 := p0.2.2.1) h16 h17 h18 h19 h2 er23) rfl ?_
        rintro _ s24 m25 ⟨a26, c26, rfl, h26⟩
        refine L.nil ?_
        exact X.dk kn ⟨im.trans m25.no, Sub.fresh ib rfl, (i.u 1 (fun z => let ⟨a16, c16, a17, c17, a18, c18, a19, c19, q, h16, h17, h18, h19⟩ := (i.p 1) z; ⟨a16, c16, a17, c17, a18, c18, a19, c19, q, (h16.mono (m25.le no_No)), (h17.mono (m25.le no_No)), (h18.mono (m25.le no_No)), (h19.mono (m25.le no_No))⟩)).u 4 (fun _ => ⟨a26, c26, rfl, h26⟩)⟩
      · rintro D e s27 ⟨im, ib, i⟩ hk hf ha
        obtain ⟨a26, c26, g4_, h26⟩ := (i.p 4) (ha.at 4 rfl)
        have kn : Kn e [(17, .slice a26 r23.length c26)] := ⟨g4_, trivial⟩
        refine L.kns _ kn ?_
        refine L.len sl28 Wt.no rfl rfl ?_
        refine L.nil ?_
        exact X.dk kn ⟨im, Sub.fresh ib rfl, i.u 5 (fun _ => rfl)⟩
      · rintro D e s28 ⟨im, ib, i⟩ hk hf ha
        refine L.mv Wt.no rfl rfl ?_
        refine L.nil ?_
        exact X.dr (s := s28) (e' := (19, .int .i64 0) :: e) (Sub.both (Sub.refl)) ⟨im, Sub.fresh ib rfl, i.u 6 (fun _ => rfl)⟩
    · rintro D e s29 hD ⟨im, ib, i⟩
      obtain ⟨a26, c26, g4_, h26⟩ := (i.p 4) (hD 4 rfl)
      have g5_ := (i.p 5) (hD 5 rfl)
      have g6_ := (i.p 6) (hD 6 rfl)
      have m0 := m0.trans im.no
      refine X.sub (e' := [(19, .int .i64 0), (18, .int .i64 (r23.length : Int)), (17, .slice a26 r23.length c26), (5, .slice none 0 0)]) ?_ (Sub.cons g6_ (Sub.cons g5_ (Sub.cons g4_ (Sub.cons (ib 5 _ rfl) Sub.nil))))
      refine X.seqN ?_
      refine E.block ?_
      obtain ⟨o49, eo49, hm⟩ := bindS hm
      refine E.cut (x := .exit 0) (fun e w => ∃ (s53 : Sig) (a51 : Option Addr) (c51 : Nat), Mv (Up N No) s s53 ∧ RowT (rK .i64) s53 (N + 1) 3 a51 c51 o49 ∧ e = [(5, .slice a51 o49.length c51)] ∧ w = s53.w) ?_ ?_
      · rintro _ _ ⟨s53, a51, c51, m0, h51, rfl, rfl⟩
        refine X.blkE ?_
        refine X.seqN ?_
        refine E.seq ?_
        refine E.reg ?_
        refine L.mv Wt.no rfl rfl ?_
        refine L.as Wt.no rfl rfl ?_
        refine L.as Wt.no rfl rfl ?_
        refine L.nil ?_
        refine X.seqN ?_
        refine E.ret ?_
        obtain rfl := Option.some.inj hm
        exact X.rt (.inl rfl) Try.results27 (Rs.tmp rfl (Rs.tmp rfl Rs.nil)) rfl ⟨_, (s53).ren N (fun k => cond (Nat.beq k 1) u0 (0)), rfl, rfl, m0.ren hNb, ⟨a51, c51, rfl, (h51.ren hN)⟩⟩
      intro K54
      refine E.iter (fun (st49 : Int × List Int) (e : List (Nat × Value)) (w : World) => ∃ (s52 : Sig) (a32 : Option Addr) (c32 : Nat), Mv (Up N No) s s52 ∧ RdL (rK .i64) s52 a26 c26 r23 ∧ RowT (rK .i64) s52 (N + 1) 3 a32 c32 st49.2 ∧ e = [(19, .int .i64 st49.1), (18, .int .i64 (r23.length : Int)), (17, .slice a26 r23.length c26), (5, .slice a32 st49.2.length c32)] ∧ w = s52.w) eo49 ⟨s29, none, 0, m0, h26, RowT.nil, rfl, rfl⟩ (Sub.cons rfl (Sub.cons rfl (Sub.cons rfl (Sub.cons rfl Sub.nil)))) ?_
      rintro st49 res49 hm ih49 ho49 _ _ ⟨s52, a32, c32, m0, h26, h32, rfl, rfl⟩
      unfold m_reach_Coreachable_l1 at hm
      refine E.seq ?_
      refine E.reg ?_
      refine L.bi Wt.no rfl rfl rfl rfl ?_
      refine L.nil ?_
      refine X.seqN ?_
      refine E.seq ?_
      rcases ifS hm with ⟨hc, hm⟩ | ⟨hc, hm⟩
      · refine E.cT rfl hc ?_
        refine E.skip ?_
        refine X.seqN ?_
        refine E.seqJ (fun e w => ∃ (s57 : Sig) (l55 : List Int) (a56 : Option Addr) (c56 : Nat), m_reach_Coreachable_j1 st49 l55 = some res49 ∧ Mv (Up N No) s s57 ∧ RowT (rK .i64) s57 (N + 1) 3 a56 c56 l55 ∧ RdL (rK .i64) s57 a26 c26 r23 ∧ e = [(5, .slice a56 l55.length c56), (19, .int .i64 st49.1), (18, .int .i64 (r23.length : Int)), (17, .slice a26 r23.length c26)] ∧ w = s57.w) ?_ ?_
        · rintro _ _ ⟨s57, l55, a56, c56, hm, m0, h56, h26, rfl, rfl⟩
          unfold m_reach_Coreachable_j1 at hm
          refine E.reg ?_
          refine L.bi Wt.no rfl rfl rfl rfl ?_
          refine L.mv Wt.no rfl rfl ?_
          refine L.nil ?_
          exact X.sub (ih49 _ (Option.some.inj hm).symm _ _ ⟨s57, a56, c56, m0, h26, h56, rfl, rfl⟩) (Sub.cons rfl (Sub.cons rfl (Sub.cons rfl (Sub.cons rfl Sub.nil))))
        · intro Jj58
          refine E.block ?_
          refine E.seq ?_
          refine E.reg ?_
          refine L.mv Wt.no rfl rfl ?_
          obtain ⟨x59, ex59, hm⟩ := bindS hm
          refine L.ix (r := (rK .i64)) sl28 h26 Wt.no rfl rfl ex59 rfl ?_
          rintro b60 o60 cc60 me60 rd60
          obtain rfl := rd60
          refine L.ld (j := 0) me60 nag3 Wt.no rfl rfl rfl rfl ?_
          refine L.as Wt.no rfl rfl ?_
          refine L.as Wt.no rfl rfl ?_
          refine L.nil ?_
          refine X.seqN ?_
          refine E.seq ?_
          refine E.reg ?_
          refine L.mv Wt.no rfl rfl ?_
          refine L.bi Wt.no rfl rfl rfl rfl ?_
          refine L.nil ?_
          refine X.seqN ?_
          rcases ifS hm with ⟨hc, hm⟩ | ⟨hc, hm⟩
          · refine E.cT rfl hc ?_
            refine E.reg ?_
            refine L.mv Wt.no rfl rfl ?_
            refine L.mv Wt.no rfl rfl ?_
            refine L.bsE (k := 1) (cs := [.int .i64 st49.1]) 0 bs28 (Nat.le_of_ble_eq_true rfl) Wt.no rfl rfl rfl rfl ?_
            intro b61 s62 m63 bx61
            replace m0 := m0.trans m63.no
            replace h26 := h26.mono (m63.le no_No)
            replace h32 := h32.mv m63 no_No no_No
            have h61 := Bx.rdL (r := (rK .i64)) (xs := ([st49.1] : List Int)) bx61 ⟨[.int .i64 st49.1], _, rfl, rfl, rfl⟩ (Nat.le_of_ble_eq_true rfl)
            obtain ⟨x64, ex64, hm⟩ := bindS hm
            refine L.ap (r := (rK .i64)) Try.underlying28 el3 rfl (tgp hN) h32 h61.wk Wt.no rfl rfl ex64 rfl ?_
            intro a65 c65 s66 m67 h65
            replace m0 := m0.trans (m67.one up)
            replace h26 := h26.mono (m67.le (tg0 hN))
            refine L.as Wt.no rfl rfl ?_
            refine L.nil ?_
            refine X.blkN ?_
            exact X.sub (Jj58 _ _ ⟨s66, x64, a65, c65, hm, m0, h65, h26, rfl, rfl⟩) (Sub.cons rfl (Sub.cons rfl (Sub.cons rfl (Sub.cons rfl Sub.nil))))
          · refine E.cF rfl hc ?_
            refine E.skip ?_
            refine X.blkN ?_
            exact X.sub (Jj58 _ _ ⟨s52, st49.2, a32, c32, hm, m0, h32, h26, rfl, rfl⟩) (Sub.cons rfl (Sub.cons rfl (Sub.cons rfl (Sub.cons rfl Sub.nil))))
      · refine E.cF rfl hc ?_
        refine E.exit ?_
        refine X.seqX ?_
        refine X.seqX ?_
        have hx := ho49 _ (Option.some.inj hm).symm
        subst hx
        exact X.sub (K54 _ _ ⟨s52, a32, c32, m0, h32, rfl, rfl⟩) (Sub.cons rfl Sub.nil)

noncomputable def m_reach_checkSet_l1 (p0 : List Int) (p1 : Int) (st13 : Int) : Option (Int ⊕ (Unit ⊕ Int)) :=
  if decide (st13 < (p0.length : Int)) then
    (idx p0 st13).bind fun x22 =>
    if ((decide (x22 < 0)) || (decide (x22 ≥ p1))) then
      some (.inr (.inr (2)))
    else
      (if decide (st13 > 0) then
        (idx p0 (W (st13 - 1))).bind fun x28 =>
        some (decide (x22 ≤ x28))
      else
        some false).bind fun b25 =>
      if b25 then
        some (.inr (.inr (5)))
      else
        some (.inl (W (st13 + 1)))
  else
    some (.inr (.inl ()))
/-- What reach.checkSet computes. -/
noncomputable def m_reach_checkSet (p0 : List Int) (p1 : Int) : Option Int :=
  (iter (m_reach_checkSet_l1 p0 p1) 0).bind fun o13 =>
  match o13 with
  | .inl u16 =>
    some 0
  | .inr (u19) =>
    some u19
set_option maxRecDepth 100000 in
set_option maxHeartbeats 8000000 in
theorem m_reach_checkSet_c {s : Sig} {p0 : List Int} {p1 : Int} {a1 : Option Addr} {c1 : Nat} {r : Int} (h1 : RdL (rK .i64) s a1 c1 p0) (hm : m_reach_checkSet p0 p1 = some r) :
    Calls Try.prog 61 #[.slice a1 p0.length c1, .int .i64 p1] s.w (RetS No s fun v s' => v = .int .i64 r) := by
  unfold m_reach_checkSet at hm
  obtain ⟨N, hN, hNb⟩ := s.fresh
  have m0 : Mv (Up N No) s s := Mv.refl _ _
  refine E.entry (vs := [.slice a1 p0.length c1, .int .i64 p1]) (e := [(0, .slice a1 p0.length c1), (1, .int .i64 p1)]) Try.func61 rfl Try.ntmps61 rfl rfl ?_
  refine E.seq ?_
  refine E.reg ?_
  refine L.as Wt.no rfl rfl ?_
  refine L.nil ?_
  refine X.seqN ?_
  refine E.seq ?_
  refine E.seq ?_
  refine E.reg ?_
  refine L.mv Wt.no rfl rfl ?_
  refine L.len sl28 Wt.no rfl rfl ?_
  refine L.mv Wt.no rfl rfl ?_
  refine L.nil ?_
  refine X.seqN ?_
  refine E.block ?_
  obtain ⟨o13, eo13, hm⟩ := bindS hm
  refine E.cut (x := .exit 0) (fun e w => ∃ (s17 : Sig) (u16 : Unit), o13 = .inl u16 ∧ Mv (Up N No) s s17 ∧ e = [] ∧ w = s17.w) ?_ ?_
  · rintro _ _ ⟨s17, u16, rfl, m0, rfl, rfl⟩
    dsimp only at hm
    refine X.blkE ?_
    refine X.seqN ?_
    refine E.seq ?_
    refine E.reg ?_
    refine L.as Wt.no rfl rfl ?_
    refine L.nil ?_
    refine X.seqN ?_
    refine E.ret ?_
    obtain rfl := Option.some.inj hm
    exact X.rt (.inl rfl) Try.results61 (Rs.tmp rfl Rs.nil) rfl ⟨_, (s17).ren N (fun _ => 0), rfl, rfl, m0.ren hNb, rfl⟩
  intro K18
  refine E.cut (x := .ret) (fun e w => ∃ (s20 : Sig) (u19 : Int), o13 = .inr (u19) ∧ Mv (Up N No) s s20 ∧ e = [(4, .int .i64 u19)] ∧ w = s20.w) ?_ ?_
  · rintro _ _ ⟨s20, u19, rfl, m0, rfl, rfl⟩
    dsimp only at hm
    refine X.blkR ?_
    refine X.seqR ?_
    obtain rfl := Option.some.inj hm
    exact X.rt (.inl rfl) Try.results61 (Rs.tmp rfl Rs.nil) rfl ⟨_, (s20).ren N (fun _ => 0), rfl, rfl, m0.ren hNb, rfl⟩
  intro K21
  refine E.iter (fun (st13 : Int) (e : List (Nat × Value)) (w : World) => ∃ (s15 : Sig), Mv (Up N No) s s15 ∧ RdL (rK .i64) s15 a1 c1 p0 ∧ e = [(9, .int .i64 st13), (8, .int .i64 (p0.length : Int)), (7, .slice a1 p0.length c1), (0, .slice a1 p0.length c1), (1, .int .i64 p1)] ∧ w = s15.w) eo13 ⟨s, m0, h1, rfl, rfl⟩ (Sub.cons rfl (Sub.cons rfl (Sub.cons rfl (Sub.cons rfl (Sub.cons rfl Sub.nil))))) ?_
  rintro st13 res13 hm ih13 ho13 _ _ ⟨s15, m0, h1, rfl, rfl⟩
  unfold m_reach_checkSet_l1 at hm
  refine E.seq ?_
  refine E.reg ?_
  refine L.bi Wt.no rfl rfl rfl rfl ?_
  refine L.nil ?_
  refine X.seqN ?_
  refine E.seq ?_
  rcases ifS hm with ⟨hc, hm⟩ | ⟨hc, hm⟩
  · refine E.cT rfl hc ?_
    refine E.skip ?_
    refine X.seqN ?_
    refine E.seq ?_
    refine E.block ?_
    refine E.seq ?_
    refine E.reg ?_
    refine L.mv Wt.no rfl rfl ?_
    obtain ⟨x22, ex22, hm⟩ := bindS hm
    refine L.ix (r := (rK .i64)) sl28 h1 Wt.no rfl rfl ex22 rfl ?_
    rintro b23 o23 cc23 me23 rd23
    obtain rfl := rd23
    refine L.ld (j := 0) me23 nag3 Wt.no rfl rfl rfl rfl ?_
    refine L.as Wt.no rfl rfl ?_
    refine L.as Wt.no rfl rfl ?_
    refine L.nil ?_
    refine X.seqN ?_
    refine E.block ?_
    refine E.seq ?_
    refine E.reg ?_
    refine L.mv Wt.no rfl rfl ?_
    refine L.bi Wt.no rfl rfl rfl rfl ?_
    refine L.mv Wt.no rfl rfl ?_
    refine L.cut 4 (fun e w => ∃ (v24 : Bool), ((decide (x22 < 0)) || (decide (x22 ≥ p1))) = v24 ∧ e = (21, .bool v24) :: [(6, .int .i64 x22), (5, .int .i64 st13), (9, .int .i64 st13), (8, .int .i64 (p0.length : Int)), (7, .slice a1 p0.length c1), (0, .slice a1 p0.length c1), (1, .int .i64 p1)] ∧ w = s15.w) ?_ ?_
    · rintro _ _ ⟨v24, rfl, rfl, rfl⟩
      refine L.as Wt.no rfl rfl ?_
      refine L.nil ?_
      refine X.seqN ?_
      rcases ifS hm with ⟨hc, hm⟩ | ⟨hc, hm⟩
      · refine E.cT rfl hc ?_
        refine E.seq ?_
        refine E.reg ?_
        refine L.as Wt.no rfl rfl ?_
        refine L.nil ?_
        refine X.seqN ?_
        refine E.ret ?_
        refine X.blkR ?_
        refine X.blkR ?_
        refine X.seqR ?_
        refine X.seqR ?_
        have hx := ho13 _ (Option.some.inj hm).symm
        exact X.sub (K21 _ _ ⟨s15, 2, hx.symm, m0, rfl, rfl⟩) (Sub.cons rfl Sub.nil)
      · refine E.cF rfl hc ?_
        refine E.seq ?_
        refine E.reg ?_
        refine L.mv Wt.no rfl rfl ?_
        refine L.bi Wt.no rfl rfl rfl rfl ?_
        refine L.mv Wt.no rfl rfl ?_
        obtain ⟨b25, eb25, hm⟩ := bindS hm
        refine L.cut 8 (fun e w => ∃ (v26 : Bool), b25 = v26 ∧ e = (33, .bool v26) :: [(9, .int .i64 st13), (8, .int .i64 (p0.length : Int)), (7, .slice a1 p0.length c1), (0, .slice a1 p0.length c1), (1, .int .i64 p1)] ∧ w = s15.w) ?_ ?_
        · rintro _ _ ⟨v26, rfl, rfl, rfl⟩
          refine L.as Wt.no rfl rfl ?_
          refine L.nil ?_
          refine X.seqN ?_
          rcases ifS hm with ⟨hc, hm⟩ | ⟨hc, hm⟩
          · refine E.cT rfl hc ?_
            refine E.seq ?_
            refine E.reg ?_
            refine L.as Wt.no rfl rfl ?_
            refine L.nil ?_
            refine X.seqN ?_
            refine E.ret ?_
            refine X.blkR ?_
            refine X.blkR ?_
            refine X.seqR ?_
            refine X.seqR ?_
            have hx := ho13 _ (Option.some.inj hm).symm
            exact X.sub (K21 _ _ ⟨s15, 5, hx.symm, m0, rfl, rfl⟩) (Sub.cons rfl Sub.nil)
          · refine E.cF rfl hc ?_
            refine E.skip ?_
            refine X.blkN ?_
            refine X.blkN ?_
            refine X.seqN ?_
            refine E.reg ?_
            refine L.bi Wt.no rfl rfl rfl rfl ?_
            refine L.mv Wt.no rfl rfl ?_
            refine L.nil ?_
            exact X.sub (ih13 _ (Option.some.inj hm).symm _ _ ⟨s15, m0, h1, rfl, rfl⟩) (Sub.cons rfl (Sub.cons rfl (Sub.cons rfl (Sub.cons rfl (Sub.cons rfl Sub.nil)))))
        · intro J27
          rcases ifS eb25 with ⟨hc, hm⟩ | ⟨hc, hm⟩
          · refine L.know (d := 25) rfl hc ?_
            refine L.mv (Wt.mk rfl rfl) rfl rfl ?_
            refine L.mv (Wt.mk rfl rfl) rfl rfl ?_
            refine L.mv (Wt.mk rfl rfl) rfl rfl ?_
            refine L.bi (Wt.mk rfl rfl) rfl rfl rfl rfl ?_
            obtain ⟨x28, ex28, hm⟩ := bindS hm
            refine L.ix (r := (rK .i64)) sl28 h1 (Wt.mk rfl rfl) rfl rfl ex28 rfl ?_
            rintro b29 o29 cc29 me29 rd29
            obtain rfl := rd29
            refine L.ld (j := 0) me29 nag3 (Wt.mk rfl rfl) rfl rfl rfl rfl ?_
            refine L.bi (Wt.mk rfl rfl) rfl rfl rfl rfl ?_
            refine L.pkT Wt.no rfl rfl rfl rfl ?_
            exact L.sub (Sub.cons rfl (Sub.cons rfl (Sub.cons rfl (Sub.cons rfl (Sub.cons rfl (Sub.cons rfl Sub.nil)))))) (J27 _ _ ⟨(decide (x22 ≤ x28)), (Option.some.inj hm).symm, rfl, rfl⟩)
          · refine L.know (d := 25) rfl hc ?_
            refine L.skip rfl rfl rfl rfl ?_
            refine L.skip rfl rfl rfl rfl ?_
            refine L.skip rfl rfl rfl rfl ?_
            refine L.skip rfl rfl rfl rfl ?_
            refine L.skip rfl rfl rfl rfl ?_
            refine L.skip rfl rfl rfl rfl ?_
            refine L.skip rfl rfl rfl rfl ?_
            refine L.pkF Wt.no rfl rfl rfl rfl ?_
            exact L.sub (Sub.cons rfl (Sub.cons rfl (Sub.cons rfl (Sub.cons rfl (Sub.cons rfl (Sub.cons rfl Sub.nil)))))) (J27 _ _ ⟨false, (Option.some.inj hm).symm, rfl, rfl⟩)
    · intro J30
      rcases Bool.eq_false_or_eq_true (decide (x22 < 0)) with hc | hc
      · refine L.know (d := 17) rfl hc ?_
        refine L.skip rfl rfl rfl rfl ?_
        refine L.skip rfl rfl rfl rfl ?_
        refine L.skip rfl rfl rfl rfl ?_
        refine L.pkT Wt.no rfl rfl rfl rfl ?_
        exact L.sub (Sub.cons rfl (Sub.cons rfl (Sub.cons rfl (Sub.cons rfl (Sub.cons rfl (Sub.cons rfl (Sub.cons rfl (Sub.cons rfl Sub.nil)))))))) (J30 _ _ ⟨true, (orT hc).symm, rfl, rfl⟩)
      · refine L.know (d := 17) rfl hc ?_
        refine L.mv (Wt.mk rfl rfl) rfl rfl ?_
        refine L.mv (Wt.mk rfl rfl) rfl rfl ?_
        refine L.bi (Wt.mk rfl rfl) rfl rfl rfl rfl ?_
        refine L.pkF Wt.no rfl rfl rfl rfl ?_
        exact L.sub (Sub.cons rfl (Sub.cons rfl (Sub.cons rfl (Sub.cons rfl (Sub.cons rfl (Sub.cons rfl (Sub.cons rfl (Sub.cons rfl Sub.nil)))))))) (J30 _ _ ⟨(decide (x22 ≥ p1)), (orF hc).symm, rfl, rfl⟩)
  · refine E.cF rfl hc ?_
    refine E.exit ?_
    refine X.seqX ?_
    refine X.seqX ?_
    have hx := ho13 _ (Option.some.inj hm).symm
    exact X.sub (K18 _ _ ⟨s15, (), hx.symm, m0, rfl, rfl⟩) Sub.nil

theorem cf61 : Cf Try.prog 61 := Cf.mk Try.func61 (by kernel_rfl) (by kernel_rfl)
/-- What reach.checkStates computes. -/
noncomputable def m_reach_checkStates (p0 : List Int × Int × List Int × (List (Int × Int × Int))) (p1 : List Int) : Option Int :=
  (m_reach_checkSet p1 p0.2.1).bind fun r8 =>
  some r8
set_option maxRecDepth 100000 in
set_option maxHeartbeats 8000000 in
theorem m_reach_checkStates_c {s : Sig} {p0 : List Int × Int × List Int × (List (Int × Int × Int))} {p1 : List Int} {a1 : Option Addr} {c1 : Nat} {a2 : Option Addr} {c2 : Nat} {a3 : Option Addr} {c3 : Nat} {a4 : Option Addr} {c4 : Nat} {r : Int} (h1 : RdL (rK .i64) s a1 c1 p0.1) (h2 : RdL (rK .i64) s a2 c2 p0.2.2.1) (h3 : RdL (rP (rK .i64) (rP (rK .i64) (rK .i64))) s a3 c3 p0.2.2.2) (h4 : RdL (rK .i64) s a4 c4 p1) (hm : m_reach_checkStates p0 p1 = some r) :
    Calls Try.prog 47 #[.agg #[.slice a1 p0.1.length c1, .int .i64 p0.2.1, .slice a2 p0.2.2.1.length c2, .slice a3 p0.2.2.2.length c3], .slice a4 p1.length c4] s.w (RetS No s fun v s' => v = .int .i64 r) := by
  unfold m_reach_checkStates at hm
  obtain ⟨N, hN, hNb⟩ := s.fresh
  have m0 : Mv (Up N No) s s := Mv.refl _ _
  refine E.entry (vs := [.agg #[.slice a1 p0.1.length c1, .int .i64 p0.2.1, .slice a2 p0.2.2.1.length c2, .slice a3 p0.2.2.2.length c3], .slice a4 p1.length c4]) (e := [(0, .agg #[.slice a1 p0.1.length c1, .int .i64 p0.2.1, .slice a2 p0.2.2.1.length c2, .slice a3 p0.2.2.2.length c3]), (1, .slice a4 p1.length c4)]) Try.func47 rfl Try.ntmps47 rfl rfl ?_
  refine E.seq ?_
  refine E.reg ?_
  refine L.box (N + 0) Wt.no rfl rfl rfl ?_
  intro b5 s6 m7 bx5
  replace m0 := m0.trans m7.no
  replace h4 := h4.mono (m7.le no_No)
  replace h1 := h1.mono (m7.le no_No)
  replace h2 := h2.mono (m7.le no_No)
  replace h3 := h3.mono (m7.le no_No)
  refine L.as Wt.no rfl rfl ?_
  refine L.nil ?_
  refine X.seqN ?_
  refine E.seq ?_
  refine E.reg ?_
  refine L.mv Wt.no rfl rfl ?_
  refine L.fa fa31_1 Wt.no rfl rfl ?_
  refine L.ld (j := 1) bx5.mem nag3 Wt.no rfl rfl rfl rfl ?_
  obtain ⟨r8, er8, hm⟩ := bindS hm
  refine L.ca (vs := [.slice a4 p1.length c4, .int .i64 p0.2.1]) cf61 rfl rfl Wt.no rfl (m_reach_checkSet_c (s := s6) (p0 := p1) (p1 := p0.2.1) h4 er8) rfl ?_
  rintro _ s9 m10 rfl
  replace m0 := m0.trans m10.no
  refine L.as Wt.no rfl rfl ?_
  refine L.nil ?_
  refine X.seqN ?_
  refine E.ret ?_
  obtain rfl := Option.some.inj hm
  exact X.rt (.inl rfl) Try.results47 (Rs.tmp rfl Rs.nil) rfl ⟨_, (s9).ren N (fun _ => 0), rfl, rfl, m0.ren hNb, rfl⟩

theorem cf47 : Cf Try.prog 47 := Cf.mk Try.func47 (by kernel_rfl) (by kernel_rfl)
/-- What reach.Distances computes. -/
noncomputable def m_reach_Distances (p0 : List Int × Int × List Int × (List (Int × Int × Int))) (p1 : List Int) : Option (List Int × Int) :=
  (m_automaton_Check p0).bind fun r9 =>
  if (r9 != 0) then
    some (([] : List Int), r9)
  else
    (m_reach_checkStates p0 p1).bind fun r12 =>
    if (r12 != 0) then
      some (([] : List Int), r12)
    else
      (m_reach_newGraph p0).bind fun r15 =>
      (m_reach_graph_backward r15 p1).bind fun r22 =>
      some (r22, 0)
set_option maxRecDepth 100000 in
set_option maxHeartbeats 8000000 in
theorem m_reach_Distances_c {s : Sig} {p0 : List Int × Int × List Int × (List (Int × Int × Int))} {p1 : List Int} {a1 : Option Addr} {c1 : Nat} {a2 : Option Addr} {c2 : Nat} {a3 : Option Addr} {c3 : Nat} {a4 : Option Addr} {c4 : Nat} {r : List Int × Int} (h1 : RdL (rK .i64) s a1 c1 p0.1) (h2 : RdL (rK .i64) s a2 c2 p0.2.2.1) (h3 : RdL (rP (rK .i64) (rP (rK .i64) (rK .i64))) s a3 c3 p0.2.2.2) (h4 : RdL (rK .i64) s a4 c4 p1) (hm : m_reach_Distances p0 p1 = some r) :
    Calls Try.prog 15 #[.agg #[.slice a1 p0.1.length c1, .int .i64 p0.2.1, .slice a2 p0.2.2.1.length c2, .slice a3 p0.2.2.2.length c3], .slice a4 p1.length c4] s.w (RetS No s fun v s' => ∃ (a5 : Option Addr) (c5 : Nat), v = .tuple #[.slice a5 r.1.length c5, .int .i64 r.2] ∧ RdL (rK .i64) s' a5 c5 r.1) := by
  unfold m_reach_Distances at hm
  obtain ⟨N, hN, hNb⟩ := s.fresh
  have m0 : Mv (Up N No) s s := Mv.refl _ _
  refine E.entry (vs := [.agg #[.slice a1 p0.1.length c1, .int .i64 p0.2.1, .slice a2 p0.2.2.1.length c2, .slice a3 p0.2.2.2.length c3], .slice a4 p1.length c4]) (e := [(0, .agg #[.slice a1 p0.1.length c1, .int .i64 p0.2.1, .slice a2 p0.2.2.1.length c2, .slice a3 p0.2.2.2.length c3]), (1, .slice a4 p1.length c4)]) Try.func15 rfl Try.ntmps15 rfl rfl ?_
  refine E.seq ?_
  refine E.reg ?_
  refine L.box (N + 0) Wt.no rfl rfl rfl ?_
  intro b6 s7 m8 bx6
  replace m0 := m0.trans m8.no
  replace h4 := h4.mono (m8.le no_No)
  replace h1 := h1.mono (m8.le no_No)
  replace h2 := h2.mono (m8.le no_No)
  replace h3 := h3.mono (m8.le no_No)
  refine L.as Wt.no rfl rfl ?_
  refine L.as Wt.no rfl rfl ?_
  refine L.nil ?_
  refine X.seqN ?_
  refine E.seq ?_
  refine E.seq ?_
  refine E.reg ?_
  refine L.lg (j := 0) (cs := [.slice a1 p0.1.length c1, .int .i64 p0.2.1, .slice a2 p0.2.2.1.length c2, .slice a3 p0.2.2.2.length c3]) bx6.mem ag31 Wt.no rfl rfl rfl rfl rfl ?_
  obtain ⟨r9, er9, hm⟩ := bindS hm
  refine L.ca (vs := [.agg #[.slice a1 p0.1.length c1, .int .i64 p0.2.1, .slice a2 p0.2.2.1.length c2, .slice a3 p0.2.2.2.length c3]]) cf43 rfl rfl Wt.no rfl (m_automaton_Check_c (s := s7) (p0 := p0) h1 h2 h3 er9) rfl ?_
  rintro _ s10 m11 rfl
  replace m0 := m0.trans m11.no
  replace h4 := h4.mono (m11.le no_No)
  replace bx6 := bx6.mv m11 no_No
  replace h1 := h1.mono (m11.le no_No)
  replace h2 := h2.mono (m11.le no_No)
  replace h3 := h3.mono (m11.le no_No)
  refine L.as Wt.no rfl rfl ?_
  refine L.nil ?_
  refine X.seqN ?_
  refine E.seq ?_
  refine E.reg ?_
  refine L.mv Wt.no rfl rfl ?_
  refine L.bi Wt.no rfl rfl rfl rfl ?_
  refine L.nil ?_
  refine X.seqN ?_
  rcases ifS hm with ⟨hc, hm⟩ | ⟨hc, hm⟩
  · refine E.cT rfl hc ?_
    refine E.seq ?_
    refine E.reg ?_
    refine L.mv Wt.no rfl rfl ?_
    refine L.as Wt.no rfl rfl ?_
    refine L.as Wt.no rfl rfl ?_
    refine L.nil ?_
    refine X.seqN ?_
    refine E.ret ?_
    refine X.seqR ?_
    obtain rfl := Option.some.inj hm
    exact X.rt (.inl rfl) Try.results15 (Rs.tmp rfl (Rs.tmp rfl Rs.nil)) rfl ⟨_, (s10).ren N (fun _ => 0), rfl, rfl, m0.ren hNb, ⟨none, 0, rfl, RdL.nil⟩⟩
  · refine E.cF rfl hc ?_
    refine E.skip ?_
    refine X.seqN ?_
    refine E.seq ?_
    refine E.seq ?_
    refine E.reg ?_
    refine L.lg (j := 0) (cs := [.slice a1 p0.1.length c1, .int .i64 p0.2.1, .slice a2 p0.2.2.1.length c2, .slice a3 p0.2.2.2.length c3]) bx6.mem ag31 Wt.no rfl rfl rfl rfl rfl ?_
    refine L.mv Wt.no rfl rfl ?_
    obtain ⟨r12, er12, hm⟩ := bindS hm
    refine L.ca (vs := [.agg #[.slice a1 p0.1.length c1, .int .i64 p0.2.1, .slice a2 p0.2.2.1.length c2, .slice a3 p0.2.2.2.length c3], .slice a4 p1.length c4]) cf47 rfl rfl Wt.no rfl (m_reach_checkStates_c (s := s10) (p0 := p0) (p1 := p1) h1 h2 h3 h4 er12) rfl ?_
    rintro _ s13 m14 rfl
    replace m0 := m0.trans m14.no
    replace h4 := h4.mono (m14.le no_No)
    replace bx6 := bx6.mv m14 no_No
    replace h1 := h1.mono (m14.le no_No)
    replace h2 := h2.mono (m14.le no_No)
    replace h3 := h3.mono (m14.le no_No)
    refine L.as Wt.no rfl rfl ?_
    refine L.nil ?_
    refine X.seqN ?_
    refine E.seq ?_
    refine E.reg ?_
    refine L.mv Wt.no rfl rfl ?_
    refine L.bi Wt.no rfl rfl rfl rfl ?_
    refine L.nil ?_
    refine X.seqN ?_
    rcases ifS hm with ⟨hc, hm⟩ | ⟨hc, hm⟩
    · refine E.cT rfl hc ?_
      refine E.seq ?_
      refine E.reg ?_
      refine L.mv Wt.no rfl rfl ?_
      refine L.as Wt.no rfl rfl ?_
      refine L.as Wt.no rfl rfl ?_
      refine L.nil ?_
      refine X.seqN ?_
      refine E.ret ?_
      refine X.seqR ?_
      obtain rfl := Option.some.inj hm
      exact X.rt (.inl rfl) Try.results15 (Rs.tmp rfl (Rs.tmp rfl Rs.nil)) rfl ⟨_, (s13).ren N (fun _ => 0), rfl, rfl, m0.ren hNb, ⟨none, 0, rfl, RdL.nil⟩⟩
    · refine E.cF rfl hc ?_
      refine E.skip ?_
      refine X.seqN ?_
      refine E.seq ?_
      refine E.reg ?_
      refine L.lg (j := 0) (cs := [.slice a1 p0.1.length c1, .int .i64 p0.2.1, .slice a2 p0.2.2.1.length c2, .slice a3 p0.2.2.2.length c3]) bx6.mem ag31 Wt.no rfl rfl rfl rfl rfl ?_
      obtain ⟨r15, er15, hm⟩ := bindS hm
      refine L.ca (vs := [.agg #[.slice a1 p0.1.length c1, .int .i64 p0.2.1, .slice a2 p0.2.2.1.length c2, .slice a3 p0.2.2.2.length c3]]) cf48 rfl rfl Wt.no rfl (m_reach_newGraph_c (s := s13) (p0 := p0) (u3 := 0) h1 h2 h3 er15) rfl ?_
      rintro _ s16 m17 ⟨a18, c18, a19, c19, a20, c20, a21, c21, rfl, h18, h19, h20, h21⟩
      replace h21 := h21.p
      replace m0 := m0.trans m17.no
      replace h4 := h4.mono (m17.le no_No)
      refine L.mv Wt.no rfl rfl ?_
      obtain ⟨r22, er22, hm⟩ := bindS hm
      refine L.ca (vs := [.agg #[.slice a18 r15.1.1.length c18, .int .i64 r15.1.2.1, .slice a19 r15.1.2.2.1.length c19, .slice a20 r15.1.2.2.2.length c20, .slice a21 r15.2.length c21], .slice a4 p1.length c4]) cf49 rfl rfl Wt.no rfl (m_reach_graph_backward_c (s := s16) (p0 := r15) (p1 := p1) h18 h19 h20 h21 h4 er22) rfl ?_
      rintro _ s23 m24 ⟨a25, c25, rfl, h25⟩
      replace m0 := m0.trans m24.no
      refine L.as Wt.no rfl rfl ?_
      refine L.as Wt.no rfl rfl ?_
      refine L.nil ?_
      refine X.seqN ?_
      refine E.ret ?_
      obtain rfl := Option.some.inj hm
      exact X.rt (.inl rfl) Try.results15 (Rs.tmp rfl (Rs.tmp rfl Rs.nil)) rfl ⟨_, (s23).ren N (fun _ => 0), rfl, rfl, m0.ren hNb, ⟨a25, c25, rfl, (h25.ren hN)⟩⟩

theorem nag4 : NAg Try.prog 4 := NAg.mk' Try.underlying4 rfl (by kernel_rfl)
theorem sl86 : Sl Try.prog 86 4 1 := Sl.mk' Try.underlying86 (by kernel_rfl)
theorem zr4 : Zr Try.prog rB 4 1 false := Zr.mk' (v := .bool false) (by kernel_rfl) (by kernel_rfl) (by kernel_rfl) (fun _ => rfl)
noncomputable def m_reach_flags_l1 (p1 : List Int) (st24 : Int × List Bool) : Option ((Int × List Bool) ⊕ (List Bool)) :=
  if decide (st24.1 < (p1.length : Int)) then
    (idx p1 st24.1).bind fun x29 =>
    (idx st24.2 x29).bind fun x31 =>
    (upd st24.2 x29 true).bind fun x33 =>
    some (.inl (W (st24.1 + 1), x33))
  else
    some (.inr st24.2)
/-- What reach.flags computes. -/
noncomputable def m_reach_flags (p0 : List Int × Int × List Int × (List (Int × Int × Int))) (p1 : List Int) : Option (List Bool) :=
  (mkL p0.2.1 false).bind fun x9 =>
  (iter (m_reach_flags_l1 p1) (0, x9)).bind fun o24 =>
  some o24
set_option maxRecDepth 100000 in
set_option maxHeartbeats 8000000 in
theorem m_reach_flags_c {s : Sig} {p0 : List Int × Int × List Int × (List (Int × Int × Int))} {p1 : List Int} {a1 : Option Addr} {c1 : Nat} {a2 : Option Addr} {c2 : Nat} {a3 : Option Addr} {c3 : Nat} {a4 : Option Addr} {c4 : Nat} {u0 : Nat} {r : List Bool} (h1 : RdL (rK .i64) s a1 c1 p0.1) (h2 : RdL (rK .i64) s a2 c2 p0.2.2.1) (h3 : RdL (rP (rK .i64) (rP (rK .i64) (rK .i64))) s a3 c3 p0.2.2.2) (h4 : RdL (rK .i64) s a4 c4 p1) (hm : m_reach_flags p0 p1 = some r) :
    Calls Try.prog 52 #[.agg #[.slice a1 p0.1.length c1, .int .i64 p0.2.1, .slice a2 p0.2.2.1.length c2, .slice a3 p0.2.2.2.length c3], .slice a4 p1.length c4] s.w (RetS No s fun v s' => ∃ (a5 : Option Addr) (c5 : Nat), v = .slice a5 r.length c5 ∧ RowT rB s' u0 4 a5 c5 r) := by
  unfold m_reach_flags at hm
  obtain ⟨N, hN, hNb⟩ := s.fresh
  have m0 : Mv (Up N No) s s := Mv.refl _ _
  refine E.entry (vs := [.agg #[.slice a1 p0.1.length c1, .int .i64 p0.2.1, .slice a2 p0.2.2.1.length c2, .slice a3 p0.2.2.2.length c3], .slice a4 p1.length c4]) (e := [(0, .agg #[.slice a1 p0.1.length c1, .int .i64 p0.2.1, .slice a2 p0.2.2.1.length c2, .slice a3 p0.2.2.2.length c3]), (1, .slice a4 p1.length c4)]) Try.func52 rfl Try.ntmps52 rfl rfl ?_
  refine E.seq ?_
  refine E.reg ?_
  refine L.box (N + 0) Wt.no rfl rfl rfl ?_
  intro b6 s7 m8 bx6
  replace m0 := m0.trans m8.no
  replace h4 := h4.mono (m8.le no_No)
  replace h1 := h1.mono (m8.le no_No)
  replace h2 := h2.mono (m8.le no_No)
  replace h3 := h3.mono (m8.le no_No)
  refine L.as Wt.no rfl rfl ?_
  refine L.nil ?_
  refine X.seqN ?_
  refine E.seq ?_
  refine E.reg ?_
  refine L.fa fa31_1 Wt.no rfl rfl ?_
  refine L.ld (j := 1) bx6.mem nag3 Wt.no rfl rfl rfl rfl ?_
  obtain ⟨x9, ex9, hm⟩ := bindS hm
  refine L.mk (z := false) (N + 1) Try.underlying86 zr4 rfl Wt.no rfl rfl ex9 rfl ?_
  intro b10 s11 m12 h10
  replace m0 := m0.trans m12.no
  replace h4 := h4.mono (m12.le no_No)
  refine L.as Wt.no rfl rfl ?_
  refine L.nil ?_
  refine X.seqN ?_
  refine E.seq ?_
  refine E.seq ?_
  refine E.reg ?_
  refine L.mv Wt.no rfl rfl ?_
  refine L.len sl28 Wt.no rfl rfl ?_
  refine L.mv Wt.no rfl rfl ?_
  refine L.nil ?_
  refine X.seqN ?_
  refine E.block ?_
  obtain ⟨o24, eo24, hm⟩ := bindS hm
  refine E.cut (x := .exit 0) (fun e w => ∃ (s27 : Sig), Mv (Up N No) s s27 ∧ RowT rB s27 (N + 1) 4 (some ⟨b10, 0, none⟩) x9.length o24 ∧ e = [(5, .slice (some ⟨b10, 0, none⟩) o24.length x9.length)] ∧ w = s27.w) ?_ ?_
  · rintro _ _ ⟨s27, m0, h10, rfl, rfl⟩
    refine X.blkE ?_
    refine X.seqN ?_
    refine E.seq ?_
    refine E.reg ?_
    refine L.mv Wt.no rfl rfl ?_
    refine L.as Wt.no rfl rfl ?_
    refine L.nil ?_
    refine X.seqN ?_
    refine E.ret ?_
    obtain rfl := Option.some.inj hm
    exact X.rt (.inl rfl) Try.results52 (Rs.tmp rfl Rs.nil) rfl ⟨_, (s27).ren N (fun k => cond (Nat.beq k 1) u0 (0)), rfl, rfl, m0.ren hNb, ⟨(some ⟨b10, 0, none⟩), x9.length, rfl, (h10.ren hN)⟩⟩
  intro K28
  refine E.iter (fun (st24 : Int × List Bool) (e : List (Nat × Value)) (w : World) => ∃ (s26 : Sig), Mv (Up N No) s s26 ∧ RdL (rK .i64) s26 a4 c4 p1 ∧ RowT rB s26 (N + 1) 4 (some ⟨b10, 0, none⟩) x9.length st24.2 ∧ e = [(13, .int .i64 st24.1), (12, .int .i64 (p1.length : Int)), (11, .slice a4 p1.length c4), (5, .slice (some ⟨b10, 0, none⟩) st24.2.length x9.length)] ∧ w = s26.w) eo24 ⟨s11, m0, h4, h10, rfl, rfl⟩ (Sub.cons rfl (Sub.cons rfl (Sub.cons rfl (Sub.cons rfl Sub.nil)))) ?_
  rintro st24 res24 hm ih24 ho24 _ _ ⟨s26, m0, h4, h10, rfl, rfl⟩
  unfold m_reach_flags_l1 at hm
  refine E.seq ?_
  refine E.reg ?_
  refine L.bi Wt.no rfl rfl rfl rfl ?_
  refine L.nil ?_
  refine X.seqN ?_
  refine E.seq ?_
  rcases ifS hm with ⟨hc, hm⟩ | ⟨hc, hm⟩
  · refine E.cT rfl hc ?_
    refine E.skip ?_
    refine X.seqN ?_
    refine E.seq ?_
    refine E.block ?_
    refine E.seq ?_
    refine E.reg ?_
    obtain ⟨x29, ex29, hm⟩ := bindS hm
    refine L.ix (r := (rK .i64)) sl28 h4 Wt.no rfl rfl ex29 rfl ?_
    rintro b30 o30 cc30 me30 rd30
    obtain rfl := rd30
    refine L.ld (j := 0) me30 nag3 Wt.no rfl rfl rfl rfl ?_
    refine L.as Wt.no rfl rfl ?_
    refine L.nil ?_
    refine X.seqN ?_
    refine E.reg ?_
    refine L.mv Wt.no rfl rfl ?_
    refine L.mv Wt.no rfl rfl ?_
    obtain ⟨x31, ex31, hm⟩ := bindS hm
    refine L.ir (r := rB) sl86 h10 Wt.no rfl rfl ex31 rfl ?_
    rintro b32 o32 cc32 me32 rd32 sp32
    obtain rfl := rd32
    obtain ⟨x33, ex33, hm⟩ := bindS hm
    have elx33 := upd_len ex33
    refine L.su (fo := 0) (c := [.bool true]) (z := true) h10 sp32 ex31 ex33 (tgp hN) nag4.sz Wt.no rfl rfl rfl rfl rfl rfl (fun c0 hc0 => by obtain rfl := hc0; exact rfl) ?_
    intro s34 m35 h10
    replace m0 := m0.trans (m35.one up)
    replace h4 := h4.mono (m35.le (tg0 hN))
    refine L.reval (d := 5) rfl elx33 ?_
    refine L.nil ?_
    refine X.blkN ?_
    refine X.seqN ?_
    refine E.reg ?_
    refine L.bi Wt.no rfl rfl rfl rfl ?_
    refine L.mv Wt.no rfl rfl ?_
    refine L.nil ?_
    exact X.sub (ih24 _ (Option.some.inj hm).symm _ _ ⟨s34, m0, h4, h10, rfl, rfl⟩) (Sub.cons rfl (Sub.cons rfl (Sub.cons rfl (Sub.cons rfl Sub.nil))))
  · refine E.cF rfl hc ?_
    refine E.exit ?_
    refine X.seqX ?_
    refine X.seqX ?_
    have hx := ho24 _ (Option.some.inj hm).symm
    subst hx
    exact X.sub (K28 _ _ ⟨s26, m0, h10, rfl, rfl⟩) (Sub.cons rfl Sub.nil)

/-- What reach.closure computes. -/
noncomputable def m_reach_closure (p0 : List Int × Int × List Int × (List (Int × Int × Int))) (p1 : List Int) (p2 : List Int) : Option Int :=
  (m_automaton_Check p0).bind fun r9 =>
  if (r9 != 0) then
    some r9
  else
    (m_reach_checkStates p0 p1).bind fun r12 =>
    if (r12 != 0) then
      some r12
    else
      (m_reach_checkSet p2 32).bind fun r15 =>
      some r15
set_option maxRecDepth 100000 in
set_option maxHeartbeats 8000000 in
theorem m_reach_closure_c {s : Sig} {p0 : List Int × Int × List Int × (List (Int × Int × Int))} {p1 : List Int} {p2 : List Int} {a1 : Option Addr} {c1 : Nat} {a2 : Option Addr} {c2 : Nat} {a3 : Option Addr} {c3 : Nat} {a4 : Option Addr} {c4 : Nat} {a5 : Option Addr} {c5 : Nat} {r : Int} (h1 : RdL (rK .i64) s a1 c1 p0.1) (h2 : RdL (rK .i64) s a2 c2 p0.2.2.1) (h3 : RdL (rP (rK .i64) (rP (rK .i64) (rK .i64))) s a3 c3 p0.2.2.2) (h4 : RdL (rK .i64) s a4 c4 p1) (h5 : RdL (rK .i64) s a5 c5 p2) (hm : m_reach_closure p0 p1 p2 = some r) :
    Calls Try.prog 56 #[.agg #[.slice a1 p0.1.length c1, .int .i64 p0.2.1, .slice a2 p0.2.2.1.length c2, .slice a3 p0.2.2.2.length c3], .slice a4 p1.length c4, .slice a5 p2.length c5] s.w (RetS No s fun v s' => v = .int .i64 r) := by
  unfold m_reach_closure at hm
  obtain ⟨N, hN, hNb⟩ := s.fresh
  have m0 : Mv (Up N No) s s := Mv.refl _ _
  refine E.entry (vs := [.agg #[.slice a1 p0.1.length c1, .int .i64 p0.2.1, .slice a2 p0.2.2.1.length c2, .slice a3 p0.2.2.2.length c3], .slice a4 p1.length c4, .slice a5 p2.length c5]) (e := [(0, .agg #[.slice a1 p0.1.length c1, .int .i64 p0.2.1, .slice a2 p0.2.2.1.length c2, .slice a3 p0.2.2.2.length c3]), (1, .slice a4 p1.length c4), (2, .slice a5 p2.length c5)]) Try.func56 rfl Try.ntmps56 rfl rfl ?_
  refine E.seq ?_
  refine E.reg ?_
  refine L.box (N + 0) Wt.no rfl rfl rfl ?_
  intro b6 s7 m8 bx6
  replace m0 := m0.trans m8.no
  replace h4 := h4.mono (m8.le no_No)
  replace h5 := h5.mono (m8.le no_No)
  replace h1 := h1.mono (m8.le no_No)
  replace h2 := h2.mono (m8.le no_No)
  replace h3 := h3.mono (m8.le no_No)
  refine L.as Wt.no rfl rfl ?_
  refine L.nil ?_
  refine X.seqN ?_
  refine E.seq ?_
  refine E.seq ?_
  refine E.reg ?_
  refine L.lg (j := 0) (cs := [.slice a1 p0.1.length c1, .int .i64 p0.2.1, .slice a2 p0.2.2.1.length c2, .slice a3 p0.2.2.2.length c3]) bx6.mem ag31 Wt.no rfl rfl rfl rfl rfl ?_
  obtain ⟨r9, er9, hm⟩ := bindS hm
  refine L.ca (vs := [.agg #[.slice a1 p0.1.length c1, .int .i64 p0.2.1, .slice a2 p0.2.2.1.length c2, .slice a3 p0.2.2.2.length c3]]) cf43 rfl rfl Wt.no rfl (m_automaton_Check_c (s := s7) (p0 := p0) h1 h2 h3 er9) rfl ?_
  rintro _ s10 m11 rfl
  replace m0 := m0.trans m11.no
  replace h4 := h4.mono (m11.le no_No)
  replace h5 := h5.mono (m11.le no_No)
  replace bx6 := bx6.mv m11 no_No
  replace h1 := h1.mono (m11.le no_No)
  replace h2 := h2.mono (m11.le no_No)
  replace h3 := h3.mono (m11.le no_No)
  refine L.as Wt.no rfl rfl ?_
  refine L.nil ?_
  refine X.seqN ?_
  refine E.seq ?_
  refine E.reg ?_
  refine L.mv Wt.no rfl rfl ?_
  refine L.bi Wt.no rfl rfl rfl rfl ?_
  refine L.nil ?_
  refine X.seqN ?_
  rcases ifS hm with ⟨hc, hm⟩ | ⟨hc, hm⟩
  · refine E.cT rfl hc ?_
    refine E.seq ?_
    refine E.reg ?_
    refine L.mv Wt.no rfl rfl ?_
    refine L.as Wt.no rfl rfl ?_
    refine L.nil ?_
    refine X.seqN ?_
    refine E.ret ?_
    refine X.seqR ?_
    obtain rfl := Option.some.inj hm
    exact X.rt (.inl rfl) Try.results56 (Rs.tmp rfl Rs.nil) rfl ⟨_, (s10).ren N (fun _ => 0), rfl, rfl, m0.ren hNb, rfl⟩
  · refine E.cF rfl hc ?_
    refine E.skip ?_
    refine X.seqN ?_
    refine E.seq ?_
    refine E.seq ?_
    refine E.reg ?_
    refine L.lg (j := 0) (cs := [.slice a1 p0.1.length c1, .int .i64 p0.2.1, .slice a2 p0.2.2.1.length c2, .slice a3 p0.2.2.2.length c3]) bx6.mem ag31 Wt.no rfl rfl rfl rfl rfl ?_
    refine L.mv Wt.no rfl rfl ?_
    obtain ⟨r12, er12, hm⟩ := bindS hm
    refine L.ca (vs := [.agg #[.slice a1 p0.1.length c1, .int .i64 p0.2.1, .slice a2 p0.2.2.1.length c2, .slice a3 p0.2.2.2.length c3], .slice a4 p1.length c4]) cf47 rfl rfl Wt.no rfl (m_reach_checkStates_c (s := s10) (p0 := p0) (p1 := p1) h1 h2 h3 h4 er12) rfl ?_
    rintro _ s13 m14 rfl
    replace m0 := m0.trans m14.no
    replace h5 := h5.mono (m14.le no_No)
    refine L.as Wt.no rfl rfl ?_
    refine L.nil ?_
    refine X.seqN ?_
    refine E.seq ?_
    refine E.reg ?_
    refine L.mv Wt.no rfl rfl ?_
    refine L.bi Wt.no rfl rfl rfl rfl ?_
    refine L.nil ?_
    refine X.seqN ?_
    rcases ifS hm with ⟨hc, hm⟩ | ⟨hc, hm⟩
    · refine E.cT rfl hc ?_
      refine E.seq ?_
      refine E.reg ?_
      refine L.mv Wt.no rfl rfl ?_
      refine L.as Wt.no rfl rfl ?_
      refine L.nil ?_
      refine X.seqN ?_
      refine E.ret ?_
      refine X.seqR ?_
      obtain rfl := Option.some.inj hm
      exact X.rt (.inl rfl) Try.results56 (Rs.tmp rfl Rs.nil) rfl ⟨_, (s13).ren N (fun _ => 0), rfl, rfl, m0.ren hNb, rfl⟩
    · refine E.cF rfl hc ?_
      refine E.skip ?_
      refine X.seqN ?_
      refine E.seq ?_
      refine E.reg ?_
      refine L.mv Wt.no rfl rfl ?_
      obtain ⟨r15, er15, hm⟩ := bindS hm
      refine L.ca (vs := [.slice a5 p2.length c5, .int .i64 32]) cf61 rfl rfl Wt.no rfl (m_reach_checkSet_c (s := s13) (p0 := p2) (p1 := 32) h5 er15) rfl ?_
      rintro _ s16 m17 rfl
      replace m0 := m0.trans m17.no
      refine L.as Wt.no rfl rfl ?_
      refine L.nil ?_
      refine X.seqN ?_
      refine E.ret ?_
      obtain rfl := Option.some.inj hm
      exact X.rt (.inl rfl) Try.results56 (Rs.tmp rfl Rs.nil) rfl ⟨_, (s16).ren N (fun _ => 0), rfl, rfl, m0.ren hNb, rfl⟩

end Go.Proofs.Ythchkddhibhenaa

namespace Go.Proofs.Ythchkddhibhenaa
open Go Go.RowKit
/-- A row of one cell an element, seen from its block. -/
structure RowAt {α : Type} (r : Rep α) (s : Sig) (t : Nat) (T : TypeId) (b off cap : Nat) (cur : Array Value) (vs : List Value) (xs : List α) : Prop where
  heap : s.w.heap[b]? = some (.cells cur T (0, 0))
  tag : s.tag b = t
  cap : xs.length ≤ cap ∧ cap ≤ maxLen ∧ off + cap ≤ cur.size
  len : vs.length = xs.length
  cell : ∀ j (h : j < vs.length), cur[off + j]? = some vs[j]
  rd : ∀ j (h : j < vs.length) (h2 : j < xs.length), r.rd s [vs[j]] xs[j]
section
variable {α β : Type} {r : Rep α} {s : Sig} {t : Nat} {T : TypeId} {a : Option Addr} {cap : Nat} {xs ys : List α}
theorem RowT.seen (h : RowT r s t T a cap xs) (h1 : r.sz = 1) : (a = none ∧ cap = 0 ∧ xs = []) ∨ ∃ b off cur vs, a = some ⟨b, off, none⟩ ∧ RowAt r s t T b off cap cur vs xs := by
  obtain ⟨cs, ⟨hl, hrow⟩, hc⟩ := h
  rw [h1, Nat.mul_one] at hl
  rcases hrow with ⟨e, hn⟩ | ⟨b, off, cap', cur, e, ho, k1, k2, k3, k4⟩
  · simp only [Value.slice.injEq] at e
    exact .inl ⟨e.1, e.2.2, List.eq_nil_of_length_eq_zero hn⟩
  · simp only [Value.slice.injEq, true_and] at e
    obtain ⟨rfl, rfl⟩ := e
    rw [h1, Nat.mul_one] at k3 k4
    refine .inr ⟨b, off, cur, cs, rfl, ho.heap, ho.htag, ⟨k1, k2, k3⟩, hl, fun j hj => ?_, fun j hj hj2 => ?_⟩
    · have e2 : cs[j]? = cur.toList[off + j]? := by rw [← k4, List.getElem?_take, if_pos (by omega), List.getElem?_drop]
      rw [List.getElem?_eq_getElem hj] at e2
      rw [← Array.getElem?_toList]
      exact e2.symm
    · have := hc.at j hj2
      rw [h1, Nat.mul_one, List.drop_eq_getElem_cons hj] at this
      exact this
theorem Cells.of {s : Sig} (h1 : r.sz = 1) : ∀ {cs : List Value} {xs : List α}, cs.length = xs.length → (∀ j (h : j < cs.length) (h2 : j < xs.length), r.rd s [cs[j]] xs[j]) → Cells r s cs xs
  | [], [], _, _ => rfl
  | [], _ :: _, h, _ => by cases h
  | _ :: _, [], h, _ => by cases h
  | c :: cs, x :: xs, h, hr => ⟨[c], cs, rfl, hr 0 (by simp) (by simp), Cells.of h1 (by simpa using h) fun j hj hj2 => hr (j + 1) (by simpa using hj) (by simpa using hj2)⟩
end
/-- Slices that are nil. -/
def rNil {α : Type} : Rep (List α) := ⟨1, fun _ cs x => cs = [.slice none 0 0] ∧ x = [], fun h => by rw [h.1]; rfl, fun _ h => h, fun h u hu => by rw [h.1] at hu; rw [List.mem_singleton.1 hu]; rfl⟩
section
variable {α : Type}
structure RowR (r : Rep α) (s : Sig) (N q t : Nat) (T U : TypeId) (a : Option Addr) (cap n : Nat) (xss : List (List α)) (out : Option Nat) : Prop where
  is : xss.length = n ∧ ∃ (b off : Nat) (cur : Array Value) (vs : List Value), a = some ⟨b, off, none⟩ ∧ s.w.heap[b]? = some (.cells cur T (0, 0)) ∧ s.tag b = t ∧ n ≤ cap ∧ cap ≤ maxLen ∧ off + cap ≤ cur.size ∧ vs.length = n ∧ (∀ j (h : j < vs.length), cur[off + j]? = some vs[j]) ∧
    ∀ j (h : j < vs.length) (h2 : j < xss.length), out = some j ∨ ∃ ai ci, vs[j] = .slice ai xss[j].length ci ∧ RowT r s (fam N q j) U ai ci xss[j]
variable {r : Rep α} {s s' : Sig} {N q t cap n : Nat} {T U : TypeId} {a : Option Addr} {xss yss : List (List α)} {out : Option Nat} {S : Nat → Prop}
theorem RowR.mv (h : RowR r s N q t T U a cap n xss out) (m : Mv S s s') (ht : ¬ S t) (h0 : ¬ S 0) (hr : ∀ i, (∀ k, out = some k → i ≠ k) → ¬ S (fam N q i)) : RowR r s' N q t T U a cap n xss out := by
  obtain ⟨hn, b, off, cur, vs, ha, h1, h2, h3, h4, h5, h6, h7, h8⟩ := h.is
  obtain ⟨g1, g2⟩ := m.blk b (Array.getElem?_eq_some_iff.1 h1).1 (by rw [h2]; exact ht)
  refine ⟨hn, b, off, cur, vs, ha, g1.trans h1, g2.trans h2, h3, h4, h5, h6, h7, fun j hj hj2 => ?_⟩
  by_cases ho : out = some j
  · exact .inl ho
  · obtain ⟨ai, ci, e, g⟩ := (h8 j hj hj2).resolve_left ho
    exact .inr ⟨ai, ci, e, g.mv m (hr j fun k hk e2 => ho (by rw [hk, e2])) h0⟩
theorem RowR.start (h : RowT (rNil (α := α)) s t T a cap xss) (ha : a ≠ none) : RowR r s N q t T U a cap xss.length xss none := by
  rcases h.seen rfl with ⟨e, _⟩ | ⟨b, off, cur, vs, e, g⟩
  · exact absurd e ha
  · refine ⟨rfl, b, off, cur, vs, e, g.heap, g.tag, g.cap.1, g.cap.2.1, g.cap.2.2, g.len, g.cell, fun j hj hj2 => .inr ?_⟩
    obtain ⟨e1, e2⟩ := g.rd j hj hj2
    have e1 := List.head_eq_of_cons_eq e1
    rw [e2, e1]
    exact ⟨none, 0, rfl, RowT.nil⟩
theorem RowR.fz {p : Nat → Bool} (h : RowR r s N q t T U a cap n xss none) (h0 : p 0 = false) (ht : p t = true) (hr : ∀ i, p (fam N q i) = true) : RdL (rL r) (s.fzP p) a cap xss := by
  obtain ⟨hn, b, off, cur, vs, rfl, h1, h2, h3, h4, h5, h6, h7, h8⟩ := h.is
  have hle : Le s (s.fzP p) := (Sig.fzP_mv p s).le (by show ¬ p 0 = true; rw [h0]; simp)
  refine ⟨vs, ⟨by show vs.length = xss.length * 1; omega, by omega, h4, fun e => (by cases e), fun ad e => (by cases e; rfl), fun ad e j hj => ?_⟩, fun ad e _ => ?_, Cells.of rfl (by omega) fun j hj hj2 => ?_⟩
  · cases e
    show World.cell? s.w _ = _
    unfold World.cell?
    rw [h1]
    exact h7 j hj
  · cases e
    show (if p (s.tag b) then 0 else s.tag b) = 0
    rw [h2, ht]; rfl
  · obtain ⟨ai, ci, e, g⟩ := (h8 j hj hj2).resolve_left (by simp)
    exact ⟨ai, ci, by rw [e], g.rd hle rfl fun b' hb => by simp [Sig.fzP, hb, hr j]⟩
end
section
variable {Φ : Fr} {P : Program} {Q : Exit → Act → World → Prop} {m : Nat} {e : List (Nat × Value)} {s : Sig} {ops : Array Oper} {os : List Oper} {d : Nat} {ty : TypeId} {pos : String} {af : Array Edge} {g : Option (Nat × Bool)}
variable {α : Type} {r : Rep α} {N q t cap n b off : Nat} {T U W T' : TypeId} {a : Option Addr} {xss yss : List (List α)} {y zs : List α} {out : Option Nat} {j : Int} {k : IntKind} {ai : Option Addr} {ci : Nat}
theorem L.irR {x i : Operand} (hS : Sl P W T 1) (hR : RowR r s N q t T U a cap n xss out) (hw : Wt ops e g) (hx : Env.ev e x = some (.slice a n cap)) (hi : Env.ev e i = some (.int k j)) (hy : idx xss j = some y) (hd : Nat.blt d m = true)
    (h : ∀ b off, Spot a 1 j.toNat b off → L Φ P Q m ops os ((d, .pointer (some ⟨b, off, none⟩)) :: e) s.w) : L Φ P Q m ops (⟨some d, .indexAddr W x i, ty, pos, af, g⟩ :: os) e s.w := by
  obtain ⟨h0, hk, rfl⟩ := idx_some hy
  obtain ⟨hn, b, off, cur, vs, rfl, h1, h2, h3, h4, h5, h6, h7, h8⟩ := hR.is
  refine L.val hw hd (v := .pointer (some ⟨b, off + j.toNat * 1, none⟩)) (fun ac ha => ?_) (h _ _ ⟨off, rfl, rfl⟩)
  have hlt : j < n := by omega
  simp [execOp, Instr.indexAt, ha.ev hx, ha.ev hi, asIntOf, run_underlying hS.und, hS.sz, h0, hlt, Addr.add_lit]
theorem L.ldR {x : Operand} (hR : RowR r s N q t T U a cap n xss none) (hsp : Spot a 1 j.toNat b off) (hy : idx xss j = some y) (hN : NAg P T) (hw : Wt ops e g) (hx : Env.ev e x = some (.pointer (some ⟨b, off, none⟩))) (hd : Nat.blt d m = true)
    (h : ∀ ai ci, RowT r s (fam N q j.toNat) U ai ci y → RowR r s N q t T U a cap n xss (some j.toNat) → L Φ P Q m ops os ((d, .slice ai y.length ci) :: e) s.w) : L Φ P Q m ops (⟨some d, .load T x, ty, pos, af, g⟩ :: os) e s.w := by
  obtain ⟨h0, hk, rfl⟩ := idx_some hy
  obtain ⟨hn, b', off', cur, vs, rfl, h1, h2, h3, h4, h5, h6, h7, h8⟩ := hR.is
  obtain ⟨o, e1, rfl⟩ := hsp.is
  simp only [Option.some.injEq, Addr.mk.injEq, and_true] at e1
  obtain ⟨rfl, rfl⟩ := e1
  obtain ⟨ai, ci, e2, g2⟩ := (h8 j.toNat (by omega) hk).resolve_left (by simp)
  have hmem : Mem s t b' (off' + j.toNat * 1) [.slice ai xss[j.toNat].length ci] := ⟨fun _ => h2, fun i hi => by
    have hi0 : i = 0 := by simpa using hi
    subst hi0
    unfold World.cell?
    rw [h1]
    show cur[off' + j.toNat * 1 + 0]? = _
    rw [Nat.mul_one, Nat.add_zero, h7 j.toNat (by omega), e2]
    rfl⟩
  exact L.ld (j := 0) hmem hN hw hx rfl rfl hd (h ai ci g2 ⟨hn, b', off', cur, vs, rfl, h1, h2, h3, h4, h5, h6, h7, fun i hi hi2 => .inr ((h8 i hi hi2).resolve_left (by simp))⟩)
theorem L.suR {x z : Operand} (hR : RowR r s N q t T U a cap n xss (some j.toNat)) (hZ : RowT r s (fam N q j.toNat) U ai ci zs) (hsp : Spot a 1 j.toNat b off) (hi : idx xss j = some y) (hu : upd xss j zs = some yss) (ht : Nat.blt 0 t = true) (htf : ∀ i, fam N q i ≠ t) (hT : ∀ w, (sizeOf T').run P w = .ok 1 w) (hw : Wt ops e g) (hx : Env.ev e x = some (.pointer (some ⟨b, off, none⟩))) (hz : Env.ev e z = some (.slice ai zs.length ci))
    (h : ∀ s', Mv (One t) s s' → RowR r s' N q t T U a cap n yss none → L Φ P Q m ops os e s'.w) : L Φ P Q m ops (⟨none, .store T' x z, ty, pos, af, g⟩ :: os) e s.w := by
  obtain ⟨h0, hk, rfl⟩ := upd_some hu
  obtain ⟨hn, b', off', cur, vs, rfl, h1, h2, h3, h4, h5, h6, h7, h8⟩ := hR.is
  obtain ⟨o, e1, rfl⟩ := hsp.is
  simp only [Option.some.injEq, Addr.mk.injEq, and_true] at e1
  obtain ⟨rfl, rfl⟩ := e1
  have ht' : 0 < t := by simpa using ht
  have hst := run_storeCells_at P b' (off' + j.toNat) T [.slice ai zs.length ci] 0 cur s.w h1 (by simp; omega) (fun u hu => by rw [List.mem_singleton.1 hu]; rfl)
  simp only [Nat.add_zero] at hst
  refine L.unit hw (w' := s.w.setRow b' (cur.toList.take (off' + j.toNat) ++ [Value.slice ai zs.length ci] ++ cur.toList.drop (off' + j.toNat + 1)).toArray) (fun ac ha => ?_) ?_
  · have hst' := hst
    simp [execOp, Instr.storeAt, Instr.sureAddr, storeVar, ha.ev hx, ha.ev hz, hT, Value.cells]
    simp at hst'
    rw [hst']
    simp [Result.andThen]
  · have hmv : Mv (One t) s ⟨s.w.setRow b' (cur.toList.take (off' + j.toNat) ++ [Value.slice ai zs.length ci] ++ cur.toList.drop (off' + j.toNat + 1)).toArray, s.tag⟩ :=
      ⟨rfl, rfl, rfl, by simp, fun b2 hb hn => ⟨setRow_other _ _ _ _ (by rintro rfl; exact hn h2), rfl⟩⟩
    refine h _ hmv ?_
    have hf : ∀ i, ¬ One t (fam N q i) := fun i e => htf i e
    have hz0 : ¬ One t 0 := fun e => by have : 0 = t := e; omega
    refine ⟨by rw [List.length_set]; exact hn, b', off', _, vs.set j.toNat (.slice ai zs.length ci), rfl, setRow_heap _ _ _ _ _ _ h1, h2, h3, h4, ?_, by rw [List.length_set]; exact h6, fun i hi => ?_, fun i hi hi2 => ?_⟩
    · simp only [List.size_toArray, List.length_append, List.length_take, List.length_drop, Array.length_toList, List.length_singleton]
      omega
    · have hi' : i < vs.length := by simpa using hi
      have hsp2 := get_splice (l := cur.toList) (c := [Value.slice ai zs.length ci]) (i := off' + j.toNat) (by simp; omega) (off' + i)
      rw [List.length_singleton] at hsp2
      rw [List.getElem?_toArray, hsp2, List.getElem_set]
      by_cases e2 : j.toNat = i
      · rw [if_pos e2, if_pos (by omega), ← e2, Nat.sub_self]; rfl
      · rw [if_neg e2, if_neg (by omega), Array.getElem?_toList]
        exact h7 i hi'
    · right
      have hi' : i < vs.length := by simpa using hi
      have hi2' : i < xss.length := by simpa using hi2
      by_cases e2 : j.toNat = i
      · subst e2
        refine ⟨ai, ci, ?_, ?_⟩
        · rw [List.getElem_set_self, List.getElem_set_self]
        · rw [List.getElem_set_self]; exact hZ.mv hmv (hf _) hz0
      · obtain ⟨aj, cj, e3, g3⟩ := (h8 i hi' hi2').resolve_left (by simpa using e2)
        refine ⟨aj, cj, ?_, ?_⟩
        · rw [List.getElem_set_ne e2, List.getElem_set_ne e2, e3]
        · rw [List.getElem_set_ne e2]; exact g3.mv hmv (hf _) hz0
end
end Go.Proofs.Ythchkddhibhenaa

namespace Go.Proofs
open Go.Shelf
def Try.lays189_ren : Go.Shelf.Ren := ⟨fun | 189 => 74 | 125 => 91 | 257 => 90 | 128 => 107 | 129 => 108 | 294 => 99 | 295 => 100 | 296 => 101 | 297 => 102 | 298 => 103 | 299 => 104 | 216 => 94 | 300 => 105 | 301 => 106 | 328 => 120 | 329 => 121 | 330 => 122 | 331 => 123 | 332 => 124 | 215 => 119 | 343 => 128 | n => n, fun | 28 => 28 | 3 => 3 | 46 => 130 | 0 => 0 | 51 => 143 | 53 => 145 | 4 => 4 | 183 => 137 | 182 => 136 | 131 => 100 | 5 => 5 | 9 => 9 | 218 => 152 | 222 => 156 | 228 => 160 | 229 => 118 | n => n, fun | n => n⟩
theorem Try.lays189 : Go.Proofs.Lays.n189 Try.prog Try.lays189_ren := {
  mixed := by kernel_rfl
  f125 := Try.func91.trans (congrArg some (by kernel_rfl))
  f128 := Try.func107.trans (congrArg some (by kernel_rfl))
  f129 := Try.func108.trans (congrArg some (by kernel_rfl))
  f189 := Try.func74.trans (congrArg some (by kernel_rfl))
  f215 := Try.func119.trans (congrArg some (by kernel_rfl))
  f216 := Try.func94.trans (congrArg some (by kernel_rfl))
  f257 := Try.func90.trans (congrArg some (by kernel_rfl))
  f294 := Try.func99.trans (congrArg some (by kernel_rfl))
  f295 := Try.func100.trans (congrArg some (by kernel_rfl))
  f296 := Try.func101.trans (congrArg some (by kernel_rfl))
  f297 := Try.func102.trans (congrArg some (by kernel_rfl))
  f298 := Try.func103.trans (congrArg some (by kernel_rfl))
  f299 := Try.func104.trans (congrArg some (by kernel_rfl))
  f300 := Try.func105.trans (congrArg some (by kernel_rfl))
  f301 := Try.func106.trans (congrArg some (by kernel_rfl))
  f328 := Try.func120.trans (congrArg some (by kernel_rfl))
  f329 := Try.func121.trans (congrArg some (by kernel_rfl))
  f330 := Try.func122.trans (congrArg some (by kernel_rfl))
  f331 := Try.func123.trans (congrArg some (by kernel_rfl))
  f332 := Try.func124.trans (congrArg some (by kernel_rfl))
  f343 := Try.func128.trans (congrArg some (by kernel_rfl))
  t0 := Try.underlying0
  a0 := Try.isAgg0
  z0 := Try.sizeOf0
  v0 := Try.zeroValue0
  t3 := Try.underlying3
  a3 := Try.isAgg3
  z3 := Try.sizeOf3
  v3 := Try.zeroValue3
  t4 := Try.underlying4
  a4 := Try.isAgg4
  z4 := Try.sizeOf4
  v4 := Try.zeroValue4
  t5 := Try.underlying5
  a5 := Try.isAgg5
  z5 := Try.sizeOf5
  v5 := Try.zeroValue5
  t9 := Try.underlying9
  a9 := Try.isAgg9
  z9 := Try.sizeOf9
  v9 := Try.zeroValue9
  t28 := Try.underlying28
  a28 := Try.isAgg28
  z28 := Try.sizeOf28
  v28 := Try.zeroValue28
  t46 := Try.underlying130
  a46 := Try.isAgg130
  z46 := Try.sizeOf130
  v46 := Try.zeroValue130
  t51 := Try.underlying143
  a51 := Try.isAgg143
  z51 := Try.sizeOf143
  v51 := Try.zeroValue143
  t53 := Try.underlying145
  a53 := Try.isAgg145
  z53 := Try.sizeOf145
  v53 := Try.zeroValue145
  t131 := Try.underlying100
  a131 := Try.isAgg100
  z131 := Try.sizeOf100
  v131 := Try.zeroValue100
  t182 := Try.underlying136
  a182 := Try.isAgg136
  z182 := Try.sizeOf136
  v182 := Try.zeroValue136
  t183 := Try.underlying137
  a183 := Try.isAgg137
  z183 := Try.sizeOf137
  v183 := Try.zeroValue137
  t218 := Try.underlying152
  a218 := Try.isAgg152
  z218 := Try.sizeOf152
  v218 := Try.zeroValue152
  t222 := Try.underlying156
  a222 := Try.isAgg156
  z222 := Try.sizeOf156
  v222 := Try.zeroValue156
  t228 := Try.underlying160
  a228 := Try.isAgg160
  z228 := Try.sizeOf160
  v228 := Try.zeroValue160
  t229 := Try.underlying118
  a229 := Try.isAgg118
  z229 := Try.sizeOf118
  v229 := Try.zeroValue118 }
open Go.RowKit Go.Sort Go.Lib in
theorem Try.slices_Sort_int (blk off cap : Nat) (zs : List Int) (w : World) (hH : Holds (Value.int .i64) w blk off zs.toArray) (hblk : blk < w.heap.size) (hsz : zs.length < 4611686018427387904) :
    Calls Try.prog 74 #[.slice (some ⟨blk, off, none⟩) zs.length cap] w fun e w' => e = .returned (.tuple #[]) ∧ ∃ n os, w' = grow (putRow (Value.int .i64) (Sort.ahead w n) blk off (zs.mergeSort fun x y => decide (x ≤ y)).toArray) os := Any.slices_Sort_int Try.lays189 blk off cap zs w hH hblk hsz
open Go.RowKit Go.Sort Go.Lib in
theorem Try.slices_Sort_int_none (p : Option Addr) (cap : Nat) (w : World) :
    Calls Try.prog 74 #[.slice p 0 cap] w fun e w' => e = .returned (.tuple #[]) ∧ w' = w := Any.slices_Sort_int_none Try.lays189 p cap w
def Try.sortL_ren : Go.Shelf.Ren := ⟨fun | 6 => 75 | 15 => 91 | 14 => 92 | 28 => 107 | 29 => 108 | 20 => 109 | 21 => 110 | 22 => 111 | 23 => 112 | 24 => 113 | 25 => 114 | 26 => 115 | 27 => 116 | 46 => 125 | 47 => 121 | 48 => 122 | 49 => 126 | 50 => 127 | 57 => 129 | n => n, fun | 22 => 65 | 24 => 28 | 25 => 113 | 3 => 3 | 39 => 130 | 0 => 0 | 53 => 143 | 55 => 145 | 4 => 4 | 46 => 137 | 45 => 136 | 50 => 100 | 5 => 5 | 9 => 9 | 66 => 152 | 70 => 156 | 76 => 160 | 77 => 118 | n => n, fun | n => n⟩
theorem Try.sortL : Go.Proofs.SlLaysF.n6 Try.prog Try.sortL_ren := {
  mixed := by kernel_rfl
  f6 := ⟨Try.f75.name, by decide, Try.func75.trans (congrArg some (by kernel_rfl))⟩
  f14 := ⟨Try.f92.name, by decide, Try.func92.trans (congrArg some (by kernel_rfl))⟩
  f15 := Try.func91.trans (congrArg some (by kernel_rfl))
  f20 := ⟨Try.f109.name, by decide, Try.func109.trans (congrArg some (by kernel_rfl))⟩
  f21 := ⟨Try.f110.name, by decide, Try.func110.trans (congrArg some (by kernel_rfl))⟩
  f22 := ⟨Try.f111.name, by decide, Try.func111.trans (congrArg some (by kernel_rfl))⟩
  f23 := ⟨Try.f112.name, by decide, Try.func112.trans (congrArg some (by kernel_rfl))⟩
  f24 := ⟨Try.f113.name, by decide, Try.func113.trans (congrArg some (by kernel_rfl))⟩
  f25 := ⟨Try.f114.name, by decide, Try.func114.trans (congrArg some (by kernel_rfl))⟩
  f26 := ⟨Try.f115.name, by decide, Try.func115.trans (congrArg some (by kernel_rfl))⟩
  f27 := ⟨Try.f116.name, by decide, Try.func116.trans (congrArg some (by kernel_rfl))⟩
  f28 := Try.func107.trans (congrArg some (by kernel_rfl))
  f29 := Try.func108.trans (congrArg some (by kernel_rfl))
  f46 := ⟨Try.f125.name, by decide, Try.func125.trans (congrArg some (by kernel_rfl))⟩
  f47 := Try.func121.trans (congrArg some (by kernel_rfl))
  f48 := Try.func122.trans (congrArg some (by kernel_rfl))
  f49 := ⟨Try.f126.name, by decide, Try.func126.trans (congrArg some (by kernel_rfl))⟩
  f50 := ⟨Try.f127.name, by decide, Try.func127.trans (congrArg some (by kernel_rfl))⟩
  f57 := ⟨Try.f129.name, by decide, Try.func129.trans (congrArg some (by kernel_rfl))⟩
  t0 := Try.underlying0
  a0 := Try.isAgg0
  z0 := Try.sizeOf0
  v0 := Try.zeroValue0
  t3 := Try.underlying3
  a3 := Try.isAgg3
  z3 := Try.sizeOf3
  v3 := Try.zeroValue3
  t4 := Try.underlying4
  a4 := Try.isAgg4
  z4 := Try.sizeOf4
  v4 := Try.zeroValue4
  t5 := Try.underlying5
  a5 := Try.isAgg5
  z5 := Try.sizeOf5
  v5 := Try.zeroValue5
  t9 := Try.underlying9
  a9 := Try.isAgg9
  z9 := Try.sizeOf9
  v9 := Try.zeroValue9
  t22 := Try.underlying65
  a22 := Try.isAgg65
  z22 := Try.sizeOf65
  v22 := Try.zeroValue65
  a24 := Try.isAgg28
  z24 := Try.sizeOf28
  t25 := Try.underlying113
  a25 := Try.isAgg113
  z25 := Try.sizeOf113
  v25 := Try.zeroValue113
  t39 := Try.underlying130
  a39 := Try.isAgg130
  z39 := Try.sizeOf130
  v39 := Try.zeroValue130
  t45 := Try.underlying136
  a45 := Try.isAgg136
  z45 := Try.sizeOf136
  v45 := Try.zeroValue136
  t46 := Try.underlying137
  a46 := Try.isAgg137
  z46 := Try.sizeOf137
  v46 := Try.zeroValue137
  t50 := Try.underlying100
  a50 := Try.isAgg100
  z50 := Try.sizeOf100
  v50 := Try.zeroValue100
  t53 := Try.underlying143
  a53 := Try.isAgg143
  z53 := Try.sizeOf143
  v53 := Try.zeroValue143
  t55 := Try.underlying145
  a55 := Try.isAgg145
  z55 := Try.sizeOf145
  v55 := Try.zeroValue145
  t66 := Try.underlying152
  a66 := Try.isAgg152
  z66 := Try.sizeOf152
  v66 := Try.zeroValue152
  t70 := Try.underlying156
  a70 := Try.isAgg156
  z70 := Try.sizeOf156
  v70 := Try.zeroValue156
  t76 := Try.underlying160
  a76 := Try.isAgg160
  z76 := Try.sizeOf160
  v76 := Try.zeroValue160
  t77 := Try.underlying118
  a77 := Try.isAgg118
  z77 := Try.sizeOf118
  v77 := Try.zeroValue118 }
end Go.Proofs

namespace Go.Proofs.Ythchkddhibhenaa
open Go Go.RowKit Go.Sort
section
variable {α β : Type} {r : Rep α} {s : Sig} {t : Nat} {T : TypeId} {a : Option Addr} {cap : Nat} {xs ys : List α}
theorem put_block {enc : β → Value} [Inhabited β] {w : World} {b off n : Nat} {d : Array β} {os : Array Obj} {cur : Array Value} {fr : Nat × Nat} (h : w.heap[b]? = some (.cells cur T fr)) : (grow (putRow enc (Sort.ahead w n) b off d) os).heap[b]? = some (.cells (putCells enc off d cur) T fr) := by
  have hb : b < w.heap.size := (Array.getElem?_eq_some_iff.1 h).1
  show ((w.heap.modify b (onCells (putCells enc off d))) ++ os)[b]? = _
  rw [Array.getElem?_append_left (by simpa using hb), Array.getElem?_modify, if_pos rfl, h]
  rfl
theorem put_other {enc : β → Value} [Inhabited β] {w : World} {b b' off n : Nat} {d : Array β} {os : Array Obj} (hb : b' < w.heap.size) (hne : b' ≠ b) : (grow (putRow enc (Sort.ahead w n) b off d) os).heap[b']? = w.heap[b']? := by
  show ((w.heap.modify b (onCells (putCells enc off d))) ++ os)[b']? = _
  rw [Array.getElem?_append_left (by simpa using hb), Array.getElem?_modify, if_neg (Ne.symm hne)]
theorem RowAt.put {b off : Nat} {cur : Array Value} {vs : List Value} (h : RowAt r s t T b off cap cur vs xs) (h1 : r.sz = 1) (ht : 0 < t) {enc : β → Value} [Inhabited β] {d : Array β} (hd : d.size = xs.length) (hy : ys.length = xs.length) (hr : ∀ j, j < d.size → ∀ h2 : j < ys.length, r.rd s [enc d[j]!] ys[j]) {w' : World} (hw : ∃ n os, w' = grow (putRow enc (Sort.ahead s.w n) b off d) os) :
    ∃ s', w' = s'.w ∧ Mv (One t) s s' ∧ RowT r s' t T (some ⟨b, off, none⟩) cap ys := by
  obtain ⟨n, os, rfl⟩ := hw
  have hb : b < s.w.heap.size := (Array.getElem?_eq_some_iff.1 h.heap).1
  refine ⟨⟨_, fun b => if b < s.w.heap.size then s.tag b else 0⟩, rfl, ⟨rfl, rfl, rfl, ?_, fun b' hb' hn => ⟨put_other hb' fun e => hn (by rw [e]; exact h.tag), if_pos hb'⟩⟩, ?_⟩
  · show _ ≤ ((s.w.heap.modify b _) ++ os).size
    simp
  · have hm : Mv (One t) s ⟨grow (putRow enc (Sort.ahead s.w n) b off d) os, fun b => if b < s.w.heap.size then s.tag b else 0⟩ := ⟨rfl, rfl, rfl, (by show _ ≤ ((s.w.heap.modify b _) ++ os).size; simp), fun b' hb' hn => ⟨put_other hb' fun e => hn (by rw [e]; exact h.tag), if_pos hb'⟩⟩
    have hle := hm.le (by show ¬ 0 = t; omega)
    have hcap := h.cap
    have hcs : ((putCells enc off d cur).toList.drop off).take (ys.length * 1) = (d.toList.map enc) := by
      rw [Nat.mul_one]
      apply List.ext_getElem?
      intro j
      rw [List.getElem?_take, List.getElem?_drop, List.getElem?_map]
      by_cases hj : j < ys.length
      · rw [if_pos hj, Array.getElem?_toList, putCells, Array.getElem?_mapIdx, Array.getElem?_eq_getElem (by omega), Option.map_some, if_pos ⟨by omega, by omega⟩, Nat.add_sub_cancel_left, Array.getElem?_toList, Array.getElem?_eq_getElem (by omega), Option.map_some, getElem!_pos _ _ (by omega)]
      · rw [if_neg hj, Array.getElem?_toList, Array.getElem?_eq_none (by omega)]; rfl
    refine ⟨d.toList.map enc, ⟨by rw [h1, Nat.mul_one, List.length_map, Array.length_toList]; omega, .inr ⟨b, off, cap, putCells enc off d cur, rfl, ⟨put_block h.heap, ?_, Nat.zero_le _⟩, by omega, hcap.2.1, ?_, by rw [h1]; exact hcs⟩⟩, Cells.of h1 (by simp; omega) fun j hj hj2 => ?_⟩
    · show (if b < s.w.heap.size then s.tag b else 0) = t
      rw [if_pos hb]; exact h.tag
    · rw [h1, Nat.mul_one, putCells, Array.size_mapIdx]; exact hcap.2.2
    · have hjd : j < d.size := by simpa using hj
      have := hr j hjd hj2
      rw [getElem!_pos d j hjd] at this
      rw [List.getElem_map, Array.getElem_toList]
      exact r.mono hle this
theorem RowAt.holds {b off : Nat} {cur : Array Value} {vs : List Value} (h : RowAt r s t T b off cap cur vs xs) {enc : β → Value} [Inhabited β] {d : Array β} (hd : d.size = vs.length) (he : ∀ j (h : j < vs.length), enc d[j]! = vs[j]) : Holds enc s.w b off d := fun j hj => by
  have hc := h.cell j (by omega)
  refine ⟨?_, ?_⟩
  · unfold World.cell?
    rw [h.heap]
    show cur[off + j]? = _
    rw [hc, he j (by omega)]
  · unfold World.frozen?
    rw [h.heap]
    show (decide (0 ≤ off + j) && decide (off + j < 0)) = false
    simp
end
/-- What slices.Sort leaves. -/
def m_slices_Sort_int (p0 : List Int) : Option (List Int) := if p0.length ≤ 4294967296 then some (p0.mergeSort fun x y => decide (x ≤ y)) else none
theorem m_slices_Sort_int_c {s : Sig} {p0 : List Int} {t0 : Nat} {a1 : Option Addr} {c1 : Nat} {r : List Int} (zt0 : 0 < t0) (h1 : RowT (rK .i64) s t0 3 a1 c1 p0) (hm : m_slices_Sort_int p0 = some r) :
    Calls Try.prog 74 #[.slice a1 p0.length c1] s.w (RetS (One t0) s fun v s' => v = .tuple #[] ∧ RowT (rK .i64) s' t0 3 a1 c1 r) := by
  obtain ⟨hl, rfl⟩ : p0.length ≤ 4294967296 ∧ p0.mergeSort (fun x y => decide (x ≤ y)) = r := by
    unfold m_slices_Sort_int at hm
    split at hm
    · exact ⟨by assumption, Option.some.inj hm⟩
    · cases hm
  rcases h1.seen rfl with ⟨rfl, rfl, rfl⟩ | ⟨b, off, cur, vs, rfl, h⟩
  · refine (Try.slices_Sort_int_none none 0 s.w).mono ?_
    rintro e w' ⟨rfl, rfl⟩
    exact ⟨_, s, rfl, rfl, Mv.refl _ _, rfl, by simpa using RowT.nil⟩
  · have hv : ∀ j (h2 : j < vs.length) (h3 : j < p0.length), vs[j] = .int .i64 p0[j] := fun j h2 h3 => by
      have := h.rd j h2 h3
      exact List.head_eq_of_cons_eq this
    have hlen := h.len
    have hb : b < s.w.heap.size := (Array.getElem?_eq_some_iff.1 h.heap).1
    refine (Try.slices_Sort_int b off c1 p0 s.w (h.holds (by simp [hlen]) fun j hj => ?_) hb (by omega)).mono ?_
    · rw [hv j hj (by omega), getElem!_pos _ _ (by simp; omega)]
      simp
    · rintro e w' ⟨rfl, hw⟩
      obtain ⟨s', hw', hm, hr⟩ := h.put rfl zt0 (ys := p0.mergeSort fun x y => decide (x ≤ y)) (by simp) (by simp) (fun j hj h2 => by
        have e := getElem!_pos (p0.mergeSort fun x y => decide (x ≤ y)).toArray j hj
        rw [e]
        show [_] = [_]
        simp) hw
      exact ⟨_, s', hw', rfl, hm, rfl, hr⟩
set_option maxHeartbeats 2000000 in
/-- The comparison of two groups by their first elements. -/
theorem first_cmp (b1 o1 n1 c1 b2 o2 n2 c2 : Nat) (x y : Int) (w : World) (h1 : w.cell? ⟨b1, o1, none⟩ = some (.int .i64 x)) (h2 : w.cell? ⟨b2, o2, none⟩ = some (.int .i64 y)) (l1 : 0 < n1) (l2 : 0 < n2) (hx : 0 ≤ x ∧ x < 4294967296) (hy : 0 ≤ y ∧ y < 4294967296) :
    Calls Try.prog 76 #[.slice (some ⟨b1, o1, none⟩) n1 c1, .slice (some ⟨b2, o2, none⟩) n2 c2] w fun e w' => e = .returned (.int .i64 (x - y)) ∧ ∃ q, w' = w.drewN q := by
  go_enter Try.func76, Try.ntmps76
  go_wp2_with fail
  go_region
  go_wp2_with fail
  go_ret
  exact ⟨rfl, 1, rfl⟩
/-- The first element. -/
def hd0 (l : List Int) : Int := l.headD 0
theorem hd0_get : ∀ {l : List Int} (h : 0 < l.length), l[0] = hd0 l
  | _ :: _, _ => rfl
/-- What slices.SortFunc leaves of groups that differ in their first elements. -/
def m_slices_SortFunc_int (p0 : List (List Int)) : Option (List (List Int)) :=
  if (∀ l ∈ p0, l ≠ [] ∧ 0 ≤ hd0 l ∧ hd0 l < 4294967296) ∧ (p0.map hd0).Nodup ∧ p0.length ≤ 4294967296 then some (((List.finRange p0.length).mergeSort fun x y => !decide (hd0 (p0.get y) - hd0 (p0.get x) < 0)).map p0.get) else none
theorem m_slices_SortFunc_int_c {s : Sig} {p0 : List (List Int)} {t0 : Nat} {a1 : Option Addr} {c1 : Nat} {r : List (List Int)} (zt0 : 0 < t0) (h1 : RowT (rL (rK .i64)) s t0 28 a1 c1 p0) (hm : m_slices_SortFunc_int p0 = some r) :
    Calls Try.prog 75 #[.slice a1 p0.length c1, .func (.func 76) #[] #[]] s.w (RetS (One t0) s fun v s' => v = .tuple #[] ∧ RowT (rL (rK .i64)) s' t0 28 a1 c1 r) := by
  obtain ⟨⟨hne, hnd, hl⟩, rfl⟩ : ((∀ l ∈ p0, l ≠ [] ∧ 0 ≤ hd0 l ∧ hd0 l < 4294967296) ∧ (p0.map hd0).Nodup ∧ p0.length ≤ 4294967296) ∧ ((List.finRange p0.length).mergeSort fun x y => !decide (hd0 (p0.get y) - hd0 (p0.get x) < 0)).map p0.get = r := by
    unfold m_slices_SortFunc_int at hm
    split at hm
    · exact ⟨by assumption, Option.some.inj hm⟩
    · cases hm
  have hnone : ∀ (p : Option Addr) (cap : Nat), Calls Try.prog 75 #[.slice p 0 cap, .func (.func 76) #[] #[]] s.w fun e w' => e = .returned (.tuple #[]) ∧ w' = s.w := fun p cap => AnyF.slices_SortFunc_none (P := Try.prog) (ρ := Try.sortL_ren) { Try.sortL with } p cap (.func (.func 76) #[] #[]) s.w
  by_cases h0 : p0 = []
  · subst h0
    refine (hnone a1 c1).mono ?_
    rintro e w' ⟨rfl, rfl⟩
    exact ⟨_, s, rfl, rfl, Mv.refl _ _, rfl, by simpa using h1⟩
  rcases h1.seen rfl with ⟨rfl, rfl, rfl⟩ | ⟨b, off, cur, vs, rfl, h⟩
  · exact absurd rfl h0
  have hlen := h.len
  have hb : b < s.w.heap.size := (Array.getElem?_eq_some_iff.1 h.heap).1
  have hpos : 0 < p0.length := List.length_pos_iff.2 h0
  haveI : Inhabited (Fin p0.length) := ⟨⟨0, hpos⟩⟩
  have hin : ∀ i : Fin p0.length, p0.get i ∈ p0 := fun i => List.get_mem _ _
  -- what lies in a place of the row
  have hel : ∀ i : Fin p0.length, ∃ bi oi ci, vs[i.1]'(by omega) = .slice (some ⟨bi, oi, none⟩) (p0.get i).length ci ∧ 0 < (p0.get i).length ∧ ∀ W : World, (∀ b', b' < s.w.heap.size → b' ≠ b → W.heap[b']? = s.w.heap[b']?) → W.cell? ⟨bi, oi, none⟩ = some (.int .i64 (hd0 (p0.get i))) := fun i => by
    obtain ⟨a, ci, e, hrd⟩ := h.rd i.1 (by omega) i.2
    obtain ⟨hn, h2, h3⟩ := hne _ (hin i)
    have hp : 0 < (p0.get i).length := List.length_pos_iff.2 hn
    obtain ⟨bi, oi, c, ea, hmem, hc⟩ := hrd.at 0 hp
    have hc2 : c = [.int .i64 (hd0 (p0.get i))] := by
      have e2 : (p0.get i)[0] = hd0 (p0.get i) := hd0_get hp
      have : c = [.int .i64 (p0.get i)[0]] := hc
      rw [this, e2]
    subst ea hc2
    have hcell := hmem.2 0 (by simp)
    have ht := hmem.1 (by simp)
    refine ⟨bi, oi, ci, List.head_eq_of_cons_eq e, hp, fun W hW => ?_⟩
    have hcell : s.w.cell? ⟨bi, oi, none⟩ = some (.int .i64 (hd0 (p0.get i))) := by simpa using hcell
    have hlt := World.block_lt_of_cell? _ _ hcell
    rw [← hcell]
    exact World.cell?_of_block (w := s.w) (a := ⟨bi, oi, none⟩) (hW bi hlt fun e => by rw [e, h.tag] at ht; omega)
  obtain ⟨enc, henc⟩ : ∃ enc : Fin p0.length → Value, enc = fun i => vs[i.1]'(by omega) := ⟨_, rfl⟩
  obtain ⟨cf, hcf⟩ : ∃ cf : Fin p0.length → Fin p0.length → Int, cf = fun i j => hd0 (p0.get i) - hd0 (p0.get j) := ⟨_, rfl⟩
  have hlt : ∀ i j, Go.Proofs.ltOf cf i j = decide (hd0 (p0.get i) - hd0 (p0.get j) < 0) := fun i j => by rw [hcf]; rfl
  have hinj : ∀ i j : Fin p0.length, hd0 (p0.get i) = hd0 (p0.get j) → i = j := fun i j e => by
    have hp := List.pairwise_iff_getElem.1 hnd
    refine Fin.ext ?_
    rcases Nat.lt_trichotomy i.1 j.1 with g | g | g
    · exact absurd (by simpa using e) (hp i.1 j.1 (by simp) (by simp) g)
    · exact g
    · exact absurd (by simpa using e.symm) (hp j.1 i.1 (by simp) (by simp) g)
  have hO : SWO (Go.Proofs.ltOf cf) := ⟨fun i => by rw [hlt]; simp, fun i j k g1 g2 => by rw [hlt] at *; simp at *; omega, fun i j k g1 g2 => by rw [hlt] at *; simp at *; omega⟩
  have hT : ∀ i j, Go.Proofs.ltOf cf i j = false → Go.Proofs.ltOf cf j i = false → i = j := fun i j g1 g2 => hinj i j (by rw [hlt] at *; simp at *; omega)
  have hcmp : CmpReads Try.prog 76 #[] enc cf b off p0.length s.w := fun m os dk hdk i j => by
    obtain ⟨bi, oi, ci, ei, li, gi⟩ := hel i
    obtain ⟨bj, oj, cj, ej, lj, gj⟩ := hel j
    have hW : ∀ b', b' < s.w.heap.size → b' ≠ b → (sortWorld enc s.w b off m dk os).heap[b']? = s.w.heap[b']? := fun b' h1 h2 => put_other h1 h2
    have hci := hne _ (hin i)
    have hcj := hne _ (hin j)
    have hw : hd0 (p0.get i) - hd0 (p0.get j) = cf i j := by rw [hcf]
    have hq := first_cmp bi oi _ ci bj oj _ cj _ _ _ (gi _ hW) (gj _ hW) li lj hci.2 hcj.2
    rw [hw] at hq
    rw [henc]
    dsimp only
    rw [ei, ej]
    rw [henc] at hq
    exact hq
  have eg : ∀ args w, (callFunc 76 args).run Try.prog w = .ok (.enter 76 args) w := enters_of Try.func76 (by kernel_rfl) rfl
  have hd : ∀ j (g : j < vs.length), enc ((List.finRange p0.length).toArray[j]!) = vs[j] := fun j g => by
    have e := getElem!_pos (List.finRange p0.length).toArray j (by simp; omega)
    rw [e, henc]
    simp
  have hS := Any.slices_SortFunc_total Try.sortL enc (fun i => by obtain ⟨bi, oi, ci, ei, _⟩ := hel i; rw [henc]; dsimp only; rw [ei]; rfl) cf hO 76 #[] b off c1 (List.finRange p0.length).toArray s.w eg (by have := hcmp.lays; simpa using this) (h.holds (by simp [hlen]) hd) hb (by simp; omega) hT
  have hsz : (List.finRange p0.length).toArray.size = p0.length := by simp
  rw [hsz] at hS
  have hS : Calls Try.prog 75 #[.slice (some ⟨b, off, none⟩) p0.length c1, .func (.func 76) #[] #[]] s.w _ := hS
  refine hS.mono ?_
  rintro e w' ⟨rfl, hw⟩
  have hfun : (fun x y : Fin p0.length => !(Go.Proofs.ltOf cf) y x) = fun x y => !decide (hd0 (p0.get y) - hd0 (p0.get x) < 0) := by funext x y; rw [hlt]
  rw [hfun] at hw
  obtain ⟨s', hw', hm, hr⟩ := h.put rfl zt0 (ys := ((List.finRange p0.length).mergeSort fun x y => !decide (hd0 (p0.get y) - hd0 (p0.get x) < 0)).map p0.get) (d := ((List.finRange p0.length).mergeSort fun x y => !decide (hd0 (p0.get y) - hd0 (p0.get x) < 0)).toArray) (enc := enc) (by simp) (by simp) (fun j hj h2 => by
    have e := getElem!_pos ((List.finRange p0.length).mergeSort fun x y => !decide (hd0 (p0.get y) - hd0 (p0.get x) < 0)).toArray j hj
    rw [e, List.getElem_map, henc]
    exact h.rd _ _ _) (by obtain ⟨n, os, hw⟩ := hw; exact ⟨n, os, hw⟩)
  have hrl : (((List.finRange p0.length).mergeSort fun x y => !decide (hd0 (p0.get y) - hd0 (p0.get x) < 0)).map p0.get).length = p0.length := by simp
  exact ⟨_, s', hw', rfl, hm, rfl, hr⟩
end Go.Proofs.Ythchkddhibhenaa

