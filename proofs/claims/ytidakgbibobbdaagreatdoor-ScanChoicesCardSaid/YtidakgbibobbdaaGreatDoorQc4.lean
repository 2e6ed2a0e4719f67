/- Parts of the proof, without what nothing here names. -/
import Derived.Test.YtidakgbibobbdaaGreatDoorProg
import Derived.Test.YtidakgbibobbdaaGreatDoorQc3
set_option maxRecDepth 100000
set_option maxHeartbeats 8000000
namespace Go.Proofs.YtidakgbibobbdaaGreatDoor
open Go Go.RowKit
noncomputable section
def y1c (st17 : Int) : Option (Int ⊕ (Unit ⊕ Int)) :=
 some (.inl (W (st17 + 1)))
def y1d (p0 : AutT) (st17 : Int) : Option (Int ⊕ (Unit ⊕ Int)) :=
 if decide (st17 < (p0.2.2.2.length : Int)) then
  (idx p0.2.2.2 st17).bind fun x24 =>
  if ((((decide (x24.1 < 0)) || (decide (x24.1 ≥ p0.2.1))) || (decide (x24.2.2 < 0))) || (decide (x24.2.2 ≥ p0.2.1))) then
   some (.inr (.inr (2)))
  else
   (yA p0.1 x24.2.1).bind fun r31 =>
   if (!r31) then
    some (.inr (.inr (9)))
   else
    if (st17 == 0) then
     y1c st17
    else
     (idx p0.2.2.2 (W (st17 - 1))).bind fun x32 =>
     if ((decide (x24.1 < x32.1)) || ((x24.1 == x32.1) && (decide (x24.2.1 ≤ x32.2.1)))) then
      some (.inr (.inr (5)))
     else
      y1c st17
 else
  some (.inr (.inl ()))
def y2H (p0 : AutT) : Option Int :=
 (iter (y1d p0) 0).bind fun o17 =>
 match o17 with
 | .inl u19 =>
  some 0
 | .inr (u21) =>
  some u21
theorem y6J {p0 : AutT} {r : Int} (hm : y2H p0 = some r) :
  Fw Tryz.prog 103 ⟨0, []⟩ [.a [lF qI p0.1, lI p0.2.1, lF qI p0.2.2.1, lF qT p0.2.2.2]] [] (.i r) [] := by
 unfold y2H at hm
 refine Fw.mk' Tryz.func103 R Tryz.ntmps103 R R (fun C => ?_) R R
 refine .seq (.reg (.op (O.box 0 R Z R R R) R (.sa R (.nil (.seqN (.seq (.seq (.reg (.op (O.faP yz Z R R) R (.op (O.ld nag23 Z R (.B R) R R) R (.op (O.len sl23 Z R R) R (.mv R (.nil (.seqN (.block (bS hm fun o17 eo17 hm => ?_))))))))))))))))
 refine .cutU (z := .exit 0) (fun u19 => .inl u19 = o17) (fun (u19 : Unit) => ⟨[], [], 0⟩) ?_ fun K20 => ?_
 ·rintro u19 rfl
  dsimp only at hm
  refine .blkE (.seqN (.seq (.reg (.sa R (.nil (.seqN (.ret ?_)))))))
  obtain rfl := oi hm
  exact WX.rt [] (.inl R) Tryz.results103 (.tmp R .nil) R (fun _ _ _ h => h) trivial
 refine .cutU (z := .ret) (fun u21 => .inr (u21) = o17) (fun (u21 : Int) => ⟨[(2, .i u21)], [], 0⟩) ?_ fun K22 => ?_
 ·rintro u21 rfl
  dsimp only at hm
  refine .blkR (.seqR ?_)
  obtain rfl := oi hm
  exact WX.rt [] (.inl R) Tryz.results103 (.tmp R .nil) R (fun _ _ _ h => h) trivial
 refine .iter (fun (st17 : Int) => ⟨[(9, .i st17), (8, .i (p0.2.2.2.length : Int)), (7, .f qT p0.2.2.2), (1, .q 0 0)], [(0, .bx 25 [lF qI p0.1, lI p0.2.1, lF qI p0.2.2.1, lF qT p0.2.2.2])], 1⟩) eo17 [] R ?_
 intro st17 res17 hm ih17 ho17
 unfold y1d at hm
 refine .seq (.reg (.bi R (.nil (.seqN (.seq ?_)))))
 rcases ifS hm with ⟨hc, hm⟩ | ⟨hc, hm⟩
 ·refine .cT R hc ?_
  refine .skip (.seqN ?_)
  refine .join0 (y1c st17 = some res17) (⟨[(9, .i st17), (8, .i (p0.2.2.2.length : Int)), (7, .f qT p0.2.2.2), (1, .q 0 0)], [(0, .bx 25 [lF qI p0.1, lI p0.2.1, lF qI p0.2.2.1, lF qT p0.2.2.2])], 1⟩) ?_ ?_
  ·intro hm
   unfold y1c at hm
   exact .reg (.bi R (.mv R (.nil ((ih17 _ (oi hm).symm).sub [] R))))
  ·intro Jj23
   refine .block (.seq (.reg (.mv R (bS hm fun x24 ex24 hm => .op (O.ix sl23 Z R R ex24 R) R (.op (O.lg (l' := [lI x24.1, lI x24.2.1, lI x24.2.2]) ag97 Z R (.E lv97) R R R) R (.op (O.al 1 R zz97 R Z R) R (.sa R (.op (O.st ag97.sz Z R R R R R) R (.nil (.seqN (.seq (.block (.seq (.reg (.op (O.faP y3C Z R R) R (.op (O.ld nag3 Z R (.B R) R R) R (.bi R (.mv R ?_))))))))))))))))))
   refine .cut 6 (fun (v25 : Bool) => ((decide (x24.1 < 0)) || (decide (x24.1 ≥ p0.2.1))) = v25) (fun v25 => ⟨[(24, .b v25), (3, .i st17), (4, .q 1 0), (9, .i st17), (8, .i (p0.2.2.2.length : Int)), (7, .f qT p0.2.2.2), (1, .q 0 0)], [(1, .bx 97 [lI x24.1, lI x24.2.1, lI x24.2.2]), (0, .bx 25 [lF qI p0.1, lI p0.2.1, lF qI p0.2.2.1, lF qT p0.2.2.2])], 2⟩) ?_ ?_
   ·rintro _ rfl
    refine .mv R ?_
    refine .cut 4 (fun (v27 : Bool) => (((decide (x24.1 < 0)) || (decide (x24.1 ≥ p0.2.1))) || (decide (x24.2.2 < 0))) = v27) (fun v27 => ⟨[(29, .b v27), (3, .i st17), (4, .q 1 0), (9, .i st17), (8, .i (p0.2.2.2.length : Int)), (7, .f qT p0.2.2.2), (1, .q 0 0)], [(1, .bx 97 [lI x24.1, lI x24.2.1, lI x24.2.2]), (0, .bx 25 [lF qI p0.1, lI p0.2.1, lF qI p0.2.2.1, lF qT p0.2.2.2])], 2⟩) ?_ ?_
    ·rintro _ rfl
     refine .mv R ?_
     refine .cut 6 (fun (v29 : Bool) => ((((decide (x24.1 < 0)) || (decide (x24.1 ≥ p0.2.1))) || (decide (x24.2.2 < 0))) || (decide (x24.2.2 ≥ p0.2.1))) = v29) (fun v29 => ⟨[(36, .b v29), (3, .i st17), (4, .q 1 0), (9, .i st17), (8, .i (p0.2.2.2.length : Int)), (7, .f qT p0.2.2.2), (1, .q 0 0)], [(1, .bx 97 [lI x24.1, lI x24.2.1, lI x24.2.2]), (0, .bx 25 [lF qI p0.1, lI p0.2.1, lF qI p0.2.2.1, lF qT p0.2.2.2])], 2⟩) ?_ ?_
     ·rintro _ rfl
      refine .sa R (.nil (.seqN ?_))
      rcases ifS hm with ⟨hc, hm⟩ | ⟨hc, hm⟩
      ·refine .cT R hc ?_
       exact .seq (.reg (.sa R (.nil (.seqN (.ret (.blkR (.seqR (.blkR (.seqR (.seqR ((K22 _ (ho17 _ (oi hm).symm)).sub [] R)))))))))))
      ·refine .cF R hc ?_
       refine .seq (.reg (.op (O.faP y1D Z R R) R (.op (O.ld nag22 Z R (.B R) R R) R (.op (O.faP y4D Z R R) R (.op (O.ld nag3 Z R (.B R) R R) R (bS hm fun r31 er31 hm => .op (O.ca0 (y3m er31) cf84 R R Z R R R) R (.op (O.not Z R R) R (.sa R (.nil (.seqN ?_))))))))))
       rcases ifS hm with ⟨hc, hm⟩ | ⟨hc, hm⟩
       ·refine .cT R hc ?_
        exact .seq (.reg (.sa R (.nil (.seqN (.ret (.blkR (.seqR (.blkR (.seqR (.seqR ((K22 _ (ho17 _ (oi hm).symm)).sub [] R)))))))))))
       ·refine .cF R hc ?_
        refine .skip (.blkN (.seqN (.seq (.seq (.reg (.mv R (.bi R (.nil (.seqN ?_)))))))))
        rcases ifS hm with ⟨hc, hm⟩ | ⟨hc, hm⟩
        ·refine .cT R hc ?_
         exact .exit (.seqX (.blkE ((Jj23 hm).sub [] R)))
        ·refine .cF R hc ?_
         refine .skip (.seqN (.seq (.reg (.op (O.faP yz Z R R) R (.op (O.ld nag23 Z R (.B R) R R) R (.mv R (.bi R (bS hm fun x32 ex32 hm => .op (O.ix sl23 Z R R ex32 R) R (.op (O.lg (l' := [lI x32.1, lI x32.2.1, lI x32.2.2]) ag97 Z R (.E lv97) R R R) R (.op (O.al 2 R zz97 R Z R) R (.op (O.st ag97.sz Z R R R R R) R (.nil (.seqN (.seq (.reg (.op (O.faP y3C Z R R) R (.op (O.ld nag3 Z R (.B R) R R) R (.op (O.faP y3C Z R R) R (.op (O.ld nag3 Z R (.B R) R R) R (.bi R (.mv R ?_)))))))))))))))))))))
         refine .cut 13 (fun (v33 : Bool) => ((decide (x24.1 < x32.1)) || ((x24.1 == x32.1) && (decide (x24.2.1 ≤ x32.2.1)))) = v33) (fun v33 => ⟨[(70, .b v33), (9, .i st17), (8, .i (p0.2.2.2.length : Int)), (7, .f qT p0.2.2.2), (1, .q 0 0)], [(0, .bx 25 [lF qI p0.1, lI p0.2.1, lF qI p0.2.2.1, lF qT p0.2.2.2])], 3⟩) ?_ ?_
         ·rintro _ rfl
          refine .nil (.seqN ?_)
          rcases ifS hm with ⟨hc, hm⟩ | ⟨hc, hm⟩
          ·refine .cT R hc ?_
           exact .seq (.reg (.sa R (.nil (.seqN (.ret (.blkR (.seqR (.seqR ((K22 _ (ho17 _ (oi hm).symm)).sub [] R)))))))))
          ·refine .cF R hc ?_
           exact .skip (.blkN ((Jj23 hm).sub [] R))
         ·intro J34
          rcases Bool.eq_false_or_eq_true (decide (x24.1 < x32.1)) with hc | hc
          ·refine .know (d := 57) R hc ?_
           exact .sk R (.sk R (.sk R (.sk R (.sk R (.sk R (.op (O.skipU R R R) R (.op (O.skipU R R R) R (.op (O.skipU R R R) R (.op (O.skipU R R R) R (.op (O.skipU R R R) R (.sk R (.op (O.pkT Z R R R R) R ((J34 true (orT hc).symm).sub [] R)))))))))))))
          ·refine .know (d := 57) R hc ?_
           refine .op (O.faP y3C (Gu.mk R R) R R) R (.op (O.ld nag3 (Gu.mk R R) R (.B R) R R) R (.op (O.faP y3C (Gu.mk R R) R R) R (.op (O.ld nag3 (Gu.mk R R) R (.B R) R R) R (.op (O.bi (Gu.mk R R) R R R R) R (.op (O.mv (Gu.mk R R) R R) R ?_)))))
           refine .cut 6 (fun (v35 : Bool) => ((x24.1 == x32.1) && (decide (x24.2.1 ≤ x32.2.1))) = v35) (fun v35 => ⟨[(69, .b v35), (57, .b false), (9, .i st17), (8, .i (p0.2.2.2.length : Int)), (7, .f qT p0.2.2.2), (1, .q 0 0)], [(0, .bx 25 [lF qI p0.1, lI p0.2.1, lF qI p0.2.2.1, lF qT p0.2.2.2])], 3⟩) ?_ ?_
           ·rintro _ rfl
            exact .op (O.pkF Z R R R R) R ((J34 ((x24.1 == x32.1) && (decide (x24.2.1 ≤ x32.2.1))) (orF hc).symm).sub [] R)
           ·intro J36
            rcases Bool.eq_false_or_eq_true (x24.1 == x32.1) with hc | hc
            ·refine .know (d := 63) R hc ?_
             exact .op (O.faP y4D (Gu.mk R R) R R) R (.op (O.ld nag3 (Gu.mk R R) R (.B R) R R) R (.op (O.faP y4D (Gu.mk R R) R R) R (.op (O.ld nag3 (Gu.mk R R) R (.B R) R R) R (.op (O.bi (Gu.mk R R) R R R R) R (.op (O.pkT (Gu.mk R R) R R R R) R ((J36 (decide (x24.2.1 ≤ x32.2.1)) (andT hc).symm).sub [] R))))))
            ·refine .know (d := 63) R hc ?_
             exact .sk R (.sk R (.sk R (.sk R (.sk R (.op (O.pkF (Gu.mk R R) R R R R) R ((J36 false (andF hc).symm).sub [] R))))))
     ·intro J30
      rcases Bool.eq_false_or_eq_true (((decide (x24.1 < 0)) || (decide (x24.1 ≥ p0.2.1))) || (decide (x24.2.2 < 0))) with hc | hc
      ·refine .know (d := 30) R hc ?_
       exact .sk R (.sk R (.sk R (.sk R (.sk R (.op (O.pkT Z R R R R) R ((J30 true (orT hc).symm).sub [] R))))))
      ·refine .know (d := 30) R hc ?_
       exact .op (O.faP y4E (Gu.mk R R) R R) R (.op (O.ld nag3 (Gu.mk R R) R (.B R) R R) R (.op (O.faP yW (Gu.mk R R) R R) R (.op (O.ld nag3 (Gu.mk R R) R (.B R) R R) R (.op (O.bi (Gu.mk R R) R R R R) R (.op (O.pkF Z R R R R) R ((J30 (decide (x24.2.2 ≥ p0.2.1)) (orF hc).symm).sub [] R))))))
    ·intro J28
     rcases Bool.eq_false_or_eq_true ((decide (x24.1 < 0)) || (decide (x24.1 ≥ p0.2.1))) with hc | hc
     ·refine .know (d := 25) R hc ?_
      exact .sk R (.sk R (.sk R (.op (O.pkT Z R R R R) R ((J28 true (orT hc).symm).sub [] R))))
     ·refine .know (d := 25) R hc ?_
      exact .op (O.faP y4E (Gu.mk R R) R R) R (.op (O.ld nag3 (Gu.mk R R) R (.B R) R R) R (.op (O.bi (Gu.mk R R) R R R R) R (.op (O.pkF Z R R R R) R ((J28 (decide (x24.2.2 < 0)) (orF hc).symm).sub [] R))))
   ·intro J26
    rcases Bool.eq_false_or_eq_true (decide (x24.1 < 0)) with hc | hc
    ·refine .know (d := 18) R hc ?_
     exact .sk R (.sk R (.sk R (.sk R (.sk R (.op (O.pkT Z R R R R) R ((J26 true (orT hc).symm).sub [] R))))))
    ·refine .know (d := 18) R hc ?_
     exact .op (O.faP y3C (Gu.mk R R) R R) R (.op (O.ld nag3 (Gu.mk R R) R (.B R) R R) R (.op (O.faP yW (Gu.mk R R) R R) R (.op (O.ld nag3 (Gu.mk R R) R (.B R) R R) R (.op (O.bi (Gu.mk R R) R R R R) R (.op (O.pkF Z R R R R) R ((J26 (decide (x24.1 ≥ p0.2.1)) (orF hc).symm).sub [] R))))))
 ·refine .cF R hc ?_
  exact .exit (.seqX (.seqX ((K20 _ (ho17 _ (oi hm).symm)).sub [] R)))
def yH (p0 : AutT) : Option Int :=
 (yY p0.1 32).bind fun r1 =>
 if (r1 != 0) then
  some r1
 else
  if decide (p0.2.1 < 0) then
   some 2
  else
   if decide (p0.2.1 > 4096) then
    some 3
   else
    (yY p0.2.2.1 p0.2.1).bind fun r2 =>
    if (r2 != 0) then
     some r2
    else
     (y2H p0).bind fun r3 =>
     some r3
theorem y2F {p0 : AutT} {r : Int} (hm : yH p0 = some r) :
  Fw Tryz.prog 51 ⟨0, []⟩ [.a [lF qI p0.1, lI p0.2.1, lF qI p0.2.2.1, lF qT p0.2.2.2]] [] (.i r) [] := by
 unfold yH at hm
 refine Fw.mk' Tryz.func51 R Tryz.ntmps51 R R (fun C => ?_) R R
 refine .seq (.reg (.op (O.box 0 R Z R R R) R (.sa R (.nil (.seqN (.seq (.seq (.reg (.op (O.faP y1D Z R R) R (.op (O.ld nag22 Z R (.B R) R R) R (bS hm fun r1 er1 hm => .op (O.ca0 (y5j er1) cf102 R R Z R R R) R (.sa R (.nil (.seqN (.seq (.reg (.mv R (.bi R (.nil (.seqN ?_))))))))))))))))))))
 rcases ifS hm with ⟨hc, hm⟩ | ⟨hc, hm⟩
 ·refine .cT R hc ?_
  refine .seq (.reg (.mv R (.sa R (.nil (.seqN (.ret (.seqR ?_)))))))
  obtain rfl := oi hm
  exact WX.rt [] (.inl R) Tryz.results51 (.tmp R .nil) R (fun _ _ _ h => h) trivial
 ·refine .cF R hc ?_
  refine .skip (.seqN (.seq (.block (.seq (.reg (.op (O.faP yW Z R R) R (.op (O.ld nag3 Z R (.B R) R R) R (.bi R (.sa R (.nil (.seqN ?_)))))))))))
  rcases ifS hm with ⟨hc, hm⟩ | ⟨hc, hm⟩
  ·refine .cT R hc ?_
   refine .seq (.reg (.sa R (.nil (.seqN (.ret (.blkR (.seqR ?_)))))))
   obtain rfl := oi hm
   exact WX.rt [] (.inl R) Tryz.results51 (.tmp R .nil) R (fun _ _ _ h => h) trivial
  ·refine .cF R hc ?_
   refine .seq (.reg (.op (O.faP yW Z R R) R (.op (O.ld nag3 Z R (.B R) R R) R (.bi R (.sa R (.nil (.seqN ?_)))))))
   rcases ifS hm with ⟨hc, hm⟩ | ⟨hc, hm⟩
   ·refine .cT R hc ?_
    refine .seq (.reg (.sa R (.nil (.seqN (.ret (.blkR (.seqR ?_)))))))
    obtain rfl := oi hm
    exact WX.rt [] (.inl R) Tryz.results51 (.tmp R .nil) R (fun _ _ _ h => h) trivial
   ·refine .cF R hc ?_
    refine .skip (.blkN (.seqN (.seq (.seq (.reg (.op (O.faP y2N Z R R) R (.op (O.ld nag22 Z R (.B R) R R) R (.op (O.faP yW Z R R) R (.op (O.ld nag3 Z R (.B R) R R) R (bS hm fun r2 er2 hm => .op (O.ca0 (y5j er2) cf102 R R Z R R R) R (.sa R (.nil (.seqN (.seq (.reg (.mv R (.bi R (.nil (.seqN ?_)))))))))))))))))))
    rcases ifS hm with ⟨hc, hm⟩ | ⟨hc, hm⟩
    ·refine .cT R hc ?_
     refine .seq (.reg (.mv R (.sa R (.nil (.seqN (.ret (.seqR ?_)))))))
     obtain rfl := oi hm
     exact WX.rt [] (.inl R) Tryz.results51 (.tmp R .nil) R (fun _ _ _ h => h) trivial
    ·refine .cF R hc ?_
     refine .skip (.seqN (.seq (.reg (.op (O.lg (l' := [lF qI p0.1, lI p0.2.1, lF qI p0.2.2.1, lF qT p0.2.2.2]) ag25 Z R (.B R) R R R) R (bS hm fun r3 er3 hm => .op (O.ca0 (y6J er3) cf103 R R Z R R R) R (.sa R (.nil (.seqN (.ret ?_)))))))))
     obtain rfl := oi hm
     exact WX.rt [] (.inl R) Tryz.results51 (.tmp R .nil) R (fun _ _ _ h => h) trivial
def yw (p2 : Bool → Bool → Option Bool) (st33 : List Int × List Int × List Int) (b38 : Bool) (b40 : Bool) (l42 : List Int) (l45 : List Int) (n46 : Int) : Option ((List Int × List Int × List Int) ⊕ (List Int)) :=
 (p2 b38 b40).bind fun r48 =>
 if r48 then
  (app st33.1 ([n46] : List Int)).bind fun x49 =>
  some (.inl (x49, l42, l45))
 else
  some (.inl (st33.1, l42, l45))
def yl (p2 : Bool → Bool → Option Bool) (st33 : List Int × List Int × List Int) (b38 : Bool) (b40 : Bool) (l42 : List Int) (n43 : Int) : Option ((List Int × List Int × List Int) ⊕ (List Int)) :=
 if b40 then
  (idx st33.2.2 0).bind fun x50 =>
  (slc st33.2.2 1 (st33.2.2.length : Int)).bind fun x51 =>
  yw p2 st33 b38 b40 l42 x51 x50
 else
  yw p2 st33 b38 b40 l42 st33.2.2 n43
def yq (p2 : Bool → Bool → Option Bool) (st33 : List Int × List Int × List Int) (b38 : Bool) (b40 : Bool) : Option ((List Int × List Int × List Int) ⊕ (List Int)) :=
 if b38 then
  (idx st33.2.1 0).bind fun x52 =>
  (slc st33.2.1 1 (st33.2.1.length : Int)).bind fun x53 =>
  yl p2 st33 b38 b40 x53 x52
 else
  yl p2 st33 b38 b40 st33.2.1 0
def yx (p2 : Bool → Bool → Option Bool) (st33 : List Int × List Int × List Int) (b38 : Bool) : Option ((List Int × List Int × List Int) ⊕ (List Int)) :=
 if decide ((st33.2.2.length : Int) > 0) then
  if ((st33.2.1.length : Int) == 0) then
   yq p2 st33 b38 true
  else
   (idx st33.2.2 0).bind fun x56 =>
   (idx st33.2.1 0).bind fun x57 =>
   yq p2 st33 b38 (decide (x56 ≤ x57))
 else
  yq p2 st33 b38 false
def ym (p2 : Bool → Bool → Option Bool) (st33 : List Int × List Int × List Int) : Option ((List Int × List Int × List Int) ⊕ (List Int)) :=
 if ((decide ((st33.2.1.length : Int) > 0)) || (decide ((st33.2.2.length : Int) > 0))) then
  if decide ((st33.2.1.length : Int) > 0) then
   if ((st33.2.2.length : Int) == 0) then
    yx p2 st33 true
   else
    (idx st33.2.1 0).bind fun x60 =>
    (idx st33.2.2 0).bind fun x61 =>
    yx p2 st33 (decide (x60 ≤ x61))
  else
   yx p2 st33 false
 else
  some (.inr st33.1)
def y2i (p0 : List Int) (p1 : List Int) (p2 : Bool → Bool → Option Bool) : Option (List Int) :=
 (iter (ym p2) (([] : List Int), p0, p1)).bind fun o33 =>
 some o33
theorem y4Q {p0 : List Int} {p1 : List Int} {p2 : Bool → Bool → Option Bool} {r : List Int} (hm : y2i p0 p1 p2 = some r) :
  Fw Tryz.prog 72 ⟨0, []⟩ [.f qI p0, .f qI p1, .o (lW Tryz.prog (fun (x : Bool × Bool) => [.b x.1, .b x.2]) (fun (r : Bool) => .b r) (fun x => p2 x.1 x.2))] [] (.h 0) [ROW qI 3 r] := by
 unfold y2i at hm
 refine Fw.mk' Tryz.func72 R Tryz.ntmps72 R R (fun C => ?_) R R
 refine .seq (.reg (.sa R (.nil (.seqN (.seq (.reg (.sa R (.nil (.seqN (.seq (.block (bS hm fun o33 eo33 hm => ?_))))))))))))
 refine .cut1 (z := .exit 0) o33 (fun (o33 : List Int) => ⟨[(7, .h 0)], [(0, ROW qI 3 o33)], 1⟩) ?_ fun K35 => ?_
 ·skip
  refine .blkE (.seqN (.seq (.reg (.mv R (.sa R (.nil (.seqN (.ret ?_))))))))
  obtain rfl := oi hm
  exact WX.rt [0] (.inl R) Tryz.results72 (.tmp R .nil) R (fun _ _ _ h => h) ⟨⟨_, R, fun _ _ _ _ h => h⟩, trivial⟩
 refine .nlg qI 3 7 0 R R (.iter (fun (st33 : List Int × List Int × List Int) => ⟨[(7, .h 0), (0, .f qI st33.2.1), (1, .f qI st33.2.2), (2, .o (lW Tryz.prog (fun (x : Bool × Bool) => [.b x.1, .b x.2]) (fun (r : Bool) => .b r) (fun x => p2 x.1 x.2)))], [(0, ROW qI 3 st33.1)], 1⟩) eo33 [] R ?_)
 intro st33 res33 hm ih33 ho33
 unfold ym at hm
 refine .seq (.seq (.reg (.mv R (.op (O.len sl22 Z R R) R (.bi R (.mv R ?_))))))
 refine .cut 4 (fun (v36 : Bool) => ((decide ((st33.2.1.length : Int) > 0)) || (decide ((st33.2.2.length : Int) > 0))) = v36) (fun v36 => ⟨[(18, .b v36), (7, .h 0), (0, .f qI st33.2.1), (1, .f qI st33.2.2), (2, .o (lW Tryz.prog (fun (x : Bool × Bool) => [.b x.1, .b x.2]) (fun (r : Bool) => .b r) (fun x => p2 x.1 x.2)))], [(0, ROW qI 3 st33.1)], 1⟩) ?_ ?_
 ·rintro _ rfl
  refine .nil (.seqN ?_)
  rcases ifS hm with ⟨hc, hm⟩ | ⟨hc, hm⟩
  ·refine .cT R hc ?_
   refine .skip (.seqN (.block ?_))
   refine .join1 (fun (b38 : Bool) => yx p2 st33 b38 = some res33) (fun b38 => ⟨[(8, .b b38), (7, .h 0), (0, .f qI st33.2.1), (1, .f qI st33.2.2), (2, .o (lW Tryz.prog (fun (x : Bool × Bool) => [.b x.1, .b x.2]) (fun (r : Bool) => .b r) (fun x => p2 x.1 x.2)))], [(0, ROW qI 3 st33.1)], 1⟩) ?_ ?_
   ·intro b38 hm
    unfold yx at hm
    refine .join1 (fun (b40 : Bool) => yq p2 st33 b38 b40 = some res33) (fun b40 => ⟨[(9, .b b40), (8, .b b38), (7, .h 0), (0, .f qI st33.2.1), (1, .f qI st33.2.2), (2, .o (lW Tryz.prog (fun (x : Bool × Bool) => [.b x.1, .b x.2]) (fun (r : Bool) => .b r) (fun x => p2 x.1 x.2)))], [(0, ROW qI 3 st33.1)], 1⟩) ?_ ?_
    ·intro b40 hm
     unfold yq at hm
     refine .seq (.reg (.sa R (.nil (.seqN ?_))))
     refine .join2 (fun (l42 : List Int) (n43 : Int) => yl p2 st33 b38 b40 l42 n43 = some res33) (fun l42 n43 => ⟨[(0, .f qI l42), (10, .i n43), (9, .b b40), (8, .b b38), (7, .h 0), (1, .f qI st33.2.2), (2, .o (lW Tryz.prog (fun (x : Bool × Bool) => [.b x.1, .b x.2]) (fun (r : Bool) => .b r) (fun x => p2 x.1 x.2)))], [(0, ROW qI 3 st33.1)], 1⟩) ?_ ?_
     ·intro l42 n43 hm
      unfold yl at hm
      refine .join2 (fun (l45 : List Int) (n46 : Int) => yw p2 st33 b38 b40 l42 l45 n46 = some res33) (fun l45 n46 => ⟨[(1, .f qI l45), (10, .i n46), (0, .f qI l42), (9, .b b40), (8, .b b38), (7, .h 0), (2, .o (lW Tryz.prog (fun (x : Bool × Bool) => [.b x.1, .b x.2]) (fun (r : Bool) => .b r) (fun x => p2 x.1 x.2)))], [(0, ROW qI 3 st33.1)], 1⟩) ?_ ?_
      ·intro l45 n46 hm
       unfold yw at hm
       refine .seq (.reg (.mv R (.mv R (.mv R (bS hm fun r48 er48 hm => ?_)))))
       refine .op (O.fv (y := (b38, b40)) R R R Z R er48 R R) R ?_
       refine .nil (.seqN ?_)
       rcases ifS hm with ⟨hc, hm⟩ | ⟨hc, hm⟩
       ·refine .cT R hc ?_
        exact .reg (.mv R (.mv R (.op (O.bsF (r := qI) (zs := ([n46] : List Int)) bs22 R R Z R R R (.c .k .n) R R R) R (bS hm fun x49 ex49 hm => .op (O.ap 1 Tryz.underlying22 el3 R R Z R R (.fr R) ex49 R) R (.sa R (.nil (.blkN ((ih33 _ (oi hm).symm).sub [(0, 1)] R))))))))
       ·refine .cF R hc ?_
        exact .skip (.blkN ((ih33 _ (oi hm).symm).sub [] R))
      ·intro Jj47
       refine .seq (.reg (.mv R (.nil (.seqN ?_))))
       rcases ifS hm with ⟨hc, hm⟩ | ⟨hc, hm⟩
       ·refine .cT R hc ?_
        refine .sub (τ := ⟨[(0, .f qI l42), (9, .b b40), (8, .b b38), (7, .h 0), (1, .f qI st33.2.2), (2, .o (lW Tryz.prog (fun (x : Bool × Bool) => [.b x.1, .b x.2]) (fun (r : Bool) => .b r) (fun x => p2 x.1 x.2)))], [(0, ROW qI 3 st33.1)], 1⟩) ?_ [] R
        refine bS hm fun x50 ex50 hm => bS hm fun x51 ex51 hm => ?_
        refine .drg 1 [(1, []), (1, [oT]), (1, [oT, oT]), (1, []), (1, [oF, oF, oF, oT]), (1, [oT, oT, oT]), (1, [oT, oT, oT, oT, oT, oT])] [_, _, _, _, _, _, _] ⟨[(1, .f qI x51), (10, .i x50), (0, .f qI l42), (9, .b b40), (8, .b b38), (7, .h 0), (2, .o (lW Tryz.prog (fun (x : Bool × Bool) => [.b x.1, .b x.2]) (fun (r : Bool) => .b r) (fun x => p2 x.1 x.2)))], [(0, ROW qI 3 st33.1)], 1⟩ ⟨O.mv Z R R, O.ix sl22 Z R R ex50 R, O.ld nag3 Z R (.E lv3) R R, O.mv Z R R, O.sf sl22 Z R R ex51 R, O.as Z R R, O.as Z R R, trivial⟩ (by kernel_rfl) R ?_
        exact (Jj47 _ _ hm).sub [] R
       ·refine .cF R hc ?_
        exact .skip ((Jj47 _ _ hm).sub [] R)
     ·intro Jj44
      refine .seq (.reg (.mv R (.nil (.seqN ?_))))
      rcases ifS hm with ⟨hc, hm⟩ | ⟨hc, hm⟩
      ·refine .cT R hc ?_
       refine .sub (τ := ⟨[(9, .b b40), (8, .b b38), (7, .h 0), (0, .f qI st33.2.1), (1, .f qI st33.2.2), (2, .o (lW Tryz.prog (fun (x : Bool × Bool) => [.b x.1, .b x.2]) (fun (r : Bool) => .b r) (fun x => p2 x.1 x.2)))], [(0, ROW qI 3 st33.1)], 1⟩) ?_ [] R
       refine bS hm fun x52 ex52 hm => bS hm fun x53 ex53 hm => ?_
       refine .drg 1 [(1, []), (1, [oT]), (1, [oT, oT]), (1, []), (1, [oF, oF, oF, oT]), (1, [oT, oT, oT]), (1, [oT, oT, oT, oT, oT, oT])] [_, _, _, _, _, _, _] ⟨[(0, .f qI x53), (10, .i x52), (9, .b b40), (8, .b b38), (7, .h 0), (1, .f qI st33.2.2), (2, .o (lW Tryz.prog (fun (x : Bool × Bool) => [.b x.1, .b x.2]) (fun (r : Bool) => .b r) (fun x => p2 x.1 x.2)))], [(0, ROW qI 3 st33.1)], 1⟩ ⟨O.mv Z R R, O.ix sl22 Z R R ex52 R, O.ld nag3 Z R (.E lv3) R R, O.mv Z R R, O.sf sl22 Z R R ex53 R, O.as Z R R, O.as Z R R, trivial⟩ (by kernel_rfl) R ?_
       exact (Jj44 _ _ hm).sub [] R
      ·refine .cF R hc ?_
       exact .skip ((Jj44 _ _ hm).sub [] R)
    ·intro Jj41
     refine .sub (τ := ⟨[(8, .b b38), (7, .h 0), (0, .f qI st33.2.1), (1, .f qI st33.2.2), (2, .o (lW Tryz.prog (fun (x : Bool × Bool) => [.b x.1, .b x.2]) (fun (r : Bool) => .b r) (fun x => p2 x.1 x.2)))], [(0, ROW qI 3 st33.1)], 1⟩) ?_ [] R
     rcases ifS hm with ⟨hc54, hm⟩ | ⟨hc54, hm⟩
     ·skip
      rcases ifS hm with ⟨hc55, hm⟩ | ⟨hc55, hm⟩
      ·skip
       refine .drw [(1, []), (1, [oT]), (1, [oT, oT]), (1, [oT, oT, oT]), (1, [oT, oT, oT, oT]), (1, [oT, oT, oT, oT, oT]), (1, [oT, oT, oT, oT, oT, oT]), (1, [oT, oT, oT, oT, oT, oT, oT]), (1, [oT, oT, oT, oT, oT, oT, oT, oT]), (1, [oT, oT, oT, oT, oT, oT, oT, oT, oT]), (1, [oT, oT, oT, oT, oT, oT, oT, oT, oT, oT]), (1, [oT, oT, oT, oT, oT, oT, oT, oT]), (1, [oT, oT, oT, oT, oT, oT, oT, oT, oF, oF, oF, oT]), (1, [oT, oT, oT, oT, oT, oT, oT, oT, oF, oF, oF, oT, oT]), (1, [oT, oT, oT, oT, oT, oT, oT, oT, oT, oT, oT, oT, oT, oT]), (1, [oT, oT, oT, oT, oT, oT, oT, oT, oT, oT, oT, oT, oT, oT, oT]), (1, [oT, oT, oT, oT, oT, oT, oT, oT, oT, oT, oT, oT, oT, oT, oT, oT]), (1, [oT, oT, oT, oT, oT, oT, oT, oT, oT, oT, oT, oT, oT, oT, oT, oT, oT])] [_, _, _, _, _, _, _, _, _, _, _, _, _, _, _, _, _, _] ⟨[(9, .b true), (8, .b b38), (7, .h 0), (0, .f qI st33.2.1), (1, .f qI st33.2.2), (2, .o (lW Tryz.prog (fun (x : Bool × Bool) => [.b x.1, .b x.2]) (fun (r : Bool) => .b r) (fun x => p2 x.1 x.2)))], [(0, ROW qI 3 st33.1)], 1⟩ ⟨O.mv Z R R, O.len sl22 Z R R, O.bi Z R R R R, O.kn (O.mv Z R R) hc54, O.mv (Gu.mk R R) R R, O.len sl22 (Gu.mk R R) R R, O.bi (Gu.mk R R) R R R R, O.kn (O.mv (Gu.mk R R) R R) hc55, O.skip R R R R, O.skip R R R R, O.skip R R R R, O.skip R R R R, O.skip R R R R, O.skip R R R R, O.skip R R R R, O.pkT (Gu.mk R R) R R R R, O.pkT Z R R R R, O.as Z R R, trivial⟩ (by kernel_rfl) R ?_
       exact (Jj41 _ hm).sub [] R
      ·skip
       refine bS hm fun x56 ex56 hm => bS hm fun x57 ex57 hm => ?_
       refine .drw [(1, []), (1, [oT]), (1, [oT, oT]), (1, [oT, oT, oT]), (1, [oT, oT, oT, oT]), (1, [oT, oT, oT, oT, oT]), (1, [oT, oT, oT, oT, oT, oT]), (1, [oT, oT, oT, oT, oT, oT, oT]), (1, [oT, oT, oT, oT, oT, oT, oT, oT]), (1, [oT, oT, oT, oT, oT, oT, oT, oT, oT]), (1, [oT, oT, oT, oT, oT, oT, oT, oT, oT, oT]), (1, [oT, oT, oT, oT, oT, oT, oT, oT]), (1, [oT, oT, oT, oT, oT, oT, oT, oT, oF, oF, oF, oT]), (1, [oT, oT, oT, oT, oT, oT, oT, oT, oF, oF, oF, oT, oT]), (1, [oT, oT, oT, oT, oT, oT, oT, oT, oT, oT, oT, oT, oT, oT]), (1, [oT, oT, oT, oT, oT, oT, oT, oT, oT, oT, oT, oT, oT, oT, oT]), (1, [oT, oT, oT, oT, oT, oT, oT, oT, oT, oT, oT, oT, oT, oT, oT, oT]), (1, [oT, oT, oT, oT, oT, oT, oT, oT, oT, oT, oT, oT, oT, oT, oT, oT, oT])] [_, _, _, _, _, _, _, _, _, _, _, _, _, _, _, _, _, _] ⟨[(9, .b (decide (x56 ≤ x57))), (8, .b b38), (7, .h 0), (0, .f qI st33.2.1), (1, .f qI st33.2.2), (2, .o (lW Tryz.prog (fun (x : Bool × Bool) => [.b x.1, .b x.2]) (fun (r : Bool) => .b r) (fun x => p2 x.1 x.2)))], [(0, ROW qI 3 st33.1)], 1⟩ ⟨O.mv Z R R, O.len sl22 Z R R, O.bi Z R R R R, O.kn (O.mv Z R R) hc54, O.mv (Gu.mk R R) R R, O.len sl22 (Gu.mk R R) R R, O.bi (Gu.mk R R) R R R R, O.kn (O.mv (Gu.mk R R) R R) hc55, O.mv (Gu.mk R R) R R, O.ix sl22 (Gu.mk R R) R R ex56 R, O.ld nag3 (Gu.mk R R) R (.E lv3) R R, O.mv (Gu.mk R R) R R, O.ix sl22 (Gu.mk R R) R R ex57 R, O.ld nag3 (Gu.mk R R) R (.E lv3) R R, O.bi (Gu.mk R R) R R R R, O.pkF (Gu.mk R R) R R R R, O.pkT Z R R R R, O.as Z R R, trivial⟩ (by kernel_rfl) R ?_
       exact (Jj41 _ hm).sub [] R
     ·skip
      refine .drw [(1, []), (1, [oT]), (1, [oT, oT]), (1, [oT, oT, oT]), (1, [oT, oT, oT, oT]), (1, [oT, oT, oT, oT, oT]), (1, [oT, oT, oT, oT, oT, oT]), (1, [oT, oT, oT, oT, oT, oT, oT]), (1, [oT, oT, oT, oT, oT, oT, oT, oT]), (1, [oT, oT, oT, oT, oT, oT, oT, oT, oT]), (1, [oT, oT, oT, oT, oT, oT, oT, oT, oT, oT]), (1, [oT, oT, oT, oT, oT, oT, oT, oT]), (1, [oT, oT, oT, oT, oT, oT, oT, oT, oF, oF, oF, oT]), (1, [oT, oT, oT, oT, oT, oT, oT, oT, oF, oF, oF, oT, oT]), (1, [oT, oT, oT, oT, oT, oT, oT, oT, oT, oT, oT, oT, oT, oT]), (1, [oT, oT, oT, oT, oT, oT, oT, oT, oT, oT, oT, oT, oT, oT, oT]), (1, [oT, oT, oT, oT, oT, oT, oT, oT, oT, oT, oT, oT, oT, oT, oT, oT]), (1, [oT, oT, oT, oT, oT, oT, oT, oT, oT, oT, oT, oT, oT, oT, oT, oT, oT])] [_, _, _, _, _, _, _, _, _, _, _, _, _, _, _, _, _, _] ⟨[(9, .b false), (8, .b b38), (7, .h 0), (0, .f qI st33.2.1), (1, .f qI st33.2.2), (2, .o (lW Tryz.prog (fun (x : Bool × Bool) => [.b x.1, .b x.2]) (fun (r : Bool) => .b r) (fun x => p2 x.1 x.2)))], [(0, ROW qI 3 st33.1)], 1⟩ ⟨O.mv Z R R, O.len sl22 Z R R, O.bi Z R R R R, O.kn (O.mv Z R R) hc54, O.skip R R R R, O.skip R R R R, O.skip R R R R, O.skip R R R R, O.skipU R R R, O.skipU R R R, O.skipU R R R, O.skipU R R R, O.skipU R R R, O.skipU R R R, O.skipU R R R, O.skip R R R R, O.pkF Z R R R R, O.as Z R R, trivial⟩ (by kernel_rfl) R ?_
      exact (Jj41 _ hm).sub [] R
   ·intro Jj39
    refine .sub (τ := ⟨[(7, .h 0), (0, .f qI st33.2.1), (1, .f qI st33.2.2), (2, .o (lW Tryz.prog (fun (x : Bool × Bool) => [.b x.1, .b x.2]) (fun (r : Bool) => .b r) (fun x => p2 x.1 x.2)))], [(0, ROW qI 3 st33.1)], 1⟩) ?_ [] R
    rcases ifS hm with ⟨hc58, hm⟩ | ⟨hc58, hm⟩
    ·skip
     rcases ifS hm with ⟨hc59, hm⟩ | ⟨hc59, hm⟩
     ·skip
      refine .drw [(1, []), (1, [oT]), (1, [oT, oT]), (1, [oT, oT, oT]), (1, [oT, oT, oT, oT]), (1, [oT, oT, oT, oT, oT]), (1, [oT, oT, oT, oT, oT, oT]), (1, [oT, oT, oT, oT, oT, oT, oT]), (1, [oT, oT, oT, oT, oT, oT, oT, oT]), (1, [oT, oT, oT, oT, oT, oT, oT, oT, oT]), (1, [oT, oT, oT, oT, oT, oT, oT, oT, oT, oT]), (1, [oT, oT, oT, oT, oT, oT, oT, oT]), (1, [oT, oT, oT, oT, oT, oT, oT, oT, oF, oF, oF, oT]), (1, [oT, oT, oT, oT, oT, oT, oT, oT, oF, oF, oF, oT, oT]), (1, [oT, oT, oT, oT, oT, oT, oT, oT, oT, oT, oT, oT, oT, oT]), (1, [oT, oT, oT, oT, oT, oT, oT, oT, oT, oT, oT, oT, oT, oT, oT]), (1, [oT, oT, oT, oT, oT, oT, oT, oT, oT, oT, oT, oT, oT, oT, oT, oT]), (1, [oT, oT, oT, oT, oT, oT, oT, oT, oT, oT, oT, oT, oT, oT, oT, oT, oT])] [_, _, _, _, _, _, _, _, _, _, _, _, _, _, _, _, _, _] ⟨[(8, .b true), (7, .h 0), (0, .f qI st33.2.1), (1, .f qI st33.2.2), (2, .o (lW Tryz.prog (fun (x : Bool × Bool) => [.b x.1, .b x.2]) (fun (r : Bool) => .b r) (fun x => p2 x.1 x.2)))], [(0, ROW qI 3 st33.1)], 1⟩ ⟨O.mv Z R R, O.len sl22 Z R R, O.bi Z R R R R, O.kn (O.mv Z R R) hc58, O.mv (Gu.mk R R) R R, O.len sl22 (Gu.mk R R) R R, O.bi (Gu.mk R R) R R R R, O.kn (O.mv (Gu.mk R R) R R) hc59, O.skip R R R R, O.skip R R R R, O.skip R R R R, O.skip R R R R, O.skip R R R R, O.skip R R R R, O.skip R R R R, O.pkT (Gu.mk R R) R R R R, O.pkT Z R R R R, O.as Z R R, trivial⟩ (by kernel_rfl) R ?_
      exact (Jj39 _ hm).sub [] R
     ·skip
      refine bS hm fun x60 ex60 hm => bS hm fun x61 ex61 hm => ?_
      refine .drw [(1, []), (1, [oT]), (1, [oT, oT]), (1, [oT, oT, oT]), (1, [oT, oT, oT, oT]), (1, [oT, oT, oT, oT, oT]), (1, [oT, oT, oT, oT, oT, oT]), (1, [oT, oT, oT, oT, oT, oT, oT]), (1, [oT, oT, oT, oT, oT, oT, oT, oT]), (1, [oT, oT, oT, oT, oT, oT, oT, oT, oT]), (1, [oT, oT, oT, oT, oT, oT, oT, oT, oT, oT]), (1, [oT, oT, oT, oT, oT, oT, oT, oT]), (1, [oT, oT, oT, oT, oT, oT, oT, oT, oF, oF, oF, oT]), (1, [oT, oT, oT, oT, oT, oT, oT, oT, oF, oF, oF, oT, oT]), (1, [oT, oT, oT, oT, oT, oT, oT, oT, oT, oT, oT, oT, oT, oT]), (1, [oT, oT, oT, oT, oT, oT, oT, oT, oT, oT, oT, oT, oT, oT, oT]), (1, [oT, oT, oT, oT, oT, oT, oT, oT, oT, oT, oT, oT, oT, oT, oT, oT]), (1, [oT, oT, oT, oT, oT, oT, oT, oT, oT, oT, oT, oT, oT, oT, oT, oT, oT])] [_, _, _, _, _, _, _, _, _, _, _, _, _, _, _, _, _, _] ⟨[(8, .b (decide (x60 ≤ x61))), (7, .h 0), (0, .f qI st33.2.1), (1, .f qI st33.2.2), (2, .o (lW Tryz.prog (fun (x : Bool × Bool) => [.b x.1, .b x.2]) (fun (r : Bool) => .b r) (fun x => p2 x.1 x.2)))], [(0, ROW qI 3 st33.1)], 1⟩ ⟨O.mv Z R R, O.len sl22 Z R R, O.bi Z R R R R, O.kn (O.mv Z R R) hc58, O.mv (Gu.mk R R) R R, O.len sl22 (Gu.mk R R) R R, O.bi (Gu.mk R R) R R R R, O.kn (O.mv (Gu.mk R R) R R) hc59, O.mv (Gu.mk R R) R R, O.ix sl22 (Gu.mk R R) R R ex60 R, O.ld nag3 (Gu.mk R R) R (.E lv3) R R, O.mv (Gu.mk R R) R R, O.ix sl22 (Gu.mk R R) R R ex61 R, O.ld nag3 (Gu.mk R R) R (.E lv3) R R, O.bi (Gu.mk R R) R R R R, O.pkF (Gu.mk R R) R R R R, O.pkT Z R R R R, O.as Z R R, trivial⟩ (by kernel_rfl) R ?_
      exact (Jj39 _ hm).sub [] R
    ·skip
     refine .drw [(1, []), (1, [oT]), (1, [oT, oT]), (1, [oT, oT, oT]), (1, [oT, oT, oT, oT]), (1, [oT, oT, oT, oT, oT]), (1, [oT, oT, oT, oT, oT, oT]), (1, [oT, oT, oT, oT, oT, oT, oT]), (1, [oT, oT, oT, oT, oT, oT, oT, oT]), (1, [oT, oT, oT, oT, oT, oT, oT, oT, oT]), (1, [oT, oT, oT, oT, oT, oT, oT, oT, oT, oT]), (1, [oT, oT, oT, oT, oT, oT, oT, oT]), (1, [oT, oT, oT, oT, oT, oT, oT, oT, oF, oF, oF, oT]), (1, [oT, oT, oT, oT, oT, oT, oT, oT, oF, oF, oF, oT, oT]), (1, [oT, oT, oT, oT, oT, oT, oT, oT, oT, oT, oT, oT, oT, oT]), (1, [oT, oT, oT, oT, oT, oT, oT, oT, oT, oT, oT, oT, oT, oT, oT]), (1, [oT, oT, oT, oT, oT, oT, oT, oT, oT, oT, oT, oT, oT, oT, oT, oT]), (1, [oT, oT, oT, oT, oT, oT, oT, oT, oT, oT, oT, oT, oT, oT, oT, oT, oT])] [_, _, _, _, _, _, _, _, _, _, _, _, _, _, _, _, _, _] ⟨[(8, .b false), (7, .h 0), (0, .f qI st33.2.1), (1, .f qI st33.2.2), (2, .o (lW Tryz.prog (fun (x : Bool × Bool) => [.b x.1, .b x.2]) (fun (r : Bool) => .b r) (fun x => p2 x.1 x.2)))], [(0, ROW qI 3 st33.1)], 1⟩ ⟨O.mv Z R R, O.len sl22 Z R R, O.bi Z R R R R, O.kn (O.mv Z R R) hc58, O.skip R R R R, O.skip R R R R, O.skip R R R R, O.skip R R R R, O.skipU R R R, O.skipU R R R, O.skipU R R R, O.skipU R R R, O.skipU R R R, O.skipU R R R, O.skipU R R R, O.skip R R R R, O.pkF Z R R R R, O.as Z R R, trivial⟩ (by kernel_rfl) R ?_
     exact (Jj39 _ hm).sub [] R
  ·refine .cF R hc ?_
   exact .exit (.seqX (.seqX ((K35 _ (ho33 _ (oi hm).symm)).sub [] R)))
 ·intro J37
  rcases Bool.eq_false_or_eq_true (decide ((st33.2.1.length : Int) > 0)) with hc | hc
  ·refine .know (d := 14) R hc ?_
   exact .sk R (.sk R (.sk R (.op (O.pkT Z R R R R) R ((J37 true (orT hc).symm).sub [] R))))
  ·refine .know (d := 14) R hc ?_
   exact .op (O.mv (Gu.mk R R) R R) R (.op (O.len sl22 (Gu.mk R R) R R) R (.op (O.bi (Gu.mk R R) R R R R) R (.op (O.pkF Z R R R R) R ((J37 (decide ((st33.2.2.length : Int) > 0)) (orF hc).symm).sub [] R))))
def y4v (p0 : Bool) (p1 : Bool) : Option Bool :=
 some (p0 && (!p1))
theorem y7X {p0 : Bool} {p1 : Bool} {r : Bool} (hm : y4v p0 p1 = some r) :
  Fw Tryz.prog 73 ⟨0, []⟩ [.b p0, .b p1] [] (.b r) [] := by
 unfold y4v at hm
 refine Fw.mk' Tryz.func73 R Tryz.ntmps73 R R (fun C => ?_) R R
 refine .seq (.reg (.sa R (.nil (.seqN (.seq (.reg (.mv R (.mv R ?_))))))))
 refine .cut 3 (fun (v1 : Bool) => (p0 && (!p1)) = v1) (fun v1 => ⟨[(9, .b v1)], [], 0⟩) ?_ ?_
 ·rintro _ rfl
  refine .sa R (.nil (.seqN (.ret ?_)))
  obtain rfl := oi hm
  exact WX.rt [] (.inl R) Tryz.results73 (.tmp R .nil) R (fun _ _ _ h => h) trivial
 ·intro J2
  rcases Bool.eq_false_or_eq_true p0 with hc | hc
  ·refine .know (d := 6) R hc ?_
   exact .op (O.mv (Gu.mk R R) R R) R (.op (O.not (Gu.mk R R) R R) R (.op (O.pkT Z R R R R) R ((J2 (!p1) (andT hc).symm).sub [] R)))
  ·refine .know (d := 6) R hc ?_
   exact .sk R (.sk R (.op (O.pkF Z R R R R) R ((J2 false (andF hc).symm).sub [] R)))
def y2L (p0 : List Int) (p1 : List Int) : Option (List Int) :=
 (y2i p0 p1 y4v).bind fun r1 =>
 some r1
theorem y4R {p0 : List Int} {p1 : List Int} {r : List Int} (hm : y2L p0 p1 = some r) :
  Fw Tryz.prog 26 ⟨0, []⟩ [.f qI p0, .f qI p1] [] (.h 0) [ROW qI 3 r] := by
 unfold y2L at hm
 refine Fw.mk' Tryz.func26 R Tryz.ntmps26 R R (fun C => ?_) R R
 refine .seq (.reg (.sa R (.nil (.seqN (.seq (.reg (.mv R (.mv R (bS hm fun r1 er1 hm => .op (O.cac (r' := .h 0) [0] [(0, ROW qI 3 r1)] (some 1) (y4Q er1) cf72 R R Z R R ⟨⟨R, .rf⟩, ⟨R, .rf⟩, ⟨R, (.c (.fn cf73 (fun x r h => y7X h) (fun _ => R)) .n)⟩, trivial⟩ R ⟨⟨_, R, fun _ _ _ _ h => h⟩, trivial⟩ (fun _ _ _ h => h) R) R (.sa R (.nil (.seqN (.ret ?_)))))))))))))
 obtain rfl := oi hm
 exact WX.rt [0] (.inl R) Tryz.results26 (.tmp R .nil) R (fun _ _ _ h => h) ⟨⟨_, R, fun _ _ _ _ h => h⟩, trivial⟩
def y3S (p0 : List Int) (p1 : List Int) : Option Bool :=
 (y2L p0 p1).bind fun r1 =>
 some ((r1.length : Int) == 0)
theorem y8o {p0 : List Int} {p1 : List Int} {r : Bool} (hm : y3S p0 p1 = some r) :
  Fw Tryz.prog 30 ⟨0, []⟩ [.f qI p0, .f qI p1] [] (.b r) [] := by
 unfold y3S at hm
 refine Fw.mk' Tryz.func30 R Tryz.ntmps30 R R (fun C => ?_) R R
 refine .seq (.reg (.sa R (.nil (.seqN (.seq (.reg (.mv R (.mv R (bS hm fun r1 er1 hm => .op (O.ca (r' := .h 0) [0] [(0, ROW qI 3 r1)] (some 1) (y4R er1) cf26 R R Z R R R R ⟨⟨_, R, fun _ _ _ _ h => h⟩, trivial⟩ (fun _ _ _ h => h) R) R (.op (O.lenH sl22 Z R R R) R (.bi R (.sa R (.nil (.seqN (.ret ?_)))))))))))))))
 obtain rfl := oi hm
 exact WX.rt [] (.inl R) Tryz.results30 (.tmp R .nil) R (fun _ _ _ h => h) trivial
def y5k (p0 : List Int) (p1 : Int) (st10 : Int) : Option (Int ⊕ (Unit ⊕ Int)) :=
 if decide (st10 < (p0.length : Int)) then
  (idx p0 st10).bind fun x16 =>
  if ((decide (x16 < 0)) || (decide (x16 ≥ p1))) then
   some (.inr (.inr (2)))
  else
   (if decide (st10 > 0) then
    (idx p0 (W (st10 - 1))).bind fun x22 =>
    some (decide (x16 ≤ x22))
   else
    some false).bind fun b19 =>
   if b19 then
    some (.inr (.inr (5)))
   else
    some (.inl (W (st10 + 1)))
 else
  some (.inr (.inl ()))
def y4p (p0 : List Int) (p1 : Int) : Option Int :=
 (iter (y5k p0 p1) 0).bind fun o10 =>
 match o10 with
 | .inl u12 =>
  some 0
 | .inr (u14) =>
  some u14
theorem y7F {p0 : List Int} {p1 : Int} {r : Int} (hm : y4p p0 p1 = some r) :
  Fw Tryz.prog 29 ⟨0, []⟩ [.f qI p0, .i p1] [] (.i r) [] := by
 unfold y4p at hm
 refine Fw.mk' Tryz.func29 R Tryz.ntmps29 R R (fun C => ?_) R R
 refine .seq (.reg (.sa R (.nil (.seqN (.seq (.seq (.reg (.mv R (.op (O.len sl22 Z R R) R (.mv R (.nil (.seqN (.block (bS hm fun o10 eo10 hm => ?_))))))))))))))
 refine .cutU (z := .exit 0) (fun u12 => .inl u12 = o10) (fun (u12 : Unit) => ⟨[], [], 0⟩) ?_ fun K13 => ?_
 ·rintro u12 rfl
  dsimp only at hm
  refine .blkE (.seqN (.seq (.reg (.sa R (.nil (.seqN (.ret ?_)))))))
  obtain rfl := oi hm
  exact WX.rt [] (.inl R) Tryz.results29 (.tmp R .nil) R (fun _ _ _ h => h) trivial
 refine .cutU (z := .ret) (fun u14 => .inr (u14) = o10) (fun (u14 : Int) => ⟨[(4, .i u14)], [], 0⟩) ?_ fun K15 => ?_
 ·rintro u14 rfl
  dsimp only at hm
  refine .blkR (.seqR ?_)
  obtain rfl := oi hm
  exact WX.rt [] (.inl R) Tryz.results29 (.tmp R .nil) R (fun _ _ _ h => h) trivial
 refine .iter (fun (st10 : Int) => ⟨[(9, .i st10), (8, .i (p0.length : Int)), (7, .f qI p0), (0, .f qI p0), (1, .i p1)], [], 0⟩) eo10 [] R ?_
 intro st10 res10 hm ih10 ho10
 unfold y5k at hm
 refine .seq (.reg (.bi R (.nil (.seqN (.seq ?_)))))
 rcases ifS hm with ⟨hc, hm⟩ | ⟨hc, hm⟩
 ·refine .cT R hc ?_
  refine .skip (.seqN (.seq (.block (.seq (.reg (.mv R (bS hm fun x16 ex16 hm => .op (O.ix sl22 Z R R ex16 R) R (.op (O.ld nag3 Z R (.E lv3) R R) R (.sa R (.sa R (.nil (.seqN (.seq (.seq (.reg (.mv R (.bi R (.mv R ?_))))))))))))))))))
  refine .cut 4 (fun (v17 : Bool) => ((decide (x16 < 0)) || (decide (x16 ≥ p1))) = v17) (fun v17 => ⟨[(20, .b v17), (6, .i x16), (5, .i st10), (9, .i st10), (8, .i (p0.length : Int)), (7, .f qI p0), (0, .f qI p0), (1, .i p1)], [], 0⟩) ?_ ?_
  ·rintro _ rfl
   refine .nil (.seqN ?_)
   rcases ifS hm with ⟨hc, hm⟩ | ⟨hc, hm⟩
   ·refine .cT R hc ?_
    exact .seq (.reg (.sa R (.nil (.seqN (.ret (.seqR (.blkR (.seqR (.seqR ((K15 _ (ho10 _ (oi hm).symm)).sub [] R))))))))))
   ·refine .cF R hc ?_
    refine .skip (.seqN (.seq (.reg (.mv R (.bi R (.mv R (bS hm fun b19 eb19 hm => ?_)))))))
    refine .cut 8 (fun (v20 : Bool) => b19 = v20) (fun v20 => ⟨[(31, .b v20), (9, .i st10), (8, .i (p0.length : Int)), (7, .f qI p0), (0, .f qI p0), (1, .i p1)], [], 0⟩) ?_ ?_
    ·rintro _ rfl
     refine .nil (.seqN ?_)
     rcases ifS hm with ⟨hc, hm⟩ | ⟨hc, hm⟩
     ·refine .cT R hc ?_
      exact .seq (.reg (.sa R (.nil (.seqN (.ret (.blkR (.seqR (.seqR ((K15 _ (ho10 _ (oi hm).symm)).sub [] R)))))))))
     ·refine .cF R hc ?_
      exact .skip (.blkN (.seqN (.reg (.bi R (.mv R (.nil ((ih10 _ (oi hm).symm).sub [] R)))))))
    ·intro J21
     rcases ifS eb19 with ⟨hc, hm⟩ | ⟨hc, hm⟩
     ·refine .know (d := 23) R hc ?_
      exact .op (O.mv (Gu.mk R R) R R) R (.op (O.mv (Gu.mk R R) R R) R (.op (O.mv (Gu.mk R R) R R) R (.op (O.bi (Gu.mk R R) R R R R) R (bS hm fun x22 ex22 hm => .op (O.ix sl22 (Gu.mk R R) R R ex22 R) R (.op (O.ld nag3 (Gu.mk R R) R (.E lv3) R R) R (.op (O.bi (Gu.mk R R) R R R R) R (.op (O.pkT Z R R R R) R ((J21 (decide (x16 ≤ x22)) (oi hm).symm).sub [] R))))))))
     ·refine .know (d := 23) R hc ?_
      exact .sk R (.sk R (.sk R (.sk R (.sk R (.sk R (.sk R (.op (O.pkF Z R R R R) R ((J21 false (oi hm).symm).sub [] R))))))))
  ·intro J18
   rcases Bool.eq_false_or_eq_true (decide (x16 < 0)) with hc | hc
   ·refine .know (d := 16) R hc ?_
    exact .sk R (.sk R (.sk R (.op (O.pkT Z R R R R) R ((J18 true (orT hc).symm).sub [] R))))
   ·refine .know (d := 16) R hc ?_
    exact .op (O.mv (Gu.mk R R) R R) R (.op (O.mv (Gu.mk R R) R R) R (.op (O.bi (Gu.mk R R) R R R R) R (.op (O.pkF Z R R R R) R ((J18 (decide (x16 ≥ p1)) (orF hc).symm).sub [] R))))
 ·refine .cF R hc ?_
  exact .exit (.seqX (.seqX ((K13 _ (ho10 _ (oi hm).symm)).sub [] R)))
def yZ (p0 : List AutT) (st5 : Int) : Option (Int ⊕ (Unit ⊕ Int)) :=
 if decide (st5 < (p0.length : Int)) then
  (idx p0 st5).bind fun x11 =>
  (yH x11).bind fun r12 =>
  if (r12 != 0) then
   some (.inr (.inr (r12)))
  else
   some (.inl (W (st5 + 1)))
 else
  some (.inr (.inl ()))
def y2B (p0 : List AutT) : Option Int :=
 if decide ((p0.length : Int) > 12) then
  some 3
 else
  (iter (yZ p0) 0).bind fun o5 =>
  match o5 with
  | .inl u7 =>
   some 0
  | .inr (u9) =>
   some u9
theorem y6n {p0 : List AutT} {r : Int} (hm : y2B p0 = some r) :
  Fw Tryz.prog 76 ⟨0, []⟩ [.f rE25 p0] [] (.i r) [] := by
 unfold y2B at hm
 refine Fw.mk' Tryz.func76 R Tryz.ntmps76 R R (fun C => ?_) R R
 refine .seq (.reg (.sa R (.nil (.seqN (.seq (.seq (.reg (.mv R (.op (O.len sl73 Z R R) R (.bi R (.nil (.seqN ?_))))))))))))
 rcases ifS hm with ⟨hc, hm⟩ | ⟨hc, hm⟩
 ·refine .cT R hc ?_
  refine .seq (.reg (.sa R (.nil (.seqN (.ret (.seqR ?_))))))
  obtain rfl := oi hm
  exact WX.rt [] (.inl R) Tryz.results76 (.tmp R .nil) R (fun _ _ _ h => h) trivial
 ·refine .cF R hc ?_
  refine .skip (.seqN (.seq (.seq (.reg (.mv R (.op (O.len sl73 Z R R) R (.mv R (.nil (.seqN (.block (bS hm fun o5 eo5 hm => ?_)))))))))))
  refine .cutU (z := .exit 0) (fun u7 => .inl u7 = o5) (fun (u7 : Unit) => ⟨[], [], 0⟩) ?_ fun K8 => ?_
  ·rintro u7 rfl
   dsimp only at hm
   refine .blkE (.seqN (.seq (.reg (.sa R (.nil (.seqN (.ret ?_)))))))
   obtain rfl := oi hm
   exact WX.rt [] (.inl R) Tryz.results76 (.tmp R .nil) R (fun _ _ _ h => h) trivial
  refine .cutU (z := .ret) (fun u9 => .inr (u9) = o5) (fun (u9 : Int) => ⟨[(2, .i u9)], [], 0⟩) ?_ fun K10 => ?_
  ·rintro u9 rfl
   dsimp only at hm
   refine .blkR (.seqR ?_)
   obtain rfl := oi hm
   exact WX.rt [] (.inl R) Tryz.results76 (.tmp R .nil) R (fun _ _ _ h => h) trivial
  refine .iter (fun (st5 : Int) => ⟨[(11, .i st5), (10, .i (p0.length : Int)), (9, .f rE25 p0)], [], 0⟩) eo5 [] R ?_
  intro st5 res5 hm ih5 ho5
  unfold yZ at hm
  refine .seq (.reg (.bi R (.nil (.seqN (.seq ?_)))))
  rcases ifS hm with ⟨hc, hm⟩ | ⟨hc, hm⟩
  ·refine .cT R hc ?_
   refine .skip (.seqN (.seq (.block (.seq (.reg (bS hm fun x11 ex11 hm => .op (O.ix sl73 Z R R ex11 R) R (.op (O.lg (l' := [lF qI x11.1, lI x11.2.1, lF qI x11.2.2.1, lF qT x11.2.2.2]) ag25 Z R (.E lv25) R R R) R (.op (O.al 0 R zz25 R Z R) R (.op (O.st ag25.sz Z R R R R R) R (.nil (.seqN (.seq (.reg (.op (O.lg (l' := [lF qI x11.1, lI x11.2.1, lF qI x11.2.2.1, lF qT x11.2.2.2]) ag25 Z R (.B R) R R R) R (bS hm fun r12 er12 hm => .op (O.ca0 (y2F er12) cf51 R R Z R R R) R (.sa R (.nil (.seqN (.seq (.reg (.mv R (.bi R (.nil (.seqN ?_))))))))))))))))))))))))
   rcases ifS hm with ⟨hc, hm⟩ | ⟨hc, hm⟩
   ·refine .cT R hc ?_
    exact .seq (.reg (.mv R (.sa R (.nil (.seqN (.ret (.blkR (.seqR (.seqR ((K10 _ (ho5 _ (oi hm).symm)).sub [] R))))))))))
   ·refine .cF R hc ?_
    exact .skip (.blkN (.seqN (.reg (.bi R (.mv R (.nil ((ih5 _ (oi hm).symm).sub [] R)))))))
  ·refine .cF R hc ?_
   exact .exit (.seqX (.seqX ((K8 _ (ho5 _ (oi hm).symm)).sub [] R)))
def yt (p0 : Bool) (p1 : Bool) : Option Bool :=
 some (p0 || p1)
theorem y7Y {p0 : Bool} {p1 : Bool} {r : Bool} (hm : yt p0 p1 = some r) :
  Fw Tryz.prog 178 ⟨0, []⟩ [.b p0, .b p1] [] (.b r) [] := by
 unfold yt at hm
 refine Fw.mk' Tryz.func178 R Tryz.ntmps178 R R (fun C => ?_) R R
 refine .seq (.reg (.sa R (.nil (.seqN (.seq (.reg (.mv R (.mv R ?_))))))))
 refine .cut 2 (fun (v1 : Bool) => (p0 || p1) = v1) (fun v1 => ⟨[(8, .b v1)], [], 0⟩) ?_ ?_
 ·rintro _ rfl
  refine .sa R (.nil (.seqN (.ret ?_)))
  obtain rfl := oi hm
  exact WX.rt [] (.inl R) Tryz.results178 (.tmp R .nil) R (fun _ _ _ h => h) trivial
 ·intro J2
  rcases Bool.eq_false_or_eq_true p0 with hc | hc
  ·refine .know (d := 6) R hc ?_
   exact .sk R (.op (O.pkT Z R R R R) R ((J2 true (orT hc).symm).sub [] R))
  ·refine .know (d := 6) R hc ?_
   exact .op (O.mv (Gu.mk R R) R R) R (.op (O.pkF Z R R R R) R ((J2 p1 (orF hc).symm).sub [] R))
def y2M (p0 : List Int) (p1 : List Int) : Option (List Int) :=
 (y2i p0 p1 yt).bind fun r1 =>
 some r1
theorem y8F {p0 : List Int} {p1 : List Int} {r : List Int} (hm : y2M p0 p1 = some r) :
  Fw Tryz.prog 160 ⟨0, []⟩ [.f qI p0, .f qI p1] [] (.h 0) [ROW qI 3 r] := by
 unfold y2M at hm
 refine Fw.mk' Tryz.func160 R Tryz.ntmps160 R R (fun C => ?_) R R
 refine .seq (.reg (.sa R (.nil (.seqN (.seq (.reg (.mv R (.mv R (bS hm fun r1 er1 hm => .op (O.cac (r' := .h 0) [0] [(0, ROW qI 3 r1)] (some 1) (y4Q er1) cf72 R R Z R R ⟨⟨R, .rf⟩, ⟨R, .rf⟩, ⟨R, (.c (.fn cf178 (fun x r h => y7Y h) (fun _ => R)) .n)⟩, trivial⟩ R ⟨⟨_, R, fun _ _ _ _ h => h⟩, trivial⟩ (fun _ _ _ h => h) R) R (.sa R (.nil (.seqN (.ret ?_)))))))))))))
 obtain rfl := oi hm
 exact WX.rt [0] (.inl R) Tryz.results160 (.tmp R .nil) R (fun _ _ _ h => h) ⟨⟨_, R, fun _ _ _ _ h => h⟩, trivial⟩
def yT (p0 : List AutT) (st7 : Int × List Int) : Option ((Int × List Int) ⊕ (List Int)) :=
 if decide (st7.1 < (p0.length : Int)) then
  (idx p0 st7.1).bind fun x10 =>
  (y2M st7.2 x10.1).bind fun r11 =>
  some (.inl (W (st7.1 + 1), r11))
 else
  some (.inr st7.2)
def y2j (p0 : List AutT) : Option (List Int) :=
 (iter (yT p0) (0, ([] : List Int))).bind fun o7 =>
 some o7
theorem y6b {p0 : List AutT} {r : List Int} (hm : y2j p0 = some r) :
  Fw Tryz.prog 123 ⟨0, []⟩ [.f rE25 p0] [] (.h 0) [ROW qI 3 r] := by
 unfold y2j at hm
 refine Fw.mk' Tryz.func123 R Tryz.ntmps123 R R (fun C => ?_) R R
 refine .seq (.reg (.sa R (.nil (.seqN (.seq (.reg (.sa R (.nil (.seqN (.seq (.seq (.reg (.mv R (.op (O.len sl73 Z R R) R (.mv R (.nil (.seqN (.block (bS hm fun o7 eo7 hm => ?_)))))))))))))))))))
 refine .cut1 (z := .exit 0) o7 (fun (o7 : List Int) => ⟨[(3, .h 0)], [(0, ROW qI 3 o7)], 1⟩) ?_ fun K9 => ?_
 ·skip
  refine .blkE (.seqN (.seq (.reg (.mv R (.sa R (.nil (.seqN (.ret ?_))))))))
  obtain rfl := oi hm
  exact WX.rt [0] (.inl R) Tryz.results123 (.tmp R .nil) R (fun _ _ _ h => h) ⟨⟨_, R, fun _ _ _ _ h => h⟩, trivial⟩
 refine .nlg qI 3 3 0 R R (.iter (fun (st7 : Int × List Int) => ⟨[(8, .i st7.1), (7, .i (p0.length : Int)), (6, .f rE25 p0), (3, .h 0)], [(0, ROW qI 3 st7.2)], 1⟩) eo7 [] R ?_)
 intro st7 res7 hm ih7 ho7
 unfold yT at hm
 refine .seq (.reg (.bi R (.nil (.seqN (.seq ?_)))))
 rcases ifS hm with ⟨hc, hm⟩ | ⟨hc, hm⟩
 ·refine .cT R hc ?_
  exact .skip (.seqN (.seq (.block (.seq (.reg (bS hm fun x10 ex10 hm => .op (O.ix sl73 Z R R ex10 R) R (.op (O.lg (l' := [lF qI x10.1, lI x10.2.1, lF qI x10.2.2.1, lF qT x10.2.2.2]) ag25 Z R (.E lv25) R R R) R (.op (O.al 1 R zz25 R Z R) R (.op (O.st ag25.sz Z R R R R R) R (.nil (.seqN (.reg (.mv R (.op (O.faP y1D Z R R) R (.op (O.ld nag22 Z R (.B R) R R) R (.fz 0 [12] [] R R fR R R (bS hm fun r11 er11 hm => .op (O.ca (r' := .h 2) [2] [(0, ROW qI 3 r11)] (some 3) (y8F er11) cf160 R R Z R R R R ⟨⟨_, R, fun _ _ _ _ h => h⟩, trivial⟩ (fun _ _ _ h => h) R) R (.sa R (.nil (.blkN (.seqN (.reg (.bi R (.mv R (.nil ((ih7 _ (oi hm).symm).sub [(0, 2)] R))))))))))))))))))))))))))
 ·refine .cF R hc ?_
  exact .exit (.seqX (.seqX ((K9 _ (ho7 _ (oi hm).symm)).sub [] R)))
def yV (x20 : AutT) (st26 : Int × (List KeyT)) : Option ((Int × (List KeyT)) ⊕ (List KeyT)) :=
 if decide (st26.1 < (x20.2.2.2.length : Int)) then
  (idx x20.2.2.2 st26.1).bind fun x30 =>
  some (.inl (W (st26.1 + 1), (kput st26.2 (x30.1, x30.2.1) x30.2.2)))
 else
  some (.inr st26.2)
def y1m (p0 : List AutT) (st17 : Int × (List (List KeyT))) : Option ((Int × (List (List KeyT))) ⊕ (List (List KeyT))) :=
 if decide (st17.1 < (p0.length : Int)) then
  (idx p0 st17.1).bind fun x20 =>
  (iter (yV x20) (0, ([] : List KeyT))).bind fun o26 =>
  (app st17.2 ([o26] : List (List KeyT))).bind fun x29 =>
  some (.inl (W (st17.1 + 1), x29))
 else
  some (.inr st17.2)
def y2p (p0 : List AutT) : Option ((List AutT) × List Int × (List (List KeyT))) :=
 (y2j p0).bind fun r1 =>
 (iter (y1m p0) (0, ([] : List (List KeyT)))).bind fun o17 =>
 some (p0, r1, o17)
theorem y6K {p0 : List AutT} {r : ((List AutT) × List Int × (List (List KeyT)))} (hm : y2p p0 = some r) :
  Fw Tryz.prog 77 ⟨0, []⟩ [.f rE25 p0] [] (.g [lF rE25 r.1, lH 0, lH 1]) [ROW qI 3 r.2.1, ROW (rM kvP qI) 106 r.2.2] := by
 unfold y2p at hm
 refine Fw.mk' Tryz.func77 R Tryz.ntmps77 R R (fun C => ?_) R R
 refine .seq (.reg (.op (O.al 0 R zz138 R Z R) R (.nil (.seqN (.seq (.reg (.mv R (.mv R (bS hm fun r1 er1 hm => .op (O.ca (r' := .h 1) [1] [(0, ROW qI 3 r1)] (some 2) (y6b er1) cf123 R R Z R R R R ⟨⟨_, R, fun _ _ _ _ h => h⟩, trivial⟩ (fun _ _ _ h => h) R) R (.op (O.bu (l := [lF rE25 p0, lH 1, lN]) pl138 R Z R R R) R (.op (O.al 2 R zz138 R Z R) R (.op (O.st ag138.sz Z R R R R R) R (.nil (.seqN (.seq (.seq (.reg (.mv R (.op (O.len sl73 Z R R) R (.mv R (.nil (.seqN (.block (bS hm fun o17 eo17 hm => ?_))))))))))))))))))))))))
 refine .cut1 (z := .exit 0) o17 (fun (o17 : (List (List KeyT))) => ⟨[(3, .q 0 0), (2, .q 3 0)], [(0, .bx 138 [lF rE25 p0, lH 1, lH 2]), (1, ROW qI 3 r1), (2, ROW (rM kvP qI) 106 o17), (3, .bx 138 [lN, lN, lN])], 4⟩) ?_ fun K19 => ?_
 ·skip
  refine .blkE (.seqN (.seq (.reg (.op (O.lg (l' := [lF rE25 p0, lH 1, lH 2]) ag138 Z R (.B R) R R R) R (.op (O.st ag138.sz Z R R R R R) R (.nil (.seqN (.ret ?_))))))))
  obtain rfl := oi hm
  exact WX.rt [1, 2] (.inl R) Tryz.results77 (.cell R R ag138 R .nil) R (fun _ _ _ h => h) ⟨⟨_, R, fun _ _ _ _ h => h⟩, ⟨_, R, fun _ _ _ _ h => h⟩, trivial⟩
 refine .nlb (rM kvP qI) 106 2 2 R R (.iter (fun (st17 : Int × (List (List KeyT))) => ⟨[(15, .i st17.1), (14, .i (p0.length : Int)), (13, .f rE25 p0), (3, .q 0 0), (2, .q 3 0)], [(0, .bx 138 [lF rE25 p0, lH 1, lH 2]), (1, ROW qI 3 r1), (2, ROW (rM kvP qI) 106 st17.2), (3, .bx 138 [lN, lN, lN])], 4⟩) eo17 [(0, 2), (2, 3), (3, 0)] R ?_)
 intro st17 res17 hm ih17 ho17
 unfold y1m at hm
 refine .seq (.reg (.bi R (.nil (.seqN (.seq ?_)))))
 rcases ifS hm with ⟨hc, hm⟩ | ⟨hc, hm⟩
 ·refine .cT R hc ?_
  refine .skip (.seqN (.seq (.block (.seq (.reg (bS hm fun x20 ex20 hm => .op (O.ix sl73 Z R R ex20 R) R (.op (O.lg (l' := [lF qI x20.1, lI x20.2.1, lF qI x20.2.2.1, lF qT x20.2.2.2]) ag25 Z R (.E lv25) R R R) R (.op (O.al 4 R zz25 R Z R) R (.op (O.st ag25.sz Z R R R R R) R (.nil (.seqN (.seq (.reg (.op (O.mk2 (kv := kvP) (r := qI) 5 R Z R) R (.sa R (.nil (.seqN (.seq (.seq (.reg (.op (O.faP yz Z R R) R (.op (O.ld nag23 Z R (.B R) R R) R (.op (O.len sl23 Z R R) R (.mv R (.nil (.seqN (.block (bS hm fun o26 eo26 hm => ?_))))))))))))))))))))))))))))
  refine .cut1 (z := .exit 2) o26 (fun (o26 : (List KeyT)) => ⟨[(6, .h 0), (15, .i st17.1), (14, .i (p0.length : Int)), (13, .f rE25 p0), (3, .q 1 0), (2, .q 4 0)], [(0, MAP kvP qI 106 o26), (1, .bx 138 [lF rE25 p0, lH 2, lH 3]), (2, ROW qI 3 r1), (3, ROW (rM kvP qI) 106 st17.2), (4, .bx 138 [lN, lN, lN])], 5⟩) ?_ fun K28 => ?_
  ·skip
   exact .blkE (.seqN (.reg (.op (O.faP y9X Z R R) R (.op (O.ld yb2 Z R (.B R) R R) R (.mv R (.fz 0 [38] [] R R fM R R (.op (O.bsF (r := (rM kvP qI)) (zs := ([o26] : List (List KeyT))) bs136 R R Z R R R (.c .m .n) R R R) R (bS hm fun x29 ex29 hm => .op (O.ap 5 Tryz.underlying136 el106 R R Z R R (.fr R) ex29 R) R (.op (O.faP y9X Z R R) R (.op (O.st yb2.sz Z R R R R R) R (.nil (.blkN (.seqN (.reg (.bi R (.mv R (.nil ((ih17 _ (oi hm).symm).sub [(0, 1), (1, 2), (2, 5), (3, 4)] R))))))))))))))))))
  refine .iter (fun (st26 : Int × (List KeyT)) => ⟨[(23, .i st26.1), (22, .i (x20.2.2.2.length : Int)), (21, .f qT x20.2.2.2), (6, .h 0), (15, .i st17.1), (14, .i (p0.length : Int)), (13, .f rE25 p0), (3, .q 1 0), (2, .q 4 0)], [(0, MAP kvP qI 106 st26.2), (1, .bx 138 [lF rE25 p0, lH 2, lH 3]), (2, ROW qI 3 r1), (3, ROW (rM kvP qI) 106 st17.2), (4, .bx 138 [lN, lN, lN])], 5⟩) eo26 [(0, 5), (1, 0), (2, 1), (3, 2), (4, 3)] R ?_
  intro st26 res26 hm ih26 ho26
  unfold yV at hm
  refine .seq (.reg (.bi R (.nil (.seqN (.seq ?_)))))
  rcases ifS hm with ⟨hc, hm⟩ | ⟨hc, hm⟩
  ·refine .cT R hc ?_
   exact .skip (.seqN (.seq (.block (.seq (.reg (bS hm fun x30 ex30 hm => .op (O.ix sl23 Z R R ex30 R) R (.op (O.lg (l' := [lI x30.1, lI x30.2.1, lI x30.2.2]) ag97 Z R (.E lv97) R R R) R (.op (O.al 5 R zz97 R Z R) R (.op (O.st ag97.sz Z R R R R R) R (.nil (.seqN (.reg (.mv R (.op (O.faP y3C Z R R) R (.op (O.ld nag3 Z R (.B R) R R) R (.op (O.faP y4D Z R R) R (.op (O.ld nag3 Z R (.B R) R R) R (.op (O.bu (l := [lI x30.1, lI x30.2.1]) pl190 R Z R R R) R (.op (O.faP y4E Z R R) R (.op (O.ld nag3 Z R (.B R) R R) R (.op (O.mu (k := (x30.1, x30.2.1)) (v := x30.2.2) md106 (fun _ _ => eqP) Z R R (.a R R) R .k) R (.nil (.blkN (.seqN (.reg (.bi R (.mv R (.nil ((ih26 _ (oi hm).symm).sub [] R)))))))))))))))))))))))))))))
  ·refine .cF R hc ?_
   exact .exit (.seqX (.seqX ((K28 _ (ho26 _ (oi hm).symm)).sub [] R)))
 ·refine .cF R hc ?_
  exact .exit (.seqX (.seqX ((K19 _ (ho17 _ (oi hm).symm)).sub [] R)))
def yg (p0 : (List AutT) × List Int × (List (List KeyT))) (st4 : Int) : Option (Int ⊕ (Unit ⊕ Unit)) :=
 if decide (st4 < (p0.1.length : Int)) then
  (idx p0.1 st4).bind fun x10 =>
  if (x10.2.1 == 0) then
   some (.inr (.inr (())))
  else
   some (.inl (W (st4 + 1)))
 else
  some (.inr (.inl ()))
def yo (p0 : (List AutT) × List Int × (List (List KeyT))) : Option (List Int × Bool) :=
 (iter (yg p0) 0).bind fun o4 =>
 match o4 with
 | .inl u5 =>
  (mkL (p0.1.length : Int) (0 : Int)).bind fun x7 =>
  some (x7, true)
 | .inr (u8) =>
  some (([] : List Int), false)
theorem y6c {p0 : (List AutT) × List Int × (List (List KeyT))} {r : List Int × Bool} (hm : yo p0 = some r) :
  Fw Tryz.prog 78 ⟨0, []⟩ [.a [lF rE25 p0.1, lF qI p0.2.1, lF (rM kvP qI) p0.2.2]] [] (.tp [.h 0, .b r.2]) [ROW qI 3 r.1] := by
 unfold yo at hm
 refine Fw.mk' Tryz.func78 R Tryz.ntmps78 R R (fun C => ?_) R R
 refine .seq (.reg (.op (O.box 0 R Z R R R) R (.sa R (.sa R (.nil (.seqN (.seq (.seq (.reg (.op (O.faP y8P Z R R) R (.op (O.ld nag73 Z R (.B R) R R) R (.op (O.len sl73 Z R R) R (.mv R (.nil (.seqN (.block (bS hm fun o4 eo4 hm => ?_)))))))))))))))))
 refine .cutU (z := .exit 0) (fun u5 => .inl u5 = o4) (fun (u5 : Unit) => ⟨[(1, .q 0 0)], [(0, .bx 138 [lF rE25 p0.1, lF qI p0.2.1, lF (rM kvP qI) p0.2.2])], 1⟩) ?_ fun K6 => ?_
 ·rintro u5 rfl
  dsimp only at hm
  refine .blkE (.seqN (.seq (.reg (.op (O.faP y8P Z R R) R (.op (O.ld nag73 Z R (.B R) R R) R (.op (O.len sl73 Z R R) R (bS hm fun x7 ex7 hm => .op (O.mk (z := (0 : Int)) 1 Tryz.underlying22 zr3 R R Z R R ex7 R) R (.sa R (.sa R (.nil (.seqN (.ret ?_))))))))))))
  obtain rfl := oi hm
  exact WX.rt [1] (.inl R) Tryz.results78 (.tmp R (.tmp R .nil)) R (fun _ _ _ h => h) ⟨⟨_, R, fun _ _ _ _ h => h⟩, trivial⟩
 refine .cutU (z := .ret) (fun u8 => .inr (u8) = o4) (fun (u8 : Unit) => ⟨[(3, .b false), (2, .o (lN))], [], 0⟩) ?_ fun K9 => ?_
 ·rintro u8 rfl
  dsimp only at hm
  refine .blkR (.seqR (.nlg qI 3 2 0 R R ?_))
  obtain rfl := oi hm
  exact WX.rt [0] (.inl R) Tryz.results78 (.tmp R (.tmp R .nil)) R (fun _ _ _ h => h) ⟨⟨_, R, fun _ _ _ _ h => h⟩, trivial⟩
 refine .iter (fun (st4 : Int) => ⟨[(9, .i st4), (8, .i (p0.1.length : Int)), (7, .f rE25 p0.1), (1, .q 0 0)], [(0, .bx 138 [lF rE25 p0.1, lF qI p0.2.1, lF (rM kvP qI) p0.2.2])], 1⟩) eo4 [] R ?_
 intro st4 res4 hm ih4 ho4
 unfold yg at hm
 refine .seq (.reg (.bi R (.nil (.seqN (.seq ?_)))))
 rcases ifS hm with ⟨hc, hm⟩ | ⟨hc, hm⟩
 ·refine .cT R hc ?_
  refine .skip (.seqN (.seq (.block (.seq (.reg (bS hm fun x10 ex10 hm => .op (O.ix sl73 Z R R ex10 R) R (.op (O.lg (l' := [lF qI x10.1, lI x10.2.1, lF qI x10.2.2.1, lF qT x10.2.2.2]) ag25 Z R (.E lv25) R R R) R (.op (O.al 1 R zz25 R Z R) R (.op (O.st ag25.sz Z R R R R R) R (.nil (.seqN (.seq (.reg (.op (O.faP yW Z R R) R (.op (O.ld nag3 Z R (.B R) R R) R (.bi R (.nil (.seqN ?_))))))))))))))))))
  rcases ifS hm with ⟨hc, hm⟩ | ⟨hc, hm⟩
  ·refine .cT R hc ?_
   exact .seq (.reg (.sa R (.sa R (.nil (.seqN (.ret (.blkR (.seqR (.seqR ((K9 _ (ho4 _ (oi hm).symm)).sub [] R))))))))))
  ·refine .cF R hc ?_
   exact .skip (.blkN (.seqN (.reg (.bi R (.mv R (.nil ((ih4 _ (oi hm).symm).sub [] R)))))))
 ·refine .cF R hc ?_
  exact .exit (.seqX (.seqX ((K6 _ (ho4 _ (oi hm).symm)).sub [] R)))
def y3I (p0 : Int) : Option Bool :=
 some (p0 != p0)
theorem y6o {p0 : Int} {r : Bool} (hm : y3I p0 = some r) :
  Fw Tryz.prog 164 ⟨0, []⟩ [.i p0] [] (.b r) [] := by
 unfold y3I at hm
 refine Fw.mk' Tryz.func164 R Tryz.ntmps164 R R (fun C => ?_) R R
 refine .seq (.reg (.sa R (.nil (.seqN (.seq (.reg (.mv R (.mv R (.bi R (.sa R (.nil (.seqN (.ret ?_)))))))))))))
 obtain rfl := oi hm
 exact WX.rt [] (.inl R) Tryz.results164 (.tmp R .nil) R (fun _ _ _ h => h) trivial
def y4F (p0 : Int) (p1 : Int) : Option Bool :=
 (y3I p0).bind fun r1 =>
 (if r1 then
  (y3I p1).bind fun r7 =>
  some (!r7)
 else
  some false).bind fun b2 =>
 some (b2 || (decide (p0 < p1)))
theorem y9h {p0 : Int} {p1 : Int} {r : Bool} (hm : y4F p0 p1 = some r) :
  Fw Tryz.prog 150 ⟨0, []⟩ [.i p0, .i p1] [] (.b r) [] := by
 unfold y4F at hm
 refine Fw.mk' Tryz.func150 R Tryz.ntmps150 R R (fun C => ?_) R R
 refine .seq (.reg (.sa R (.nil (.seqN (.seq (.reg (.mv R (bS hm fun r1 er1 hm => .op (O.ca0 (y6o er1) cf164 R R Z R R R) R (.mv R (bS hm fun b2 eb2 hm => ?_))))))))))
 refine .cut 4 (fun (v3 : Bool) => b2 = v3) (fun v3 => ⟨[(11, .b v3), (0, .i p0), (1, .i p1)], [], 0⟩) ?_ ?_
 ·rintro _ rfl
  refine .mv R ?_
  refine .cut 4 (fun (v5 : Bool) => (b2 || (decide (p0 < p1))) = v5) (fun v5 => ⟨[(16, .b v5)], [], 0⟩) ?_ ?_
  ·rintro _ rfl
   refine .sa R (.nil (.seqN (.ret ?_)))
   obtain rfl := oi hm
   exact WX.rt [] (.inl R) Tryz.results150 (.tmp R .nil) R (fun _ _ _ h => h) trivial
  ·intro J6
   rcases Bool.eq_false_or_eq_true b2 with hc | hc
   ·refine .know (d := 12) R hc ?_
    exact .sk R (.sk R (.sk R (.op (O.pkT Z R R R R) R ((J6 true (orT hc).symm).sub [] R))))
   ·refine .know (d := 12) R hc ?_
    exact .op (O.mv (Gu.mk R R) R R) R (.op (O.mv (Gu.mk R R) R R) R (.op (O.bi (Gu.mk R R) R R R R) R (.op (O.pkF Z R R R R) R ((J6 (decide (p0 < p1)) (orF hc).symm).sub [] R))))
 ·intro J4
  rcases ifS eb2 with ⟨hc, hm⟩ | ⟨hc, hm⟩
  ·refine .know (d := 7) R hc ?_
   exact .op (O.mv (Gu.mk R R) R R) R (bS hm fun r7 er7 hm => .op (O.ca0 (y6o er7) cf164 R R (Gu.mk R R) R R R) R (.op (O.not (Gu.mk R R) R R) R (.op (O.pkT Z R R R R) R ((J4 (!r7) (oi hm).symm).sub [] R))))
  ·refine .know (d := 7) R hc ?_
   exact .sk R (.sk R (.sk R (.op (O.pkF Z R R R R) R ((J4 false (oi hm).symm).sub [] R))))
def y2O (p0 : Int) : Option Bool :=
 some (p0 != p0)
theorem y5F {p0 : Int} {r : Bool} (hm : y2O p0 = some r) :
  Fw Tryz.prog 151 ⟨0, []⟩ [.i p0] [] (.b r) [] := by
 unfold y2O at hm
 refine Fw.mk' Tryz.func151 R Tryz.ntmps151 R R (fun C => ?_) R R
 refine .seq (.reg (.sa R (.nil (.seqN (.seq (.reg (.mv R (.mv R (.bi R (.sa R (.nil (.seqN (.ret ?_)))))))))))))
 obtain rfl := oi hm
 exact WX.rt [] (.inl R) Tryz.results151 (.tmp R .nil) R (fun _ _ _ h => h) trivial
def yO (p0 : List Int) (p1 : Int) (st7 : Int × Int) : Option ((Int × Int) ⊕ Int) :=
 if decide (st7.2 < st7.1) then
  (idx p0 (W ((IntKind.u64.wrap (W (st7.2 + st7.1))).fdiv (2 ^ (min (1 : Int).toNat 64))))).bind fun x23 =>
  (y4F x23 p1).bind fun r24 =>
  if r24 then
   some (.inl (st7.1, W ((W ((IntKind.u64.wrap (W (st7.2 + st7.1))).fdiv (2 ^ (min (1 : Int).toNat 64)))) + 1)))
  else
   some (.inl (W ((IntKind.u64.wrap (W (st7.2 + st7.1))).fdiv (2 ^ (min (1 : Int).toNat 64))), st7.2))
 else
  some (.inr st7.2)
def y1e (p0 : List Int) (p1 : Int) : Option (Int × Bool) :=
 (iter (yO p0 p1) ((p0.length : Int), 0)).bind fun o7 =>
 (if decide (o7 < (p0.length : Int)) then
  (idx p0 o7).bind fun x13 =>
  (if (x13 == p1) then
   some true
  else
   (idx p0 o7).bind fun x17 =>
   (y2O x17).bind fun r18 =>
   (if r18 then
    (y2O p1).bind fun r22 =>
    some r22
   else
    some false).bind fun b19 =>
   some b19).bind fun b14 =>
  some b14
 else
  some false).bind fun b10 =>
 some (o7, b10)
theorem y4G {p0 : List Int} {p1 : Int} {r : Int × Bool} (hm : y1e p0 p1 = some r) :
  Fw Tryz.prog 118 ⟨0, []⟩ [.f qI p0, .i p1] [] (.tp [.i r.1, .b r.2]) [] := by
 unfold y1e at hm
 refine Fw.mk' Tryz.func118 R Tryz.ntmps118 R R (fun C => ?_) R R
 refine .seq (.reg (.sa R (.sa R (.nil (.seqN (.seq (.reg (.mv R (.op (O.len sl22 Z R R) R (.sa R (.nil (.seqN (.seq (.reg (.mv R (.sa R (.sa R (.nil (.seqN (.seq (.block (bS hm fun o7 eo7 hm => ?_))))))))))))))))))))))
 refine .cut1 (z := .exit 0) o7 (fun (o7 : Int) => ⟨[(7, .i o7), (6, .i (p0.length : Int)), (0, .f qI p0), (1, .i p1)], [], 0⟩) ?_ fun K9 => ?_
 ·skip
  refine .blkE (.seqN (.seq (.reg (.mv R (.mv R (.mv R (.bi R (.mv R (bS hm fun b10 eb10 hm => ?_)))))))))
  refine .cut 18 (fun (v11 : Bool) => b10 = v11) (fun v11 => ⟨[(53, .b v11), (31, .i o7)], [], 0⟩) ?_ ?_
  ·rintro _ rfl
   refine .sa R (.sa R (.nil (.seqN (.ret ?_))))
   obtain rfl := oi hm
   exact WX.rt [] (.inl R) Tryz.results118 (.tmp R (.tmp R .nil)) R (fun _ _ _ h => h) trivial
  ·intro J12
   rcases ifS eb10 with ⟨hc, hm⟩ | ⟨hc, hm⟩
   ·refine .know (d := 35) R hc ?_
    refine .op (O.mv (Gu.mk R R) R R) R (.op (O.mv (Gu.mk R R) R R) R (bS hm fun x13 ex13 hm => .op (O.ix sl22 (Gu.mk R R) R R ex13 R) R (.op (O.ld nag3 (Gu.mk R R) R (.E lv3) R R) R (.op (O.mv (Gu.mk R R) R R) R (.op (O.bi (Gu.mk R R) R R R R) R (.op (O.mv (Gu.mk R R) R R) R (bS hm fun b14 eb14 hm => ?_)))))))
    refine .cut 10 (fun (v15 : Bool) => b14 = v15) (fun v15 => ⟨[(52, .b v15), (35, .b true), (31, .i o7)], [], 0⟩) ?_ ?_
    ·rintro _ rfl
     exact .op (O.pkT Z R R R R) R ((J12 b14 (oi hm).symm).sub [] R)
    ·intro J16
     rcases ifS eb14 with ⟨hc, hm⟩ | ⟨hc, hm⟩
     ·refine .know (d := 42) R hc ?_
      exact .sk R (.sk R (.sk R (.sk R (.sk R (.sk R (.op (O.skipU R R R) R (.op (O.skipU R R R) R (.sk R (.op (O.pkT (Gu.mk R R) R R R R) R ((J16 true (oi hm).symm).sub [] R))))))))))
     ·refine .know (d := 42) R hc ?_
      refine .op (O.mv (Gu.mk R R) R R) R (.op (O.mv (Gu.mk R R) R R) R (bS hm fun x17 ex17 hm => .op (O.ix sl22 (Gu.mk R R) R R ex17 R) R (.op (O.ld nag3 (Gu.mk R R) R (.E lv3) R R) R (bS hm fun r18 er18 hm => .op (O.ca0 (y5F er18) cf151 R R (Gu.mk R R) R R R) R (.op (O.mv (Gu.mk R R) R R) R (bS hm fun b19 eb19 hm => ?_))))))
      refine .cut 3 (fun (v20 : Bool) => b19 = v20) (fun v20 => ⟨[(51, .b v20), (42, .b false), (35, .b true), (31, .i o7)], [], 0⟩) ?_ ?_
      ·rintro _ rfl
       exact .op (O.pkF (Gu.mk R R) R R R R) R ((J16 b19 (oi hm).symm).sub [] R)
      ·intro J21
       rcases ifS eb19 with ⟨hc, hm⟩ | ⟨hc, hm⟩
       ·refine .know (d := 48) R hc ?_
        exact .op (O.mv (Gu.mk R R) R R) R (bS hm fun r22 er22 hm => .op (O.ca0 (y5F er22) cf151 R R (Gu.mk R R) R R R) R (.op (O.pkT (Gu.mk R R) R R R R) R ((J21 r22 (oi hm).symm).sub [] R)))
       ·refine .know (d := 48) R hc ?_
        exact .sk R (.sk R (.op (O.pkF (Gu.mk R R) R R R R) R ((J21 false (oi hm).symm).sub [] R)))
   ·refine .know (d := 35) R hc ?_
    exact .sk R (.sk R (.sk R (.sk R (.sk R (.sk R (.sk R (.op (O.skipU R R R) R (.op (O.skipU R R R) R (.op (O.skipU R R R) R (.op (O.skipU R R R) R (.op (O.skipU R R R) R (.op (O.skipU R R R) R (.op (O.skipU R R R) R (.op (O.skipU R R R) R (.op (O.skipU R R R) R (.sk R (.op (O.pkF Z R R R R) R ((J12 false (oi hm).symm).sub [] R))))))))))))))))))
 refine .iter (fun (st7 : Int × Int) => ⟨[(8, .i st7.1), (7, .i st7.2), (6, .i (p0.length : Int)), (0, .f qI p0), (1, .i p1)], [], 0⟩) eo7 [] R ?_
 intro st7 res7 hm ih7 ho7
 unfold yO at hm
 refine .seq (.seq (.reg (.mv R (.mv R (.bi R (.nil (.seqN ?_)))))))
 rcases ifS hm with ⟨hc, hm⟩ | ⟨hc, hm⟩
 ·refine .cT R hc ?_
  refine .skip (.seqN (.block (.seq (.reg (.mv R (.mv R (.bi R (.op (O.cv Tryz.underlying3 Tryz.underlying216 Z R R) R (.op (O.shr Z R R (by decide) R) R (.op (O.cv Tryz.underlying216 Tryz.underlying3 Z R R) R (.sa R (.nil (.seqN (.seq (.reg (.mv R (.mv R (bS hm fun x23 ex23 hm => .op (O.ix sl22 Z R R ex23 R) R (.op (O.ld nag3 Z R (.E lv3) R R) R (.mv R (bS hm fun r24 er24 hm => .op (O.ca0 (y9h er24) cf150 R R Z R R R) R (.nil (.seqN ?_)))))))))))))))))))))))
  rcases ifS hm with ⟨hc, hm⟩ | ⟨hc, hm⟩
  ·refine .cT R hc ?_
   exact .reg (.mv R (.bi R (.sa R (.nil (.blkN ((ih7 _ (oi hm).symm).sub [] R))))))
  ·refine .cF R hc ?_
   exact .reg (.mv R (.sa R (.nil (.blkN ((ih7 _ (oi hm).symm).sub [] R)))))
 ·refine .cF R hc ?_
  exact .exit (.seqX (.seqX ((K9 _ (ho7 _ (oi hm).symm)).sub [] R)))
def yn (p0 : List Int) (p1 : Int) : Option Bool :=
 (y1e p0 p1).bind fun r1 =>
 some r1.2
theorem yU {p0 : List Int} {p1 : Int} {r : Bool} (hm : yn p0 p1 = some r) :
  Fw Tryz.prog 68 ⟨0, []⟩ [.f qI p0, .i p1] [] (.b r) [] := by
 unfold yn at hm
 refine Fw.mk' Tryz.func68 R Tryz.ntmps68 R R (fun C => ?_) R R
 refine .seq (.reg (.sa R (.nil (.seqN (.seq (.reg (.mv R (.mv R (bS hm fun r1 er1 hm => .op (O.ca0 (y4G er1) cf118 R R Z R R R) R (.mv R (.op (O.ex Z R R R) R (.op (O.ex Z R R R) R (.sa R (.sa R (.nil (.seqN (.seq (.reg (.mv R (.sa R (.nil (.seqN (.ret ?_)))))))))))))))))))))))
 obtain rfl := oi hm
 exact WX.rt [] (.inl R) Tryz.results68 (.tmp R .nil) R (fun _ _ _ h => h) trivial
def y1E (p0 : (List AutT) × List Int × (List (List KeyT))) (p1 : List Int) (st6 : Int) : Option (Int ⊕ (Unit ⊕ Unit)) :=
 if decide (st6 < (p0.1.length : Int)) then
  (idx p0.1 st6).bind fun x11 =>
  (idx p1 st6).bind fun x12 =>
  (yn x11.2.2.1 x12).bind fun r13 =>
  if (!r13) then
   some (.inr (.inr (())))
  else
   some (.inl (W (st6 + 1)))
 else
  some (.inr (.inl ()))
def yv (p0 : (List AutT) × List Int × (List (List KeyT))) (p1 : List Int) : Option Bool :=
 (iter (y1E p0 p1) 0).bind fun o6 =>
 match o6 with
 | .inl u7 =>
  some true
 | .inr (u9) =>
  some false
theorem y6j {p0 : (List AutT) × List Int × (List (List KeyT))} {p1 : List Int} {r : Bool} (hm : yv p0 p1 = some r) :
  Fw Tryz.prog 80 ⟨0, []⟩ [.a [lF rE25 p0.1, lF qI p0.2.1, lF (rM kvP qI) p0.2.2], .f qI p1] [] (.b r) [] := by
 unfold yv at hm
 refine Fw.mk' Tryz.func80 R Tryz.ntmps80 R R (fun C => ?_) R R
 refine .seq (.reg (.op (O.box 0 R Z R R R) R (.sa R (.nil (.seqN (.seq (.seq (.reg (.op (O.faP y8P Z R R) R (.op (O.ld nag73 Z R (.B R) R R) R (.op (O.len sl73 Z R R) R (.mv R (.nil (.seqN (.block (bS hm fun o6 eo6 hm => ?_))))))))))))))))
 refine .cutU (z := .exit 0) (fun u7 => .inl u7 = o6) (fun (u7 : Unit) => ⟨[], [], 0⟩) ?_ fun K8 => ?_
 ·rintro u7 rfl
  dsimp only at hm
  refine .blkE (.seqN (.seq (.reg (.sa R (.nil (.seqN (.ret ?_)))))))
  obtain rfl := oi hm
  exact WX.rt [] (.inl R) Tryz.results80 (.tmp R .nil) R (fun _ _ _ h => h) trivial
 refine .cutU (z := .ret) (fun u9 => .inr (u9) = o6) (fun (u9 : Unit) => ⟨[(4, .b false)], [], 0⟩) ?_ fun K10 => ?_
 ·rintro u9 rfl
  dsimp only at hm
  refine .blkR (.seqR ?_)
  obtain rfl := oi hm
  exact WX.rt [] (.inl R) Tryz.results80 (.tmp R .nil) R (fun _ _ _ h => h) trivial
 refine .iter (fun (st6 : Int) => ⟨[(10, .i st6), (9, .i (p0.1.length : Int)), (8, .f rE25 p0.1), (1, .f qI p1)], [], 0⟩) eo6 [] R ?_
 intro st6 res6 hm ih6 ho6
 unfold y1E at hm
 refine .seq (.reg (.bi R (.nil (.seqN (.seq ?_)))))
 rcases ifS hm with ⟨hc, hm⟩ | ⟨hc, hm⟩
 ·refine .cT R hc ?_
  refine .skip (.seqN (.seq (.block (.seq (.reg (.mv R (bS hm fun x11 ex11 hm => .op (O.ix sl73 Z R R ex11 R) R (.op (O.lg (l' := [lF qI x11.1, lI x11.2.1, lF qI x11.2.2.1, lF qT x11.2.2.2]) ag25 Z R (.E lv25) R R R) R (.op (O.al 0 R zz25 R Z R) R (.sa R (.op (O.st ag25.sz Z R R R R R) R (.nil (.seqN (.seq ?_))))))))))))))
  refine .sub (τ := ⟨[(5, .i st6), (6, .q 0 0), (10, .i st6), (9, .i (p0.1.length : Int)), (8, .f rE25 p0.1), (1, .f qI p1)], [(0, .bx 25 [lF qI x11.1, lI x11.2.1, lF qI x11.2.2.1, lF qT x11.2.2.2])], 1⟩) ?_ [] R
  refine bS hm fun x12 ex12 hm => bS hm fun r13 er13 hm => ?_
  refine .drw [(1, []), (1, [oT]), (1, []), (1, []), (1, [oF, oF, oT, oT]), (1, [oF, oF, oT, oT, oT]), (1, [oT, oT, oT, oT, oT, oT]), (1, [oT, oT, oT, oT, oT, oT, oT])] [_, _, _, _, _, _, _, _] ⟨[(22, .b (!r13)), (10, .i st6), (9, .i (p0.1.length : Int)), (8, .f rE25 p0.1), (1, .f qI p1)], [], 1⟩ ⟨O.faP y2N Z R R, O.ld nag22 Z R (.B R) R R, O.mv Z R R, O.mv Z R R, O.ix sl22 Z R R ex12 R, O.ld nag3 Z R (.E lv3) R R, O.ca0 (yU er13) cf68 R R Z R R R, O.not Z R R, trivial⟩ (by kernel_rfl) R ?_
  refine .seqN ?_
  rcases ifS hm with ⟨hc, hm⟩ | ⟨hc, hm⟩
  ·refine .cT R hc ?_
   exact .seq (.reg (.sa R (.nil (.seqN (.ret (.blkR (.seqR (.seqR ((K10 _ (ho6 _ (oi hm).symm)).sub [] R)))))))))
  ·refine .cF R hc ?_
   exact .skip (.blkN (.seqN (.reg (.bi R (.mv R (.nil ((ih6 _ (oi hm).symm).sub [] R)))))))
 ·refine .cF R hc ?_
  exact .exit (.seqX (.seqX ((K8 _ (ho6 _ (oi hm).symm)).sub [] R)))
def y1a (p0 : List Int) : Option (List Int) :=
 (app ([] : List Int) p0).bind fun x1 =>
 some x1
theorem y3Z {p0 : List Int} {r : List Int} (hm : y1a p0 = some r) :
  Fw Tryz.prog 83 ⟨0, []⟩ [.f qI p0] [] (.h 0) [ROW qI 3 r] := by
 unfold y1a at hm
 refine Fw.mk' Tryz.func83 R Tryz.ntmps83 R R (fun C => ?_) R R
 refine .seq (.reg (.sa R (.nil (.seqN (.seq (.seq (.reg (.mv R (.op (O.nil? Tryz.underlying22 Z R R R) R (.nil (.seqN ?_)))))))))))
 refine .cN R (fun hz => ?_) ?_
 ·subst hz
  replace hm : some ([] : List Int) = some r := by simpa [app, slc, slc3] using hm
  refine .seq (.reg (.sa R (.nil (.seqN (.ret (.seqR (.nlg qI 3 2 0 R R ?_)))))))
  obtain rfl := oi hm
  exact WX.rt [0] (.inl R) Tryz.results83 (.tmp R .nil) R (fun _ _ _ h => h) ⟨⟨_, R, fun _ _ _ _ h => h⟩, trivial⟩
 ·skip
  refine .skip (.seqN (.seq (.reg (.op (O.b0O (r := qI) 0 R bs22 R Z R) R (.mv R (bS hm fun x1 ex1 hm => .op (O.ap 1 Tryz.underlying22 el3 R R Z R R (.fr R) ex1 R) R (.sa R (.nil (.seqN (.ret ?_))))))))))
  obtain rfl := oi hm
  exact WX.rt [1] (.inl R) Tryz.results83 (.tmp R .nil) R (fun _ _ _ h => h) ⟨⟨_, R, fun _ _ _ _ h => h⟩, trivial⟩
def yp (st14 : Int × List Int) (l20 : List Int) : Option ((Int × List Int) ⊕ ((List Int) ⊕ Unit)) :=
 some (.inl (W (st14.1 + 1), l20))
def yk (p0 : (List AutT) × List Int × (List (List KeyT))) (p1 : List Int) (p2 : Int) (st14 : Int × List Int) : Option ((Int × List Int) ⊕ ((List Int) ⊕ Unit)) :=
 if decide (st14.1 < (p0.1.length : Int)) then
  (idx p0.1 st14.1).bind fun x22 =>
  (yn x22.1 p2).bind fun r23 =>
  if (!r23) then
   yp st14 st14.2
  else
   (idx p0.2.2 st14.1).bind fun x24 =>
   (idx p1 st14.1).bind fun x25 =>
   if (!((kget x24 (x25, p2)).isSome)) then
    some (.inr (.inr (())))
   else
    (idx st14.2 st14.1).bind fun x26 =>
    (upd st14.2 st14.1 ((kget x24 (x25, p2)).getD 0)).bind fun x27 =>
    yp st14 x27
 else
  some (.inr (.inl st14.2))
def yu (p0 : (List AutT) × List Int × (List (List KeyT))) (p1 : List Int) (p2 : Int) : Option (List Int × Bool) :=
 (y1a p1).bind fun r1 =>
 (iter (yk p0 p1 p2) (0, r1)).bind fun o14 =>
 match o14 with
 | .inl u16 =>
  some (u16, true)
 | .inr (u18) =>
  some (([] : List Int), false)
theorem y4S {p0 : (List AutT) × List Int × (List (List KeyT))} {p1 : List Int} {p2 : Int} {r : List Int × Bool} (hm : yu p0 p1 p2 = some r) :
  Fw Tryz.prog 81 ⟨0, []⟩ [.a [lF rE25 p0.1, lF qI p0.2.1, lF (rM kvP qI) p0.2.2], .f qI p1, .i p2] [] (.tp [.h 0, .b r.2]) [ROW qI 3 r.1] := by
 unfold yu at hm
 refine Fw.mk' Tryz.func81 R Tryz.ntmps81 R R (fun C => ?_) R R
 refine .seq (.reg (.op (O.box 0 R Z R R R) R (.sa R (.sa R (.nil (.seqN (.seq (.reg (.mv R (bS hm fun r1 er1 hm => .op (O.ca (r' := .h 1) [1] [(0, ROW qI 3 r1)] (some 2) (y3Z er1) cf83 R R Z R R R R ⟨⟨_, R, fun _ _ _ _ h => h⟩, trivial⟩ (fun _ _ _ h => h) R) R (.sa R (.nil (.seqN (.seq (.seq (.reg (.op (O.faP y8P Z R R) R (.op (O.ld nag73 Z R (.B R) R R) R (.op (O.len sl73 Z R R) R (.mv R (.nil (.seqN (.block (bS hm fun o14 eo14 hm => ?_))))))))))))))))))))))))
 refine .cutU (z := .exit 0) (fun u16 => .inl u16 = o14) (fun (u16 : List Int) => ⟨[(8, .h 0)], [(0, ROW qI 3 u16)], 1⟩) ?_ fun K17 => ?_
 ·rintro u16 rfl
  dsimp only at hm
  refine .blkE (.seqN (.seq (.reg (.mv R (.sa R (.sa R (.nil (.seqN (.ret ?_)))))))))
  obtain rfl := oi hm
  exact WX.rt [0] (.inl R) Tryz.results81 (.tmp R (.tmp R .nil)) R (fun _ _ _ h => h) ⟨⟨_, R, fun _ _ _ _ h => h⟩, trivial⟩
 refine .cutU (z := .ret) (fun u18 => .inr (u18) = o14) (fun (u18 : Unit) => ⟨[(7, .b false), (6, .o (lN))], [], 0⟩) ?_ fun K19 => ?_
 ·rintro u18 rfl
  dsimp only at hm
  refine .blkR (.seqR (.nlg qI 3 6 0 R R ?_))
  obtain rfl := oi hm
  exact WX.rt [0] (.inl R) Tryz.results81 (.tmp R (.tmp R .nil)) R (fun _ _ _ h => h) ⟨⟨_, R, fun _ _ _ _ h => h⟩, trivial⟩
 refine .iter (fun (st14 : Int × List Int) => ⟨[(18, .i st14.1), (17, .i (p0.1.length : Int)), (16, .f rE25 p0.1), (8, .h 0), (3, .q 1 0), (1, .f qI p1), (2, .i p2)], [(0, ROW qI 3 st14.2), (1, .bx 138 [lF rE25 p0.1, lF qI p0.2.1, lF (rM kvP qI) p0.2.2])], 2⟩) eo14 [(0, 1), (1, 0)] R ?_
 intro st14 res14 hm ih14 ho14
 unfold yk at hm
 refine .seq (.reg (.bi R (.nil (.seqN (.seq ?_)))))
 rcases ifS hm with ⟨hc, hm⟩ | ⟨hc, hm⟩
 ·refine .cT R hc ?_
  refine .skip (.seqN ?_)
  refine .join1 (fun (l20 : List Int) => yp st14 l20 = some res14) (fun l20 => ⟨[(18, .i st14.1), (17, .i (p0.1.length : Int)), (16, .f rE25 p0.1), (8, .h 0), (3, .q 1 0), (1, .f qI p1), (2, .i p2)], [(0, ROW qI 3 l20), (1, .bx 138 [lF rE25 p0.1, lF qI p0.2.1, lF (rM kvP qI) p0.2.2])], 2⟩) ?_ ?_
  ·intro l20 hm
   unfold yp at hm
   exact .reg (.bi R (.mv R (.nil ((ih14 _ (oi hm).symm).sub [] R))))
  ·intro Jj21
   refine .block (.seq (.reg (.mv R (bS hm fun x22 ex22 hm => .op (O.ix sl73 Z R R ex22 R) R (.op (O.lg (l' := [lF qI x22.1, lI x22.2.1, lF qI x22.2.2.1, lF qT x22.2.2.2]) ag25 Z R (.E lv25) R R R) R (.op (O.al 2 R zz25 R Z R) R (.sa R (.op (O.st ag25.sz Z R R R R R) R (.nil (.seqN (.seq (.seq (.reg (.op (O.faP y1D Z R R) R (.op (O.ld nag22 Z R (.B R) R R) R (.mv R (bS hm fun r23 er23 hm => .op (O.ca0 (yU er23) cf68 R R Z R R R) R (.op (O.not Z R R) R (.nil (.seqN ?_))))))))))))))))))))
   rcases ifS hm with ⟨hc, hm⟩ | ⟨hc, hm⟩
   ·refine .cT R hc ?_
    exact .exit (.seqX (.blkE ((Jj21 _ hm).sub [] R)))
   ·refine .cF R hc ?_
    refine .skip (.seqN (.seq ?_))
    refine .sub (τ := ⟨[(9, .i st14.1), (18, .i st14.1), (17, .i (p0.1.length : Int)), (16, .f rE25 p0.1), (8, .h 0), (3, .q 1 0), (1, .f qI p1), (2, .i p2)], [(0, ROW qI 3 st14.2), (1, .bx 138 [lF rE25 p0.1, lF qI p0.2.1, lF (rM kvP qI) p0.2.2])], 3⟩) ?_ [] R
    refine bS hm fun x24 ex24 hm => bS hm fun x25 ex25 hm => ?_
    refine .drw [(3, []), (3, [oT]), (3, []), (3, [oT, oT, oT]), (3, [oT, oT, oT, oT]), (3, []), (3, []), (3, [oF, oF, oF, oF, oF, oT, oT]), (3, [oF, oF, oF, oF, oF, oT, oT, oT]), (3, []), (3, [oF, oF, oF, oF, oF, oT, oT, oT, oT, oT]), (3, [oT, oT, oT, oT, oT, oT, oT, oT, oT, oT, oT]), (3, [oT, oT, oT, oT, oT, oT, oT, oT, oT, oT, oT, oT]), (3, [oT, oT, oT, oT, oT, oT, oT, oT, oT, oT, oT, oT, oT]), (3, [oT, oT, oT, oT, oT, oT, oT, oT, oT, oT, oT, oT, oT]), (3, [oT, oT, oT, oT, oT, oT, oT, oT, oT, oT, oT, oT, oT, oT]), (3, [oT, oT, oT, oT, oT, oT, oT, oT, oT, oT, oT, oT, oT, oT, oT, oT])] [_, _, _, _, _, _, _, _, _, _, _, _, _, _, _, _, _] ⟨[(12, .b ((kget x24 (x25, p2)).isSome)), (11, .i ((kget x24 (x25, p2)).getD 0)), (9, .i st14.1), (18, .i st14.1), (17, .i (p0.1.length : Int)), (16, .f rE25 p0.1), (8, .h 0), (3, .q 1 0), (1, .f qI p1), (2, .i p2)], [(0, ROW qI 3 st14.2), (1, .bx 138 [lF rE25 p0.1, lF qI p0.2.1, lF (rM kvP qI) p0.2.2])], 3⟩ ⟨O.faP y9X Z R R, O.ld yb2 Z R (.B R) R R, O.mv Z R R, O.ix sl136 Z R R ex24 R, O.ld yb3 Z R (.E lv106) R R, O.mv Z R R, O.mv Z R R, O.ix sl22 Z R R ex25 R, O.ld nag3 Z R (.E lv3) R R, O.mv Z R R, O.bu (l := [lI x25, lI p2]) pl190 R Z R R R, O.mi2 (k := (x25, p2)) md106 Z (.fr R) (.a R R) R, O.mv Z R R, O.ex Z R R R, O.ex Z R R R, O.as Z R R, O.as Z R R, trivial⟩ (by kernel_rfl) R ?_
    refine .seqN (.seq (.seq (.reg (.mv R (.op (O.not Z R R) R (.nil (.seqN ?_)))))))
    rcases ifS hm with ⟨hc, hm⟩ | ⟨hc, hm⟩
    ·refine .cT R hc ?_
     exact .seq (.reg (.sa R (.sa R (.nil (.seqN (.ret (.seqR (.blkR (.seqR (.seqR ((K19 _ (ho14 _ (oi hm).symm)).sub [] R)))))))))))
    ·refine .cF R hc ?_
     exact .skip (.seqN (.reg (.mv R (.mv R (.mv R (bS hm fun x26 ex26 hm => .op (O.ir sl22 Z R R R ex26 R) R (bS hm fun x27 ex27 hm => .op (O.su (z := ((kget x24 (x25, p2)).getD 0)) nag3.sz Z R R ex26 ex27 R R R lv3 R .k) R (.nil (.blkN ((Jj21 _ hm).sub [] R))))))))))
 ·refine .cF R hc ?_
  exact .exit (.seqX (.seqX ((K17 _ (ho14 _ (oi hm).symm)).sub [] R)))
def y1n (st99 : Int × (List (ByteArray × Int)) × List (List Int) × EdgL) (l107 : List (ByteArray × Int)) (l108 : List (List Int)) (l109 : List (Int × Int × Int)) : Option ((Int × (List (ByteArray × Int)) × List (List Int) × EdgL) ⊕ (((List (ByteArray × Int)) × List (List Int) × EdgL) ⊕ Unit)) :=
 some (.inl (W (st99.1 + 1), l107, l108, l109))
def y1o (st66 : Int × (List (ByteArray × Int)) × List (List Int) × List Int × EdgL) (st99 : Int × (List (ByteArray × Int)) × List (List Int) × EdgL) (x111 : Int) (l115 : List (List Int)) (n116 : Int) (l117 : List (ByteArray × Int)) : Option ((Int × (List (ByteArray × Int)) × List (List Int) × EdgL) ⊕ (((List (ByteArray × Int)) × List (List Int) × EdgL) ⊕ Unit)) :=
 (app st99.2.2.2 ([(st66.1, x111, n116)] : List (Int × Int × Int))).bind fun x119 =>
 y1n st99 l117 l115 x119
def y1p (r2 : ((List AutT) × List Int × (List (List KeyT)))) (st66 : Int × (List (ByteArray × Int)) × List (List Int) × List Int × EdgL) (st99 : Int × (List (ByteArray × Int)) × List (List Int) × EdgL) : Option ((Int × (List (ByteArray × Int)) × List (List Int) × EdgL) ⊕ (((List (ByteArray × Int)) × List (List Int) × EdgL) ⊕ Unit)) :=
 if decide (st99.1 < (r2.2.1.length : Int)) then
  (idx r2.2.1 st99.1).bind fun x111 =>
  (idx st99.2.2.1 st66.1).bind fun x112 =>
  (yu r2 x112 x111).bind fun r113 =>
  if (!r113.2) then
   y1n st99 st99.2.1 st99.2.2.1 st99.2.2.2
  else
   (y3l r113.1).bind fun r114 =>
   if (!((kget st99.2.1 r114).isSome)) then
    if ((st99.2.2.1.length : Int) == 4096) then
     some (.inr (.inr (())))
    else
     (y3l r113.1).bind fun r120 =>
     (app st99.2.2.1 ([r113.1] : List (List Int))).bind fun x121 =>
     y1o st66 st99 x111 x121 (st99.2.2.1.length : Int) (kput st99.2.1 r120 (st99.2.2.1.length : Int))
   else
    y1o st66 st99 x111 st99.2.2.1 ((kget st99.2.1 r114).getD 0) st99.2.1
 else
  some (.inr (.inl st99.2))
def y1q (r2 : ((List AutT) × List Int × (List (List KeyT)))) (st66 : Int × (List (ByteArray × Int)) × List (List Int) × List Int × EdgL) (l74 : List Int) : Option ((Int × (List (ByteArray × Int)) × List (List Int) × List Int × EdgL) ⊕ ((List (List Int) × List Int × EdgL) ⊕ Unit)) :=
 (iter (y1p r2 st66) (0, st66.2.1, st66.2.2.1, st66.2.2.2.2)).bind fun o99 =>
 match o99 with
 | .inl u103 =>
  some (.inl (W (st66.1 + 1), u103.1, u103.2.1, l74, u103.2.2))
 | .inr (u105) =>
  some (.inr (.inr (())))
def y1r (r2 : ((List AutT) × List Int × (List (List KeyT)))) (st66 : Int × (List (ByteArray × Int)) × List (List Int) × List Int × EdgL) : Option ((Int × (List (ByteArray × Int)) × List (List Int) × List Int × EdgL) ⊕ ((List (List Int) × List Int × EdgL) ⊕ Unit)) :=
 if decide (st66.1 < (st66.2.2.1.length : Int)) then
  (idx st66.2.2.1 st66.1).bind fun x122 =>
  (yv r2 x122).bind fun r123 =>
  if r123 then
   (app st66.2.2.2.1 ([st66.1] : List Int)).bind fun x124 =>
   y1q r2 st66 x124
  else
   y1q r2 st66 st66.2.2.2.1
 else
  some (.inr (.inl st66.2.2))
def yi (p0 : List AutT) : Option (AutT × List (List Int) × Int) :=
 (y2B p0).bind fun r1 =>
 if (r1 != 0) then
  some ((([] : List Int), 0, ([] : List Int), ([] : List (Int × Int × Int))), ([] : List (List Int)), r1)
 else
  (y2p p0).bind fun r2 =>
  (yo r2).bind fun r3 =>
  if (!r3.2) then
   some ((r2.2.1, 0, ([] : List Int), ([] : List (Int × Int × Int))), ([] : List (List Int)), 0)
  else
   (y3l r3.1).bind fun r4 =>
   (iter (y1r r2) (0, (kput ([] : List (ByteArray × Int)) r4 0), ([r3.1] : List (List Int)), ([] : List Int), ([] : List (Int × Int × Int)))).bind fun o66 =>
   match o66 with
   | .inl u70 =>
    some ((r2.2.1, (u70.1.length : Int), u70.2), u70.1, 0)
   | .inr (u72) =>
    some ((([] : List Int), 0, ([] : List Int), ([] : List (Int × Int × Int))), ([] : List (List Int)), 3)
theorem y3n {p0 : List AutT} {r : AutT × List (List Int) × Int} (hm : yi p0 = some r) :
  Fw Tryz.prog 34 ⟨0, []⟩ [.f rE25 p0] [] (.tp [.a [lF qI r.1.1, lI r.1.2.1, lH 0, lH 1], .h 2, .i r.2.2]) [ROW qI 3 r.1.2.2.1, ROW qT 97 r.1.2.2.2, ROW (rL qI) 22 r.2.1] := by
 unfold yi at hm
 refine Fw.mk' Tryz.func34 R Tryz.ntmps34 R R (fun C => ?_) R R
 refine .seq (.reg (.op (O.al 0 R zz25 R Z R) R (.sa R (.sa R (.nil (.seqN (.seq (.seq (.reg (.mv R (bS hm fun r1 er1 hm => .op (O.ca0 (y6n er1) cf76 R R Z R R R) R (.sa R (.nil (.seqN (.seq (.reg (.mv R (.bi R (.nil (.seqN ?_))))))))))))))))))))
 rcases ifS hm with ⟨hc, hm⟩ | ⟨hc, hm⟩
 ·refine .cT R hc ?_
  refine .seq (.reg (.op (O.bu (l := [lN, lI 0, lN, lN]) pl25 R Z R R R) R (.mv R (.op (O.st ag25.sz Z R R R R R) R (.sa R (.sa R (.nil (.seqN (.ret (.seqR (.nlb qI 3 0 2 R R (.nlb qT 97 0 3 R R (.cno 0 R (.c (.nf (r := qI)) .rf) R (.nlg (rL qI) 22 3 0 R R ?_))))))))))))))
  obtain rfl := oi hm
  exact WX.rt [1, 2, 3] (.inl R) Tryz.results34 (.cell R R ag25 R (.tmp R (.tmp R .nil))) R (fun _ _ _ h => h) ⟨⟨_, R, fun _ _ _ _ h => h⟩, ⟨_, R, fun _ _ _ _ h => h⟩, ⟨_, R, fun _ _ _ _ h => h⟩, trivial⟩
 ·refine .cF R hc ?_
  refine .skip (.seqN (.seq (.reg (.mv R (bS hm fun r2 er2 hm => .op (O.ca (r' := .g [lF rE25 r2.1, lH 1, lH 2]) [1, 2] [(0, ROW qI 3 r2.2.1), (1, ROW (rM kvP qI) 106 r2.2.2)] (some 3) (y6K er2) cf77 R R Z R R R R ⟨⟨_, R, fun _ _ _ _ h => h⟩, ⟨_, R, fun _ _ _ _ h => h⟩, trivial⟩ (fun _ _ _ h => h) R) R (.op (O.al 3 R zz138 R Z R) R (.op (O.st ag138.sz Z R R R R R) R (.nil (.seqN (.seq (.reg (.op (O.faP ybG Z R R) R (.op (O.ld nag22 Z R (.B R) R R) R (.op (O.faP y1D Z R R) R (.op (O.st nag22.sz Z R R R R R) R (.nil (.seqN (.seq (.reg (.op (O.lg (l' := [lF rE25 r2.1, lH 1, lH 2]) ag138 Z R (.B R) R R R) R (.fz 1 [29] [0, 3] R R fR R R (.fz 2 [29] [3] R R fR R R (bS hm fun r3 er3 hm => .op (O.ca (r' := .tp [.h 4, .b r3.2]) [4] [(0, ROW qI 3 r3.1)] (some 5) (y6c er3) cf78 R R Z R R R R ⟨⟨_, R, fun _ _ _ _ h => h⟩, trivial⟩ (fun _ _ _ h => h) R) R (.mv R (.op (O.ex Z R R R) R (.op (O.ex Z R R R) R (.sa R (.sa R (.nil (.seqN (.seq (.seq (.reg (.mv R (.op (O.not Z R R) R (.nil (.seqN ?_)))))))))))))))))))))))))))))))))))))
  rcases ifS hm with ⟨hc, hm⟩ | ⟨hc, hm⟩
  ·refine .cT R hc ?_
   refine .seq (.reg (.op (O.lg (l' := [lF qI r2.2.1, lI 0, lN, lN]) ag25 Z R (.B R) R R R) R (.op (O.st ag25.sz Z R R R R R) R (.sa R (.sa R (.nil (.seqN (.ret (.seqR (.nlb qI 3 0 2 R R (.nlb qT 97 0 3 R R (.nlg (rL qI) 22 3 0 R R ?_))))))))))))
   obtain rfl := oi hm
   exact WX.rt [5, 6, 7] (.inl R) Tryz.results34 (.cell R R ag25 R (.tmp R (.tmp R .nil))) R (fun _ _ _ h => h) ⟨⟨_, R, fun _ _ _ _ h => h⟩, ⟨_, R, fun _ _ _ _ h => h⟩, ⟨_, R, fun _ _ _ _ h => h⟩, trivial⟩
  ·refine .cF R hc ?_
   refine .skip (.seqN (.seq (.reg (.mv R (.fz 4 [36, 7] [] R R fR R R (.op (O.bsO (r := (rL qI)) (zs := ([r3.1] : List (List Int))) 5 R bs34 R R Z R R R (.c .l .n) R R R) R (.sa R (.nil (.seqN (.seq (.reg (.op (O.mk2 (kv := kvS) (r := qI) 6 R Z R) R (.mv R (bS hm fun r4 er4 hm => .op (O.ca0 (y5E er4) cf79 R R Z R R R) R (.op (O.ins (k := r4) (v := 0) md143 (fun _ _ => eqS) Z R R (.o R) R .k) R (.mv R (.sa R (.nil (.seqN (.seq (.seq (.reg (.sa R (.nil (.seqN (.block (bS hm fun o66 eo66 hm => ?_)))))))))))))))))))))))))))
   refine .cutU (z := .exit 0) (fun u70 => .inl u70 = o66) (fun (u70 : List (List Int) × List Int × EdgL) => ⟨[(3, .h 0), (2, .q 1 0)], [(0, ROW (rL qI) 22 u70.1), (1, .bx 25 [lF qI r2.2.1, lI 0, lH 2, lH 3]), (2, ROW qI 3 u70.2.1), (3, ROW qT 97 u70.2.2)], 4⟩) ?_ fun K71 => ?_
   ·rintro u70 rfl
    dsimp only at hm
    refine .blkE (.seqN (.seq (.reg (.mv R (.op (O.lenH sl34 Z R R R) R (.op (O.faP yW Z R R) R (.op (O.st nag3.sz Z R R R R R) R (.nil (.seqN (.seq (.reg (.op (O.lg (l' := [lF qI r2.2.1, lI (u70.1.length : Int), lH 2, lH 3]) ag25 Z R (.B R) R R R) R (.mv R (.op (O.st ag25.sz Z R R R R R) R (.sa R (.sa R (.nil (.seqN (.ret ?_)))))))))))))))))))
    obtain rfl := oi hm
    exact WX.rt [2, 3, 0] (.inl R) Tryz.results34 (.cell R R ag25 R (.tmp R (.tmp R .nil))) R (fun _ _ _ h => h) ⟨⟨_, R, fun _ _ _ _ h => h⟩, ⟨_, R, fun _ _ _ _ h => h⟩, ⟨_, R, fun _ _ _ _ h => h⟩, trivial⟩
   refine .cutU (z := .ret) (fun u72 => .inr (u72) = o66) (fun (u72 : Unit) => ⟨[(4, .i 3), (3, .o (lN)), (2, .q 0 0)], [(0, .bx 25 [lN, lI 0, lN, lN])], 1⟩) ?_ fun K73 => ?_
   ·rintro u72 rfl
    dsimp only at hm
    refine .blkR (.seqR (.nlb qI 3 0 2 R R (.nlb qT 97 0 3 R R (.cno 0 R (.c (.nf (r := qI)) .rf) R (.nlg (rL qI) 22 3 0 R R ?_)))))
    obtain rfl := oi hm
    exact WX.rt [1, 2, 3] (.inl R) Tryz.results34 (.cell R R ag25 R (.tmp R (.tmp R .nil))) R (fun _ _ _ h => h) ⟨⟨_, R, fun _ _ _ _ h => h⟩, ⟨_, R, fun _ _ _ _ h => h⟩, ⟨_, R, fun _ _ _ _ h => h⟩, trivial⟩
   refine .nlb qI 3 0 2 R R (.nlb qT 97 0 3 R R (.iter (fun (st66 : Int × (List (ByteArray × Int)) × List (List Int) × List Int × EdgL) => ⟨[(10, .i st66.1), (9, .h 0), (3, .h 1), (6, .q 2 0), (2, .q 3 0)], [(0, MAP kvS qI 143 st66.2.1), (1, ROW (rL qI) 22 st66.2.2.1), (2, .bx 138 [lF rE25 r2.1, lF qI r2.2.1, lF (rM kvP qI) r2.2.2]), (3, .bx 25 [lF qI r2.2.1, lI 0, lH 4, lH 5]), (4, ROW qI 3 st66.2.2.2.1), (5, ROW qT 97 st66.2.2.2.2)], 6⟩) eo66 [(0, 6), (1, 5), (2, 3), (3, 0), (4, 7), (5, 8)] R ?_))
   intro st66 res66 hm ih66 ho66
   unfold y1r at hm
   refine .seq (.seq (.reg (.mv R (.mv R (.op (O.lenH sl34 Z R R R) R (.bi R (.nil (.seqN ?_))))))))
   rcases ifS hm with ⟨hc, hm⟩ | ⟨hc, hm⟩
   ·refine .cT R hc ?_
    refine .skip (.seqN (.seq (.block ?_)))
    refine .join1 (fun (l74 : List Int) => y1q r2 st66 l74 = some res66) (fun l74 => ⟨[(10, .i st66.1), (9, .h 0), (3, .h 1), (6, .q 2 0), (2, .q 3 0)], [(0, MAP kvS qI 143 st66.2.1), (1, ROW (rL qI) 22 st66.2.2.1), (2, .bx 138 [lF rE25 r2.1, lF qI r2.2.1, lF (rM kvP qI) r2.2.2]), (3, .bx 25 [lF qI r2.2.1, lI 0, lH 4, lH 5]), (4, ROW qI 3 l74), (5, ROW qT 97 st66.2.2.2.2)], 6⟩) ?_ ?_
    ·intro l74 hm
     unfold y1q at hm
     refine .seq (.reg (.op (O.faP ybG Z R R) R (.op (O.ld nag22 Z R (.B R) R R) R (.op (O.len sl22 Z R R) R (.mv R (.nil (.seqN (.block (bS hm fun o99 eo99 hm => ?_)))))))))
     refine .cutU (z := .exit 2) (fun u103 => .inl u103 = o99) (fun (u103 : (List (ByteArray × Int)) × List (List Int) × EdgL) => ⟨[(10, .i st66.1), (9, .h 0), (3, .h 1), (6, .q 2 0), (2, .q 3 0)], [(0, MAP kvS qI 143 u103.1), (1, ROW (rL qI) 22 u103.2.1), (2, .bx 138 [lF rE25 r2.1, lF qI r2.2.1, lF (rM kvP qI) r2.2.2]), (3, .bx 25 [lF qI r2.2.1, lI 0, lH 4, lH 5]), (4, ROW qI 3 l74), (5, ROW qT 97 u103.2.2)], 6⟩) ?_ fun K104 => ?_
     ·rintro u103 rfl
      dsimp only at hm
      exact .blkE (.blkN (.seqN (.reg (.mv R (.bi R (.sa R (.nil ((ih66 _ (oi hm).symm).sub [] R))))))))
     refine .cutU (z := .ret) (fun u105 => .inr (u105) = o99) (fun (u105 : Unit) => ⟨[(4, .i 3), (3, .o (lN)), (2, .q 0 0)], [(0, .bx 25 [lN, lI 0, lN, lN])], 1⟩) ?_ fun K106 => ?_
     ·rintro u105 rfl
      dsimp only at hm
      exact .blkR (.blkR (.seqR (.seqR ((K73 _ (ho66 _ (oi hm).symm)).sub [] R))))
     refine .iter (fun (st99 : Int × (List (ByteArray × Int)) × List (List Int) × EdgL) => ⟨[(63, .i st99.1), (62, .i (r2.2.1.length : Int)), (61, .f qI r2.2.1), (10, .i st66.1), (9, .h 0), (3, .h 1), (6, .q 2 0), (2, .q 3 0)], [(0, MAP kvS qI 143 st99.2.1), (1, ROW (rL qI) 22 st99.2.2.1), (2, .bx 138 [lF rE25 r2.1, lF qI r2.2.1, lF (rM kvP qI) r2.2.2]), (3, .bx 25 [lF qI r2.2.1, lI 0, lH 4, lH 5]), (4, ROW qI 3 l74), (5, ROW qT 97 st99.2.2.2)], 6⟩) eo99 [] R ?_
     intro st99 res99 hm ih99 ho99
     unfold y1p at hm
     refine .seq (.reg (.bi R (.nil (.seqN (.seq ?_)))))
     rcases ifS hm with ⟨hc, hm⟩ | ⟨hc, hm⟩
     ·refine .cT R hc ?_
      refine .skip (.seqN ?_)
      refine .join3 (fun (l107 : List (ByteArray × Int)) (l108 : List (List Int)) (l109 : List (Int × Int × Int)) => y1n st99 l107 l108 l109 = some res99) (fun l107 l108 l109 => ⟨[(63, .i st99.1), (62, .i (r2.2.1.length : Int)), (61, .f qI r2.2.1), (10, .i st66.1), (9, .h 0), (3, .h 1), (6, .q 2 0), (2, .q 3 0)], [(0, MAP kvS qI 143 l107), (1, ROW (rL qI) 22 l108), (2, .bx 138 [lF rE25 r2.1, lF qI r2.2.1, lF (rM kvP qI) r2.2.2]), (3, .bx 25 [lF qI r2.2.1, lI 0, lH 4, lH 5]), (4, ROW qI 3 l74), (5, ROW qT 97 l109)], 6⟩) ?_ ?_
      ·intro l107 l108 l109 hm
       unfold y1n at hm
       exact .reg (.bi R (.mv R (.nil ((ih99 _ (oi hm).symm).sub [] R))))
      ·intro Jj110
       refine .block (.seq (.reg (bS hm fun x111 ex111 hm => .op (O.ix sl22 Z R R ex111 R) R (.op (O.ld nag3 Z R (.E lv3) R R) R (.sa R (.nil (.seqN (.seq ?_))))))))
       refine .sub (τ := ⟨[(12, .i x111), (63, .i st99.1), (62, .i (r2.2.1.length : Int)), (61, .f qI r2.2.1), (10, .i st66.1), (9, .h 0), (3, .h 1), (6, .q 2 0), (2, .q 3 0)], [(0, MAP kvS qI 143 st99.2.1), (1, ROW (rL qI) 22 st99.2.2.1), (2, .bx 138 [lF rE25 r2.1, lF qI r2.2.1, lF (rM kvP qI) r2.2.2]), (3, .bx 25 [lF qI r2.2.1, lI 0, lH 4, lH 5]), (4, ROW qI 3 l74), (5, ROW qT 97 st99.2.2.2)], 6⟩) ?_ [] R
       refine bS hm fun x112 ex112 hm => bS hm fun r113 er113 hm => ?_
       refine .drw [(6, []), (6, []), (6, []), (6, [oF, oT, oT]), (6, [oF, oT, oT, oT]), (6, []), (6, [oT, oT, oT, oT, oT, oT]), (7, [oT, oT, oT, oT, oT, oT, oT]), (7, [oT, oT, oT, oT, oT, oT, oT, oT]), (7, [oT, oT, oT, oT, oT, oT, oT, oT]), (7, [oT, oT, oT, oT, oT, oT, oT, oT, oT]), (7, [oT, oT, oT, oT, oT, oT, oT, oT, oT, oT, oT])] [_, _, _, _, _, _, _, _, _, _, _, _] ⟨[(14, .b r113.2), (13, .h 6), (12, .i x111), (63, .i st99.1), (62, .i (r2.2.1.length : Int)), (61, .f qI r2.2.1), (10, .i st66.1), (9, .h 0), (3, .h 1), (6, .q 2 0), (2, .q 3 0)], [(6, ROW qI 3 r113.1), (0, MAP kvS qI 143 st99.2.1), (1, ROW (rL qI) 22 st99.2.2.1), (2, .bx 138 [lF rE25 r2.1, lF qI r2.2.1, lF (rM kvP qI) r2.2.2]), (3, .bx 25 [lF qI r2.2.1, lI 0, lH 4, lH 5]), (4, ROW qI 3 l74), (5, ROW qT 97 st99.2.2.2)], 7⟩ ⟨O.lg (l' := [lF rE25 r2.1, lF qI r2.2.1, lF (rM kvP qI) r2.2.2]) ag138 Z R (.B R) R R R, O.mv Z R R, O.mv Z R R, O.ir sl34 Z R R R ex112 R, O.ld nag22 Z R (.R R ex112 lv22) R R, O.mv Z R R, O.ca (r' := .tp [.h 6, .b r113.2]) [6] [(0, ROW qI 3 r113.1)] (some 7) (y4S er113) cf81 R R Z R R R R ⟨⟨_, R, fun _ _ _ _ h => h⟩, trivial⟩ (fun _ _ _ h => h) R, O.mv Z R R, O.ex Z R R R, O.ex Z R R R, O.as Z R R, O.as Z R R, trivial⟩ (by kernel_rfl) R ?_
       refine .seqN (.seq (.seq (.reg (.mv R (.op (O.not Z R R) R (.nil (.seqN ?_)))))))
       rcases ifS hm with ⟨hc, hm⟩ | ⟨hc, hm⟩
       ·refine .cT R hc ?_
        exact .exit (.seqX (.blkE ((Jj110 _ _ _ hm).sub [] R)))
       ·refine .cF R hc ?_
        refine .skip (.seqN (.seq (.reg (.mv R (.mv R (bS hm fun r114 er114 hm => .op (O.caZ (y5E er114) cf79 R R Z R ⟨⟨R, .hr R, trivial⟩, trivial⟩ (fun _ _ _ _ _ h => h) R) R (.op (O.mi2 (k := r114) md143 Z (.ow R R) (.o R) R) R (.mv R (.op (O.ex Z R R R) R (.op (O.ex Z R R R) R (.sa R (.sa R (.nil (.seqN ?_))))))))))))))
        refine .join3 (fun (l115 : List (List Int)) (n116 : Int) (l117 : List (ByteArray × Int)) => y1o st66 st99 x111 l115 n116 l117 = some res99) (fun l115 n116 l117 => ⟨[(3, .h 0), (15, .i n116), (12, .i x111), (63, .i st99.1), (62, .i (r2.2.1.length : Int)), (61, .f qI r2.2.1), (10, .i st66.1), (9, .h 1), (6, .q 2 0), (2, .q 3 0)], [(0, ROW (rL qI) 22 l115), (1, MAP kvS qI 143 l117), (2, .bx 138 [lF rE25 r2.1, lF qI r2.2.1, lF (rM kvP qI) r2.2.2]), (3, .bx 25 [lF qI r2.2.1, lI 0, lH 4, lH 5]), (4, ROW qI 3 l74), (5, ROW qT 97 st99.2.2.2)], 6⟩) ?_ ?_
        ·intro l115 n116 l117 hm
         unfold y1o at hm
         exact .reg (.op (O.faP yz Z R R) R (.op (O.ld nag23 Z R (.B R) R R) R (.mv R (.mv R (.mv R (.op (O.bu (l := [lI st66.1, lI x111, lI n116]) pl97 R Z R R R) R (.op (O.bsF (r := qT) (zs := ([(st66.1, x111, n116)] : List (Int × Int × Int))) bs23 R R Z R R R (.c (.p .k (.p .k .k)) .n) R R R) R (bS hm fun x119 ex119 hm => .op (O.ap 6 Tryz.underlying23 el97 R R Z R R (.fr R) ex119 R) R (.op (O.faP yz Z R R) R (.op (O.st nag23.sz Z R R R R R) R (.nil (.blkN ((Jj110 _ _ _ hm).sub [(0, 1), (1, 0), (5, 6)] R)))))))))))))
        ·intro Jj118
         refine .seq (.reg (.mv R (.op (O.not Z R R) R (.nil (.seqN ?_)))))
         rcases ifS hm with ⟨hc, hm⟩ | ⟨hc, hm⟩
         ·refine .cT R hc ?_
          refine .seq (.seq (.reg (.mv R (.op (O.lenH sl34 Z R R R) R (.bi R (.nil (.seqN ?_)))))))
          rcases ifS hm with ⟨hc, hm⟩ | ⟨hc, hm⟩
          ·refine .cT R hc ?_
           exact .seq (.reg (.op (O.bu (l := [lN, lI 0, lN, lN]) pl25 R Z R R R) R (.op (O.st ag25.sz Z R R R R R) R (.sa R (.sa R (.nil (.seqN (.ret (.seqR (.seqR (.blkR (.seqR (.seqR ((K106 _ (ho99 _ (oi hm).symm)).sub [(0, 3)] R))))))))))))))
          ·refine .cF R hc ?_
           exact .skip (.seqN (.seq (.reg (.mv R (.op (O.lenH sl34 Z R R R) R (.sa R (.nil (.seqN (.seq (.reg (.mv R (.mv R (bS hm fun r120 er120 hm => .op (O.caZ (y5E er120) cf79 R R Z R ⟨⟨R, .hr R, trivial⟩, trivial⟩ (fun _ _ _ _ _ h => h) R) R (.mv R (.op (O.mu (k := r120) (v := (st99.2.2.1.length : Int)) md143 (fun _ _ => eqS) Z R R (.o R) R .k) R (.nil (.seqN (.reg (.mv R (.mv R (.fz 6 [99] [] R R fR R R (.op (O.bsF (r := (rL qI)) (zs := ([r113.1] : List (List Int))) bs34 R R Z R R R (.c .l .n) R R R) R (bS hm fun x121 ex121 hm => .op (O.ap 7 Tryz.underlying34 el22 R R Z R R (.fr R) ex121 R) R (.sa R (.nil ((Jj118 _ _ _ hm).sub [(0, 7), (1, 0)] R))))))))))))))))))))))))))
         ·refine .cF R hc ?_
          exact .skip ((Jj118 _ _ _ hm).sub [(0, 1), (1, 0)] R)
     ·refine .cF R hc ?_
      exact .exit (.seqX (.seqX ((K104 _ (ho99 _ (oi hm).symm)).sub [] R)))
    ·intro Jj75
     refine .seq ?_
     refine .sub (τ := ⟨[(10, .i st66.1), (9, .h 0), (3, .h 1), (6, .q 2 0), (2, .q 3 0)], [(0, MAP kvS qI 143 st66.2.1), (1, ROW (rL qI) 22 st66.2.2.1), (2, .bx 138 [lF rE25 r2.1, lF qI r2.2.1, lF (rM kvP qI) r2.2.2]), (3, .bx 25 [lF qI r2.2.1, lI 0, lH 4, lH 5]), (4, ROW qI 3 st66.2.2.2.1), (5, ROW qT 97 st66.2.2.2.2)], 6⟩) ?_ [] R
     refine bS hm fun x122 ex122 hm => bS hm fun r123 er123 hm => ?_
     refine .drw [(6, []), (6, []), (6, []), (6, [oF, oT, oT]), (6, [oF, oT, oT, oT]), (6, [oT, oT, oT, oT, oT])] [_, _, _, _, _, _] ⟨[(53, .b r123), (10, .i st66.1), (9, .h 0), (3, .h 1), (6, .q 2 0), (2, .q 3 0)], [(0, MAP kvS qI 143 st66.2.1), (1, ROW (rL qI) 22 st66.2.2.1), (2, .bx 138 [lF rE25 r2.1, lF qI r2.2.1, lF (rM kvP qI) r2.2.2]), (3, .bx 25 [lF qI r2.2.1, lI 0, lH 4, lH 5]), (4, ROW qI 3 st66.2.2.2.1), (5, ROW qT 97 st66.2.2.2.2)], 6⟩ ⟨O.lg (l' := [lF rE25 r2.1, lF qI r2.2.1, lF (rM kvP qI) r2.2.2]) ag138 Z R (.B R) R R R, O.mv Z R R, O.mv Z R R, O.ir sl34 Z R R R ex122 R, O.ld nag22 Z R (.R R ex122 lv22) R R, O.ca0 (y6j er123) cf80 R R Z R R R, trivial⟩ (by kernel_rfl) R ?_
     refine .seqN ?_
     rcases ifS hm with ⟨hc, hm⟩ | ⟨hc, hm⟩
     ·refine .cT R hc ?_
      exact .reg (.op (O.faP y2N Z R R) R (.op (O.ld nag22 Z R (.B R) R R) R (.mv R (.op (O.bsF (r := qI) (zs := ([st66.1] : List Int)) bs22 R R Z R R R (.c .k .n) R R R) R (bS hm fun x124 ex124 hm => .op (O.ap 6 Tryz.underlying22 el3 R R Z R R (.fr R) ex124 R) R (.op (O.faP y2N Z R R) R (.op (O.st nag22.sz Z R R R R R) R (.nil ((Jj75 _ hm).sub [(4, 6)] R)))))))))
     ·refine .cF R hc ?_
      exact .skip ((Jj75 _ hm).sub [] R)
   ·refine .cF R hc ?_
    exact .exit (.seqX (.seqX ((K71 _ (ho66 _ (oi hm).symm)).sub [(0, 1), (1, 3), (2, 4), (3, 5)] R)))
def y3z (p0 : Bool) (p1 : Bool) : Option Bool :=
 some (p0 && p1)
theorem y6L {p0 : Bool} {p1 : Bool} {r : Bool} (hm : y3z p0 p1 = some r) :
  Fw Tryz.prog 145 ⟨0, []⟩ [.b p0, .b p1] [] (.b r) [] := by
 unfold y3z at hm
 refine Fw.mk' Tryz.func145 R Tryz.ntmps145 R R (fun C => ?_) R R
 refine .seq (.reg (.sa R (.nil (.seqN (.seq (.reg (.mv R (.mv R ?_))))))))
 refine .cut 2 (fun (v1 : Bool) => (p0 && p1) = v1) (fun v1 => ⟨[(8, .b v1)], [], 0⟩) ?_ ?_
 ·rintro _ rfl
  refine .sa R (.nil (.seqN (.ret ?_)))
  obtain rfl := oi hm
  exact WX.rt [] (.inl R) Tryz.results145 (.tmp R .nil) R (fun _ _ _ h => h) trivial
 ·intro J2
  rcases Bool.eq_false_or_eq_true p0 with hc | hc
  ·refine .know (d := 6) R hc ?_
   exact .op (O.mv (Gu.mk R R) R R) R (.op (O.pkT Z R R R R) R ((J2 p1 (andT hc).symm).sub [] R))
  ·refine .know (d := 6) R hc ?_
   exact .sk R (.op (O.pkF Z R R R R) R ((J2 false (andF hc).symm).sub [] R))
def y2q (p0 : List Int) (p1 : List Int) : Option (List Int) :=
 (y2i p0 p1 y3z).bind fun r1 =>
 some r1
theorem y5l {p0 : List Int} {p1 : List Int} {r : List Int} (hm : y2q p0 p1 = some r) :
  Fw Tryz.prog 104 ⟨0, []⟩ [.f qI p0, .f qI p1] [] (.h 0) [ROW qI 3 r] := by
 unfold y2q at hm
 refine Fw.mk' Tryz.func104 R Tryz.ntmps104 R R (fun C => ?_) R R
 refine .seq (.reg (.sa R (.nil (.seqN (.seq (.reg (.mv R (.mv R (bS hm fun r1 er1 hm => .op (O.cac (r' := .h 0) [0] [(0, ROW qI 3 r1)] (some 1) (y4Q er1) cf72 R R Z R R ⟨⟨R, .rf⟩, ⟨R, .rf⟩, ⟨R, (.c (.fn cf145 (fun x r h => y6L h) (fun _ => R)) .n)⟩, trivial⟩ R ⟨⟨_, R, fun _ _ _ _ h => h⟩, trivial⟩ (fun _ _ _ h => h) R) R (.sa R (.nil (.seqN (.ret ?_)))))))))))))
 obtain rfl := oi hm
 exact WX.rt [0] (.inl R) Tryz.results104 (.tmp R .nil) R (fun _ _ _ h => h) ⟨⟨_, R, fun _ _ _ _ h => h⟩, trivial⟩
def y4w (p0 : AutT) (st6 : Int × (List KeyT)) : Option ((Int × (List KeyT)) ⊕ (List KeyT)) :=
 if decide (st6.1 < (p0.2.2.2.length : Int)) then
  (idx p0.2.2.2 st6.1).bind fun x9 =>
  some (.inl (W (st6.1 + 1), (kput st6.2 (x9.1, x9.2.1) x9.2.2)))
 else
  some (.inr st6.2)
def y3D (p0 : AutT) : Option (AutT × (List KeyT)) :=
 (iter (y4w p0) (0, ([] : List KeyT))).bind fun o6 =>
 some (p0, o6)
theorem y5a {p0 : AutT} {r : (AutT × (List KeyT))} (hm : y3D p0 = some r) :
  Fw Tryz.prog 105 ⟨0, []⟩ [.a [lF qI p0.1, lI p0.2.1, lF qI p0.2.2.1, lF qT p0.2.2.2]] [] (.g [lF qI r.1.1, lI r.1.2.1, lF qI r.1.2.2.1, lF qT r.1.2.2.2, lM kvP qI r.2]) [] := by
 unfold y3D at hm
 refine Fw.mk' Tryz.func105 R Tryz.ntmps105 R R (fun C => ?_) R R
 refine .seq (.reg (.op (O.box 0 R Z R R R) R (.op (O.al 1 R zz108 R Z R) R (.nil (.seqN (.seq (.reg (.op (O.lg (l' := [lF qI p0.1, lI p0.2.1, lF qI p0.2.2.1, lF qT p0.2.2.2]) ag25 Z R (.B R) R R R) R (.op (O.mk2 (kv := kvP) (r := qI) 2 R Z R) R (.op (O.bu (l := [lF qI p0.1, lI p0.2.1, lF qI p0.2.2.1, lF qT p0.2.2.2, lH 2]) pl108 R Z R R R) R (.op (O.al 3 R zz108 R Z R) R (.op (O.st ag108.sz Z R R R R R) R (.nil (.seqN (.seq (.seq (.reg (.op (O.faP yz Z R R) R (.op (O.ld nag23 Z R (.B R) R R) R (.op (O.len sl23 Z R R) R (.mv R (.nil (.seqN (.block (bS hm fun o6 eo6 hm => ?_)))))))))))))))))))))))))
 refine .cut1 (z := .exit 0) o6 (fun (o6 : (List KeyT)) => ⟨[(3, .q 0 0), (2, .q 2 0)], [(0, .bx 108 [lF qI p0.1, lI p0.2.1, lF qI p0.2.2.1, lF qT p0.2.2.2, lH 1]), (1, MAP kvP qI 106 o6), (2, .bx 108 [lN, lI 0, lN, lN, lV (.map none)])], 3⟩) ?_ fun K8 => ?_
 ·skip
  refine .blkE (.seqN (.seq (.reg (.op (O.lg (l' := [lF qI p0.1, lI p0.2.1, lF qI p0.2.2.1, lF qT p0.2.2.2, lH 1]) ag108 Z R (.B R) R R R) R (.op (O.st ag108.sz Z R R R R R) R (.nil (.seqN (.ret (.fz 1 [] [0, 2] R R fM R R ?_)))))))))
  obtain rfl := oi hm
  exact WX.rt [] (.inl R) Tryz.results105 (.cell R R ag108 R .nil) R (fun _ _ _ h => h) trivial
 refine .iter (fun (st6 : Int × (List KeyT)) => ⟨[(12, .i st6.1), (11, .i (p0.2.2.2.length : Int)), (10, .f qT p0.2.2.2), (3, .q 0 0), (2, .q 2 0)], [(0, .bx 108 [lF qI p0.1, lI p0.2.1, lF qI p0.2.2.1, lF qT p0.2.2.2, lH 1]), (1, MAP kvP qI 106 st6.2), (2, .bx 108 [lN, lI 0, lN, lN, lV (.map none)])], 3⟩) eo6 [(0, 3), (1, 2), (2, 1)] R ?_
 intro st6 res6 hm ih6 ho6
 unfold y4w at hm
 refine .seq (.reg (.bi R (.nil (.seqN (.seq ?_)))))
 rcases ifS hm with ⟨hc, hm⟩ | ⟨hc, hm⟩
 ·refine .cT R hc ?_
  exact .skip (.seqN (.seq (.block (.seq (.reg (bS hm fun x9 ex9 hm => .op (O.ix sl23 Z R R ex9 R) R (.op (O.lg (l' := [lI x9.1, lI x9.2.1, lI x9.2.2]) ag97 Z R (.E lv97) R R R) R (.op (O.al 3 R zz97 R Z R) R (.op (O.st ag97.sz Z R R R R R) R (.nil (.seqN (.reg (.op (O.faP ybH Z R R) R (.op (O.ld yb3 Z R (.B R) R R) R (.op (O.faP y3C Z R R) R (.op (O.ld nag3 Z R (.B R) R R) R (.op (O.faP y4D Z R R) R (.op (O.ld nag3 Z R (.B R) R R) R (.op (O.bu (l := [lI x9.1, lI x9.2.1]) pl190 R Z R R R) R (.op (O.faP y4E Z R R) R (.op (O.ld nag3 Z R (.B R) R R) R (.op (O.mu (k := (x9.1, x9.2.1)) (v := x9.2.2) md106 (fun _ _ => eqP) Z R R (.a R R) R .k) R (.nil (.blkN (.seqN (.reg (.bi R (.mv R (.nil ((ih6 _ (oi hm).symm).sub [] R))))))))))))))))))))))))))))))
 ·refine .cF R hc ?_
  exact .exit (.seqX (.seqX ((K8 _ (ho6 _ (oi hm).symm)).sub [] R)))
def y4h (p0 : AutT × AutT × List Int) (st5 : Int) : Option (Int ⊕ (Unit ⊕ Int)) :=
 if decide (st5 < (([p0.1, p0.2.1] : List AutT).length : Int)) then
  (idx ([p0.1, p0.2.1] : List AutT) st5).bind fun x19 =>
  (yH x19).bind fun r20 =>
  if (r20 != 0) then
   some (.inr (.inr (r20)))
  else
   some (.inl (W (st5 + 1)))
 else
  some (.inr (.inl ()))
def y4f (p0 : AutT × AutT × List Int) : Option ((Option ((AutT × (List KeyT)) × (AutT × (List KeyT)) × (AutT × (List KeyT)) × List (List Int) × List Int × List Int)) × Int) :=
 (iter (y4h p0) 0).bind fun o5 =>
 match o5 with
 | .inl u7 =>
  (y3S p0.2.1.1 p0.1.1).bind fun r9 =>
  if (!r9) then
   some (none, 9)
  else
   (y4p p0.2.2 32).bind fun r10 =>
   if (r10 != 0) then
    some (none, r10)
   else
    (yi ([p0.1, p0.2.1] : List AutT)).bind fun r11 =>
    if (r11.2.2 != 0) then
     some (none, r11.2.2)
    else
     (y2q p0.1.1 p0.2.2).bind fun r12 =>
     (y3D p0.1).bind fun r13 =>
     (y3D p0.2.1).bind fun r14 =>
     (y3D r11.1).bind fun r15 =>
     (y2L p0.1.1 r12).bind fun r16 =>
     some ((some (r13, r14, r15, r11.2.1, r12, r16)), 0)
 | .inr (u17) =>
  some (none, u17)
theorem y8k {p0 : AutT × AutT × List Int} {r : (Option ((AutT × (List KeyT)) × (AutT × (List KeyT)) × (AutT × (List KeyT)) × List (List Int) × List Int × List Int)) × Int} (hm : y4f p0 = some r) :
  Fw Tryz.prog 52 ⟨0, []⟩ [.a [lF qI p0.1.1, lI p0.1.2.1, lF qI p0.1.2.2.1, lF qT p0.1.2.2.2, lF qI p0.2.1.1, lI p0.2.1.2.1, lF qI p0.2.1.2.2.1, lF qT p0.2.1.2.2.2, lF qI p0.2.2]] [] (.tp [.o (lK rE110 110 r.1), .i r.2]) [] := by
 unfold y4f at hm
 refine Fw.mk' Tryz.func52 R Tryz.ntmps52 R R (fun C => ?_) R R
 refine .seq (.reg (.op (O.box 0 R Z R R R) R (.sa R (.sa R (.nil (.seqN (.seq (.seq (.reg (.op (O.faP y5i Z R R) R (.op (O.lg (l' := [lF qI p0.1.1, lI p0.1.2.1, lF qI p0.1.2.2.1, lF qT p0.1.2.2.2]) ag25 Z R (.B R) R R R) R (.op (O.faP y6I Z R R) R (.op (O.lg (l' := [lF qI p0.2.1.1, lI p0.2.1.2.1, lF qI p0.2.1.2.2.1, lF qT p0.2.1.2.2.2]) ag25 Z R (.B R) R R R) R (.op (O.bsF (r := rE25) (zs := ([p0.1, p0.2.1] : List AutT)) bs73 R R Z R R R (.c (.p .l (.p .k (.p .l .l))) (.c (.p .l (.p .k (.p .l .l))) .n)) R R R) R (.op (O.len sl73 Z R R) R (.mv R (.nil (.seqN (.block (bS hm fun o5 eo5 hm => ?_))))))))))))))))))))
 refine .cutU (z := .exit 0) (fun u7 => .inl u7 = o5) (fun (u7 : Unit) => ⟨[(1, .q 0 0)], [(0, .bx 27 [lF qI p0.1.1, lI p0.1.2.1, lF qI p0.1.2.2.1, lF qT p0.1.2.2.2, lF qI p0.2.1.1, lI p0.2.1.2.1, lF qI p0.2.1.2.2.1, lF qT p0.2.1.2.2.2, lF qI p0.2.2])], 1⟩) ?_ fun K8 => ?_
 ·rintro u7 rfl
  dsimp only at hm
  refine .blkE (.seqN (.seq (.seq (.reg (.op (O.faP y6I Z R R) R (.op (O.faP y1D Z R R) R (.op (O.ld nag22 Z R (.B R) R R) R (.op (O.faP y5i Z R R) R (.op (O.faP y1D Z R R) R (.op (O.ld nag22 Z R (.B R) R R) R (bS hm fun r9 er9 hm => .op (O.ca0 (y8o er9) cf30 R R Z R R R) R (.op (O.not Z R R) R (.nil (.seqN ?_))))))))))))))
  rcases ifS hm with ⟨hc, hm⟩ | ⟨hc, hm⟩
  ·refine .cT R hc ?_
   refine .seq (.reg (.sa R (.sa R (.nil (.seqN (.ret (.seqR (.cnt 2 R (.c (.pn (r := rE110) (T := 110)) .n) R ?_))))))))
   obtain rfl := oi hm
   exact WX.rt [] (.inl R) Tryz.results52 (.tmp R (.tmp R .nil)) R (fun _ _ _ h => h) trivial
  ·refine .cF R hc ?_
   refine .skip (.seqN (.seq (.seq (.reg (.op (O.faP y8E Z R R) R (.op (O.ld nag22 Z R (.B R) R R) R (bS hm fun r10 er10 hm => .op (O.ca0 (y7F er10) cf29 R R Z R R R) R (.sa R (.nil (.seqN (.seq (.reg (.mv R (.bi R (.nil (.seqN ?_))))))))))))))))
   rcases ifS hm with ⟨hc, hm⟩ | ⟨hc, hm⟩
   ·refine .cT R hc ?_
    refine .seq (.reg (.mv R (.sa R (.sa R (.nil (.seqN (.ret (.seqR (.cnt 2 R (.c (.pn (r := rE110) (T := 110)) .n) R ?_)))))))))
    obtain rfl := oi hm
    exact WX.rt [] (.inl R) Tryz.results52 (.tmp R (.tmp R .nil)) R (fun _ _ _ h => h) trivial
   ·refine .cF R hc ?_
    refine .skip (.seqN (.seq (.reg (.op (O.faP y5i Z R R) R (.op (O.lg (l' := [lF qI p0.1.1, lI p0.1.2.1, lF qI p0.1.2.2.1, lF qT p0.1.2.2.2]) ag25 Z R (.B R) R R R) R (.op (O.faP y6I Z R R) R (.op (O.lg (l' := [lF qI p0.2.1.1, lI p0.2.1.2.1, lF qI p0.2.1.2.2.1, lF qT p0.2.1.2.2.2]) ag25 Z R (.B R) R R R) R (.op (O.bsF (r := rE25) (zs := ([p0.1, p0.2.1] : List AutT)) bs73 R R Z R R R (.c (.p .l (.p .k (.p .l .l))) (.c (.p .l (.p .k (.p .l .l))) .n)) R R R) R (bS hm fun r11 er11 hm => .op (O.ca (r' := .tp [.a [lF qI r11.1.1, lI r11.1.2.1, lH 1, lH 2], .h 3, .i r11.2.2]) [1, 2, 3] [(0, ROW qI 3 r11.1.2.2.1), (1, ROW qT 97 r11.1.2.2.2), (2, ROW (rL qI) 22 r11.2.1)] (some 4) (y3n er11) cf34 R R Z R R R R ⟨⟨_, R, fun _ _ _ _ h => h⟩, ⟨_, R, fun _ _ _ _ h => h⟩, ⟨_, R, fun _ _ _ _ h => h⟩, trivial⟩ (fun _ _ _ h => h) R) R (.mv R (.op (O.ex Z R R R) R (.op (O.ex Z R R R) R (.op (O.ex Z R R R) R (.op (O.al 4 R zz25 R Z R) R (.op (O.st ag25.sz Z R R R R R) R (.sa R (.sa R (.nil (.seqN (.seq (.seq (.reg (.mv R (.bi R (.nil (.seqN ?_))))))))))))))))))))))))))
    rcases ifS hm with ⟨hc, hm⟩ | ⟨hc, hm⟩
    ·refine .cT R hc ?_
     refine .seq (.reg (.mv R (.sa R (.sa R (.nil (.seqN (.ret (.seqR (.cnt 2 R (.c (.pn (r := rE110) (T := 110)) .n) R ?_)))))))))
     obtain rfl := oi hm
     exact WX.rt [] (.inl R) Tryz.results52 (.tmp R (.tmp R .nil)) R (fun _ _ _ h => h) trivial
    ·refine .cF R hc ?_
     refine .skip (.seqN (.seq (.reg (.op (O.faP y5i Z R R) R (.op (O.faP y1D Z R R) R (.op (O.ld nag22 Z R (.B R) R R) R (.op (O.faP y8E Z R R) R (.op (O.ld nag22 Z R (.B R) R R) R (bS hm fun r12 er12 hm => .op (O.ca (r' := .h 5) [5] [(0, ROW qI 3 r12)] (some 6) (y5l er12) cf104 R R Z R R R R ⟨⟨_, R, fun _ _ _ _ h => h⟩, trivial⟩ (fun _ _ _ h => h) R) R (.sa R (.nil (.seqN (.seq (.fz 1 [49, 42, 48] [4] R R fR R R (.fz 2 [49, 42, 48] [4] R R fR R R (.fz 5 [11, 60] [] R R fR R R ?_))))))))))))))))
     refine .sub (τ := ⟨[(11, .f qI r12), (9, .h 3), (8, .q 4 0), (1, .q 0 0)], [(3, ROW (rL qI) 22 r11.2.1), (4, .bx 25 [lF qI r11.1.1, lI r11.1.2.1, lF qI r11.1.2.2.1, lF qT r11.1.2.2.2]), (0, .bx 27 [lF qI p0.1.1, lI p0.1.2.1, lF qI p0.1.2.2.1, lF qT p0.1.2.2.2, lF qI p0.2.1.1, lI p0.2.1.2.1, lF qI p0.2.1.2.2.1, lF qT p0.2.1.2.2.2, lF qI p0.2.2])], 6⟩) ?_ [] R
     refine bS hm fun r13 er13 hm => bS hm fun r14 er14 hm => bS hm fun r15 er15 hm => bS hm fun r16 er16 hm => ?_
     refine .drw [(6, []), (6, [oT]), (6, [oT, oT]), (6, []), (6, [oF, oF, oF, oT]), (6, [oT, oT, oT, oT, oT]), (6, []), (6, [oT, oT, oT, oT, oT, oT, oT]), (6, []), (6, []), (6, []), (6, [oF, oF, oF, oF, oF, oF, oF, oF, oF, oF, oT]), (6, [oF, oF, oF, oF, oF, oF, oF, oF, oF, oF, oT, oT]), (6, []), (6, [oT, oT, oT, oT, oT, oT, oT, oT, oF, oF, oT, oT, oT, oT]), (7, [oT, oT, oT, oT, oT, oT, oT, oT, oT, oT, oT, oT, oT, oT, oT]), (7, [oT, oT, oT, oT, oT, oT, oT, oT, oT, oT, oT, oT, oT, oT, oT, oT]), (8, [oT, oT, oT, oT, oT, oT, oT, oT, oT, oT, oT, oT, oT, oT, oT, oT, oT]), (8, [oT, oT, oT, oT, oT, oT, oT, oT, oT, oT, oT, oT, oT, oT, oT, oT, oT, oT])] [_, _, _, _, _, _, _, _, _, _, _, _, _, _, _, _, _, _, _] ⟨[(3, .i 0), (2, .q 7 0)], [(7, .bx 110 [lF qI r13.1.1, lI r13.1.2.1, lF qI r13.1.2.2.1, lF qT r13.1.2.2.2, lM kvP qI r13.2, lF qI r14.1.1, lI r14.1.2.1, lF qI r14.1.2.2.1, lF qT r14.1.2.2.2, lM kvP qI r14.2, lF qI r15.1.1, lI r15.1.2.1, lF qI r15.1.2.2.1, lF qT r15.1.2.2.2, lM kvP qI r15.2, lH 3, lF qI r12, lH 6]), (3, ROW (rL qI) 22 r11.2.1), (6, ROW qI 3 r16)], 8⟩ ⟨O.faP y5i Z R R, O.lg (l' := [lF qI p0.1.1, lI p0.1.2.1, lF qI p0.1.2.2.1, lF qT p0.1.2.2.2]) ag25 Z R (.B R) R R R, O.ca0 (y5a er13) cf105 R R Z R R R, O.faP y6I Z R R, O.lg (l' := [lF qI p0.2.1.1, lI p0.2.1.2.1, lF qI p0.2.1.2.2.1, lF qT p0.2.1.2.2.2]) ag25 Z R (.B R) R R R, O.ca0 (y5a er14) cf105 R R Z R R R, O.lg (l' := [lF qI r11.1.1, lI r11.1.2.1, lF qI r11.1.2.2.1, lF qT r11.1.2.2.2]) ag25 Z R (.B R) R R R, O.ca0 (y5a er15) cf105 R R Z R R R, O.mv Z R R, O.mv Z R R, O.faP y5i Z R R, O.faP y1D Z R R, O.ld nag22 Z R (.B R) R R, O.mv Z R R, O.ca (r' := .h 6) [6] [(0, ROW qI 3 r16)] (some 7) (y4R er16) cf26 R R Z R R R R ⟨⟨_, R, fun _ _ _ _ h => h⟩, trivial⟩ (fun _ _ _ h => h) R, O.bu (l := [lF qI r13.1.1, lI r13.1.2.1, lF qI r13.1.2.2.1, lF qT r13.1.2.2.2, lM kvP qI r13.2, lF qI r14.1.1, lI r14.1.2.1, lF qI r14.1.2.2.1, lF qT r14.1.2.2.2, lM kvP qI r14.2, lF qI r15.1.1, lI r15.1.2.1, lF qI r15.1.2.2.1, lF qT r15.1.2.2.2, lM kvP qI r15.2, lH 3, lF qI r12, lH 6]) pl110 R Z R R R, O.box 7 R Z R R R, O.as Z R R, O.as Z R R, trivial⟩ (by kernel_rfl) R ?_
     refine .seqN (.ret (.fz 3 [] [7] R R fR R R (.fz 6 [] [7] R R fR R R (.fz 7 [2] [] R R fB R R (.cnt 2 R (.c (.pk (r := rE110) (.p (.p (.p .l (.p .k (.p .l .l))) .m) (.p (.p (.p .l (.p .k (.p .l .l))) .m) (.p (.p (.p .l (.p .k (.p .l .l))) .m) (.p .l (.p .l .l)))))) .n) R ?_)))))
     obtain rfl := oi hm
     exact WX.rt [] (.inl R) Tryz.results52 (.tmp R (.tmp R .nil)) R (fun _ _ _ h => h) trivial
 refine .cutU (z := .ret) (fun u17 => .inr (u17) = o5) (fun (u17 : Int) => ⟨[(3, .i u17), (2, .o (lV (.pointer none)))], [], 0⟩) ?_ fun K18 => ?_
 ·rintro u17 rfl
  dsimp only at hm
  refine .blkR (.seqR (.cnt 2 R (.c (.pn (r := rE110) (T := 110)) .n) R ?_))
  obtain rfl := oi hm
  exact WX.rt [] (.inl R) Tryz.results52 (.tmp R (.tmp R .nil)) R (fun _ _ _ h => h) trivial
 refine .iter (fun (st5 : Int) => ⟨[(18, .i st5), (17, .i (([p0.1, p0.2.1] : List AutT).length : Int)), (16, .f rE25 ([p0.1, p0.2.1] : List AutT)), (1, .q 0 0)], [(0, .bx 27 [lF qI p0.1.1, lI p0.1.2.1, lF qI p0.1.2.2.1, lF qT p0.1.2.2.2, lF qI p0.2.1.1, lI p0.2.1.2.1, lF qI p0.2.1.2.2.1, lF qT p0.2.1.2.2.2, lF qI p0.2.2])], 1⟩) eo5 [] R ?_
 intro st5 res5 hm ih5 ho5
 unfold y4h at hm
 refine .seq (.reg (.bi R (.nil (.seqN (.seq ?_)))))
 rcases ifS hm with ⟨hc, hm⟩ | ⟨hc, hm⟩
 ·refine .cT R hc ?_
  refine .skip (.seqN (.seq (.block (.seq (.reg (bS hm fun x19 ex19 hm => .op (O.ix sl73 Z R R ex19 R) R (.op (O.lg (l' := [lF qI x19.1, lI x19.2.1, lF qI x19.2.2.1, lF qT x19.2.2.2]) ag25 Z R (.E lv25) R R R) R (.op (O.al 1 R zz25 R Z R) R (.op (O.st ag25.sz Z R R R R R) R (.nil (.seqN (.seq (.reg (.op (O.lg (l' := [lF qI x19.1, lI x19.2.1, lF qI x19.2.2.1, lF qT x19.2.2.2]) ag25 Z R (.B R) R R R) R (bS hm fun r20 er20 hm => .op (O.ca0 (y2F er20) cf51 R R Z R R R) R (.sa R (.nil (.seqN (.seq (.reg (.mv R (.bi R (.nil (.seqN ?_))))))))))))))))))))))))
  rcases ifS hm with ⟨hc, hm⟩ | ⟨hc, hm⟩
  ·refine .cT R hc ?_
   exact .seq (.reg (.mv R (.sa R (.sa R (.nil (.seqN (.ret (.blkR (.seqR (.seqR ((K18 _ (ho5 _ (oi hm).symm)).sub [] R)))))))))))
  ·refine .cF R hc ?_
   exact .skip (.blkN (.seqN (.reg (.bi R (.mv R (.nil ((ih5 _ (oi hm).symm).sub [] R)))))))
 ·refine .cF R hc ?_
  exact .exit (.seqX (.seqX ((K8 _ (ho5 _ (oi hm).symm)).sub [] R)))
def y1X (p0 : AutT × (List KeyT)) (p1 : Int) (p2 : Int) : Option Int :=
 if (kget p0.2 (p1, p2)).isSome then
  some ((kget p0.2 (p1, p2)).getD 0)
 else
  some (-1)
theorem y3T {p0 : AutT × (List KeyT)} {p1 : Int} {p2 : Int} {r : Int} (hm : y1X p0 p1 p2 = some r) :
  Fw Tryz.prog 106 ⟨0, []⟩ [.a [lF qI p0.1.1, lI p0.1.2.1, lF qI p0.1.2.2.1, lF qT p0.1.2.2.2, lM kvP qI p0.2], .i p1, .i p2] [] (.i r) [] := by
 unfold y1X at hm
 refine Fw.mk' Tryz.func106 R Tryz.ntmps106 R R (fun C => ?_) R R
 refine .seq (.reg (.op (O.box 0 R Z R R R) R (.sa R (.nil (.seqN (.seq (.seq (.reg (.op (O.faP ybH Z R R) R (.op (O.ld yb3 Z R (.B R) R R) R (.mv R (.mv R (.op (O.bu (l := [lI p1, lI p2]) pl190 R Z R R R) R (.op (O.mi2 (k := (p1, p2)) md106 Z (.fr R) (.a R R) R) R (.mv R (.op (O.ex Z R R R) R (.op (O.ex Z R R R) R (.sa R (.sa R (.nil (.seqN (.seq (.reg (.mv R (.nil (.seqN ?_))))))))))))))))))))))))))
 rcases ifS hm with ⟨hc, hm⟩ | ⟨hc, hm⟩
 ·refine .cT R hc ?_
  refine .seq (.reg (.mv R (.sa R (.nil (.seqN (.ret (.seqR ?_)))))))
  obtain rfl := oi hm
  exact WX.rt [] (.inl R) Tryz.results106 (.tmp R .nil) R (fun _ _ _ h => h) trivial
 ·refine .cF R hc ?_
  refine .skip (.seqN (.seq (.reg (.sa R (.nil (.seqN (.ret ?_)))))))
  obtain rfl := oi hm
  exact WX.rt [] (.inl R) Tryz.results106 (.tmp R .nil) R (fun _ _ _ h => h) trivial
def y3J (st53 : Int × List (List Int) × (List (Int × List Int))) (l56 : List (List Int)) (l57 : List (Int × List Int)) : Option ((Int × List (List Int) × (List (Int × List Int))) ⊕ (List (List Int))) :=
 some (.inl (W (st53.1 + 1), l56, l57))
def y3K (st80 : Int × (List (Int × List Int))) (l83 : List (Int × List Int)) : Option ((Int × (List (Int × List Int))) ⊕ (List (Int × List Int))) :=
 some (.inl (W (st80.1 + 1), l83))
def y5w (p0 : (AutT × (List KeyT)) × (AutT × (List KeyT)) × (AutT × (List KeyT)) × List (List Int) × List Int × List Int) (st53 : Int × List (List Int) × (List (Int × List Int))) (st80 : Int × (List (Int × List Int))) : Option ((Int × (List (Int × List Int))) ⊕ (List (Int × List Int))) :=
 if decide (st80.1 < (p0.2.2.2.2.1.length : Int)) then
  (idx p0.2.2.2.2.1 st80.1).bind fun x85 =>
  (idx st80.2 st53.1).bind fun x86 =>
  (y1X p0.1 x86.1 x85).bind fun r87 =>
  (if (r87 != (-1)) then
   (idx st80.2 st53.1).bind fun x95 =>
   (yA x95.2 x85).bind fun r96 =>
   some (!r96)
  else
   some false).bind fun b88 =>
  if b88 then
   (idx st80.2 st53.1).bind fun x91 =>
   (y1a x91.2).bind fun r92 =>
   (app r92 ([x85] : List Int)).bind fun x93 =>
   (app st80.2 ([(r87, x93)] : List (Int × List Int))).bind fun x94 =>
   y3K st80 x94
  else
   y3K st80 st80.2
 else
  some (.inr st80.2)
def y3L (p0 : (AutT × (List KeyT)) × (AutT × (List KeyT)) × (AutT × (List KeyT)) × List (List Int) × List Int × List Int) (p2 : Int) (st53 : Int × List (List Int) × (List (Int × List Int))) (l59 : List (List Int)) : Option ((Int × List (List Int) × (List (Int × List Int))) ⊕ (List (List Int))) :=
 (idx st53.2.2 st53.1).bind fun x61 =>
 if ((x61.2.length : Int) == p2) then
  y3J st53 l59 st53.2.2
 else
  (iter (y5w p0 st53) (0, st53.2.2)).bind fun o80 =>
  y3J st53 l59 o80
def y5x (p0 : (AutT × (List KeyT)) × (AutT × (List KeyT)) × (AutT × (List KeyT)) × List (List Int) × List Int × List Int) (p2 : Int) (st53 : Int × List (List Int) × (List (Int × List Int))) : Option ((Int × List (List Int) × (List (Int × List Int))) ⊕ (List (List Int))) :=
 if decide (st53.1 < (st53.2.2.length : Int)) then
  (idx st53.2.2 st53.1).bind fun x97 =>
  if decide ((x97.2.length : Int) > 1) then
   (idx st53.2.2 st53.1).bind fun x98 =>
   (app st53.2.1 ([x98.2] : List (List Int))).bind fun x99 =>
   y3L p0 p2 st53 x99
  else
   y3L p0 p2 st53 st53.2.1
 else
  some (.inr st53.2.1)
def y4T (p0 : (AutT × (List KeyT)) × (AutT × (List KeyT)) × (AutT × (List KeyT)) × List (List Int) × List Int × List Int) (p1 : Int) (p2 : Int) : Option (List (List Int)) :=
 (idx p0.2.2.2.1 p1).bind fun x1 =>
 (idx x1 0).bind fun x2 =>
 (iter (y5x p0 p2) (0, ([] : List (List Int)), ([(x2, ([] : List Int))] : List (Int × List Int)))).bind fun o53 =>
 some o53
theorem y7Z {p0 : (AutT × (List KeyT)) × (AutT × (List KeyT)) × (AutT × (List KeyT)) × List (List Int) × List Int × List Int} {p1 : Int} {p2 : Int} {r : List (List Int)} (hm : y4T p0 p1 p2 = some r) :
  Fw Tryz.prog 57 ⟨0, []⟩ [.o (lQ 110 (lx110 p0) 0), .i p1, .i p2] [] (.h 0) [ROW (rL qI) 22 r] := by
 unfold y4T at hm
 refine Fw.mk' Tryz.func57 R Tryz.ntmps57 R R (fun C => ?_) R R
 refine .seq (.reg (.sa R (.nil (.seqN (.seq (.reg (.mv R (.op (O.nc .Q Z R R) R (.op (O.faQ y9Y Z R R) R (.op (O.ld nag34 Z R .Q R R) R (.mv R (bS hm fun x1 ex1 hm => .op (O.ix sl34 Z R R ex1 R) R (.op (O.ld nag22 Z R (.E lv22) R R) R (bS hm fun x2 ex2 hm => .op (O.ix sl22 Z R R ex2 R) R (.op (O.ld nag3 Z R (.E lv3) R R) R (.op (O.bu (l := [lI x2, lN]) pl173 R Z R R R) R (.op (O.bsO (r := rE173) (zs := ([(x2, ([] : List Int))] : List (Int × List Int))) 0 R bs174 R R Z R R R (.c (.p .k .n) .n) R R R) R (.sa R (.nil (.seqN (.seq (.reg (.sa R (.nil (.seqN (.seq (.seq (.reg (.sa R (.nil (.seqN (.block (bS hm fun o53 eo53 hm => ?_)))))))))))))))))))))))))))))))))
 refine .cut1 (z := .exit 0) o53 (fun (o53 : List (List Int)) => ⟨[(8, .h 0)], [(0, ROW (rL qI) 22 o53)], 1⟩) ?_ fun K55 => ?_
 ·skip
  refine .blkE (.seqN (.seq (.reg (.mv R (.sa R (.nil (.seqN (.ret ?_))))))))
  obtain rfl := oi hm
  exact WX.rt [0] (.inl R) Tryz.results57 (.tmp R .nil) R (fun _ _ _ h => h) ⟨⟨_, R, fun _ _ _ _ h => h⟩, trivial⟩
 refine .nlg (rL qI) 22 8 0 R R (.iter (fun (st53 : Int × List (List Int) × (List (Int × List Int))) => ⟨[(9, .i st53.1), (8, .h 0), (7, .h 1), (0, .o (lQ 110 (lx110 p0) 0)), (2, .i p2)], [(0, ROW (rL qI) 22 st53.2.1), (1, ROW rE173 173 st53.2.2)], 2⟩) eo53 [(0, 1), (1, 0)] R ?_)
 intro st53 res53 hm ih53 ho53
 unfold y5x at hm
 refine .seq (.seq (.reg (.mv R (.mv R (.op (O.lenH sl174 Z R R R) R (.bi R (.nil (.seqN ?_))))))))
 rcases ifS hm with ⟨hc, hm⟩ | ⟨hc, hm⟩
 ·refine .cT R hc ?_
  refine .skip (.seqN ?_)
  refine .join2 (fun (l56 : List (List Int)) (l57 : List (Int × List Int)) => y3J st53 l56 l57 = some res53) (fun l56 l57 => ⟨[(8, .h 0), (9, .i st53.1), (7, .h 1), (0, .o (lQ 110 (lx110 p0) 0)), (2, .i p2)], [(0, ROW (rL qI) 22 l56), (1, ROW rE173 173 l57)], 2⟩) ?_ ?_
  ·intro l56 l57 hm
   unfold y3J at hm
   exact .reg (.mv R (.bi R (.sa R (.nil ((ih53 _ (oi hm).symm).sub [] R)))))
  ·intro Jj58
   refine .block ?_
   refine .join1 (fun (l59 : List (List Int)) => y3L p0 p2 st53 l59 = some res53) (fun l59 => ⟨[(8, .h 0), (9, .i st53.1), (7, .h 1), (0, .o (lQ 110 (lx110 p0) 0)), (2, .i p2)], [(0, ROW (rL qI) 22 l59), (1, ROW rE173 173 st53.2.2)], 2⟩) ?_ ?_
   ·intro l59 hm
    unfold y3L at hm
    refine .seq (.seq (.reg (.mv R (.mv R (bS hm fun x61 ex61 hm => .op (O.ir sl174 Z R R R ex61 R) R (.op (O.faR y7E Z R R) R (.op (O.ld nag22 Z R (.R R ex61 lv173) R R) R (.op (O.len sl22 Z R R) R (.mv R (.bi R (.nil (.seqN ?_))))))))))))
    rcases ifS hm with ⟨hc, hm⟩ | ⟨hc, hm⟩
    ·refine .cT R hc ?_
     exact .exit (.seqX (.blkE ((Jj58 _ _ hm).sub [] R)))
    ·refine .cF R hc ?_
     refine .skip (.seqN (.seq (.reg (.mv R (.op (O.nc .Q Z R R) R (.op (O.faQ y9Z Z R R) R (.op (O.ld nag22 Z R .Q R R) R (.op (O.len sl22 Z R R) R (.mv R (.nil (.seqN (.block (bS hm fun o80 eo80 hm => ?_)))))))))))))
     refine .cut1 (z := .exit 2) o80 (fun (o80 : (List (Int × List Int))) => ⟨[(8, .h 0), (9, .i st53.1), (7, .h 1), (0, .o (lQ 110 (lx110 p0) 0)), (2, .i p2)], [(0, ROW (rL qI) 22 l59), (1, ROW rE173 173 o80)], 2⟩) ?_ fun K82 => ?_
     ·skip
      exact .blkE (.blkN ((Jj58 _ _ hm).sub [] R))
     refine .iter (fun (st80 : Int × (List (Int × List Int))) => ⟨[(58, .i st80.1), (57, .i (p0.2.2.2.2.1.length : Int)), (56, .f qI p0.2.2.2.2.1), (8, .h 0), (9, .i st53.1), (7, .h 1), (0, .o (lQ 110 (lx110 p0) 0)), (2, .i p2)], [(0, ROW (rL qI) 22 l59), (1, ROW rE173 173 st80.2)], 2⟩) eo80 [] R ?_
     intro st80 res80 hm ih80 ho80
     unfold y5w at hm
     refine .seq (.reg (.bi R (.nil (.seqN (.seq ?_)))))
     rcases ifS hm with ⟨hc, hm⟩ | ⟨hc, hm⟩
     ·refine .cT R hc ?_
      refine .skip (.seqN ?_)
      refine .join1 (fun (l83 : List (Int × List Int)) => y3K st80 l83 = some res80) (fun l83 => ⟨[(7, .h 0), (58, .i st80.1), (57, .i (p0.2.2.2.2.1.length : Int)), (56, .f qI p0.2.2.2.2.1), (8, .h 1), (9, .i st53.1), (0, .o (lQ 110 (lx110 p0) 0)), (2, .i p2)], [(0, ROW rE173 173 l83), (1, ROW (rL qI) 22 l59)], 2⟩) ?_ ?_
      ·intro l83 hm
       unfold y3K at hm
       exact .reg (.bi R (.mv R (.nil ((ih80 _ (oi hm).symm).sub [(0, 1), (1, 0)] R))))
      ·intro Jj84
       refine .block (.seq (.reg (bS hm fun x85 ex85 hm => .op (O.ix sl22 Z R R ex85 R) R (.op (O.ld nag3 Z R (.E lv3) R R) R (.sa R (.nil (.seqN (.seq ?_))))))))
       refine .sub (τ := ⟨[(11, .i x85), (58, .i st80.1), (57, .i (p0.2.2.2.2.1.length : Int)), (56, .f qI p0.2.2.2.2.1), (8, .h 0), (9, .i st53.1), (7, .h 1), (0, .o (lQ 110 (lx110 p0) 0)), (2, .i p2)], [(0, ROW (rL qI) 22 l59), (1, ROW rE173 173 st80.2)], 2⟩) ?_ [] R
       refine bS hm fun x86 ex86 hm => bS hm fun r87 er87 hm => ?_
       refine .drw [(2, []), (2, [oT]), (2, [oT, oT]), (2, [oT, oT, oT]), (2, []), (2, []), (2, [oF, oF, oF, oF, oT, oT]), (2, [oF, oF, oF, oF, oT, oT, oT]), (2, [oF, oF, oF, oF, oT, oT, oT, oT]), (2, []), (2, [oT, oT, oT, oT, oT, oT, oT, oT, oT, oT]), (2, [oT, oT, oT, oT, oT, oT, oT, oT, oT, oT, oT])] [_, _, _, _, _, _, _, _, _, _, _, _] ⟨[(12, .i r87), (11, .i x85), (58, .i st80.1), (57, .i (p0.2.2.2.2.1.length : Int)), (56, .f qI p0.2.2.2.2.1), (8, .h 0), (9, .i st53.1), (7, .h 1), (0, .o (lQ 110 (lx110 p0) 0)), (2, .i p2)], [(0, ROW (rL qI) 22 l59), (1, ROW rE173 173 st80.2)], 2⟩ ⟨O.mv Z R R, O.nc .Q Z R R, O.faQ ybI Z R R, O.lg (l' := [lF qI p0.1.1.1, lI p0.1.1.2.1, lF qI p0.1.1.2.2.1, lF qT p0.1.1.2.2.2, lM kvP qI p0.1.2]) ag108 Z R .Q R R R, O.mv Z R R, O.mv Z R R, O.ir sl174 Z R R R ex86 R, O.faR yeq Z R R, O.ld nag3 Z R (.R R ex86 lv173) R R, O.mv Z R R, O.ca0 (y3T er87) cf106 R R Z R R R, O.as Z R R, trivial⟩ (by kernel_rfl) R ?_
       refine .seqN (.seq (.reg (.mv R (.bi R (.mv R (bS hm fun b88 eb88 hm => ?_))))))
       refine .cut 9 (fun (v89 : Bool) => b88 = v89) (fun v89 => ⟨[(84, .b v89), (12, .i r87), (11, .i x85), (58, .i st80.1), (57, .i (p0.2.2.2.2.1.length : Int)), (56, .f qI p0.2.2.2.2.1), (8, .h 0), (9, .i st53.1), (7, .h 1), (0, .o (lQ 110 (lx110 p0) 0)), (2, .i p2)], [(0, ROW (rL qI) 22 l59), (1, ROW rE173 173 st80.2)], 2⟩) ?_ ?_
       ·rintro _ rfl
        refine .nil (.seqN ?_)
        rcases ifS hm with ⟨hc, hm⟩ | ⟨hc, hm⟩
        ·refine .cT R hc ?_
         exact .reg (.mv R (.mv R (.mv R (.mv R (bS hm fun x91 ex91 hm => .op (O.ir sl174 Z R R R ex91 R) R (.op (O.faR y7E Z R R) R (.op (O.ld nag22 Z R (.R R ex91 lv173) R R) R (bS hm fun r92 er92 hm => .op (O.ca (r' := .h 2) [2] [(0, ROW qI 3 r92)] (some 3) (y3Z er92) cf83 R R Z R R R R ⟨⟨_, R, fun _ _ _ _ h => h⟩, trivial⟩ (fun _ _ _ h => h) R) R (.mv R (.op (O.bsF (r := qI) (zs := ([x85] : List Int)) bs22 R R Z R R R (.c .k .n) R R R) R (bS hm fun x93 ex93 hm => .op (O.ap 3 Tryz.underlying22 el3 R R Z R R (.fr R) ex93 R) R (.op (O.bu (l := [lI r87, lH 3]) pl173 R Z R R R) R (.fz 3 [96] [] R R fR R R (.op (O.bsF (r := rE173) (zs := ([(r87, x93)] : List (Int × List Int))) bs174 R R Z R R R (.c (.p .k .l) .n) R R R) R (bS hm fun x94 ex94 hm => .op (O.ap 4 Tryz.underlying174 el173 R R Z R R (.fr R) ex94 R) R (.sa R (.nil (.blkN ((Jj84 _ hm).sub [(0, 4), (1, 0)] R)))))))))))))))))))
        ·refine .cF R hc ?_
         exact .skip (.blkN ((Jj84 _ hm).sub [(0, 1), (1, 0)] R))
       ·intro J90
        rcases ifS eb88 with ⟨hc, hm⟩ | ⟨hc, hm⟩
        ·refine .know (d := 75) R hc ?_
         exact .op (O.mv (Gu.mk R R) R R) R (.op (O.mv (Gu.mk R R) R R) R (bS hm fun x95 ex95 hm => .op (O.ir sl174 (Gu.mk R R) R R R ex95 R) R (.op (O.faR y7E (Gu.mk R R) R R) R (.op (O.ld nag22 (Gu.mk R R) R (.R R ex95 lv173) R R) R (.op (O.mv (Gu.mk R R) R R) R (bS hm fun r96 er96 hm => .op (O.ca0 (y3m er96) cf84 R R (Gu.mk R R) R R R) R (.op (O.not (Gu.mk R R) R R) R (.op (O.pkT Z R R R R) R ((J90 (!r96) (oi hm).symm).sub [] R)))))))))
        ·refine .know (d := 75) R hc ?_
         exact .sk R (.sk R (.sk R (.sk R (.sk R (.sk R (.sk R (.sk R (.op (O.pkF Z R R R R) R ((J90 false (oi hm).symm).sub [] R)))))))))
     ·refine .cF R hc ?_
      exact .exit (.seqX (.seqX ((K82 _ (ho80 _ (oi hm).symm)).sub [] R)))
   ·intro Jj60
    refine .seq (.reg (.mv R (.mv R (bS hm fun x97 ex97 hm => .op (O.ir sl174 Z R R R ex97 R) R (.op (O.faR y7E Z R R) R (.op (O.ld nag22 Z R (.R R ex97 lv173) R R) R (.op (O.len sl22 Z R R) R (.bi R (.nil (.seqN ?_))))))))))
    rcases ifS hm with ⟨hc, hm⟩ | ⟨hc, hm⟩
    ·refine .cT R hc ?_
     exact .reg (.mv R (.mv R (.mv R (bS hm fun x98 ex98 hm => .op (O.ir sl174 Z R R R ex98 R) R (.op (O.faR y7E Z R R) R (.op (O.ld nag22 Z R (.R R ex98 lv173) R R) R (.op (O.bsF (r := (rL qI)) (zs := ([x98.2] : List (List Int))) bs34 R R Z R R R (.c .l .n) R R R) R (bS hm fun x99 ex99 hm => .op (O.ap 2 Tryz.underlying34 el22 R R Z R R (.fr R) ex99 R) R (.sa R (.nil ((Jj60 _ hm).sub [(0, 2)] R)))))))))))
    ·refine .cF R hc ?_
     exact .skip ((Jj60 _ hm).sub [] R)
 ·refine .cF R hc ?_
  exact .exit (.seqX (.seqX ((K55 _ (ho53 _ (oi hm).symm)).sub [] R)))
def y3M (st10 : Int × Int) (n18 : Int) : Option ((Int × Int) ⊕ (Int ⊕ (Int × Int))) :=
 some (.inl (W (st10.1 + 1), n18))
def y5y (p0 : (AutT × (List KeyT)) × (AutT × (List KeyT)) × (AutT × (List KeyT)) × List (List Int) × List Int × List Int) (p2 : List Int) (st10 : Int × Int) : Option ((Int × Int) ⊕ (Int ⊕ (Int × Int))) :=
 if decide (st10.1 < (p2.length : Int)) then
  (idx p2 st10.1).bind fun x20 =>
  (yn p0.2.1.1.1 x20).bind fun r21 =>
  if (!r21) then
   y3M st10 st10.2
  else
   (y1X p0.2.1 st10.2 x20).bind fun r22 =>
   if (r22 == (-1)) then
    some (.inr (.inr (st10)))
   else
    y3M st10 r22
 else
  some (.inr (.inl st10.2))
def y4x (p0 : (AutT × (List KeyT)) × (AutT × (List KeyT)) × (AutT × (List KeyT)) × List (List Int) × List Int × List Int) (p1 : Int) (p2 : List Int) : Option (Int × Int) :=
 (iter (y5y p0 p2) (0, p1)).bind fun o10 =>
 match o10 with
 | .inl u14 =>
  some (u14, (p2.length : Int))
 | .inr (u16) =>
  some (u16.2, u16.1)
theorem y5G {p0 : (AutT × (List KeyT)) × (AutT × (List KeyT)) × (AutT × (List KeyT)) × List (List Int) × List Int × List Int} {p1 : Int} {p2 : List Int} {r : Int × Int} (hm : y4x p0 p1 p2 = some r) :
  Fw Tryz.prog 54 ⟨0, []⟩ [.o (lQ 110 (lx110 p0) 0), .i p1, .f qI p2] [] (.tp [.i r.1, .i r.2]) [] := by
 unfold y4x at hm
 refine Fw.mk' Tryz.func54 R Tryz.ntmps54 R R (fun C => ?_) R R
 refine .seq (.reg (.sa R (.sa R (.nil (.seqN (.seq (.seq (.reg (.mv R (.op (O.len sl22 Z R R) R (.mv R (.nil (.seqN (.block (bS hm fun o10 eo10 hm => ?_)))))))))))))))
 refine .cutU (z := .exit 0) (fun u14 => .inl u14 = o10) (fun (u14 : Int) => ⟨[(1, .i u14), (2, .f qI p2)], [], 0⟩) ?_ fun K15 => ?_
 ·rintro u14 rfl
  dsimp only at hm
  refine .blkE (.seqN (.seq (.reg (.mv R (.mv R (.op (O.len sl22 Z R R) R (.sa R (.sa R (.nil (.seqN (.ret ?_)))))))))))
  obtain rfl := oi hm
  exact WX.rt [] (.inl R) Tryz.results54 (.tmp R (.tmp R .nil)) R (fun _ _ _ h => h) trivial
 refine .cutU (z := .ret) (fun u16 => .inr (u16) = o10) (fun (u16 : Int × Int) => ⟨[(7, .i u16.1), (6, .i u16.2)], [], 0⟩) ?_ fun K17 => ?_
 ·rintro u16 rfl
  dsimp only at hm
  refine .blkR (.seqR ?_)
  obtain rfl := oi hm
  exact WX.rt [] (.inl R) Tryz.results54 (.tmp R (.tmp R .nil)) R (fun _ _ _ h => h) trivial
 refine .iter (fun (st10 : Int × Int) => ⟨[(13, .i st10.1), (12, .i (p2.length : Int)), (11, .f qI p2), (0, .o (lQ 110 (lx110 p0) 0)), (1, .i st10.2), (2, .f qI p2)], [], 0⟩) eo10 [] R ?_
 intro st10 res10 hm ih10 ho10
 unfold y5y at hm
 refine .seq (.reg (.bi R (.nil (.seqN (.seq ?_)))))
 rcases ifS hm with ⟨hc, hm⟩ | ⟨hc, hm⟩
 ·refine .cT R hc ?_
  refine .skip (.seqN ?_)
  refine .join1 (fun (n18 : Int) => y3M st10 n18 = some res10) (fun n18 => ⟨[(13, .i st10.1), (12, .i (p2.length : Int)), (11, .f qI p2), (0, .o (lQ 110 (lx110 p0) 0)), (1, .i n18), (2, .f qI p2)], [], 0⟩) ?_ ?_
  ·intro n18 hm
   unfold y3M at hm
   exact .reg (.bi R (.mv R (.nil ((ih10 _ (oi hm).symm).sub [] R))))
  ·intro Jj19
   refine .block (.seq (.reg (.mv R (bS hm fun x20 ex20 hm => .op (O.ix sl22 Z R R ex20 R) R (.op (O.ld nag3 Z R (.E lv3) R R) R (.sa R (.sa R (.nil (.seqN (.seq (.seq (.reg (.mv R (.op (O.nc .Q Z R R) R (.op (O.faQ ybJ Z R R) R (.op (O.faQ y4t Z R R) R (.op (O.faQ y1D Z R R) R (.op (O.ld nag22 Z R .Q R R) R (.mv R (bS hm fun r21 er21 hm => .op (O.ca0 (yU er21) cf68 R R Z R R R) R (.op (O.not Z R R) R (.nil (.seqN ?_)))))))))))))))))))))))
   rcases ifS hm with ⟨hc, hm⟩ | ⟨hc, hm⟩
   ·refine .cT R hc ?_
    exact .exit (.seqX (.blkE ((Jj19 _ hm).sub [] R)))
   ·refine .cF R hc ?_
    refine .skip (.seqN (.seq (.reg (.mv R (.op (O.nc .Q Z R R) R (.op (O.faQ ybJ Z R R) R (.op (O.lg (l' := [lF qI p0.2.1.1.1, lI p0.2.1.1.2.1, lF qI p0.2.1.1.2.2.1, lF qT p0.2.1.1.2.2.2, lM kvP qI p0.2.1.2]) ag108 Z R .Q R R R) R (.mv R (.mv R (bS hm fun r22 er22 hm => .op (O.ca0 (y3T er22) cf106 R R Z R R R) R (.sa R (.nil (.seqN (.seq (.seq (.reg (.mv R (.bi R (.nil (.seqN ?_))))))))))))))))))))
    rcases ifS hm with ⟨hc, hm⟩ | ⟨hc, hm⟩
    ·refine .cT R hc ?_
     exact .seq (.reg (.mv R (.mv R (.sa R (.sa R (.nil (.seqN (.ret (.seqR (.blkR (.seqR (.seqR ((K17 _ (ho10 _ (oi hm).symm)).sub [] R)))))))))))))
    ·refine .cF R hc ?_
     exact .skip (.seqN (.reg (.mv R (.sa R (.nil (.blkN ((Jj19 _ hm).sub [] R)))))))
 ·refine .cF R hc ?_
  exact .exit (.seqX (.seqX ((K15 _ (ho10 _ (oi hm).symm)).sub [] R)))
def y4N (p0 : (AutT × (List KeyT)) × (AutT × (List KeyT)) × (AutT × (List KeyT)) × List (List Int) × List Int × List Int) (p1 : Int) (p2 : List Int) : Option Bool :=
 (idx p0.2.2.2.1 p1).bind fun x1 =>
 (idx x1 1).bind fun x2 =>
 (y4x p0 x2 p2).bind fun r3 =>
 (y4n p2).bind fun r4 =>
 (y4o r4).bind fun r5 =>
 (y4x p0 x2 r5).bind fun r6 =>
 some (((r3.2 == (p2.length : Int)) && (r6.2 == (p2.length : Int))) && (r3.1 == r6.1))
theorem y7G {p0 : (AutT × (List KeyT)) × (AutT × (List KeyT)) × (AutT × (List KeyT)) × List (List Int) × List Int × List Int} {p1 : Int} {p2 : List Int} {r : Bool} (hm : y4N p0 p1 p2 = some r) :
  Fw Tryz.prog 58 ⟨0, []⟩ [.o (lQ 110 (lx110 p0) 0), .i p1, .f qI p2] [] (.b r) [] := by
 unfold y4N at hm
 refine Fw.mk' Tryz.func58 R Tryz.ntmps58 R R (fun C => ?_) R R
 refine .seq (.reg (.sa R (.nil (.seqN (.seq (.reg (.mv R (.op (O.nc .Q Z R R) R (.op (O.faQ y9Y Z R R) R (.op (O.ld nag34 Z R .Q R R) R (.mv R (bS hm fun x1 ex1 hm => .op (O.ix sl34 Z R R ex1 R) R (.op (O.ld nag22 Z R (.E lv22) R R) R (bS hm fun x2 ex2 hm => .op (O.ix sl22 Z R R ex2 R) R (.op (O.ld nag3 Z R (.E lv3) R R) R (.sa R (.nil (.seqN (.seq (.reg (.mv R (.mv R (.mv R (bS hm fun r3 er3 hm => .op (O.ca0 (y5G er3) cf54 R R Z R R R) R (.mv R (.op (O.ex Z R R R) R (.op (O.ex Z R R R) R (.sa R (.sa R (.nil (.seqN (.seq (.reg (.mv R (.mv R (.mv R ?_))))))))))))))))))))))))))))))))))))
 refine bS hm fun r4 er4 hm => .op (O.ca0 (y7C er4) cf109 R R Z R R R) R (bS hm fun r5 er5 hm => .op (O.ca (r' := .h 0) [0] [(0, ROW qI 3 r5)] (some 1) (y7D er5) cf108 R R Z R R R R ⟨⟨_, R, fun _ _ _ _ h => h⟩, trivial⟩ (fun _ _ _ h => h) R) R (bS hm fun r6 er6 hm => .op (O.caZ (y5G er6) cf54 R R Z R ⟨⟨R, .rf, trivial⟩, ⟨R, LnL.rf⟩, ⟨R, .hr R, trivial⟩, trivial⟩ (fun _ _ _ _ _ h => h) R) R (.mv R (.op (O.ex Z R R R) R (.op (O.ex Z R R R) R (.sa R (.sa R (.nil (.seqN (.seq (.reg (.mv R (.mv R (.op (O.len sl22 Z R R) R (.bi R (.mv R ?_))))))))))))))))
 refine .cut 5 (fun (v7 : Bool) => ((r3.2 == (p2.length : Int)) && (r6.2 == (p2.length : Int))) = v7) (fun v7 => ⟨[(46, .b v7), (10, .i r6.1), (8, .i r3.1)], [], 1⟩) ?_ ?_
 ·rintro _ rfl
  refine .mv R ?_
  refine .cut 4 (fun (v9 : Bool) => (((r3.2 == (p2.length : Int)) && (r6.2 == (p2.length : Int))) && (r3.1 == r6.1)) = v9) (fun v9 => ⟨[(51, .b v9)], [], 1⟩) ?_ ?_
  ·rintro _ rfl
   refine .sa R (.nil (.seqN (.ret ?_)))
   obtain rfl := oi hm
   exact WX.rt [] (.inl R) Tryz.results58 (.tmp R .nil) R (fun _ _ _ h => h) trivial
  ·intro J10
   rcases Bool.eq_false_or_eq_true ((r3.2 == (p2.length : Int)) && (r6.2 == (p2.length : Int))) with hc | hc
   ·refine .know (d := 47) R hc ?_
    exact .op (O.mv (Gu.mk R R) R R) R (.op (O.mv (Gu.mk R R) R R) R (.op (O.bi (Gu.mk R R) R R R R) R (.op (O.pkT Z R R R R) R ((J10 (r3.1 == r6.1) (andT hc).symm).sub [] R))))
   ·refine .know (d := 47) R hc ?_
    exact .sk R (.sk R (.sk R (.op (O.pkF Z R R R R) R ((J10 false (andF hc).symm).sub [] R))))
 ·intro J8
  rcases Bool.eq_false_or_eq_true (r3.2 == (p2.length : Int)) with hc | hc
  ·refine .know (d := 41) R hc ?_
   exact .op (O.mv (Gu.mk R R) R R) R (.op (O.mv (Gu.mk R R) R R) R (.op (O.len sl22 (Gu.mk R R) R R) R (.op (O.bi (Gu.mk R R) R R R R) R (.op (O.pkT Z R R R R) R ((J8 (r6.2 == (p2.length : Int)) (andT hc).symm).sub [] R)))))
  ·refine .know (d := 41) R hc ?_
   exact .sk R (.sk R (.sk R (.sk R (.op (O.pkF Z R R R R) R ((J8 false (andF hc).symm).sub [] R)))))
def y4q (q0 : Int) (p0 : Int × Int × Int) : Option Bool :=
 some (p0.2.2 == q0)
theorem y7H {q0 : Int} {p0 : Int × Int × Int} {r : Bool} (hm : y4q q0 p0 = some r) :
  Fw Tryz.prog 111 ⟨0, []⟩ [.a [lI p0.1, lI p0.2.1, lI p0.2.2], .o (lQ 3 [lI q0] 0)] [] (.b r) [] := by
 unfold y4q at hm
 refine Fw.mk' Tryz.func111 R Tryz.ntmps111 R R (fun C => ?_) R R
 refine .seq (.reg (.op (O.box 0 R Z R R R) R (.sa R (.nil (.seqN (.seq (.reg (.op (O.faP y4E Z R R) R (.op (O.ld nag3 Z R (.B R) R R) R (.op (O.ld nag3 Z R .Q R R) R (.bi R (.sa R (.nil (.seqN (.ret ?_)))))))))))))))
 obtain rfl := oi hm
 exact WX.rt [] (.inl R) Tryz.results111 (.tmp R .nil) R (fun _ _ _ h => h) trivial
def y3R (p0 : List (Int × Int × Int)) (p1 : (Int × Int × Int) → Option Bool) (st5 : Int) : Option (Int ⊕ (Unit ⊕ Int)) :=
 if decide (st5 < (p0.length : Int)) then
  (idx p0 st5).bind fun x11 =>
  (p1 x11).bind fun r12 =>
  if r12 then
   some (.inr (.inr (st5)))
  else
   some (.inl (W (st5 + 1)))
 else
  some (.inr (.inl ()))
def y1G (p0 : List (Int × Int × Int)) (p1 : (Int × Int × Int) → Option Bool) : Option Int :=
 (iter (y3R p0 p1) 0).bind fun o5 =>
 match o5 with
 | .inl u7 =>
  some (-1)
 | .inr (u9) =>
  some u9
theorem y4O {p0 : List (Int × Int × Int)} {p1 : (Int × Int × Int) → Option Bool} {r : Int} (hm : y1G p0 p1 = some r) :
  Fw Tryz.prog 110 ⟨0, []⟩ [.f qT p0, .o (lW Tryz.prog (fun (x : (Int × Int × Int)) => [.a [lI x.1, lI x.2.1, lI x.2.2]]) (fun (r : Bool) => .b r) p1)] [] (.i r) [] := by
 unfold y1G at hm
 refine Fw.mk' Tryz.func110 R Tryz.ntmps110 R R (fun C => ?_) R R
 refine .seq (.reg (.sa R (.nil (.seqN (.seq (.seq (.reg (.mv R (.op (O.len sl23 Z R R) R (.mv R (.nil (.seqN (.block (bS hm fun o5 eo5 hm => ?_))))))))))))))
 refine .cutU (z := .exit 0) (fun u7 => .inl u7 = o5) (fun (u7 : Unit) => ⟨[], [], 0⟩) ?_ fun K8 => ?_
 ·rintro u7 rfl
  dsimp only at hm
  refine .blkE (.seqN (.seq (.reg (.sa R (.nil (.seqN (.ret ?_)))))))
  obtain rfl := oi hm
  exact WX.rt [] (.inl R) Tryz.results110 (.tmp R .nil) R (fun _ _ _ h => h) trivial
 refine .cutU (z := .ret) (fun u9 => .inr (u9) = o5) (fun (u9 : Int) => ⟨[(4, .i u9)], [], 0⟩) ?_ fun K10 => ?_
 ·rintro u9 rfl
  dsimp only at hm
  refine .blkR (.seqR ?_)
  obtain rfl := oi hm
  exact WX.rt [] (.inl R) Tryz.results110 (.tmp R .nil) R (fun _ _ _ h => h) trivial
 refine .iter (fun (st5 : Int) => ⟨[(8, .i st5), (7, .i (p0.length : Int)), (0, .f qT p0), (1, .o (lW Tryz.prog (fun (x : (Int × Int × Int)) => [.a [lI x.1, lI x.2.1, lI x.2.2]]) (fun (r : Bool) => .b r) p1))], [], 0⟩) eo5 [] R ?_
 intro st5 res5 hm ih5 ho5
 unfold y3R at hm
 refine .seq (.reg (.bi R (.nil (.seqN (.seq ?_)))))
 rcases ifS hm with ⟨hc, hm⟩ | ⟨hc, hm⟩
 ·refine .cT R hc ?_
  refine .skip (.seqN (.seq (.block (.seq (.reg (.mv R (.sa R (.nil (.seqN (.seq (.reg (.mv R (.mv R (.mv R (bS hm fun x11 ex11 hm => .op (O.ix sl23 Z R R ex11 R) R (.op (O.lg (l' := [lI x11.1, lI x11.2.1, lI x11.2.2]) ag97 Z R (.E lv97) R R R) R (bS hm fun r12 er12 hm => ?_)))))))))))))))))
  refine .op (O.fv (y := x11) R R R Z R er12 R R) R ?_
  refine .nil (.seqN ?_)
  rcases ifS hm with ⟨hc, hm⟩ | ⟨hc, hm⟩
  ·refine .cT R hc ?_
   exact .seq (.reg (.mv R (.sa R (.nil (.seqN (.ret (.blkR (.seqR (.seqR ((K10 _ (ho5 _ (oi hm).symm)).sub [] R))))))))))
  ·refine .cF R hc ?_
   exact .skip (.blkN (.seqN (.reg (.bi R (.mv R (.nil ((ih5 _ (oi hm).symm).sub [] R)))))))
 ·refine .cF R hc ?_
  exact .exit (.seqX (.seqX ((K8 _ (ho5 _ (oi hm).symm)).sub [] R)))
def y3c (p0 : AutT × (List KeyT)) (st9 : List Int × Int) : Option ((List Int × Int) ⊕ (List Int)) :=
 if decide (st9.2 > 0) then
  (y1G p0.1.2.2.2 (y4q st9.2)).bind fun r13 =>
  (idx p0.1.2.2.2 r13).bind fun x14 =>
  (app st9.1 ([x14.2.1] : List Int)).bind fun x15 =>
  (idx p0.1.2.2.2 r13).bind fun x16 =>
  some (.inl (x15, x16.1))
 else
  some (.inr st9.1)
def y3j (p0 : AutT × (List KeyT)) (p1 : Int) : Option (List Int) :=
 (iter (y3c p0) (([] : List Int), p1)).bind fun o9 =>
 (y2o o9).bind fun r12 =>
 some r12
theorem y5K {p0 : AutT × (List KeyT)} {p1 : Int} {r : List Int} (hm : y3j p0 p1 = some r) :
  Fw Tryz.prog 59 ⟨0, []⟩ [.a [lF qI p0.1.1, lI p0.1.2.1, lF qI p0.1.2.2.1, lF qT p0.1.2.2.2, lM kvP qI p0.2], .i p1] [] (.h 0) [ROW qI 3 r] := by
 unfold y3j at hm
 refine Fw.mk' Tryz.func59 R Tryz.ntmps59 R R (fun C => ?_) R R
 refine .seq (.reg (.op (O.box 0 R Z R R R) R (.op (O.box 1 R Z R R R) R (.sa R (.nil (.seqN (.seq (.reg (.sa R (.nil (.seqN (.seq (.block (bS hm fun o9 eo9 hm => ?_))))))))))))))
 refine .cut1 (z := .exit 0) o9 (fun (o9 : List Int) => ⟨[(5, .h 0)], [(0, ROW qI 3 o9)], 1⟩) ?_ fun K11 => ?_
 ·skip
  refine .blkE (.seqN (.seq (.reg (.mv R (bS hm fun r12 er12 hm => .op (O.ca (r' := .tp []) [0] [(0, ROW qI 3 r12)] none (y7e er12) cf112 R R Z R R R R ⟨⟨_, R, fun _ _ _ _ h => h⟩, trivial⟩ (fun _ _ _ h => h) R) R (.nil (.seqN (.seq (.reg (.mv R (.sa R (.nil (.seqN (.ret ?_))))))))))))))
  obtain rfl := oi hm
  exact WX.rt [0] (.inl R) Tryz.results59 (.tmp R .nil) R (fun _ _ _ h => h) ⟨⟨_, R, fun _ _ _ _ h => h⟩, trivial⟩
 refine .nlg qI 3 5 0 R R (.iter (fun (st9 : List Int × Int) => ⟨[(5, .h 0), (3, .q 1 0), (2, .q 2 0)], [(0, ROW qI 3 st9.1), (1, .bx 3 [lI st9.2]), (2, .bx 108 [lF qI p0.1.1, lI p0.1.2.1, lF qI p0.1.2.2.1, lF qT p0.1.2.2.2, lM kvP qI p0.2])], 3⟩) eo9 [(0, 2), (2, 0)] R ?_)
 intro st9 res9 hm ih9 ho9
 unfold y3c at hm
 refine .seq (.seq (.reg (.op (O.ld nag3 Z R (.B R) R R) R (.bi R (.nil (.seqN ?_))))))
 rcases ifS hm with ⟨hc, hm⟩ | ⟨hc, hm⟩
 ·refine .cT R hc ?_
  refine .skip (.seqN (.block (.seq (.reg (.op (O.faP y4t Z R R) R (.op (O.faP yz Z R R) R (.op (O.ld nag23 Z R (.B R) R R) R (.op (O.mz (l := [lP 1 0]) Z R R) R (bS hm fun r13 er13 hm => .op (O.caZ (y4O er13) cf110 R R Z R ⟨⟨R, LnL.rf⟩, ⟨R, (.z (l' := [lQ 3 [lI st9.2] 0]) cf111 (fun x r h => y7H h) (fun _ => R) R ⟨(.q R ⟨.rf, trivial⟩), trivial⟩), trivial⟩, trivial⟩ (fun _ _ _ _ _ h => h) R) R (.sa R (.nil (.seqN (.seq (.reg (.mv R (.op (O.faP y4t Z R R) R (.op (O.faP yz Z R R) R (.op (O.ld nag23 Z R (.B R) R R) R (.mv R (bS hm fun x14 ex14 hm => .op (O.ix sl23 Z R R ex14 R) R (.op (O.faE y4D Z R R) R (.op (O.ld nag3 Z R (.E lv97) R R) R (.op (O.bsF (r := qI) (zs := ([x14.2.1] : List Int)) bs22 R R Z R R R (.c .k .n) R R R) R (bS hm fun x15 ex15 hm => .op (O.ap 3 Tryz.underlying22 el3 R R Z R R (.fr R) ex15 R) R (.sa R (.nil (.seqN (.reg (.op (O.faP y4t Z R R) R (.op (O.faP yz Z R R) R (.op (O.ld nag23 Z R (.B R) R R) R (.mv R (bS hm fun x16 ex16 hm => .op (O.ix sl23 Z R R ex16 R) R (.op (O.faE y3C Z R R) R (.op (O.ld nag3 Z R (.E lv97) R R) R ?_)))))))))))))))))))))))))))))))))))
  exact .op (O.st nag3.sz Z R R R R R) R (.nil (.blkN ((ih9 _ (oi hm).symm).sub [(0, 3)] R)))
 ·refine .cF R hc ?_
  exact .exit (.seqX (.seqX ((K11 _ (ho9 _ (oi hm).symm)).sub [] R)))
def y6M (x4 : (AutT × (List KeyT)) × (AutT × (List KeyT)) × (AutT × (List KeyT)) × List (List Int) × List Int × List Int) (st23 : Int) (r30 : List (List Int)) (st36 : Int) : Option (Int ⊕ (Unit ⊕ (List Int × List Int))) :=
 if decide (st36 < (r30.length : Int)) then
  (idx r30 st36).bind fun x43 =>
  (y4N x4 st23 x43).bind fun r44 =>
  if (!r44) then
   (y3j x4.2.2.1 st23).bind fun r45 =>
   some (.inr (.inr ((r45, x43))))
  else
   some (.inl (W (st36 + 1)))
 else
  some (.inr (.inl ()))
def y6N (p1 : Int) (x4 : (AutT × (List KeyT)) × (AutT × (List KeyT)) × (AutT × (List KeyT)) × List (List Int) × List Int × List Int) (st23 : Int) : Option (Int ⊕ (Unit ⊕ (List Int × List Int))) :=
 if decide (st23 < (x4.2.2.2.1.length : Int)) then
  (y4T x4 st23 p1).bind fun r30 =>
  (iter (y6M x4 st23 r30) 0).bind fun o36 =>
  match o36 with
  | .inl u39 =>
   some (.inl (W (st23 + 1)))
  | .inr (u41) =>
   some (.inr (.inr (u41)))
 else
  some (.inr (.inl ()))
def y6k (p0 : AutT × AutT × List Int) (p1 : Int) : Option ((Int × List Int × List Int) × Bool × Int) :=
 (y4f p0).bind fun r1 =>
 if (r1.2 != 0) then
  some ((0, ([] : List Int), ([] : List Int)), false, r1.2)
 else
  if ((decide (p1 < 2)) || (decide (p1 > 3))) then
   some ((0, ([] : List Int), ([] : List Int)), false, 2)
  else
   r1.1.bind fun x4 =>
   (iter (y6N p1 x4) 0).bind fun o23 =>
   match o23 with
   | .inl u26 =>
    some ((0, ([] : List Int), ([] : List Int)), true, 0)
   | .inr (u28) =>
    some ((1, u28), false, 0)
theorem y9y {p0 : AutT × AutT × List Int} {p1 : Int} {r : (Int × List Int × List Int) × Bool × Int} (hm : y6k p0 p1 = some r) :
  Fw Tryz.prog 16 ⟨0, []⟩ [.a [lF qI p0.1.1, lI p0.1.2.1, lF qI p0.1.2.2.1, lF qT p0.1.2.2.2, lF qI p0.2.1.1, lI p0.2.1.2.1, lF qI p0.2.1.2.2.1, lF qT p0.2.1.2.2.2, lF qI p0.2.2], .i p1] [] (.tp [.a [lI r.1.1, lH 0, lF qI r.1.2.2], .b r.2.1, .i r.2.2]) [ROW qI 3 r.1.2.1] := by
 unfold y6k at hm
 refine Fw.mk' Tryz.func16 R Tryz.ntmps16 R R (fun C => ?_) R R
 refine .seq (.reg (.op (O.box 0 R Z R R R) R (.op (O.al 1 R zz38 R Z R) R (.sa R (.sa R (.nil (.seqN (.seq (.reg (.op (O.lg (l' := [lF qI p0.1.1, lI p0.1.2.1, lF qI p0.1.2.2.1, lF qT p0.1.2.2.2, lF qI p0.2.1.1, lI p0.2.1.2.1, lF qI p0.2.1.2.2.1, lF qT p0.2.1.2.2.2, lF qI p0.2.2]) ag27 Z R (.B R) R R R) R (bS hm fun r1 er1 hm => .op (O.ca0 (y8k er1) cf52 R R Z R R R) R (.mv R (.op (O.ex Z R R R) R (.op (O.ex Z R R R) R (.sa R (.sa R (.nil (.seqN (.seq (.seq (.reg (.mv R (.bi R (.nil (.seqN ?_)))))))))))))))))))))))))
 rcases ifS hm with ⟨hc, hm⟩ | ⟨hc, hm⟩
 ·refine .cT R hc ?_
  refine .seq (.reg (.op (O.bu (l := [lI 0, lN, lN]) pl38 R Z R R R) R (.mv R (.op (O.st ag38.sz Z R R R R R) R (.sa R (.sa R (.nil (.seqN (.ret (.seqR (.nlb qI 3 1 1 R R (.cno 1 R (.c .rf (.c .rf (.c (.nf (r := qI)) .n))) R ?_))))))))))))
  obtain rfl := oi hm
  exact WX.rt [2] (.inl R) Tryz.results16 (.cell R R ag38 R (.tmp R (.tmp R .nil))) R (fun _ _ _ h => h) ⟨⟨_, R, fun _ _ _ _ h => h⟩, trivial⟩
 ·refine .cF R hc ?_
  refine .skip (.seqN (.seq (.seq (.reg (.mv R (.bi R (.mv R ?_)))))))
  refine .cut 3 (fun (v2 : Bool) => ((decide (p1 < 2)) || (decide (p1 > 3))) = v2) (fun v2 => ⟨[(25, .b v2), (7, .o (lK rE110 110 r1.1)), (4, .q 1 0), (1, .i p1)], [(1, .bx 38 [lI 0, lN, lN])], 2⟩) ?_ ?_
  ·rintro _ rfl
   refine .nil (.seqN ?_)
   rcases ifS hm with ⟨hc, hm⟩ | ⟨hc, hm⟩
   ·refine .cT R hc ?_
    refine .seq (.reg (.op (O.bu (l := [lI 0, lN, lN]) pl38 R Z R R R) R (.op (O.st ag38.sz Z R R R R R) R (.sa R (.sa R (.nil (.seqN (.ret (.seqR (.nlb qI 3 1 1 R R (.cno 1 R (.c .rf (.c .rf (.c (.nf (r := qI)) .n))) R ?_)))))))))))
    obtain rfl := oi hm
    exact WX.rt [2] (.inl R) Tryz.results16 (.cell R R ag38 R (.tmp R (.tmp R .nil))) R (fun _ _ _ h => h) ⟨⟨_, R, fun _ _ _ _ h => h⟩, trivial⟩
   ·refine .cF R hc ?_
    refine .skip (.seqN (.seq (.seq (.reg (.mv R (bS hm fun x4 ex4 hm => .cnt 27 R (.c (.pd ex4 lv110) .n) R (.cnt 7 R (.c (.pd ex4 lv110) .n) R (.op (O.nc .Q Z R R) R (.op (O.faQ y9Y Z R R) R (.op (O.ld nag34 Z R .Q R R) R (.op (O.len sl34 Z R R) R (.mv R (.nil (.seqN (.block (bS hm fun o23 eo23 hm => ?_))))))))))))))))
    refine .cutU (z := .exit 0) (fun u26 => .inl u26 = o23) (fun (u26 : Unit) => ⟨[(4, .q 0 0)], [(0, .bx 38 [lI 0, lN, lN])], 1⟩) ?_ fun K27 => ?_
    ·rintro u26 rfl
     dsimp only at hm
     refine .blkE (.seqN (.seq (.reg (.op (O.bu (l := [lI 0, lN, lN]) pl38 R Z R R R) R (.op (O.st ag38.sz Z R R R R R) R (.sa R (.sa R (.nil (.seqN (.ret (.nlb qI 3 0 1 R R (.cno 0 R (.c .rf (.c .rf (.c (.nf (r := qI)) .n))) R ?_))))))))))))
     obtain rfl := oi hm
     exact WX.rt [1] (.inl R) Tryz.results16 (.cell R R ag38 R (.tmp R (.tmp R .nil))) R (fun _ _ _ h => h) ⟨⟨_, R, fun _ _ _ _ h => h⟩, trivial⟩
    refine .cutU (z := .ret) (fun u28 => .inr (u28) = o23) (fun (u28 : List Int × List Int) => ⟨[(6, .i 0), (5, .b false), (4, .q 0 0)], [(0, .bx 38 [lI 1, lH 1, lF qI u28.2]), (1, ROW qI 3 u28.1)], 2⟩) ?_ fun K29 => ?_
    ·rintro u28 rfl
     dsimp only at hm
     refine .blkR (.seqR ?_)
     obtain rfl := oi hm
     exact WX.rt [1] (.inl R) Tryz.results16 (.cell R R ag38 R (.tmp R (.tmp R .nil))) R (fun _ _ _ h => h) ⟨⟨_, R, fun _ _ _ _ h => h⟩, trivial⟩
    refine .iter (fun (st23 : Int) => ⟨[(32, .i st23), (31, .i (x4.2.2.2.1.length : Int)), (7, .o (lQ 110 (lx110 x4) 0)), (4, .q 0 0), (1, .i p1)], [(0, .bx 38 [lI 0, lN, lN])], 1⟩) eo23 [(0, 1)] R ?_
    intro st23 res23 hm ih23 ho23
    unfold y6N at hm
    refine .seq (.reg (.bi R (.nil (.seqN (.seq ?_)))))
    rcases ifS hm with ⟨hc, hm⟩ | ⟨hc, hm⟩
    ·refine .cT R hc ?_
     refine .skip (.seqN (.seq (.block (.seq (.reg (.mv R (.sa R (.nil (.seqN (.seq (.reg (.mv R (.mv R (.mv R (bS hm fun r30 er30 hm => .op (O.ca (r' := .h 1) [1] [(0, ROW (rL qI) 22 r30)] (some 2) (y7Z er30) cf57 R R Z R R R R ⟨⟨_, R, fun _ _ _ _ h => h⟩, trivial⟩ (fun _ _ _ h => h) R) R (.op (O.lenH sl34 Z R R R) R (.mv R (.nil (.seqN (.block (bS hm fun o36 eo36 hm => ?_)))))))))))))))))))))
     refine .cutU (z := .exit 2) (fun u39 => .inl u39 = o36) (fun (u39 : Unit) => ⟨[(32, .i st23), (31, .i (x4.2.2.2.1.length : Int)), (7, .o (lQ 110 (lx110 x4) 0)), (4, .q 0 0), (1, .i p1)], [(0, .bx 38 [lI 0, lN, lN])], 1⟩) ?_ fun K40 => ?_
     ·rintro u39 rfl
      dsimp only at hm
      exact .blkE (.blkN (.seqN (.reg (.bi R (.mv R (.nil ((ih23 _ (oi hm).symm).sub [] R)))))))
     refine .cutU (z := .ret) (fun u41 => .inr (u41) = o36) (fun (u41 : List Int × List Int) => ⟨[(6, .i 0), (5, .b false), (4, .q 0 0)], [(0, .bx 38 [lI 1, lH 1, lF qI u41.2]), (1, ROW qI 3 u41.1)], 2⟩) ?_ fun K42 => ?_
     ·rintro u41 rfl
      dsimp only at hm
      exact .blkR (.blkR (.seqR (.seqR ((K29 _ (ho23 _ (oi hm).symm)).sub [] R))))
     refine .iter (fun (st36 : Int) => ⟨[(40, .i st36), (39, .i (r30.length : Int)), (38, .h 0), (8, .i st23), (32, .i st23), (31, .i (x4.2.2.2.1.length : Int)), (7, .o (lQ 110 (lx110 x4) 0)), (4, .q 1 0), (1, .i p1)], [(0, ROW (rL qI) 22 r30), (1, .bx 38 [lI 0, lN, lN])], 2⟩) eo36 [(0, 1), (1, 0)] R ?_
     intro st36 res36 hm ih36 ho36
     unfold y6M at hm
     refine .seq (.reg (.bi R (.nil (.seqN (.seq ?_)))))
     rcases ifS hm with ⟨hc, hm⟩ | ⟨hc, hm⟩
     ·refine .cT R hc ?_
      refine .skip (.seqN (.seq (.block (.seq (.reg (bS hm fun x43 ex43 hm => .op (O.ir sl34 Z R R R ex43 R) R (.op (O.ld nag22 Z R (.R R ex43 lv22) R R) R (.sa R (.nil (.seqN (.seq (.reg (.mv R (.mv R (.mv R (bS hm fun r44 er44 hm => .op (O.ca0 (y7G er44) cf58 R R Z R R R) R (.op (O.not Z R R) R (.nil (.seqN ?_)))))))))))))))))))
      rcases ifS hm with ⟨hc, hm⟩ | ⟨hc, hm⟩
      ·refine .cT R hc ?_
       exact .seq (.reg (.mv R (.op (O.nc .Q Z R R) R (.op (O.faQ y5O Z R R) R (.op (O.lg (l' := [lF qI x4.2.2.1.1.1, lI x4.2.2.1.1.2.1, lF qI x4.2.2.1.1.2.2.1, lF qT x4.2.2.1.1.2.2.2, lM kvP qI x4.2.2.1.2]) ag108 Z R .Q R R R) R (.mv R (bS hm fun r45 er45 hm => .op (O.ca (r' := .h 2) [2] [(0, ROW qI 3 r45)] (some 3) (y5K er45) cf59 R R Z R R R R ⟨⟨_, R, fun _ _ _ _ h => h⟩, trivial⟩ (fun _ _ _ h => h) R) R (.mv R (.op (O.bu (l := [lI 1, lH 2, lF qI x43]) pl38 R Z R R R) R (.op (O.st ag38.sz Z R R R R R) R (.sa R (.sa R (.nil (.seqN (.ret (.blkR (.seqR (.seqR ((K42 _ (ho36 _ (oi hm).symm)).sub [(0, 1), (1, 2)] R)))))))))))))))))))
      ·refine .cF R hc ?_
       exact .skip (.blkN (.seqN (.reg (.bi R (.mv R (.nil ((ih36 _ (oi hm).symm).sub [] R)))))))
     ·refine .cF R hc ?_
      exact .exit (.seqX (.seqX ((K40 _ (ho36 _ (oi hm).symm)).sub [(0, 1)] R)))
    ·refine .cF R hc ?_
     exact .exit (.seqX (.seqX ((K27 _ (ho23 _ (oi hm).symm)).sub [] R)))
  ·intro J3
   rcases Bool.eq_false_or_eq_true (decide (p1 < 2)) with hc | hc
   ·refine .know (d := 22) R hc ?_
    exact .sk R (.sk R (.op (O.pkT Z R R R R) R ((J3 true (orT hc).symm).sub [] R)))
   ·refine .know (d := 22) R hc ?_
    exact .op (O.mv (Gu.mk R R) R R) R (.op (O.bi (Gu.mk R R) R R R R) R (.op (O.pkF Z R R R R) R ((J3 (decide (p1 > 3)) (orF hc).symm).sub [] R)))
def y1s (p0 : (AutT × (List KeyT)) × (AutT × (List KeyT)) × (AutT × (List KeyT)) × List (List Int) × List Int × List Int) (p1 : List Int) (st8 : Int) : Option (Int ⊕ (Unit ⊕ Int)) :=
 if decide (st8 < (p1.length : Int)) then
  (idx p1 st8).bind fun x14 =>
  (yn p0.1.1.1 x14).bind fun r15 =>
  if (!r15) then
   some (.inr (.inr (9)))
  else
   (yn p0.2.2.2.2.1 x14).bind fun r16 =>
   if r16 then
    some (.inr (.inr (13)))
   else
    (slc p1 0 st8).bind fun x17 =>
    (yA x17 x14).bind fun r18 =>
    if r18 then
     some (.inr (.inr (8)))
    else
     some (.inl (W (st8 + 1)))
 else
  some (.inr (.inl ()))
def y1Y (p0 : (AutT × (List KeyT)) × (AutT × (List KeyT)) × (AutT × (List KeyT)) × List (List Int) × List Int × List Int) (p1 : List Int) : Option Int :=
 (iter (y1s p0 p1) 0).bind fun o8 =>
 match o8 with
 | .inl u10 =>
  some 0
 | .inr (u12) =>
  some u12
theorem y6d {p0 : (AutT × (List KeyT)) × (AutT × (List KeyT)) × (AutT × (List KeyT)) × List (List Int) × List Int × List Int} {p1 : List Int} {r : Int} (hm : y1Y p0 p1 = some r) :
  Fw Tryz.prog 113 ⟨0, []⟩ [.o (lQ 110 (lx110 p0) 0), .f qI p1] [] (.i r) [] := by
 unfold y1Y at hm
 refine Fw.mk' Tryz.func113 R Tryz.ntmps113 R R (fun C => ?_) R R
 refine .seq (.reg (.sa R (.nil (.seqN (.seq (.seq (.reg (.mv R (.op (O.len sl22 Z R R) R (.mv R (.nil (.seqN (.block (bS hm fun o8 eo8 hm => ?_))))))))))))))
 refine .cutU (z := .exit 0) (fun u10 => .inl u10 = o8) (fun (u10 : Unit) => ⟨[], [], 0⟩) ?_ fun K11 => ?_
 ·rintro u10 rfl
  dsimp only at hm
  refine .blkE (.seqN (.seq (.reg (.sa R (.nil (.seqN (.ret ?_)))))))
  obtain rfl := oi hm
  exact WX.rt [] (.inl R) Tryz.results113 (.tmp R .nil) R (fun _ _ _ h => h) trivial
 refine .cutU (z := .ret) (fun u12 => .inr (u12) = o8) (fun (u12 : Int) => ⟨[(4, .i u12)], [], 0⟩) ?_ fun K13 => ?_
 ·rintro u12 rfl
  dsimp only at hm
  refine .blkR (.seqR ?_)
  obtain rfl := oi hm
  exact WX.rt [] (.inl R) Tryz.results113 (.tmp R .nil) R (fun _ _ _ h => h) trivial
 refine .iter (fun (st8 : Int) => ⟨[(9, .i st8), (8, .i (p1.length : Int)), (7, .f qI p1), (0, .o (lQ 110 (lx110 p0) 0)), (1, .f qI p1)], [], 0⟩) eo8 [] R ?_
 intro st8 res8 hm ih8 ho8
 unfold y1s at hm
 refine .seq (.reg (.bi R (.nil (.seqN (.seq ?_)))))
 rcases ifS hm with ⟨hc, hm⟩ | ⟨hc, hm⟩
 ·refine .cT R hc ?_
  refine .skip (.seqN (.seq (.block (.seq (.reg (.mv R (bS hm fun x14 ex14 hm => .op (O.ix sl22 Z R R ex14 R) R (.op (O.ld nag3 Z R (.E lv3) R R) R (.sa R (.sa R (.nil (.seqN (.block (.seq (.reg (.mv R (.op (O.nc .Q Z R R) R (.op (O.faQ ybI Z R R) R (.op (O.faQ y4t Z R R) R (.op (O.faQ y1D Z R R) R (.op (O.ld nag22 Z R .Q R R) R (.mv R (bS hm fun r15 er15 hm => .op (O.ca0 (yU er15) cf68 R R Z R R R) R (.op (O.not Z R R) R (.sa R (.nil (.seqN ?_)))))))))))))))))))))))))))
  rcases ifS hm with ⟨hc, hm⟩ | ⟨hc, hm⟩
  ·refine .cT R hc ?_
   exact .seq (.reg (.sa R (.nil (.seqN (.ret (.blkR (.blkR (.seqR (.seqR ((K13 _ (ho8 _ (oi hm).symm)).sub [] R))))))))))
  ·refine .cF R hc ?_
   refine .seq (.reg (.mv R (.op (O.nc .Q Z R R) R (.op (O.faQ y9Z Z R R) R (.op (O.ld nag22 Z R .Q R R) R (.mv R (bS hm fun r16 er16 hm => .op (O.ca0 (yU er16) cf68 R R Z R R R) R (.sa R (.nil (.seqN ?_))))))))))
   rcases ifS hm with ⟨hc, hm⟩ | ⟨hc, hm⟩
   ·refine .cT R hc ?_
    exact .seq (.reg (.sa R (.nil (.seqN (.ret (.blkR (.blkR (.seqR (.seqR ((K13 _ (ho8 _ (oi hm).symm)).sub [] R))))))))))
   ·refine .cF R hc ?_
    refine .seq (.reg (.mv R (.mv R (bS hm fun x17 ex17 hm => .op (O.sh sl22 Z R R ex17 R) R (.mv R (bS hm fun r18 er18 hm => .op (O.ca0 (y3m er18) cf84 R R Z R R R) R (.sa R (.nil (.seqN ?_)))))))))
    rcases ifS hm with ⟨hc, hm⟩ | ⟨hc, hm⟩
    ·refine .cT R hc ?_
     exact .seq (.reg (.sa R (.nil (.seqN (.ret (.blkR (.blkR (.seqR (.seqR ((K13 _ (ho8 _ (oi hm).symm)).sub [] R))))))))))
    ·refine .cF R hc ?_
     exact .skip (.blkN (.blkN (.seqN (.reg (.bi R (.mv R (.nil ((ih8 _ (oi hm).symm).sub [] R))))))))
 ·refine .cF R hc ?_
  exact .exit (.seqX (.seqX ((K11 _ (ho8 _ (oi hm).symm)).sub [] R)))
def y4g (p0 : AutT × AutT × List Int) (p1 : List Int) : Option ((Option ((AutT × (List KeyT)) × (AutT × (List KeyT)) × (AutT × (List KeyT)) × List (List Int) × List Int × List Int)) × Int) :=
 (y4f p0).bind fun r1 =>
 if (r1.2 != 0) then
  some (none, r1.2)
 else
  r1.1.bind fun x2 =>
  (y1Y x2 p1).bind fun r3 =>
  if (r3 != 0) then
   some (none, r3)
  else
   some ((some x2), 0)
theorem y6l {p0 : AutT × AutT × List Int} {p1 : List Int} {r : (Option ((AutT × (List KeyT)) × (AutT × (List KeyT)) × (AutT × (List KeyT)) × List (List Int) × List Int × List Int)) × Int} (hm : y4g p0 p1 = some r) :
  Fw Tryz.prog 61 ⟨0, []⟩ [.a [lF qI p0.1.1, lI p0.1.2.1, lF qI p0.1.2.2.1, lF qT p0.1.2.2.2, lF qI p0.2.1.1, lI p0.2.1.2.1, lF qI p0.2.1.2.2.1, lF qT p0.2.1.2.2.2, lF qI p0.2.2], .f qI p1] [] (.tp [.o (lK rE110 110 r.1), .i r.2]) [] := by
 unfold y4g at hm
 refine Fw.mk' Tryz.func61 R Tryz.ntmps61 R R (fun C => ?_) R R
 refine .seq (.reg (.op (O.box 0 R Z R R R) R (.sa R (.sa R (.nil (.seqN (.seq (.reg (.op (O.lg (l' := [lF qI p0.1.1, lI p0.1.2.1, lF qI p0.1.2.2.1, lF qT p0.1.2.2.2, lF qI p0.2.1.1, lI p0.2.1.2.1, lF qI p0.2.1.2.2.1, lF qT p0.2.1.2.2.2, lF qI p0.2.2]) ag27 Z R (.B R) R R R) R (bS hm fun r1 er1 hm => .op (O.ca0 (y8k er1) cf52 R R Z R R R) R (.mv R (.op (O.ex Z R R R) R (.op (O.ex Z R R R) R (.sa R (.sa R (.nil (.seqN (.seq (.seq (.reg (.mv R (.bi R (.nil (.seqN ?_))))))))))))))))))))))))
 rcases ifS hm with ⟨hc, hm⟩ | ⟨hc, hm⟩
 ·refine .cT R hc ?_
  refine .seq (.reg (.mv R (.sa R (.sa R (.nil (.seqN (.ret (.seqR (.cnt 4 R (.c (.pn (r := rE110) (T := 110)) .n) R ?_)))))))))
  obtain rfl := oi hm
  exact WX.rt [] (.inl R) Tryz.results61 (.tmp R (.tmp R .nil)) R (fun _ _ _ h => h) trivial
 ·refine .cF R hc ?_
  refine .skip (.seqN (.seq (.seq (.reg (.mv R (.mv R (bS hm fun x2 ex2 hm => .cnt 17 R (.c (.pd ex2 lv110) .n) R (.cnt 6 R (.c (.pd ex2 lv110) .n) R (.cnt 12 R (.c (.pd ex2 lv110) .n) R (bS hm fun r3 er3 hm => .op (O.ca0 (y6d er3) cf113 R R Z R R R) R (.sa R (.nil (.seqN (.seq (.reg (.mv R (.bi R (.nil (.seqN ?_)))))))))))))))))))
  rcases ifS hm with ⟨hc, hm⟩ | ⟨hc, hm⟩
  ·refine .cT R hc ?_
   refine .seq (.reg (.mv R (.sa R (.sa R (.nil (.seqN (.ret (.seqR (.cnt 4 R (.c (.pn (r := rE110) (T := 110)) .n) R ?_)))))))))
   obtain rfl := oi hm
   exact WX.rt [] (.inl R) Tryz.results61 (.tmp R (.tmp R .nil)) R (fun _ _ _ h => h) trivial
  ·refine .cF R hc ?_
   refine .skip (.seqN (.seq (.reg (.mv R (.sa R (.sa R (.nil (.seqN (.ret (.cnt 4 R (.c (.pk (r := rE110) (.p (.p (.p .l (.p .k (.p .l .l))) .m) (.p (.p (.p .l (.p .k (.p .l .l))) .m) (.p (.p (.p .l (.p .k (.p .l .l))) .m) (.p .l (.p .l .l)))))) .n) R ?_))))))))))
   obtain rfl := oi hm
   exact WX.rt [] (.inl R) Tryz.results61 (.tmp R (.tmp R .nil)) R (fun _ _ _ h => h) trivial
def y2r (q0 : Option ((AutT × (List KeyT)) × (AutT × (List KeyT)) × (AutT × (List KeyT)) × List (List Int) × List Int × List Int)) (q1 : Int) (p0 : Int) : Option Bool :=
 q0.bind fun x1 =>
 (y1X x1.2.2.1 q1 p0).bind fun r2 =>
 some (r2 != (-1))
theorem y7g {q0 : Option ((AutT × (List KeyT)) × (AutT × (List KeyT)) × (AutT × (List KeyT)) × List (List Int) × List Int × List Int)} {q1 : Int} {p0 : Int} {r : Bool} (hm : y2r q0 q1 p0 = some r) :
  Fw Tryz.prog 115 ⟨0, []⟩ [.i p0, .o (lQ 99 [lK rE110 110 q0] 0), .o (lQ 3 [lI q1] 0)] [] (.b r) [] := by
 unfold y2r at hm
 refine Fw.mk' Tryz.func115 R Tryz.ntmps115 R R (fun C => ?_) R R
 refine .seq (.reg (.sa R (.nil (.seqN (.seq (bS hm fun x1 ex1 hm => .cnt 1 R (.c (.q (.c (.pd ex1 lv110) .n)) .n) R ?_))))))
 refine .sub (τ := ⟨[(0, .i p0), (1, .o (lQ 99 [lQ 110 (lx110 x1) 0] 0)), (2, .o (lQ 3 [lI q1] 0))], [], 0⟩) ?_ [] R
 refine bS hm fun r2 er2 hm => ?_
 refine .drw [(0, []), (0, [oT]), (0, [oT, oT]), (0, [oT, oT, oT]), (0, []), (0, []), (0, [oT, oT, oT, oT, oT, oT]), (0, [oT, oT, oT, oT, oT, oT, oT]), (0, [oT, oT, oT, oT, oT, oT, oT, oT])] [_, _, _, _, _, _, _, _, _] ⟨[(4, .b (r2 != (-1)))], [], 0⟩ ⟨O.ld nag99 Z R .Q R R, O.nc .Q Z R R, O.faQ y5O Z R R, O.lg (l' := [lF qI x1.2.2.1.1.1, lI x1.2.2.1.1.2.1, lF qI x1.2.2.1.1.2.2.1, lF qT x1.2.2.1.1.2.2.2, lM kvP qI x1.2.2.1.2]) ag108 Z R .Q R R R, O.ld nag3 Z R .Q R R, O.mv Z R R, O.ca0 (y3T er2) cf106 R R Z R R R, O.bi Z R R R R, O.as Z R R, trivial⟩ (by kernel_rfl) R ?_
 refine .seqN (.ret ?_)
 obtain rfl := oi hm
 exact WX.rt [] (.inl R) Tryz.results115 (.tmp R .nil) R (fun _ _ _ h => h) trivial
def y4a (p0 : List Int) (p1 : Int → Option Bool) (st5 : Int) : Option (Int ⊕ (Unit ⊕ Int)) :=
 if decide (st5 < (p0.length : Int)) then
  (idx p0 st5).bind fun x11 =>
  (p1 x11).bind fun r12 =>
  if r12 then
   some (.inr (.inr (st5)))
  else
   some (.inl (W (st5 + 1)))
 else
  some (.inr (.inl ()))
def y1Q (p0 : List Int) (p1 : Int → Option Bool) : Option Int :=
 (iter (y4a p0 p1) 0).bind fun o5 =>
 match o5 with
 | .inl u7 =>
  some (-1)
 | .inr (u9) =>
  some u9
theorem y4U {p0 : List Int} {p1 : Int → Option Bool} {r : Int} (hm : y1Q p0 p1 = some r) :
  Fw Tryz.prog 114 ⟨0, []⟩ [.f qI p0, .o (lW Tryz.prog (fun (x : Int) => [.i x]) (fun (r : Bool) => .b r) p1)] [] (.i r) [] := by
 unfold y1Q at hm
 refine Fw.mk' Tryz.func114 R Tryz.ntmps114 R R (fun C => ?_) R R
 refine .seq (.reg (.sa R (.nil (.seqN (.seq (.seq (.reg (.mv R (.op (O.len sl22 Z R R) R (.mv R (.nil (.seqN (.block (bS hm fun o5 eo5 hm => ?_))))))))))))))
 refine .cutU (z := .exit 0) (fun u7 => .inl u7 = o5) (fun (u7 : Unit) => ⟨[], [], 0⟩) ?_ fun K8 => ?_
 ·rintro u7 rfl
  dsimp only at hm
  refine .blkE (.seqN (.seq (.reg (.sa R (.nil (.seqN (.ret ?_)))))))
  obtain rfl := oi hm
  exact WX.rt [] (.inl R) Tryz.results114 (.tmp R .nil) R (fun _ _ _ h => h) trivial
 refine .cutU (z := .ret) (fun u9 => .inr (u9) = o5) (fun (u9 : Int) => ⟨[(4, .i u9)], [], 0⟩) ?_ fun K10 => ?_
 ·rintro u9 rfl
  dsimp only at hm
  refine .blkR (.seqR ?_)
  obtain rfl := oi hm
  exact WX.rt [] (.inl R) Tryz.results114 (.tmp R .nil) R (fun _ _ _ h => h) trivial
 refine .iter (fun (st5 : Int) => ⟨[(8, .i st5), (7, .i (p0.length : Int)), (0, .f qI p0), (1, .o (lW Tryz.prog (fun (x : Int) => [.i x]) (fun (r : Bool) => .b r) p1))], [], 0⟩) eo5 [] R ?_
 intro st5 res5 hm ih5 ho5
 unfold y4a at hm
 refine .seq (.reg (.bi R (.nil (.seqN (.seq ?_)))))
 rcases ifS hm with ⟨hc, hm⟩ | ⟨hc, hm⟩
 ·refine .cT R hc ?_
  refine .skip (.seqN (.seq (.block (.seq (.reg (.mv R (.sa R (.nil (.seqN (.seq (.reg (.mv R (.mv R (.mv R (bS hm fun x11 ex11 hm => .op (O.ix sl22 Z R R ex11 R) R (.op (O.ld nag3 Z R (.E lv3) R R) R (bS hm fun r12 er12 hm => ?_)))))))))))))))))
  refine .op (O.fv (y := x11) R R R Z R er12 R R) R ?_
  refine .nil (.seqN ?_)
  rcases ifS hm with ⟨hc, hm⟩ | ⟨hc, hm⟩
  ·refine .cT R hc ?_
   exact .seq (.reg (.mv R (.sa R (.nil (.seqN (.ret (.blkR (.seqR (.seqR ((K10 _ (ho5 _ (oi hm).symm)).sub [] R))))))))))
  ·refine .cF R hc ?_
   exact .skip (.blkN (.seqN (.reg (.bi R (.mv R (.nil ((ih5 _ (oi hm).symm).sub [] R)))))))
 ·refine .cF R hc ?_
  exact .exit (.seqX (.seqX ((K8 _ (ho5 _ (oi hm).symm)).sub [] R)))
def y2P (p0 : (AutT × (List KeyT)) × (AutT × (List KeyT)) × (AutT × (List KeyT)) × List (List Int) × List Int × List Int) (p1 : Int) (p2 : List Int) : Option Int :=
 (y1Q p2 (y2r (some p0) p1)).bind fun r1 =>
 if decide (r1 < 0) then
  some (-1)
 else
  (idx p2 r1).bind fun x2 =>
  some x2
theorem y5H {p0 : (AutT × (List KeyT)) × (AutT × (List KeyT)) × (AutT × (List KeyT)) × List (List Int) × List Int × List Int} {p1 : Int} {p2 : List Int} {r : Int} (hm : y2P p0 p1 p2 = some r) :
  Fw Tryz.prog 66 ⟨0, []⟩ [.o (lQ 110 (lx110 p0) 0), .i p1, .f qI p2] [] (.i r) [] := by
 unfold y2P at hm
 refine Fw.mk' Tryz.func66 R Tryz.ntmps66 R R (fun C => ?_) R R
 refine .seq (.reg (.op (O.box 0 R Z R R R) R (.op (O.box 1 R Z R R R) R (.sa R (.nil (.seqN (.seq (.reg (.mv R (.fz 0 [3] [] R R fB R R (.fz 1 [4] [] R R fB R R (.cnt 3 R (.c (.q (.c (.pk (r := rE110) (.p (.p (.p .l (.p .k (.p .l .l))) .m) (.p (.p (.p .l (.p .k (.p .l .l))) .m) (.p (.p (.p .l (.p .k (.p .l .l))) .m) (.p .l (.p .l .l)))))) .n)) .n) R (.op (O.mf (args := (fun (x : Int) => [.i x])) (res := (fun (r : Bool) => .b r)) (m := (y2r (some p0) p1)) cf115 (fun x r h => y7g h) (fun _ => R) R Z R R) R (bS hm fun r1 er1 hm => .op (O.ca0 (y4U er1) cf114 R R Z R R R) R (.sa R (.nil (.seqN (.seq (.seq (.reg (.mv R (.bi R (.nil (.seqN ?_))))))))))))))))))))))))
 rcases ifS hm with ⟨hc, hm⟩ | ⟨hc, hm⟩
 ·refine .cT R hc ?_
  refine .seq (.reg (.sa R (.nil (.seqN (.ret (.seqR ?_))))))
  obtain rfl := oi hm
  exact WX.rt [] (.inl R) Tryz.results66 (.tmp R .nil) R (fun _ _ _ h => h) trivial
 ·refine .cF R hc ?_
  refine .skip (.seqN (.seq (.reg (.mv R (.mv R (bS hm fun x2 ex2 hm => .op (O.ix sl22 Z R R ex2 R) R (.op (O.ld nag3 Z R (.E lv3) R R) R (.sa R (.nil (.seqN (.ret ?_)))))))))))
  obtain rfl := oi hm
  exact WX.rt [] (.inl R) Tryz.results66 (.tmp R .nil) R (fun _ _ _ h => h) trivial
def yy (st110 : Int × List Int × (List (Int × Int)) × EdgL) (l115 : List Int) (l116 : List (Int × Int)) (l117 : List (Int × Int × Int)) : Option ((Int × List Int × (List (Int × Int)) × EdgL) ⊕ (List Int × (List (Int × Int)) × EdgL)) :=
 some (.inl (W (st110.1 + 1), l115, l116, l117))
def y1f (st73 : Int × List Int × (List (Int × Int)) × List Int × EdgL) (st110 : Int × List Int × (List (Int × Int)) × EdgL) (r121 : Int) (x119 : Int) (l125 : List Int) (l126 : List (Int × Int)) : Option ((Int × List Int × (List (Int × Int)) × EdgL) ⊕ (List Int × (List (Int × Int)) × EdgL)) :=
 (app st110.2.2.2 ([(st73.1, x119, ((kget l126 r121).getD 0))] : List (Int × Int × Int))).bind fun x128 =>
 yy st110 l125 l126 x128
def y1g (p0 : (AutT × (List KeyT)) × (AutT × (List KeyT)) × (AutT × (List KeyT)) × List (List Int) × List Int × List Int) (r1 : List Int) (st73 : Int × List Int × (List (Int × Int)) × List Int × EdgL) (r82 : Int) (st110 : Int × List Int × (List (Int × Int)) × EdgL) : Option ((Int × List Int × (List (Int × Int)) × EdgL) ⊕ (List Int × (List (Int × Int)) × EdgL)) :=
 if decide (st110.1 < (r1.length : Int)) then
  (idx r1 st110.1).bind fun x119 =>
  (idx st110.2.1 st73.1).bind fun x120 =>
  (y1X p0.2.2.1 x120 x119).bind fun r121 =>
  (if (r121 == (-1)) then
   some true
  else
   (if (x119 != r82) then
    (yn p0.2.2.2.2.1 x119).bind fun r133 =>
    some (!r133)
   else
    some false).bind fun b130 =>
   some b130).bind fun b122 =>
  if b122 then
   yy st110 st110.2.1 st110.2.2.1 st110.2.2.2
  else
   if (!((kget st110.2.2.1 r121).isSome)) then
    (app st110.2.1 ([r121] : List Int)).bind fun x129 =>
    y1f st73 st110 r121 x119 x129 (kput st110.2.2.1 r121 (st110.2.1.length : Int))
   else
    y1f st73 st110 r121 x119 st110.2.1 st110.2.2.1
 else
  some (.inr st110.2)
def y1h (p0 : (AutT × (List KeyT)) × (AutT × (List KeyT)) × (AutT × (List KeyT)) × List (List Int) × List Int × List Int) (p1 : List Int) (r1 : List Int) (st73 : Int × List Int × (List (Int × Int)) × List Int × EdgL) (l79 : List Int) : Option ((Int × List Int × (List (Int × Int)) × List Int × EdgL) ⊕ (List Int × List Int × EdgL)) :=
 (idx st73.2.1 st73.1).bind fun x81 =>
 (y2P p0 x81 p1).bind fun r82 =>
 (iter (y1g p0 r1 st73 r82) (0, st73.2.1, st73.2.2.1, st73.2.2.2.2)).bind fun o110 =>
 some (.inl (W (st73.1 + 1), o110.1, o110.2.1, l79, o110.2.2))
def y1i (p0 : (AutT × (List KeyT)) × (AutT × (List KeyT)) × (AutT × (List KeyT)) × List (List Int) × List Int × List Int) (p1 : List Int) (r1 : List Int) (st73 : Int × List Int × (List (Int × Int)) × List Int × EdgL) : Option ((Int × List Int × (List (Int × Int)) × List Int × EdgL) ⊕ (List Int × List Int × EdgL)) :=
 if decide (st73.1 < (st73.2.1.length : Int)) then
  (idx st73.2.1 st73.1).bind fun x134 =>
  (yn p0.2.2.1.1.2.2.1 x134).bind fun r135 =>
  if r135 then
   (app st73.2.2.2.1 ([st73.1] : List Int)).bind fun x136 =>
   y1h p0 p1 r1 st73 x136
  else
   y1h p0 p1 r1 st73 st73.2.2.2.1
 else
  some (.inr (st73.2.1, st73.2.2.2))
def y1j (p0 : (AutT × (List KeyT)) × (AutT × (List KeyT)) × (AutT × (List KeyT)) × List (List Int) × List Int × List Int) (p1 : List Int) (r1 : List Int) (l2 : List Int) (l3 : List (Int × Int)) : Option (AutT × (List KeyT)) :=
 (iter (y1i p0 p1 r1) (0, l2, l3, ([] : List Int), ([] : List (Int × Int × Int)))).bind fun o73 =>
 (y3D (r1, (o73.1.length : Int), o73.2)).bind fun r78 =>
 some r78
def y1R (p0 : (AutT × (List KeyT)) × (AutT × (List KeyT)) × (AutT × (List KeyT)) × List (List Int) × List Int × List Int) (p1 : List Int) : Option (AutT × (List KeyT)) :=
 (y1a p0.2.2.1.1.1).bind fun r1 =>
 if decide (p0.2.2.1.1.2.1 > 0) then
  (app ([] : List Int) ([0] : List Int)).bind fun x137 =>
  y1j p0 p1 r1 x137 (kput ([] : List (Int × Int)) 0 0)
 else
  y1j p0 p1 r1 ([] : List Int) ([] : List (Int × Int))
theorem y4V {p0 : (AutT × (List KeyT)) × (AutT × (List KeyT)) × (AutT × (List KeyT)) × List (List Int) × List Int × List Int} {p1 : List Int} {r : (AutT × (List KeyT))} (hm : y1R p0 p1 = some r) :
  Fw Tryz.prog 62 ⟨0, []⟩ [.o (lQ 110 (lx110 p0) 0), .f qI p1] [] (.g [lF qI r.1.1, lI r.1.2.1, lF qI r.1.2.2.1, lF qT r.1.2.2.2, lM kvP qI r.2]) [] := by
 unfold y1R at hm
 refine Fw.mk' Tryz.func62 R Tryz.ntmps62 R R (fun C => ?_) R R
 refine .seq (.reg (.op (O.al 0 R zz108 R Z R) R (.nil (.seqN (.seq (.reg (.mv R (.op (O.nc .Q Z R R) R (.op (O.faQ y5O Z R R) R (.op (O.faQ y4t Z R R) R (.op (O.faQ y1D Z R R) R (.op (O.ld nag22 Z R .Q R R) R (bS hm fun r1 er1 hm => .op (O.ca (r' := .h 1) [1] [(0, ROW qI 3 r1)] (some 2) (y3Z er1) cf83 R R Z R R R R ⟨⟨_, R, fun _ _ _ _ h => h⟩, trivial⟩ (fun _ _ _ h => h) R) R (.op (O.bu (l := [lH 1, lI 0, lN, lN]) pl25 R Z R R R) R (.op (O.al 2 R zz25 R Z R) R (.op (O.st ag25.sz Z R R R R R) R (.nil (.seqN (.seq (.reg (.sa R (.nil (.seqN (.seq (.reg (.op (O.mk2 (kv := kvI) (r := qI) 3 R Z R) R (.sa R (.nil (.seqN ?_)))))))))))))))))))))))))))))
 refine .join2 (fun (l2 : List Int) (l3 : List (Int × Int)) => y1j p0 p1 r1 l2 l3 = some r) (fun l2 l3 => ⟨[(6, .h 0), (7, .h 1), (5, .q 2 0), (4, .q 4 0), (0, .o (lQ 110 (lx110 p0) 0)), (1, .f qI p1)], [(0, ROW qI 3 l2), (1, MAP kvI qI 181 l3), (2, .bx 25 [lH 3, lI 0, lN, lN]), (3, ROW qI 3 r1), (4, .bx 108 [lN, lI 0, lN, lN, lV (.map none)])], 5⟩) ?_ ?_
 ·intro l2 l3 hm
  unfold y1j at hm
  refine .seq (.seq (.reg (.sa R (.nil (.seqN (.block (bS hm fun o73 eo73 hm => ?_)))))))
  refine .cut1 (z := .exit 0) o73 (fun (o73 : List Int × List Int × EdgL) => ⟨[(6, .h 0), (5, .q 1 0), (4, .q 5 0)], [(0, ROW qI 3 o73.1), (1, .bx 25 [lH 2, lI 0, lH 3, lH 4]), (2, ROW qI 3 r1), (3, ROW qI 3 o73.2.1), (4, ROW qT 97 o73.2.2), (5, .bx 108 [lN, lI 0, lN, lN, lV (.map none)])], 6⟩) ?_ fun K77 => ?_
  ·skip
   refine .blkE (.seqN (.seq (.reg (.mv R (.op (O.lenH sl22 Z R R R) R (.op (O.faP yW Z R R) R (.op (O.st nag3.sz Z R R R R R) R (.nil (.seqN (.seq (.reg (.op (O.lg (l' := [lH 2, lI (o73.1.length : Int), lH 3, lH 4]) ag25 Z R (.B R) R R R) R (.fz 2 [129] [1] R R fR R R (.fz 3 [129] [1] R R fR R R (.fz 4 [129] [1] R R fR R R (bS hm fun r78 er78 hm => .op (O.ca0 (y5a er78) cf105 R R Z R R R) R (.op (O.st ag108.sz Z R R R R R) R (.nil (.seqN (.ret ?_))))))))))))))))))))
   obtain rfl := oi hm
   exact WX.rt [] (.inl R) Tryz.results62 (.cell R R ag108 R .nil) R (fun _ _ _ h => h) trivial
  refine .nlb qI 3 2 2 R R (.nlb qT 97 2 3 R R (.iter (fun (st73 : Int × List Int × (List (Int × Int)) × List Int × EdgL) => ⟨[(8, .i st73.1), (6, .h 0), (7, .h 1), (5, .q 2 0), (4, .q 6 0), (0, .o (lQ 110 (lx110 p0) 0)), (1, .f qI p1)], [(0, ROW qI 3 st73.2.1), (1, MAP kvI qI 181 st73.2.2.1), (2, .bx 25 [lH 3, lI 0, lH 4, lH 5]), (3, ROW qI 3 r1), (4, ROW qI 3 st73.2.2.2.1), (5, ROW qT 97 st73.2.2.2.2), (6, .bx 108 [lN, lI 0, lN, lN, lV (.map none)])], 7⟩) eo73 [(4, 5), (5, 6), (6, 4)] R ?_))
  intro st73 res73 hm ih73 ho73
  unfold y1i at hm
  refine .seq (.seq (.reg (.mv R (.mv R (.op (O.lenH sl22 Z R R R) R (.bi R (.nil (.seqN ?_))))))))
  rcases ifS hm with ⟨hc, hm⟩ | ⟨hc, hm⟩
  ·refine .cT R hc ?_
   refine .skip (.seqN (.seq (.block ?_)))
   refine .join1 (fun (l79 : List Int) => y1h p0 p1 r1 st73 l79 = some res73) (fun l79 => ⟨[(8, .i st73.1), (6, .h 0), (7, .h 1), (5, .q 2 0), (4, .q 6 0), (0, .o (lQ 110 (lx110 p0) 0)), (1, .f qI p1)], [(0, ROW qI 3 st73.2.1), (1, MAP kvI qI 181 st73.2.2.1), (2, .bx 25 [lH 3, lI 0, lH 4, lH 5]), (3, ROW qI 3 r1), (4, ROW qI 3 l79), (5, ROW qT 97 st73.2.2.2.2), (6, .bx 108 [lN, lI 0, lN, lN, lV (.map none)])], 7⟩) ?_ ?_
   ·intro l79 hm
    unfold y1h at hm
    refine .seq (.reg (.mv R (.mv R (.mv R (bS hm fun x81 ex81 hm => .op (O.ir sl22 Z R R R ex81 R) R (.op (O.ld nag3 Z R (.R R ex81 lv3) R R) R (.mv R (bS hm fun r82 er82 hm => .op (O.ca0 (y5H er82) cf66 R R Z R R R) R (.sa R (.nil (.seqN (.seq (.reg (.op (O.faP y1D Z R R) R (.op (O.ld nag22 Z R (.B R) R R) R (.op (O.lenH sl22 Z R R R) R (.mv R (.nil (.seqN (.block (bS hm fun o110 eo110 hm => ?_)))))))))))))))))))))
    refine .cut1 (z := .exit 2) o110 (fun (o110 : List Int × (List (Int × Int)) × EdgL) => ⟨[(8, .i st73.1), (6, .h 0), (7, .h 1), (5, .q 2 0), (4, .q 6 0), (0, .o (lQ 110 (lx110 p0) 0)), (1, .f qI p1)], [(0, ROW qI 3 o110.1), (1, MAP kvI qI 181 o110.2.1), (2, .bx 25 [lH 3, lI 0, lH 4, lH 5]), (3, ROW qI 3 r1), (4, ROW qI 3 l79), (5, ROW qT 97 o110.2.2), (6, .bx 108 [lN, lI 0, lN, lN, lV (.map none)])], 7⟩) ?_ fun K114 => ?_
    ·skip
     exact .blkE (.blkN (.seqN (.reg (.mv R (.bi R (.sa R (.nil ((ih73 _ (oi hm).symm).sub [] R))))))))
    refine .iter (fun (st110 : Int × List Int × (List (Int × Int)) × EdgL) => ⟨[(68, .i st110.1), (67, .i (r1.length : Int)), (66, .h 0), (9, .i r82), (8, .i st73.1), (6, .h 1), (7, .h 2), (5, .q 3 0), (4, .q 6 0), (0, .o (lQ 110 (lx110 p0) 0)), (1, .f qI p1)], [(0, ROW qI 3 r1), (1, ROW qI 3 st110.2.1), (2, MAP kvI qI 181 st110.2.2.1), (3, .bx 25 [lH 0, lI 0, lH 4, lH 5]), (4, ROW qI 3 l79), (5, ROW qT 97 st110.2.2.2), (6, .bx 108 [lN, lI 0, lN, lN, lV (.map none)])], 7⟩) eo110 [(0, 3), (1, 0), (2, 1), (3, 2)] R ?_
    intro st110 res110 hm ih110 ho110
    unfold y1g at hm
    refine .seq (.reg (.bi R (.nil (.seqN (.seq ?_)))))
    rcases ifS hm with ⟨hc, hm⟩ | ⟨hc, hm⟩
    ·refine .cT R hc ?_
     refine .skip (.seqN ?_)
     refine .join3 (fun (l115 : List Int) (l116 : List (Int × Int)) (l117 : List (Int × Int × Int)) => yy st110 l115 l116 l117 = some res110) (fun l115 l116 l117 => ⟨[(68, .i st110.1), (67, .i (r1.length : Int)), (66, .h 0), (9, .i r82), (8, .i st73.1), (6, .h 1), (7, .h 2), (5, .q 3 0), (4, .q 6 0), (0, .o (lQ 110 (lx110 p0) 0)), (1, .f qI p1)], [(0, ROW qI 3 r1), (1, ROW qI 3 l115), (2, MAP kvI qI 181 l116), (3, .bx 25 [lH 0, lI 0, lH 4, lH 5]), (4, ROW qI 3 l79), (5, ROW qT 97 l117), (6, .bx 108 [lN, lI 0, lN, lN, lV (.map none)])], 7⟩) ?_ ?_
     ·intro l115 l116 l117 hm
      unfold yy at hm
      exact .reg (.bi R (.mv R (.nil ((ih110 _ (oi hm).symm).sub [] R))))
     ·intro Jj118
      refine .block (.seq (.reg (bS hm fun x119 ex119 hm => .op (O.ir sl22 Z R R R ex119 R) R (.op (O.ld nag3 Z R (.R R ex119 lv3) R R) R (.sa R (.nil (.seqN (.seq ?_))))))))
      refine .sub (τ := ⟨[(11, .i x119), (68, .i st110.1), (67, .i (r1.length : Int)), (66, .h 0), (9, .i r82), (8, .i st73.1), (6, .h 1), (7, .h 2), (5, .q 3 0), (4, .q 6 0), (0, .o (lQ 110 (lx110 p0) 0)), (1, .f qI p1)], [(0, ROW qI 3 r1), (1, ROW qI 3 st110.2.1), (2, MAP kvI qI 181 st110.2.2.1), (3, .bx 25 [lH 0, lI 0, lH 4, lH 5]), (4, ROW qI 3 l79), (5, ROW qT 97 st110.2.2.2), (6, .bx 108 [lN, lI 0, lN, lN, lV (.map none)])], 7⟩) ?_ [] R
      refine bS hm fun x120 ex120 hm => bS hm fun r121 er121 hm => ?_
      refine .drw [(7, []), (7, [oT]), (7, [oT, oT]), (7, [oT, oT, oT]), (7, []), (7, []), (7, [oF, oF, oF, oF, oT, oT]), (7, [oF, oF, oF, oF, oT, oT, oT]), (7, []), (7, [oT, oT, oT, oT, oT, oT, oT, oT, oT]), (7, [oT, oT, oT, oT, oT, oT, oT, oT, oT, oT])] [_, _, _, _, _, _, _, _, _, _, _] ⟨[(12, .i r121), (11, .i x119), (68, .i st110.1), (67, .i (r1.length : Int)), (66, .h 0), (9, .i r82), (8, .i st73.1), (6, .h 1), (7, .h 2), (5, .q 3 0), (4, .q 6 0), (0, .o (lQ 110 (lx110 p0) 0)), (1, .f qI p1)], [(0, ROW qI 3 r1), (1, ROW qI 3 st110.2.1), (2, MAP kvI qI 181 st110.2.2.1), (3, .bx 25 [lH 0, lI 0, lH 4, lH 5]), (4, ROW qI 3 l79), (5, ROW qT 97 st110.2.2.2), (6, .bx 108 [lN, lI 0, lN, lN, lV (.map none)])], 7⟩ ⟨O.mv Z R R, O.nc .Q Z R R, O.faQ y5O Z R R, O.lg (l' := [lF qI p0.2.2.1.1.1, lI p0.2.2.1.1.2.1, lF qI p0.2.2.1.1.2.2.1, lF qT p0.2.2.1.1.2.2.2, lM kvP qI p0.2.2.1.2]) ag108 Z R .Q R R R, O.mv Z R R, O.mv Z R R, O.ir sl22 Z R R R ex120 R, O.ld nag3 Z R (.R R ex120 lv3) R R, O.mv Z R R, O.ca0 (y3T er121) cf106 R R Z R R R, O.as Z R R, trivial⟩ (by kernel_rfl) R ?_
      refine .seqN (.seq (.seq (.reg (.mv R (.bi R (.mv R (bS hm fun b122 eb122 hm => ?_)))))))
      refine .cut 13 (fun (v123 : Bool) => b122 = v123) (fun v123 => ⟨[(97, .b v123), (12, .i r121), (11, .i x119), (68, .i st110.1), (67, .i (r1.length : Int)), (66, .h 0), (9, .i r82), (8, .i st73.1), (6, .h 1), (7, .h 2), (5, .q 3 0), (4, .q 6 0), (0, .o (lQ 110 (lx110 p0) 0)), (1, .f qI p1)], [(0, ROW qI 3 r1), (1, ROW qI 3 st110.2.1), (2, MAP kvI qI 181 st110.2.2.1), (3, .bx 25 [lH 0, lI 0, lH 4, lH 5]), (4, ROW qI 3 l79), (5, ROW qT 97 st110.2.2.2), (6, .bx 108 [lN, lI 0, lN, lN, lV (.map none)])], 7⟩) ?_ ?_
      ·rintro _ rfl
       refine .nil (.seqN ?_)
       rcases ifS hm with ⟨hc, hm⟩ | ⟨hc, hm⟩
       ·refine .cT R hc ?_
        exact .exit (.seqX (.blkE ((Jj118 _ _ _ hm).sub [] R)))
       ·refine .cF R hc ?_
        refine .skip (.seqN ?_)
        refine .join2 (fun (l125 : List Int) (l126 : List (Int × Int)) => y1f st73 st110 r121 x119 l125 l126 = some res110) (fun l125 l126 => ⟨[(6, .h 0), (12, .i r121), (11, .i x119), (68, .i st110.1), (67, .i (r1.length : Int)), (66, .h 1), (9, .i r82), (8, .i st73.1), (7, .h 2), (5, .q 3 0), (4, .q 6 0), (0, .o (lQ 110 (lx110 p0) 0)), (1, .f qI p1)], [(0, ROW qI 3 l125), (1, ROW qI 3 r1), (2, MAP kvI qI 181 l126), (3, .bx 25 [lH 1, lI 0, lH 4, lH 5]), (4, ROW qI 3 l79), (5, ROW qT 97 st110.2.2.2), (6, .bx 108 [lN, lI 0, lN, lN, lV (.map none)])], 7⟩) ?_ ?_
        ·intro l125 l126 hm
         unfold y1f at hm
         exact .reg (.op (O.faP yz Z R R) R (.op (O.ld nag23 Z R (.B R) R R) R (.mv R (.mv R (.mv R (.mv R (.op (O.mi (k := r121) md181 Z (.ow R R) (.o R) R) R (.op (O.bu (l := [lI st73.1, lI x119, lI ((kget l126 r121).getD 0)]) pl97 R Z R R R) R (.op (O.bsF (r := qT) (zs := ([(st73.1, x119, ((kget l126 r121).getD 0))] : List (Int × Int × Int))) bs23 R R Z R R R (.c (.p .k (.p .k .k)) .n) R R R) R (bS hm fun x128 ex128 hm => .op (O.ap 7 Tryz.underlying23 el97 R R Z R R (.fr R) ex128 R) R (.op (O.faP yz Z R R) R (.op (O.st nag23.sz Z R R R R R) R (.nil (.blkN ((Jj118 _ _ _ hm).sub [(0, 1), (1, 0), (5, 7)] R)))))))))))))))
        ·intro Jj127
         refine .seq (.reg (.mv R (.mv R (.op (O.mi2 (k := r121) md181 Z (.ow R R) (.o R) R) R (.mv R (.op (O.ex Z R R R) R (.op (O.ex Z R R R) R (.sa R (.sa R (.nil (.seqN (.seq (.reg (.mv R (.op (O.not Z R R) R (.nil (.seqN ?_)))))))))))))))))
         rcases ifS hm with ⟨hc, hm⟩ | ⟨hc, hm⟩
         ·refine .cT R hc ?_
          exact .seq (.reg (.mv R (.mv R (.mv R (.op (O.lenH sl22 Z R R R) R (.op (O.mu (k := r121) (v := (st110.2.1.length : Int)) md181 (fun _ _ => eqI) Z R R (.o R) R .k) R (.nil (.seqN (.reg (.mv R (.mv R (.op (O.bsF (r := qI) (zs := ([r121] : List Int)) bs22 R R Z R R R (.c .k .n) R R R) R (bS hm fun x129 ex129 hm => .op (O.ap 7 Tryz.underlying22 el3 R R Z R R (.fr R) ex129 R) R (.sa R (.nil ((Jj127 _ _ hm).sub [(0, 7), (1, 0)] R))))))))))))))))
         ·refine .cF R hc ?_
          exact .skip ((Jj127 _ _ hm).sub [(0, 1), (1, 0)] R)
      ·intro J124
       rcases ifS eb122 with ⟨hc, hm⟩ | ⟨hc, hm⟩
       ·refine .know (d := 84) R hc ?_
        exact .sk R (.sk R (.sk R (.sk R (.op (O.skipU R R R) R (.op (O.skipU R R R) R (.op (O.skipU R R R) R (.op (O.skipU R R R) R (.op (O.skipU R R R) R (.op (O.skipU R R R) R (.op (O.skipU R R R) R (.sk R (.op (O.pkT Z R R R R) R ((J124 true (oi hm).symm).sub [] R)))))))))))))
       ·refine .know (d := 84) R hc ?_
        refine .op (O.mv (Gu.mk R R) R R) R (.op (O.mv (Gu.mk R R) R R) R (.op (O.bi (Gu.mk R R) R R R R) R (.op (O.mv (Gu.mk R R) R R) R (bS hm fun b130 eb130 hm => ?_))))
        refine .cut 8 (fun (v131 : Bool) => b130 = v131) (fun v131 => ⟨[(96, .b v131), (84, .b false), (12, .i r121), (11, .i x119), (68, .i st110.1), (67, .i (r1.length : Int)), (66, .h 0), (9, .i r82), (8, .i st73.1), (6, .h 1), (7, .h 2), (5, .q 3 0), (4, .q 6 0), (0, .o (lQ 110 (lx110 p0) 0)), (1, .f qI p1)], [(0, ROW qI 3 r1), (1, ROW qI 3 st110.2.1), (2, MAP kvI qI 181 st110.2.2.1), (3, .bx 25 [lH 0, lI 0, lH 4, lH 5]), (4, ROW qI 3 l79), (5, ROW qT 97 st110.2.2.2), (6, .bx 108 [lN, lI 0, lN, lN, lV (.map none)])], 7⟩) ?_ ?_
        ·rintro _ rfl
         exact .op (O.pkF Z R R R R) R ((J124 b130 (oi hm).symm).sub [] R)
        ·intro J132
         rcases ifS eb130 with ⟨hc, hm⟩ | ⟨hc, hm⟩
         ·refine .know (d := 88) R hc ?_
          exact .op (O.mv (Gu.mk R R) R R) R (.op (O.nc .Q (Gu.mk R R) R R) R (.op (O.faQ y9Z (Gu.mk R R) R R) R (.op (O.ld nag22 (Gu.mk R R) R .Q R R) R (.op (O.mv (Gu.mk R R) R R) R (bS hm fun r133 er133 hm => .op (O.ca0 (yU er133) cf68 R R (Gu.mk R R) R R R) R (.op (O.not (Gu.mk R R) R R) R (.op (O.pkT (Gu.mk R R) R R R R) R ((J132 (!r133) (oi hm).symm).sub [] R))))))))
         ·refine .know (d := 88) R hc ?_
          exact .sk R (.sk R (.sk R (.sk R (.sk R (.sk R (.sk R (.op (O.pkF (Gu.mk R R) R R R R) R ((J132 false (oi hm).symm).sub [] R))))))))
    ·refine .cF R hc ?_
     exact .exit (.seqX (.seqX ((K114 _ (ho110 _ (oi hm).symm)).sub [(0, 1), (1, 2), (2, 3), (3, 0)] R)))
   ·intro Jj80
    refine .seq ?_
    refine .sub (τ := ⟨[(8, .i st73.1), (6, .h 0), (7, .h 1), (5, .q 2 0), (4, .q 6 0), (0, .o (lQ 110 (lx110 p0) 0)), (1, .f qI p1)], [(0, ROW qI 3 st73.2.1), (1, MAP kvI qI 181 st73.2.2.1), (2, .bx 25 [lH 3, lI 0, lH 4, lH 5]), (3, ROW qI 3 r1), (4, ROW qI 3 st73.2.2.2.1), (5, ROW qT 97 st73.2.2.2.2), (6, .bx 108 [lN, lI 0, lN, lN, lV (.map none)])], 7⟩) ?_ [] R
    refine bS hm fun x134 ex134 hm => bS hm fun r135 er135 hm => ?_
    refine .drw [(7, []), (7, [oT]), (7, [oT, oT]), (7, [oT, oT, oT]), (7, [oT, oT, oT, oT]), (7, [oT, oT, oT, oT, oT]), (7, []), (7, []), (7, [oF, oF, oF, oF, oF, oF, oT, oT]), (7, [oF, oF, oF, oF, oF, oF, oT, oT, oT]), (7, [oT, oT, oT, oT, oT, oT, oT, oT, oT, oT])] [_, _, _, _, _, _, _, _, _, _, _] ⟨[(51, .b r135), (8, .i st73.1), (6, .h 0), (7, .h 1), (5, .q 2 0), (4, .q 6 0), (0, .o (lQ 110 (lx110 p0) 0)), (1, .f qI p1)], [(0, ROW qI 3 st73.2.1), (1, MAP kvI qI 181 st73.2.2.1), (2, .bx 25 [lH 3, lI 0, lH 4, lH 5]), (3, ROW qI 3 r1), (4, ROW qI 3 st73.2.2.2.1), (5, ROW qT 97 st73.2.2.2.2), (6, .bx 108 [lN, lI 0, lN, lN, lV (.map none)])], 7⟩ ⟨O.mv Z R R, O.nc .Q Z R R, O.faQ y5O Z R R, O.faQ y4t Z R R, O.faQ y2N Z R R, O.ld nag22 Z R .Q R R, O.mv Z R R, O.mv Z R R, O.ir sl22 Z R R R ex134 R, O.ld nag3 Z R (.R R ex134 lv3) R R, O.ca0 (yU er135) cf68 R R Z R R R, trivial⟩ (by kernel_rfl) R ?_
    refine .seqN ?_
    rcases ifS hm with ⟨hc, hm⟩ | ⟨hc, hm⟩
    ·refine .cT R hc ?_
     exact .reg (.op (O.faP y2N Z R R) R (.op (O.ld nag22 Z R (.B R) R R) R (.mv R (.op (O.bsF (r := qI) (zs := ([st73.1] : List Int)) bs22 R R Z R R R (.c .k .n) R R R) R (bS hm fun x136 ex136 hm => .op (O.ap 7 Tryz.underlying22 el3 R R Z R R (.fr R) ex136 R) R (.op (O.faP y2N Z R R) R (.op (O.st nag22.sz Z R R R R R) R (.nil ((Jj80 _ hm).sub [(4, 7)] R)))))))))
    ·refine .cF R hc ?_
     exact .skip ((Jj80 _ hm).sub [] R)
  ·refine .cF R hc ?_
   exact .exit (.seqX (.seqX ((K77 _ (ho73 _ (oi hm).symm)).sub [(1, 2), (2, 3), (3, 4), (4, 5), (5, 6)] R)))
 ·intro Jj4
  refine .seq (.reg (.mv R (.op (O.nc .Q Z R R) R (.op (O.faQ y5O Z R R) R (.op (O.faQ y4t Z R R) R (.op (O.faQ yW Z R R) R (.op (O.ld nag3 Z R .Q R R) R (.bi R (.nil (.seqN ?_))))))))))
  rcases ifS hm with ⟨hc, hm⟩ | ⟨hc, hm⟩
  ·refine .cT R hc ?_
   exact .seq (.reg (.mv R (.op (O.bsF (r := qI) (zs := ([0] : List Int)) bs22 R R Z R R R (.c .k .n) R R R) R (bS hm fun x137 ex137 hm => .op (O.apN (r := qI) 4 Tryz.underlying22 el3 R R Z R (.fr R) ex137 R) R (.sa R (.nil (.seqN (.reg (.mv R (.op (O.mu (k := 0) (v := 0) md181 (fun _ _ => eqI) Z R R (.o R) R .k) R (.nil ((Jj4 _ _ hm).sub [(0, 4), (1, 3), (3, 1), (4, 0)] R))))))))))))
  ·refine .cF R hc ?_
   exact .skip (.nlg qI 3 6 0 R R ((Jj4 _ _ hm).sub [(0, 4), (1, 3), (3, 1), (4, 0)] R))
def y1L (st68 : Int × Bool × List Bool) (b72 : Bool) (l73 : List Bool) : Option ((Int × Bool × List Bool) ⊕ (Bool × List Bool)) :=
 some (.inl (W (st68.1 + 1), b72, l73))
def y2s (p0 : AutT × (List KeyT)) (st68 : Int × Bool × List Bool) : Option ((Int × Bool × List Bool) ⊕ (Bool × List Bool)) :=
 if decide (st68.1 < (p0.1.2.2.2.length : Int)) then
  (idx p0.1.2.2.2 st68.1).bind fun x75 =>
  (idx st68.2.2 x75.2.2).bind fun x76 =>
  (if x76 then
   (idx st68.2.2 x75.1).bind fun x82 =>
   some (!x82)
  else
   some false).bind fun b77 =>
  if b77 then
   (idx st68.2.2 x75.1).bind fun x80 =>
   (upd st68.2.2 x75.1 true).bind fun x81 =>
   y1L st68 true x81
  else
   y1L st68 st68.2.1 st68.2.2
 else
  some (.inr st68.2)
def y3d (p0 : AutT × (List KeyT)) (st48 : Bool × List Bool) : Option ((Bool × List Bool) ⊕ (List Bool)) :=
 if st48.1 then
  (iter (y2s p0) (0, false, st48.2)).bind fun o68 =>
  some (.inl o68)
 else
  some (.inr st48.2)
def y3e (p0 : AutT × (List KeyT)) (st9 : Int × List Bool) : Option ((Int × List Bool) ⊕ (List Bool)) :=
 if decide (st9.1 < (p0.1.2.2.1.length : Int)) then
  (idx p0.1.2.2.1 st9.1).bind fun x83 =>
  (idx st9.2 x83).bind fun x84 =>
  (upd st9.2 x83 true).bind fun x85 =>
  some (.inl (W (st9.1 + 1), x85))
 else
  some (.inr st9.2)
def y3U (p0 : AutT × (List KeyT)) : Option (List Bool) :=
 (mkL p0.1.2.1 false).bind fun x1 =>
 (iter (y3e p0) (0, x1)).bind fun o9 =>
 (iter (y3d p0) (true, o9)).bind fun o48 =>
 some o48
theorem y8p {p0 : AutT × (List KeyT)} {r : List Bool} (hm : y3U p0 = some r) :
  Fw Tryz.prog 64 ⟨0, []⟩ [.a [lF qI p0.1.1, lI p0.1.2.1, lF qI p0.1.2.2.1, lF qT p0.1.2.2.2, lM kvP qI p0.2]] [] (.h 0) [ROW rB 4 r] := by
 unfold y3U at hm
 refine Fw.mk' Tryz.func64 R Tryz.ntmps64 R R (fun C => ?_) R R
 refine .seq (.reg (.op (O.box 0 R Z R R R) R (.sa R (.nil (.seqN (.seq (.reg (.op (O.faP y4t Z R R) R (.op (O.faP yW Z R R) R (.op (O.ld nag3 Z R (.B R) R R) R (bS hm fun x1 ex1 hm => .op (O.mk (z := false) 1 Tryz.underlying118 zr4 R R Z R R ex1 R) R (.sa R (.nil (.seqN (.seq (.seq (.reg (.op (O.faP y4t Z R R) R (.op (O.faP y2N Z R R) R (.op (O.ld nag22 Z R (.B R) R R) R (.op (O.len sl22 Z R R) R (.mv R (.nil (.seqN (.block (bS hm fun o9 eo9 hm => ?_))))))))))))))))))))))))))
 refine .cut1 (z := .exit 0) o9 (fun (o9 : List Bool) => ⟨[(3, .h 0), (1, .q 1 0)], [(0, ROW rB 4 o9), (1, .bx 108 [lF qI p0.1.1, lI p0.1.2.1, lF qI p0.1.2.2.1, lF qT p0.1.2.2.2, lM kvP qI p0.2])], 2⟩) ?_ fun K11 => ?_
 ·skip
  refine .blkE (.seqN (.seq (.seq (.reg (.sa R (.nil (.seqN (.block (bS hm fun o48 eo48 hm => ?_)))))))))
  refine .cut1 (z := .exit 2) o48 (fun (o48 : List Bool) => ⟨[(3, .h 0)], [(0, ROW rB 4 o48)], 1⟩) ?_ fun K50 => ?_
  ·skip
   refine .blkE (.seqN (.seq (.reg (.mv R (.sa R (.nil (.seqN (.ret ?_))))))))
   obtain rfl := oi hm
   exact WX.rt [0] (.inl R) Tryz.results64 (.tmp R .nil) R (fun _ _ _ h => h) ⟨⟨_, R, fun _ _ _ _ h => h⟩, trivial⟩
  refine .iter (fun (st48 : Bool × List Bool) => ⟨[(6, .b st48.1), (3, .h 0), (1, .q 1 0)], [(0, ROW rB 4 st48.2), (1, .bx 108 [lF qI p0.1.1, lI p0.1.2.1, lF qI p0.1.2.2.1, lF qT p0.1.2.2.2, lM kvP qI p0.2])], 2⟩) eo48 [] R ?_
  intro st48 res48 hm ih48 ho48
  unfold y3d at hm
  refine .seq (.seq (.reg (.mv R (.nil (.seqN ?_)))))
  rcases ifS hm with ⟨hc, hm⟩ | ⟨hc, hm⟩
  ·refine .cT R hc ?_
   refine .skip (.seqN (.block (.seq (.reg (.sa R (.nil (.seqN (.seq (.reg (.op (O.faP y4t Z R R) R (.op (O.faP yz Z R R) R (.op (O.ld nag23 Z R (.B R) R R) R (.op (O.len sl23 Z R R) R (.mv R (.nil (.seqN (.block (bS hm fun o68 eo68 hm => ?_))))))))))))))))))
   refine .cut1 (z := .exit 4) o68 (fun (o68 : Bool × List Bool) => ⟨[(6, .b o68.1), (3, .h 0), (1, .q 1 0)], [(0, ROW rB 4 o68.2), (1, .bx 108 [lF qI p0.1.1, lI p0.1.2.1, lF qI p0.1.2.2.1, lF qT p0.1.2.2.2, lM kvP qI p0.2])], 2⟩) ?_ fun K71 => ?_
   ·skip
    exact .blkE (.blkN ((ih48 _ (oi hm).symm).sub [] R))
   refine .iter (fun (st68 : Int × Bool × List Bool) => ⟨[(30, .i st68.1), (29, .i (p0.1.2.2.2.length : Int)), (28, .f qT p0.1.2.2.2), (6, .b st68.2.1), (3, .h 0), (1, .q 1 0)], [(0, ROW rB 4 st68.2.2), (1, .bx 108 [lF qI p0.1.1, lI p0.1.2.1, lF qI p0.1.2.2.1, lF qT p0.1.2.2.2, lM kvP qI p0.2])], 2⟩) eo68 [] R ?_
   intro st68 res68 hm ih68 ho68
   unfold y2s at hm
   refine .seq (.reg (.bi R (.nil (.seqN (.seq ?_)))))
   rcases ifS hm with ⟨hc, hm⟩ | ⟨hc, hm⟩
   ·refine .cT R hc ?_
    refine .skip (.seqN ?_)
    refine .join2 (fun (b72 : Bool) (l73 : List Bool) => y1L st68 b72 l73 = some res68) (fun b72 l73 => ⟨[(6, .b b72), (30, .i st68.1), (29, .i (p0.1.2.2.2.length : Int)), (28, .f qT p0.1.2.2.2), (3, .h 0), (1, .q 1 0)], [(0, ROW rB 4 l73), (1, .bx 108 [lF qI p0.1.1, lI p0.1.2.1, lF qI p0.1.2.2.1, lF qT p0.1.2.2.2, lM kvP qI p0.2])], 2⟩) ?_ ?_
    ·intro b72 l73 hm
     unfold y1L at hm
     exact .reg (.bi R (.mv R (.nil ((ih68 _ (oi hm).symm).sub [] R))))
    ·intro Jj74
     refine .block (.seq (.reg (bS hm fun x75 ex75 hm => .op (O.ix sl23 Z R R ex75 R) R (.op (O.lg (l' := [lI x75.1, lI x75.2.1, lI x75.2.2]) ag97 Z R (.E lv97) R R R) R (.op (O.al 2 R zz97 R Z R) R (.op (O.st ag97.sz Z R R R R R) R (.nil (.seqN (.seq (.reg (.mv R (.op (O.faP y4E Z R R) R (.op (O.ld nag3 Z R (.B R) R R) R (bS hm fun x76 ex76 hm => .op (O.ir sl118 Z R R R ex76 R) R (.op (O.ld nag4 Z R (.R R ex76 lv4) R R) R (.mv R (bS hm fun b77 eb77 hm => ?_)))))))))))))))))
     refine .cut 7 (fun (v78 : Bool) => b77 = v78) (fun v78 => ⟨[(46, .b v78), (8, .q 2 0), (30, .i st68.1), (29, .i (p0.1.2.2.2.length : Int)), (28, .f qT p0.1.2.2.2), (6, .b st68.2.1), (3, .h 0), (1, .q 1 0)], [(2, .bx 97 [lI x75.1, lI x75.2.1, lI x75.2.2]), (0, ROW rB 4 st68.2.2), (1, .bx 108 [lF qI p0.1.1, lI p0.1.2.1, lF qI p0.1.2.2.1, lF qT p0.1.2.2.2, lM kvP qI p0.2])], 3⟩) ?_ ?_
     ·rintro _ rfl
      refine .nil (.seqN ?_)
      rcases ifS hm with ⟨hc, hm⟩ | ⟨hc, hm⟩
      ·refine .cT R hc ?_
       exact .reg (.mv R (.op (O.faP y3C Z R R) R (.op (O.ld nag3 Z R (.B R) R R) R (bS hm fun x80 ex80 hm => .op (O.ir sl118 Z R R R ex80 R) R (bS hm fun x81 ex81 hm => .op (O.su (z := true) nag4.sz Z R R ex80 ex81 R R R lv4 R .b) R (.sa R (.nil (.blkN ((Jj74 _ _ hm).sub [] R)))))))))
      ·refine .cF R hc ?_
       exact .skip (.blkN ((Jj74 _ _ hm).sub [] R))
     ·intro J79
      rcases ifS eb77 with ⟨hc, hm⟩ | ⟨hc, hm⟩
      ·refine .know (d := 39) R hc ?_
       exact .op (O.mv (Gu.mk R R) R R) R (.op (O.faP y3C (Gu.mk R R) R R) R (.op (O.ld nag3 (Gu.mk R R) R (.B R) R R) R (bS hm fun x82 ex82 hm => .op (O.ir sl118 (Gu.mk R R) R R R ex82 R) R (.op (O.ld nag4 (Gu.mk R R) R (.R R ex82 lv4) R R) R (.op (O.not (Gu.mk R R) R R) R (.op (O.pkT Z R R R R) R ((J79 (!x82) (oi hm).symm).sub [] R)))))))
      ·refine .know (d := 39) R hc ?_
       exact .sk R (.sk R (.sk R (.sk R (.sk R (.sk R (.op (O.pkF Z R R R R) R ((J79 false (oi hm).symm).sub [] R)))))))
   ·refine .cF R hc ?_
    exact .exit (.seqX (.seqX ((K71 _ (ho68 _ (oi hm).symm)).sub [] R)))
  ·refine .cF R hc ?_
   exact .exit (.seqX (.seqX ((K50 _ (ho48 _ (oi hm).symm)).sub [] R)))
 refine .iter (fun (st9 : Int × List Bool) => ⟨[(17, .i st9.1), (16, .i (p0.1.2.2.1.length : Int)), (15, .f qI p0.1.2.2.1), (3, .h 0), (1, .q 1 0)], [(0, ROW rB 4 st9.2), (1, .bx 108 [lF qI p0.1.1, lI p0.1.2.1, lF qI p0.1.2.2.1, lF qT p0.1.2.2.2, lM kvP qI p0.2])], 2⟩) eo9 [(0, 1), (1, 0)] R ?_
 intro st9 res9 hm ih9 ho9
 unfold y3e at hm
 refine .seq (.reg (.bi R (.nil (.seqN (.seq ?_)))))
 rcases ifS hm with ⟨hc, hm⟩ | ⟨hc, hm⟩
 ·refine .cT R hc ?_
  exact .skip (.seqN (.seq (.block (.seq (.reg (bS hm fun x83 ex83 hm => .op (O.ix sl22 Z R R ex83 R) R (.op (O.ld nag3 Z R (.E lv3) R R) R (.sa R (.nil (.seqN (.reg (.mv R (.mv R (bS hm fun x84 ex84 hm => .op (O.ir sl118 Z R R R ex84 R) R (bS hm fun x85 ex85 hm => .op (O.su (z := true) nag4.sz Z R R ex84 ex85 R R R lv4 R .b) R (.nil (.blkN (.seqN (.reg (.bi R (.mv R (.nil ((ih9 _ (oi hm).symm).sub [] R)))))))))))))))))))))))
 ·refine .cF R hc ?_
  exact .exit (.seqX (.seqX ((K11 _ (ho9 _ (oi hm).symm)).sub [] R)))
def y4A (p0 : List Bool) (p1 : Bool) (st4 : Int) : Option (Int ⊕ (Unit ⊕ Int)) :=
 if decide (st4 < (p0.length : Int)) then
  (idx p0 st4).bind fun x10 =>
  if (p1 == x10) then
   some (.inr (.inr (st4)))
  else
   some (.inl (W (st4 + 1)))
 else
  some (.inr (.inl ()))
def y3p (p0 : List Bool) (p1 : Bool) : Option Int :=
 (iter (y4A p0 p1) 0).bind fun o4 =>
 match o4 with
 | .inl u6 =>
  some (-1)
 | .inr (u8) =>
  some u8
theorem y7I {p0 : List Bool} {p1 : Bool} {r : Int} (hm : y3p p0 p1 = some r) :
  Fw Tryz.prog 63 ⟨0, []⟩ [.f rB p0, .b p1] [] (.i r) [] := by
 unfold y3p at hm
 refine Fw.mk' Tryz.func63 R Tryz.ntmps63 R R (fun C => ?_) R R
 refine .seq (.reg (.sa R (.nil (.seqN (.seq (.seq (.reg (.mv R (.op (O.len sl118 Z R R) R (.mv R (.nil (.seqN (.block (bS hm fun o4 eo4 hm => ?_))))))))))))))
 refine .cutU (z := .exit 0) (fun u6 => .inl u6 = o4) (fun (u6 : Unit) => ⟨[], [], 0⟩) ?_ fun K7 => ?_
 ·rintro u6 rfl
  dsimp only at hm
  refine .blkE (.seqN (.seq (.reg (.sa R (.nil (.seqN (.ret ?_)))))))
  obtain rfl := oi hm
  exact WX.rt [] (.inl R) Tryz.results63 (.tmp R .nil) R (fun _ _ _ h => h) trivial
 refine .cutU (z := .ret) (fun u8 => .inr (u8) = o4) (fun (u8 : Int) => ⟨[(4, .i u8)], [], 0⟩) ?_ fun K9 => ?_
 ·rintro u8 rfl
  dsimp only at hm
  refine .blkR (.seqR ?_)
  obtain rfl := oi hm
  exact WX.rt [] (.inl R) Tryz.results63 (.tmp R .nil) R (fun _ _ _ h => h) trivial
 refine .iter (fun (st4 : Int) => ⟨[(8, .i st4), (7, .i (p0.length : Int)), (0, .f rB p0), (1, .b p1)], [], 0⟩) eo4 [] R ?_
 intro st4 res4 hm ih4 ho4
 unfold y4A at hm
 refine .seq (.reg (.bi R (.nil (.seqN (.seq ?_)))))
 rcases ifS hm with ⟨hc, hm⟩ | ⟨hc, hm⟩
 ·refine .cT R hc ?_
  refine .skip (.seqN (.seq (.block (.seq (.reg (.mv R (.sa R (.nil (.seqN (.seq (.reg (.mv R (.mv R (.mv R (bS hm fun x10 ex10 hm => .op (O.ix sl118 Z R R ex10 R) R (.op (O.ld nag4 Z R (.E lv4) R R) R (.op (O.beq Tryz.underlying4 Z R R R) R (.nil (.seqN ?_)))))))))))))))))))
  rcases ifS hm with ⟨hc, hm⟩ | ⟨hc, hm⟩
  ·refine .cT R hc ?_
   exact .seq (.reg (.mv R (.sa R (.nil (.seqN (.ret (.blkR (.seqR (.seqR ((K9 _ (ho4 _ (oi hm).symm)).sub [] R))))))))))
  ·refine .cF R hc ?_
   exact .skip (.blkN (.seqN (.reg (.bi R (.mv R (.nil ((ih4 _ (oi hm).symm).sub [] R)))))))
 ·refine .cF R hc ?_
  exact .exit (.seqX (.seqX ((K7 _ (ho4 _ (oi hm).symm)).sub [] R)))
def y2t (p0 : AutT × AutT × List Int) (p1 : List Int) : Option ((Int × List Int × List Int) × Bool × Int) :=
 (y4g p0 p1).bind fun r1 =>
 if (r1.2 != 0) then
  some ((0, ([] : List Int), ([] : List Int)), false, r1.2)
 else
  r1.1.bind fun x2 =>
  (y1R x2 p1).bind fun r3 =>
  (y3U r3).bind fun r4 =>
  (y3p r4 false).bind fun r5 =>
  if decide (r5 ≥ 0) then
   (y3j r3 r5).bind fun r6 =>
   some ((3, r6, ([] : List Int)), false, 0)
  else
   some ((0, ([] : List Int), ([] : List Int)), true, 0)
theorem y5t {p0 : AutT × AutT × List Int} {p1 : List Int} {r : (Int × List Int × List Int) × Bool × Int} (hm : y2t p0 p1 = some r) :
  Fw Tryz.prog 18 ⟨0, []⟩ [.a [lF qI p0.1.1, lI p0.1.2.1, lF qI p0.1.2.2.1, lF qT p0.1.2.2.2, lF qI p0.2.1.1, lI p0.2.1.2.1, lF qI p0.2.1.2.2.1, lF qT p0.2.1.2.2.2, lF qI p0.2.2], .f qI p1] [] (.tp [.a [lI r.1.1, lH 0, lH 1], .b r.2.1, .i r.2.2]) [ROW qI 3 r.1.2.1, ROW qI 3 r.1.2.2] := by
 unfold y2t at hm
 refine Fw.mk' Tryz.func18 R Tryz.ntmps18 R R (fun C => ?_) R R
 refine .seq (.reg (.op (O.box 0 R Z R R R) R (.op (O.al 1 R zz38 R Z R) R (.sa R (.sa R (.nil (.seqN (.seq (.reg (.op (O.lg (l' := [lF qI p0.1.1, lI p0.1.2.1, lF qI p0.1.2.2.1, lF qT p0.1.2.2.2, lF qI p0.2.1.1, lI p0.2.1.2.1, lF qI p0.2.1.2.2.1, lF qT p0.2.1.2.2.2, lF qI p0.2.2]) ag27 Z R (.B R) R R R) R (.mv R (bS hm fun r1 er1 hm => .op (O.ca0 (y6l er1) cf61 R R Z R R R) R (.mv R (.op (O.ex Z R R R) R (.op (O.ex Z R R R) R (.sa R (.sa R (.nil (.seqN (.seq (.seq (.reg (.mv R (.bi R (.nil (.seqN ?_))))))))))))))))))))))))))
 rcases ifS hm with ⟨hc, hm⟩ | ⟨hc, hm⟩
 ·refine .cT R hc ?_
  refine .seq (.reg (.op (O.bu (l := [lI 0, lN, lN]) pl38 R Z R R R) R (.mv R (.op (O.st ag38.sz Z R R R R R) R (.sa R (.sa R (.nil (.seqN (.ret (.seqR (.nlb qI 3 1 1 R R (.nlb qI 3 1 2 R R ?_))))))))))))
  obtain rfl := oi hm
  exact WX.rt [2, 3] (.inl R) Tryz.results18 (.cell R R ag38 R (.tmp R (.tmp R .nil))) R (fun _ _ _ h => h) ⟨⟨_, R, fun _ _ _ _ h => h⟩, ⟨_, R, fun _ _ _ _ h => h⟩, trivial⟩
 ·refine .cF R hc ?_
  refine .skip (.seqN (.seq (.reg (.mv R (.mv R (bS hm fun x2 ex2 hm => .cnt 20 R (.c (.pd ex2 lv110) .n) R (.cnt 7 R (.c (.pd ex2 lv110) .n) R (.cnt 14 R (.c (.pd ex2 lv110) .n) R (bS hm fun r3 er3 hm => .op (O.ca0 (y4V er3) cf62 R R Z R R R) R (.op (O.al 2 R zz108 R Z R) R (.op (O.st ag108.sz Z R R R R R) R (.nil (.seqN (.seq (.seq (.reg (.op (O.lg (l' := [lF qI r3.1.1, lI r3.1.2.1, lF qI r3.1.2.2.1, lF qT r3.1.2.2.2, lM kvP qI r3.2]) ag108 Z R (.B R) R R R) R (bS hm fun r4 er4 hm => .op (O.ca (r' := .h 3) [3] [(0, ROW rB 4 r4)] (some 4) (y8p er4) cf64 R R Z R R R R ⟨⟨_, R, fun _ _ _ _ h => h⟩, trivial⟩ (fun _ _ _ h => h) R) R (bS hm fun r5 er5 hm => .op (O.caZ (y7I er5) cf63 R R Z R ⟨⟨R, .hr R, trivial⟩, ⟨R, LnL.rf⟩, trivial⟩ (fun _ _ _ _ _ h => h) R) R (.sa R (.nil (.seqN (.seq (.reg (.mv R (.bi R (.nil (.seqN ?_))))))))))))))))))))))))))))
  rcases ifS hm with ⟨hc, hm⟩ | ⟨hc, hm⟩
  ·refine .cT R hc ?_
   refine .seq (.reg (.op (O.lg (l' := [lF qI r3.1.1, lI r3.1.2.1, lF qI r3.1.2.2.1, lF qT r3.1.2.2.2, lM kvP qI r3.2]) ag108 Z R (.B R) R R R) R (.mv R (bS hm fun r6 er6 hm => .op (O.ca (r' := .h 4) [4] [(0, ROW qI 3 r6)] (some 5) (y5K er6) cf59 R R Z R R R R ⟨⟨_, R, fun _ _ _ _ h => h⟩, trivial⟩ (fun _ _ _ h => h) R) R (.op (O.bu (l := [lI 3, lH 4, lN]) pl38 R Z R R R) R (.op (O.st ag38.sz Z R R R R R) R (.sa R (.sa R (.nil (.seqN (.ret (.seqR (.nlb qI 3 1 2 R R ?_)))))))))))))
   obtain rfl := oi hm
   exact WX.rt [4, 5] (.inl R) Tryz.results18 (.cell R R ag38 R (.tmp R (.tmp R .nil))) R (fun _ _ _ h => h) ⟨⟨_, R, fun _ _ _ _ h => h⟩, ⟨_, R, fun _ _ _ _ h => h⟩, trivial⟩
  ·refine .cF R hc ?_
   refine .skip (.seqN (.seq (.reg (.op (O.bu (l := [lI 0, lN, lN]) pl38 R Z R R R) R (.op (O.st ag38.sz Z R R R R R) R (.sa R (.sa R (.nil (.seqN (.ret (.nlb qI 3 1 1 R R (.nlb qI 3 1 2 R R ?_))))))))))))
   obtain rfl := oi hm
   exact WX.rt [4, 5] (.inl R) Tryz.results18 (.cell R R ag38 R (.tmp R (.tmp R .nil))) R (fun _ _ _ h => h) ⟨⟨_, R, fun _ _ _ _ h => h⟩, ⟨_, R, fun _ _ _ _ h => h⟩, trivial⟩
def y2d (p0 : List Int) (p1 : List Int) (st5 : Int) : Option (Int ⊕ (Unit ⊕ Unit)) :=
 if decide (st5 < (p0.length : Int)) then
  (idx p0 st5).bind fun x10 =>
  (idx p1 st5).bind fun x11 =>
  if (x10 != x11) then
   some (.inr (.inr (())))
  else
   some (.inl (W (st5 + 1)))
 else
  some (.inr (.inl ()))
def y2k (p0 : List Int) (p1 : List Int) : Option Bool :=
 if ((p0.length : Int) != (p1.length : Int)) then
  some false
 else
  (iter (y2d p0 p1) 0).bind fun o5 =>
  match o5 with
  | .inl u6 =>
   some true
  | .inr (u8) =>
   some false
theorem y4J {p0 : List Int} {p1 : List Int} {r : Bool} (hm : y2k p0 p1 = some r) :
  Fw Tryz.prog 74 ⟨0, []⟩ [.f qI p0, .f qI p1] [] (.b r) [] := by
 unfold y2k at hm
 refine Fw.mk' Tryz.func74 R Tryz.ntmps74 R R (fun C => ?_) R R
 refine .seq (.reg (.sa R (.nil (.seqN (.seq (.seq (.reg (.mv R (.op (O.len sl22 Z R R) R (.mv R (.op (O.len sl22 Z R R) R (.bi R (.nil (.seqN ?_))))))))))))))
 rcases ifS hm with ⟨hc, hm⟩ | ⟨hc, hm⟩
 ·refine .cT R hc ?_
  refine .seq (.reg (.sa R (.nil (.seqN (.ret (.seqR ?_))))))
  obtain rfl := oi hm
  exact WX.rt [] (.inl R) Tryz.results74 (.tmp R .nil) R (fun _ _ _ h => h) trivial
 ·refine .cF R hc ?_
  refine .skip (.seqN (.seq (.seq (.reg (.mv R (.op (O.len sl22 Z R R) R (.mv R (.nil (.seqN (.block (bS hm fun o5 eo5 hm => ?_)))))))))))
  refine .cutU (z := .exit 0) (fun u6 => .inl u6 = o5) (fun (u6 : Unit) => ⟨[], [], 0⟩) ?_ fun K7 => ?_
  ·rintro u6 rfl
   dsimp only at hm
   refine .blkE (.seqN (.seq (.reg (.sa R (.nil (.seqN (.ret ?_)))))))
   obtain rfl := oi hm
   exact WX.rt [] (.inl R) Tryz.results74 (.tmp R .nil) R (fun _ _ _ h => h) trivial
  refine .cutU (z := .ret) (fun u8 => .inr (u8) = o5) (fun (u8 : Unit) => ⟨[(4, .b false)], [], 0⟩) ?_ fun K9 => ?_
  ·rintro u8 rfl
   dsimp only at hm
   refine .blkR (.seqR ?_)
   obtain rfl := oi hm
   exact WX.rt [] (.inl R) Tryz.results74 (.tmp R .nil) R (fun _ _ _ h => h) trivial
  refine .iter (fun (st5 : Int) => ⟨[(13, .i st5), (12, .i (p0.length : Int)), (0, .f qI p0), (1, .f qI p1)], [], 0⟩) eo5 [] R ?_
  intro st5 res5 hm ih5 ho5
  unfold y2d at hm
  refine .seq (.reg (.bi R (.nil (.seqN (.seq ?_)))))
  rcases ifS hm with ⟨hc, hm⟩ | ⟨hc, hm⟩
  ·refine .cT R hc ?_
   refine .skip (.seqN (.seq (.block (.seq (.reg (.mv R (.sa R (.nil (.seqN (.seq ?_))))))))))
   refine .sub (τ := ⟨[(5, .i st5), (13, .i st5), (12, .i (p0.length : Int)), (0, .f qI p0), (1, .f qI p1)], [], 0⟩) ?_ [] R
   refine bS hm fun x10 ex10 hm => bS hm fun x11 ex11 hm => ?_
   refine .drw [(0, []), (0, []), (0, [oT, oT]), (0, [oT, oT, oT]), (0, []), (0, []), (0, [oF, oF, oF, oF, oT, oT]), (0, [oF, oF, oF, oF, oT, oT, oT]), (0, [oT, oT, oT, oT, oT, oT, oT, oT])] [_, _, _, _, _, _, _, _, _] ⟨[(24, .b (x10 != x11)), (13, .i st5), (12, .i (p0.length : Int)), (0, .f qI p0), (1, .f qI p1)], [], 0⟩ ⟨O.mv Z R R, O.mv Z R R, O.ix sl22 Z R R ex10 R, O.ld nag3 Z R (.E lv3) R R, O.mv Z R R, O.mv Z R R, O.ix sl22 Z R R ex11 R, O.ld nag3 Z R (.E lv3) R R, O.bi Z R R R R, trivial⟩ (by kernel_rfl) R ?_
   refine .seqN ?_
   rcases ifS hm with ⟨hc, hm⟩ | ⟨hc, hm⟩
   ·refine .cT R hc ?_
    exact .seq (.reg (.sa R (.nil (.seqN (.ret (.blkR (.seqR (.seqR ((K9 _ (ho5 _ (oi hm).symm)).sub [] R)))))))))
   ·refine .cF R hc ?_
    exact .skip (.blkN (.seqN (.reg (.bi R (.mv R (.nil ((ih5 _ (oi hm).symm).sub [] R)))))))
  ·refine .cF R hc ?_
   exact .exit (.seqX (.seqX ((K7 _ (ho5 _ (oi hm).symm)).sub [] R)))
def y3E (p0 : List Int) (p1 : List Int) : Option Bool :=
 (y2k p0 p1).bind fun r1 =>
 some r1
theorem y5b {p0 : List Int} {p1 : List Int} {r : Bool} (hm : y3E p0 p1 = some r) :
  Fw Tryz.prog 33 ⟨0, []⟩ [.f qI p0, .f qI p1] [] (.b r) [] := by
 unfold y3E at hm
 refine Fw.mk' Tryz.func33 R Tryz.ntmps33 R R (fun C => ?_) R R
 refine .seq (.reg (.sa R (.nil (.seqN (.seq (.reg (.mv R (.mv R (bS hm fun r1 er1 hm => .op (O.ca0 (y4J er1) cf74 R R Z R R R) R (.sa R (.nil (.seqN (.ret ?_)))))))))))))
 obtain rfl := oi hm
 exact WX.rt [] (.inl R) Tryz.results33 (.tmp R .nil) R (fun _ _ _ h => h) trivial
def y2Q : Option Bool :=
 (y4I).bind fun r1 =>
 (y6k r1 2).bind fun r2 =>
 (y2t ((([3, 4, 5] : List Int), 2, ([0] : List Int), ([(0, 3, 0), (0, 4, 1), (1, 5, 0)] : List (Int × Int × Int))), (([3] : List Int), 1, ([0] : List Int), ([(0, 3, 0)] : List (Int × Int × Int))), ([] : List Int)) ([4, 3] : List Int)).bind fun r3 =>
 (y2t ((([3, 4, 5] : List Int), 2, ([0] : List Int), ([(0, 3, 0), (0, 4, 1), (1, 5, 0)] : List (Int × Int × Int))), (([3] : List Int), 1, ([0] : List Int), ([(0, 3, 0)] : List (Int × Int × Int))), ([] : List Int)) ([4, 5, 3] : List Int)).bind fun r4 =>
 (if ((((r2.2.2 == 0) && (!r2.2.1)) && (r2.1.1 == 1)) && ((r2.1.2.1.length : Int) == 0)) then
  (y3E r2.1.2.2 ([1, 0] : List Int)).bind fun r30 =>
  some r30
 else
  some false).bind fun b11 =>
 (if ((((b11 && ((r2.1.2.2.length : Int) == 2)) && (r3.2.2 == 0)) && (!r3.2.1)) && (r3.1.1 == 3)) then
  (y3E r3.1.2.1 ([4] : List Int)).bind fun r29 =>
  some r29
 else
  some false).bind fun b22 =>
 some ((b22 && (r4.2.2 == 0)) && r4.2.1)
theorem y5d {r : Bool} (hm : y2Q = some r) :
  Fw Tryz.prog 11 ⟨0, []⟩ [] [] (.b r) [] := by
 unfold y2Q at hm
 refine Fw.mk' Tryz.func11 R Tryz.ntmps11 R R (fun C => ?_) R R
 refine .seq (.reg (.sa R (.nil (.seqN (.seq (.reg (bS hm fun r1 er1 hm => .op (O.ca0 (y7f er1) cf50 R R Z R R R) R (bS hm fun r2 er2 hm => .op (O.ca (r' := .tp [.a [lI r2.1.1, lH 0, lF qI r2.1.2.2], .b r2.2.1, .i r2.2.2]) [0] [(0, ROW qI 3 r2.1.2.1)] (some 1) (y9y er2) cf16 R R Z R R R R ⟨⟨_, R, fun _ _ _ _ h => h⟩, trivial⟩ (fun _ _ _ h => h) R) R (.mv R (.op (O.ex Z R R R) R (.op (O.ex Z R R R) R (.op (O.ex Z R R R) R (.op (O.al 1 R zz38 R Z R) R (.op (O.st ag38.sz Z R R R R R) R (.sa R (.sa R (.nil (.seqN (.seq (.reg (.op (O.bsF (r := qI) (zs := ([3, 4, 5] : List Int)) bs22 R R Z R R R (.c .k (.c .k (.c .k .n))) R R R) R (.op (O.bsF (r := qI) (zs := ([0] : List Int)) bs22 R R Z R R R (.c .k .n) R R R) R (.op (O.bu (l := [lI 0, lI 3, lI 0]) pl97 R Z R R R) R (.op (O.bu (l := [lI 0, lI 4, lI 1]) pl97 R Z R R R) R (.op (O.bu (l := [lI 1, lI 5, lI 0]) pl97 R Z R R R) R (.op (O.bsF (r := qT) (zs := ([(0, 3, 0), (0, 4, 1), (1, 5, 0)] : List (Int × Int × Int))) bs23 R R Z R R R (.c (.p .k (.p .k .k)) (.c (.p .k (.p .k .k)) (.c (.p .k (.p .k .k)) .n))) R R R) R (.op (O.bu (l := [lF qI ([3, 4, 5] : List Int), lI 2, lF qI ([0] : List Int), lF qT ([(0, 3, 0), (0, 4, 1), (1, 5, 0)] : List (Int × Int × Int))]) pl25 R Z R R R) R (.op (O.al 2 R zz25 R Z R) R (.op (O.st ag25.sz Z R R R R R) R (.nil (.seqN (.seq (.reg (.op (O.bsF (r := qI) (zs := ([3] : List Int)) bs22 R R Z R R R (.c .k .n) R R R) R (.op (O.bsF (r := qI) (zs := ([0] : List Int)) bs22 R R Z R R R (.c .k .n) R R R) R (.op (O.bu (l := [lI 0, lI 3, lI 0]) pl97 R Z R R R) R (.op (O.bsF (r := qT) (zs := ([(0, 3, 0)] : List (Int × Int × Int))) bs23 R R Z R R R (.c (.p .k (.p .k .k)) .n) R R R) R ?_)))))))))))))))))))))))))))))))))))))
 refine .op (O.bu (l := [lF qI ([3] : List Int), lI 1, lF qI ([0] : List Int), lF qT ([(0, 3, 0)] : List (Int × Int × Int))]) pl25 R Z R R R) R (.op (O.al 3 R zz25 R Z R) R (.op (O.st ag25.sz Z R R R R R) R (.nil (.seqN (.seq (.reg (.op (O.lg (l' := [lF qI ([3, 4, 5] : List Int), lI 2, lF qI ([0] : List Int), lF qT ([(0, 3, 0), (0, 4, 1), (1, 5, 0)] : List (Int × Int × Int))]) ag25 Z R (.B R) R R R) R (.op (O.lg (l' := [lF qI ([3] : List Int), lI 1, lF qI ([0] : List Int), lF qT ([(0, 3, 0)] : List (Int × Int × Int))]) ag25 Z R (.B R) R R R) R (.op (O.bu (l := [lF qI ([3, 4, 5] : List Int), lI 2, lF qI ([0] : List Int), lF qT ([(0, 3, 0), (0, 4, 1), (1, 5, 0)] : List (Int × Int × Int)), lF qI ([3] : List Int), lI 1, lF qI ([0] : List Int), lF qT ([(0, 3, 0)] : List (Int × Int × Int)), lN]) pl27 R Z R R R) R (.op (O.al 4 R zz27 R Z R) R (.op (O.st ag27.sz Z R R R R R) R (.nil (.seqN (.seq (.reg (.op (O.lg (l' := [lF qI ([3, 4, 5] : List Int), lI 2, lF qI ([0] : List Int), lF qT ([(0, 3, 0), (0, 4, 1), (1, 5, 0)] : List (Int × Int × Int)), lF qI ([3] : List Int), lI 1, lF qI ([0] : List Int), lF qT ([(0, 3, 0)] : List (Int × Int × Int)), lN]) ag27 Z R (.B R) R R R) R (.op (O.bsF (r := qI) (zs := ([4, 3] : List Int)) bs22 R R Z R R R (.c .k (.c .k .n)) R R R) R (bS hm fun r3 er3 hm => .op (O.cac (r' := .tp [.a [lI r3.1.1, lH 5, lH 6], .b r3.2.1, .i r3.2.2]) [5, 6] [(0, ROW qI 3 r3.1.2.1), (1, ROW qI 3 r3.1.2.2)] (some 7) (y5t er3) cf18 R R Z R R ⟨⟨R, (.c .rf (.c .rf (.c .rf (.c .rf (.c .rf (.c .rf (.c .rf (.c .rf (.c (.nf (r := qI)) .n)))))))))⟩, ⟨R, .rf⟩, trivial⟩ R ⟨⟨_, R, fun _ _ _ _ h => h⟩, ⟨_, R, fun _ _ _ _ h => h⟩, trivial⟩ (fun _ _ _ h => h) R) R (.mv R (.op (O.ex Z R R R) R (.op (O.ex Z R R R) R (.op (O.ex Z R R R) R (.op (O.al 7 R zz38 R Z R) R (.op (O.st ag38.sz Z R R R R R) R (.sa R (.sa R (.nil (.seqN (.seq (.reg (.op (O.lg (l' := [lF qI ([3, 4, 5] : List Int), lI 2, lF qI ([0] : List Int), lF qT ([(0, 3, 0), (0, 4, 1), (1, 5, 0)] : List (Int × Int × Int)), lF qI ([3] : List Int), lI 1, lF qI ([0] : List Int), lF qT ([(0, 3, 0)] : List (Int × Int × Int)), lN]) ag27 Z R (.B R) R R R) R (.op (O.bsF (r := qI) (zs := ([4, 5, 3] : List Int)) bs22 R R Z R R R (.c .k (.c .k (.c .k .n))) R R R) R (bS hm fun r4 er4 hm => .op (O.cac (r' := .tp [.a [lI r4.1.1, lH 8, lH 9], .b r4.2.1, .i r4.2.2]) [8, 9] [(0, ROW qI 3 r4.1.2.1), (1, ROW qI 3 r4.1.2.2)] (some 10) (y5t er4) cf18 R R Z R R ⟨⟨R, (.c .rf (.c .rf (.c .rf (.c .rf (.c .rf (.c .rf (.c .rf (.c .rf (.c (.nf (r := qI)) .n)))))))))⟩, ⟨R, .rf⟩, trivial⟩ R ⟨⟨_, R, fun _ _ _ _ h => h⟩, ⟨_, R, fun _ _ _ _ h => h⟩, trivial⟩ (fun _ _ _ h => h) R) R (.mv R (.op (O.ex Z R R R) R (.op (O.ex Z R R R) R (.op (O.ex Z R R R) R ?_)))))))))))))))))))))))))))))))))))))
 refine .op (O.al 10 R zz38 R Z R) R (.op (O.st ag38.sz Z R R R R R) R (.sa R (.sa R (.nil (.seqN (.seq (.reg (.mv R (.bi R (.mv R ?_))))))))))
 refine .cut 3 (fun (v5 : Bool) => ((r2.2.2 == 0) && (!r2.2.1)) = v5) (fun v5 => ⟨[(53, .b v5), (12, .i r4.2.2), (11, .b r4.2.1), (9, .i r3.2.2), (8, .b r3.2.1), (7, .q 7 0), (1, .q 1 0)], [(7, .bx 38 [lI r3.1.1, lH 5, lH 6]), (5, ROW qI 3 r3.1.2.1), (6, ROW qI 3 r3.1.2.2), (1, .bx 38 [lI r2.1.1, lH 0, lF qI r2.1.2.2]), (0, ROW qI 3 r2.1.2.1)], 11⟩) ?_ ?_
 ·rintro _ rfl
  refine .mv R ?_
  refine .cut 4 (fun (v7 : Bool) => (((r2.2.2 == 0) && (!r2.2.1)) && (r2.1.1 == 1)) = v7) (fun v7 => ⟨[(58, .b v7), (12, .i r4.2.2), (11, .b r4.2.1), (9, .i r3.2.2), (8, .b r3.2.1), (7, .q 7 0), (1, .q 1 0)], [(7, .bx 38 [lI r3.1.1, lH 5, lH 6]), (5, ROW qI 3 r3.1.2.1), (6, ROW qI 3 r3.1.2.2), (1, .bx 38 [lI r2.1.1, lH 0, lF qI r2.1.2.2]), (0, ROW qI 3 r2.1.2.1)], 11⟩) ?_ ?_
  ·rintro _ rfl
   refine .mv R ?_
   refine .cut 5 (fun (v9 : Bool) => ((((r2.2.2 == 0) && (!r2.2.1)) && (r2.1.1 == 1)) && ((r2.1.2.1.length : Int) == 0)) = v9) (fun v9 => ⟨[(64, .b v9), (12, .i r4.2.2), (11, .b r4.2.1), (9, .i r3.2.2), (8, .b r3.2.1), (7, .q 7 0), (1, .q 1 0)], [(7, .bx 38 [lI r3.1.1, lH 5, lH 6]), (5, ROW qI 3 r3.1.2.1), (6, ROW qI 3 r3.1.2.2), (1, .bx 38 [lI r2.1.1, lH 0, lF qI r2.1.2.2]), (0, ROW qI 3 r2.1.2.1)], 11⟩) ?_ ?_
   ·rintro _ rfl
    refine .mv R (bS hm fun b11 eb11 hm => ?_)
    refine .cut 5 (fun (v12 : Bool) => b11 = v12) (fun v12 => ⟨[(70, .b v12), (12, .i r4.2.2), (11, .b r4.2.1), (9, .i r3.2.2), (8, .b r3.2.1), (7, .q 7 0), (1, .q 1 0)], [(7, .bx 38 [lI r3.1.1, lH 5, lH 6]), (5, ROW qI 3 r3.1.2.1), (6, ROW qI 3 r3.1.2.2), (1, .bx 38 [lI r2.1.1, lH 0, lF qI r2.1.2.2]), (0, ROW qI 3 r2.1.2.1)], 11⟩) ?_ ?_
    ·rintro _ rfl
     refine .mv R ?_
     refine .cut 5 (fun (v14 : Bool) => (b11 && ((r2.1.2.2.length : Int) == 2)) = v14) (fun v14 => ⟨[(76, .b v14), (12, .i r4.2.2), (11, .b r4.2.1), (9, .i r3.2.2), (8, .b r3.2.1), (7, .q 7 0)], [(7, .bx 38 [lI r3.1.1, lH 5, lH 6]), (5, ROW qI 3 r3.1.2.1), (6, ROW qI 3 r3.1.2.2)], 11⟩) ?_ ?_
     ·rintro _ rfl
      refine .mv R ?_
      refine .cut 3 (fun (v16 : Bool) => ((b11 && ((r2.1.2.2.length : Int) == 2)) && (r3.2.2 == 0)) = v16) (fun v16 => ⟨[(80, .b v16), (12, .i r4.2.2), (11, .b r4.2.1), (8, .b r3.2.1), (7, .q 7 0)], [(7, .bx 38 [lI r3.1.1, lH 5, lH 6]), (5, ROW qI 3 r3.1.2.1), (6, ROW qI 3 r3.1.2.2)], 11⟩) ?_ ?_
      ·rintro _ rfl
       refine .mv R ?_
       refine .cut 3 (fun (v18 : Bool) => (((b11 && ((r2.1.2.2.length : Int) == 2)) && (r3.2.2 == 0)) && (!r3.2.1)) = v18) (fun v18 => ⟨[(84, .b v18), (12, .i r4.2.2), (11, .b r4.2.1), (7, .q 7 0)], [(7, .bx 38 [lI r3.1.1, lH 5, lH 6]), (5, ROW qI 3 r3.1.2.1), (6, ROW qI 3 r3.1.2.2)], 11⟩) ?_ ?_
       ·rintro _ rfl
        refine .mv R ?_
        refine .cut 4 (fun (v20 : Bool) => ((((b11 && ((r2.1.2.2.length : Int) == 2)) && (r3.2.2 == 0)) && (!r3.2.1)) && (r3.1.1 == 3)) = v20) (fun v20 => ⟨[(89, .b v20), (12, .i r4.2.2), (11, .b r4.2.1), (7, .q 7 0)], [(7, .bx 38 [lI r3.1.1, lH 5, lH 6]), (5, ROW qI 3 r3.1.2.1), (6, ROW qI 3 r3.1.2.2)], 11⟩) ?_ ?_
        ·rintro _ rfl
         refine .mv R (bS hm fun b22 eb22 hm => ?_)
         refine .cut 5 (fun (v23 : Bool) => b22 = v23) (fun v23 => ⟨[(95, .b v23), (12, .i r4.2.2), (11, .b r4.2.1)], [], 11⟩) ?_ ?_
         ·rintro _ rfl
          refine .mv R ?_
          refine .cut 3 (fun (v25 : Bool) => (b22 && (r4.2.2 == 0)) = v25) (fun v25 => ⟨[(99, .b v25), (11, .b r4.2.1)], [], 11⟩) ?_ ?_
          ·rintro _ rfl
           refine .mv R ?_
           refine .cut 2 (fun (v27 : Bool) => ((b22 && (r4.2.2 == 0)) && r4.2.1) = v27) (fun v27 => ⟨[(102, .b v27)], [], 11⟩) ?_ ?_
           ·rintro _ rfl
            refine .sa R (.nil (.seqN (.ret ?_)))
            obtain rfl := oi hm
            exact WX.rt [] (.inl R) Tryz.results11 (.tmp R .nil) R (fun _ _ _ h => h) trivial
           ·intro J28
            rcases Bool.eq_false_or_eq_true (b22 && (r4.2.2 == 0)) with hc | hc
            ·refine .know (d := 100) R hc ?_
             exact .op (O.mv (Gu.mk R R) R R) R (.op (O.pkT Z R R R R) R ((J28 r4.2.1 (andT hc).symm).sub [] R))
            ·refine .know (d := 100) R hc ?_
             exact .sk R (.op (O.pkF Z R R R R) R ((J28 false (andF hc).symm).sub [] R))
          ·intro J26
           rcases Bool.eq_false_or_eq_true b22 with hc | hc
           ·refine .know (d := 96) R hc ?_
            exact .op (O.mv (Gu.mk R R) R R) R (.op (O.bi (Gu.mk R R) R R R R) R (.op (O.pkT Z R R R R) R ((J26 (r4.2.2 == 0) (andT hc).symm).sub [] R)))
           ·refine .know (d := 96) R hc ?_
            exact .sk R (.sk R (.op (O.pkF Z R R R R) R ((J26 false (andF hc).symm).sub [] R)))
         ·intro J24
          rcases ifS eb22 with ⟨hc, hm⟩ | ⟨hc, hm⟩
          ·refine .know (d := 90) R hc ?_
           exact .op (O.faP y9w (Gu.mk R R) R R) R (.op (O.ld nag22 (Gu.mk R R) R (.B R) R R) R (.op (O.bsF (r := qI) (zs := ([4] : List Int)) bs22 R R (Gu.mk R R) R R R (.c .k .n) R R R) R (bS hm fun r29 er29 hm => .op (O.caZ (y5b er29) cf33 R R (Gu.mk R R) R ⟨⟨R, .hr R, trivial⟩, ⟨R, LnL.rf⟩, trivial⟩ (fun _ _ _ _ _ h => h) R) R (.op (O.pkT Z R R R R) R ((J24 r29 (oi hm).symm).sub [] R)))))
          ·refine .know (d := 90) R hc ?_
           exact .sk R (.sk R (.sk R (.sk R (.op (O.pkF Z R R R R) R ((J24 false (oi hm).symm).sub [] R)))))
        ·intro J21
         rcases Bool.eq_false_or_eq_true (((b11 && ((r2.1.2.2.length : Int) == 2)) && (r3.2.2 == 0)) && (!r3.2.1)) with hc | hc
         ·refine .know (d := 85) R hc ?_
          exact .op (O.faP y9v (Gu.mk R R) R R) R (.op (O.ld nag3 (Gu.mk R R) R (.B R) R R) R (.op (O.bi (Gu.mk R R) R R R R) R (.op (O.pkT Z R R R R) R ((J21 (r3.1.1 == 3) (andT hc).symm).sub [] R))))
         ·refine .know (d := 85) R hc ?_
          exact .sk R (.sk R (.sk R (.op (O.pkF Z R R R R) R ((J21 false (andF hc).symm).sub [] R))))
       ·intro J19
        rcases Bool.eq_false_or_eq_true ((b11 && ((r2.1.2.2.length : Int) == 2)) && (r3.2.2 == 0)) with hc | hc
        ·refine .know (d := 81) R hc ?_
         exact .op (O.mv (Gu.mk R R) R R) R (.op (O.not (Gu.mk R R) R R) R (.op (O.pkT Z R R R R) R ((J19 (!r3.2.1) (andT hc).symm).sub [] R)))
        ·refine .know (d := 81) R hc ?_
         exact .sk R (.sk R (.op (O.pkF Z R R R R) R ((J19 false (andF hc).symm).sub [] R)))
      ·intro J17
       rcases Bool.eq_false_or_eq_true (b11 && ((r2.1.2.2.length : Int) == 2)) with hc | hc
       ·refine .know (d := 77) R hc ?_
        exact .op (O.mv (Gu.mk R R) R R) R (.op (O.bi (Gu.mk R R) R R R R) R (.op (O.pkT Z R R R R) R ((J17 (r3.2.2 == 0) (andT hc).symm).sub [] R)))
       ·refine .know (d := 77) R hc ?_
        exact .sk R (.sk R (.op (O.pkF Z R R R R) R ((J17 false (andF hc).symm).sub [] R)))
     ·intro J15
      rcases Bool.eq_false_or_eq_true b11 with hc | hc
      ·refine .know (d := 71) R hc ?_
       exact .op (O.faP y9x (Gu.mk R R) R R) R (.op (O.ld nag22 (Gu.mk R R) R (.B R) R R) R (.op (O.len sl22 (Gu.mk R R) R R) R (.op (O.bi (Gu.mk R R) R R R R) R (.op (O.pkT Z R R R R) R ((J15 ((r2.1.2.2.length : Int) == 2) (andT hc).symm).sub [] R)))))
      ·refine .know (d := 71) R hc ?_
       exact .sk R (.sk R (.sk R (.sk R (.op (O.pkF Z R R R R) R ((J15 false (andF hc).symm).sub [] R)))))
    ·intro J13
     rcases ifS eb11 with ⟨hc, hm⟩ | ⟨hc, hm⟩
     ·refine .know (d := 65) R hc ?_
      exact .op (O.faP y9x (Gu.mk R R) R R) R (.op (O.ld nag22 (Gu.mk R R) R (.B R) R R) R (.op (O.bsF (r := qI) (zs := ([1, 0] : List Int)) bs22 R R (Gu.mk R R) R R R (.c .k (.c .k .n)) R R R) R (bS hm fun r30 er30 hm => .op (O.ca0 (y5b er30) cf33 R R (Gu.mk R R) R R R) R (.op (O.pkT Z R R R R) R ((J13 r30 (oi hm).symm).sub [] R)))))
     ·refine .know (d := 65) R hc ?_
      exact .sk R (.sk R (.sk R (.sk R (.op (O.pkF Z R R R R) R ((J13 false (oi hm).symm).sub [] R)))))
   ·intro J10
    rcases Bool.eq_false_or_eq_true (((r2.2.2 == 0) && (!r2.2.1)) && (r2.1.1 == 1)) with hc | hc
    ·refine .know (d := 59) R hc ?_
     exact .op (O.faP y9w (Gu.mk R R) R R) R (.op (O.ld nag22 (Gu.mk R R) R (.B R) R R) R (.op (O.lenH sl22 (Gu.mk R R) R R R) R (.op (O.bi (Gu.mk R R) R R R R) R (.op (O.pkT Z R R R R) R ((J10 ((r2.1.2.1.length : Int) == 0) (andT hc).symm).sub [] R)))))
    ·refine .know (d := 59) R hc ?_
     exact .sk R (.sk R (.sk R (.sk R (.op (O.pkF Z R R R R) R ((J10 false (andF hc).symm).sub [] R)))))
  ·intro J8
   rcases Bool.eq_false_or_eq_true ((r2.2.2 == 0) && (!r2.2.1)) with hc | hc
   ·refine .know (d := 54) R hc ?_
    exact .op (O.faP y9v (Gu.mk R R) R R) R (.op (O.ld nag3 (Gu.mk R R) R (.B R) R R) R (.op (O.bi (Gu.mk R R) R R R R) R (.op (O.pkT Z R R R R) R ((J8 (r2.1.1 == 1) (andT hc).symm).sub [] R))))
   ·refine .know (d := 54) R hc ?_
    exact .sk R (.sk R (.sk R (.op (O.pkF Z R R R R) R ((J8 false (andF hc).symm).sub [] R))))
 ·intro J6
  rcases Bool.eq_false_or_eq_true (r2.2.2 == 0) with hc | hc
  ·refine .know (d := 50) R hc ?_
   exact .op (O.mv (Gu.mk R R) R R) R (.op (O.not (Gu.mk R R) R R) R (.op (O.pkT Z R R R R) R ((J6 (!r2.2.1) (andT hc).symm).sub [] R)))
  ·refine .know (d := 50) R hc ?_
   exact .sk R (.sk R (.op (O.pkF Z R R R R) R ((J6 false (andF hc).symm).sub [] R)))
def y3V (p0 : AutT × AutT × List Int) (p1 : List Int) : Option (AutT × Int) :=
 (y4g p0 p1).bind fun r1 =>
 if (r1.2 != 0) then
  some ((([] : List Int), 0, ([] : List Int), ([] : List (Int × Int × Int))), r1.2)
 else
  r1.1.bind fun x2 =>
  (y1R x2 p1).bind fun r3 =>
  some (r3.1, 0)
theorem y8q {p0 : AutT × AutT × List Int} {p1 : List Int} {r : AutT × Int} (hm : y3V p0 p1 = some r) :
  Fw Tryz.prog 19 ⟨0, []⟩ [.a [lF qI p0.1.1, lI p0.1.2.1, lF qI p0.1.2.2.1, lF qT p0.1.2.2.2, lF qI p0.2.1.1, lI p0.2.1.2.1, lF qI p0.2.1.2.2.1, lF qT p0.2.1.2.2.2, lF qI p0.2.2], .f qI p1] [] (.tp [.a [lF qI r.1.1, lI r.1.2.1, lF qI r.1.2.2.1, lF qT r.1.2.2.2], .i r.2]) [] := by
 unfold y3V at hm
 refine Fw.mk' Tryz.func19 R Tryz.ntmps19 R R (fun C => ?_) R R
 refine .seq (.reg (.op (O.box 0 R Z R R R) R (.op (O.al 1 R zz25 R Z R) R (.sa R (.nil (.seqN (.seq (.reg (.op (O.lg (l' := [lF qI p0.1.1, lI p0.1.2.1, lF qI p0.1.2.2.1, lF qT p0.1.2.2.2, lF qI p0.2.1.1, lI p0.2.1.2.1, lF qI p0.2.1.2.2.1, lF qT p0.2.1.2.2.2, lF qI p0.2.2]) ag27 Z R (.B R) R R R) R (.mv R (bS hm fun r1 er1 hm => .op (O.ca0 (y6l er1) cf61 R R Z R R R) R (.mv R (.op (O.ex Z R R R) R (.op (O.ex Z R R R) R (.sa R (.sa R (.nil (.seqN (.seq (.seq (.reg (.mv R (.bi R (.nil (.seqN ?_)))))))))))))))))))))))))
 rcases ifS hm with ⟨hc, hm⟩ | ⟨hc, hm⟩
 ·refine .cT R hc ?_
  refine .seq (.reg (.op (O.bu (l := [lN, lI 0, lN, lN]) pl25 R Z R R R) R (.mv R (.op (O.st ag25.sz Z R R R R R) R (.sa R (.nil (.seqN (.ret (.seqR (.cno 1 R (.c (.nf (r := qI)) (.c .rf (.c (.nf (r := qI)) (.c (.nf (r := qT)) .n)))) R ?_))))))))))
  obtain rfl := oi hm
  exact WX.rt [] (.inl R) Tryz.results19 (.cell R R ag25 R (.tmp R .nil)) R (fun _ _ _ h => h) trivial
 ·refine .cF R hc ?_
  refine .skip (.seqN (.seq (.reg (.mv R (.mv R (bS hm fun x2 ex2 hm => .cnt 18 R (.c (.pd ex2 lv110) .n) R (.cnt 6 R (.c (.pd ex2 lv110) .n) R (.cnt 12 R (.c (.pd ex2 lv110) .n) R (bS hm fun r3 er3 hm => .op (O.ca0 (y4V er3) cf62 R R Z R R R) R (.op (O.flg (l' := [lF qI r3.1.1, lI r3.1.2.1, lF qI r3.1.2.2.1, lF qT r3.1.2.2.2]) Tryz.underlying108 R R ag25 Z R R R) R (.op (O.st ag25.sz Z R R R R R) R (.sa R (.nil (.seqN (.ret ?_)))))))))))))))
  obtain rfl := oi hm
  exact WX.rt [] (.inl R) Tryz.results19 (.cell R R ag25 R (.tmp R .nil)) R (fun _ _ _ h => h) trivial
def y2R (p0 : AutT × (List KeyT)) (p1 : List Int) (st7 : Int × Int) : Option ((Int × Int) ⊕ (Int ⊕ Unit)) :=
 if decide (st7.1 < (p1.length : Int)) then
  (idx p1 st7.1).bind fun x13 =>
  (y1X p0 st7.2 x13).bind fun r14 =>
  if (r14 == (-1)) then
   some (.inr (.inr (())))
  else
   some (.inl (W (st7.1 + 1), r14))
 else
  some (.inr (.inl st7.2))
def y3F (p0 : AutT × (List KeyT)) (p1 : List Int) : Option Int :=
 if (p0.1.2.1 == 0) then
  some (-1)
 else
  (iter (y2R p0 p1) (0, 0)).bind fun o7 =>
  match o7 with
  | .inl u9 =>
   some u9
  | .inr (u11) =>
   some (-1)
theorem y8a {p0 : AutT × (List KeyT)} {p1 : List Int} {r : Int} (hm : y3F p0 p1 = some r) :
  Fw Tryz.prog 65 ⟨0, []⟩ [.a [lF qI p0.1.1, lI p0.1.2.1, lF qI p0.1.2.2.1, lF qT p0.1.2.2.2, lM kvP qI p0.2], .f qI p1] [] (.i r) [] := by
 unfold y3F at hm
 refine Fw.mk' Tryz.func65 R Tryz.ntmps65 R R (fun C => ?_) R R
 refine .seq (.reg (.op (O.box 0 R Z R R R) R (.sa R (.nil (.seqN (.seq (.seq (.reg (.op (O.faP y4t Z R R) R (.op (O.faP yW Z R R) R (.op (O.ld nag3 Z R (.B R) R R) R (.bi R (.nil (.seqN ?_))))))))))))))
 rcases ifS hm with ⟨hc, hm⟩ | ⟨hc, hm⟩
 ·refine .cT R hc ?_
  refine .seq (.reg (.sa R (.nil (.seqN (.ret (.seqR ?_))))))
  obtain rfl := oi hm
  exact WX.rt [] (.inl R) Tryz.results65 (.tmp R .nil) R (fun _ _ _ h => h) trivial
 ·refine .cF R hc ?_
  refine .skip (.seqN (.seq (.reg (.sa R (.nil (.seqN (.seq (.seq (.reg (.mv R (.op (O.len sl22 Z R R) R (.mv R (.nil (.seqN (.block (bS hm fun o7 eo7 hm => ?_))))))))))))))))
  refine .cutU (z := .exit 0) (fun u9 => .inl u9 = o7) (fun (u9 : Int) => ⟨[(5, .i u9)], [], 0⟩) ?_ fun K10 => ?_
  ·rintro u9 rfl
   dsimp only at hm
   refine .blkE (.seqN (.seq (.reg (.mv R (.sa R (.nil (.seqN (.ret ?_))))))))
   obtain rfl := oi hm
   exact WX.rt [] (.inl R) Tryz.results65 (.tmp R .nil) R (fun _ _ _ h => h) trivial
  refine .cutU (z := .ret) (fun u11 => .inr (u11) = o7) (fun (u11 : Unit) => ⟨[(4, .i (-1))], [], 0⟩) ?_ fun K12 => ?_
  ·rintro u11 rfl
   dsimp only at hm
   refine .blkR (.seqR ?_)
   obtain rfl := oi hm
   exact WX.rt [] (.inl R) Tryz.results65 (.tmp R .nil) R (fun _ _ _ h => h) trivial
  refine .iter (fun (st7 : Int × Int) => ⟨[(14, .i st7.1), (13, .i (p1.length : Int)), (12, .f qI p1), (5, .i st7.2), (2, .q 0 0)], [(0, .bx 108 [lF qI p0.1.1, lI p0.1.2.1, lF qI p0.1.2.2.1, lF qT p0.1.2.2.2, lM kvP qI p0.2])], 1⟩) eo7 [] R ?_
  intro st7 res7 hm ih7 ho7
  unfold y2R at hm
  refine .seq (.reg (.bi R (.nil (.seqN (.seq ?_)))))
  rcases ifS hm with ⟨hc, hm⟩ | ⟨hc, hm⟩
  ·refine .cT R hc ?_
   refine .skip (.seqN (.seq (.block (.seq (.reg (bS hm fun x13 ex13 hm => .op (O.ix sl22 Z R R ex13 R) R (.op (O.ld nag3 Z R (.E lv3) R R) R (.sa R (.nil (.seqN (.seq (.reg (.op (O.lg (l' := [lF qI p0.1.1, lI p0.1.2.1, lF qI p0.1.2.2.1, lF qT p0.1.2.2.2, lM kvP qI p0.2]) ag108 Z R (.B R) R R R) R (.mv R (.mv R (bS hm fun r14 er14 hm => .op (O.ca0 (y3T er14) cf106 R R Z R R R) R (.sa R (.nil (.seqN (.seq (.reg (.mv R (.bi R (.nil (.seqN ?_)))))))))))))))))))))))))
   rcases ifS hm with ⟨hc, hm⟩ | ⟨hc, hm⟩
   ·refine .cT R hc ?_
    exact .seq (.reg (.sa R (.nil (.seqN (.ret (.blkR (.seqR (.seqR ((K12 _ (ho7 _ (oi hm).symm)).sub [] R)))))))))
   ·refine .cF R hc ?_
    exact .skip (.blkN (.seqN (.reg (.bi R (.mv R (.nil ((ih7 _ (oi hm).symm).sub [] R)))))))
  ·refine .cF R hc ?_
   exact .exit (.seqX (.seqX ((K10 _ (ho7 _ (oi hm).symm)).sub [] R)))
def y5r (p0 : AutT × AutT × List Int) (p1 : List Int) (p2 : List Int) : Option (Int × Bool × Int) :=
 (y4g p0 p1).bind fun r1 =>
 if (r1.2 != 0) then
  some (0, false, r1.2)
 else
  r1.1.bind fun x2 =>
  (y3F x2.2.2.1 p2).bind fun r3 =>
  if (r3 == (-1)) then
   some (0, false, 10)
  else
   (y2P x2 r3 p1).bind fun r4 =>
   if (r4 == (-1)) then
    some (0, false, 0)
   else
    some (r4, true, 0)
theorem y9z {p0 : AutT × AutT × List Int} {p1 : List Int} {p2 : List Int} {r : Int × Bool × Int} (hm : y5r p0 p1 p2 = some r) :
  Fw Tryz.prog 20 ⟨0, []⟩ [.a [lF qI p0.1.1, lI p0.1.2.1, lF qI p0.1.2.2.1, lF qT p0.1.2.2.2, lF qI p0.2.1.1, lI p0.2.1.2.1, lF qI p0.2.1.2.2.1, lF qT p0.2.1.2.2.2, lF qI p0.2.2], .f qI p1, .f qI p2] [] (.tp [.i r.1, .b r.2.1, .i r.2.2]) [] := by
 unfold y5r at hm
 refine Fw.mk' Tryz.func20 R Tryz.ntmps20 R R (fun C => ?_) R R
 refine .seq (.reg (.op (O.box 0 R Z R R R) R (.sa R (.sa R (.sa R (.nil (.seqN (.seq (.reg (.op (O.lg (l' := [lF qI p0.1.1, lI p0.1.2.1, lF qI p0.1.2.2.1, lF qT p0.1.2.2.2, lF qI p0.2.1.1, lI p0.2.1.2.1, lF qI p0.2.1.2.2.1, lF qT p0.2.1.2.2.2, lF qI p0.2.2]) ag27 Z R (.B R) R R R) R (.mv R (bS hm fun r1 er1 hm => .op (O.ca0 (y6l er1) cf61 R R Z R R R) R (.mv R (.op (O.ex Z R R R) R (.op (O.ex Z R R R) R (.sa R (.sa R (.nil (.seqN (.seq (.seq (.reg (.mv R (.bi R (.nil (.seqN ?_))))))))))))))))))))))))))
 rcases ifS hm with ⟨hc, hm⟩ | ⟨hc, hm⟩
 ·refine .cT R hc ?_
  refine .seq (.reg (.mv R (.sa R (.sa R (.sa R (.nil (.seqN (.ret (.seqR ?_)))))))))
  obtain rfl := oi hm
  exact WX.rt [] (.inl R) Tryz.results20 (.tmp R (.tmp R (.tmp R .nil))) R (fun _ _ _ h => h) trivial
 ·refine .cF R hc ?_
  refine .skip (.seqN (.seq (.reg (.mv R (bS hm fun x2 ex2 hm => .cnt 20 R (.c (.pd ex2 lv110) .n) R (.cnt 9 R (.c (.pd ex2 lv110) .n) R (.cnt 15 R (.c (.pd ex2 lv110) .n) R (.op (O.nc .Q Z R R) R (.op (O.faQ y5O Z R R) R (.op (O.lg (l' := [lF qI x2.2.2.1.1.1, lI x2.2.2.1.1.2.1, lF qI x2.2.2.1.1.2.2.1, lF qT x2.2.2.1.1.2.2.2, lM kvP qI x2.2.2.1.2]) ag108 Z R .Q R R R) R (.mv R (bS hm fun r3 er3 hm => .op (O.ca0 (y8a er3) cf65 R R Z R R R) R (.sa R (.nil (.seqN (.seq (.seq (.reg (.mv R (.bi R (.nil (.seqN ?_))))))))))))))))))))))
  rcases ifS hm with ⟨hc, hm⟩ | ⟨hc, hm⟩
  ·refine .cT R hc ?_
   refine .seq (.reg (.sa R (.sa R (.sa R (.nil (.seqN (.ret (.seqR ?_))))))))
   obtain rfl := oi hm
   exact WX.rt [] (.inl R) Tryz.results20 (.tmp R (.tmp R (.tmp R .nil))) R (fun _ _ _ h => h) trivial
  ·refine .cF R hc ?_
   refine .skip (.seqN (.seq (.seq (.reg (.mv R (.mv R (.mv R (bS hm fun r4 er4 hm => .op (O.ca0 (y5H er4) cf66 R R Z R R R) R (.sa R (.nil (.seqN (.seq (.reg (.mv R (.bi R (.nil (.seqN ?_)))))))))))))))))
   rcases ifS hm with ⟨hc, hm⟩ | ⟨hc, hm⟩
   ·refine .cT R hc ?_
    refine .seq (.reg (.sa R (.sa R (.sa R (.nil (.seqN (.ret (.seqR ?_))))))))
    obtain rfl := oi hm
    exact WX.rt [] (.inl R) Tryz.results20 (.tmp R (.tmp R (.tmp R .nil))) R (fun _ _ _ h => h) trivial
   ·refine .cF R hc ?_
    refine .skip (.seqN (.seq (.reg (.mv R (.sa R (.sa R (.sa R (.nil (.seqN (.ret ?_))))))))))
    obtain rfl := oi hm
    exact WX.rt [] (.inl R) Tryz.results20 (.tmp R (.tmp R (.tmp R .nil))) R (fun _ _ _ h => h) trivial
def y2u (p0 : Int × List Int × List Int) (p1 : Int × List Int × List Int) : Option Bool :=
 (if (p0.1 == p1.1) then
  (y3E p0.2.1 p1.2.1).bind fun r8 =>
  some r8
 else
  some false).bind fun b1 =>
 (if b1 then
  (y3E p0.2.2 p1.2.2).bind fun r7 =>
  some r7
 else
  some false).bind fun b4 =>
 some b4
theorem y5m {p0 : Int × List Int × List Int} {p1 : Int × List Int × List Int} {r : Bool} (hm : y2u p0 p1 = some r) :
  Fw Tryz.prog 48 ⟨0, []⟩ [.a [lI p0.1, lF qI p0.2.1, lF qI p0.2.2], .a [lI p1.1, lF qI p1.2.1, lF qI p1.2.2]] [] (.b r) [] := by
 unfold y2u at hm
 refine Fw.mk' Tryz.func48 R Tryz.ntmps48 R R (fun C => ?_) R R
 refine .seq (.reg (.op (O.box 0 R Z R R R) R (.op (O.box 1 R Z R R R) R (.sa R (.nil (.seqN (.seq (.reg (.op (O.faP y9v Z R R) R (.op (O.ld nag3 Z R (.B R) R R) R (.op (O.faP y9v Z R R) R (.op (O.ld nag3 Z R (.B R) R R) R (.bi R (.mv R (bS hm fun b1 eb1 hm => ?_)))))))))))))))
 refine .cut 6 (fun (v2 : Bool) => b1 = v2) (fun v2 => ⟨[(16, .b v2), (3, .q 1 0), (2, .q 0 0)], [(1, .bx 38 [lI p1.1, lF qI p1.2.1, lF qI p1.2.2]), (0, .bx 38 [lI p0.1, lF qI p0.2.1, lF qI p0.2.2])], 2⟩) ?_ ?_
 ·rintro _ rfl
  refine .mv R (bS hm fun b4 eb4 hm => ?_)
  refine .cut 6 (fun (v5 : Bool) => b4 = v5) (fun v5 => ⟨[(23, .b v5)], [], 2⟩) ?_ ?_
  ·rintro _ rfl
   refine .sa R (.nil (.seqN (.ret ?_)))
   obtain rfl := oi hm
   exact WX.rt [] (.inl R) Tryz.results48 (.tmp R .nil) R (fun _ _ _ h => h) trivial
  ·intro J6
   rcases ifS eb4 with ⟨hc, hm⟩ | ⟨hc, hm⟩
   ·refine .know (d := 17) R hc ?_
    exact .op (O.faP y9x (Gu.mk R R) R R) R (.op (O.ld nag22 (Gu.mk R R) R (.B R) R R) R (.op (O.faP y9x (Gu.mk R R) R R) R (.op (O.ld nag22 (Gu.mk R R) R (.B R) R R) R (bS hm fun r7 er7 hm => .op (O.ca0 (y5b er7) cf33 R R (Gu.mk R R) R R R) R (.op (O.pkT Z R R R R) R ((J6 r7 (oi hm).symm).sub [] R))))))
   ·refine .know (d := 17) R hc ?_
    exact .sk R (.sk R (.sk R (.sk R (.sk R (.op (O.pkF Z R R R R) R ((J6 false (oi hm).symm).sub [] R))))))
 ·intro J3
  rcases ifS eb1 with ⟨hc, hm⟩ | ⟨hc, hm⟩
  ·refine .know (d := 10) R hc ?_
   exact .op (O.faP y9w (Gu.mk R R) R R) R (.op (O.ld nag22 (Gu.mk R R) R (.B R) R R) R (.op (O.faP y9w (Gu.mk R R) R R) R (.op (O.ld nag22 (Gu.mk R R) R (.B R) R R) R (bS hm fun r8 er8 hm => .op (O.ca0 (y5b er8) cf33 R R (Gu.mk R R) R R R) R (.op (O.pkT Z R R R R) R ((J3 r8 (oi hm).symm).sub [] R))))))
  ·refine .know (d := 10) R hc ?_
   exact .sk R (.sk R (.sk R (.sk R (.sk R (.op (O.pkF Z R R R R) R ((J3 false (oi hm).symm).sub [] R))))))
def y4b (p0 : Int × List Int × List Int) : Option Bool :=
 (y2u p0 (0, ([] : List Int), ([] : List Int))).bind fun r1 =>
 some r1
theorem y7h {p0 : Int × List Int × List Int} {r : Bool} (hm : y4b p0 = some r) :
  Fw Tryz.prog 23 ⟨0, []⟩ [.a [lI p0.1, lF qI p0.2.1, lF qI p0.2.2]] [] (.b r) [] := by
 unfold y4b at hm
 refine Fw.mk' Tryz.func23 R Tryz.ntmps23 R R (fun C => ?_) R R
 refine .seq (.reg (.op (O.box 0 R Z R R R) R (.sa R (.nil (.seqN (.seq (.reg (.op (O.lg (l' := [lI p0.1, lF qI p0.2.1, lF qI p0.2.2]) ag38 Z R (.B R) R R R) R (.op (O.bu (l := [lI 0, lN, lN]) pl38 R Z R R R) R (bS hm fun r1 er1 hm => .op (O.ca0c (y5m er1) cf48 R R Z R ⟨⟨R, .rf⟩, ⟨R, (.c .rf (.c (.nf (r := qI)) (.c (.nf (r := qI)) .n)))⟩, trivial⟩ R R) R (.sa R (.nil (.seqN (.ret ?_))))))))))))))
 obtain rfl := oi hm
 exact WX.rt [] (.inl R) Tryz.results23 (.tmp R .nil) R (fun _ _ _ h => h) trivial
end
end Go.Proofs.YtidakgbibobbdaaGreatDoor
